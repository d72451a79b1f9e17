/- Parts of the proof. -/
import Derived.Test.YtlmmjgekolpekaaGreatDoorMPq11
import Derived.Deep.RegionWith
set_option linter.unusedVariables false
set_option linter.unusedSimpArgs false
set_option linter.unusedSectionVars false
set_option maxRecDepth 100000
set_option maxHeartbeats 6400000
namespace Go.Proofs.YtlmmjgekolpekaaGreatDoor
open Go Go.RowKit Hst Go.Proofs
section
variable {F:Fix} {V:Vol} {ow0 ow:Nat→Nat} {w0 w:World} {p:Wd}
theorem On.ringModK (h:On F V ow0 w0 ow w p) {q:Nat} (hq:q<p.P) (kk:Nat) {w':World} {r':Hst.Ring} (hr:RingAt (F.ring q) w' r') (hm:Mod (·=F.ring q) w w'):On F V ow0 w0 (grow ow w.heap.size kk) w' (p.setR q r'):=by
 obtain ⟨ha,hst⟩:=h
 obtain ⟨o1,o2,o3,o4,o5,o9,o10,oq⟩:=ha.own
 obtain ⟨l1,l2,l3,l4,l5⟩:=ha.lens
 have hs:∀ x,x<w.heap.size→x=F.ring q→ow x=100+q:=fun x _ e=>by rw [e];exact oq q hq
 have hd:=ha.dim
 unfold dims at hd
 refine ⟨ha.upd (·=100+q) ⟨rfl,rfl,rfl⟩ ⟨by simpa [Wd.setR] using l1,l2,l3,l4,l5⟩ (fun b hb=>grow_lt hb) (hm.agree hs)
  (.inl ⟨by omega,rfl⟩) (.inl ⟨by omega,rfl⟩) (.inl ⟨by omega,rfl⟩) (by omega) (fun k hk=>?_)
  (.inl ⟨by omega,rfl⟩) (.inl ⟨by omega,rfl⟩) (.inl ⟨by omega,rfl⟩) (.inl ⟨by omega,rfl⟩) (.inl ⟨by omega,rfl,rfl⟩) (fun j hj=>.inl ⟨by omega,rfl,rfl⟩) (.inl ⟨by omega,rfl⟩) (.inl ⟨by omega,rfl,rfl⟩),hst.trans (hm.stp hs (by omega) kk)⟩
 by_cases e:k=q
 ·subst e
  refine .inr ?_
  have e2:(p.setR k r').ring k=r':=by unfold Wd.setR Wd.ring;rw [zbw _ _ _ _ _ (by omega),if_pos rfl]
  rw [e2];exact hr
 ·refine .inl ⟨by omega,?_⟩
  unfold Wd.setR Wd.ring;rw [zbw _ _ _ _ _ (by omega),if_neg e]
end
theorem do_18 (N:Nat) (p:Wd) (i:Nat) (t:Int) (hi:i<p.M) (hpl:(p.mach i).place=18) (hbig:p.glob.length+(p.mach i).rest.length≤4294967296):DoOK N p i t (p.doIt i t).1 (p.doIt i t).2:=by
 intro F V ow w h E
 have e:p.doIt i t=(({ p with glob:=p.glob++(p.mach i).rest }:Wd).setM i { p.mach i with rest:=[] },false):=by
  unfold Wd.doIt;simp only [hpl]
 rw [e]
 have c13:=h.cW_all
 have c10:=h.cW_glob
 have c0:=h.cA_place hi
 have c9:=h.cA_rest hi
 have hM:=h.dim
 have hcap:=h.own_cap
 rw [hpl] at c0
 unfold dims at hM
 have hput:=gput_any _ F.glob p.P 0 p.glob (p.mach i).rest (V.rest i) w.drew (On.start h).drew.at_.glob6 ((On.start h).drew.at_.crest i hi).1 hbig
 have H:=Lib.hid h
 have HO:=Lib.hid hput
 clear h E e hput hpl
 go_enter Tryz.func178,Tryz.ntmps178
 go_wp2
 go_still_tail 8,(by kernel_rfl)
 change wpList _ _ _ _ _ w.drew
 go_wp2_with fail
 refine HO.out.mono ?_
 rintro e w1 ⟨rfl,hg,hm⟩
 have h1:=(On.start H.out).drew.globMod 6 (hg.mono fun x hx e=>by rcases e with e | e;exact (grow_lt e.2).trans e.1;exact grow_ge e) hm
 have fA:=h1.at_.call.2
 have k9:=h1.at_.cA_rest (i:=i) hi
 have H1:=Lib.hid h1
 clear h1 hg hm HO
 go_wp2
 go_returns
 exact ⟨rfl,_,_,((OnM.of_on H1.out hi).s_rest (.slice none 0 0) [] (World.ownsRow_nil _ _ _ _) (fun g e=>by cases e)).fin rfl⟩
theorem do_27 (N:Nat) (p:Wd) (i:Nat) (t:Int) (hi:i<p.M) (hpl:(p.mach i).place=27) (hbig:p.glob.length+1≤4294967296):DoOK N p i t (p.doIt i t).1 (p.doIt i t).2:=by
 intro F V ow w h E
 have e:p.doIt i t=(({ p with glob:=p.glob++[(p.mach i).got] }:Wd).setM i { p.mach i with got:=-1 },false):=by
  unfold Wd.doIt;simp only [hpl]
 rw [e]
 have c13:=h.cW_all
 have c10:=h.cW_glob
 have c0:=h.cA_place hi
 have c4:=h.cA_got hi
 have hM:=h.dim
 have hcap:=h.own_cap
 rw [hpl] at c0
 unfold dims at hM
 have nAW:∀ o:Obj,On F V ow w (grow ow w.drew.heap.size 0) (w.drew.alloc o) p:=fun o=>(On.start h).drew.alloc o
 have H:=Lib.hid h
 have HA:=Lib.hid nAW
 clear h E e hpl nAW
 go_enter Tryz.func178,Tryz.ntmps178
 go_wp2
 go_region_held3 (fun w'=>w'.cell? ⟨F.W,10,none⟩=some (.pointer (some ⟨F.glob,0,none⟩))∧w'.cell? ⟨F.all,i*18+4,none⟩=some (.int .i64 (p.mach i).got))
  (first | exact ⟨c10,c4⟩ | exact ⟨k10,k4⟩ | exact ⟨(HA.out _).at_.cW_glob,(HA.out _).at_.cA_got hi⟩)
  (first | (go_at_call 128;refine (gput_any _ F.glob p.P 0 p.glob [(p.mach i).got] _ _ (HA.out _).at_.glob6 (World.ownsRow_lit _ _ 1 (Nat.zero_le _) (by decide) rfl) hbig).mono ?_;rintro e w1 ⟨rfl,hg,hm⟩;have h1:=(HA.out _).globMod 6 (hg.mono fun x hx e=>by rcases e with e | e;exact (grow_lt e.2).trans e.1;exact grow_ge e) hm;have fA:=h1.at_.call.2;have k10:=h1.at_.cW_glob;have k4:=h1.at_.cA_got (i:=i) hi;have k4:w1.cell? ⟨F.all,i*18+4,none⟩=some (.int .i64 (p.mach i).got):=k4;have H1:=Lib.hid h1;clear h1 hg hm))
 go_wp2
 go_returns
 exact ⟨rfl,_,_,H1.out.s_got hi (-1)⟩
end Go.Proofs.YtlmmjgekolpekaaGreatDoor
