/- Parts of the proof. -/
import Derived.Test.YtlmmjgekolpekaaGreatDoorMPq12
set_option linter.unusedVariables false
set_option linter.unusedSimpArgs false
set_option linter.unusedSectionVars false
set_option maxRecDepth 100000
set_option maxHeartbeats 6400000
namespace Go.Proofs.YtlmmjgekolpekaaGreatDoor
open Go Go.RowKit Hst Go.Proofs
theorem do_17 (N:Nat) (p:Wd) (i q:Nat) (t:Int) (hi:i<p.M) (hq:q<p.P) (hp:(p.mach i).p=(q:Int)) (hpl:(p.mach i).place=17) (hbig:(p.mach i).rest.length≤4294967296):DoOK N p i t (p.doIt i t).1 (p.doIt i t).2:=by
 intro F V ow w h E
 have e:p.doIt i t=((p.setR q ((p.ring q).putAll (p.mach i).rest).1).setM i { p.mach i with rest:=((p.ring q).putAll (p.mach i).rest).2 },false):=by
  unfold Wd.doIt;simp only [hpl,hp,Int.toNat_natCast]
 rw [e]
 have c13:=h.cW_all
 have c8:=h.cW_rs
 have c0:=h.cA_place hi
 have c1:=h.cA_p hi
 have c9:=h.cA_rest hi
 have cr:=h.cR hq
 have hM:=h.dim
 have hcap:=h.own_cap
 rw [hpl] at c0
 rw [hp] at c1
 unfold dims at hM
 have hrow:=(On.start h).drew.at_.crest i hi
 have hne:(V.rest i).ownBlock≠some (F.ring q):=fun e=>by
  have a1:=hrow.2 _ e
  have a2:=h.own.2.2.2.2.2.2.2 q hq
  omega
 have hput:=putAll_any (F.ring q) (p.ring q) 0 (V.rest i) (p.mach i).rest w.drew ((On.start h).drew.at_.cring q hq) hrow.1 hne hbig
 have H:=Lib.hid h
 have HO:=Lib.hid hput
 clear h E e hput hpl hp hrow hne
 go_enter Tryz.func178,Tryz.ntmps178
 go_wp2
 go_region_with (first | (go_at_call 208;refine HO.out.mono ?_;rintro e w1 ⟨v1,rfl,hown,hr,hm⟩;obtain ⟨va,vc,rfl⟩:=zac hown;have h1:=(On.start H.out).drew.ringModK hq (1000+i) hr hm;have k9:=h1.at_.cA_rest (i:=i) hi;have kf:=h1.at_.call.2;have H1:=Lib.hid h1;clear h1 hr hm))
 all_goals go_wp2
 all_goals go_returns
 all_goals exact ⟨rfl,_,_,((OnM.of_on H1.out hi).s_rest _ _ (zaZ hown (Nat.zero_le _)) (zbQ hown (Nat.le_refl _))).fin rfl⟩
end Go.Proofs.YtlmmjgekolpekaaGreatDoor
