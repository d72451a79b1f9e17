/- Parts of the proof. -/
import Derived.Test.YtlmmjgekolpekaaGreatDoorMPk11
import Derived.Deep.RegionLaw
import Derived.Laws.EntriesVeiled
set_option linter.unusedVariables false
set_option linter.unusedSimpArgs false
set_option linter.unusedSectionVars false
set_option maxRecDepth 100000
set_option maxHeartbeats 6400000
namespace Go.Proofs.YtlmmjgekolpekaaGreatDoor
open Go Go.RowKit Hst Go.Proofs
section
variable {F:Fix} {V:Vol} {ow0 ow:Nat→Nat} {w0 w:World} {p:Wd}
theorem On.belowK (h:On F V ow0 w0 ow w p) {w':World} (b:Below w.heap.size w w') (k:Nat):On F V ow0 w0 (grow ow w.heap.size k) w' p :=
 ⟨h.at_.same _ (fun _ hb=>grow_lt hb) ⟨b.size,fun x hx _=>b.block x hx⟩,h.st.trans ⟨b.os,b.tape,b.output,b.size,fun _ hb=>grow_lt hb,fun x hx _=>b.block x hx⟩⟩
theorem ownsRow_far {w:World} {base e size n:Nat} {v:Value} {xs:List Value} {b o:Nat} {u:Value} (h:w.ownsRow base e size v n xs) (hb:v.ownBlock≠some b):(w.setCell ⟨b,o,none⟩ u).ownsRow base e size v n xs:=by
 refine ⟨h.1,?_⟩
 rcases h.2 with hn | ⟨g,cap,cur,rfl,hbg,hg,rest⟩
 ·exact .inl hn
 ·refine .inr ⟨g,cap,cur,rfl,hbg,?_,rest⟩
  rw [za5 (fun e=>hb (by simp [Value.ownBlock,e]))]
  exact hg
theorem WAt.setRest (h:WAt F V ow w p) {i:Nat} (hi:i<p.M) (v:Value) (l:List Int) (hown:w.ownsRow 0 3 1 v l.length (ints l)) (hin:RowIn (ow ·=1000+i) v) :
  WAt F { V with rest:=fun j=>if j=i then v else V.rest j } ow (w.setCell ⟨F.all,i*18+9,none⟩ v) (p.setM i { p.mach i with rest:=l }):=by
 obtain ⟨o1,o2,o3,o4,o5,o9,o10,oq⟩:=h.own
 obtain ⟨l1,l2,l3,l4,l5⟩:=h.lens
 have hmach:∀ j,(p.setM i { p.mach i with rest:=l }).mach j=if j=i then { p.mach i with rest:=l } else p.mach j:=fun j=>zdI p i j _ (by omega)
 have hvb:v.ownBlock≠some F.all:=fun e=>by have:=hin _ e;omega
 refine h.upd (fun k=>k=9∨k=1000+i) ⟨rfl,rfl,rfl⟩ ⟨l1,l2,by simpa [Wd.setM] using l3,l4,l5⟩ (fun _ _=>rfl) ((zbk o9 _ _).mono fun x _ hx=>⟨hx.1,fun e=>hx.2 (.inl e)⟩) (.inl ⟨by omega,rfl⟩) (.inl ⟨by omega,rfl⟩) (.inl ⟨by omega,rfl⟩) (by omega) (fun q hq=>.inl ⟨by have:=h.dim;unfold dims at this;omega,rfl⟩)
  (.inl ⟨by omega,rfl⟩) (.inl ⟨by omega,rfl⟩) (.inl ⟨by omega,rfl⟩) (.inl ⟨by omega,rfl⟩) (.inr ?_) (fun j hj=>?_) (.inl ⟨by omega,rfl⟩) (.inl ⟨by omega,rfl,rfl⟩)
 ·refine (h.call.set (i*18+9) (by omega) v).ext fun c hc=>?_
  unfold zeN
  rw [hmach]
  dsimp only
  by_cases e:c / 18=i
  ·rw [if_pos e,if_pos e]
   have hc18:c % 18<18:=Nat.mod_lt _ (by decide)
   by_cases e2:c % 18=9
   ·rw [if_pos (by omega),e2];rfl
   ·rw [if_neg (by omega),e]
    rcases lt18 hc18 with h | h | h | h | h | h | h | h | h | h | h | h | h | h | h | h | h | h <;> first | (rw [h];rfl) | (exact absurd h e2)
  ·rw [if_neg (by omega),if_neg e,if_neg e]
 ·by_cases e:j=i
  ·subst e
   refine .inr ?_
   rw [hmach,if_pos rfl]
   simp only [if_true]
   exact ⟨ownsRow_far hown hvb,hin⟩
  ·refine .inl ⟨by omega,?_,?_⟩
   ·rw [hmach,if_neg e]
   ·simp only [if_neg e]
theorem On.s_rest (h:On F V ow0 w0 ow w p) {i:Nat} (hi:i<p.M) (v:Value) (l:List Int) (hown:w.ownsRow 0 3 1 v l.length (ints l)) (hin:RowIn (ow ·=1000+i) v) :
  On F { V with rest:=fun j=>if j=i then v else V.rest j } ow0 w0 ow (w.setCell ⟨F.all,i*18+9,none⟩ v) (p.setM i { p.mach i with rest:=l }) :=
 ⟨h.at_.setRest hi v l hown hin,h.st.trans (zaz h.at_.own.2.2.2.2.2.1 (by decide) _ _)⟩
theorem OnM.s_rest {i:Nat} {m:Mach} (h:OnM F V ow0 w0 ow w p i m) (v:Value) (l:List Int) (hown:w.ownsRow 0 3 1 v l.length (ints l)) (hin:RowIn (ow ·=1000+i) v) :
  OnM F { V with rest:=fun j=>if j=i then v else V.rest j } ow0 w0 ow (w.setCell ⟨F.all,i*18+9,none⟩ v) p i { m with rest:=l } :=
 ⟨(h.on.s_rest h.hi v l hown hin).cast (by rw [zaj p i m h.len,zao]),h.hi⟩
theorem OnM.belowK {i:Nat} {m:Mach} (h:OnM F V ow0 w0 ow w p i m) {w':World} (b:Below w.heap.size w w') (k:Nat):OnM F V ow0 w0 (grow ow w.heap.size k) w' p i m:=⟨h.on.belowK b k,h.hi⟩
end
theorem zaZ {w:World} {base base' e size n:Nat} {v:Value} {xs:List Value} (h:w.ownsRow base e size v n xs) (hb:base'≤base):w.ownsRow base' e size v n xs:=by
 refine ⟨h.1,?_⟩
 rcases h.2 with h2 | ⟨g,cap,cur,hv,hg,rest⟩
 ·exact .inl h2
 ·exact .inr ⟨g,cap,cur,hv,Nat.le_trans hb hg,rest⟩
theorem zbQ {ow:Nat→Nat} {w:World} {s k base:Nat} {e size n:Nat} {v:Value} {xs:List Value} (h:w.ownsRow base e size v n xs) (hs:s≤base):RowIn (grow ow s k ·=k) v:=fun g hg=>by
 have:=h.lt g hg
 exact grow_ge (by omega)
theorem zcp {F:Fix} {V:Vol} {ow:Nat→Nat} {w:World} {p:Wd} (h:WAt F V ow w p) (i base:Nat) (hi:i<p.M) (v:Value) (l:List Int) (hv:w.ownsRow base 3 1 v l.length (ints l)) (hbig:l.length≤4294967296) (hne:∀ g,v.ownBlock=some g→ow g≠9∧ow g≠10) :
  Calls Tryz.prog 200 #[.pointer (some ⟨F.W,0,none⟩),.int .i64 i,v] w fun e w'=>e=.returned (.tuple #[])∧∃ V' ow',V'.logV=V.logV∧On F V' ow w ow' w' (p.found i l):=by
 have c10:=h.cW_all
 have c11:=h.cW_flag
 have cA4:=h.cA_got hi
 have cA9:=h.cA_rest hi
 have cf:=h.cF hi
 have fA:=h.call.2
 have fF:=h.cflag.2
 have hM:=h.dim
 have hcap:=h.own_cap.2
 have o9:=h.own.2.2.2.2.2.1
 have o10:=h.own.2.2.2.2.2.2.1
 obtain ⟨n1,n2,n3,n4,n5,n6,n7,n8,n9,n10,n11,n12,n13,n14,n15,n16,n17,n18⟩:=h.own.ne
 unfold dims at hM
 have H:=Lib.hid h
 clear h
 rcases Nat.eq_zero_or_pos l.length with h0 | h0
 ·have hl:l=[]:=List.eq_nil_of_length_eq_zero h0
  subst hl
  obtain ⟨a,c,rfl⟩:=zac hv
  clear hv hne
  go_enter Tryz.func200,Tryz.ntmps200
  go_wp2
  go_returns
  exact ⟨rfl,V,_,rfl,(On.start H.out).s_flag hi false⟩
 ·obtain ⟨g,cap,rfl,hgb,hgl,hcp⟩:=zar hv h0
  have hcell:∀ j,j<l.length→w.cell? ⟨g,j,none⟩=some (.int .i64 (l.getD j 0)):=fun j hj=>by
   rw [hv.cellAt j (by simpa using hj)];simp [ints,List.getD_eq_getElem?_getD,List.getElem?_eq_getElem hj]
  obtain ⟨g0,t,rfl⟩:=getD_eq l h0
  have hgn:=hne g rfl
  have hg9:F.all≠g:=fun e=>hgn.1 (by rw [← e];exact o9)
  have hg10:F.flag≠g:=fun e=>hgn.2 (by rw [← e];exact o10)
  have hc0:=hcell 0 h0
  simp only [List.getD_cons_zero] at hc0
  clear hv hne hgn
  have Hc:=Lib.hid hcell
  clear hcell
  have hpos:(0:Int)<((g0 :: t).length:Int):=by omega
  have hl1:(g0 :: t).length=t.length+1:=rfl
  obtain ⟨n,hn⟩:∃ n,n=(g0 :: t).length:=⟨_,rfl⟩
  rw [← hn] at h0 hcp hbig hpos hl1 ⊢
  have Hn:=Lib.hid hn
  have Hl:=Lib.hid hl1
  clear hn hl1
  by_cases hc1:cap=1
  ·subst hc1
   have hn1:n=1:=by omega
   subst hn1
   have ht:t=[]:=List.eq_nil_of_length_eq_zero (by have:=Hl.out;omega)
   have Ht:=Lib.hid ht
   clear ht
   go_enter Tryz.func200,Tryz.ntmps200
   go_wp2
   have h2:=(On.start H.out).s_flag hi true
   have hx:(w.setCell ⟨F.flag,i,none⟩ (.bool true)).cell? ⟨g,0,none⟩=some (.int .i64 g0):=by rw [cell_far hg10];exact hc0
   have hy:∀ j,j<(g0 :: t).length→(w.setCell ⟨F.flag,i,none⟩ (.bool true)).cell? ⟨g,j,none⟩=some (.int .i64 ((g0 :: t).getD j 0)):=fun j hj=>by rw [cell_far hg10];exact Hc.out j hj
   have Hy:=Lib.hid hy
   have lg:g<(w.setCell ⟨F.flag,i,none⟩ (.bool true)).heap.size:=by simpa using hgl
   clear hy
   generalize w.setCell ⟨F.flag,i,none⟩ (.bool true)=w2 at *
   go_region_held3 (fun w'=>w'.cell? ⟨g,0,none⟩=some (.int .i64 g0)) (first | exact hx | exact kx | (rw [cell_far hg9];exact kx) | (rw [cell_far hg9,cell_far hg9];exact kx)) (first | (go_at_call 91;refine ((Tryz.slices_Clone_int_zero ⟨g,0,none⟩ 0 _)).mono ?_;rintro e w1 ⟨v1,rfl,hown,_,hb⟩;have hown:w1.ownsRow w2.drew.heap.size 3 1 v1 t.length (ints t):=(by rw [Ht.out];exact hown);obtain ⟨va,vc,rfl⟩:=zac hown;have kx:w1.cell? ⟨g,0,none⟩=some (.int .i64 g0):=(hb.cell (p:=⟨g,0,none⟩) lg).trans hx;have h1:=h2.drew.belowK hb (1000+i);have k4:=h1.at_.cA_got hi;have k9:=h1.at_.cA_rest hi;have kf:=h1.at_.call.2;have H1:=Lib.hid h1;clear h1))
   go_wp2
   go_returns
   have hin:=zbQ (ow:=ow) (k:=1000+i) hown (Nat.le_refl w2.drew.heap.size)
   have hv1:Value.ownBlock (.slice va t.length vc)≠some F.all:=fun e=>by have:=hown.lt _ e;have:=h2.at_.call.lt (by have:=hM;show 0<p.M*18;omega);have e4:w2.drew.heap.size=w2.heap.size:=rfl;omega
   have h3:=((OnM.of_on H1.out hi).s_got g0).s_rest _ t (ownsRow_far (zaZ hown (Nat.zero_le _)) hv1) hin
   refine ⟨rfl,_,_,?_,h3.fin rfl⟩
   rfl
  ·have hn1:1<cap:=by omega
   have hn2:(1:Int)≤(n:Int):=by omega
   have hn3:(n:Int)≤(cap:Int):=by omega
   go_enter Tryz.func200,Tryz.ntmps200
   go_wp2
   have h2:=(On.start H.out).s_flag hi true
   have hx:(w.setCell ⟨F.flag,i,none⟩ (.bool true)).cell? ⟨g,0,none⟩=some (.int .i64 g0):=by rw [cell_far hg10];exact hc0
   have hy:∀ j,j<(g0 :: t).length→(w.setCell ⟨F.flag,i,none⟩ (.bool true)).cell? ⟨g,j,none⟩=some (.int .i64 ((g0 :: t).getD j 0)):=fun j hj=>by rw [cell_far hg10];exact Hc.out j hj
   have Hy:=Lib.hid hy
   have lg:g<(w.setCell ⟨F.flag,i,none⟩ (.bool true)).heap.size:=by simpa using hgl
   clear hy
   generalize w.setCell ⟨F.flag,i,none⟩ (.bool true)=w2 at *
   go_region_held3 (fun w'=>w'.cell? ⟨g,0,none⟩=some (.int .i64 g0)) (first | exact hx | exact kx | (rw [cell_far hg9];exact kx) | (rw [cell_far hg9,cell_far hg9];exact kx)) (first | (go_at_call 91;refine ((zea g 1 n (cap - 1) (g0 :: t) w2.drew h0 Hn.out.symm (by omega) (fun j hj=>Hy.out j (by have:=Hn.out;omega)) 1 (fun _=>rfl))).mono ?_;rintro e w1 ⟨v1,rfl,hown,hb⟩;obtain ⟨va,vc,rfl⟩:=zac hown;have kx:w1.cell? ⟨g,0,none⟩=some (.int .i64 g0):=(hb.cell (p:=⟨g,0,none⟩) lg).trans hx;have h1:=h2.drew.belowK hb (1000+i);have k4:=h1.at_.cA_got hi;have k9:=h1.at_.cA_rest hi;have kf:=h1.at_.call.2;have H1:=Lib.hid h1;clear h1))
   go_wp2
   go_returns
   have hin:=zbQ (ow:=ow) (k:=1000+i) hown (Nat.le_refl w2.drew.heap.size)
   have hv1:Value.ownBlock (.slice va t.length vc)≠some F.all:=fun e=>by have:=hown.lt _ e;have:=h2.at_.call.lt (by have:=hM;show 0<p.M*18;omega);have e4:w2.drew.heap.size=w2.heap.size:=rfl;omega
   have h3:=((OnM.of_on H1.out hi).s_got g0).s_rest _ t (ownsRow_far (zaZ hown (Nat.zero_le _)) hv1) hin
   refine ⟨rfl,_,_,?_,h3.fin rfl⟩
   rfl
theorem one_on {F:Fix} {V:Vol} {ow:Nat→Nat} {w:World} {p:Wd} (h:WAt F V ow w p) (i:Nat) (hi:i<p.M) (g:Int) (is:Bool) :
  Calls Tryz.prog 198 #[.pointer (some ⟨F.W,0,none⟩),.int .i64 i,.int .i64 g,.bool is] w fun e w'=>e=.returned (.tuple #[])∧∃ V' ow',V'.logV=V.logV∧On F V' ow w ow' w' (p.one i g is):=by
 have H:=Lib.hid h
 clear h
 cases is
 ·go_enter Tryz.func198,Tryz.ntmps198
  go_wp2_with fail
  refine (zcp H.out i 0 hi (.slice none 0 0) [] (World.ownsRow_nil _ _ _ _) (by simp) (fun g h=>by cases h)).mono ?_
  rintro e w1 ⟨rfl,V',ow1,hV,h1⟩
  go_wp2
  go_returns
  exact ⟨rfl,_,_,hV,h1⟩
 ·go_enter Tryz.func198,Tryz.ntmps198
  go_wp2_with fail
  have h2:=(On.start H.out).alloc (.cells #[.int .i64 g] 3)
  have hv:(w.alloc (.cells #[.int .i64 g] 3)).ownsRow 0 3 1 (.slice (some ⟨w.heap.size,0,none⟩) 1 1) [g].length (ints [g]):=by
   refine ⟨by simp [ints],.inr ⟨w.heap.size,1,#[.int .i64 g],rfl,Nat.zero_le _,?_,by simp,by decide,by simp,by simp [ints]⟩⟩
   show (w.heap.push _)[w.heap.size]?=_
   simp
  refine (zcp h2.at_ i 0 hi _ [g] hv (by simp) (fun b h=>by cases h;exact ⟨by rw [zaG];decide,by rw [zaG];decide⟩)).mono ?_
  rintro e w1 ⟨rfl,V',ow1,hV,h1⟩
  go_wp2
  go_returns
  exact ⟨rfl,_,_,hV,h2.then_ h1⟩
theorem zdB (l:List Hst.Ev):(encEs l).length=l.length*5:=by
 induction l with
 | nil=>rfl
 | cons e t ih=>simp [encEs,encE] at ih ⊢;omega
theorem zcU (l m:List Hst.Ev):encEs (l++m)=encEs l++encEs m:=by simp [encEs]
section
variable {F:Fix} {V:Vol} {ow0 ow:Nat→Nat} {w0 w:World} {p:Wd}
theorem On.appLog (h:On F V ow0 w0 ow w p) {w':World} {v':Value} {l:List Hst.Ev} (hg:w.grownBy w' V.logV.ownBlock) (hown:w'.ownsRow 0 39 5 v' l.length (encEs l)) (hat:v'.ownBlock=V.logV.ownBlock∨v'.ownBlock=some w.heap.size) :
  On F { V with logV:=v' } ow0 w0 (grow ow w.heap.size 11) (w'.setCell ⟨F.W,15,none⟩ v') { p with log:=l }:=by
 obtain ⟨ha,hst⟩:=h
 obtain ⟨o1,o2,o3,o4,o5,o9,o10,oq⟩:=ha.own
 obtain ⟨l1,l2,l3,l4,l5⟩:=ha.lens
 have lW:=ha.cw.lt (by decide)
 have hin:=ha.clog.2
 have hvW:V.logV.ownBlock≠some F.W:=fun e=>by have:=hin _ e;omega
 have hvW':v'.ownBlock≠some F.W:=by
  rcases hat with e | e
  ·rw [e];exact hvW
  ·rw [e];intro e2;have:=Option.some.inj e2;omega
 have hblk:∀ b,b<w.heap.size→ow b≠1→ow b≠11→(w'.setCell ⟨F.W,15,none⟩ v').heap[b]?=w.heap[b]?:=fun b hb h1 h2=>by
  rw [za5 (fun e=>h1 (by rw [e];exact o1))]
  exact hg.block b hb (fun e=>h2 (hin b e.symm))
 have hcw':Cells F.W 16 (wCells F V p.P p.M p.G) w':=by
  refine ha.cw.congr (S:=fun b=>ow b=1) ⟨hg.size,fun b hb e=>hg.block b hb (fun e2=>?_)⟩ o1 lW
  have e3:ow b=11:=hin b e2.symm
  omega
 have hsz:w.heap.size≤(w'.setCell ⟨F.W,15,none⟩ v').heap.size:=by have:=hg.size;simpa using this
 refine ⟨ha.upd (fun k=>k=1∨k=11) ⟨rfl,rfl,rfl⟩ ⟨l1,l2,l3,l4,l5⟩ (fun b hb=>grow_lt hb) ⟨hsz,fun b hb hx=>hblk b hb (fun e=>hx.2 (.inl e)) (fun e=>hx.2 (.inr e))⟩
  (.inr ?_) (.inl ⟨by omega,rfl⟩) (.inl ⟨by omega,rfl⟩) (by omega) (fun q hq=>.inl ⟨by rintro (h | h) <;> omega,rfl⟩)
  (.inl ⟨by omega,rfl⟩) (.inl ⟨by omega,rfl⟩) (.inl ⟨by omega,rfl⟩) (.inl ⟨by omega,rfl⟩) (.inl ⟨by omega,rfl,rfl⟩) (fun j hj=>.inl ⟨by rintro (h | h) <;> omega,rfl,rfl⟩) (.inl ⟨by omega,rfl⟩) (.inr ⟨ownsRow_far hown hvW',?_⟩),hst.trans ⟨?_,?_,?_,hsz,fun b hb=>grow_lt hb,fun b hb e=>hblk b hb (by omega) (by omega)⟩⟩
 ·refine (hcw'.set 15 (by decide) v').ext fun c hc=>?_
  by_cases e:c=15
  ·subst e;rfl
  ·rw [if_neg e]
   rcases (show c=0∨c=1∨c=2∨c=3∨c=4∨c=5∨c=6∨c=7∨c=8∨c=9∨c=10∨c=11∨c=12∨c=13∨c=14 by omega) with rfl | rfl | rfl | rfl | rfl | rfl | rfl | rfl | rfl | rfl | rfl | rfl | rfl | rfl | rfl <;> rfl
 ·intro g hgv
  rcases hat with e | e
  ·have h2:=hin g (by rw [← e];exact hgv)
   have h3:=ha.clog.1.lt g (by rw [← e];exact hgv)
   show grow ow w.heap.size 11 g=11
   rw [grow_lt (by omega)];exact h2
  ·rw [e] at hgv;cases hgv;exact grow_ge (Nat.le_refl _)
 ·exact hg.os
 ·exact hg.tape
 ·exact hg.output
end
theorem Tryz.infoEvent:(Tryz.prog.info? 39).map (fun i=>(i.zero,i.size,i.bytes))=some (some (.agg #[.int .i64 0,.int .i64 0,.int .i64 0,.int .i64 0,.int .i64 0]),5,40):=by kernel_rfl
theorem logadd_on {N:Nat} {F:Fix} {V:Vol} {ow:Nat→Nat} {w:World} {p:Wd} (h:WAt F V ow w p) (E:Env N ow w) (e:Hst.Ev) (hr:zeh e=true) (hbig:p.log.length<4294967296) :
  Calls Tryz.prog 127 #[.pointer (some ⟨F.W,15,none⟩),evV e] w fun r w'=>r=.returned (.bool true)∧∃ V' ow',V'.rest=V.rest∧On F V' ow w ow' w' { p with log:=p.log++[e] }:=by
 obtain ⟨k,g,m,pp,v⟩:=e
 have hR:=fun w h=>right_any ⟨k,g,m,pp,v⟩ w N h
 simp only [evV,hr] at hR ⊢
 obtain ⟨i0,hi,hz0,hz1,hz2⟩:=info_parts Tryz.infoEvent
 have HR:=Lib.hid hR
 have H:=Lib.hid h
 have HE:=Lib.hid E
 clear h E hR hr
 go_enter Tryz.func127,Tryz.ntmps127
 go_wp2_with fail
 refine (HR.out _ (HE.out.tabs.alloc _)).mono ?_
 rintro r w1 ⟨rfl,hb⟩
 have hx:=zaL hb
 have hlt:=zaB hx
 have c0:=zaa hx 0
 have c1:=zaa hx 1
 have c2:=zaa hx 2
 have c3:=zaa hx 3
 have c4:=zaa hx 4
 simp only [List.getElem?_toArray,List.getElem?_cons_zero,List.getElem?_cons_succ] at c0 c1 c2 c3 c4
 have h1:=((On.start H.out).alloc (.cells #[.int .i64 k,.int .i64 g,.int .i64 m,.int .i64 pp,.int .i64 v] 39)).below hb
 have cL:=h1.at_.cW_log
 have fW:=h1.at_.cw.2
 have lW:=h1.at_.cw.lt (by decide)
 have H1:=Lib.hid h1
 clear h1 hx hb
 have h2:=(H1.out.alloc (.cells #[.int .i64 k,.int .i64 g,.int .i64 m,.int .i64 pp,.int .i64 v] 39)).drew
 have H2:=Lib.hid h2
 have hW:∀ gg,V.logV.ownBlock=some gg→gg≠F.W:=fun gg hg e=>by
  have a1:=h2.at_.clog.2 gg hg
  have a2:=h2.at_.own.1
  rw [e] at a1;omega
 have HW:=Lib.hid hW
 clear h2 hW
 go_wp2
 go_region_law (first | (refine step_append_lies _ (by rfl) _ _ _ (by rfl) 0 39 i0 _ 5 40 Tryz.underlying35 hi hz0 hz1 hz2 rfl (by omega) _ p.log.length _ (by rfl) H2.out.at_.clog.1 ⟨w1.heap.size,0,none⟩ 1 1 [.int .i64 k,.int .i64 g,.int .i64 m,.int .i64 pp,.int .i64 v] (by rfl) (by rfl) (World.news_of_block (cs:=#[.int .i64 k,.int .i64 g,.int .i64 m,.int .i64 pp,.int .i64 v]) (t:=39) (fr:=(0,0)) (heap_alloc_new w1 _)) (by simp [Value.oneCell']) (by omega) (by unfold maxLen;omega) (by omega) (by simp) (w1.heap.size+1) (by simp) ?_;intro gg cap w3 hown3 hgrow hat hlt4;have k15:=hgrow.cell H2.out.at_.cW_log (fun e=>HW.out _ e.symm rfl);have kf:=fun o=>(hgrow.frozen_far ⟨F.W,o,none⟩ (by simp;omega) (fun e=>HW.out _ e.symm rfl)).trans (H2.out.at_.cw.2 o)))
 all_goals (
  go_wp2
  go_returns
  have hown4:w3.ownsRow 0 39 5 (.slice (some ⟨gg,0,none⟩) (p.log.length+1) cap) (p.log++[(⟨k,g,m,pp,v⟩:Hst.Ev)]).length (encEs (p.log++[(⟨k,g,m,pp,v⟩:Hst.Ev)])):=by
   rw [zcU,List.length_append];exact hown3
  refine ⟨rfl,_,_,?_,H2.out.appLog hgrow hown4 (by rcases hat with e | e;exact .inl e.symm;exact .inr (by rw [e];simp [Value.ownBlock]))⟩
  rfl)
theorem zdS {N:Nat} {F:Fix} {V:Vol} {ow:Nat→Nat} {w:World} {p:Wd} (h:WAt F V ow w p) (E:Env N ow w) (i:Nat) (hi:i<p.M) (k g v:Int) (hr:zeh ⟨k,g,i,(p.mach i).p,v⟩=true) (hbig:p.log.length<4294967296) :
  Calls Tryz.prog 182 #[.pointer (some ⟨F.W,0,none⟩),.int .i64 i,.int .i64 k,.int .i64 g,.int .i64 v] w fun r w'=>r=.returned (.tuple #[])∧∃ V' ow',V'.rest=V.rest∧On F V' ow w ow' w' (p.add i k g v):=by
 have c13:=h.cW_all
 have cA1:=h.cA_p hi
 have hM:=h.dim
 have hcap:=h.own_cap.2
 have hL:=logadd_on ((On.start h).drew).at_ (E.on (On.start h).drew) ⟨k,g,i,(p.mach i).p,v⟩ hr hbig
 simp only [evV] at hL
 unfold dims at hM
 have HL:=Lib.hid hL
 have H:=Lib.hid h
 clear h E hr hbig hL
 go_enter Tryz.func182,Tryz.ntmps182
 go_wp2
 go_still_tail 16,(by kernel_rfl)
 change wpList _ _ _ _ _ w.drew
 go_wp2_with fail
 refine HL.out.mono ?_
 rintro e w1 ⟨rfl,V',ow1,hV,h1⟩
 go_wp2
 go_returns
 exact ⟨rfl,V',_,hV,((On.start H.out).drew).then_ h1⟩
theorem sec_take (F:Fix) (V:Vol) (ow:Nat→Nat) (w:World) (p:Wd) (h:WAt F V ow w p) (i a:Nat) (hi:i<p.M) (hs:(p.mach i).stage=0) (hk:(p.mach i).lkN=(a:Int)) (ha:a<nWords p.P p.M p.G) (fn:Value) :
  Calls Tryz.prog 176 #[.pointer (some ⟨F.all,i*18+13,none⟩),.pointer (some ⟨F.mem,0,none⟩),fn] w fun e w' =>
   e=.returned (.bool false)∧∃ ow',On F V ow w ow' w' ((p.more a).setM i { p.mach i with ticket:=p.ld a,stage:=1 }):=by
 have c13:=h.cA_lkN hi
 have c14:=h.cA_lkS hi
 have c15:=h.cA_stage hi
 have c16:=h.cA_ticket hi
 have m0:=h.cM_ws
 have m1:=h.cM_cnt
 have cs:=h.cS ha
 have hx:p.ld a<18446744073709551616:=h.wsb a
 have fA:=h.call.2
 have fM:=h.cmem.2
 have fS:=h.cws.2
 obtain ⟨n1,n2,n3,n4,n5,n6,n7,n8,n9,n10,n11,n12,n13,n14,n15,n16,n17,n18⟩:=h.own.ne
 have hd:=h.dim
 rw [hs] at c15
 rw [hk] at c13
 simp only [Int.natCast_zero] at c15
 have lA:=h.call.lt (by omega)
 have lM:=h.cmem.lt (by decide)
 have lS:=h.cws.lt (by unfold nWords;omega)
 have hn:nWords p.P p.M p.G≤65536:=by unfold nWords;obtain ⟨_,_,_,_,_,_⟩:=hd;omega
 have H:=Lib.hid h
 clear h
 go_enter Tryz.func176,Tryz.ntmps176
 go_wp2
 go_ret
 have e1:IntKind.u64.wrap ((p.ld a:Nat)+1:Int)=(((p.ld a+1) % 2^64:Nat):Int):=by rw [IntKind.wrap_u64];omega
 have e2:IntKind.u64.wrap (IntKind.u64.wrap ((p.ld a:Nat)+1:Int) - 1)=((p.ld a:Nat):Int):=by rw [IntKind.wrap_u64,IntKind.wrap_u64];omega
 rw [e2,e1]
 exact ⟨rfl,_,(((((OnM.start H.out hi).s_acc.s_word ha _ _ rfl (by omega)).s_ticket _).s_stage _).alloc _).fin rfl⟩
theorem sec_wait (F:Fix) (V:Vol) (ow:Nat→Nat) (w:World) (p:Wd) (h:WAt F V ow w p) (i a:Nat) (hi:i<p.M) (hs:(p.mach i).stage=1) (hk:(p.mach i).lkS=(a:Int)) (ha:a<nWords p.P p.M p.G) (ht:(p.mach i).ticket<18446744073709551616) (fn:Value) :
  Calls Tryz.prog 176 #[.pointer (some ⟨F.all,i*18+13,none⟩),.pointer (some ⟨F.mem,0,none⟩),fn] w fun e w' =>
   e=.returned (.bool false)∧∃ ow',On F V ow w ow' w' (if p.ld a=(p.mach i).ticket then p.acc.setM i { p.mach i with stage:=2 } else p.acc):=by
 have c13:=h.cA_lkN hi
 have c14:=h.cA_lkS hi
 have c15:=h.cA_stage hi
 have c16:=h.cA_ticket hi
 have m0:=h.cM_ws
 have m1:=h.cM_cnt
 have cs:=h.cS ha
 have hx:p.ld a<18446744073709551616:=h.wsb a
 have fA:=h.call.2
 have fM:=h.cmem.2
 have fS:=h.cws.2
 obtain ⟨n1,n2,n3,n4,n5,n6,n7,n8,n9,n10,n11,n12,n13,n14,n15,n16,n17,n18⟩:=h.own.ne
 have hd:=h.dim
 rw [hs] at c15
 rw [hk] at c14
 simp only [Int.natCast_one] at c15
 have lA:=h.call.lt (by omega)
 have lM:=h.cmem.lt (by decide)
 have lS:=h.cws.lt (by unfold nWords;omega)
 have hn:nWords p.P p.M p.G≤65536:=by unfold nWords;obtain ⟨_,_,_,_,_,_⟩:=hd;omega
 have H:=Lib.hid h
 clear h
 have Ha:=Lib.hid ha
 clear hs hk ha
 by_cases he:p.ld a=(p.mach i).ticket
 ·rw [if_pos he]
  rw [he] at cs
  have Hc:=Lib.hid he
  clear he hx
  have e0:IntKind.u64.wrap (((p.mach i).ticket:Int) - ((p.mach i).ticket:Int))=0:=by rw [IntKind.wrap_u64];omega
  have ha:=Ha.out
  go_enter Tryz.func176,Tryz.ntmps176
  go_wp2
  go_still_tail 9,(by kernel_rfl)
  change wpList _ _ _ _ _ w.drew
  go_wp2
  go_ret
  exact ⟨rfl,_,(((((OnM.start H.out hi).s_acc).s_stage 2).alloc _).alloc _).drew.fin rfl⟩
 ·rw [if_neg he]
  have e0:(IntKind.u64.wrap (((p.mach i).ticket:Int) - (p.ld a:Int))==0)=false:=by
   rw [beq_eq_false_iff_ne,IntKind.wrap_u64];intro e;apply he;omega
  have e1:((((p.mach i).ticket:Int) - (p.ld a:Int)) % 18446744073709551616==0)=false:=by rw [← IntKind.wrap_u64];exact e0
  have Hc:=Lib.hid he
  clear he hx
  have ha:=Ha.out
  go_enter Tryz.func176,Tryz.ntmps176
  go_wp2
  go_still_tail 9,(by kernel_rfl)
  change wpList _ _ _ _ _ w.drew
  go_wp2
  go_ret
  exact ⟨rfl,_,((((On.start H.out).s_acc).alloc _).alloc _).drew⟩
theorem sec_free (F:Fix) (V:Vol) (ow:Nat→Nat) (w:World) (p:Wd) (h:WAt F V ow w p) (i a:Nat) (hi:i<p.M) (hs:(p.mach i).stage=3) (hk:(p.mach i).lkS=(a:Int)) (ha:a<nWords p.P p.M p.G) (ht:(p.mach i).ticket<18446744073709551616) (he:p.ld a=(p.mach i).ticket) (fn:Value) :
  Calls Tryz.prog 176 #[.pointer (some ⟨F.all,i*18+13,none⟩),.pointer (some ⟨F.mem,0,none⟩),fn] w fun e w' =>
   e=.returned (.bool true)∧∃ ow',On F V ow w ow' w' ((p.acc.st a (((p.mach i).ticket+1) % 2^64)).setM i { p.mach i with stage:=4 }):=by
 have c13:=h.cA_lkN hi
 have c14:=h.cA_lkS hi
 have c15:=h.cA_stage hi
 have c16:=h.cA_ticket hi
 rw [hs] at c15
 rw [hk] at c14
 have hf:=free_on ((On.start h).drew).at_ (p.mach i).lkN a (p.mach i).ticket ha ht he
 have H:=Lib.hid h
 have HF:=Lib.hid hf
 clear h hs hk he hf
 go_enter Tryz.func176,Tryz.ntmps176
 go_wp2
 go_still_tail 9,(by kernel_rfl)
 change wpList _ _ _ _ _ w.drew
 go_wp2_with fail
 refine HF.out.mono ?_
 rintro e w1 ⟨rfl,ow1,h1⟩
 have k15:=h1.at_.cA_stage hi
 have kf:=h1.at_.call.2
 have H1:=Lib.hid h1
 clear h1 c13 c14 c15 c16
 go_wp2
 go_ret
 exact ⟨rfl,_,((OnM.of_on ((On.start H.out).drew.then_ H1.out) hi).s_stage 4).fin rfl⟩
def DoOK (N:Nat) (p:Wd) (i:Nat) (t:Int) (p':Wd) (more:Bool):Prop:=∀ (F:Fix) (V:Vol) (ow:Nat→Nat) (w:World),WAt F V ow w p→Env N ow w →
 Calls Tryz.prog 178 #[.pointer (some ⟨F.W,0,none⟩),.int .i64 i,.int .i64 t] w fun e w'=>e=.returned (.bool more)∧∃ V' ow',On F V' ow w ow' w' p'
theorem locked1_any (N:Nat) (F:Fix) (V:Vol) (ow:Nat→Nat) (w:World) (p p':Wd) (h:WAt F V ow w p) (E:Env N ow w) (i bw bi:Nat) (t:Int) (more:Bool) (hd:DoOK N p i t p' more)
  (hbw:w.cell? ⟨bw,0,none⟩=some (.pointer (some ⟨F.W,0,none⟩))) (hbi:w.cell? ⟨bi,0,none⟩=some (.int .i64 i)) :
  Calls Tryz.prog 177 #[.int .i64 t,.pointer (some ⟨bw,0,none⟩),.pointer (some ⟨bi,0,none⟩)] w fun e w'=>e=.returned (.bool more)∧∃ V' ow',On F V' ow w ow' w' p':=by
 have hd2:=hd F V ow w h E
 have HD:=Lib.hid hd2
 clear hd hd2 h E
 go_enter Tryz.func177,Tryz.ntmps177
 go_wp2_with fail
 refine HD.out.mono ?_
 rintro e w1 ⟨rfl,V',ow1,h1⟩
 go_wp2
 go_ret
 exact ⟨rfl,V',_,h1⟩
theorem sec_do (N:Nat) (F:Fix) (V:Vol) (ow:Nat→Nat) (w:World) (p p':Wd) (h:WAt F V ow w p) (E:Env N ow w) (i bw bi:Nat) (more:Bool) (hi:i<p.M) (hs:(p.mach i).stage=2) (hd:DoOK N p i (p.mach i).times p' more) (hi':i<p'.M) (hs':(p'.mach i).stage=2)
  (hbw:w.cell? ⟨bw,0,none⟩=some (.pointer (some ⟨F.W,0,none⟩))) (hbi:w.cell? ⟨bi,0,none⟩=some (.int .i64 i)) :
  Calls Tryz.prog 176 #[.pointer (some ⟨F.all,i*18+13,none⟩),.pointer (some ⟨F.mem,0,none⟩),.func (.func 177) #[] #[.pointer (some ⟨bw,0,none⟩),.pointer (some ⟨bi,0,none⟩)]] w fun e w' =>
   e=.returned (.bool false)∧∃ V' ow',On F V' ow w ow' w' (p'.setM i { p'.mach i with times:=wrap64 ((p'.mach i).times+1),stage:=if more then 2 else 3 }):=by
 have c15:=h.cA_stage hi
 have c17:=h.cA_times hi
 rw [hs] at c15
 have hd2:=locked1_any N F V ow w p p' h E i bw bi (p.mach i).times more hd hbw hbi
 have HD:=Lib.hid hd2
 clear hd hd2 h E hs hbw hbi
 have hS:=Lib.hid hs'
 clear hs'
 have hneq:∀ w:World,(binOp .neq 56 (.func (.func 177) #[] #[.pointer (some ⟨bw,0,none⟩),.pointer (some ⟨bi,0,none⟩)]) .nilFunc).run Tryz.prog w=.ok (.bool true) w:=fun w=>by kernel_rfl
 go_enter Tryz.func176,Tryz.ntmps176
 go_wp2_with fail
 refine HD.out.mono ?_
 rintro e w1 ⟨rfl,V',ow1,h1⟩
 have k15:=h1.at_.cA_stage hi'
 have k17:=h1.at_.cA_times hi'
 have kf:=h1.at_.call.2
 rw [hS.out] at k15
 have H1:=Lib.hid h1
 clear h1 c15 c17 hneq
 cases more
 ·go_wp2
  go_ret
  exact ⟨rfl,V',_,((((OnM.of_on H1.out hi').s_times _).s_stage 3).fin rfl)⟩
 ·go_wp2
  go_ret
  refine ⟨rfl,V',_,(((OnM.of_on H1.out hi').s_times _).fin ?_)⟩
  rw [hS.out]
end Go.Proofs.YtlmmjgekolpekaaGreatDoor
