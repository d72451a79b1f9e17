/- Parts of the proof. -/
import Derived.Test.YtlmmjgekolpekaaGreatDoorMPk15
import Derived.Test.YtlmmjgekolpekaaGreatDoorMPq07
import Derived.Deep.RegionHeld
set_option linter.unusedVariables false
set_option linter.unusedSimpArgs false
set_option linter.unusedSectionVars false
set_option maxRecDepth 100000
set_option maxHeartbeats 6400000
namespace Go.Proofs.YtlmmjgekolpekaaGreatDoor
open Go Go.RowKit Hst Go.Proofs
theorem calls_gen {P:Program} {f:FuncId} {args:Array Value} {Q:Ending→World→Prop} {w:World} (R:World→Prop) (h:R w) (k:∀ w2,R w2→Calls P f args w2 Q):Calls P f args w Q:=k w h
theorem zdl {P:Program} {fn:Func} {R:Ending→World→Prop} {e:Exit} {a:Act} {w:World} (S:World→Prop) (h:S w) (k:∀ w2,S w2→bodyPost P fn R e a w2):bodyPost P fn R e a w:=k w h
theorem RowE.rest {w:World} {g cap:Nat} {l:List Ent} (hl:0<l.length) (h:RowE w g cap (l.set 0 (l.getD (l.length - 1) ent0))):RowE w g cap (zep l):=by
 unfold RowE at *
 have h2:=zbY h (l.length - 1) (by simp)
 rw [zdx]
 have e:zeg (zep l)=(zeg (l.set 0 (l.getD (l.length - 1) ent0))).take ((l.length - 1)*3):=by
  unfold zep
  generalize l.set 0 (l.getD (l.length - 1) ent0)=m
  generalize l.length - 1=n
  induction n generalizing m with
  | zero=>simp [zeg]
  | succ n ih =>
   cases m with
   | nil=>simp [zeg]
   | cons x t=>rw [List.take_succ_cons,zaP,zaP,ih t,show (n+1)*3=n*3+3 by omega];simp [zeI]
 rw [e];exact h2
theorem htake_yes (b k g cap:Nat) (l:List Ent) (w:World) (hl:0<l.length) (hbig:l.length≤65536) (hcap:l.length≤cap) (hg:g≠b) (hf:w.frozen? ⟨b,k,none⟩=false) (c0:w.cell? ⟨b,k,none⟩=some (.slice (some ⟨g,0,none⟩) l.length cap)) (h:RowE w g cap l) :
  Calls Tryz.prog 243 #[.pointer (some ⟨b,k,none⟩)] w fun e w'=>e=.returned (.tuple #[entV (l.getD 0 ent0),.bool true]) ∧
   w'.cell? ⟨b,k,none⟩=some (.slice (some ⟨g,0,none⟩) (zep l).length cap)∧(∃ f,(zep l).length≤f∧RowE w' g cap (downE f (zep l) 0))∧(∀ o,o≠k→w'.cell? ⟨b,o,none⟩=w.cell? ⟨b,o,none⟩)∧(∀ o,w'.frozen? ⟨b,o,none⟩=w.frozen? ⟨b,o,none⟩)∧Mod (fun x=>x=g∨x=b) w w':=by
 have hF:=fun w1 c h=>first_yes b k g cap l w1 hl hbig c h
 have HF:=Lib.hid hF
 have H:=Lib.hid h
 have lb:=World.block_lt_of_cell? w _ c0
 obtain ⟨x0,_,_⟩:=h.get 0 hl
 have lg:=World.block_lt_of_cell? w _ x0
 simp only at lb lg
 clear hF h x0
 unfold entV at *
 go_enter Tryz.func243,Tryz.ntmps243
 go_wp2_with fail
 have kA:∀ o,(w.alloc o).cell? ⟨b,k,none⟩=some (.slice (some ⟨g,0,none⟩) l.length cap):=fun o=>(World.cell?_of_block (a:=⟨b,k,none⟩) (Below.heap_alloc w o b lb)).trans c0
 have kR:∀ o,RowE (w.alloc o) g cap l:=fun o=>H.out.same (Below.heap_alloc w o g lg)
 refine (HF.out _ (kA _) (kR _)).mono ?_
 rintro e w1 ⟨rfl,hb⟩
 have hsz:w.heap.size<w1.heap.size:=Nat.lt_of_lt_of_le (by simp) hb.size
 have d0:w1.cell? ⟨b,k,none⟩=some (.slice (some ⟨g,0,none⟩) l.length cap):=(hb.cell (p:=⟨b,k,none⟩) (by simp;omega)).trans (kA _)
 have df:w1.frozen? ⟨b,k,none⟩=false:=(World.frozen?_of_block (a:=⟨b,k,none⟩) ((hb.block b (by simp;omega)).trans (Below.heap_alloc w _ b lb))).trans hf
 have hrow1:RowE w1 g cap l:=(kR _).same (hb.block g (by simp;omega))
 have fg:=hrow1.fr
 have lb1:b<w1.heap.size:=by omega
 have lg1:g<w1.heap.size:=by omega
 have rb:w1.heap[w.heap.size]?=some (.cells #[.int .i64 0,.int .u64 0,.int .i64 0] 245 (0,0)):=(hb.block w.heap.size (by simp)).trans (heap_alloc_new w _)
 have HRB:=Lib.hid rb
 have r0:=zaa rb 0
 have r1:=zaa rb 1
 have r2:=zaa rb 2
 obtain ⟨y0,y1,y2⟩:=hrow1.get (l.length - 1) (by omega)
 obtain ⟨z0,z1,z2⟩:=hrow1.get 0 hl
 simp only [Nat.zero_mul,Nat.zero_add] at z0 z1 z2
 obtain ⟨m,hm⟩:∃ m,l.length=m+1:=⟨l.length - 1,by omega⟩
 have hm1:l.length - 1=m:=by omega
 rw [hm1] at y0 y1 y2
 have HM:=Lib.hid hm
 have t1:IntKind.i64.wrap (((m+1:Nat):Int) - 1)=(m:Int):=by rw [show ((m+1:Nat):Int) - 1=(m:Int) by omega];exact IntWalk.i64_in _ (by omega)
 rw [hm] at d0 hcap hbig
 have HRow:=Lib.hid hrow1
 have HB:=Lib.hid hb
 have hm0:(0:Int)<((m+1:Nat):Int):=by omega
 have hml:(m:Int)<((m+1:Nat):Int):=by omega
 have hmc:(m:Int)≤(cap:Int):=by omega
 have HL:=Lib.hid hl
 clear hrow1 hb hm hm1 rb kA kR c0 hf H hl
 have hem:l.getD (l.length - 1) ent0=l.getD m ent0:=by rw [HM.out];rfl
 have HE:=Lib.hid hem
 clear hem
 obtain ⟨em,hEm⟩:∃ em,em=l.getD m ent0:=⟨_,rfl⟩
 rw [← hEm] at y0 y1 y2
 have HE2:=Lib.hid hEm
 clear hEm
 obtain ⟨e0,hE0⟩:∃ e0,e0=l.getD 0 ent0:=⟨_,rfl⟩
 rw [← hE0] at z0 z1 z2 ⊢
 have HE0:=Lib.hid hE0
 clear hE0
 go_wp2
 go_region
 go_wp2_with fail
 have hs:=HRow.out.set 0 HL.out em
 simp only [Nat.zero_mul,Nat.zero_add] at hs
 have hs2:RowE (((w1.setCell ⟨g,0,none⟩ (.int .i64 em.whenT)).setCell ⟨g,1,none⟩ (.int .u64 (em.order:Nat))).setCell ⟨g,2,none⟩ (.int .i64 em.g)) g cap (zep l):=RowE.rest HL.out (by rw [HE.out,← HE2.out];exact hs)
 have hs3:∀ v,RowE ((((w1.setCell ⟨g,0,none⟩ (.int .i64 em.whenT)).setCell ⟨g,1,none⟩ (.int .u64 (em.order:Nat))).setCell ⟨g,2,none⟩ (.int .i64 em.g)).setCell ⟨b,k,none⟩ v) g cap (zep l):=fun v=>hs2.same (za5 hg v)
 have hlen:(zep l).length=m:=by rw [zdx,HM.out];rfl
 have hm0w:Mod (fun x=>x=g∨x=b) w w1:=(Mod.of_below ((zab w _).trans (HB.out.mono (by simp))) _)
 have hoth0:∀ o,w1.cell? ⟨b,o,none⟩=w.cell? ⟨b,o,none⟩:=fun o=>by simp only [World.cell?,(HB.out.block b (by simp;omega)).trans (Below.heap_alloc w _ b lb)]
 refine calls_gen (fun W=>W.cell? ⟨b,k,none⟩=some (.slice (some ⟨g,0,none⟩) (zep l).length cap)∧RowE W g cap (zep l)∧(∀ o,o≠k→W.cell? ⟨b,o,none⟩=w.cell? ⟨b,o,none⟩)∧Mod (fun x=>x=g∨x=b) w W∧W.heap[w1.heap.size]?=some (.cells #[.int .i64 e0.whenT,.int .u64 (e0.order:Nat),.int .i64 e0.g] 245 (0,0))∧W.heap[w.heap.size]?=some (.cells #[.int .i64 0,.int .u64 0,.int .i64 0] 245 (0,0))∧∀ o,W.frozen? ⟨b,o,none⟩=w.frozen? ⟨b,o,none⟩) ?_ ?_
 ·have hbg:b≠g:=fun e=>hg e.symm
  refine ⟨?_,?_,?_,?_,?_,?_,?_⟩
  ·rw [hlen]
   show World.cell? (World.alloc _ _) _=_
   refine (World.cell?_of_block (a:=⟨b,k,none⟩) (Below.heap_alloc _ _ b (by simp;omega))).trans ?_
   refine World.cell?_setCell_same _ _ _ (u:=.slice (some ⟨g,0,none⟩) (m+1:Nat) cap) ?_
   refine (World.cell?_setCell_far _ ⟨g,2,none⟩ ⟨b,k,none⟩ _ hg).trans ((World.cell?_setCell_far _ ⟨g,1,none⟩ ⟨b,k,none⟩ _ hg).trans ((World.cell?_setCell_far _ ⟨g,0,none⟩ ⟨b,k,none⟩ _ hg).trans d0))
  ·exact ((hs3 _).same (Below.heap_alloc _ _ g (by simpa using lg1)))
  ·intro o ho
   show World.cell? (World.alloc _ _) _=_
   refine (World.cell?_of_block (a:=⟨b,o,none⟩) (Below.heap_alloc _ _ b (by simp;omega))).trans ?_
   refine (World.cell?_setCell_other _ ⟨b,k,none⟩ ⟨b,o,none⟩ _ (by intro e;injection e with _ e2 _;exact ho e2.symm)).trans ?_
   refine (World.cell?_setCell_far _ ⟨g,2,none⟩ ⟨b,o,none⟩ _ hg).trans ((World.cell?_setCell_far _ ⟨g,1,none⟩ ⟨b,o,none⟩ _ hg).trans ((World.cell?_setCell_far _ ⟨g,0,none⟩ ⟨b,o,none⟩ _ hg).trans (hoth0 o)))
  ·exact (((((hm0w.setCell (.inl (.inl rfl)) _).setCell (.inl (.inl rfl)) _).setCell (.inl (.inl rfl)) _).setCell (.inl (.inr rfl)) _).alloc _).drew
  ·have:=heap_alloc_new ((((w1.setCell ⟨g,0,none⟩ (.int .i64 em.whenT)).setCell ⟨g,1,none⟩ (.int .u64 (em.order:Nat))).setCell ⟨g,2,none⟩ (.int .i64 em.g)).setCell ⟨b,k,none⟩ (.slice (some ⟨g,0,none⟩) m cap)) (.cells #[.int .i64 e0.whenT,.int .u64 (e0.order:Nat),.int .i64 e0.g] 245)
   simp only [World.size_setCell] at this
   exact this
  ·show (World.alloc _ _).heap[_]?=_
   refine (Below.heap_alloc _ _ w.heap.size (by simp;omega)).trans ?_
   refine (Below.heap_setCell _ ⟨b,k,none⟩ _ w.heap.size (by show w.heap.size≠b;omega)).trans ?_
   refine (Below.heap_setCell _ ⟨g,2,none⟩ _ w.heap.size (by show w.heap.size≠g;omega)).trans ((Below.heap_setCell _ ⟨g,1,none⟩ _ w.heap.size (by show w.heap.size≠g;omega)).trans ((Below.heap_setCell _ ⟨g,0,none⟩ _ w.heap.size (by show w.heap.size≠g;omega)).trans HRB.out))
  ·intro o
   show World.frozen? (World.alloc _ _) _=_
   refine (World.frozen?_of_block (a:=⟨b,o,none⟩) (Below.heap_alloc _ _ b (by simp;omega))).trans ?_
   rw [World.frozen?_setCell,World.frozen?_setCell,World.frozen?_setCell,World.frozen?_setCell]
   exact World.frozen?_of_block (a:=⟨b,o,none⟩) ((HB.out.block b (by simp;omega)).trans (Below.heap_alloc w _ b lb))
 rintro W ⟨a1,a2,a3,a4,a5,a6,a7⟩
 have A7:=Lib.hid a7
 clear a7
 have lbW:b<W.heap.size:=World.block_lt_of_cell? W _ a1
 have lgW:g<W.heap.size:=by
  obtain ⟨x0,_,_⟩:=HRow.out.get 0 HL.out
  have:=World.block_lt_of_cell? _ _ x0
  have:=a4.size
  omega
 have hi:0<(zep l).length∨zep l=[]:=by
  rcases Nat.eq_zero_or_pos (zep l).length with h | h
  ·exact .inr (List.length_eq_zero_iff.1 h)
  ·exact .inl h
 have A3:=Lib.hid a3
 have A5:=Lib.hid a5
 have A4:=Lib.hid a4
 refine (down_any b k g cap 0 (zep l) W hi (by omega) hg (by omega) a1 a2).mono ?_
 rintro e w4 ⟨rfl,⟨f,hf,hr⟩,M⟩
 have m5:w4.heap[w1.heap.size]?=some (.cells #[.int .i64 e0.whenT,.int .u64 (e0.order:Nat),.int .i64 e0.g] 245 (0,0)):=(M.block w1.heap.size (zaB A5.out) (by show ¬ w1.heap.size=g;omega)).trans A5.out
 have m6:w4.heap[w.heap.size]?=some (.cells #[.int .i64 0,.int .u64 0,.int .i64 0] 245 (0,0)):=(M.block w.heap.size (zaB a6) (by show ¬ w.heap.size=g;omega)).trans a6
 have u0:=zaa m6 0
 have u1:=zaa m6 1
 have u2:=zaa m6 2
 have z6:∀ o,w4.frozen? ⟨w.heap.size,o,none⟩=false:=fun o=>by simp [World.frozen?,m6]
 have M6:=Lib.hid m6
 simp at u0 u1 u2
 have v0:=zaa m5 0
 have v1:=zaa m5 1
 have v2:=zaa m5 2
 have hbn:¬ b=g:=fun e=>hg e.symm
 have q1:w4.cell? ⟨b,k,none⟩=some (.slice (some ⟨g,0,none⟩) (zep l).length cap):=M.cell hbn a1
 have q3:∀ o,o≠k→w4.cell? ⟨b,o,none⟩=w.cell? ⟨b,o,none⟩:=fun o ho=>(World.cell?_of_block (a:=⟨b,o,none⟩) (M.block b lbW hbn)).trans (A3.out o ho)
 have q7:∀ o,w4.frozen? ⟨b,o,none⟩=w.frozen? ⟨b,o,none⟩:=fun o=>(World.frozen?_of_block (a:=⟨b,o,none⟩) (M.block b lbW hbn)).trans (A7.out o)
 have Q7:=Lib.hid q7
 clear q7
 have q4:Mod (fun x=>x=g∨x=b) w w4:=A4.out.trans1 (M.mono fun x _ h=>.inl h)
 have Q1:=Lib.hid q1
 have Q3:=Lib.hid q3
 have Q4:=Lib.hid q4
 have HR:=Lib.hid hr
 have HFF:=Lib.hid hf
 have HLN:=Lib.hid hlen
 clear q1 q3 q4 hr hf hlen M m5 m6 a6 a1 a2 a3 a4 a5 A3 A4 A5 hs hs2 hs3 hm0w hoth0 HRow HB HF hbn hi
 go_wp2
 refine zdl (fun W=>W.heap[w.heap.size]?=some (.cells #[.int .i64 e0.whenT,.int .u64 (e0.order:Nat),.int .i64 e0.g] 245 (0,0))∧Below w.heap.size w4 W) ?_ ?_
 ·have e1:=heap_setCell_same _ _ 0 _ _ (.int .i64 e0.whenT) M6.out
  have e2:=heap_setCell_same _ _ 1 _ _ (.int .u64 (e0.order:Nat)) e1
  have e3:=heap_setCell_same _ _ 2 _ _ (.int .i64 e0.g) e2
  exact ⟨e3,(((Below.refl w.heap.size w4).setCell (p:=⟨w.heap.size,0,none⟩) (Nat.le_refl _) _).setCell (p:=⟨w.heap.size,1,none⟩) (Nat.le_refl _) _).setCell (p:=⟨w.heap.size,2,none⟩) (Nat.le_refl _) _⟩
 rintro W5 ⟨b5,K5⟩
 have t0:=zaa b5 0
 have t1:=zaa b5 1
 have t2:=zaa b5 2
 simp at t0 t1 t2
 have K5:=Lib.hid K5
 clear b5 u0 u1 u2 v0 v1 v2
 apply bodyPost_ret (v:=.tuple #[.agg #[.int .i64 e0.whenT,.int .u64 (e0.order:Nat),.int .i64 e0.g],.bool true])
 ·simp [results,Tryz.results243,go_sem,t0,t1,t2]
 ·rfl
 have hbk:∀ x,x<w.heap.size→W5.heap[x]?=w4.heap[x]?:=fun x hx=>K5.out.block x hx
 have lgw:g<w.heap.size:=lg
 refine ⟨by rw [← HE0.out],(World.cell?_of_block (a:=⟨b,k,none⟩) (hbk b lb)).trans Q1.out,⟨f,HFF.out,HR.out.same (hbk g lgw)⟩,fun o ho=>(World.cell?_of_block (a:=⟨b,o,none⟩) (hbk b lb)).trans (Q3.out o ho),fun o=>(World.frozen?_of_block (a:=⟨b,o,none⟩) (hbk b lb)).trans (Q7.out o),?_⟩
 exact ⟨K5.out.os.trans Q4.out.os,K5.out.tape.trans Q4.out.tape,K5.out.output.trans Q4.out.output,Nat.le_trans Q4.out.size K5.out.size,fun x hx hs=>(hbk x hx).trans (Q4.out.block x hx hs)⟩
theorem za7 {B e size n:Nat} {v:Value} {xs:List Value} {W W':World} (h:W.ownsRow B e size v n xs) (hb:Below W.heap.size W W'):W'.ownsRow B e size v n xs:=by
 refine ⟨h.1,?_⟩
 rcases h.2 with hn | ⟨g,cap,cur,hv,hbg,hg,rest⟩
 ·exact .inl hn
 ·exact .inr ⟨g,cap,cur,hv,hbg,(zaJ hb (zaB hg)).trans hg,rest⟩
theorem infoEntry:(Tryz.prog.info? 245).map (fun i=>(i.zero,i.size,i.bytes))=some (some (.agg #[.int .i64 0,.int .u64 0,.int .i64 0]),3,24):=by kernel_rfl
theorem zdQ (l m:List Ent):zeg (l++m)=zeg l++zeg m:=by simp [zeg]
theorem hput_any (b k:Nat) (v:Value) (l:List Ent) (e:Ent) (w:World) (hbig:l.length<65536) (hf:∀ o,w.frozen? ⟨b,o,none⟩=false) (c0:w.cell? ⟨b,k,none⟩=some v)
  (h:w.ownsRow 0 245 3 v l.length (zeg l)) (hne:v.ownBlock≠some b) :
  Calls Tryz.prog 257 #[.pointer (some ⟨b,k,none⟩),entV e] w fun r w'=>r=.returned (.tuple #[]) ∧
   ∃ g cap,g≠b∧(v.ownBlock=some g∨w.heap.size≤g)∧(∀ o,w'.frozen? ⟨b,o,none⟩=false)∧w'.cell? ⟨b,k,none⟩=some (.slice (some ⟨g,0,none⟩) (l.length+1) cap)∧RowE w' g cap (upE (l.length+1) (l++[e]) l.length)∧(∀ o,o≠k→w'.cell? ⟨b,o,none⟩=w.cell? ⟨b,o,none⟩)∧Mod (fun x=>v.ownBlock=some x∨x=b) w w':=by
 obtain ⟨i0,hi,hz0,hz1,hz2⟩:=info_parts infoEntry
 have lb:=World.block_lt_of_cell? w _ c0
 simp only at lb
 obtain ⟨et,eo,eg⟩:=e
 unfold entV
 dsimp only
 have HR:=Lib.hid h
 have HNE:=Lib.hid hne
 clear h hne
 go_enter Tryz.func257,Tryz.ntmps257
 go_wp2
 refine zaT (fun W=>W.heap[w.heap.size]?=some (.cells #[.int .i64 et,.int .u64 (eo:Nat),.int .i64 eg] 245 (0,0))∧Below w.heap.size w W) ⟨heap_alloc_new w _,zab w _⟩ ?_
 rintro w1 ⟨hx,K⟩
 have y0:=zaa hx 0
 have y1:=zaa hx 1
 have y2:=zaa hx 2
 simp only [List.getElem?_toArray,List.getElem?_cons_zero,List.getElem?_cons_succ] at y0 y1 y2
 have hlt:=zaB hx
 have c1:w1.cell? ⟨b,k,none⟩=some v:=(below_cell K lb).trans c0
 have f1:∀ o,w1.frozen? ⟨b,o,none⟩=false:=fun o=>(World.frozen?_of_block (a:=⟨b,o,none⟩) (K.block b lb)).trans (hf o)
 have lb1:b<w1.heap.size:=Nat.lt_of_lt_of_le lb K.size
 have HK:=Lib.hid K
 have hown:∀ o,((w1.alloc o).drew).ownsRow 0 245 3 v l.length (zeg l):=fun o=>by
  have h1:=za7 HR.out K
  exact (za7 h1 (zab w1 o)).drew
 have HOWN:=Lib.hid hown
 have hc2:∀ o,((w1.alloc o).drew).cell? ⟨b,k,none⟩=some v:=fun o=>(World.cell?_of_block (a:=⟨b,k,none⟩) (Below.heap_alloc w1 o b lb1)).trans c1
 have hf2:∀ o q,((w1.alloc o).drew).frozen? ⟨b,q,none⟩=false:=fun o q=>(World.frozen?_of_block (a:=⟨b,q,none⟩) (Below.heap_alloc w1 o b lb1)).trans (f1 q)
 have C2:=Lib.hid hc2
 have F2:=Lib.hid hf2
 clear hc2 hf2
 clear hx K hown c0 hf
 go_region_law (first | (refine step_append_lies _ (by rfl) _ _ _ (by rfl) 0 245 i0 _ 3 24 Tryz.underlying237 hi hz0 hz1 hz2 rfl (by omega) _ l.length _ (by rfl) (HOWN.out _) ⟨w1.heap.size,0,none⟩ 1 1 [.int .i64 et,.int .u64 (eo:Nat),.int .i64 eg] (by rfl) (by rfl) (World.news_of_block (cs:=#[.int .i64 et,.int .u64 (eo:Nat),.int .i64 eg]) (t:=245) (fr:=(0,0)) (heap_alloc_new w1 _)) (by simp [Value.oneCell']) (by omega) (by unfold maxLen;omega) (by omega) (by simp) (w1.heap.size+1) (by simp) ?_;intro gg cap w3 hown3 hgrow hat hlt4;have k15:=hgrow.cell (a:=⟨b,k,none⟩) (C2.out _) (fun e=>HNE.out e.symm);have kf:=fun q=>(hgrow.frozen_far ⟨b,q,none⟩ (by simp;omega) (fun e=>HNE.out e.symm)).trans (F2.out _ q)))
 all_goals (
  have hgb:gg≠b:=by
   intro e
   rcases hat with h | h
   ·exact HNE.out (e ▸ h)
   ·omega
  have hrow4:RowE w3 gg cap (l++[(⟨et,eo,eg⟩:Ent)]):=by
   unfold RowE
   rw [zdQ,List.length_append]
   exact hown3
  have hrow5:∀ u,RowE (w3.setCell ⟨b,k,none⟩ u) gg cap (l++[(⟨et,eo,eg⟩:Ent)]):=fun u=>hrow4.same (Below.heap_setCell _ ⟨b,k,none⟩ _ _ hgb)
  have hc5:∀ u,(w3.setCell ⟨b,k,none⟩ u).cell? ⟨b,k,none⟩=some u:=fun u=>World.cell?_setCell_same _ _ _ k15
  have t1:IntKind.i64.wrap ((l.length:Int)+1 - 1)=(l.length:Int):=by rw [show (l.length:Int)+1 - 1=(l.length:Int) by omega];exact IntWalk.i64_in _ (by omega)
  have t2:IntKind.i64.wrap (l.length:Int)=(l.length:Int):=IntWalk.i64_in _ (by omega)
  have hblk:∀ x,x<w.heap.size→v.ownBlock≠some x→w3.heap[x]?=w.heap[x]?:=fun x hx hs=>(hgrow.block x (by have:=HK.out.size;simp;omega) (fun e=>hs e.symm)).trans ((Below.heap_alloc w1 _ x (by have:=HK.out.size;omega)).trans (HK.out.block x hx))
  have hM3:Mod (fun x=>v.ownBlock=some x∨x=b) w (w3.setCell ⟨b,k,none⟩ (.slice (some ⟨gg,0,none⟩) (l.length+1) cap)) :=
   ⟨hgrow.os.trans HK.out.os,hgrow.tape.trans HK.out.tape,hgrow.output.trans HK.out.output,by have h1:=hgrow.size;have h2:=HK.out.size;simp at h1 ⊢;omega,fun x hx hs=>(Below.heap_setCell _ ⟨b,k,none⟩ _ x (fun e=>hs (.inr e))).trans (hblk x hx (fun e=>hs (.inl e)))⟩
  have hO3:∀ o,o≠k→(w3.setCell ⟨b,k,none⟩ (.slice (some ⟨gg,0,none⟩) (l.length+1) cap)).cell? ⟨b,o,none⟩=w.cell? ⟨b,o,none⟩:=fun o ho =>
   (World.cell?_setCell_other _ ⟨b,k,none⟩ ⟨b,o,none⟩ _ (by intro e;injection e with _ e2 _;exact ho e2.symm)).trans (World.cell?_of_block (a:=⟨b,o,none⟩) (hblk b lb HNE.out))
  have hbs:b<w3.heap.size:=by have h1:=hgrow.size;simp at h1;omega
  have hfz:∀ o,(w3.setCell ⟨b,k,none⟩ (.slice (some ⟨gg,0,none⟩) (l.length+1) cap)).frozen? ⟨b,o,none⟩=false:=fun o=>by rw [World.frozen?_setCell];exact kf o
  have HFZ:=Lib.hid hfz
  clear hfz
  have hgs:v.ownBlock=some gg∨w.heap.size≤gg:=by
   rcases hat with h | h
   ·exact .inl h
   ·right;have:=HK.out.size;omega
  have HGS:=Lib.hid hgs
  have HM:=Lib.hid hM3
  have HO:=Lib.hid hO3
  have HR5:=Lib.hid hrow5
  have HC5:=Lib.hid hc5
  have hc6:=hc5 (.slice (some ⟨gg,0,none⟩) (l.length+1) cap)
  clear hM3 hO3 hrow5 hrow4 hc5 hown3 hblk hgs
  go_wp2_with fail
  refine (up_any b k gg cap l.length (l++[(⟨et,eo,eg⟩:Ent)]) _ (by simp) (by simp;omega) hgb (by rw [List.length_append];exact hc6) (HR5.out _)).mono ?_
  rintro e2 w5 ⟨rfl,hr5,M5⟩
  have hbg:¬ b=gg:=fun e=>hgb e.symm
  have q1:=M5.cell (a:=⟨b,k,none⟩) hbg hc6
  have q2:∀ o,o≠k→w5.cell? ⟨b,o,none⟩=w.cell? ⟨b,o,none⟩:=fun o ho=>(World.cell?_of_block (a:=⟨b,o,none⟩) (M5.block b (by simpa using hbs) hbg)).trans (HO.out o ho)
  have q3:Mod (fun x=>v.ownBlock=some x∨x=b) w w5:=HM.out.trans (M5.mono fun x _ hx=>by
   rcases HGS.out with h | h
   ·exact .inl (.inl (by rw [h,hx]))
   ·exact .inr (by rw [hx];exact h))
  have q0:∀ o,w5.frozen? ⟨b,o,none⟩=false:=fun o=>(World.frozen?_of_block (a:=⟨b,o,none⟩) (M5.block b (by simpa using hbs) hbg)).trans (HFZ.out o)
  have Q0:=Lib.hid q0
  clear q0
  have Q:=Lib.hid (And.intro q1 (And.intro hr5 (And.intro q2 q3)))
  clear q1 q2 q3 hr5 M5 hc6
  go_wp2_with fail
  go_returns
  exact ⟨rfl,gg,cap,hgb,HGS.out,Q0.out,Q.out.1,Q.out.2.1,Q.out.2.2.1,Q.out.2.2.2⟩)
end Go.Proofs.YtlmmjgekolpekaaGreatDoor
