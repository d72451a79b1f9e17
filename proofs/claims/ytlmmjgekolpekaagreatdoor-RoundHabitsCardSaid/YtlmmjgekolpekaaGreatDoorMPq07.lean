/- Parts of the proof. -/
import Derived.Test.YtlmmjgekolpekaaGreatDoorMPk12
import Derived.Test.YtlmmjgekolpekaaGreatDoorMPk02
set_option linter.unusedVariables false
set_option linter.unusedSimpArgs false
set_option linter.unusedSectionVars false
set_option maxRecDepth 100000
set_option maxHeartbeats 6400000
namespace Go.Proofs.YtlmmjgekolpekaaGreatDoor
open Go Go.RowKit Hst Go.Proofs
theorem zbX {w w2:World} {o:Obj} {row:Option Nat} (hg:(w.alloc o).grownBy w2 row) {b k:Nat} {v:Value} (hb:b<w.heap.size) (hne:some b≠row) (hc:w.cell? ⟨b,k,none⟩=some v):w2.cell? ⟨b,k,none⟩=some v :=
 hg.cell (a:=⟨b,k,none⟩) ((World.cell?_of_block (a:=⟨b,k,none⟩) (Below.heap_alloc w o b hb)).trans hc) hne
theorem zbC {w w2:World} {o:Obj} {row:Option Nat} (hg:(w.alloc o).grownBy w2 row) {b k:Nat} (hb:b<w.heap.size) (hne:some b≠row) (hc:w.frozen? ⟨b,k,none⟩=false):w2.frozen? ⟨b,k,none⟩=false :=
 (World.frozen?_of_block (a:=⟨b,k,none⟩) ((hg.block b (by simp;omega) hne).trans (Below.heap_alloc w o b hb))).trans hc
theorem zbe (v:Value) (base:Nat) (l:List Int) (x:Int) (w:World) (hown:w.ownsRow base 3 1 v l.length (ints l)) (hbig:l.length≤4294967296) :
  Calls Tryz.prog 159 #[v,.int .i64 x] w fun e w'=>e=.returned (.bool (l.contains x))∧w'=w:=by
 rcases Nat.eq_zero_or_pos l.length with h0 | h0
 ·have hl:l=[]:=List.eq_nil_of_length_eq_zero h0
  subst hl
  obtain ⟨a,c,rfl⟩:=zac hown
  exact Tryz.slices_Contains_int_empty a c x w
 ·obtain ⟨g,cap,rfl,_,_,_⟩:=zar hown h0
  have hcell:∀ j,j<l.length→w.cell? ⟨g,0+j,none⟩=some (.int .i64 (l.getD j 0)):=fun j hj=>by
   rw [Nat.zero_add,hown.cellAt j (by simpa using hj)];simp [ints,List.getD_eq_getElem?_getD,List.getElem?_eq_getElem hj]
  have h:=Tryz.slices_Contains_int g 0 l.length cap l x w (Nat.le_refl _) (by omega) hcell
  rw [List.take_length] at h
  exact h
theorem putp_new (S:Nat→Prop) (b mk mw n m q:Nat) (x:Hst.Idle) (w:World) (h:IdleH S b mk mw w n m x) (hp:x.pending=[]) (hq:q<n) (hb:x.p.testBit q=false) :
  Calls Tryz.prog 124 #[.pointer (some ⟨b,0,none⟩),.int .i64 q] w fun e w'=>e=.returned (.bool true)∧IdleH S b mk mw w' n m { x with p:=x.p^^^2^q }∧Mod S w w':=by
 obtain ⟨pv,mv,r1,r2,r3,r4,r5,r6,r7,r8⟩:=h.rows
 have c0:=h.c0
 have hc:=fun w1 (e:w1.ownsRow 0 3 1 pv x.pending.length (ints x.pending))=>zbe pv 0 x.pending q w1 e (by rw [hp];simp)
 rw [hp] at hc r3
 have HC:=Lib.hid (hc w r3)
 have ht:=turn_yes mk mw n q x.p false w h.n_le hq h.bits h.ne.2.2 h.k0 h.k1 h.kw (h.fr.2.2 0) hb
 have HT:=Lib.hid ht
 have H:=Lib.hid h
 have H1:=Lib.hid r1
 have H2:=Lib.hid r2
 have H3:=Lib.hid r3
 have H4:=Lib.hid r4
 have HP:=Lib.hid hp
 clear h hc r2 r3 r4 ht hp
 go_enter Tryz.func124,Tryz.ntmps124
 go_wp2_with (first | (go_at_call 159;refine HC.out.mono ?_;rintro e w1 ⟨rfl,hw⟩;have hw:=hw.symm;subst hw) | (go_at_call 160;go_in) | (go_at_call 188;refine HT.out.mono ?_;rintro e w1 ⟨rfl,rfl⟩))
 go_returns
 have h:=H.out
 have nb:mw≠b:=fun e=>h.ne.2.1 e.symm
 have nk:mw≠mk:=fun e=>h.ne.2.2 e.symm
 refine ⟨rfl,⟨h.inS,h.ne,?_,⟨pv,mv,?_,?_,?_,?_,r5,r6,r7,r8⟩,?_,?_,?_,?_,?_,⟨?_,?_,?_⟩,?_,h.n_le⟩,?_⟩
 ·exact (cell_far nb _).trans h.c0
 ·exact (cell_far nb _).trans H1.out
 ·exact (cell_far nb _).trans H2.out
 ·show World.ownsRow (World.setCell _ _ _) 0 _ 1 pv x.pending.length (ints x.pending)
  rw [HP.out]
  exact ownsRow_far H3.out (fun e=>(r7 _ e).2.2.1 rfl)
 ·exact ownsRow_far H4.out (fun e=>(r8 _ e).2.2 rfl)
 ·exact (cell_far nb _).trans h.c3
 ·exact (cell_far nb _).trans h.c4
 ·exact (cell_far nk _).trans h.k0
 ·exact (cell_far nk _).trans h.k1
 ·exact World.cell?_setCell_same _ _ _ h.kw
 ·intro o;exact (World.frozen?_setCell _ _ _ _).trans (h.fr.1 o)
 ·intro o;exact (World.frozen?_setCell _ _ _ _).trans (h.fr.2.1 o)
 ·intro o;exact (World.frozen?_setCell _ _ _ _).trans (h.fr.2.2 o)
 ·exact Nat.xor_lt_two_pow h.bits (Nat.pow_lt_pow_right (by decide) hq)
 ·exact ((Mod.refl S w).setCell (.inl h.inS.2.2) _).drew
theorem stop_new (S:Nat→Prop) (b mk mw n m i:Nat) (x:Hst.Idle) (w:World) (h:IdleH S b mk mw w n m x) (hi:i<m) (hn:x.poller≠(i:Int)) (hm:x.m.contains (i:Int)=false) (hbig:x.m.length≤65536) (hM:m≤65536) :
  Calls Tryz.prog 125 #[.pointer (some ⟨b,0,none⟩),.int .i64 i] w fun e w'=>e=.returned (.tuple #[.bool (x.stop i).2.1,.bool true])∧IdleH (fun y=>S y∨w.heap.size≤y) b mk mw w' n m (x.stop i).1∧Mod S w w':=by
 obtain ⟨pv,mv,r1,r2,r3,r4,r5,r6,r7,r8⟩:=h.rows
 have hc:=zbe mv 0 x.m i w r4 (by omega)
 rw [hm] at hc
 have HC:=Lib.hid hc
 have c2:=r2
 have c3:=h.c3
 have c4:=h.c4
 have fb:=h.fr.1
 have lb:=World.block_lt_of_cell? w _ c3
 simp only at lb
 obtain ⟨i0,hi0,hz0,hz1,hz2⟩:=info_parts Tryz.infoInt
 have hi1:¬ (m:Int)≤(i:Int):=by omega
 have hn1:((i:Int)==x.poller)=false:=by rw [beq_eq_false_iff_ne];exact fun e=>hn e.symm
 have hnm:¬ (i:Int)∈x.m:=by intro e;rw [List.contains_iff_mem.2 e] at hm;cases hm
 have hxs:(x.stop i).1=if x.poller = -1 then { x with poller:=(i:Int) } else { x with m:=x.m++[(i:Int)] }:=by
  unfold Idle.stop
  rw [if_neg (by rintro (e | e);exact hn e.symm;exact hnm e)]
  split <;> rfl
 have hxb:(x.stop i).2.1=if x.poller = -1 then true else false:=by
  unfold Idle.stop
  rw [if_neg (by rintro (e | e);exact hn e.symm;exact hnm e)]
  split <;> rfl
 rw [hxs,hxb]
 clear hxb
 have H:=Lib.hid h
 have H2:=Lib.hid r2
 have H3:=Lib.hid r3
 have H4:=Lib.hid r4
 clear h hc r2 r3 r4 hm hxs hnm hn
 by_cases hpo:x.poller = -1
 ·rw [if_pos hpo,if_pos hpo]
  rw [hpo] at c3 hn1
  have HPO:=Lib.hid hpo
  clear hpo
  go_enter Tryz.func125,Tryz.ntmps125
  go_wp2_with (first | (go_at_call 159;refine HC.out.mono ?_;rintro e w1 ⟨rfl,hw⟩;have hw:=hw.symm;subst hw))
  go_returns
  have h:=H.out
  have bk:=h.ne.1
  have bw:=h.ne.2.1
  refine ⟨rfl,⟨⟨.inl h.inS.1,.inl h.inS.2.1,.inl h.inS.2.2⟩,h.ne,?_,⟨pv,mv,?_,?_,?_,?_,fun g e=>.inl (r5 g e),fun g e=>.inl (r6 g e),r7,r8⟩,?_,?_,?_,?_,?_,⟨?_,?_,?_⟩,h.bits,h.n_le⟩,?_⟩
  ·rw [zaf h.c3,if_neg (by decide)];exact h.c0
  ·rw [zaf h.c3,if_neg (by decide)];exact r1
  ·rw [zaf h.c3,if_neg (by decide)];exact H2.out
  ·exact ownsRow_far H3.out (fun e=>(r7 _ e).1 rfl)
  ·exact ownsRow_far H4.out (fun e=>(r8 _ e).1 rfl)
  ·rw [zaf h.c3];rfl
  ·rw [zaf h.c3,if_neg (by decide)];exact h.c4
  ·exact (cell_far bk _).trans h.k0
  ·exact (cell_far bk _).trans h.k1
  ·exact (cell_far bw _).trans h.kw
  ·intro o;exact (World.frozen?_setCell _ _ _ _).trans (h.fr.1 o)
  ·intro o;exact (World.frozen?_setCell _ _ _ _).trans (h.fr.2.1 o)
  ·intro o;exact (World.frozen?_setCell _ _ _ _).trans (h.fr.2.2 o)
  ·exact (Mod.refl S w).setCell (.inl h.inS.1) _
 ·rw [if_neg hpo,if_neg hpo]
  have hpo2:(x.poller == -1)=false:=by rw [beq_eq_false_iff_ne];exact hpo
  clear hpo
  have mb:mv.ownBlock≠some b:=fun e=>(r8 _ e).1 rfl
  have mk':mv.ownBlock≠some mk:=fun e=>(r8 _ e).2.1 rfl
  have mw':mv.ownBlock≠some mw:=fun e=>(r8 _ e).2.2 rfl
  go_enter Tryz.func125,Tryz.ntmps125
  go_wp2_with (first | (go_at_call 159;refine HC.out.mono ?_;rintro e w1 ⟨rfl,hw⟩;have hw:=hw.symm;subst hw) | (at_builtin;refine wpList_append_lies _ rfl _ _ 45 rfl 0 3 i0 (.int .i64 0) 1 8 Tryz.underlying45 hi0 hz0 hz1 hz2 rfl (by decide) mv x.m.length (ints x.m) rfl (H4.out.alloc _) ⟨w.heap.size,0,none⟩ 1 1 [.int .i64 i] rfl rfl (World.news_of_block (cs:=#[.int .i64 i]) (t:=3) (fr:=(0,0)) (heap_alloc_new w _)) (by simp [Value.oneCell']) (by omega) (by unfold maxLen;omega) (by omega) (by simp) (w.heap.size+1) (by simp) ?_;intro g cap w2 hown2 hgrow hat hlt;have k2:=zbX hgrow lb (Ne.symm mb) H2.out;have kf:=fun o=>zbC hgrow lb (Ne.symm mb) (fb o)))
  go_returns
  have h:=H.out
  have bk:=h.ne.1
  have bw:=h.ne.2.1
  have lk:=World.block_lt_of_cell? w _ h.k0
  have lw:=World.block_lt_of_cell? w _ h.kw
  simp only at lk lw
  have old:∀ y o v,y<w.heap.size→mv.ownBlock≠some y→y≠b→w.cell? ⟨y,o,none⟩=some v→(w2.setCell ⟨b,2,none⟩ (.slice (some ⟨g,0,none⟩) (x.m.length+1) cap)).cell? ⟨y,o,none⟩=some v:=fun y o v hy hne hyb hc=>by
   rw [cell_far (Ne.symm hyb)]
   exact zbX hgrow hy (Ne.symm hne) hc
  have oldf:∀ y o,y<w.heap.size→mv.ownBlock≠some y→w.frozen? ⟨y,o,none⟩=false→(w2.setCell ⟨b,2,none⟩ (.slice (some ⟨g,0,none⟩) (x.m.length+1) cap)).frozen? ⟨y,o,none⟩=false:=fun y o hy hne hc=>by
   rw [World.frozen?_setCell]
   exact zbC hgrow hy (Ne.symm hne) hc
  have oldb:∀ o v,o≠2→w.cell? ⟨b,o,none⟩=some v→(w2.setCell ⟨b,2,none⟩ (.slice (some ⟨g,0,none⟩) (x.m.length+1) cap)).cell? ⟨b,o,none⟩=some v:=fun o v ho hc=>by
   rw [zaf k2,if_neg ho]
   exact zbX hgrow lb (Ne.symm mb) hc
  have gb:g≠b:=fun e=>by rcases hat with h | h;exact mb (by rw [h,e]);omega
  have hgr:∀ y,y<w.heap.size→mv.ownBlock≠some y→g≠y:=fun y hy hne e=>by rcases hat with h | h;exact hne (by rw [h,e]);omega
  have hown3:w2.ownsRow 0 3 1 (.slice (some ⟨g,0,none⟩) (x.m.length+1) cap) (x.m++[(i:Int)]).length (ints (x.m++[(i:Int)])):=by
   have e:ints (x.m++[(i:Int)])=ints x.m++[.int .i64 i]:=by simp [ints]
   rw [e,List.length_append];exact hown2
  refine ⟨rfl,⟨⟨.inl h.inS.1,.inl h.inS.2.1,.inl h.inS.2.2⟩,h.ne,oldb 0 _ (by decide) h.c0,⟨pv,.slice (some ⟨g,0,none⟩) (x.m.length+1) cap,oldb 1 _ (by decide) r1,World.cell?_setCell_same _ _ _ k2,?_,ownsRow_far hown3 (by simpa [Value.ownBlock] using gb),fun y e=>.inl (r5 y e),?_,?_,?_⟩,oldb 3 _ (by decide) h.c3,oldb 4 _ (by decide) h.c4,old mk 0 _ lk mk' (Ne.symm bk) h.k0,old mk 1 _ lk mk' (Ne.symm bk) h.k1,old mw 0 _ lw mw' (Ne.symm bw) h.kw,⟨fun o=>oldf b o lb mb (h.fr.1 o),fun o=>oldf mk o lk mk' (h.fr.2.1 o),fun o=>oldf mw o lw mw' (h.fr.2.2 o)⟩,h.bits,h.n_le⟩,?_⟩
  ·refine ownsRow_far ?_ (fun e=>(r7 _ e).1 rfl)
   refine (H3.out.alloc _).kept hgrow ?_
   cases hpv:pv.ownBlock with
   | none=>exact .inl rfl
   | some y=>exact .inr (fun e=>(r7 y hpv).2.2.2 e.symm)
  ·intro y e
   have hy:y=g:=by simpa [Value.ownBlock] using e.symm
   subst hy
   rcases hat with h | h
   ·exact .inl (r6 _ h)
   ·exact .inr (by omega)
  ·intro y e
   obtain ⟨e1,e2,e3,e4⟩:=r7 y e
   refine ⟨e1,e2,e3,fun e5=>?_⟩
   have hy:g=y:=by simpa [Value.ownBlock] using e5
   exact hgr y (H3.out.lt y e).2 e4 hy
  ·intro y e
   have hy:y=g:=by simpa [Value.ownBlock] using e.symm
   subst hy
   exact ⟨gb,hgr mk lk mk',hgr mw lw mw'⟩
  ·have hm0:Mod S w w2:=⟨hgrow.os,hgrow.tape,hgrow.output,by have:=hgrow.size;simp at this;omega,fun y hy hs=>(hgrow.block y (by simp;omega) (fun e=>hs (r6 _ e.symm))).trans (Below.heap_alloc w _ y hy)⟩
   exact hm0.setCell (p:=⟨b,2,none⟩) (.inl h.inS.1) _
end Go.Proofs.YtlmmjgekolpekaaGreatDoor
namespace Go.Proofs
open Go.Shelf
def Tryz.lays29_ren:Go.Shelf.Ren:=⟨fun | 29=>252 | n=>n,fun | 54=>306 | 22=>48 | 25=>270 | 3=>3 | 4=>4 | 5=>5 | n=>n,fun | 1=>3 | n=>n⟩
theorem Tryz.lays29:Go.Proofs.Lays7.n29 Tryz.prog Tryz.lays29_ren:={
 mixed:=by kernel_rfl
 f29:=Tryz.func252.trans (congrArg some (by kernel_rfl))
 t0:=by kernel_rfl
 a0:=fun w=>by kernel_rfl
 z0:=fun w=>by kernel_rfl
 v0:=fun w=>by kernel_rfl
 i0:=by kernel_rfl
 t3:=Tryz.underlying3
 a3:=Tryz.isAgg3
 z3:=Tryz.sizeOf3
 v3:=Tryz.zeroValue3
 i3:=by kernel_rfl
 t4:=Tryz.underlying4
 a4:=Tryz.isAgg4
 z4:=Tryz.sizeOf4
 v4:=Tryz.zeroValue4
 i4:=by kernel_rfl
 t5:=Tryz.underlying5
 a5:=fun w=>by kernel_rfl
 z5:=fun w=>by kernel_rfl
 v5:=fun w=>by kernel_rfl
 i5:=by kernel_rfl
 t22:=Tryz.underlying48
 a22:=Tryz.isAgg48
 z22:=Tryz.sizeOf48
 v22:=Tryz.zeroValue48
 i22:=by kernel_rfl
 t25:=Tryz.underlying270
 a25:=fun w=>by kernel_rfl
 z25:=fun w=>by kernel_rfl
 v25:=fun w=>by kernel_rfl
 i25:=by kernel_rfl
 t54:=Tryz.underlying306
 a54:=fun w=>by kernel_rfl
 z54:=fun w=>by kernel_rfl
 g1:=by kernel_rfl }
end Go.Proofs
namespace Go.Proofs.YtlmmjgekolpekaaGreatDoor
open Go Go.RowKit Hst Go.Proofs
theorem zcz:∀ (f x:Nat),0<x→x<2^f→∀ j,j<Lib.ctzFrom f x→x.testBit j=false
 | 0,x,h0,h,_,_=>by simp at h;omega
 | f+1,x,h0,h,j,hj=>by
  unfold Lib.ctzFrom at hj
  split at hj
  ·omega
  ·rename_i h1
   cases j with
   | zero=>rw [Nat.testBit_zero];simp;omega
   | succ j=>rw [Nat.testBit_succ];exact zcz f (x / 2) (by omega) (by rw [Nat.pow_succ] at h;omega) j (by omega)
theorem zdv:∀ (f x:Nat),0<x→x<2^f→x.testBit (Lib.ctzFrom f x)=true∧Lib.ctzFrom f x<f
 | 0,x,h0,h=>by simp at h;omega
 | f+1,x,h0,h=>by
  unfold Lib.ctzFrom
  split
  ·rename_i h1;exact ⟨by rw [Nat.testBit_zero];simpa using h1,by omega⟩
  ·rename_i h1
   obtain ⟨a,b⟩:=zdv f (x / 2) (by omega) (by rw [Nat.pow_succ] at h;omega)
   refine ⟨?_,by omega⟩
   rw [Nat.add_comm,Nat.testBit_succ];exact a
theorem ctz_low (x:Nat) (hx0:x≠0) (hx:x<18446744073709551616):Lib.ctz 64 x=Hst.low x:=by
 have e:Lib.ctz 64 x=Lib.ctzFrom 64 x:=by simp [Lib.ctz,hx0]
 obtain ⟨a,b⟩:=zdv 64 x (by omega) hx
 have c:=zcz 64 x (by omega) hx
 rw [e]
 unfold Hst.low
 have:(List.range 64).find? (fun i=>x.testBit i)=some (Lib.ctzFrom 64 x):=by
  rw [List.find?_range_eq_some]
  exact ⟨a,by simpa using b,fun j hj=>by simp [c j hj]⟩
 rw [this];rfl
theorem deb_len:Lib.deBruijn64tab.length=64:=by decide
theorem tz_any {N:Nat} (x:Nat) (hx0:x≠0) (hx:x<18446744073709551616) (w:World) (T:Tabs N w) :
  Calls Tryz.prog 252 #[.int .u64 x] w fun e w'=>e=.returned (.int .i64 (Hst.low x:Nat))∧w'=w:=by
 have h:=Any7.bits_TrailingZeros64 Tryz.lays29 x hx w (fun _ j hj=>T.tz j (Nat.lt_of_lt_of_eq hj deb_len))
 rw [ctz_low x hx0 hx] at h
 exact h
theorem mnext_any {N:Nat} (mk mw n x:Nat) (w:World) (T:Tabs N w) (hn:1≤n∧n≤64) (hx:x<2^n) (c0:w.cell? ⟨mk,0,none⟩=some (.int .i64 n)) (c1:w.cell? ⟨mk,1,none⟩=some (.slice (some ⟨mw,0,none⟩) 1 1)) (cw:w.cell? ⟨mw,0,none⟩=some (.int .u64 x)) :
  Calls Tryz.prog 242 #[.pointer (some ⟨mk,0,none⟩),.int .i64 (-1)] w fun e w'=>e=.returned (.int .i64 (if x=0 then -1 else (Hst.low x:Nat)))∧w'=w:=by
 have hx64:=lt_word x n hn.2 hx
 obtain ⟨hn1,hn2⟩:=hn
 by_cases hz:x=0
 ·subst hz
  rw [if_pos rfl]
  have hor:bits .or .i64 0 63=63:=by decide
  have hd:decide ((63:Int)<(n:Int) - 1)=false:=by simp;omega
  clear hx hx64 T
  go_enter Tryz.func242,Tryz.ntmps242
  go_wp2
  refine wp_loop_rounds 2 ?_
  rw [rounds_succ]
  go_wp2
  rw [rounds_succ]
  go_wp2
  go_returns
  exact ⟨rfl,rfl⟩
 ·rw [if_neg hz]
  have ht:=tz_any x hz hx64 w T
  have HT:=Lib.hid ht
  have hz2:((x:Int) != 0)=true:=by simp;omega
  have hl64:Hst.low x<64:=by have:=(zbS hz hn2 hx).2;omega
  clear ht T hx
  go_enter Tryz.func242,Tryz.ntmps242
  go_wp2
  refine wp_loop_rounds 1 ?_
  rw [rounds_succ]
  go_wp2_with fail
  refine HT.out.mono ?_
  rintro e w1 ⟨rfl,rfl⟩
  go_wp2
  go_returns
  exact ⟨rfl,rfl⟩
theorem zbY {w:World} {base e g n cap size:Nat} {xs:List Value} (h:w.ownsRow base e size (.slice (some ⟨g,0,none⟩) n cap) n xs) (m:Nat) (hm:m≤n):w.ownsRow base e size (.slice (some ⟨g,0,none⟩) m cap) m (xs.take (m*size)):=by
 rcases h.2 with ⟨hn,_⟩ | ⟨g',cap',cur,hv',hbg,hg,hc,hm',hs,ht⟩
 ·cases hn
 ·simp only [Value.slice.injEq,Option.some.injEq,Addr.mk.injEq,and_true,true_and] at hv'
  obtain ⟨rfl,rfl⟩:=hv'
  have hle:m*size≤n*size:=Nat.mul_le_mul_right _ hm
  exact ⟨by rw [List.length_take,h.1];omega,.inr ⟨g,cap,cur,rfl,hbg,hg,by omega,hm',hs,by rw [← ht,List.take_take];congr 1;omega⟩⟩
section
variable {S:Nat→Prop} {b mk mw n m:Nat} {x:Hst.Idle} {w:World}
theorem IdleH.setBits (h:IdleH S b mk mw w n m x) (y:Nat) (hy:y<2^n):IdleH S b mk mw ((w.setCell ⟨mw,0,none⟩ (.int .u64 (y:Int))).drew) n m { x with p:=y }:=by
 obtain ⟨pv,mv,r1,r2,r3,r4,r5,r6,r7,r8⟩:=h.rows
 have nb:mw≠b:=fun e=>h.ne.2.1 e.symm
 have nk:mw≠mk:=fun e=>h.ne.2.2 e.symm
 refine ⟨h.inS,h.ne,?_,⟨pv,mv,?_,?_,?_,?_,r5,r6,r7,r8⟩,?_,?_,?_,?_,?_,⟨?_,?_,?_⟩,hy,h.n_le⟩
 ·exact (cell_far nb _).trans h.c0
 ·exact (cell_far nb _).trans r1
 ·exact (cell_far nb _).trans r2
 ·exact ownsRow_far r3 (fun e=>(r7 _ e).2.2.1 rfl)
 ·exact ownsRow_far r4 (fun e=>(r8 _ e).2.2 rfl)
 ·exact (cell_far nb _).trans h.c3
 ·exact (cell_far nb _).trans h.c4
 ·exact (cell_far nk _).trans h.k0
 ·exact (cell_far nk _).trans h.k1
 ·exact World.cell?_setCell_same _ _ _ h.kw
 ·intro o;exact (World.frozen?_setCell _ _ _ _).trans (h.fr.1 o)
 ·intro o;exact (World.frozen?_setCell _ _ _ _).trans (h.fr.2.1 o)
 ·intro o;exact (World.frozen?_setCell _ _ _ _).trans (h.fr.2.2 o)
theorem IdleH.drewN (h:IdleH S b mk mw w n m x) (k:Nat):IdleH S b mk mw (w.drewN k) n m x:=⟨h.inS,h.ne,h.c0,h.rows,h.c3,h.c4,h.k0,h.k1,h.kw,h.fr,h.bits,h.n_le⟩
theorem IdleH.setPoller (h:IdleH S b mk mw w n m x) (v:Int):IdleH S b mk mw (w.setCell ⟨b,3,none⟩ (.int .i64 v)) n m { x with poller:=v }:=by
 obtain ⟨pv,mv,r1,r2,r3,r4,r5,r6,r7,r8⟩:=h.rows
 have bk:=h.ne.1
 have bw:=h.ne.2.1
 refine ⟨h.inS,h.ne,?_,⟨pv,mv,?_,?_,?_,?_,r5,r6,r7,r8⟩,?_,?_,?_,?_,?_,⟨?_,?_,?_⟩,h.bits,h.n_le⟩
 ·rw [zaf h.c3,if_neg (by decide)];exact h.c0
 ·rw [zaf h.c3,if_neg (by decide)];exact r1
 ·rw [zaf h.c3,if_neg (by decide)];exact r2
 ·exact ownsRow_far r3 (fun e=>(r7 _ e).1 rfl)
 ·exact ownsRow_far r4 (fun e=>(r8 _ e).1 rfl)
 ·exact World.cell?_setCell_same _ _ _ h.c3
 ·rw [zaf h.c3,if_neg (by decide)];exact h.c4
 ·exact (cell_far bk _).trans h.k0
 ·exact (cell_far bk _).trans h.k1
 ·exact (cell_far bw _).trans h.kw
 ·intro o;exact (World.frozen?_setCell _ _ _ _).trans (h.fr.1 o)
 ·intro o;exact (World.frozen?_setCell _ _ _ _).trans (h.fr.2.1 o)
 ·intro o;exact (World.frozen?_setCell _ _ _ _).trans (h.fr.2.2 o)
theorem IdleH.set1 {S':Nat→Prop} {w':World} (h:IdleH S b mk mw w n m x) (hS:∀ y,S y→S' y) {pv':Value} {l':List Int}
  (hb:∀ o,o≠1→w'.cell? ⟨b,o,none⟩=w.cell? ⟨b,o,none⟩) (hk:∀ o,w'.cell? ⟨mk,o,none⟩=w.cell? ⟨mk,o,none⟩) (hw:∀ o,w'.cell? ⟨mw,o,none⟩=w.cell? ⟨mw,o,none⟩) (hf:∀ y o,y=b∨y=mk∨y=mw→w'.frozen? ⟨y,o,none⟩=w.frozen? ⟨y,o,none⟩)
  (h1:w'.cell? ⟨b,1,none⟩=some pv') (ho:w'.ownsRow 0 3 1 pv' l'.length (ints l')) (hin:RowIn S' pv') (hap:∀ g,pv'.ownBlock=some g→g≠b∧g≠mk∧g≠mw∧∀ mv,w.cell? ⟨b,2,none⟩=some mv→mv.ownBlock≠some g)
  (hm:∀ mv,w.cell? ⟨b,2,none⟩=some mv→w.ownsRow 0 3 1 mv x.m.length (ints x.m)→w'.ownsRow 0 3 1 mv x.m.length (ints x.m)):IdleH S' b mk mw w' n m { x with pending:=l' }:=by
 obtain ⟨pv,mv,r1,r2,r3,r4,r5,r6,r7,r8⟩:=h.rows
 exact ⟨⟨hS _ h.inS.1,hS _ h.inS.2.1,hS _ h.inS.2.2⟩,h.ne,(hb 0 (by decide)).trans h.c0,⟨pv',mv,h1,(hb 2 (by decide)).trans r2,ho,hm mv r2 r4,hin,fun g e=>hS _ (r6 g e),fun g e=>⟨(hap g e).1,(hap g e).2.1,(hap g e).2.2.1,(hap g e).2.2.2 mv r2⟩,r8⟩,
  (hb 3 (by decide)).trans h.c3,(hb 4 (by decide)).trans h.c4,(hk 0).trans h.k0,(hk 1).trans h.k1,(hw 0).trans h.kw,⟨fun o=>(hf b o (.inl rfl)).trans (h.fr.1 o),fun o=>(hf mk o (.inr (.inl rfl))).trans (h.fr.2.1 o),fun o=>(hf mw o (.inr (.inr rfl))).trans (h.fr.2.2 o)⟩,h.bits,h.n_le⟩
theorem IdleH.set2 {S':Nat→Prop} {w':World} (h:IdleH S b mk mw w n m x) (hS:∀ y,S y→S' y) {mv':Value} {l':List Int}
  (hb:∀ o,o≠2→w'.cell? ⟨b,o,none⟩=w.cell? ⟨b,o,none⟩) (hk:∀ o,w'.cell? ⟨mk,o,none⟩=w.cell? ⟨mk,o,none⟩) (hw:∀ o,w'.cell? ⟨mw,o,none⟩=w.cell? ⟨mw,o,none⟩) (hf:∀ y o,y=b∨y=mk∨y=mw→w'.frozen? ⟨y,o,none⟩=w.frozen? ⟨y,o,none⟩)
  (h1:w'.cell? ⟨b,2,none⟩=some mv') (ho:w'.ownsRow 0 3 1 mv' l'.length (ints l')) (hin:RowIn S' mv') (hap:∀ g,mv'.ownBlock=some g→g≠b∧g≠mk∧g≠mw∧∀ pv,w.cell? ⟨b,1,none⟩=some pv→pv.ownBlock≠some g)
  (hp:∀ pv,w.cell? ⟨b,1,none⟩=some pv→w.ownsRow 0 3 1 pv x.pending.length (ints x.pending)→w'.ownsRow 0 3 1 pv x.pending.length (ints x.pending)):IdleH S' b mk mw w' n m { x with m:=l' }:=by
 obtain ⟨pv,mv,r1,r2,r3,r4,r5,r6,r7,r8⟩:=h.rows
 exact ⟨⟨hS _ h.inS.1,hS _ h.inS.2.1,hS _ h.inS.2.2⟩,h.ne,(hb 0 (by decide)).trans h.c0,⟨pv,mv',(hb 1 (by decide)).trans r1,h1,hp pv r1 r3,ho,fun g e=>hS _ (r5 g e),hin,fun g e=>⟨(r7 g e).1,(r7 g e).2.1,(r7 g e).2.2.1,fun e2=>(hap g e2).2.2.2 pv r1 e⟩,fun g e=>⟨(hap g e).1,(hap g e).2.1,(hap g e).2.2.1⟩⟩,
  (hb 3 (by decide)).trans h.c3,(hb 4 (by decide)).trans h.c4,(hk 0).trans h.k0,(hk 1).trans h.k1,(hw 0).trans h.kw,⟨fun o=>(hf b o (.inl rfl)).trans (h.fr.1 o),fun o=>(hf mk o (.inr (.inl rfl))).trans (h.fr.2.1 o),fun o=>(hf mw o (.inr (.inr rfl))).trans (h.fr.2.2 o)⟩,h.bits,h.n_le⟩
theorem zcs {N:Nat} (h:IdleH S b mk mw w n m x) (T:Tabs N w) (hn:1≤n) :
  Calls Tryz.prog 205 #[.pointer (some ⟨b,0,none⟩)] w fun e w'=>e=.returned (.tuple #[.int .i64 x.takeP.2.1,.bool x.takeP.2.2])∧IdleH S b mk mw w' n m x.takeP.1∧Mod S w w':=by
 have c0:=h.c0
 have hnx:=mnext_any mk mw n x.p w T ⟨hn,h.n_le⟩ h.bits h.k0 h.k1 h.kw
 have HN:=Lib.hid hnx
 by_cases hz:x.p=0
 ·have e:x.takeP=(x,0,false):=by unfold Idle.takeP;rw [if_pos hz]
  rw [e]
  rw [if_pos hz] at hnx
  have HN:=Lib.hid hnx
  have H:=Lib.hid h
  clear hnx h e hz T
  go_enter Tryz.func205,Tryz.ntmps205
  go_wp2_with (first | (go_at_call 226;go_in) | (go_at_call 242;refine HN.out.mono ?_;rintro e w1 ⟨rfl,hw⟩;have hw:=hw.symm;subst hw) | (go_at_call 227;go_in) | (go_at_call 188;go_in))
  go_returns
  exact ⟨rfl,H.out,Mod.refl _ _⟩
 ·have e:x.takeP=({ x with p:=x.p^^^2^Hst.low x.p },(Hst.low x.p:Int),true):=by unfold Idle.takeP;rw [if_neg hz]
  rw [e]
  rw [if_neg hz] at hnx
  obtain ⟨hb,hl⟩:=zbS hz h.n_le h.bits
  have ht:=turn_yes mk mw n (Hst.low x.p) x.p true w h.n_le hl h.bits h.ne.2.2 h.k0 h.k1 h.kw (h.fr.2.2 0) hb
  have hs:=h.setBits (x.p^^^2^Hst.low x.p) (Nat.xor_lt_two_pow h.bits (Nat.pow_lt_pow_right (by decide) hl))
  have hS:=h.inS.2.2
  have hl64:Hst.low x.p<64:=by have:=h.n_le;omega
  have HN:=Lib.hid hnx
  have HT:=Lib.hid ht
  have HS:=Lib.hid hs
  clear hnx h e hz T ht hs hb hl
  generalize Hst.low x.p=l at *
  have e1:max (0:Int) (l:Int)=l:=by omega
  go_enter Tryz.func205,Tryz.ntmps205
  go_wp2_with (first | (go_at_call 226;go_in) | (go_at_call 242;refine HN.out.mono ?_;rintro e w1 ⟨rfl,hw⟩;have hw:=hw.symm;subst hw) | (go_at_call 227;go_in) | (go_at_call 188;refine HT.out.mono ?_;rintro e w1 ⟨rfl,rfl⟩))
  go_returns
  exact ⟨rfl,HS.out,((Mod.refl S w).setCell (.inl hS) _).drew⟩
theorem putp_any (q:Nat) (h:IdleH S b mk mw w n m x) (hq:q<n) (hb:x.p.testBit q=false) (hp:¬ (q:Int)∈x.pending) (hbig:x.pending.length≤65536) :
  Calls Tryz.prog 124 #[.pointer (some ⟨b,0,none⟩),.int .i64 q] w fun e w'=>e=.returned (.bool true)∧IdleH S b mk mw w' n m { x with p:=x.p^^^2^q }∧Mod S w w':=by
 obtain ⟨pv,mv,r1,r2,r3,r4,r5,r6,r7,r8⟩:=h.rows
 have c0:=h.c0
 have hc:=zbe pv 0 x.pending q w r3 (by omega)
 rw [show x.pending.contains (q:Int)=false by simpa using hp] at hc
 have HC:=Lib.hid hc
 have ht:=turn_yes mk mw n q x.p false w h.n_le hq h.bits h.ne.2.2 h.k0 h.k1 h.kw (h.fr.2.2 0) hb
 have HT:=Lib.hid ht
 have hs:=h.setBits (x.p^^^2^q) (Nat.xor_lt_two_pow h.bits (Nat.pow_lt_pow_right (by decide) hq))
 have hS:=h.inS.2.2
 have HS:=Lib.hid hs
 clear h hc r2 r3 r4 r5 r6 r7 r8 ht hp hs
 go_enter Tryz.func124,Tryz.ntmps124
 go_wp2_with (first | (go_at_call 159;refine HC.out.mono ?_;rintro e w1 ⟨rfl,hw⟩;have hw:=hw.symm;subst hw) | (go_at_call 160;go_in) | (go_at_call 188;refine HT.out.mono ?_;rintro e w1 ⟨rfl,rfl⟩))
 go_returns
 exact ⟨rfl,HS.out,((Mod.refl S w).setCell (.inl hS) _).drew⟩
theorem leave_any (i:Nat) (h:IdleH S b mk mw w n m x) :
  Calls Tryz.prog 146 #[.pointer (some ⟨b,0,none⟩),.int .i64 i] w fun e w'=>e=.returned (.bool (x.leave i).2)∧IdleH S b mk mw w' n m (x.leave i).1∧Mod S w w':=by
 have c3:=h.c3
 have fb:=h.fr.1
 have lb:=World.block_lt_of_cell? w _ c3
 by_cases hp:(i:Int)=x.poller
 ·have e:x.leave i=({ x with poller:=-1 },true):=by unfold Idle.leave;rw [if_pos hp]
  have hs:=h.setPoller (-1)
  have hS:=h.inS.1
  rw [e]
  rw [← hp] at c3
  have HS:=Lib.hid hs
  clear h hs e hp
  go_enter Tryz.func146,Tryz.ntmps146
  go_wp2
  all_goals go_returns
  all_goals exact ⟨rfl,HS.out,(Mod.refl S w).setCell (.inl hS) _⟩
 ·have e:x.leave i=(x,false):=by unfold Idle.leave;rw [if_neg hp]
  have hp2:((i:Int)==x.poller)=false:=by rw [beq_eq_false_iff_ne];exact hp
  have hp3:((i:Int) != x.poller)=true:=by simp [hp2,bne]
  rw [e]
  have HS:=Lib.hid h
  clear h e hp
  go_enter Tryz.func146,Tryz.ntmps146
  go_wp2
  all_goals go_returns
  all_goals exact ⟨rfl,HS.out,Mod.refl _ _⟩
theorem zcB (h:IdleH S b mk mw w n m x) :
  Calls Tryz.prog 70 #[.pointer (some ⟨b,0,none⟩)] w fun e w'=>e=.returned (.tuple #[.int .i64 (max 0 x.poller),.bool (x.poller != -1)])∧∃ k,w'=w.drewN k:=by
 have c3:=h.c3
 have H:=Lib.hid h
 clear h
 go_enter Tryz.func70,Tryz.ntmps70
 go_wp2
 go_quiet (fail)
 go_wp2
 go_returns
 exact ⟨rfl,_,rfl⟩
theorem takem_row (h:IdleH S b mk mw w n m x) (hm:x.m≠[]) (hbig:x.m.length≤65536) :
  Calls Tryz.prog 233 #[.pointer (some ⟨b,0,none⟩)] w fun e w'=>e=.returned (.tuple #[.int .i64 (x.m.getLastD 0),.bool true])∧IdleH S b mk mw w' n m { x with m:=x.m.dropLast }∧Mod S w w':=by
 obtain ⟨pv,mv,r1,r2,r3,r4,r5,r6,r7,r8⟩:=h.rows
 have hpos:0<x.m.length:=List.length_pos_iff.2 hm
 obtain ⟨g,cap,rfl,_,hgl,hcap⟩:=zar r4 hpos
 obtain ⟨k,hk⟩:∃ k,x.m.length=k+1:=⟨x.m.length - 1,by omega⟩
 have hlast:w.cell? ⟨g,k,none⟩=some (.int .i64 (x.m.getLastD 0)):=by
  rw [r4.cellAt k (by simp;omega)]
  have e:x.m.getLastD 0=x.m[k]:=by
   have hk':x.m.length - 1=k:=by omega
   simp only [List.getLastD_eq_getLast?,List.getLast?_eq_getElem?,hk',List.getElem?_eq_getElem (show k<x.m.length by omega),Option.getD_some]
  rw [e];simp [ints]
 have hdl:x.m.dropLast=x.m.take k:=by rw [List.dropLast_eq_take,hk,Nat.add_sub_cancel]
 have hlen:x.m.dropLast.length=k:=by rw [hdl,List.length_take];omega
 have hsh:=zbY r4 k (by omega)
 have hsi:(ints x.m).take (k*1)=ints x.m.dropLast:=by rw [hdl,Nat.mul_one];unfold ints;rw [List.map_take]
 rw [hsi] at hsh
 have gb:=r8 g rfl
 have fb:=h.fr.1
 have lb:=World.block_lt_of_cell? w _ r1
 rw [hk] at r2 hcap
 have H:=Lib.hid h
 have H4:=Lib.hid hsh
 have HL:=Lib.hid hlen
 have R1:=Lib.hid r1
 have R3:=Lib.hid r3
 have R6:=Lib.hid r6
 have R7:=Lib.hid r7
 clear h r1 r3 r4 r5 r6 r7 r8 hsh hsi hdl hlen hm
 generalize x.m.getLastD 0=z at *
 go_enter Tryz.func233,Tryz.ntmps233
 go_wp2
 go_returns
 have h:=H.out
 have hr2:w.cell? ⟨b,2,none⟩=some (.slice (some ⟨g,0,none⟩) (k+1) cap):=r2
 refine ⟨rfl,h.set2 (fun _ e=>e) (fun o ho=>by rw [zaf hr2,if_neg ho]) (fun o=>cell_far h.ne.1 _) (fun o=>cell_far h.ne.2.1 _) (fun y o _=>World.frozen?_setCell _ _ _ _) (World.cell?_setCell_same _ _ _ hr2) ?_ (fun y e=>R6.out y e) (fun y e=>?_) (fun pv' e1 e2=>?_),(Mod.refl S w).setCell (.inl h.inS.1) _⟩
 ·rw [HL.out];exact ownsRow_far H4.out (by simpa [Value.ownBlock] using gb.1)
 ·have hy:y=g:=by simpa [Value.ownBlock] using e.symm
  subst hy
  refine ⟨gb.1,gb.2.1,gb.2.2,fun pv' e1 e2=>?_⟩
  obtain rfl:=Option.some.inj (R1.out.symm.trans e1)
  exact (R7.out y e2).2.2.2 rfl
 ·obtain rfl:=Option.some.inj (R1.out.symm.trans e1)
  exact ownsRow_far e2 (fun e=>(R7.out _ e).1 rfl)
theorem takem_poll (h:IdleH S b mk mw w n m x) (hm:x.m=[]) :
  Calls Tryz.prog 233 #[.pointer (some ⟨b,0,none⟩)] w fun e w'=>e=.returned (.tuple #[.int .i64 (max 0 x.poller),.bool (x.poller != -1)])∧IdleH S b mk mw w' n m { x with poller:=-1 }∧Mod S w w':=by
 obtain ⟨pv,mv,r1,r2,r3,r4,r5,r6,r7,r8⟩:=h.rows
 rw [hm] at r4
 obtain ⟨a,c,rfl⟩:=zac r4
 have hp:=zcB h
 have hs:=h.setPoller (-1)
 have c3:=h.c3
 have fb:=h.fr.1
 have lb:=World.block_lt_of_cell? w _ r1
 have hS:=h.inS.1
 have HP:=Lib.hid hp
 have H:=Lib.hid h
 have HS:=Lib.hid hs
 clear h hp hs r3 r4 r5 r6 r7 r8 hm
 go_enter Tryz.func233,Tryz.ntmps233
 go_wp2_with fail
 refine HP.out.mono ?_
 rintro e w1 ⟨rfl,k,rfl⟩
 go_wp2
 go_returns
 exact ⟨rfl,IdleH.drewN HS.out k,(((Mod.refl S w).drewN k).setCell (.inl hS) _)⟩
theorem takepend_no (h:IdleH S b mk mw w n m x) (hp:x.pending=[]) :
  Calls Tryz.prog 207 #[.pointer (some ⟨b,0,none⟩)] w fun e w'=>e=.returned (.tuple #[.int .i64 0,.bool false])∧w'=w:=by
 obtain ⟨pv,mv,r1,r2,r3,r4,r5,r6,r7,r8⟩:=h.rows
 rw [hp] at r3
 obtain ⟨a,c,rfl⟩:=zac r3
 clear h r3 r4 r5 r6 r7 r8 hp
 go_enter Tryz.func207,Tryz.ntmps207
 go_wp2
 go_returns
 exact ⟨rfl,rfl⟩
theorem takepend_yes (q:Int) (l:List Int) (h:IdleH S b mk mw w n m x) (hp:x.pending=q :: l) (hbig:l.length≤65536) :
  Calls Tryz.prog 207 #[.pointer (some ⟨b,0,none⟩)] w fun e w'=>e=.returned (.tuple #[.int .i64 q,.bool true])∧IdleH S b mk mw w' n m { x with pending:=l }∧Mod S w w':=by
 obtain ⟨pv,mv,r1,r2,r3,r4,r5,r6,r7,r8⟩:=h.rows
 rw [hp] at r3
 obtain ⟨g,cap,cur,rfl,hb0,hg,hc,hm2,hs,ht⟩:∃ g cap cur,pv=.slice (some ⟨g,0,none⟩) (q :: l).length cap∧0≤g∧w.heap[g]?=some (.cells cur 3 (0,0))∧(q :: l).length≤cap∧cap≤maxLen∧cur.size=cap*1∧cur.toList.take ((q :: l).length*1)=ints (q :: l):=by
  rcases r3.2 with ⟨_,h0⟩ | h2
  ·simp at h0
  ·exact h2
 have hgl:=(Array.getElem?_eq_some_iff.1 hg).1
 have g0:w.cell? ⟨g,0,none⟩=some (.int .i64 q):=by rw [r3.cellAt 0 (by simp [ints])];rfl
 obtain ⟨gb1,gb2,gb3,gb4⟩:=r7 g rfl
 have fb:=h.fr.1
 have lb:=World.block_lt_of_cell? w _ r1
 have hd:=Tryz.slices_Delete_int_cells g 0 (q :: l).length cap 0 1 (q :: l) w (Nat.le_refl _) hc (by unfold maxLen at hm2;omega) (Nat.zero_le _) (by simp) (fun j hj=>by
  rw [Nat.zero_add,r3.cellAt j (by simpa using hj)];simp only [ints,List.getElem?_map,List.getElem?_eq_getElem hj,Option.map_some,List.getD_eq_getElem?_getD,Option.getD_some]) (fun j _=>r3.frozenAt _)
 have hlen:(ints (((q :: l).take (q :: l).length).take 0++((q :: l).take (q :: l).length).drop 1++List.replicate (1 - 0) 0)).length=(q :: l).length:=by simp [ints]
 have hrow:=fun k=>zbz (w:=w.drewN k) (vs:=ints (((q :: l).take (q :: l).length).take 0++((q :: l).take (q :: l).length).drop 1++List.replicate (1 - 0) 0)) r3 hlen ((q :: l).length - 1) (by omega) (Nat.zero_le _)
 have e1:(ints (((q :: l).take (q :: l).length).take 0++((q :: l).take (q :: l).length).drop 1++List.replicate (1 - 0) 0)).take ((q :: l).length - 1)=ints l:=by
  simp [ints]
 rw [e1] at hrow
 simp only [List.length_cons,Nat.add_sub_cancel] at hrow hd r1 hc
 have hll:l.length+1≤cap:=hc
 have HD:=Lib.hid hd
 have HR:=Lib.hid hrow
 have H:=Lib.hid h
 have R2:=Lib.hid r2
 have R5:=Lib.hid r5
 have R8:=Lib.hid r8
 clear h hd hrow e1 hlen r3 r4 r5 r6 r7 r8 hp hg hs ht r2
 go_enter Tryz.func207,Tryz.ntmps207
 go_wp2_with fail
 refine HD.out.mono ?_
 rintro e w1 ⟨rfl,k,hw1⟩
 have hk2:∀ a:Addr,a.block≠g→w1.cell? a=w.cell? a:=fun a ha=>by rw [hw1,World.cell?_setCells_out g _ _ _ _ (fun e=>absurd e ha)];rfl
 have hf2:∀ a:Addr,w1.frozen? a=w.frozen? a:=fun a=>by rw [hw1,World.frozen?_setCells];rfl
 have hmod:Mod (·=g) w w1:=by rw [hw1];exact ((Mod.refl _ w).drewN k).setCellsB _ _
 have hrow:=HR.out k
 have hrow2:w1.ownsRow 0 3 1 (.slice (some ⟨g,0,none⟩) l.length cap) l.length (ints l):=by rw [hw1];exact hrow
 have c1':w1.cell? ⟨b,1,none⟩=some (.slice (some ⟨g,0,none⟩) (l.length+1) cap):=(hk2 ⟨b,1,none⟩ (Ne.symm gb1)).trans r1
 have f1':∀ o,w1.frozen? ⟨b,o,none⟩=false:=fun o=>(hf2 _).trans (fb o)
 have HK:=Lib.hid hk2
 have HF:=Lib.hid hf2
 have HM:=Lib.hid hmod
 have HW:=Lib.hid hrow2
 clear hw1 hk2 hf2 hmod hrow hrow2 HR HD
 go_wp2
 go_returns
 have h:=H.out
 refine ⟨rfl,h.set1 (fun _ e=>e) (fun o ho=>by rw [zaf c1',if_neg ho];exact HK.out _ (Ne.symm gb1)) (fun o=>(cell_far h.ne.1 _).trans (HK.out _ (Ne.symm gb2))) (fun o=>(cell_far h.ne.2.1 _).trans (HK.out _ (Ne.symm gb3))) (fun y o _=>(World.frozen?_setCell _ _ _ _).trans (HF.out _)) (World.cell?_setCell_same _ _ _ c1') (ownsRow_far HW.out (by simpa [Value.ownBlock] using gb1)) (fun y e=>R5.out y e) (fun y e=>?_) (fun mv' e1 e2=>?_),?_⟩
 ·have hy:y=g:=by simpa [Value.ownBlock] using e.symm
  subst hy
  refine ⟨gb1,gb2,gb3,fun mv' e1 e2=>?_⟩
  obtain rfl:=Option.some.inj (R2.out.symm.trans e1)
  exact gb4 e2
 ·obtain rfl:=Option.some.inj (R2.out.symm.trans e1)
  refine ownsRow_far (e2.kept (row:=some g) ⟨HM.out.os,HM.out.tape,HM.out.output,HM.out.size,fun k hk hx=>HM.out.block k hk (fun e=>hx (by rw [e]))⟩ ?_) (fun e=>(R8.out _ e).1 rfl)
  exact .inr gb4
 ·exact (HM.out.mono (fun y _ e=>by subst e;exact R5.out y rfl)).setCell (.inl h.inS.1) _
end
end Go.Proofs.YtlmmjgekolpekaaGreatDoor
