/- Parts of the proof. -/
import Derived.Test.YtlmmjgekolpekaaGreatDoorMPq08
set_option linter.unusedVariables false
set_option linter.unusedSimpArgs false
set_option linter.unusedSectionVars false
set_option maxRecDepth 100000
set_option maxHeartbeats 6400000
namespace Go.Proofs.YtlmmjgekolpekaaGreatDoor
open Go Go.RowKit Hst Go.Proofs
def hdE (l:List Ent):Ent:=l.getD 0 ent0
def bestH (hs:Nat→List Ent):Nat→Option Nat
 | 0=>none
 | j+1=>match bestH hs j with
  | none=>if (hs j).length=0 then none else some j
  | some q=>if ¬ (hs j).length=0∧(hdE (hs j)).ahead (hdE (hs q))=true then some j else some q
def bestV (lB:Nat):Option Nat→Value
 | none=>.pointer none
 | some q=>.pointer (some ⟨lB,q,none⟩)
def leastV (hs:Nat→List Ent):Option Nat→Ent
 | none=>ent0
 | some q=>hdE (hs q)
theorem zbR (hs:Nat→List Ent):∀ (j q:Nat),bestH hs j=some q→q<j∧¬ (hs q).length=0
 | 0,q,h=>by cases h
 | j+1,q,h=>by
  unfold bestH at h
  split at h
  ·split at h
   ·cases h
   ·cases h;exact ⟨Nat.lt_succ_self _,by assumption⟩
  ·rename_i q' hq
   split at h
   ·cases h;rename_i hc;exact ⟨Nat.lt_succ_self _,hc.1⟩
   ·cases h;exact ⟨Nat.lt_succ_of_lt (zbR hs j _ hq).1,(zbR hs j _ hq).2⟩
theorem zcC {hs:Nat→List Ent} {j:Nat} (hz:(hs j).length=0):bestH hs (j+1)=bestH hs j:=by
 show (match bestH hs j with | none=>if (hs j).length=0 then none else some j | some q=>if ¬ (hs j).length=0∧(hdE (hs j)).ahead (hdE (hs q))=true then some j else some q)=bestH hs j
 cases bestH hs j <;> simp [hz]
theorem zb6 {hs:Nat→List Ent} {j:Nat} (hz:¬ (hs j).length=0) (h:bestH hs j=none):bestH hs (j+1)=some j:=by
 show (match bestH hs j with | none=>if (hs j).length=0 then none else some j | some q=>if ¬ (hs j).length=0∧(hdE (hs j)).ahead (hdE (hs q))=true then some j else some q)=some j
 rw [h]
 simp [hz]
theorem zcJ {hs:Nat→List Ent} {j q:Nat} (hz:¬ (hs j).length=0) (h:bestH hs j=some q):bestH hs (j+1)=if (hdE (hs j)).ahead (hdE (hs q))=true then some j else some q:=by
 show (match bestH hs j with | none=>if (hs j).length=0 then none else some j | some q=>if ¬ (hs j).length=0∧(hdE (hs j)).ahead (hdE (hs q))=true then some j else some q)=_
 rw [h]
 simp [hz]
theorem first_of {lB k:Nat} {l:List Ent} {v:Value} {w:World} (hbig:l.length≤65536) (c0:w.cell? ⟨lB,k,none⟩=some v) (hr:w.ownsRow 0 245 3 v l.length (zeg l)) :
  Calls Tryz.prog 168 #[.pointer (some ⟨lB,k,none⟩)] w fun e w'=>e=.returned (.tuple #[entV (hdE l),.bool (!decide (l.length=0))])∧Below w.heap.size w w':=by
 by_cases h0:l.length=0
 ·obtain rfl:=List.length_eq_zero_iff.1 h0
  have hv:∃ a c,v=.slice a 0 c:=by
   rcases hr.2 with ⟨rfl,_⟩ | ⟨g,cap,cur,hv,_⟩
   ·exact ⟨none,0,rfl⟩
   ·exact ⟨_,_,hv⟩
  obtain ⟨a,c,rfl⟩:=hv
  exact first_no lB k c a w c0
 ·have hv:∃ g c,v=.slice (some ⟨g,0,none⟩) l.length c:=by
   rcases hr.2 with ⟨rfl,hz⟩ | ⟨g,cap,cur,hv,_⟩
   ·exact absurd hz h0
   ·exact ⟨g,cap,hv⟩
  obtain ⟨g,c,rfl⟩:=hv
  refine (first_yes lB k g c l w (by omega) hbig c0 hr).mono fun e w' ⟨h1,h2⟩=>⟨?_,h2⟩
  rw [h1]
  simp [hdE,h0]
theorem zdV (tB lB P:Nat) (hs:Nat→List Ent) (hv:Nat→Value) (w:World) (hP:P≤64) (t0:w.cell? ⟨tB,0,none⟩=some (.slice (some ⟨lB,0,none⟩) P P))
  (hl:∀ k,k<P→w.cell? ⟨lB,k,none⟩=some (hv k)) (hr:∀ k,k<P→w.ownsRow 0 245 3 (hv k) (hs k).length (zeg (hs k))) (hbig:∀ k,k<P→(hs k).length≤65536) :
  Calls Tryz.prog 167 #[.pointer (some ⟨tB,0,none⟩)] w fun e w'=>e=.returned (bestV lB (bestH hs P))∧Below w.heap.size w w':=by
 have ltB:=World.block_lt_of_cell? w _ t0
 simp only at ltB
 have hfst:∀ k,k<P→∀ w1,Below w.heap.size w w1→Calls Tryz.prog 168 #[.pointer (some ⟨lB,k,none⟩)] w1 fun e w'=>e=.returned (.tuple #[entV (hdE (hs k)),.bool (!decide ((hs k).length=0))])∧Below w1.heap.size w1 w':=fun k hk w1 hb=>by
  have lb:=World.block_lt_of_cell? w _ (hl k hk)
  exact first_of (hbig k hk) ((below_cell hb lb).trans (hl k hk)) (za7 (hr k hk) hb)
 have HF:=Lib.hid hfst
 have HT:=Lib.hid t0
 clear hfst hl hr hbig
 go_enter Tryz.func167,Tryz.ntmps167
 go_wp2
 go_loopw [3,13] (fun v i wr=>∃ j:Nat,i=.int .i64 (j:Int)∧j≤P∧v=bestV lB (bestH hs j)∧(∃ e:Ent,e=leastV hs (bestH hs j)∧wr.heap[w.heap.size]?=some (.cells #[.int .i64 e.whenT,.int .u64 (e.order:Nat),.int .i64 e.g] 245 (0,0)))∧Below w.heap.size w wr) (fun _ i _=>P - (intOf i).toNat)
 case atStart =>
  exact ⟨0,rfl,Nat.zero_le _,rfl,⟨ent0,rfl,heap_alloc_new w _⟩,zab w _⟩
 case round =>
  obtain ⟨j,rfl,hj,rfl,⟨e,he,hcell⟩,K⟩:=hrel
  by_cases hp:j<P
  ·have hpi:(j:Int)<(P:Int):=by omega
   have c0:=(below_cell (o:=0) K ltB).trans HT.out
   have hfj:=HF.out j hp wr K
   have hcl:=zaB hcell
   have HE:=Lib.hid he
   have HK:=Lib.hid K
   have HCELL:=Lib.hid hcell
   clear he hcell K
   generalize hz:decide ((hs j).length=0)=zz at hfj
   generalize hh:hdE (hs j)=x at hfj
   have HZ:=Lib.hid hz
   have HH:=Lib.hid hh
   clear hz hh
   unfold entV at hfj
   go_wp2_with fail
   refine hfj.mono ?_
   rintro e1 w2 ⟨rfl,b2⟩
   have K2:Below w.heap.size w w2:=HK.out.trans (b2.mono HK.out.size)
   have hcell2:=(b2.block w.heap.size hcl).trans HCELL.out
   have l0:=zaa hcell2 0
   have l1:=zaa hcell2 1
   have l2:=zaa hcell2 2
   simp at l0 l1 l2
   have c2:=(below_cell (o:=0) K2 ltB).trans HT.out
   have ltB2:tB<w2.heap.size:=Nat.lt_of_lt_of_le ltB K2.size
   have hcl2:=zaB hcell2
   have K2:=Lib.hid K2
   have HC2:=Lib.hid hcell2
   clear b2 hcell2 c0
   cases zz with
   | true =>
    have hz0:(hs j).length=0:=of_decide_eq_true HZ.out
    have hb:bestH hs (j+1)=bestH hs j:=zcC hz0
    have HB:=Lib.hid hb
    clear hb
    go_wp2_with fail
    go_roundw
    case rel =>
     refine ⟨j+1,by go_num,hp,by rw [HB.out],⟨e,by rw [HB.out];exact HE.out,?_⟩,?_⟩
     ·exact (Below.block (B:=w2.heap.size) (w:=w2) (by go_grown) _ hcl2).trans HC2.out
     ·exact K2.out.trans (Below.mono (B:=w2.heap.size) (by go_grown) K2.out.size)
    case measure=>simp [intOf];omega
   | false =>
    have hz0:¬ (hs j).length=0:=of_decide_eq_false HZ.out
    cases hq:bestH hs j with
    | none =>
     have hb:=zb6 hz0 hq
     have HB:=Lib.hid hb
     clear hb hz0 HZ
     simp only [bestV]
     go_wp2_with fail
     refine zaT (fun W=>W.heap[w.heap.size]?=some (.cells #[.int .i64 e.whenT,.int .u64 (e.order:Nat),.int .i64 e.g] 245 (0,0))∧W.heap[w2.heap.size]?=some (.cells #[.int .i64 x.whenT,.int .u64 (x.order:Nat),.int .i64 x.g] 245 (0,0))∧Below w2.heap.size w2 W) ⟨(Below.heap_alloc w2 _ _ hcl2).trans HC2.out,heap_alloc_new w2 _,zab w2 _⟩ ?_
     rintro W ⟨g1,g2,gB⟩
     have l0:=zaa g1 0
     have l1:=zaa g1 1
     have l2:=zaa g1 2
     have x0:=zaa g2 0
     have x1:=zaa g2 1
     have x2:=zaa g2 2
     simp at l0 l1 l2 x0 x1 x2
     have cW:=(below_cell (o:=0) gB ltB2).trans c2
     have fW:∀ o,W.frozen? ⟨w.heap.size,o,none⟩=false:=fun o=>by simp [World.frozen?,g1]
     have hPb:(P:Int)≤64:=by omega
     have G1:=Lib.hid g1
     have GB:=Lib.hid gB
     clear g1 g2 gB c2
     go_region
     all_goals (
      go_wp2
      go_roundw
      case rel =>
       refine ⟨j+1,by go_num,hp,by rw [HB.out];rfl,⟨x,by rw [HB.out];exact HH.out.symm,?_⟩,?_⟩
       ·have e1:=heap_setCell_same _ _ 0 _ _ (.int .i64 x.whenT) G1.out
        have e2:=heap_setCell_same _ _ 1 _ _ (.int .u64 (x.order:Nat)) e1
        exact heap_setCell_same _ _ 2 _ _ (.int .i64 x.g) e2
       ·have KW:=K2.out.trans (GB.out.mono K2.out.size)
        have h:=(((KW.setCell (p:=⟨w.heap.size,0,none⟩) (Nat.le_refl _) (.int .i64 x.whenT)).setCell (p:=⟨w.heap.size,1,none⟩) (Nat.le_refl _) (.int .u64 (x.order:Nat))).setCell (p:=⟨w.heap.size,2,none⟩) (Nat.le_refl _) (.int .i64 x.g))
        exact ⟨h.os,h.tape,h.output,h.size,h.block⟩
      case measure=>simp [intOf];omega)
    | some q =>
     have hah:=fun w=>zco x e w
     have hbn:=zcJ hz0 hq
     rw [hq] at HE
     have hxe:(hdE (hs j)).ahead (hdE (hs q))=x.ahead e:=by rw [HH.out,HE.out];rfl
     rw [hxe] at hbn
     generalize ha:x.ahead e=aa at hah hbn
     have HA:=Lib.hid hah
     have HBN:=Lib.hid hbn
     clear hah hbn hxe ha hz0 HZ
     unfold entV at HA
     simp only [bestV]
     go_wp2_with fail
     refine (HA.out _).mono ?_
     rintro e3 W ⟨rfl,b3⟩
     have g1:=(b3.block w.heap.size (by simp;omega)).trans ((Below.heap_alloc w2 _ _ hcl2).trans HC2.out)
     have g2:=(b3.block w2.heap.size (by simp)).trans (heap_alloc_new w2 _)
     have gB:Below w2.heap.size w2 W:=(zab w2 _).trans (b3.mono (by simp))
     clear b3
     cases aa with
     | true =>
      have hb:bestH hs (j+1)=some j:=by rw [HBN.out];rfl
      have HB:=Lib.hid hb
      clear hb
      go_wp2_with fail
      have l0:=zaa g1 0
      have l1:=zaa g1 1
      have l2:=zaa g1 2
      have x0:=zaa g2 0
      have x1:=zaa g2 1
      have x2:=zaa g2 2
      simp at l0 l1 l2 x0 x1 x2
      have cW:=(below_cell (o:=0) gB ltB2).trans c2
      have fW:∀ o,W.frozen? ⟨w.heap.size,o,none⟩=false:=fun o=>by simp [World.frozen?,g1]
      have hPb:(P:Int)≤64:=by omega
      have G1:=Lib.hid g1
      have GB:=Lib.hid gB
      clear g1 g2 gB c2
      go_region
      all_goals (
       go_wp2
       go_roundw
       case rel =>
        refine ⟨j+1,by go_num,hp,by rw [HB.out];rfl,⟨x,by rw [HB.out];exact HH.out.symm,?_⟩,?_⟩
        ·have e1:=heap_setCell_same _ _ 0 _ _ (.int .i64 x.whenT) G1.out
         have e2:=heap_setCell_same _ _ 1 _ _ (.int .u64 (x.order:Nat)) e1
         exact heap_setCell_same _ _ 2 _ _ (.int .i64 x.g) e2
        ·have KW:=K2.out.trans (GB.out.mono K2.out.size)
         have h:=(((KW.setCell (p:=⟨w.heap.size,0,none⟩) (Nat.le_refl _) (.int .i64 x.whenT)).setCell (p:=⟨w.heap.size,1,none⟩) (Nat.le_refl _) (.int .u64 (x.order:Nat))).setCell (p:=⟨w.heap.size,2,none⟩) (Nat.le_refl _) (.int .i64 x.g))
         exact ⟨h.os,h.tape,h.output,h.size,h.block⟩
       case measure=>simp [intOf];omega)
     | false =>
      have hb:bestH hs (j+1)=some q:=by rw [HBN.out];rfl
      have HB:=Lib.hid hb
      have G1:=Lib.hid g1
      have GB:=Lib.hid gB
      clear hb g1 g2 gB
      go_wp2_with fail
      go_roundw
      case rel=>exact ⟨j+1,by go_num,hp,by rw [HB.out];rfl,⟨e,by rw [HB.out];exact HE.out,G1.out⟩,K2.out.trans (GB.out.mono K2.out.size)⟩
      case measure=>simp [intOf];omega
  ·obtain rfl:j=P:=by omega
   have hpi:¬ (j:Int)<(j:Int):=by omega
   have HE:=Lib.hid he
   clear he hcell
   go_wp2
   go_returns
   exact ⟨rfl,K⟩
structure TimH (w:World) (tB lB P:Nat) (hs:Nat→List Ent) (hv:Nat→Value):Prop where
 le:P≤64
 t0:w.cell? ⟨tB,0,none⟩=some (.slice (some ⟨lB,0,none⟩) P P)
 l:∀ k,k<P→w.cell? ⟨lB,k,none⟩=some (hv k)
 rows:∀ k,k<P→w.ownsRow 0 245 3 (hv k) (hs k).length (zeg (hs k))
 big:∀ k,k<P→(hs k).length≤65536
theorem TimH.below {w w':World} {tB lB P:Nat} {hs:Nat→List Ent} {hv:Nat→Value} (h:TimH w tB lB P hs hv) (hb:Below w.heap.size w w'):TimH w' tB lB P hs hv where
 le:=h.le
 t0:=(below_cell hb (World.block_lt_of_cell? w _ h.t0)).trans h.t0
 l k hk:=(below_cell hb (World.block_lt_of_cell? w _ (h.l k hk))).trans (h.l k hk)
 rows k hk:=za7 (h.rows k hk) hb
 big:=h.big
def nextV (hs:Nat→List Ent):Option Nat→Value
 | none=>.tuple #[.int .i64 0,.bool false]
 | some q=>.tuple #[.int .i64 (hdE (hs q)).whenT,.bool true]
def dueB (hs:Nat→List Ent) (now:Int):Option Nat→Bool
 | none=>false
 | some q=>decide ((hdE (hs q)).whenT≤now)
theorem tnext_any (tB lB P:Nat) (hs:Nat→List Ent) (hv:Nat→Value) (w:World) (h:TimH w tB lB P hs hv) :
  Calls Tryz.prog 140 #[.pointer (some ⟨tB,0,none⟩)] w fun e w'=>e=.returned (nextV hs (bestH hs P))∧Below w.heap.size w w':=by
 have hf:=zdV tB lB P hs hv w h.le h.t0 h.l h.rows h.big
 have hlt:=zbR hs P
 have hfo:∀ q,bestH hs P=some q→∀ w1,Below w.heap.size w w1→Calls Tryz.prog 168 #[.pointer (some ⟨lB,q,none⟩)] w1 fun e w'=>e=.returned (.tuple #[entV (hdE (hs q)),.bool true])∧Below w1.heap.size w1 w':=fun q hq w1 hb=>by
  have hT:=h.below hb
  have h1:=hlt q hq
  have:=first_of (hT.big q h1.1) (hT.l q h1.1) (hT.rows q h1.1)
  rwa [show (!decide ((hs q).length=0))=true by simp [h1.2]] at this
 generalize bestH hs P=bq at *
 have HF:=Lib.hid hf
 have HO:=Lib.hid hfo
 clear hf hfo h hlt
 cases bq with
 | none =>
  simp only [bestV] at HF
  go_enter Tryz.func140,Tryz.ntmps140
  go_wp2_with fail
  refine HF.out.mono ?_
  rintro e w1 ⟨rfl,b1⟩
  go_wp2_with fail
  go_returns
  exact ⟨rfl,b1⟩
 | some q =>
  have ho:=HO.out q rfl
  unfold entV at ho
  obtain ⟨x,hx⟩:∃ x,x=hdE (hs q):=⟨_,rfl⟩
  rw [← hx] at ho
  have HX:=Lib.hid hx
  have HO2:=Lib.hid ho
  clear ho hx
  simp only [bestV] at HF
  go_enter Tryz.func140,Tryz.ntmps140
  go_wp2_with fail
  refine HF.out.mono ?_
  rintro e w1 ⟨rfl,b1⟩
  have B1:=Lib.hid b1
  clear b1
  go_wp2_with fail
  refine (HO2.out w1 B1.out).mono ?_
  rintro e w2 ⟨rfl,b2⟩
  have B2:=Lib.hid (B1.out.trans (b2.mono B1.out.size))
  clear b2
  go_wp2_with fail
  go_returns
  exact ⟨by show _=Ending.returned (.tuple #[.int .i64 (hdE (hs q)).whenT,.bool true]);rw [← HX.out];first | rfl | (simp only [];rfl),B2.out.trans (Below.mono (B:=w2.heap.size) (by go_grown) B2.out.size)⟩
theorem tdue_any (tB lB P:Nat) (hs:Nat→List Ent) (hv:Nat→Value) (now:Int) (w:World) (h:TimH w tB lB P hs hv) :
  Calls Tryz.prog 101 #[.pointer (some ⟨tB,0,none⟩),.int .i64 now] w fun e w'=>e=.returned (.bool (dueB hs now (bestH hs P)))∧Below w.heap.size w w':=by
 have hn:=tnext_any tB lB P hs hv w h
 have HN:=Lib.hid hn
 clear hn h
 generalize bestH hs P=bq at *
 cases bq with
 | none =>
  simp only [nextV] at HN
  go_enter Tryz.func101,Tryz.ntmps101
  go_wp2_with fail
  refine HN.out.mono ?_
  rintro e w1 ⟨rfl,b1⟩
  go_wp2_with fail
  go_returns
  exact ⟨rfl,b1⟩
 | some q =>
  simp only [nextV] at HN
  go_enter Tryz.func101,Tryz.ntmps101
  go_wp2_with fail
  refine HN.out.mono ?_
  rintro e w1 ⟨rfl,b1⟩
  go_wp2_with fail
  go_returns
  exact ⟨rfl,b1⟩
theorem zcD {hs:Nat→List Ent}:∀ {j:Nat},bestH hs j=none→∀ k,k<j→(hs k).length=0
 | 0,_,k,hk=>absurd hk (Nat.not_lt_zero k)
 | j+1,h,k,hk=>by
  by_cases hz:(hs j).length=0
  ·rw [zcC hz] at h
   rcases Nat.lt_succ_iff_lt_or_eq.1 hk with h1 | rfl
   ·exact zcD h k h1
   ·exact hz
  ·exfalso
   cases hq:bestH hs j with
   | none=>rw [zb6 hz hq] at h;cases h
   | some q=>rw [zcJ hz hq] at h;split at h <;> cases h
theorem zcq {hs:Nat→List Ent}:∀ {j q:Nat},bestH hs j=some q→∀ k,k<j→¬ (hs k).length=0→(hdE (hs k)).ahead (hdE (hs q))=false
 | 0,q,h,k,hk,_=>absurd hk (Nat.not_lt_zero k)
 | j+1,q,h,k,hk,hne=>by
  by_cases hz:(hs j).length=0
  ·rw [zcC hz] at h
   rcases Nat.lt_succ_iff_lt_or_eq.1 hk with h1 | rfl
   ·exact zcq h k h1 hne
   ·exact absurd hz hne
  ·cases hq:bestH hs j with
   | none =>
    rw [zb6 hz hq] at h
    cases h
    rcases Nat.lt_succ_iff_lt_or_eq.1 hk with h1 | rfl
    ·exact absurd (zcD hq k h1) hne
    ·exact zaO _
   | some r =>
    rw [zcJ hz hq] at h
    split at h
    ·rename_i ha
     cases h
     rcases Nat.lt_succ_iff_lt_or_eq.1 hk with h1 | rfl
     ·exact zaF (za8 ha) (zcq hq k h1 hne)
     ·exact zaO _
    ·rename_i ha
     cases h
     rcases Nat.lt_succ_iff_lt_or_eq.1 hk with h1 | rfl
     ·exact zcq hq k h1 hne
     ·simpa using ha
theorem best_all {hs:Nat→List Ent} {P q:Nat} (hh:∀ k,k<P→isHeap (hs k)) (h:bestH hs P=some q):∀ e,e∈(List.range P).flatMap hs→e.ahead (hdE (hs q))=false:=by
 intro e he
 obtain ⟨k,hk,hek⟩:=List.mem_flatMap.1 he
 have hk2:=List.mem_range.1 hk
 obtain ⟨i,hi,hie⟩:=List.getElem_of_mem hek
 have hne:¬ (hs k).length=0:=by omega
 have h1:=zcq h k hk2 hne
 have h2:=heap_head (hs k) (hh k hk2) i hi
 rw [show (hs k).getD i ent0=e by rw [List.getD_eq_getElem?_getD,List.getElem?_eq_getElem hi,hie];rfl] at h2
 exact zaF h1 h2
theorem best_mem {hs:Nat→List Ent} {P q:Nat} (h:bestH hs P=some q):hdE (hs q)∈(List.range P).flatMap hs:=by
 have h1:=zbR hs P q h
 refine List.mem_flatMap.2 ⟨q,List.mem_range.2 h1.1,?_⟩
 unfold hdE
 rw [List.getD_eq_getElem?_getD,List.getElem?_eq_getElem (by omega)]
 exact List.getElem_mem _
theorem due_law {hs:Nat→List Ent} {P:Nat} {tm:List Ent} (now:Int) (hh:∀ k,k<P→isHeap (hs k)) (hp:((List.range P).flatMap hs).Perm tm) :
  dueB hs now (bestH hs P)=tm.any (fun e=>decide (e.whenT≤now)):=by
 cases hq:bestH hs P with
 | none =>
  have h0:=zcD hq
  have:tm=[]:=by
   apply List.eq_nil_iff_forall_not_mem.2
   intro e he
   obtain ⟨k,hk,hek⟩:=List.mem_flatMap.1 (hp.mem_iff.2 he)
   have:=h0 k (List.mem_range.1 hk)
   rw [List.length_eq_zero_iff.1 this] at hek
   cases hek
  rw [this]
  rfl
 | some q =>
  show decide ((hdE (hs q)).whenT≤now)=_
  by_cases h:(hdE (hs q)).whenT≤now
  ·rw [decide_eq_true h]
   exact (List.any_eq_true.2 ⟨_,hp.mem_iff.1 (best_mem hq),decide_eq_true h⟩).symm
  ·rw [decide_eq_false h]
   refine (List.any_eq_false.2 ?_).symm
   intro e he
   have h1:=best_all hh hq e (hp.mem_iff.2 he)
   have h2:¬ e.whenT<(hdE (hs q)).whenT:=fun hlt=>by
    have:=(zbB e (hdE (hs q))).2 (.inl hlt)
    rw [this] at h1
    cases h1
   simp
   omega
theorem ahead_tie {a b:Ent} (h1:a.ahead b=false) (h2:b.ahead a=false):a=b:=by
 have n1:¬ a.ahead b=true:=by rw [h1];decide
 have n2:¬ b.ahead a=true:=by rw [h2];decide
 rw [zbB] at n1 n2
 obtain ⟨aw,ao,ag⟩:=a
 obtain ⟨bw,bo,bg⟩:=b
 simp only at n1 n2
 have e1:aw=bw:=by omega
 have e2:ao=bo:=by omega
 have e3:ag=bg:=by omega
 rw [e1,e2,e3]
theorem zd4:∀ (l:List Ent),l≠[]→∃ x,zeq l=some x∧x∈l∧∀ e,e∈l→e.ahead x=false
 | [],h=>absurd rfl h
 | e :: t,_=>by
  cases ht:t with
  | nil=>exact ⟨e,rfl,List.mem_cons_self ..,fun y hy=>by rw [List.mem_singleton.1 hy];exact zaO e⟩
  | cons y r =>
   obtain ⟨x,hx,hm,hl⟩:=zd4 t (by rw [ht];exact List.cons_ne_nil _ _)
   rw [← ht]
   have hs:zeq (e :: t)=if e.ahead x then some e else some x:=by
    show (match zeq t with | none=>some e | some x=>if e.ahead x then some e else some x)=_
    rw [hx]
   rw [hs]
   by_cases ha:e.ahead x=true
   ·refine ⟨e,by rw [if_pos ha],List.mem_cons_self ..,fun y hy=>?_⟩
    rcases List.mem_cons.1 hy with rfl | hy
    ·exact zaO _
    ·exact zaF (za8 ha) (hl y hy)
   ·refine ⟨x,by rw [if_neg ha],List.mem_cons_of_mem _ hm,fun y hy=>?_⟩
    rcases List.mem_cons.1 hy with rfl | hy
    ·simpa using ha
    ·exact hl y hy
theorem least_is {l:List Ent} {a:Ent} (ha:a∈l) (h:∀ e,e∈l→e.ahead a=false):zeq l=some a:=by
 obtain ⟨x,hx,hm,hl⟩:=zd4 l (List.ne_nil_of_mem ha)
 rw [hx,ahead_tie (h x hm) (hl a ha)]
theorem due_least {hs:Nat→List Ent} {P q:Nat} {tm:List Ent} (now:Int) (hh:∀ k,k<P→isHeap (hs k)) (hp:((List.range P).flatMap hs).Perm tm) (h:bestH hs P=some q) (hd:(hdE (hs q)).whenT≤now) :
  zeq (tm.filter fun e=>decide (e.whenT≤now))=some (hdE (hs q)) :=
 least_is (List.mem_filter.2 ⟨hp.mem_iff.1 (best_mem h),decide_eq_true hd⟩) fun e he=>best_all hh h e (hp.mem_iff.2 (List.mem_filter.1 he).1)
end Go.Proofs.YtlmmjgekolpekaaGreatDoor
