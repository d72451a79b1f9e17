/- Parts of the proof. -/
import Derived.Test.YtlmmjgekolpekaaGreatDoorMPk14
set_option linter.unusedVariables false
set_option linter.unusedSimpArgs false
set_option linter.unusedSectionVars false
set_option maxRecDepth 100000
set_option maxHeartbeats 6400000
namespace Go.Proofs.YtlmmjgekolpekaaGreatDoor
open Go Go.RowKit Hst Go.Proofs
def kidE (l:List Ent) (i:Nat):Nat:=bestE l (min (4*i+5) l.length - (4*i+1)) (4*i+1) (4*i+1)
theorem bestE_ge (l:List Ent) (m:Nat):∀ (f k best:Nat),m≤k→m≤best→m≤bestE l f k best
 | 0,_,_,_,h=>h
 | f+1,k,best,hk,h=>by
  show m≤bestE l f (k+1) _
  refine bestE_ge l m f (k+1) _ (by omega) ?_
  split <;> omega
theorem zdo (l:List Ent) (i:Nat) (h:4*i+1<l.length):i<kidE l i∧kidE l i<l.length :=
 ⟨Nat.lt_of_lt_of_le (by omega:i<4*i+1) (bestE_ge l (4*i+1) _ _ _ (Nat.le_refl _) (Nat.le_refl _)),bestE_lt l l.length _ _ _ (by omega) h⟩
def downE:Nat→List Ent→Nat→List Ent
 | 0,l,_=>l
 | f+1,l,i=>if 4*i+1<l.length then (if (l.getD (kidE l i) ent0).ahead (l.getD i ent0) then downE f ((l.set i (l.getD (kidE l i) ent0)).set (kidE l i) (l.getD i ent0)) (kidE l i) else l) else l
theorem zd2:∀ (f f':Nat) (l:List Ent) (i:Nat),l.length≤f+i→l.length≤f'+i→downE f l i=downE f' l i
 | 0,0,_,_,_,_=>rfl
 | 0,f'+1,l,i,h,_=>by show l=(if 4*i+1<l.length then _ else _);rw [if_neg (by omega)]
 | f+1,0,l,i,_,h=>by show (if 4*i+1<l.length then _ else _)=l;rw [if_neg (by omega)]
 | f+1,f'+1,l,i,h,h'=>by
  show (if 4*i+1<l.length then _ else _)=(if 4*i+1<l.length then _ else _)
  by_cases hi:4*i+1<l.length
  ·obtain ⟨h1,h2⟩:=zdo l i hi
   rw [if_pos hi,if_pos hi,zd2 f f' _ _ (by rw [List.length_set,List.length_set];omega) (by rw [List.length_set,List.length_set];omega)]
  ·rw [if_neg hi,if_neg hi]
theorem down_any (b k g cap i:Nat) (l:List Ent) (w:World) (hi:i<l.length∨l=[]) (hbig:l.length≤65536) (hg:g≠b) (hi2:i≤65536)
  (c0:w.cell? ⟨b,k,none⟩=some (.slice (some ⟨g,0,none⟩) l.length cap)) (h:RowE w g cap l) :
  Calls Tryz.prog 253 #[.pointer (some ⟨b,k,none⟩),.int .i64 i] w fun e w'=>e=.returned (.tuple #[])∧(∃ f,l.length≤f+i∧RowE w' g cap (downE f l i))∧Mod (·=g) w w':=by
 obtain ⟨n,hn⟩:∃ n,n=l.length:=⟨_,rfl⟩
 obtain ⟨R,hR⟩:∃ R,R=downE (n - i) l i:=⟨_,rfl⟩
 rw [← hn] at c0 hbig ⊢
 refine Calls.mono (R:=fun e w'=>e=.returned (.tuple #[])∧RowE w' g cap R∧Mod (·=g) w w') ?_ (fun e w' ⟨h1,h2,h3⟩=>⟨h1,⟨n - i,by omega,hR ▸ h2⟩,h3⟩)
 have HR:=Lib.hid hR
 have HN:=Lib.hid hn
 have H:=Lib.hid h
 have lb:=World.block_lt_of_cell? w _ c0
 simp only at lb
 clear h hR hn hi
 go_enter Tryz.func253,Tryz.ntmps253
 go_wp2
 go_step3
 go_wp2
 go_step3
 go_wp2
 go_loopw [1,4] (fun iv pv wr=>∃ (j:Nat) (l':List Ent),iv=.int .i64 j∧j≤65536∧l'.length=n∧R=downE (n - j) l' j∧RowE wr g cap l'∧Mod (·=g) w wr) (fun iv _ _=>n - (intOf iv).toNat)
 case atStart=>exact ⟨i,l,rfl,hi2,HN.out.symm,HR.out,H.out,Mod.refl _ _⟩
 case round =>
  obtain ⟨j,l',rfl,hj,hl',hr,hrow,hmod⟩:=hrel
  have d0:wr.cell? ⟨b,k,none⟩=some (.slice (some ⟨g,0,none⟩) n cap):=(World.cell?_of_block (a:=⟨b,k,none⟩) (hmod.block b lb (Ne.symm hg))).trans c0
  have ldb:b<wr.heap.size:=Nat.lt_of_lt_of_le lb hmod.size
  have t1:IntKind.i64.wrap (4*(j:Int))=4*(j:Int):=IntWalk.i64_in _ (by omega)
  have t2:IntKind.i64.wrap (4*(j:Int)+1)=4*(j:Int)+1:=IntWalk.i64_in _ (by omega)
  by_cases hjn:4*j+1<n
  ·have hjI:4*(j:Int)+1<(n:Int):=by omega
   obtain ⟨hk1,hk2⟩:=zdo l' j (by omega)
   have hle:=least_any b k g cap j l' wr (by omega) (by omega) (by rw [hl'];exact d0) hrow
   have hle:Calls Tryz.prog 258 #[.pointer (some ⟨b,k,none⟩),.int .i64 j] wr fun e w'=>e=.returned (.int .i64 (kidE l' j:Nat))∧Below wr.heap.size wr w':=hle
   rw [hl'] at hk2
   obtain ⟨q,hq⟩:∃ q,q=kidE l' j:=⟨_,rfl⟩
   rw [← hq] at hk1 hk2 hle
   have hr2:R=if (l'.getD q ent0).ahead (l'.getD j ent0) then downE (n - j - 1) ((l'.set j (l'.getD q ent0)).set q (l'.getD j ent0)) q else l':=by
    rw [hr,hq,show n - j=(n - j - 1)+1 by omega];show (if 4*j+1<l'.length then _ else _)=_;rw [if_pos (by omega)];rfl
   have hqn:(q:Int)<(n:Int):=by omega
   have hjn2:(j:Int)<(n:Int):=by omega
   obtain ⟨x0',x1',x2'⟩:=hrow.get j (by omega)
   obtain ⟨y0',y1',y2'⟩:=hrow.get q (by omega)
   have lg:=World.block_lt_of_cell? wr _ x0'
   simp only at lg
   have hA:=fun w=>zco (l'.getD q ent0) (l'.getD j ent0) w
   clear hr
   generalize l'.getD j ent0=ej at *
   generalize l'.getD q ent0=eq at *
   have HA:=Lib.hid hA
   have HLe:=Lib.hid hle
   have HRow:=Lib.hid hrow
   have HMod:=Lib.hid hmod
   have HR2:=Lib.hid hr2
   have HL:=Lib.hid hl'
   clear hA hrow hmod hr2 hl' hle hq
   unfold entV at HA
   cases hah:eq.ahead ej
   ·rw [hah] at HA
    go_wp2_with fail
    refine HLe.out.mono ?_
    rintro e w2 ⟨rfl,hb0⟩
    have d0:=(hb0.cell (p:=⟨b,k,none⟩) ldb).trans d0
    have x0:=(hb0.cell (p:=⟨g,j*3,none⟩) lg).trans x0'
    have x1:=(hb0.cell (p:=⟨g,j*3+1,none⟩) lg).trans x1'
    have x2:=(hb0.cell (p:=⟨g,j*3+2,none⟩) lg).trans x2'
    have y0:=(hb0.cell (p:=⟨g,q*3,none⟩) lg).trans y0'
    have y1:=(hb0.cell (p:=⟨g,q*3+1,none⟩) lg).trans y1'
    have y2:=(hb0.cell (p:=⟨g,q*3+2,none⟩) lg).trans y2'
    have ldb2:b<w2.heap.size:=Nat.lt_of_lt_of_le ldb hb0.size
    have lg2:g<w2.heap.size:=Nat.lt_of_lt_of_le lg hb0.size
    have hrow1:=HRow.out.same (hb0.block g lg)
    have hmod1:=HMod.out.then_below hb0 (Nat.le_refl _)
    have HRow1:=Lib.hid hrow1
    have HMod1:=Lib.hid hmod1
    clear HRow HMod hb0 x0' x1' x2' y0' y1' y2' hrow1 hmod1
    go_wp2
    go_region_held3 (fun w'=>w'.cell? ⟨b,k,none⟩=some (.slice (some ⟨g,0,none⟩) n cap)∧w'.cell? ⟨g,j*3,none⟩=some (.int .i64 ej.whenT)∧w'.cell? ⟨g,j*3+1,none⟩=some (.int .u64 (ej.order:Nat))∧w'.cell? ⟨g,j*3+2,none⟩=some (.int .i64 ej.g)∧w'.cell? ⟨g,q*3,none⟩=some (.int .i64 eq.whenT)∧w'.cell? ⟨g,q*3+1,none⟩=some (.int .u64 (eq.order:Nat))∧w'.cell? ⟨g,q*3+2,none⟩=some (.int .i64 eq.g))
     (first | exact ⟨d0,x0,x1,x2,y0,y1,y2⟩ | exact ⟨z,z0,z1,z2,z3,z4,z5⟩)
     (first | (go_at_call 192;refine (HA.out _).mono ?_;rintro e w1 ⟨rfl,hb⟩;have z:=(hb.cell (p:=⟨b,k,none⟩) ldb2).trans d0;have z0:=(hb.cell (p:=⟨g,j*3,none⟩) lg2).trans x0;have z1:=(hb.cell (p:=⟨g,j*3+1,none⟩) lg2).trans x1;have z2:=(hb.cell (p:=⟨g,j*3+2,none⟩) lg2).trans x2;have z3:=(hb.cell (p:=⟨g,q*3,none⟩) lg2).trans y0;have z4:=(hb.cell (p:=⟨g,q*3+1,none⟩) lg2).trans y1;have z5:=(hb.cell (p:=⟨g,q*3+2,none⟩) lg2).trans y2))
    go_wp2
    rw [Exit.noGoto_normal]
    go_returns
    have hRR:=HR2.out
    rw [hah,if_neg (by decide)] at hRR
    rw [hRR]
    exact ⟨rfl,HRow1.out.same (hb.block g lg2),HMod1.out.drew.then_below hb (Nat.le_refl _)⟩
   ·rw [hah] at HA
    go_wp2_with fail
    refine HLe.out.mono ?_
    rintro e w2 ⟨rfl,hb0⟩
    have d0:=(hb0.cell (p:=⟨b,k,none⟩) ldb).trans d0
    have x0:=(hb0.cell (p:=⟨g,j*3,none⟩) lg).trans x0'
    have x1:=(hb0.cell (p:=⟨g,j*3+1,none⟩) lg).trans x1'
    have x2:=(hb0.cell (p:=⟨g,j*3+2,none⟩) lg).trans x2'
    have y0:=(hb0.cell (p:=⟨g,q*3,none⟩) lg).trans y0'
    have y1:=(hb0.cell (p:=⟨g,q*3+1,none⟩) lg).trans y1'
    have y2:=(hb0.cell (p:=⟨g,q*3+2,none⟩) lg).trans y2'
    have ldb2:b<w2.heap.size:=Nat.lt_of_lt_of_le ldb hb0.size
    have lg2:g<w2.heap.size:=Nat.lt_of_lt_of_le lg hb0.size
    have hrow1:=HRow.out.same (hb0.block g lg)
    have hmod1:=HMod.out.then_below hb0 (Nat.le_refl _)
    have HRow1:=Lib.hid hrow1
    have HMod1:=Lib.hid hmod1
    clear HRow HMod hb0 x0' x1' x2' y0' y1' y2' hrow1 hmod1
    go_wp2
    go_region_held3 (fun w'=>w'.cell? ⟨b,k,none⟩=some (.slice (some ⟨g,0,none⟩) n cap)∧w'.cell? ⟨g,j*3,none⟩=some (.int .i64 ej.whenT)∧w'.cell? ⟨g,j*3+1,none⟩=some (.int .u64 (ej.order:Nat))∧w'.cell? ⟨g,j*3+2,none⟩=some (.int .i64 ej.g)∧w'.cell? ⟨g,q*3,none⟩=some (.int .i64 eq.whenT)∧w'.cell? ⟨g,q*3+1,none⟩=some (.int .u64 (eq.order:Nat))∧w'.cell? ⟨g,q*3+2,none⟩=some (.int .i64 eq.g))
     (first | exact ⟨d0,x0,x1,x2,y0,y1,y2⟩ | exact ⟨z,z0,z1,z2,z3,z4,z5⟩)
     (first | (go_at_call 192;refine (HA.out _).mono ?_;rintro e w1 ⟨rfl,hb⟩;have z:=(hb.cell (p:=⟨b,k,none⟩) ldb2).trans d0;have z0:=(hb.cell (p:=⟨g,j*3,none⟩) lg2).trans x0;have z1:=(hb.cell (p:=⟨g,j*3+1,none⟩) lg2).trans x1;have z2:=(hb.cell (p:=⟨g,j*3+2,none⟩) lg2).trans x2;have z3:=(hb.cell (p:=⟨g,q*3,none⟩) lg2).trans y0;have z4:=(hb.cell (p:=⟨g,q*3+1,none⟩) lg2).trans y1;have z5:=(hb.cell (p:=⟨g,q*3+2,none⟩) lg2).trans y2))
    have hrow2:=HRow1.out.same (hb.block g lg2)
    have hmod2:=HMod1.out.drew.then_below hb (Nat.le_refl _)
    have fg2:=hrow2.fr
    have HRow2:=Lib.hid hrow2
    have HMod2:=Lib.hid hmod2
    clear HRow1 HMod1 hb d0 x0 x1 x2 y0 y1 y2 hrow2 hmod2
    go_wp2
    go_region
    go_wp2
    have hRR:=HR2.out
    rw [hah,if_pos rfl] at hRR
    have hR3:R=downE (n - q) ((l'.set j eq).set q ej) q:=by
     rw [hRR];exact zd2 _ _ _ _ (by rw [List.length_set,List.length_set,HL.out];omega) (by rw [List.length_set,List.length_set,HL.out];omega)
    have hlen:((l'.set j eq).set q ej).length=n:=by rw [List.length_set,List.length_set];exact HL.out
    have hq2:q≤65536:=by omega
    have hm:n - (intOf (.int .i64 (q:Int))).toNat<n - (intOf (.int .i64 (j:Int))).toNat:=by show n - (q:Int).toNat<n - (j:Int).toNat;rw [Int.toNat_natCast,Int.toNat_natCast];omega
    have h2:=((HRow2.out.set j (by rw [HL.out];omega) eq).set q (by rw [List.length_set,HL.out];omega) ej)
    refine ⟨⟨q,(l'.set j eq).set q ej,rfl,hq2,hlen,hR3,h2.drew,?_⟩,hm⟩
    exact ((((((HMod2.out.setCell (.inl rfl) _).setCell (.inl rfl) _).setCell (.inl rfl) _).setCell (.inl rfl) _).setCell (.inl rfl) _).setCell (.inl rfl) _).drew
  ·have hjI:¬ 4*(j:Int)+1<(n:Int):=by omega
   have e:R=l':=by
    rw [hr]
    cases hz:n - j with
    | zero=>rfl
    | succ z=>show (if 4*j+1<l'.length then _ else _)=_;rw [if_neg (by omega)]
   subst e
   have HRow:=Lib.hid hrow
   have HMod:=Lib.hid hmod
   clear hrow hmod hr
   go_wp2
   try rw [Exit.noGoto_normal]
   go_returns
   exact ⟨rfl,HRow.out,HMod.out⟩
theorem zbB (a b:Ent):a.ahead b=true ↔ a.whenT<b.whenT∨(a.whenT=b.whenT∧(a.order<b.order∨(a.order=b.order∧a.g<b.g))):=by
 unfold Ent.ahead
 simp only [Bool.or_eq_true,Bool.and_eq_true,decide_eq_true_eq,beq_iff_eq]
theorem zaF {a b c:Ent} (h:b.ahead a=false) (k:c.ahead b=false):c.ahead a=false:=by
 rw [Bool.eq_false_iff] at *
 rw [Ne,zbB] at *
 omega
theorem za8 {a b:Ent} (h:a.ahead b=true):b.ahead a=false:=by
 rw [Bool.eq_false_iff,Ne]
 rw [zbB] at *
 omega
theorem zaO (a:Ent):a.ahead a=false:=by
 rw [Bool.eq_false_iff,Ne,zbB];omega
theorem zaX (l:List Ent) (i q:Nat) (hi:i<l.length) (hq:q<l.length) (k:Nat) :
  ((l.set i (l.getD q ent0)).set q (l.getD i ent0)).getD k ent0=if k=q then l.getD i ent0 else if k=i then l.getD q ent0 else l.getD k ent0:=by
 simp only [List.getD_eq_getElem?_getD,List.getElem?_set,List.length_set]
 grind
theorem swap_perm (l:List Ent) (i q:Nat) (hi:i<l.length) (hq:q<l.length):((l.set i (l.getD q ent0)).set q (l.getD i ent0)).Perm l:=by
 have h:=List.set_set_perm (i:=i) (j:=q) hi hq
 simpa [List.getD_eq_getElem?_getD,List.getElem?_eq_getElem hi,List.getElem?_eq_getElem hq] using h
theorem upE_len:∀ (f:Nat) (l:List Ent) (i:Nat),(upE f l i).length=l.length
 | 0,_,_=>rfl
 | f+1,l,i=>by
  show (if i=0 then l else _).length=_
  split
  ·rfl
  ·split
   ·rw [upE_len f];simp
   ·rfl
theorem upE_perm:∀ (f:Nat) (l:List Ent) (i:Nat),i<l.length→(upE f l i).Perm l
 | 0,_,_,_=>List.Perm.refl _
 | f+1,l,i,h=>by
  show (if i=0 then l else _).Perm _
  split
  ·exact List.Perm.refl _
  ·split
   ·exact (upE_perm f _ _ (by simp;omega)).trans (swap_perm l i _ h (by omega))
   ·exact List.Perm.refl _
theorem zcM:∀ (f:Nat) (l:List Ent) (i:Nat),(downE f l i).Perm l
 | 0,_,_=>List.Perm.refl _
 | f+1,l,i=>by
  show (if 4*i+1<l.length then _ else l).Perm _
  split
  ·rename_i hi
   obtain ⟨h1,h2⟩:=zdo l i hi
   split
   ·exact (zcM f _ _).trans (swap_perm l i _ (by omega) h2)
   ·exact List.Perm.refl _
  ·exact List.Perm.refl _
def upOK (l:List Ent) (i:Nat):Prop :=
 (∀ k,0<k→k<l.length→k≠i→(l.getD k ent0).ahead (l.getD ((k - 1) / 4) ent0)=false) ∧
 (∀ k,0<k→k<l.length→(k - 1) / 4=i→0<i→(l.getD k ent0).ahead (l.getD ((i - 1) / 4) ent0)=false)
theorem upOK_swap (l:List Ent) (i:Nat) (hi:i<l.length) (h0:i≠0) (h:upOK l i) (ha:(l.getD i ent0).ahead (l.getD ((i - 1) / 4) ent0)=true) :
  upOK ((l.set i (l.getD ((i - 1) / 4) ent0)).set ((i - 1) / 4) (l.getD i ent0)) ((i - 1) / 4):=by
 obtain ⟨q,hq⟩:∃ q,q=(i - 1) / 4:=⟨_,rfl⟩
 rw [← hq] at ha ⊢
 have hqi:q<i:=by omega
 obtain ⟨h1,h2⟩:=h
 refine ⟨fun k hk0 hk hkq=>?_,fun k hk0 hk hkq hq0=>?_⟩
 ·simp only [List.length_set] at hk
  rw [zaX l i q hi (by omega) k,zaX l i q hi (by omega) ((k - 1) / 4),if_neg hkq]
  by_cases hki:k=i
  ·subst hki
   rw [if_pos rfl,if_pos hq.symm]
   exact za8 ha
  ·rw [if_neg hki]
   by_cases hpq:(k - 1) / 4=q
   ·rw [if_pos hpq]
    have:=h1 k hk0 hk hki
    rw [hpq] at this
    exact zaF (za8 ha) this
   ·rw [if_neg hpq]
    by_cases hpi:(k - 1) / 4=i
    ·rw [if_pos hpi]
     have:=h2 k hk0 hk hpi (by omega)
     rw [← hq] at this
     exact this
    ·rw [if_neg hpi];exact h1 k hk0 hk hki
 ·simp only [List.length_set] at hk
  rw [zaX l i q hi (by omega) k,zaX l i q hi (by omega) ((q - 1) / 4),if_neg (by omega:¬ k=q),if_neg (by omega:¬ (q - 1) / 4=q),if_neg (by omega:¬ (q - 1) / 4=i)]
  have hqq:=h1 q hq0 (by omega) (by omega)
  by_cases hki:k=i
  ·rw [if_pos hki];exact hqq
  ·rw [if_neg hki]
   have:=h1 k hk0 hk hki
   rw [hkq] at this
   exact zaF hqq this
theorem upE_heap:∀ (f:Nat) (l:List Ent) (i:Nat),i<l.length→i+1≤f→upOK l i→isHeap (upE f l i)
 | 0,_,_,_,h,_=>by omega
 | f+1,l,i,hi,hf,h=>by
  show isHeap (if i=0 then l else _)
  by_cases h0:i=0
  ·rw [if_pos h0];exact fun k hk0 hk=>h.1 k hk0 hk (by omega)
  ·rw [if_neg h0]
   cases ha:(l.getD i ent0).ahead (l.getD ((i - 1) / 4) ent0)
   ·rw [if_neg (by decide)]
    intro k hk0 hk
    by_cases hki:k=i
    ·rw [hki];exact ha
    ·exact h.1 k hk0 hk hki
   ·rw [if_pos rfl]
    exact upE_heap f _ _ (by simp only [List.length_set];omega) (by omega) (upOK_swap l i hi h0 h ha)
theorem upOK_put (l:List Ent) (e:Ent) (h:isHeap l):upOK (l++[e]) l.length:=by
 refine ⟨fun k hk0 hk hkn=>?_,fun k hk0 hk hkn _=>?_⟩
 ·simp only [List.length_append,List.length_cons,List.length_nil] at hk
  have e1:∀ j,j<l.length→(l++[e]).getD j ent0=l.getD j ent0:=fun j hj=>by simp [List.getD_eq_getElem?_getD,List.getElem?_append_left hj]
  rw [e1 k (by omega),e1 _ (by omega)];exact h k hk0 (by omega)
 ·simp only [List.length_append,List.length_cons,List.length_nil] at hk;omega
theorem put_heap (l:List Ent) (e:Ent) (h:isHeap l):isHeap (upE (l.length+1) (l++[e]) l.length)∧(upE (l.length+1) (l++[e]) l.length).Perm (l++[e]) :=
 ⟨upE_heap _ _ _ (by simp) (Nat.le_refl _) (upOK_put l e h),upE_perm _ _ _ (by simp)⟩
theorem zbK (l:List Ent):∀ (f k best x:Nat),x=best∨(k≤x∧x<k+f)→(l.getD x ent0).ahead (l.getD (bestE l f k best) ent0)=false
 | 0,k,best,x,h=>by
  have:x=best:=by omega
  rw [this];exact zaO _
 | f+1,k,best,x,h=>by
  show (l.getD x ent0).ahead (l.getD (bestE l f (k+1) (if (l.getD k ent0).ahead (l.getD best ent0) then k else best)) ent0)=false
  cases ha:(l.getD k ent0).ahead (l.getD best ent0)
  ·rw [if_neg (by decide)]
   by_cases hx:x=k
   ·subst hx
    exact zaF (zbK l f (x+1) best best (.inl rfl)) ha
   ·exact zbK l f (k+1) best x (by omega)
  ·rw [if_pos rfl]
   by_cases hx:x=best
   ·subst hx
    exact zaF (zbK l f (k+1) k k (.inl rfl)) (za8 ha)
   ·exact zbK l f (k+1) k x (by omega)
theorem bestE_le (l:List Ent) (m:Nat):∀ (f k best:Nat),k+f≤m+1→best≤m→bestE l f k best≤m
 | 0,_,_,_,h=>h
 | f+1,k,best,hk,h=>by
  show bestE l f (k+1) _≤m
  refine bestE_le l m f (k+1) _ (by omega) ?_
  split <;> omega
theorem kidE_min (l:List Ent) (i k:Nat) (hi:4*i+1<l.length) (hk0:0<k) (hk:k<l.length) (hp:(k - 1) / 4=i):(l.getD k ent0).ahead (l.getD (kidE l i) ent0)=false:=by
 unfold kidE
 refine zbK l _ _ _ k ?_
 by_cases h:k=4*i+1
 ·exact .inl h
 ·exact .inr (by omega)
theorem kidE_par (l:List Ent) (i:Nat) (hi:4*i+1<l.length):(kidE l i - 1) / 4=i:=by
 have h1:4*i+1≤kidE l i:=bestE_ge l (4*i+1) _ _ _ (Nat.le_refl _) (Nat.le_refl _)
 have h2:kidE l i≤4*i+4:=bestE_le l (4*i+4) _ _ _ (by omega) (by omega)
 omega
def downOK (l:List Ent) (i:Nat):Prop :=
 (∀ k,0<k→k<l.length→(k - 1) / 4≠i→(l.getD k ent0).ahead (l.getD ((k - 1) / 4) ent0)=false) ∧
 (∀ k,0<k→k<l.length→(k - 1) / 4=i→0<i→(l.getD k ent0).ahead (l.getD ((i - 1) / 4) ent0)=false)
theorem downOK_swap (l:List Ent) (i:Nat) (hi:4*i+1<l.length) (h:downOK l i) (ha:(l.getD (kidE l i) ent0).ahead (l.getD i ent0)=true) :
  downOK ((l.set i (l.getD (kidE l i) ent0)).set (kidE l i) (l.getD i ent0)) (kidE l i):=by
 have hm:=fun k=>kidE_min l i k hi
 obtain ⟨hq1,hq2⟩:=zdo l i hi
 have hqp:=kidE_par l i hi
 generalize kidE l i=q at *
 obtain ⟨h1,h2⟩:=h
 refine ⟨fun k hk0 hk hkq=>?_,fun k hk0 hk hkq hq0=>?_⟩
 ·simp only [List.length_set] at hk
  rw [zaX l i q (by omega) hq2 k,zaX l i q (by omega) hq2 ((k - 1) / 4),if_neg hkq]
  by_cases hkq2:k=q
  ·rw [if_pos hkq2,hkq2,if_pos hqp]
   exact za8 ha
  ·rw [if_neg hkq2]
   by_cases hpi:(k - 1) / 4=i
   ·rw [if_pos hpi,if_neg (by omega:¬ k=i)]
    exact hm k hk0 hk hpi
   ·rw [if_neg hpi]
    by_cases hki:k=i
    ·rw [if_pos hki]
     have:=h2 q (by omega) hq2 hqp (by omega)
     rw [hki];exact this
    ·rw [if_neg hki];exact h1 k hk0 hk hpi
 ·simp only [List.length_set] at hk
  rw [zaX l i q (by omega) hq2 k,zaX l i q (by omega) hq2 ((q - 1) / 4),if_neg (by omega:¬ k=q),if_neg (by omega:¬ k=i),hqp,if_neg (by omega:¬ i=q),if_pos rfl]
  have:=h1 k hk0 hk (by omega)
  rw [hkq] at this
  exact this
theorem zd7:∀ (f:Nat) (l:List Ent) (i:Nat),l.length≤f+i→downOK l i→isHeap (downE f l i)
 | 0,l,i,hf,h=>fun k hk0 hk=>h.1 k hk0 hk (by simp only [downE] at hk;omega)
 | f+1,l,i,hf,h=>by
  show isHeap (if 4*i+1<l.length then _ else l)
  by_cases hi:4*i+1<l.length
  ·rw [if_pos hi]
   obtain ⟨hq1,hq2⟩:=zdo l i hi
   cases ha:(l.getD (kidE l i) ent0).ahead (l.getD i ent0)
   ·rw [if_neg (by decide)]
    intro k hk0 hk
    by_cases hp:(k - 1) / 4=i
    ·rw [hp];exact zaF ha (kidE_min l i k hi hk0 hk hp)
    ·exact h.1 k hk0 hk hp
   ·rw [if_pos rfl]
    exact zd7 f _ _ (by simp only [List.length_set];omega) (downOK_swap l i hi h ha)
  ·rw [if_neg hi]
   exact fun k hk0 hk=>h.1 k hk0 hk (by omega)
theorem heap_head (l:List Ent) (h:isHeap l):∀ k,k<l.length→(l.getD k ent0).ahead (l.getD 0 ent0)=false:=by
 intro k
 induction k using Nat.strongRecOn with
 | _ k ih =>
  intro hk
  by_cases h0:k=0
  ·rw [h0];exact zaO _
  ·exact zaF (ih ((k - 1) / 4) (by omega) (by omega)) (h k (by omega) hk)
def zep (l:List Ent):List Ent:=(l.set 0 (l.getD (l.length - 1) ent0)).take (l.length - 1)
theorem zdx (l:List Ent):(zep l).length=l.length - 1:=by unfold zep;simp
theorem zd6 (l:List Ent) (k:Nat) (h0:k≠0) (hk:k<l.length - 1):(zep l).getD k ent0=l.getD k ent0:=by
 unfold zep
 simp only [List.getD_eq_getElem?_getD,List.getElem?_take,List.getElem?_set]
 rw [if_pos hk,if_neg (by omega)]
theorem restE_down (l:List Ent) (h:isHeap l):downOK (zep l) 0:=by
 refine ⟨fun k hk0 hk hp=>?_,fun k hk0 hk hp h0=>by omega⟩
 rw [zdx] at hk
 rw [zd6 l k (by omega) hk,zd6 l _ hp (by omega)]
 exact h k hk0 (by omega)
theorem restE_perm (l:List Ent) (hl:l≠[]):(zep l++[l.getD 0 ent0]).Perm l:=by
 cases l with
 | nil=>exact absurd rfl hl
 | cons a t =>
  cases ht:t with
  | nil=>subst ht;simp [zep]
  | cons b u =>
   have h1:zep (a :: b :: u)=(b :: u).getLast (by simp) :: (b :: u).dropLast:=by
    unfold zep
    have e:(a :: b :: u).getD ((a :: b :: u).length - 1) ent0=(b :: u).getLast (by simp):=by
     simp [List.getD_eq_getElem?_getD,List.getLast_eq_getElem]
    rw [e,List.set_cons_zero]
    simp [List.dropLast_eq_take]
   rw [h1]
   have h2:=List.dropLast_concat_getLast (l:=b :: u) (by simp)
   show ((b :: u).getLast _ :: (b :: u).dropLast++[a]).Perm (a :: b :: u)
   refine (List.perm_append_comm (l₁:=(b :: u).getLast (by simp) :: (b :: u).dropLast) (l₂:=[a])).trans ?_
   refine List.Perm.cons a ?_
   refine List.Perm.trans ?_ (List.Perm.of_eq h2)
   exact (List.perm_append_comm (l₁:=[(b :: u).getLast (by simp)]) (l₂:=(b :: u).dropLast))
theorem first_no (b k c:Nat) (a:Option Addr) (w:World) (c0:w.cell? ⟨b,k,none⟩=some (.slice a 0 c)) :
  Calls Tryz.prog 168 #[.pointer (some ⟨b,k,none⟩)] w fun e w'=>e=.returned (.tuple #[entV ent0,.bool false])∧Below w.heap.size w w':=by
 have lb:=World.block_lt_of_cell? w _ c0
 simp only at lb
 unfold entV ent0
 go_enter Tryz.func168,Tryz.ntmps168
 go_wp2
 go_returns
 refine ⟨rfl,?_⟩
 go_grown
theorem first_yes (b k g cap:Nat) (l:List Ent) (w:World) (hl:0<l.length) (hbig:l.length≤65536) (c0:w.cell? ⟨b,k,none⟩=some (.slice (some ⟨g,0,none⟩) l.length cap)) (h:RowE w g cap l) :
  Calls Tryz.prog 168 #[.pointer (some ⟨b,k,none⟩)] w fun e w'=>e=.returned (.tuple #[entV (l.getD 0 ent0),.bool true])∧Below w.heap.size w w':=by
 have lb:=World.block_lt_of_cell? w _ c0
 obtain ⟨x0,x1,x2⟩:=h.get 0 hl
 simp only [Nat.zero_mul,Nat.zero_add] at x0 x1 x2
 have lg:=World.block_lt_of_cell? w _ x0
 simp only at lb lg
 generalize l.getD 0 ent0=e0 at *
 generalize l.length=n at *
 clear h
 unfold entV
 have hn:(0:Int)<(n:Int):=by omega
 have hn0:((n:Int)==0)=false:=by rw [beq_eq_false_iff_ne];omega
 go_enter Tryz.func168,Tryz.ntmps168
 go_wp2
 go_returns
 refine ⟨rfl,?_⟩
 go_grown
end Go.Proofs.YtlmmjgekolpekaaGreatDoor
