/- Parts of the proof. -/
import Derived.Test.YtlmmjgekolpekaaGreatDoorMPq20
import Derived.Test.YtlmmjgekolpekaaGreatDoorMPs12
import Derived.Test.YtlmmjgekolpekaaGreatDoorMPt12
import Derived.Test.YtlmmjgekolpekaaGreatDoorMPq26
import Derived.Test.YtlmmjgekolpekaaGreatDoorMPq29
set_option linter.unusedVariables false
set_option linter.unusedSimpArgs false
set_option linter.unusedSectionVars false
set_option maxRecDepth 100000
set_option maxHeartbeats 6400000
namespace Go.Proofs.YtlmmjgekolpekaaGreatDoor
open Go Go.RowKit Hst Go.Proofs
theorem then_ok (N:Nat) (p:Wd) (i k:Nat) (hi:i<p.M) (hI : -1≤(p.mach i).i∧(p.mach i).i≤4096) (h9:(p.mach i).place=9→0≤(p.mach i).i) (hk:zek p.P (p.mach i)=some k):ThenOK N p i (p.andThen i):=by
 rcases zaQ _ _ hk with e | e | e | e | e | e | e | e | e | e | e | e | e | e | e | e | e | e | e
 ·exact then_2 N p i hi e hI
 ·exact then_3 N p i hi e hI
 ·exact then_4 N p i hi e hI
 ·exact then_6 N p i hi e hI
 ·exact then_7 N p i hi e hI
 ·have h0:=h9 e
  cases hf:p.fl i <;> by_cases hl:(p.mach i).i+1<p.P
  ·exact then_9l N p i hi e ⟨h0,hI.2⟩ hf hl
  ·exact then_9g N p i hi e ⟨h0,hI.2⟩ hf hl
  ·exact then_9tl N p i hi e ⟨h0,hI.2⟩ hf hl
  ·exact then_9tg N p i hi e ⟨h0,hI.2⟩ hf hl
 ·cases hf:p.fl i
  ·exact then_10f N p i hi e hf
  ·exact then_10t N p i hi e hf
 ·cases hf:p.fl i
  ·exact then_11f N p i hi e hf
  ·exact then_11t N p i hi e hf
 ·cases hs:(p.mach i).spin <;> cases hf:p.fl i
  ·exact then_13nf N p i hi e hs hf
  ·exact then_13nt N p i hi e hs hf
  ·exact then_13ssf N p i hi e hs hf
  ·exact then_13sst N p i hi e hs hf
 ·cases hf:p.fl i
  ·exact then_14f N p i hi e hf
  ·exact then_14t N p i hi e hf
 ·cases hf:p.fl i
  ·exact then_15f N p i hi e hf
  ·exact then_15t N p i hi e hf
 ·exact then_17 N p i hi e
 ·exact then_18 N p i hi e
 ·by_cases ht:0≤(p.mach i).target
  ·exact then_23t N p i hi e ht
  ·exact then_23f N p i hi e ht
 ·cases hf:p.fl i
  ·exact then_25f N p i hi e hf
  ·exact then_25t N p i hi e hf
 ·exact then_27 N p i hi e
 ·exact then_28 N p i hi e
 ·by_cases hg:0≤(p.mach i).g
  ·exact then_29g N p i hi e hg
  ·cases hf:p.fl i
   ·exact then_29f N p i hi e hg hf
   ·exact then_29t N p i hi e hg hf
 ·by_cases hg:0≤(p.mach i).g
  ·exact then_30g N p i hi e hg
  ·cases hf:p.fl i
   ·exact then_30f N p i hi e hg hf
   ·exact then_30t N p i hi e hg hf
section
variable {n:Nat} {p:Wd} {i:Nat}
theorem za6 (k:Int) (g m q v:Int) (hk:0≤k∧k<8) (hg:0≤g∧g<4096) (hm : -1≤m∧m<128) (hq : -1≤q∧q<64) (hv:valOk ⟨k,g,m,q,v⟩=true):zeh ⟨k,g,m,q,v⟩=true:=by
 unfold zeh
 exact decide_eq_true ⟨hk.1,hk.2,hg.1,hg.2,hm.1,hm.2,hq.1,hq.2,hv⟩
theorem do_ok (N:Nat) (h:Inv n p) (hn:n<2^31) (hi:i<p.M) (k:Nat) (hk:zek p.P (p.mach i)=some k) (hin:(p.mach i).inn=true) (hs:(p.mach i).stage=2)
  (ok':SrcOK (p.doIt i (p.mach i).times).1.src p.G):DoOK N p i (p.mach i).times (p.doIt i (p.mach i).times).1 (p.doIt i (p.mach i).times).2:=by
 have L:=h.L.loc i hi
 have sh:=L.sh
 have hP:=h.sh.dP
 have hM:=h.sh.dM
 have hG:=h.sh.dG
 have rp:=L.rp
 have ok:=srcok h (by omega)
 have hgl:=glob_len h
 have hrl:=rest_len h hi
 have hpl:=pend_len h
 have hml:=idlem_len h
 have hlog:=h.log
 have n3:¬ (p.mach i).s3:=fun x=>by have:=x.2;omega
 obtain ⟨S,_⟩:=h.L.sec i hi hin
 have ht:=S.t2 hs
 have hq:0≤(p.mach i).p→∃ q:Nat,(p.mach i).p=(q:Int)∧q<p.P:=fun x=>⟨(p.mach i).p.toNat,by omega,by omega⟩
 rcases zaQ _ _ hk with e | e | e | e | e | e | e | e | e | e | e | e | e | e | e | e | e | e | e
 ·exact do_one N p i _ hi e (by omega)
 ·obtain ⟨q,h1,h2⟩:=hq (sh3 sh e).1
  exact do_local N p i q _ hi h2 h1 e
 ·exact do_global N p i _ hi e (by omega)
 ·obtain ⟨q,h1,h2⟩:=hq (sh6 sh e).1
  have h3:=(sh6 sh e).2.2.2.2
  exact do_6 N p i q (p.mach i).i.toNat _ _ hi h2 h1 (by omega) (by omega) rfl e
 ·obtain ⟨x1,x2,x3,x4,x5⟩:=sh7 sh e
  rw [if_neg (fun x=>n3 x.1)] at x5
  obtain ⟨q,h1,h2⟩:=hq x5
  obtain ⟨b1,b2⟩:=held_not h hi q h1 h2
  exact do_7 N p i q _ hi e h2 h1 (by omega) b1 b2 (by omega)
 ·have h3:=(sh9 sh e).2.2.2.2
  exact do_9 N p i (p.mach i).i.toNat _ hi (by omega) (by omega) e
 ·exact do_10 N p i _ hi e (by omega)
 ·exact do_11 N p i _ hi e
 ·obtain ⟨b1,b2⟩:=not_reg h hi (fun x=>by
   rcases x with x | x | x | x
   ·omega
   ·omega
   ·omega
   ·exact n3 x.2.1)
  exact do_13 N p i _ hi e (by omega) (by omega) b1 (by simpa using b2)
 ·exact do_14 N p i _ hi ok e
 ·exact do_15 N p i _ hi e
 ·obtain ⟨q,h1,h2⟩:=hq (sh17 sh e).1
  exact do_17 N p i q _ hi h2 h1 e (by omega)
 ·exact do_18 N p i _ hi e (by omega)
 ·refine do_23 N p i _ hi e (by omega) (by omega) hP.2 h.B.bits (fun hz k b hkb hb=>?_) fun hz=>?_
  ·unfold Idle.takeM at hkb
   have hr:=h.D.rpo
   split at hkb
   ·simp only [Prod.mk.injEq] at hkb
    obtain ⟨e1,e2⟩:=hkb
    subst e2
    have:p.idle.poller ≠ -1:=by simpa using hb
    exact ⟨p.idle.poller.toNat,by omega,by omega⟩
   ·rename_i hne
    simp only [Prod.mk.injEq] at hkb
    have hmem:p.idle.m.getLastD 0∈p.idle.m:=by
     rw [List.getLastD_eq_getLast?,List.getLast?_eq_some_getLast hne]
     exact List.getLast_mem hne
    have h2:=h.D.rm _ hmem
    exact ⟨k.toNat,by omega,by omega⟩
  ·obtain ⟨b1,b2⟩:=zbS hz hP.2 h.B.bits
   have h1:=h.B.each _ b2
   rw [zai b1] at h1
   intro hm
   have:=List.count_pos_iff.2 hm
   omega
 ·exact do_25 N p i _ hi ok e
 ·exact do_27 N p i _ hi e (by omega)
 ·obtain ⟨q,h1,h2⟩:=hq (sh28 sh e).1
  exact do_28 N p i q _ hi h2 h1 e
 ·obtain ⟨q,h1,h2⟩:=hq (sh29 sh e).1
  have g0:0≤(p.mach i).g:=by rcases (sh29 sh e).2.2.2 with x | x;exact absurd x n3;exact x
  have rg:=L.rg
  refine do_29 N p i q _ hi e ok h1 h2 L.ra (fun h0=>?_) (fun _=>za6 _ _ _ _ _ (by omega) (by omega) (by omega) (by omega) (decide_eq_true (.inl rfl))) (by omega)
  obtain ⟨o1,o2⟩:=runs_out h hi g0 (fun x=>by have:=x.2.2;omega)
  have e1:(p.doIt i (p.mach i).times).1.src=p.src.sleep (p.mach i).g (p.mach i).arg:=by
   have e0:p.doIt i (p.mach i).times=p.out i (p.mach i).times:=by unfold Wd.doIt;simp only [e]
   rw [e0]
   unfold Wd.out;dsimp only;rw [if_neg (by rw [e];decide),if_pos h0];rfl
  rw [e1] at ok'
  exact ⟨g0,by omega,o1,o2,ok'⟩
 ·have s30:=sh30 sh e
  have g0:0≤(p.mach i).g:=by rcases s30.2.2.2.1 with x | x;exact absurd x n3;exact x
  have rg:=L.rg
  have ra:=s30.2.2.2.2
  refine do_30 N p i _ hi e ok ra (fun h0=>?_) (fun _=>za6 _ _ _ _ _ (by omega) (by omega) (by omega) (by omega) (decide_eq_true (.inr (.inl ⟨rfl,ra.1,ra.2⟩)))) (by omega)
  obtain ⟨o1,o2⟩:=runs_out h hi g0 (fun x=>by have:=x.2.2;omega)
  have e1:(p.doIt i (p.mach i).times).1.src=(p.src.wait (p.mach i).arg.toNat (p.mach i).g).1:=by
   have e0:p.doIt i (p.mach i).times=p.out i (p.mach i).times:=by unfold Wd.doIt;simp only [e]
   rw [e0]
   unfold Wd.out;dsimp only;rw [if_pos e,if_pos h0];rfl
  rw [e1] at ok'
  exact ⟨g0,by omega,o1,ok'⟩
theorem pick_lock (hi:i<p.M) (k:Nat) (hk:zek p.P (p.mach i)=some k) (s:Hst.Stp) (ha:s.a=(i:Int)):p.pick s=(p.locked i k,true):=by
 have hp:=zaQ _ _ hk
 unfold Wd.pick
 rw [if_neg (by omega)]
 simp only [ha,Int.toNat_natCast]
 rw [if_neg (by omega),if_neg (by omega),zdi,hk]
theorem locked_inv (h:Inv n p) (hn:n<2^61) (hi:i<p.M) (k:Nat) (hk:zek p.P (p.mach i)=some k):Inv (n+2) (p.locked i k):=by
 have h1:=zcm h hn ⟨0,0,i,0,0⟩ (by simp)
 have e:p.step ⟨0,0,i,0,0⟩=p.pick ⟨0,0,i,0,0⟩:=rfl
 rw [e,pick_lock hi k hk _ rfl] at h1
 exact h1
theorem locked_ok (N:Nat) (h:Inv n p) (hn:n<2^31) (hi:i<p.M) (k:Nat) (hk:zek p.P (p.mach i)=some k):LockedOK N p i k (p.locked i k):=by
 have hle:=zcb _ _ hk h.sh.dP.1
 have L:=h.L.loc i hi
 have hla:i<p.all.length:=by rw [h.sh.la];exact hi
 cases hin:(p.mach i).inn with
 | false=>exact zb7 N p i k hi hle hin
 | true =>
  obtain ⟨S,k2,hk2,hle2,hlN⟩:=h.L.sec i hi hin
  obtain rfl:k2=k:=Option.some.inj (hk2.symm.trans hk)
  obtain ⟨k3,l1,l2⟩:=S.lk
  have hlS:(p.mach i).lkS=((2*k2+1:Nat):Int):=by omega
  have htk:(p.mach i).ticket<18446744073709551616:=by
   have h1:=h.C.one k2 (p.mach i).ticket hle
   have h2:=zaK (zed k2 (p.mach i).ticket) p.all i Mach.fresh hla
   have h3:zed k2 (p.mach i).ticket (p.all.getD i Mach.fresh)=1:=zai ⟨hin,hlN,S.pos,rfl⟩
   have h4:p.serve k2≤(p.mach i).ticket∧(p.mach i).ticket<p.nextT k2:=zca.1 (by
    have:=za3 (p.serve k2≤(p.mach i).ticket∧(p.mach i).ticket<p.nextT k2)
    omega)
   have h5:=(h.C.le k2 hle).2
   omega
  have hst:(p.mach i).stage=1∨(p.mach i).stage=2∨(p.mach i).stage=3:=by have:=S.pos;have:=S.stage;omega
  rcases hst with hs | hs | hs
  ·exact zb5 N p i k2 hi hle hin hs hlS htk
  ·have hkeep:=do_keep p i (p.mach i).times
   refine zds N p i k2 hi hin hs (do_ok N h hn hi k2 hk hin hs ?_) (by rw [hkeep.1];exact hi) (by rw [hkeep.2.1];exact hs)
   have h2:=srcok (locked_inv h (by omega) hi k2 hk) (by omega)
   have er:p.locked i k2=(p.doIt i (p.mach i).times).1.setM i { (p.doIt i (p.mach i).times).1.mach i with times:=wrap64 (((p.doIt i (p.mach i).times).1.mach i).times+1),stage:=if (p.doIt i (p.mach i).times).2 then 2 else 3 }:=by
    unfold Wd.locked
    rw [zcA p i k2 hin]
    simp only [hs]
   rw [er] at h2
   rw [← hkeep.2.2]
   exact h2
  ·have he:=h.C.holds i k2 hi hin (by omega) hle hlN
   refine zb8 N p i k2 hi hle hin hs hlS htk he.symm ?_
   have em:((p.acc.st (2*k2+1) (((p.mach i).ticket+1) % 2^64)).setM i { p.mach i with stage:=4,inn:=false }).mach i={ p.mach i with stage:=4,inn:=false }:=by
    exact (mach_set (p.acc.st (2*k2+1) (((p.mach i).ticket+1) % 2^64)) i i _ hla).trans (if_pos rfl)
   refine then_ok N _ i k2 hi (by rw [em];exact L.ri) (fun e=>?_) ?_
   ·rw [em] at e ⊢
    exact (sh9 L.sh e).2.2.2.2.1
   ·rw [em]
    exact hk
end
section
variable {n : Nat} {p : Wd} {i : Nat}
theorem lockI_some {P k : Nat} {m : Mach} (hP : 0 < P) (h : zek P m = some k) : lockI P m = k := by
  rcases zaQ _ _ h with e | e | e | e | e | e | e | e | e | e | e | e | e | e | e | e | e | e | e
  all_goals (
    unfold zek at h
    unfold lockI
    simp only [e, lockK] at h ⊢)
  all_goals try (simp only [Option.some.injEq] at h; omega)
  all_goals (
    split at h
    · simp only [Option.some.injEq] at h
      rename_i hc
      first
        | (unfold ringI; rw [if_pos hc]; omega)
        | (rw [if_pos hc]
           have h2 := Int.emod_nonneg (m.p + m.i % P) (show (P : Int) ≠ 0 by omega)
           omega)
    · cases h)
theorem bare_place {P : Nat} {f : Bool} {m : Mach} (sh : Hst.shape P f m) (rp : m.p < P) (hk : zek P m = none) (h0 : m.place ≠ 0) (h16 : m.place ≠ 16) :
    m.place = 1 ∨ m.place = 5 ∨ m.place = 8 ∨ m.place = 12 ∨ m.place = 19 ∨ m.place = 20 ∨ m.place = 21 ∨ m.place = 22 ∨ m.place = 24 ∨ m.place = 26 := by
  unfold Hst.shape at sh
  split at sh
  all_goals try (rename_i e; exact absurd e h0)
  all_goals try (rename_i e; exact absurd e h16)
  all_goals try exact sh.elim
  all_goals try (rename_i e; simp [e]; done)
  all_goals (exfalso; rename_i e; unfold zek at hk; simp only [e] at hk)
  all_goals try (cases hk; done)
  all_goals try (rw [if_pos ⟨sh.1, rp⟩] at hk; cases hk; done)
  · rw [if_pos ⟨Int.le_trans (by decide) sh.2.2.2.2.1, sh.1, rp⟩] at hk; cases hk
  · rw [if_pos ⟨sh.2.2.2.2.1, sh.2.2.2.2.2⟩] at hk; cases hk
theorem bare_ok (N : Nat) (h : Inv n p) (hn : n < 2 ^ 31) (hi : i < p.M) (hk : zek p.P (p.mach i) = none) (h0 : (p.mach i).place ≠ 0) (h16 : (p.mach i).place ≠ 16) :
    (p.mach i).place < 31 ∧ lockK (p.mach i).place = 0 ∧ BareOK N p i (p.bare i) := by
  have L := h.L.loc i hi
  have sh := L.sh
  have rp := L.rp
  have rgot := L.rgot
  have rt := L.rt
  have hP := h.sh.dP
  have hM := h.sh.dM
  have hG := h.sh.dG
  have hlog := h.log
  have hq : 0 ≤ (p.mach i).p → ∃ q : Nat, (p.mach i).p = (q : Int) ∧ q < p.P := fun x => ⟨(p.mach i).p.toNat, by omega, by omega⟩
  rcases bare_place sh rp.2 hk h0 h16 with e | e | e | e | e | e | e | e | e | e
  · refine ⟨by omega, by rw [e]; rfl, ?_⟩
    obtain ⟨q, h1, h2⟩ := hq (sh1 sh e).2.1
    exact bare_1 N p i q hi h2 h1 e
  · exact ⟨by omega, by rw [e]; rfl, bare_5 N p i hi e⟩
  · exact ⟨by omega, by rw [e]; rfl, bare_8 N p i hi e⟩
  · exact ⟨by omega, by rw [e]; rfl, bare_12 N p i hi e⟩
  · exact ⟨by omega, by rw [e]; rfl, bare_19 N p i hi e⟩
  · have s2 := sh20 sh e
    exact ⟨by omega, by rw [e]; rfl, bare_20 N p i hi e (za6 _ _ _ _ _ (by omega) (by omega) (by omega) (by omega) (by simp [valOk])) (by omega)⟩
  · refine ⟨by omega, by rw [e]; rfl, ?_⟩
    by_cases hz : p.ld p.spinW = 0
    · exact bare_21z N p i hi e hz
    · exact bare_21n N p i hi e hz
  · refine ⟨by omega, by rw [e]; rfl, ?_⟩
    by_cases hz : p.ld p.spinW = 0
    · exact bare_22z N p i hi e hz
    · exact bare_22n N p i hi e hz
  · have s2 := (sh24 sh e).2.2.2.2
    exact ⟨by omega, by rw [e]; rfl, bare_24 N p i hi e (p.mach i).target.toNat (by omega) (by omega)⟩
  · have s2 := (sh26 sh e).2.2.2.2.2.2
    exact ⟨by omega, by rw [e]; rfl, bare_26 N p i hi e (p.mach i).got.toNat (by omega) (by omega) (za6 _ _ _ _ _ (by omega) (by omega) (by omega) (by omega) (by simp [valOk])) (by omega)⟩
theorem exec_ok (N : Nat) (h : Inv n p) (hn : n < 2 ^ 31) (hi : i < p.M) (e : (p.mach i).place = 0) (s : Hst.Stp) : ExecOK N p i s (p.exec i s) := by
  have L := h.L.loc i hi
  have sh := sh0 L.sh e
  have rp := L.rp
  have rg := L.rg
  have hP := h.sh.dP
  have hM := h.sh.dM
  have hG := h.sh.dG
  have hlog := h.log
  have hb : p.log.length < 4294967296 := by omega
  have hmv : ∀ a, p.moved s.x a = true → 0 ≤ s.x ∧ s.x < p.G := fun a ha => by
    unfold Wd.moved at ha
    rw [Bool.and_eq_true] at ha
    exact of_decide_eq_true ha.1
  have hc : s.act = 0 ∨ s.act = 1 ∨ s.act = 2 ∨ s.act = 3 ∨ s.act = 4 ∨ s.act = 5 ∨ s.act = 6 ∨ s.act = 7 ∨ 8 ≤ s.act := by omega
  rcases hc with a | a | a | a | a | a | a | a | a
  · exact exec_0 N p i s hi a
  · exact exec_1 N p i s hi a (za6 _ _ _ _ _ (by omega) (by omega) (by omega) (by omega) (by simp [valOk])) hb
  · exact exec_2 N p i s hi a (za6 _ _ _ _ _ (by omega) (by omega) (by omega) (by omega) (by simp [valOk])) hb
  · exact exec_3 N p i s hi a (za6 _ _ _ _ _ (by omega) (by omega) (by omega) (by omega) (by simp [valOk])) hb
  · cases hm : p.moved s.x 0
    · exact exec_4n N p i s hi a hm
    · have := hmv _ hm
      exact exec_4y N p i s hi a hm (za6 _ _ _ _ _ (by omega) (by omega) (by omega) (by omega) (by simp [valOk])) hb
  · cases hm : p.moved s.x 3
    · exact exec_5n N p i s hi a hm
    · have := hmv _ hm
      exact exec_5y N p i s hi a hm (za6 _ _ _ _ _ (by omega) (by omega) (by omega) (by omega) (by simp [valOk])) hb
  · exact exec_6 N p i s hi a
  · by_cases h1 : s.x < 0
    · exact exec_7n N p i s hi a h1
    · by_cases h2 : 65536 ≤ s.x
      · exact exec_7m N p i s hi a h1 h2
      · exact exec_7 N p i s hi a h1 h2
  · exact exec_8 N p i s hi a
def stV (s : Hst.Stp) : Value := zeD s.kind s.act s.a s.x s.d
def StepDone (N : Nat) (p : Wd) (s : Hst.Stp) : Prop := ∀ (F : Fix) (V : Vol) (ow : Nat → Nat) (w : World), WAt F V ow w p → Env N ow w →
  Calls Tryz.prog 59 #[.pointer (some ⟨F.W, 0, none⟩), stV s] w fun e w' => e = .returned (.bool (p.step s).2) ∧ ∃ V' ow', On F V' ow w ow' w' (p.step s).1
theorem pick_ok (N : Nat) (h : Inv n p) (hn : n < 2 ^ 31) (s : Hst.Stp) (hs : s.kind = 0) : StepDone N p s := by
  intro F V ow w hw E
  have e : p.step s = p.pick s := by unfold Wd.step; simp only [hs]
  rw [e]
  unfold stV zeD
  rw [hs]
  refine step_pick hw s.act s.a s.x s.d (p.pick s).2 fun w1 ow1 h1 eo ag => ?_
  have E1 : Env N ow1 w1 := ⟨E.tabs.below (fun b hb => ag.2 b (Nat.lt_of_lt_of_le hb E.tabs.le) (E.low b hb)) (Nat.le_trans E.tabs.le ag.1), fun b hb => (eo b (Nat.lt_of_lt_of_le hb E.tabs.le)).trans (E.low b hb)⟩
  by_cases ha : s.a < 0 ∨ s.a ≥ p.M
  · have e1 : p.pick s = (p, false) := by unfold Wd.pick; rw [if_pos ha]
    rw [e1]
    exact (pick_out h1 s.act s.a s.x s.d (by omega))
  · obtain ⟨i, hia⟩ : ∃ i : Nat, s.a = i := ⟨s.a.toNat, by omega⟩
    have hi : i < p.M := by omega
    by_cases h0 : (p.mach i).place = 0
    · have e1 : p.pick s = p.exec i s := by
        unfold Wd.pick
        rw [if_neg ha]
        simp only [hia, Int.toNat_natCast]
        rw [if_pos h0]
      rw [e1, hia]
      exact pick_exec N h1 E1 i s _ hi h0 hia (exec_ok N h hn hi h0 s)
    · by_cases h16 : (p.mach i).place = 16
      · have e1 : p.pick s = p.woken i := by
          unfold Wd.pick
          rw [if_neg ha]
          simp only [hia, Int.toNat_natCast]
          rw [if_neg h0, if_pos h16]
        rw [e1, hia]
        refine pick_sleep N h1 E1 i s _ hi h16 hia fun ow2 w2 h2 => ?_
        by_cases hz : p.ld (p.noteW i) = 1
        · by_cases hx : (p.mach i).next < 0
          · exact woken_any h2 i hi hz hx
          · exact woken_next h2 i hi hz hx
        · exact woken_no h2 i hi hz
      · cases hk : zek p.P (p.mach i) with
        | some k =>
          rw [pick_lock hi k hk s hia, hia]
          have hl := lockI_some h.sh.dP.1 hk
          have hpl := zaQ _ _ hk
          have hL := locked_ok N h hn hi k hk
          by_cases h6 : (p.mach i).place = 6
          · have s6 := sh6 (h.L.loc i hi).sh h6
            have rp := (h.L.loc i hi).rp
            have hP := h.sh.dP
            exact pick_steal N h1 E1 i hi h6 (p.mach i).p.toNat (p.mach i).i.toNat (by omega) (by omega) (by omega) (by omega) (.inl ⟨k, hl, hL⟩) 0 s.act s.x s.d
          · exact zdf N h1 E1 i hi (by omega) h0 h16 (by rcases hpl with x | x | x | x | x | x | x | x | x | x | x | x | x | x | x | x | x | x | x <;> (first | exact absurd x h6 | (rw [x]; decide))) (.inl ⟨k, hl, hL⟩) 0 s.act s.x s.d
        | none =>
          obtain ⟨b1, b2, b3⟩ := bare_ok N h hn hi hk h0 h16
          have e1 : p.pick s = (p.bare i, true) := by
            unfold Wd.pick
            rw [if_neg ha]
            simp only [hia, Int.toNat_natCast]
            rw [if_neg h0, if_neg h16, zdi, hk]
          rw [e1, hia]
          exact zdf N h1 E1 i hi b1 h0 h16 (by rw [b2]; decide) (.inr ⟨by unfold lockI; rw [b2]; show (-1 : Int) < 0; decide, b3⟩) 0 s.act s.x s.d
end
section
variable {F:Fix} {V:Vol} {ow:Nat→Nat} {w:World} {p:Wd}
theorem step_tick (h:WAt F V ow w p) (act a x d:Int) (p1 p2:Wd) (due:Bool)
  (hT:∀ ow1 w1,On F V ow w ow1 w1 p→Calls Tryz.prog 109 #[.pointer (some ⟨F.src,0,none⟩),.int .i64 d] w1 fun e w'=>e=.returned (.bool due)∧∃ ow',On F V ow1 w1 ow' w' p1)
  (hL:∀ ow1 w1,WAt F V ow1 w1 p1→Calls Tryz.prog 108 #[.pointer (some ⟨F.W,0,none⟩),.bool due] w1 fun e w'=>e=.returned (.tuple #[])∧∃ ow',On F V ow1 w1 ow' w' p2) :
  Calls Tryz.prog 59 #[.pointer (some ⟨F.W,0,none⟩),.agg #[.int .u8 1,.int .u8 act,.int .i64 a,.int .i64 x,.int .i64 d]] w fun e w'=>e=.returned (.bool true)∧∃ V' ow',On F V' ow w ow' w' p2:=by
 have h1:=(On.start h).alloc (.cells #[.int .u8 1,.int .u8 act,.int .i64 a,.int .i64 x,.int .i64 d] 94)
 have hq:=hT _ _ h1.drew
 have c11:=h1.at_.cW_src
 have b4:(w.alloc (.cells #[.int .u8 1,.int .u8 act,.int .i64 a,.int .i64 x,.int .i64 d] 94)).cell? ⟨w.heap.size,4,none⟩=some (.int .i64 d):=by
  rw [World.cell?_alloc_at _ _ _ _ (by simp)];rfl
 have e0:grow ow w.heap.size 0 w.heap.size=0:=grow_ge (Nat.le_refl _)
 have HQ:=Lib.hid hq
 have HL:=Lib.hid hL
 have H1:=Lib.hid h1
 clear h h1 hT hL hq
 go_enter Tryz.func59,Tryz.ntmps59
 go_wp2
 go_region_held3 (fun w'=>w'.cell? ⟨F.W,11,none⟩=some (.pointer (some ⟨F.src,0,none⟩))∧w'.cell? ⟨w.heap.size,4,none⟩=some (.int .i64 d))
  (first | exact ⟨c11,b4⟩ | exact ⟨k11',k4'⟩ | exact ⟨k11,k4⟩)
  (first | (go_at_call 109;refine HQ.out.mono ?_;rintro e w1 ⟨rfl,ow1,h2⟩;have k11:w1.cell? ⟨F.W,11,none⟩=some (.pointer (some ⟨F.src,0,none⟩)):=h2.at_.cW_src;have k4:w1.cell? ⟨w.heap.size,4,none⟩=some (.int .i64 d):=h2.keeps e0 b4;have H2:=Lib.hid (H1.out.drew.then_ h2);have H3:=Lib.hid h2;clear h2) | (go_at_call 108;refine (HL.out _ _ H2.out.at_).mono ?_;rintro e w2 ⟨rfl,ow2,h3⟩;have k11':w2.cell? ⟨F.W,11,none⟩=some (.pointer (some ⟨F.src,0,none⟩)):=h3.at_.cW_src;have k4':w2.cell? ⟨w.heap.size,4,none⟩=some (.int .i64 d):=(H3.out.then_ h3).keeps e0 b4;have H4:=Lib.hid (H2.out.then_ h3);clear h3))
 go_wp2
 go_returns
 exact ⟨rfl,V,_,H4.out⟩
theorem step_readybad (h:WAt F V ow w p) (act a x d:Int) (ha:a<0∨65536≤a) :
  Calls Tryz.prog 59 #[.pointer (some ⟨F.W,0,none⟩),.agg #[.int .u8 2,.int .u8 act,.int .i64 a,.int .i64 x,.int .i64 d]] w fun e w'=>e=.returned (.bool false)∧∃ V' ow',On F V' ow w ow' w' p:=by
 have h1:=(On.start h).alloc (.cells #[.int .u8 2,.int .u8 act,.int .i64 a,.int .i64 x,.int .i64 d] 94)
 have H1:=Lib.hid h1
 clear h h1
 by_cases h0:a<0
 ·clear ha
  go_enter Tryz.func59,Tryz.ntmps59
  go_wp2
  go_returns
  exact ⟨rfl,V,_,H1.out⟩
 ·have h2:65536≤a:=by omega
  clear ha
  go_enter Tryz.func59,Tryz.ntmps59
  go_wp2
  go_returns
  exact ⟨rfl,V,_,H1.out⟩
theorem zd0 (h:WAt F V ow w p) (act x d c:Int) (fd:Nat) (hf:fd<65536) (p1 p2:Wd) (due:Bool)
  (hT:∀ ow1 w1,On F V ow w ow1 w1 p→Calls Tryz.prog 110 #[.pointer (some ⟨F.src,0,none⟩),.int .u16 fd] w1 fun e w'=>e=.returned (.tuple #[.bool due,.int .i64 c])∧∃ ow',On F V ow1 w1 ow' w' p1)
  (hL:∀ ow1 w1,WAt F V ow1 w1 p1→Calls Tryz.prog 108 #[.pointer (some ⟨F.W,0,none⟩),.bool due] w1 fun e w'=>e=.returned (.tuple #[])∧∃ ow',On F V ow1 w1 ow' w' p2) :
  Calls Tryz.prog 59 #[.pointer (some ⟨F.W,0,none⟩),.agg #[.int .u8 2,.int .u8 act,.int .i64 fd,.int .i64 x,.int .i64 d]] w fun e w'=>e=.returned (.bool (c==0))∧∃ V' ow',On F V' ow w ow' w' p2:=by
 have h1:=(On.start h).alloc (.cells #[.int .u8 2,.int .u8 act,.int .i64 fd,.int .i64 x,.int .i64 d] 94)
 have hq:=hT _ _ h1.drew
 have c11:=h1.at_.cW_src
 have b2:(w.alloc (.cells #[.int .u8 2,.int .u8 act,.int .i64 fd,.int .i64 x,.int .i64 d] 94)).cell? ⟨w.heap.size,2,none⟩=some (.int .i64 fd):=by
  rw [World.cell?_alloc_at _ _ _ _ (by simp)];rfl
 have e0:grow ow w.heap.size 0 w.heap.size=0:=grow_ge (Nat.le_refl _)
 have wf:IntKind.u16.wrap (fd:Int)=(fd:Int):=IntWalk.u16_in _ (by omega)
 have f0:¬ (fd:Int)<0:=by omega
 have f1:¬ (65536:Int)≤(fd:Int):=by omega
 have HQ:=Lib.hid hq
 have HL:=Lib.hid hL
 have H1:=Lib.hid h1
 clear h h1 hT hL hq
 go_enter Tryz.func59,Tryz.ntmps59
 go_wp2
 go_region_held3 (fun w'=>w'.cell? ⟨F.W,11,none⟩=some (.pointer (some ⟨F.src,0,none⟩))∧w'.cell? ⟨w.heap.size,2,none⟩=some (.int .i64 fd))
  (first | exact ⟨c11,b2⟩ | exact ⟨k11,k2⟩)
  (first | (go_at_call 110;refine HQ.out.mono ?_;rintro e w1 ⟨rfl,ow1,h2⟩;have k11:w1.cell? ⟨F.W,11,none⟩=some (.pointer (some ⟨F.src,0,none⟩)):=h2.at_.cW_src;have k2:w1.cell? ⟨w.heap.size,2,none⟩=some (.int .i64 fd):=h2.keeps e0 b2;have H2:=Lib.hid (H1.out.drew.then_ h2);clear h2))
 go_wp2_with fail
 refine (HL.out _ _ H2.out.at_).mono ?_
 rintro e w2 ⟨rfl,ow2,h3⟩
 have H4:=Lib.hid (H2.out.then_ h3)
 clear h3
 go_wp2
 go_returns
 exact ⟨rfl,V,_,H4.out⟩
theorem step_else (h:WAt F V ow w p) (k act a x d:Int) (hk:3≤k) :
  Calls Tryz.prog 59 #[.pointer (some ⟨F.W,0,none⟩),.agg #[.int .u8 k,.int .u8 act,.int .i64 a,.int .i64 x,.int .i64 d]] w fun e w'=>e=.returned (.bool false)∧∃ V' ow',On F V' ow w ow' w' p:=by
 have h1:=(On.start h).alloc (.cells #[.int .u8 k,.int .u8 act,.int .i64 a,.int .i64 x,.int .i64 d] 94)
 have H1:=Lib.hid h1
 have k0:¬ k=0:=by omega
 have k1:¬ k=1:=by omega
 have k2:¬ k=2:=by omega
 clear h h1
 go_enter Tryz.func59,Tryz.ntmps59
 go_wp2
 go_returns
 exact ⟨rfl,V,_,H1.out⟩
end
section
variable {n:Nat} {p:Wd} {i:Nat}
theorem tell_ok (h:Inv n p) (due:Bool) {F:Fix} {V:Vol} {ow:Nat→Nat} {w:World} (hw:WAt F V ow w p) :
  Calls Tryz.prog 108 #[.pointer (some ⟨F.W,0,none⟩),.bool due] w fun e w'=>e=.returned (.tuple #[])∧∃ ow',On F V ow w ow' w' (p.tell due):=by
 by_cases hc:p.idle.poller ≠ -1∧due=true
 ·have hr:=h.D.rpo
  obtain ⟨h1,h2⟩:=hc
  subst h2
  exact tell_yes hw p.idle.poller.toNat (by omega) (by omega)
 ·exact tell_no hw due hc
theorem step_ok (N:Nat) (h:Inv n p) (hn:n<2^31) (s:Hst.Stp) (hd : -9223372036854775808≤s.d∧s.d≤9223372036854775807):StepDone N p s:=by
 have hc:s.kind=0∨s.kind=1∨s.kind=2∨3≤s.kind:=by omega
 rcases hc with hs | hs | hs | hs
 ·exact pick_ok N h hn s hs
 ·intro F V ow w hw E
  have hM:=hw.dim
  unfold dims at hM
  have ok:=srcok h (by omega)
  have h1:Inv (n+1) { p with src:=p.src.tick s.d }:=zcL h _ (S_tick h.S s.d rfl rfl) (fun _=>rfl)
  have ok':SrcOK (p.src.tick s.d) p.G:=srcok h1 (by omega)
  have e:p.step s=(({ p with src:=p.src.tick s.d }:Wd).tell (p.src.tick s.d).due,true):=by unfold Wd.step;simp only [hs]
  rw [e]
  unfold stV zeD
  rw [hs]
  refine step_tick hw s.act s.a s.x s.d { p with src:=p.src.tick s.d } _ (p.src.tick s.d).due (fun ow1 w1 k=>?_) fun ow1 w1 k=>tell_ok h1 _ k
  obtain ⟨B,hs',hv,wl,hl,h7⟩:=k.at_.src7
  refine (stick_any h7 ok ⟨hM.1,hM.2.1⟩ s.d hd ok').mono ?_
  rintro e w2 ⟨rfl,hx,hm⟩
  exact ⟨rfl,_,(On.start k.at_).srcH (hx.agree hM.1 ⟨Nat.le_refl _,fun _ _ _=>rfl⟩ fun _ _ e=>.inl e) (hm.mono fun y _ e=>e ▸ h7.inS.1)⟩
 ·intro F V ow w hw E
  have hM:=hw.dim
  unfold dims at hM
  have ok:=srcok h (by omega)
  by_cases ha:s.a<0∨s.a ≥ 65536
  ·have e:p.step s=(p,false):=by unfold Wd.step;simp only [hs];rw [if_pos ha]
   rw [e]
   unfold stV zeD
   rw [hs]
   exact step_readybad hw s.act s.a s.x s.d (by omega)
  ·obtain ⟨fd,hfd⟩:∃ fd:Nat,s.a=fd:=⟨s.a.toNat,by omega⟩
   have hf:fd<65536:=by omega
   have h1:Inv (n+1) { p with src:=(p.src.ready fd).1 }:=zcL h _ (S_ready h.S fd (by omega) rfl rfl) (fun x=>zcK h.S fd x)
   have ok':SrcOK (p.src.ready fd).1 p.G:=srcok h1 (by omega)
   have e:p.step s=(({ p with src:=(p.src.ready fd).1 }:Wd).tell ((p.src.ready fd).2 && (p.src.ready fd).1.due),(p.src.ready fd).2):=by
    unfold Wd.step;simp only [hs];rw [if_neg ha,hfd,Int.toNat_natCast]
   rw [e]
   unfold stV zeD
   rw [hs,hfd]
   cases hfu:p.src.full fd with
   | true =>
    have er:p.src.ready fd=(p.src,false):=by unfold Src.ready;rw [if_pos hfu]
    rw [er] at h1 ⊢
    refine zd0 hw s.act s.x s.d 2 fd hf p _ false (fun ow1 w1 k=>?_) fun ow1 w1 k=>tell_ok h1 _ k
    obtain ⟨B,hs',hv,wl,hl,h7⟩:=k.at_.src7
    refine (sready_no h7 ok fd hfu).mono ?_
    rintro e w2 ⟨rfl,hb⟩
    exact ⟨rfl,_,(On.start k.at_).belowK hb 7⟩
   | false =>
    have er:(p.src.ready fd).2=true:=by rw [ready_eq p.src fd hfu]
    rw [er]
    refine zd0 hw s.act s.x s.d 0 fd hf { p with src:=(p.src.ready fd).1 } _ (p.src.ready fd).1.due (fun ow1 w1 k=>?_) fun ow1 w1 k=>tell_ok h1 _ k
    obtain ⟨B,hs',hv,wl,hl,h7⟩:=k.at_.src7
    refine (sready_ok h7 ok ⟨hM.1,hM.2.1⟩ fd hfu ok').mono ?_
    rintro e w2 ⟨rfl,hx,hm⟩
    exact ⟨rfl,_,(On.start k.at_).srcH (hx.agree hM.1 ⟨Nat.le_refl _,fun _ _ _=>rfl⟩ fun _ _ e=>.inl e) (hm.mono fun y _ e=>e ▸ h7.inS.2.2.2.2.1)⟩
 ·intro F V ow w hw E
  have e:p.step s=(p,false):=by
   unfold Wd.step
   split
   ·omega
   ·omega
   ·omega
   ·rfl
  rw [e]
  exact step_else hw s.kind s.act s.a s.x s.d (by omega)
end
end Go.Proofs.YtlmmjgekolpekaaGreatDoor
