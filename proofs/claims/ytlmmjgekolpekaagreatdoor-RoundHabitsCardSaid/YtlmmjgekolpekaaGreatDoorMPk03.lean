/-
  Plain: a step of a machine is one of the list.
  Plain: a pick of a machine is one of the list.
-/
import Derived.Test.YtlmmjgekolpekaaGreatDoorMPk02
set_option linter.unusedVariables false
set_option linter.unusedSimpArgs false
set_option linter.unusedSectionVars false
set_option maxRecDepth 100000
set_option maxHeartbeats 6400000
namespace Hst
theorem zdi (p:Wd) (m:Mach):p.lockOf m=zek p.P m:=by
 unfold Wd.lockOf zek
 split <;> simp only [*]
theorem setR_same (p:Wd) (q:Nat) (hq:q<p.rings.length):p.rings.set q (p.ring q)=p.rings:=by
 unfold Wd.ring
 rw [List.getD_eq_getElem?_getD,List.getElem?_eq_getElem hq];simp
theorem zav {α:Type} (l:List α) (i:Nat) (v d:α) (hi:i<l.length):(l.set i v).getD i d=v:=by rw [zad l i i v d hi,if_pos rfl]
theorem getD_set_ne {α:Type} (l:List α) (i j:Nat) (v d:α) (h:j≠i):(l.set i v).getD j d=l.getD j d:=by
 simp [List.getD_eq_getElem?_getD,List.getElem?_set_ne (Ne.symm h)]
section
variable {n:Nat} {p:Wd} {i:Nat}
def didIt (p:Wd) (i:Nat):Wd:=(p.doIt i (p.mach i).times).1.setM i { (p.doIt i (p.mach i).times).1.mach i with times:=Go.RowKit.wrap64 (((p.doIt i (p.mach i).times).1.mach i).times+1),stage:=if (p.doIt i (p.mach i).times).2 then 2 else 3 }
theorem w01:Go.RowKit.wrap64 (0+1)=1:=by decide
theorem w12:Go.RowKit.wrap64 (1+1)=2:=by decide
theorem locked_cases (h:Inv n p) (hi:i<p.M) (k:Nat) (hk:zek p.P (p.mach i)=some k) (hdo:(p.mach i).inn=true→(p.mach i).stage=2→Tr p i (didIt p i)):Tr p i (p.locked i k):=by
 have hla:i<p.all.length:=by rw [h.sh.la];exact hi
 have hlf:i<p.flag.length:=by rw [h.sh.lf];exact hi
 cases hn:(p.mach i).inn
 ·have e:p.begin_ i k={ p with all:=p.all.set i { p.mach i with inn:=true,lkN:=2*(k:Int),lkS:=2*(k:Int)+1,stage:=0,ticket:=0,times:=0 },flag:=p.flag.set i false }:=by
   unfold Wd.begin_;rw [hn];rfl
  have e2:(2*(k:Int)).toNat=2*k:=by omega
  unfold Wd.locked
  rw [e]
  simp only [Wd.mach,zav _ _ _ _ hla,Wd.more,Wd.st,Wd.setM,Wd.ld,e2,List.set_set]
  exact Tr.take k _ hn hk
 ·obtain ⟨hsec,k',hk',hkP,hl⟩:=h.L.sec i hi hn
  obtain rfl:k'=k:=Option.some.inj (hk'.symm.trans hk)
  have e:p.begin_ i k'=p:=by unfold Wd.begin_;rw [hn];rfl
  have hs:=hsec.stage
  obtain ⟨k2,e1,e2⟩:=hsec.lk
  have hkk:k2=k':=by omega
  subst hkk
  have e3:((p.mach i).lkS).toNat=2*k2+1:=by omega
  have hs1:=hsec.pos
  rcases (show (p.mach i).stage=1∨(p.mach i).stage=2∨(p.mach i).stage=3 by omega) with hs | hs | hs
  ·unfold Wd.locked
   rw [e]
   simp only [hs,e3]
   split
   ·rename_i ht
    exact Tr.hit k2 _ hn hs hk ht
   ·rename_i ht
    exact Tr.miss _ k2 hn hs hk ht
  ·have:=hdo hn hs
   unfold Wd.locked
   rw [e]
   simp only [hs]
   exact this
  ·unfold Wd.locked
   rw [e]
   have ht:=h.C.holds i k2 hi hn (by omega) hkP hl
   simp only [hs,e3]
   rw [thenM_eq _ _ (by simpa [Wd.setM,Wd.st,Wd.acc] using hla)]
   simp only [Wd.mach,Wd.setM,Wd.st,Wd.acc,zav _ _ _ _ hla,List.set_set,Wd.fl]
   have t:=Tr.free (p:=p) k2 (Go.RowKit.wrap64 (Go.RowKit.wrap64 (p.cnt+1)+1)) hn hs (.inl hk) hl hkP ht
   rw [← ht] at t
   exact t
theorem zeb (hP:1≤p.P):(p.glob=[]∧p.glob.take p.share=[]∧p.glob.drop p.share=[])∨∃ g t r,p.glob.take p.share=g :: t∧p.glob.drop p.share=r∧p.glob=(g :: t)++r:=by
 cases hg:p.glob with
 | nil=>left;simp
 | cons a l =>
  right
  have hs:1≤p.share:=by
   unfold Wd.share;rw [hg];simp only [List.length_cons]
   have:=Nat.zero_le ((l.length+1) / p.P)
   generalize (l.length+1) / p.P=d at *
   omega
  obtain ⟨s,hs⟩:∃ s,p.share=s+1:=⟨p.share - 1,by omega⟩
  exact ⟨a,l.take s,l.drop s,by rw [hs];rfl,by rw [hs];rfl,by simp⟩
theorem held_not (h:Inv n p) (hi:i<p.M) (q:Nat) (hq:(p.mach i).p=q) (hqP:q<p.P):p.idle.p.testBit q=false∧¬ (q:Int)∈p.idle.pending:=by
 have hla:i<p.all.length:=by rw [h.sh.la];exact hi
 have h1:=h.B.each q hqP
 have h2:=zaK (zee q) p.all i Mach.fresh hla
 have h3:1≤zee q (p.mach i):=by unfold zee;rw [zai hq];omega
 have h4:1≤sumL (zee q) p.all:=Nat.le_trans h3 h2
 constructor
 ·cases hb:p.idle.p.testBit q
  ·rfl
  ·rw [zai hb] at h1;omega
 ·intro hm
  have:=List.count_pos_iff.2 hm
  omega
theorem zc2 (h:Inv n p) (hi:i<p.M) (g:Nat) (hg:(p.mach i).g=g) (hgG:g<p.G):p.sts g=2:=by
 have hla:i<p.all.length:=by rw [h.sh.la];exact hi
 have h1:=h.A.X g hgG
 have h2:=zaK (zev g) p.all i Mach.fresh hla
 have h3:zev g (p.mach i)=1:=zai hg
 have h4:1≤sumL (zev g) p.all:=by rw [← h3];exact h2
 have h5:=za3 (p.sts g=2)
 exact zca.1 (by omega)
theorem not_reg (h:Inv n p) (hi:i<p.M) (hg:¬ zec (p.mach i)):p.idle.poller≠i∧¬ (i:Int)∈p.idle.m:=by
 have h1:=h.D.reg i hi
 rw [zae (P:=regd p i) (fun hr=>hg hr.1)] at h1
 constructor
 ·intro e;rw [zai e] at h1;omega
 ·intro hm;have:=List.count_pos_iff.2 hm;omega
theorem do_tr (h:Inv n p) (hi:i<p.M) (hn:(p.mach i).inn=true) (hs:(p.mach i).stage=2):Tr p i (didIt p i):=by
 have hla:i<p.all.length:=by rw [h.sh.la];exact hi
 have hlf:i<p.flag.length:=by rw [h.sh.lf];exact hi
 have L:=h.L.loc i hi
 have sh:=L.sh
 obtain ⟨hsec,k',hk',hkP,hl⟩:=h.L.sec i hi hn
 have ht:=hsec.t2 hs
 have hfind:=h.L.find i hi
 have rp:=L.rp
 have hP:=h.sh.dP
 have hlr:=h.sh.lr
 have gs:=fun (m:Mach)=>zav p.all i m Mach.fresh hla
 have gf:=fun (b:Bool)=>zav p.flag i b false hlf
 unfold didIt Wd.doIt
 unfold shape at sh
 split at sh
 case h_3 hpl =>
  have h0:(p.mach i).at0:=⟨hn,hs,by omega⟩
  have htm:(p.all.getD i Mach.fresh).times=0:=h0.2.2
  simp only [hpl]
  cases hg:p.glob with
  | nil =>
   have t:=Tr.told (p:=p) (i:=i) false h0 (by unfold Told;simp only [hpl];exact ⟨trivial,hg⟩)
   simp only [Wd.one,Wd.found,Wd.hold,Wd.fl,Wd.setF,Wd.setR,Wd.mach,Wd.setM,Wd.st,w01,w12,gs,gf,htm,List.set_set,List.isEmpty,List.tail,List.headD,Bool.not_true,Bool.not_false,Bool.false_eq_true,if_false,if_true]
   rw [← hg];exact t
  | cons g t =>
   have t:=Tr.foundG (p:=p) (i:=i) g [] t h0 (.inl ⟨hpl,rfl⟩) hg
   simp only [Wd.one,Wd.found,Wd.hold,Wd.fl,Wd.setF,Wd.setR,Wd.mach,Wd.setM,Wd.st,w01,w12,gs,gf,htm,List.set_set,List.isEmpty,List.tail,List.headD,Bool.not_true,Bool.not_false,Bool.false_eq_true,if_false,if_true]
   exact t
 case h_4 hpl =>
  have h0:(p.mach i).at0:=⟨hn,hs,by omega⟩
  have htm:(p.all.getD i Mach.fresh).times=0:=h0.2.2
  obtain ⟨q,hq⟩:∃ q:Nat,(p.mach i).p=q:=⟨(p.mach i).p.toNat,by omega⟩
  have hqP:q<p.P:=by omega
  simp only [hpl,hq,Int.toNat_natCast]
  rcases hget:(p.ring q).get with ⟨r',g,b⟩
  cases b
  ·obtain ⟨rfl,hall⟩:=get_no hget
   have t:=Tr.told (p:=p) (i:=i) false h0 (by unfold Told;simp only [hpl,hq,Int.toNat_natCast];exact ⟨trivial,hall⟩)
   simp only [Wd.one,Wd.found,Wd.hold,Wd.fl,Wd.setF,Wd.setR,Wd.mach,Wd.setM,Wd.st,w01,w12,gs,gf,htm,List.set_set,List.isEmpty,List.tail,List.headD,Bool.not_true,Bool.not_false,Bool.false_eq_true,if_false,if_true]
   rw [setR_same p q (by omega)];exact t
  ·obtain ⟨hc,hlen⟩:=get_yes hget
   have hr:=(h.A.rr (p.ring q) (by unfold Wd.ring;rw [List.getD_eq_getElem?_getD,List.getElem?_eq_getElem (by omega)];simp)).1
   have t:=Tr.foundR (p:=p) (i:=i) q r' g [] h0 (.inl ⟨hpl,rfl,hq⟩) hqP hc (by omega)
   simp only [Wd.one,Wd.found,Wd.hold,Wd.fl,Wd.setF,Wd.setR,Wd.mach,Wd.setM,Wd.st,w01,w12,gs,gf,htm,List.set_set,List.isEmpty,List.tail,List.headD,Bool.not_true,Bool.not_false,Bool.false_eq_true,if_false,if_true]
   exact t
 case h_5 hpl =>
  have h0:(p.mach i).at0:=⟨hn,hs,by omega⟩
  have htm:(p.all.getD i Mach.fresh).times=0:=h0.2.2
  simp only [hpl,Wd.takeShare]
  rcases zeb (p:=p) hP.1 with ⟨e1,e2,e3⟩ | ⟨g,t,r,e1,e2,e3⟩
  ·have t:=Tr.told (p:=p) (i:=i) false h0 (by unfold Told;simp only [hpl];exact ⟨trivial,e1⟩)
   simp only [e2,e3]
   simp only [Wd.one,Wd.found,Wd.hold,Wd.fl,Wd.setF,Wd.setR,Wd.mach,Wd.setM,Wd.st,w01,w12,gs,gf,htm,List.set_set,List.isEmpty,List.tail,List.headD,Bool.not_true,Bool.not_false,Bool.false_eq_true,if_false,if_true]
   rw [← e1];exact t
  ·have t:=Tr.foundG (p:=p) (i:=i) g t r h0 (.inr (.inl hpl)) e3
   simp only [e1,e2]
   simp only [Wd.one,Wd.found,Wd.hold,Wd.fl,Wd.setF,Wd.setR,Wd.mach,Wd.setM,Wd.st,w01,w12,gs,gf,htm,List.set_set,List.isEmpty,List.tail,List.headD,Bool.not_true,Bool.not_false,Bool.false_eq_true,if_false,if_true]
   exact t
 case h_7 hpl =>
  have h0:(p.mach i).at0:=⟨hn,hs,by omega⟩
  have htm:(p.all.getD i Mach.fresh).times=0:=h0.2.2
  obtain ⟨q,hq⟩:∃ q:Nat,(((p.mach i).p+(p.mach i).i) % p.P).toNat=q:=⟨_,rfl⟩
  have hqP:q<p.P:=by have:=Int.emod_nonneg ((p.mach i).p+(p.mach i).i) (show (p.P:Int)≠0 by omega);have:=Int.emod_lt_of_pos ((p.mach i).p+(p.mach i).i) (show 0<(p.P:Int) by omega);omega
  simp only [hpl,hq]
  obtain ⟨s1,s2,s3⟩:=steal_spec (p.ring q)
  rcases hst:(p.ring q).steal with ⟨r',l⟩
  rw [hst] at s1 s2 s3
  have hr:=(h.A.rr (p.ring q) (by unfold Wd.ring;rw [List.getD_eq_getElem?_getD,List.getElem?_eq_getElem (by omega)];simp)).1
  cases l with
  | nil =>
   obtain ⟨e1,hall⟩:=s3 rfl
   simp only at e1
   subst e1
   have t:=Tr.told (p:=p) (i:=i) false h0 (by unfold Told;simp only [hpl,hq];exact ⟨trivial,hall⟩)
   simp only [Wd.one,Wd.found,Wd.hold,Wd.fl,Wd.setF,Wd.setR,Wd.mach,Wd.setM,Wd.st,w01,w12,gs,gf,htm,List.set_set,List.isEmpty,List.tail,List.headD,Bool.not_true,Bool.not_false,Bool.false_eq_true,if_false,if_true]
   rw [setR_same p q (by omega)];exact t
  | cons g l =>
   have t:=Tr.foundR (p:=p) (i:=i) q r' g l h0 (.inr hpl) hqP s1 (Nat.le_trans s2 hr)
   simp only [Wd.one,Wd.found,Wd.hold,Wd.fl,Wd.setF,Wd.setR,Wd.mach,Wd.setM,Wd.st,w01,w12,gs,gf,htm,List.set_set,List.isEmpty,List.tail,List.headD,Bool.not_true,Bool.not_false,Bool.false_eq_true,if_false,if_true]
   exact t
 case h_8 hpl =>
  have h0:(p.mach i).at0:=⟨hn,hs,by omega⟩
  have htm:(p.all.getD i Mach.fresh).times=0:=h0.2.2
  simp only [hpl,Wd.takeShare]
  rcases zeb (p:=p) hP.1 with ⟨e1,e2,e3⟩ | ⟨g,t,r,e1,e2,e3⟩
  ·obtain ⟨q,hq⟩:∃ q:Nat,(p.mach i).p=q:=⟨(p.mach i).p.toNat,by have:=sh.2.2.2.2;rw [if_neg (by unfold Mach.s3;omega)] at this;omega⟩
   have hqP:q<p.P:=by omega
   obtain ⟨n1,n2⟩:=held_not h hi q hq hqP
   have t:=Tr.release (p:=p) (i:=i) q h0 hpl e1 hq
   have hpp:p.idle.putP (p.all.getD i Mach.fresh).p=({ p.idle with p:=p.idle.p^^^2^q },true):=by
    show p.idle.putP (p.mach i).p=_
    rw [hq];unfold Idle.putP;rw [if_neg (by simp [n1,n2])];rfl
   simp only [e2,e3]
   simp only [Wd.one,Wd.found,Wd.hold,Wd.fl,Wd.setF,Wd.setR,Wd.mach,Wd.setM,Wd.st,w01,w12,gs,gf,htm,List.set_set,List.isEmpty,List.tail,List.headD,Bool.not_true,Bool.not_false,Bool.false_eq_true,if_false,if_true,hpp]
   rw [← e1];exact t
  ·have t:=Tr.foundG (p:=p) (i:=i) g t r h0 (.inr (.inr hpl)) e3
   simp only [e1,e2]
   simp only [Wd.one,Wd.found,Wd.hold,Wd.fl,Wd.setF,Wd.setR,Wd.mach,Wd.setM,Wd.st,w01,w12,gs,gf,htm,List.set_set,List.isEmpty,List.tail,List.headD,Bool.not_true,Bool.not_false,Bool.false_eq_true,if_false,if_true]
   exact t
 case h_10 hpl =>
  have h0:(p.mach i).at0:=⟨hn,hs,by omega⟩
  have htm:(p.all.getD i Mach.fresh).times=0:=h0.2.2
  have t:=Tr.told (p:=p) (i:=i) _ h0 (by unfold Told;simp only [hpl];rfl)
  simp only [hpl]
  simp only [Wd.one,Wd.found,Wd.hold,Wd.fl,Wd.setF,Wd.setR,Wd.mach,Wd.setM,Wd.st,w01,w12,gs,gf,htm,List.set_set,List.isEmpty,List.tail,List.headD,Bool.not_true,Bool.not_false,Bool.false_eq_true,if_false,if_true]
  exact t
 case h_11 hpl =>
  have h0:(p.mach i).at0:=⟨hn,hs,by omega⟩
  have htm:(p.all.getD i Mach.fresh).times=0:=h0.2.2
  have t:=Tr.told (p:=p) (i:=i) _ h0 (by unfold Told;simp only [hpl];rfl)
  simp only [hpl]
  simp only [Wd.one,Wd.found,Wd.hold,Wd.fl,Wd.setF,Wd.setR,Wd.mach,Wd.setM,Wd.st,w01,w12,gs,gf,htm,List.set_set,List.isEmpty,List.tail,List.headD,Bool.not_true,Bool.not_false,Bool.false_eq_true,if_false,if_true]
  exact t
 case h_12 hpl =>
  have h0:(p.mach i).at0:=⟨hn,hs,by omega⟩
  have htm:(p.all.getD i Mach.fresh).times=0:=h0.2.2
  simp only [hpl]
  unfold Idle.takeP
  by_cases hz:p.idle.p=0
  ·rw [if_pos hz]
   have t:=Tr.told (p:=p) (i:=i) false h0 (by unfold Told;simp only [hpl];exact ⟨trivial,hz⟩)
   simp only [Wd.one,Wd.found,Wd.hold,Wd.fl,Wd.setF,Wd.setR,Wd.mach,Wd.setM,Wd.st,w01,w12,gs,gf,htm,List.set_set,List.isEmpty,List.tail,List.headD,Bool.not_true,Bool.not_false,Bool.false_eq_true,if_false,if_true]
   exact t
  ·rw [if_neg hz]
   obtain ⟨b1,b2⟩:=zbS hz hP.2 h.B.bits
   have t:=Tr.retake (p:=p) (i:=i) (low p.idle.p) h0 hpl b1 b2
   simp only [Wd.one,Wd.found,Wd.hold,Wd.fl,Wd.setF,Wd.setR,Wd.mach,Wd.setM,Wd.st,w01,w12,gs,gf,htm,List.set_set,List.isEmpty,List.tail,List.headD,Bool.not_true,Bool.not_false,Bool.false_eq_true,if_false,if_true]
   exact t
 case h_14 hpl =>
  have h0:(p.mach i).at0:=⟨hn,hs,by omega⟩
  have htm:(p.all.getD i Mach.fresh).times=0:=h0.2.2
  simp only [hpl]
  unfold Idle.takePending
  cases hpe:p.idle.pending with
  | cons q t =>
   have t:=Tr.pending (p:=p) (i:=i) q t h0 hpl hpe
   simp only [Wd.one,Wd.found,Wd.hold,Wd.fl,Wd.setF,Wd.setR,Wd.mach,Wd.setM,Wd.st,w01,w12,gs,gf,htm,List.set_set,List.isEmpty,List.tail,List.headD,Bool.not_true,Bool.not_false,Bool.false_eq_true,if_false,if_true]
   exact t
  | nil =>
   obtain ⟨n1,n2⟩:=not_reg h hi (by unfold zec Mach.s3;omega)
   simp only [Wd.one,Wd.found,Wd.hold,Wd.fl,Wd.setF,Wd.setR,Wd.mach,Wd.setM,Wd.st,w01,w12,gs,gf,htm,List.set_set,List.isEmpty,List.tail,List.headD,Bool.not_true,Bool.not_false,Bool.false_eq_true,if_false,if_true]
   unfold Idle.stop
   rw [if_neg (by simp [n2,Ne.symm n1])]
   by_cases ho:p.idle.poller = -1
   ·rw [if_pos ho]
    have t:=Tr.stopP (p:=p) (i:=i) h0 hpl hpe ho
    simp only [Wd.one,Wd.found,Wd.hold,Wd.fl,Wd.setF,Wd.setR,Wd.mach,Wd.setM,Wd.st,w01,w12,gs,gf,htm,List.set_set,List.isEmpty,List.tail,List.headD,Bool.not_true,Bool.not_false,Bool.false_eq_true,if_false,if_true]
    exact t
   ·rw [if_neg ho]
    have t:=Tr.stopM (p:=p) (i:=i) h0 hpl hpe ho
    simp only [Wd.one,Wd.found,Wd.hold,Wd.fl,Wd.setF,Wd.setR,Wd.mach,Wd.setM,Wd.st,w01,w12,gs,gf,htm,List.set_set,List.isEmpty,List.tail,List.headD,Bool.not_true,Bool.not_false,Bool.false_eq_true,if_false,if_true]
    exact t
 case h_15 hpl =>
  have h0:(p.mach i).at0:=⟨hn,hs,by omega⟩
  have htm:(p.all.getD i Mach.fresh).times=0:=h0.2.2
  have t:=Tr.told (p:=p) (i:=i) _ h0 (by unfold Told;simp only [hpl];rfl)
  simp only [hpl]
  simp only [Wd.one,Wd.found,Wd.hold,Wd.fl,Wd.setF,Wd.setR,Wd.mach,Wd.setM,Wd.st,w01,w12,gs,gf,htm,List.set_set,List.isEmpty,List.tail,List.headD,Bool.not_true,Bool.not_false,Bool.false_eq_true,if_false,if_true]
  exact t
 case h_16 hpl =>
  have h0:(p.mach i).at0:=⟨hn,hs,by omega⟩
  have htm:(p.all.getD i Mach.fresh).times=0:=h0.2.2
  simp only [hpl]
  unfold Idle.leave
  by_cases ho:(i:Int)=p.idle.poller
  ·rw [if_pos ho]
   have t:=Tr.unpoll (p:=p) (i:=i) h0 hpl ho.symm
   simp only [Wd.one,Wd.found,Wd.hold,Wd.fl,Wd.setF,Wd.setR,Wd.mach,Wd.setM,Wd.st,w01,w12,gs,gf,htm,List.set_set,List.isEmpty,List.tail,List.headD,Bool.not_true,Bool.not_false,Bool.false_eq_true,if_false,if_true]
   exact t
  ·rw [if_neg ho]
   have t:=Tr.told (p:=p) (i:=i) false h0 (by unfold Told;simp only [hpl];exact ⟨trivial,Ne.symm ho⟩)
   simp only [Wd.one,Wd.found,Wd.hold,Wd.fl,Wd.setF,Wd.setR,Wd.mach,Wd.setM,Wd.st,w01,w12,gs,gf,htm,List.set_set,List.isEmpty,List.tail,List.headD,Bool.not_true,Bool.not_false,Bool.false_eq_true,if_false,if_true]
   exact t
 case h_18 hpl =>
  have h0:(p.mach i).at0:=⟨hn,hs,by omega⟩
  have htm:(p.all.getD i Mach.fresh).times=0:=h0.2.2
  obtain ⟨q,hq⟩:∃ q:Nat,(p.mach i).p=q:=⟨(p.mach i).p.toNat,by omega⟩
  rcases he:(p.ring q).putAll (p.mach i).rest with ⟨r',l⟩
  have t:=Tr.putRest (p:=p) (i:=i) q r' l h0 hpl hq he
  simp only [hpl,hq,Int.toNat_natCast,he]
  simp only [Wd.one,Wd.found,Wd.hold,Wd.fl,Wd.setF,Wd.setR,Wd.mach,Wd.setM,Wd.st,w01,w12,gs,gf,htm,List.set_set,List.isEmpty,List.tail,List.headD,Bool.not_true,Bool.not_false,Bool.false_eq_true,if_false,if_true]
  simp only [hpl,hq] at t
  exact t
 case h_19 hpl =>
  have h0:(p.mach i).at0:=⟨hn,hs,by omega⟩
  have htm:(p.all.getD i Mach.fresh).times=0:=h0.2.2
  have t:=Tr.putOver (p:=p) (i:=i) h0 hpl
  simp only [hpl]
  simp only [Wd.one,Wd.found,Wd.hold,Wd.fl,Wd.setF,Wd.setR,Wd.mach,Wd.setM,Wd.st,w01,w12,gs,gf,htm,List.set_set,List.isEmpty,List.tail,List.headD,Bool.not_true,Bool.not_false,Bool.false_eq_true,if_false,if_true]
  simp only [hpl] at t
  exact t
 case h_24 hpl =>
  rcases ht with ht | ⟨ht,_⟩
  ·have h0:(p.mach i).at0:=⟨hn,hs,ht⟩
   have htm:(p.all.getD i Mach.fresh).times=0:=h0.2.2
   simp only [hpl]
   unfold Wd.find Idle.takeP
   simp only [ht,show ¬ ((0:Int) > 0) by omega,if_false]
   by_cases hz:p.idle.p=0
   ·rw [if_pos hz]
    have t:=Tr.findNo (p:=p) (i:=i) h0 hpl hz
    simp only [Wd.one,Wd.found,Wd.hold,Wd.fl,Wd.setF,Wd.setR,Wd.mach,Wd.setM,Wd.st,w01,w12,gs,gf,htm,List.set_set,List.isEmpty,List.tail,List.headD,Bool.not_true,Bool.not_false,Bool.false_eq_true,if_false,if_true]
    exact t
   ·rw [if_neg hz]
    obtain ⟨b1,b2⟩:=zbS hz hP.2 h.B.bits
    obtain ⟨n1,n2⟩:=not_reg h hi (by unfold zec;omega)
    simp only [if_true]
    unfold Idle.takeM
    by_cases hm:p.idle.m=[]
    ·rw [if_pos hm]
     by_cases ho:p.idle.poller = -1
     ·have t:=Tr.findP (p:=p) (i:=i) (low p.idle.p) h0 hpl b1 b2 hm ho
      have hb:p.idle.pending.contains (low p.idle.p:Int)=false:=by
       have:=h.B.each _ b2
       rw [zai b1] at this
       simp only [List.contains_eq_mem,decide_eq_false_iff_not]
       intro hc;have:=List.count_pos_iff.2 hc;omega
      have hnm:¬ ((low p.idle.p:Nat):Int)∈p.idle.pending:=by simpa using hb
      have hpe:({ p.idle with p:=p.idle.p^^^2^low p.idle.p,poller:=-1 }:Idle).pend (low p.idle.p:Nat)=({ p.idle with p:=p.idle.p^^^2^low p.idle.p,poller:=-1,pending:=p.idle.pending++[(low p.idle.p:Int)] },true):=by
       unfold Idle.pend
       rw [if_neg (by simp [zbD,b1,hnm])]
      simp only [ho,bne_self_eq_false,Bool.false_eq_true,if_false]
      rw [hpe]
      simp only [Wd.one,Wd.found,Wd.hold,Wd.fl,Wd.setF,Wd.setR,Wd.mach,Wd.setM,Wd.st,w01,w12,gs,gf,htm,List.set_set,List.isEmpty,List.tail,List.headD,Bool.not_true,Bool.not_false,Bool.false_eq_true,if_false,if_true]
      rw [← ho];exact t
     ·obtain ⟨k,hk⟩:∃ k:Nat,p.idle.poller=k:=⟨p.idle.poller.toNat,by have:=h.D.rpo;omega⟩
      have t:=Tr.findM (p:=p) (i:=i) (low p.idle.p) k h0 hpl b1 b2 [] (-1) (.inr ⟨hm,rfl,hk,rfl⟩)
      have hbne:((k:Int) != -1)=true:=by simp
      have hmax:max 0 (k:Int)=k:=by omega
      have hik:i≠k:=fun e=>n1 (by rw [hk,e])
      have gk:=fun (m':Mach)=>getD_set_ne p.all k i m' Mach.fresh hik
      simp only [hk,hbne,hmax,if_true,Int.toNat_natCast]
      have gkl:i<(p.all.set k { p.mach k with next:=(low p.idle.p:Int) }).length:=by simpa using hla
      have gs2:=fun (m:Mach)=>zav (p.all.set k { p.all.getD k Mach.fresh with next:=(low p.idle.p:Int) }) i m Mach.fresh (by simpa using hla)
      simp only [Wd.one,Wd.found,Wd.hold,Wd.fl,Wd.setF,Wd.setR,Wd.mach,Wd.setM,Wd.st,w01,w12,gs,gf,htm,List.set_set,List.isEmpty,List.tail,List.headD,Bool.not_true,Bool.not_false,Bool.false_eq_true,if_false,if_true,gk,gs2]
      rw [hm];exact t
    ·rw [if_neg hm]
     have hlast:p.idle.m.dropLast++[p.idle.m.getLastD 0]=p.idle.m:=by
      rw [List.getLastD_eq_getLast?,List.getLast?_eq_some_getLast hm];exact List.dropLast_concat_getLast hm
     have hlm:p.idle.m.getLastD 0∈p.idle.m:=by
      have h9:p.idle.m.getLastD 0∈p.idle.m.dropLast++[p.idle.m.getLastD 0]:=by simp
      rw [hlast] at h9;exact h9
     obtain ⟨k,hk⟩:∃ k:Nat,p.idle.m.getLastD 0=k:=⟨(p.idle.m.getLastD 0).toNat,by have:=h.D.rm _ hlm;omega⟩
     have t:=Tr.findM (p:=p) (i:=i) (low p.idle.p) k h0 hpl b1 b2 p.idle.m.dropLast p.idle.poller (.inl ⟨by rw [← hk];exact hlast.symm,rfl⟩)
     have hik:i≠k:=fun e=>n2 (by rw [e,← hk];exact hlm)
     have gk:=fun (m':Mach)=>getD_set_ne p.all k i m' Mach.fresh hik
     have gs2:=fun (m:Mach)=>zav (p.all.set k { p.all.getD k Mach.fresh with next:=(low p.idle.p:Int) }) i m Mach.fresh (by simpa using hla)
     simp only [hk,if_true,Int.toNat_natCast]
     simp only [Wd.one,Wd.found,Wd.hold,Wd.fl,Wd.setF,Wd.setR,Wd.mach,Wd.setM,Wd.st,w01,w12,gs,gf,htm,List.set_set,List.isEmpty,List.tail,List.headD,Bool.not_true,Bool.not_false,Bool.false_eq_true,if_false,if_true,gk,gs2]
     exact t
  ·have h1:(p.mach i).s21:=⟨hn,hs,ht⟩
   have htm:(p.all.getD i Mach.fresh).times=1:=ht
   have t:=Tr.findBack (p:=p) (i:=i) (Go.RowKit.wrap64 (p.cnt+1)) h1 hpl
   simp only [hpl]
   unfold Wd.find
   simp only [ht,show ((1:Int) > 0) by omega,if_true]
   simp only [Wd.less,Wd.ld,Wd.one,Wd.found,Wd.hold,Wd.fl,Wd.setF,Wd.setR,Wd.mach,Wd.setM,Wd.st,w01,w12,gs,gf,htm,List.set_set,List.isEmpty,List.tail,List.headD,Bool.not_true,Bool.not_false,Bool.false_eq_true,if_false,if_true]
   exact t
 case h_26 hpl =>
  have h0:(p.mach i).at0:=⟨hn,hs,by omega⟩
  have htm:(p.all.getD i Mach.fresh).times=0:=h0.2.2
  simp only [hpl]
  rcases he:p.src.take with ⟨s,g,b⟩
  cases b
  ·obtain ⟨rfl,hd⟩:=take_no he
   have t:=Tr.told (p:=p) (i:=i) false h0 (by unfold Told;simp only [hpl];exact ⟨trivial,hd⟩)
   simp only [Wd.one,Wd.found,Wd.hold,Wd.fl,Wd.setF,Wd.setR,Wd.mach,Wd.setM,Wd.st,w01,w12,gs,gf,htm,List.set_set,List.isEmpty,List.tail,List.headD,Bool.not_true,Bool.not_false,Bool.false_eq_true,if_false,if_true]
   exact t
  ·have t:=Tr.deliv (p:=p) (i:=i) s g h0 hpl he
   simp only [Wd.one,Wd.found,Wd.hold,Wd.fl,Wd.setF,Wd.setR,Wd.mach,Wd.setM,Wd.st,w01,w12,gs,gf,htm,List.set_set,List.isEmpty,List.tail,List.headD,Bool.not_true,Bool.not_false,Bool.false_eq_true,if_false,if_true]
   exact t
 case h_28 hpl =>
  have h0:(p.mach i).at0:=⟨hn,hs,by omega⟩
  have htm:(p.all.getD i Mach.fresh).times=0:=h0.2.2
  have t:=Tr.putOne (p:=p) (i:=i) h0 hpl
  simp only [hpl]
  simp only [Wd.one,Wd.found,Wd.hold,Wd.fl,Wd.setF,Wd.setR,Wd.mach,Wd.setM,Wd.st,w01,w12,gs,gf,htm,List.set_set,List.isEmpty,List.tail,List.headD,Bool.not_true,Bool.not_false,Bool.false_eq_true,if_false,if_true]
  simp only [hpl] at t
  exact t
 case h_29 hpl =>
  have h0:(p.mach i).at0:=⟨hn,hs,by omega⟩
  have htm:(p.all.getD i Mach.fresh).times=0:=h0.2.2
  obtain ⟨q,hq⟩:∃ q:Nat,(p.mach i).p=q:=⟨(p.mach i).p.toNat,by omega⟩
  rcases he:(p.ring q).ready (p.mach i).got with ⟨r',l⟩
  have t:=Tr.putNext (p:=p) (i:=i) q r' l h0 hpl hq he
  simp only [hpl,hq,Int.toNat_natCast,he]
  simp only [Wd.one,Wd.found,Wd.hold,Wd.fl,Wd.setF,Wd.setR,Wd.mach,Wd.setM,Wd.st,w01,w12,gs,gf,htm,List.set_set,List.isEmpty,List.tail,List.headD,Bool.not_true,Bool.not_false,Bool.false_eq_true,if_false,if_true]
  simp only [hpl,hq] at t
  exact t
 case h_30 hpl =>
  have hg0:0≤(p.mach i).g:=by rcases sh.2.2.2 with hx | hx;exact absurd hx.2 (by omega);exact hx
  obtain ⟨g,hg⟩:∃ g:Nat,(p.mach i).g=g:=⟨(p.mach i).g.toNat,by omega⟩
  have hgG:g<p.G:=by have:=L.rg;omega
  have hst:=zc2 h hi g hg hgG
  unfold Wd.out
  rcases ht with ht | ⟨ht,_⟩
  ·have h0:(p.mach i).at0:=⟨hn,hs,ht⟩
   have htm:(p.all.getD i Mach.fresh).times=0:=h0.2.2
   have t:=Tr.park (p:=p) (i:=i) h0 hpl
   simp only [hpl,ht,show ¬ (29=30) by decide,if_false,if_true]
   simp only [Wd.one,Wd.found,Wd.hold,Wd.fl,Wd.setF,Wd.setR,Wd.mach,Wd.setM,Wd.st,w01,w12,gs,gf,htm,List.set_set,List.isEmpty,List.tail,List.headD,Bool.not_true,Bool.not_false,Bool.false_eq_true,if_false,if_true]
   simp only [hpl] at t
   exact t
  ·have h1:(p.mach i).s21:=⟨hn,hs,ht⟩
   have htm:(p.all.getD i Mach.fresh).times=1:=ht
   have t:=Tr.outOf (p:=p) (i:=i) g 4 5 _ (Go.RowKit.wrap64 (p.cnt+1)) h1 (.inl ⟨hpl,rfl,rfl⟩) hg hgG hst rfl
   simp only [hpl,ht,show ¬ (29=30) by decide,show ¬ ((1:Int)=0) by decide,if_false]
   have hmv:p.move (p.mach i).g 2 4=p.st (p.statW g) 4:=by
    unfold Wd.move Wd.swap;rw [hg,if_pos (by omega),Int.toNat_natCast,if_pos (show p.ld (p.statW g)=2 from hst)]
   rw [hmv,hg]
   simp only [Wd.add,Wd.one,Wd.found,Wd.hold,Wd.fl,Wd.setF,Wd.setR,Wd.mach,Wd.setM,Wd.st,w01,w12,gs,gf,htm,List.set_set,List.isEmpty,List.tail,List.headD,Bool.not_true,Bool.not_false,Bool.false_eq_true,if_false,if_true]
   exact t
 case h_31 hpl =>
  have hg0:0≤(p.mach i).g:=by rcases sh.2.2.2.1 with hx | hx;exact absurd hx.2 (by omega);exact hx
  obtain ⟨g,hg⟩:∃ g:Nat,(p.mach i).g=g:=⟨(p.mach i).g.toNat,by omega⟩
  have hgG:g<p.G:=by have:=L.rg;omega
  have hst:=zc2 h hi g hg hgG
  unfold Wd.out
  rcases ht with ht | ⟨ht,_⟩
  ·have h0:(p.mach i).at0:=⟨hn,hs,ht⟩
   have htm:(p.all.getD i Mach.fresh).times=0:=h0.2.2
   simp only [hpl,ht,if_true]
   rcases he:p.src.wait (p.mach i).arg.toNat (p.mach i).g with ⟨s,b⟩
   cases b
   ·have hse:s=p.src:=by unfold Src.wait at he;split at he <;> simp at he;exact he.symm
    have t:=Tr.awaitNo (p:=p) (i:=i) h0 hpl
    simp only [Wd.one,Wd.found,Wd.hold,Wd.fl,Wd.setF,Wd.setR,Wd.mach,Wd.setM,Wd.st,w01,w12,gs,gf,htm,List.set_set,List.isEmpty,List.tail,List.headD,Bool.not_true,Bool.not_false,Bool.false_eq_true,if_false,if_true,Bool.false_and,hse]
    exact t
   ·have t:=Tr.await (p:=p) (i:=i) s h0 hpl he
    simp only [Wd.one,Wd.found,Wd.hold,Wd.fl,Wd.setF,Wd.setR,Wd.mach,Wd.setM,Wd.st,w01,w12,gs,gf,htm,List.set_set,List.isEmpty,List.tail,List.headD,Bool.not_true,Bool.not_false,Bool.false_eq_true,if_false,if_true,Bool.true_and]
    exact t
  ·have h1:(p.mach i).s21:=⟨hn,hs,ht⟩
   have htm:(p.all.getD i Mach.fresh).times=1:=ht
   have t:=Tr.outOf (p:=p) (i:=i) g 5 6 _ (Go.RowKit.wrap64 (p.cnt+1)) h1 (.inr ⟨hpl,rfl,rfl⟩) hg hgG hst rfl
   simp only [hpl,ht,show ¬ ((1:Int)=0) by decide,if_false,if_true]
   have hmv:p.move (p.mach i).g 2 5=p.st (p.statW g) 5:=by
    unfold Wd.move Wd.swap;rw [hg,if_pos (by omega),Int.toNat_natCast,if_pos (show p.ld (p.statW g)=2 from hst)]
   rw [hmv,hg]
   simp only [Wd.add,Wd.one,Wd.found,Wd.hold,Wd.fl,Wd.setF,Wd.setR,Wd.mach,Wd.setM,Wd.st,w01,w12,gs,gf,htm,List.set_set,List.isEmpty,List.tail,List.headD,Bool.not_true,Bool.not_false,Bool.false_eq_true,if_false,if_true]
   exact t
 all_goals first
  | exact absurd sh.1 (by rw [hn];decide)
  | exact sh.elim
end
section
variable {n:Nat} {p:Wd} {i:Nat}
theorem hand_sts (h:Inv n p) (hi:i<p.M) (g:Nat) (hg:(p.mach i).got=g) (hgG:g<p.G) (hp:(p.mach i).place≠25∧(p.mach i).place≠26):p.sts g=1:=by
 have hla:i<p.all.length:=by rw [h.sh.la];exact hi
 have h1:=h.A.R g hgG
 have h2:=zaK (zem g) p.all i Mach.fresh hla
 have h3:1≤zem g (p.mach i):=by unfold zem;rw [zai ⟨hg,hp⟩];omega
 have h4:1≤sumL (zem g) p.all:=Nat.le_trans h3 h2
 have h5:=za3 (p.sts g=1)
 exact zca.1 (by omega)
theorem mark_sts (h:Inv n p) (hi:i<p.M) (g:Nat) (hg:(p.mach i).got=g) (hgG:g<p.G) (hp:(p.mach i).place=25∨(p.mach i).place=26):p.sts g=4∨p.sts g=5:=by
 have hla:i<p.all.length:=by rw [h.sh.la];exact hi
 have h1:=h.A.S g hgG
 have h0:=h.A.O g hgG
 have h2:=zaK (zes g) p.all i Mach.fresh hla
 have h3:zes g (p.mach i)=1:=zai ⟨hg,hp⟩
 have h4:1≤sumL (zes g) p.all:=by rw [← h3];exact h2
 have h5:=za3 (p.sts g=4∨p.sts g=5)
 exact zca.1 (by omega)
theorem aim_note (h:Inv n p) (hi:i<p.M) (k:Nat) (hk:(p.mach i).target=k) (hkM:k<p.M):0≤(p.mach k).next∧p.note k=0:=by
 have hla:i<p.all.length:=by rw [h.sh.la];exact hi
 have h1:=h.D.aim k hkM
 have h2:=zaK (aims k) p.all i Mach.fresh hla
 have h3:aims k (p.mach i)=1:=zai hk
 have h4:1≤sumL (aims k) p.all:=by rw [← h3];exact h2
 have h5:=za3 (0≤(p.mach k).next∧p.note k=0)
 exact zca.1 (by omega)
theorem zcx (p:Wd) (g a b:Nat) (hg:g<p.G) (hs:p.sts g=a):p.move g a b=p.st (p.statW g) b:=by
 unfold Wd.move Wd.swap;rw [if_pos (by omega),Int.toNat_natCast,if_pos (show p.ld (p.statW g)=a from hs)]
theorem bare_tr (h:Inv n p) (hi:i<p.M) (hk:zek p.P (p.mach i)=none) (h0:(p.mach i).place≠0) (h16:(p.mach i).place≠16):Tr p i (p.bare i):=by
 have hla:i<p.all.length:=by rw [h.sh.la];exact hi
 have L:=h.L.loc i hi
 have sh:=L.sh
 have rp:=L.rp
 have rgot:=L.rgot
 have gs:=fun (m:Mach)=>zav p.all i m Mach.fresh hla
 have gf:=trivial
 unfold Wd.bare
 unfold shape at sh
 split at sh
 case h_2 hpl =>
  obtain ⟨q,hq⟩:∃ q:Nat,(p.mach i).p=q:=⟨(p.mach i).p.toNat,by omega⟩
  simp only [hpl,hq,Int.toNat_natCast]
  split
  ·have t:=Tr.sched (p:=p) (i:=i) (Go.RowKit.wrap64 (p.turns.getD q 0+1)) hpl q hq _ (.inr rfl)
   simp only [Wd.fl,Wd.setF,Wd.setR,Wd.mach,Wd.setM,Wd.st,Wd.go,Wd.deliver,Wd.add,Wd.more,Wd.less,Wd.acc,Wd.ld,gs,gf,List.set_set,Bool.false_eq_true,if_false,if_true]
   exact t
  ·have t:=Tr.sched (p:=p) (i:=i) (Go.RowKit.wrap64 (p.turns.getD q 0+1)) hpl q hq _ (.inl rfl)
   simp only [Wd.fl,Wd.setF,Wd.setR,Wd.mach,Wd.setM,Wd.st,Wd.go,Wd.deliver,Wd.add,Wd.more,Wd.less,Wd.acc,Wd.ld,gs,gf,List.set_set,Bool.false_eq_true,if_false,if_true]
   exact t
 case h_6 hpl =>
  have t:=Tr.spinUp (p:=p) (i:=i) (Go.RowKit.wrap64 (p.cnt+1)) hpl
  simp only [hpl,Wd.steal]
  simp only [Wd.fl,Wd.setF,Wd.setR,Wd.mach,Wd.setM,Wd.st,Wd.go,Wd.deliver,Wd.add,Wd.more,Wd.less,Wd.acc,Wd.ld,gs,gf,List.set_set,Bool.false_eq_true,if_false,if_true]
  exact t
 case h_9 hpl =>
  have t:=Tr.drop (p:=p) (i:=i) (Go.RowKit.wrap64 (p.cnt+1)) hpl
  simp only [hpl]
  simp only [Wd.fl,Wd.setF,Wd.setR,Wd.mach,Wd.setM,Wd.st,Wd.go,Wd.deliver,Wd.add,Wd.more,Wd.less,Wd.acc,Wd.ld,gs,gf,List.set_set,Bool.false_eq_true,if_false,if_true]
  exact t
 case h_13 hpl =>
  have t:=Tr.spinBack (p:=p) (i:=i) (Go.RowKit.wrap64 (p.cnt+1)) hpl
  simp only [hpl]
  simp only [Wd.fl,Wd.setF,Wd.setR,Wd.mach,Wd.setM,Wd.st,Wd.go,Wd.deliver,Wd.add,Wd.more,Wd.less,Wd.acc,Wd.ld,gs,gf,List.set_set,Bool.false_eq_true,if_false,if_true]
  exact t
 case h_20 hpl =>
  have t:=Tr.unspin (p:=p) (i:=i) (Go.RowKit.wrap64 (p.cnt+1)) hpl
  simp only [hpl]
  simp only [Wd.fl,Wd.setF,Wd.setR,Wd.mach,Wd.setM,Wd.st,Wd.go,Wd.deliver,Wd.add,Wd.more,Wd.less,Wd.acc,Wd.ld,gs,gf,List.set_set,Bool.false_eq_true,if_false,if_true]
  exact t
 case h_21 hpl =>
  obtain ⟨g,hg⟩:∃ g:Nat,(p.mach i).got=g:=⟨(p.mach i).got.toNat,by omega⟩
  have hgG:g<p.G:=by omega
  have hst:=hand_sts h hi g hg hgG (by omega)
  have t:=Tr.dispatch (p:=p) (i:=i) g (Go.RowKit.wrap64 (p.cnt+1)) hpl hg hgG hst
  simp only [hpl,hg,zcx p g 1 2 hgG hst]
  simp only [hg] at t
  simp only [Wd.fl,Wd.setF,Wd.setR,Wd.mach,Wd.setM,Wd.st,Wd.go,Wd.deliver,Wd.add,Wd.more,Wd.less,Wd.acc,Wd.ld,gs,gf,List.set_set,Bool.false_eq_true,if_false,if_true]
  exact t
 case h_22 hpl =>
  have t:=Tr.load (p:=p) (i:=i) (Go.RowKit.wrap64 (p.cnt+1)) hpl
  simp only [hpl]
  simp only [Wd.fl,Wd.setF,Wd.setR,Wd.mach,Wd.setM,Wd.st,Wd.go,Wd.deliver,Wd.add,Wd.more,Wd.less,Wd.acc,Wd.ld,gs,gf,List.set_set,Bool.false_eq_true,if_false,if_true]
  exact t
 case h_23 hpl =>
  simp only [hpl]
  unfold Wd.swap
  by_cases hz:p.ld p.spinW=0
  ·have t:=Tr.claim (p:=p) (i:=i) (Go.RowKit.wrap64 (p.cnt+1)) hpl hz
   simp only [hz,if_true]
   simp only [Wd.fl,Wd.setF,Wd.setR,Wd.mach,Wd.setM,Wd.st,Wd.go,Wd.deliver,Wd.add,Wd.more,Wd.less,Wd.acc,Wd.ld,gs,gf,List.set_set,Bool.false_eq_true,if_false,if_true]
   exact t
  ·have t:=Tr.claimNo (p:=p) (i:=i) (Go.RowKit.wrap64 (p.cnt+1)) hpl hz
   simp only [hz,if_false]
   simp only [Wd.fl,Wd.setF,Wd.setR,Wd.mach,Wd.setM,Wd.st,Wd.go,Wd.deliver,Wd.add,Wd.more,Wd.less,Wd.acc,Wd.ld,gs,gf,List.set_set,Bool.false_eq_true,if_false,if_true]
   exact t
 case h_25 hpl =>
  obtain ⟨k,hk2⟩:∃ k:Nat,(p.mach i).target=k:=⟨(p.mach i).target.toNat,by omega⟩
  have hkM:k<p.M:=by have:=L.rt;omega
  have hz:=(aim_note h hi k hk2 hkM).2
  have t:=Tr.wake (p:=p) (i:=i) k (Go.RowKit.wrap64 (p.cnt+1)) hpl hk2 hkM hz
  simp only [hpl,hk2,Int.toNat_natCast]
  unfold Wd.swap
  rw [if_pos (show p.ld (p.noteW k)=0 from hz)]
  simp only [Wd.fl,Wd.setF,Wd.setR,Wd.mach,Wd.setM,Wd.st,Wd.go,Wd.deliver,Wd.add,Wd.more,Wd.less,Wd.acc,Wd.ld,gs,gf,List.set_set,Bool.false_eq_true,if_false,if_true]
  exact t
 case h_27 hpl =>
  obtain ⟨g,hg⟩:∃ g:Nat,(p.mach i).got=g:=⟨(p.mach i).got.toNat,by omega⟩
  have hgG:g<p.G:=by omega
  have hst:=mark_sts h hi g hg hgG (.inr hpl)
  have t:=Tr.mark (p:=p) (i:=i) g (Go.RowKit.wrap64 (p.cnt+1)) hpl hg hgG hst
  simp only [hpl,hg,Int.toNat_natCast]
  simp only [hg] at t
  simp only [Wd.fl,Wd.setF,Wd.setR,Wd.mach,Wd.setM,Wd.st,Wd.go,Wd.deliver,Wd.add,Wd.more,Wd.less,Wd.acc,Wd.ld,gs,gf,List.set_set,Bool.false_eq_true,if_false,if_true]
  exact t
 case h_1 hpl=>exact absurd hpl h0
 case h_17 hpl=>exact absurd hpl h16
 case h_32=>exact sh.elim
 all_goals (simp only [*];exact Tr.idle)
theorem woken_tr (h:Inv n p) (hi:i<p.M) (hpl:(p.mach i).place=16):Tr p i (p.woken i).1:=by
 have hla:i<p.all.length:=by rw [h.sh.la];exact hi
 have L:=h.L.loc i hi
 have gs:=fun (m:Mach)=>zav p.all i m Mach.fresh hla
 have gf:=trivial
 have hn:=h.D.nt i hi
 unfold Wd.woken
 by_cases hz:p.ld (p.noteW i)=1
 ·simp only [hz,if_true]
  unfold Wd.swap
  simp only [hz,if_true]
  split
  ·rename_i hx
   have t:=Tr.awake (p:=p) (i:=i) (Go.RowKit.wrap64 (p.cnt+1)) hpl hz (by have:=L.rn;omega)
   simp only [Wd.fl,Wd.setF,Wd.setR,Wd.mach,Wd.setM,Wd.st,Wd.go,Wd.deliver,Wd.add,Wd.more,Wd.less,Wd.acc,Wd.ld,gs,gf,List.set_set,Bool.false_eq_true,if_false,if_true]
   exact t
  ·rename_i hx
   have t:=Tr.awakeP (p:=p) (i:=i) (Go.RowKit.wrap64 (p.cnt+1)) hpl hz (by omega)
   simp only [Wd.fl,Wd.setF,Wd.setR,Wd.mach,Wd.setM,Wd.st,Wd.go,Wd.deliver,Wd.add,Wd.more,Wd.less,Wd.acc,Wd.ld,gs,gf,List.set_set,Bool.false_eq_true,if_false,if_true]
   exact t
 ·simp only [hz,if_false]
  exact Tr.asleep (p:=p) (i:=i) _ hpl (by have:=hn.1;unfold Wd.note at *;omega)
theorem exec_tr (h:Inv n p) (hi:i<p.M) (hpl:(p.mach i).place=0) (s:Stp) (hd : -9223372036854775808≤s.d∧s.d≤9223372036854775807):Tr p i (p.exec i s).1:=by
 have hla:i<p.all.length:=by rw [h.sh.la];exact hi
 have L:=h.L.loc i hi
 have sh:=L.sh
 unfold shape at sh
 simp only [hpl] at sh
 have gs:=fun (m:Mach)=>zav p.all i m Mach.fresh hla
 have gf:=trivial
 obtain ⟨g,hg⟩:∃ g:Nat,(p.mach i).g=g:=⟨(p.mach i).g.toNat,by omega⟩
 have hgG:g<p.G:=by have:=L.rg;omega
 have hst:=zc2 h hi g hg hgG
 have rouse_tr:∀ (x:Int) (fr:Nat) (k:Int),((fr=0∧k=0)∨(fr=3∧k=1))→Tr p i (p.rouse i x fr k).1:=by
  intro x fr k hk
  unfold Wd.rouse Wd.moved
  by_cases hx:0≤x∧x<p.G
  ·obtain ⟨y,rfl⟩:∃ y:Nat,x=y:=⟨x.toNat,by omega⟩
   have hyG:y<p.G:=by omega
   by_cases hs:p.sts y=fr
   ·have e:(decide (0≤(y:Int)∧(y:Int)<p.G) && p.ld (p.statW (y:Int).toNat)==fr)=true:=by
     rw [Int.toNat_natCast];simp only [hx,decide_true,Bool.true_and,beq_iff_eq,and_self];exact hs
    simp only [e,if_true]
    have t:=Tr.rouse (p:=p) (i:=i) y fr k (Go.RowKit.wrap64 (p.cnt+1)) hpl hk hyG hs
    rw [zcx p y fr 1 hyG hs]
    simp only [Wd.fl,Wd.setF,Wd.setR,Wd.mach,Wd.setM,Wd.st,Wd.go,Wd.deliver,Wd.add,Wd.more,Wd.less,Wd.acc,Wd.ld,gs,gf,List.set_set,Bool.false_eq_true,if_false,if_true]
    exact t
   ·have e:(decide (0≤(y:Int)∧(y:Int)<p.G) && p.ld (p.statW (y:Int).toNat)==fr)=false:=by
     rw [Int.toNat_natCast];simp only [hx,decide_true,Bool.true_and,and_self];rw [beq_eq_false_iff_ne];exact hs
    simp only [e,Bool.false_eq_true,if_false]
    unfold Wd.move Wd.swap
    rw [if_pos hx,Int.toNat_natCast,if_neg (show ¬ p.ld (p.statW y)=fr from hs)]
    exact Tr.refused (p:=p) (i:=i) _ hpl
  ·have e:(decide (0≤x∧x<p.G) && p.ld (p.statW x.toNat)==fr)=false:=by simp only [hx,decide_false,Bool.false_and]
   simp only [e,Bool.false_eq_true,if_false]
   unfold Wd.move
   rw [if_neg hx]
   exact Tr.idle
 unfold Wd.exec
 split
 ·exact Tr.idle
 ·have t:=Tr.yield (p:=p) (i:=i) g (Go.RowKit.wrap64 (p.cnt+1)) hpl hg hgG hst
  unfold Wd.leave
  simp only [hg,zcx p g 2 1 hgG hst]
  simp only [hg] at t
  simp only [Wd.fl,Wd.setF,Wd.setR,Wd.mach,Wd.setM,Wd.st,Wd.go,Wd.deliver,Wd.add,Wd.more,Wd.less,Wd.acc,Wd.ld,gs,gf,List.set_set,Bool.false_eq_true,if_false,if_true]
  exact t
 ·have t:=Tr.leave (p:=p) (i:=i) g 3 4 (Go.RowKit.wrap64 (p.cnt+1)) hpl (.inl ⟨rfl,rfl⟩) hg hgG hst
  unfold Wd.leave
  simp only [hg,zcx p g 2 3 hgG hst]
  simp only [Wd.fl,Wd.setF,Wd.setR,Wd.mach,Wd.setM,Wd.st,Wd.go,Wd.deliver,Wd.add,Wd.more,Wd.less,Wd.acc,Wd.ld,gs,gf,List.set_set,Bool.false_eq_true,if_false,if_true]
  exact t
 ·have t:=Tr.leave (p:=p) (i:=i) g 6 7 (Go.RowKit.wrap64 (p.cnt+1)) hpl (.inr ⟨rfl,rfl⟩) hg hgG hst
  unfold Wd.leave
  simp only [hg,zcx p g 2 6 hgG hst]
  simp only [Wd.fl,Wd.setF,Wd.setR,Wd.mach,Wd.setM,Wd.st,Wd.go,Wd.deliver,Wd.add,Wd.more,Wd.less,Wd.acc,Wd.ld,gs,gf,List.set_set,Bool.false_eq_true,if_false,if_true]
  exact t
 ·exact rouse_tr _ _ _ (.inl ⟨rfl,rfl⟩)
 ·exact rouse_tr _ _ _ (.inr ⟨rfl,rfl⟩)
 ·exact Tr.toPark (p:=p) (i:=i) s.d hpl hd
 ·split
  ·exact Tr.idle
  ·exact Tr.toAwait (p:=p) (i:=i) s.x hpl (by omega)
 ·exact Tr.idle
theorem pick_tr (h:Inv n p) (s:Stp) (hd : -9223372036854775808≤s.d∧s.d≤9223372036854775807):(p.pick s).1=p∨∃ i,i<p.M∧s.a=i∧Tr p i (p.pick s).1:=by
 unfold Wd.pick
 by_cases ha:s.a<0∨s.a ≥ p.M
 ·rw [if_pos ha];exact .inl rfl
 ·rw [if_neg ha]
  obtain ⟨i,hi⟩:∃ i:Nat,s.a=i:=⟨s.a.toNat,by omega⟩
  have hiM:i<p.M:=by omega
  right
  refine ⟨i,hiM,hi,?_⟩
  simp only [hi,Int.toNat_natCast]
  by_cases h0:(p.mach i).place=0
  ·rw [if_pos h0];exact exec_tr h hiM h0 s hd
  ·rw [if_neg h0]
   by_cases h16:(p.mach i).place=16
   ·rw [if_pos h16];exact woken_tr h hiM h16
   ·rw [if_neg h16,zdi]
    cases hk:zek p.P (p.mach i) with
    | some k=>exact locked_cases h hiM k hk (fun hn hs=>do_tr h hiM hn hs)
    | none=>exact bare_tr h hiM hk h0 h16
end
end Hst
