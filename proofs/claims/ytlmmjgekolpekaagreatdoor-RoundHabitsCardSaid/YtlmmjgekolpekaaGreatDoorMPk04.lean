/- Parts of the proof. -/
import Derived.Test.YtlmmjgekolpekaaGreatDoorMPk03
set_option linter.unusedVariables false
set_option linter.unusedSimpArgs false
set_option linter.unusedSectionVars false
set_option maxRecDepth 100000
set_option maxHeartbeats 6400000
namespace Hst
theorem zbi {α:Type} (f:α→Nat) (l:List α) (i:Nat) (m d:α) (hi:i<l.length):sumL f (l.set i m)=sumL f l - f (l.getD i d)+f m:=by
 have h1:=zap f l i m d hi
 have h2:=zaK f l i d hi
 omega
theorem sumL_bound {α:Type} (f:α→Nat) (c:Nat) (l:List α) (h:∀ a,f a≤c):sumL f l≤c*l.length:=by
 induction l with
 | nil=>simp [sumL]
 | cons a t ih =>
  have:=h a
  simp only [sumL,List.length_cons,Nat.mul_add];omega
section
variable {n:Nat} {p p':Wd} {i:Nat}
theorem Inv.la (h:Inv n p) (hi:i<p.M):i<p.all.length:=by rw [h.sh.la];exact hi
theorem pend_len (h:Inv n p):p.idle.pending.length≤p.P :=
 zaq _ _ h.B.rp (fun x=>by
  by_cases hm:x∈p.idle.pending
  ·have hr:=h.B.rp x hm
   obtain ⟨q,rfl⟩:∃ q:Nat,x=q:=⟨x.toNat,by omega⟩
   have:=h.B.each q (by omega)
   omega
  ·rw [List.count_eq_zero.2 hm];omega)
theorem spins_le (h:Inv n p):sumL spins p.all≤384:=by
 have:=sumL_bound spins 3 p.all (fun m=>by
  unfold spins zet
  have:=za3 (m.spin=true);have:=za3 (0≤m.next);have:=za3 (m.place=23∧¬ m.s3);omega)
 have:=h.sh.la;have:=h.sh.dM;omega
theorem spin_small (h:Inv n p):p.spinN≤448:=by
 have:=h.E.spin;have:=pend_len h;have:=spins_le h;have:=h.sh.dP;omega
theorem zbv (h:Inv n p) (hi:i<p.M) (hp:(p.mach i).place=23) {k:Nat} {m':List Int} {o':Int} (hm:(p.idle.m=m'++[(k:Int)]∧o'=p.idle.poller)∨(p.idle.m=[]∧m'=[]∧p.idle.poller=k∧o' = -1)) :
  k<p.M∧i≠k∧regd p k:=by
 obtain ⟨n1,n2⟩:=not_reg h hi (by unfold zec;omega)
 have hk:k<p.M:=by
  rcases hm with ⟨e,_⟩ | ⟨_,_,e,_⟩
  ·have:=h.D.rm k (by rw [e];simp);omega
  ·have:=h.D.rpo;omega
 refine ⟨hk,fun e=>?_,?_⟩
 ·subst e
  rcases hm with ⟨e,_⟩ | ⟨_,_,e,_⟩
  ·exact n2 (by rw [e];simp)
  ·exact n1 e
 ·have h1:=h.D.reg k hk
  have h2:1≤p.idle.m.count (k:Int)+b2n (p.idle.poller=k):=by
   rcases hm with ⟨e,_⟩ | ⟨_,_,e,_⟩
   ·rw [e];simp;omega
   ·rw [zai e];omega
  have h5:=za3 (regd p k)
  exact zca.1 (by omega)
theorem zbI (p:Wd) (i k:Nat) (x:Mach) (hik:i≠k):(p.all.set k x).getD i Mach.fresh=p.mach i:=getD_set_ne p.all k i x Mach.fresh hik
theorem zcb (P:Nat) (m:Mach) {k:Nat} (h:zek P m=some k) (hP:1≤P):k≤P+1:=by
 unfold zek at h
 split at h
 all_goals first
  | (simp only [Option.some.injEq] at h;omega)
  | (split at h <;> simp only [Option.some.injEq,reduceCtorEq] at h)
  | skip
 all_goals first
  | omega
  | (simp at h;done)
  | skip
 rename_i hc
 have:=Int.emod_nonneg (m.p+m.i % P) (show (P:Int)≠0 by omega);have:=Int.emod_lt_of_pos (m.p+m.i % P) (show 0<(P:Int) by omega);omega
theorem zaQ (P:Nat) (m:Mach) {k:Nat} (h:zek P m=some k):m.place=2∨m.place=3∨m.place=4∨m.place=6∨m.place=7∨m.place=9∨m.place=10∨m.place=11∨m.place=13∨m.place=14∨m.place=15∨m.place=17∨m.place=18∨m.place=23∨m.place=25∨m.place=27∨m.place=28∨m.place=29∨m.place=30:=by
 unfold zek at h
 split at h <;> simp_all
theorem sh0 {P:Nat} {f:Bool} {m:Mach} (h:shape P f m) (e:m.place=0):m.inn=false∧0≤m.p∧0≤m.g∧zer m∧m.spin=false:=by unfold shape at h;simp only [e] at h;exact h
theorem sh1 {P:Nat} {f:Bool} {m:Mach} (h:shape P f m) (e:m.place=1):m.inn=false∧0≤m.p∧m.g = -1∧zer m∧m.spin=false:=by unfold shape at h;simp only [e] at h;exact h
theorem sh2 {P:Nat} {f:Bool} {m:Mach} (h:shape P f m) (e:m.place=2):0≤m.p∧m.g = -1∧m.spin=false∧m.target = -1∧m.rest=[]∧(if m.s3∧f=true then 0≤m.got else m.got = -1):=by unfold shape at h;simp only [e] at h;exact h
theorem sh3 {P:Nat} {f:Bool} {m:Mach} (h:shape P f m) (e:m.place=3):0≤m.p∧m.g = -1∧m.spin=false∧m.target = -1∧m.rest=[]∧(if m.s3∧f=true then 0≤m.got else m.got = -1):=by unfold shape at h;simp only [e] at h;exact h
theorem sh4 {P:Nat} {f:Bool} {m:Mach} (h:shape P f m) (e:m.place=4):0≤m.p∧m.g = -1∧m.target = -1∧(if m.s3∧f=true then 0≤m.got else m.got = -1∧m.rest=[]):=by unfold shape at h;simp only [e] at h;exact h
theorem sh5 {P:Nat} {f:Bool} {m:Mach} (h:shape P f m) (e:m.place=5):m.inn=false∧0≤m.p∧m.g = -1∧zer m∧m.spin=false:=by unfold shape at h;simp only [e] at h;exact h
theorem sh6 {P:Nat} {f:Bool} {m:Mach} (h:shape P f m) (e:m.place=6):0≤m.p∧m.g = -1∧m.spin=true∧m.target = -1∧1≤m.i∧m.i<P∧(if m.s3∧f=true then 0≤m.got else m.got = -1∧m.rest=[]):=by unfold shape at h;simp only [e] at h;exact h
theorem sh7 {P:Nat} {f:Bool} {m:Mach} (h:shape P f m) (e:m.place=7):m.g = -1∧m.spin=true∧m.target = -1∧(if m.s3∧f=true then 0≤m.got else m.got = -1∧m.rest=[])∧(if m.s3∧f=false then m.p = -1 else 0≤m.p):=by unfold shape at h;simp only [e] at h;exact h
theorem sh8 {P:Nat} {f:Bool} {m:Mach} (h:shape P f m) (e:m.place=8):m.inn=false∧m.p = -1∧m.g = -1∧zer m∧m.spin=true:=by unfold shape at h;simp only [e] at h;exact h
theorem sh9 {P:Nat} {f:Bool} {m:Mach} (h:shape P f m) (e:m.place=9):m.p = -1∧m.g = -1∧zer m∧m.spin=false∧0≤m.i∧m.i<P:=by unfold shape at h;simp only [e] at h;exact h
theorem sh10 {P:Nat} {f:Bool} {m:Mach} (h:shape P f m) (e:m.place=10):m.p = -1∧m.g = -1∧zer m∧m.spin=false:=by unfold shape at h;simp only [e] at h;exact h
theorem sh11 {P:Nat} {f:Bool} {m:Mach} (h:shape P f m) (e:m.place=11):m.g = -1∧zer m∧m.spin=false∧(if m.s3∧f=true then 0≤m.p else m.p = -1):=by unfold shape at h;simp only [e] at h;exact h
theorem sh12 {P:Nat} {f:Bool} {m:Mach} (h:shape P f m) (e:m.place=12):m.inn=false∧0≤m.p∧m.g = -1∧zer m∧m.spin=false:=by unfold shape at h;simp only [e] at h;exact h
theorem sh13 {P:Nat} {f:Bool} {m:Mach} (h:shape P f m) (e:m.place=13):m.g = -1∧zer m∧(if m.s3∧m.spin=true then 0≤m.p∧f=true else m.p = -1∧m.spin=false):=by unfold shape at h;simp only [e] at h;exact h
theorem sh14 {P:Nat} {f:Bool} {m:Mach} (h:shape P f m) (e:m.place=14):m.p = -1∧m.g = -1∧zer m∧m.spin=false:=by unfold shape at h;simp only [e] at h;exact h
theorem sh15 {P:Nat} {f:Bool} {m:Mach} (h:shape P f m) (e:m.place=15):m.p = -1∧m.g = -1∧zer m∧m.spin=false∧(m.s3∧f=true→m.next = -1):=by unfold shape at h;simp only [e] at h;exact h
theorem sh16 {P:Nat} {f:Bool} {m:Mach} (h:shape P f m) (e:m.place=16):m.inn=false∧m.p = -1∧m.g = -1∧zer m∧m.spin=false:=by unfold shape at h;simp only [e] at h;exact h
theorem sh17 {P:Nat} {f:Bool} {m:Mach} (h:shape P f m) (e:m.place=17):0≤m.p∧m.g = -1∧0≤m.got∧m.back=20∧m.target = -1:=by unfold shape at h;simp only [e] at h;exact h
theorem sh18 {P:Nat} {f:Bool} {m:Mach} (h:shape P f m) (e:m.place=18):0≤m.p∧m.target = -1∧((m.back=20∧0≤m.got∧m.g = -1)∨(m.back=0∧m.got = -1∧0≤m.g∧m.spin=false)):=by unfold shape at h;simp only [e] at h;exact h
theorem sh19 {P:Nat} {f:Bool} {m:Mach} (h:shape P f m) (e:m.place=19):m.inn=false∧0≤m.p∧m.g = -1∧0≤m.got∧m.back=20∧m.spin=true∧m.rest=[]∧m.target = -1:=by unfold shape at h;simp only [e] at h;exact h
theorem sh20 {P:Nat} {f:Bool} {m:Mach} (h:shape P f m) (e:m.place=20):m.inn=false∧0≤m.p∧m.g = -1∧0≤m.got∧m.rest=[]∧m.spin=false∧m.target = -1:=by unfold shape at h;simp only [e] at h;exact h
theorem sh21 {P:Nat} {f:Bool} {m:Mach} (h:shape P f m) (e:m.place=21):m.inn=false∧backs m∧m.spin=false∧m.rest=[]∧m.target = -1:=by unfold shape at h;simp only [e] at h;exact h
theorem sh22 {P:Nat} {f:Bool} {m:Mach} (h:shape P f m) (e:m.place=22):m.inn=false∧backs m∧m.spin=false∧m.rest=[]∧m.target = -1:=by unfold shape at h;simp only [e] at h;exact h
theorem sh23 {P:Nat} {f:Bool} {m:Mach} (h:shape P f m) (e:m.place=23):backs m∧m.spin=false∧m.rest=[]∧(m.s3∨m.target = -1):=by unfold shape at h;simp only [e] at h;exact h
theorem sh24 {P:Nat} {f:Bool} {m:Mach} (h:shape P f m) (e:m.place=24):m.inn=false∧backs m∧m.spin=false∧m.rest=[]∧0≤m.target:=by unfold shape at h;simp only [e] at h;exact h
theorem sh25 {P:Nat} {f:Bool} {m:Mach} (h:shape P f m) (e:m.place=25):m.g = -1∧m.spin=false∧m.rest=[]∧m.target = -1∧aft m∧(if m.s3∧f=true then 0≤m.got else m.got = -1):=by unfold shape at h;simp only [e] at h;exact h
theorem sh26 {P:Nat} {f:Bool} {m:Mach} (h:shape P f m) (e:m.place=26):m.inn=false∧m.g = -1∧m.spin=false∧m.rest=[]∧m.target = -1∧aft m∧0≤m.got:=by unfold shape at h;simp only [e] at h;exact h
theorem sh27 {P:Nat} {f:Bool} {m:Mach} (h:shape P f m) (e:m.place=27):m.g = -1∧m.spin=false∧m.rest=[]∧m.target = -1∧((m.back=1∧0≤m.p)∨(m.back=25∧aft m))∧(if m.s3 then m.got = -1 else 0≤m.got):=by unfold shape at h;simp only [e] at h;exact h
theorem sh28 {P:Nat} {f:Bool} {m:Mach} (h:shape P f m) (e:m.place=28):0≤m.p∧0≤m.g∧m.spin=false∧m.target = -1∧(if m.s3 then m.got = -1 else 0≤m.got∧m.rest=[]):=by unfold shape at h;simp only [e] at h;exact h
theorem sh29 {P:Nat} {f:Bool} {m:Mach} (h:shape P f m) (e:m.place=29):0≤m.p∧zer m∧m.spin=false∧(m.s3∨0≤m.g):=by unfold shape at h;simp only [e] at h;exact h
theorem sh30 {P:Nat} {f:Bool} {m:Mach} (h:shape P f m) (e:m.place=30):0≤m.p∧zer m∧m.spin=false∧(m.s3∨0≤m.g)∧0≤m.arg∧m.arg<65536:=by unfold shape at h;simp only [e] at h;exact h
theorem za1 (P:Nat) (f:Bool) (m:Mach):(zei P f m).p=m.p∧(zei P f m).g=m.g∧(zei P f m).next=m.next∧(zei P f m).got=m.got∧(zei P f m).target=m.target∧(zei P f m).spin=m.spin∧(zei P f m).inn=m.inn∧(zei P f m).rest=m.rest ∧
  (zei P f m).arg=m.arg∧(zei P f m).lkN=m.lkN∧(zei P f m).lkS=m.lkS∧(zei P f m).stage=m.stage∧(zei P f m).ticket=m.ticket∧(zei P f m).times=m.times:=by
 unfold zei
 split
 all_goals (try unfold thenS)
 all_goals (try unfold zeA)
 all_goals (repeat' split)
 all_goals exact ⟨rfl,rfl,rfl,rfl,rfl,rfl,rfl,rfl,rfl,rfl,rfl,rfl,rfl,rfl⟩
theorem then_not23 {P:Nat} {f:Bool} {m:Mach} (h:shape P f m) (h3:m.s3):(zei P f { m with stage:=4,inn:=false }).place≠23:=by
 unfold shape at h
 split at h
 all_goals (unfold zei;simp only [*])
 all_goals (try unfold thenS)
 all_goals (try unfold zeA)
 all_goals grind
theorem spins_eq {m m':Mach} (h1:m'.spin=m.spin) (h2:m'.next=m.next) (h3:(m'.place=23∧¬ m'.s3) ↔ (m.place=23∧¬ m.s3)):spins m'=spins m:=by
 unfold spins zet;rw [h1,h2,zal h3]
theorem E_of {q:Wd} {m':Mach} (h:Inv n p) (hi:i<p.M) (hall:q.all=p.all.set i m') (hs:q.spinN+spins (p.mach i)+p.idle.pending.length=p.spinN+spins m'+q.idle.pending.length):PartE q:=by
 have hla:=h.la hi
 have hE:=h.E.spin
 have hge:spins (p.mach i)≤sumL spins p.all:=zaK spins p.all i Mach.fresh hla
 have hset:sumL spins (p.all.set i m')=sumL spins p.all - spins (p.mach i)+spins m':=zbi spins p.all i m' Mach.fresh hla
 constructor
 rw [hall,hset];omega
theorem E_keep {q:Wd} {m':Mach} (h:Inv n p) (hi:i<p.M) (hall:q.all=p.all.set i m') (hN:q.spinN=p.spinN) (hpen:q.idle.pending.length=p.idle.pending.length)
  (h1:m'.spin=(p.mach i).spin) (h2:m'.next=(p.mach i).next) (h3:(m'.place=23∧¬ m'.s3) ↔ ((p.mach i).place=23∧¬ (p.mach i).s3)):PartE q :=
 E_of h hi hall (by rw [hN,hpen,spins_eq h1 h2 h3])
theorem zaw (p:Wd) (a x:Nat) (h:a<p.ws.length) (ha:a≠2*(p.P+2)):(p.ws.set a x).getD (2*(p.P+2)) 0=p.spinN:=by
 rw [zad _ _ _ _ _ h,if_neg (fun e=>ha e.symm)];rfl
theorem E_tr (h:Inv n p) (hi:i<p.M) (t:Tr p i p'):PartE p':=by
 have hla:=h.la hi
 have hlw:=h.sh.lw
 have hP:=h.sh.dP
 have hsm:=spin_small h
 have L:=h.L.loc i hi
 have nx:=L.nx
 have rn:=L.rn
 have hE:=h.E.spin
 cases t
 case take k c hn hk =>
  have:=zcb _ _ hk hP.1
  exact E_keep h hi rfl (zaw p _ _ (by omega) (by omega)) rfl rfl rfl (by simp [hn])
 case miss=>exact ⟨h.E.spin⟩
 case hit k c hn hs hk ht=>exact E_keep h hi rfl rfl rfl rfl rfl (by simp [hs])
 case foundR q r' g t h0 hp hq hc hl=>exact E_keep h hi rfl rfl rfl rfl rfl (by simp [Mach.s3];omega)
 case foundG g t glob' h0 hp hg=>exact E_keep h hi rfl rfl rfl rfl rfl (by simp [Mach.s3];omega)
 case told b h0 ht =>
  have hp:(p.mach i).place≠23:=fun e=>by unfold Told at ht;simp only [e] at ht
  exact E_keep h hi rfl rfl rfl rfl rfl (by simp [hp])
 case release q h0 hp hg hq=>exact E_keep h hi rfl rfl rfl rfl rfl (by simp [hp])
 case retake q h0 hp hq hq2=>exact E_keep h hi rfl rfl rfl rfl rfl (by simp [hp])
 case pending q t h0 hp hq =>
  refine E_of h hi rfl ?_
  have s:=sh13 L.sh hp
  show p.spinN+_+p.idle.pending.length=p.spinN+_+t.length
  rw [hq];grind [spins,zet,b2n]
 case stopP h0 hp hq ho =>
  refine E_of h hi rfl ?_
  have s:=sh13 L.sh hp
  show p.spinN+_+p.idle.pending.length=p.spinN+_+p.idle.pending.length
  grind [spins,zet,b2n]
 case stopM h0 hp hq ho =>
  refine E_of h hi rfl ?_
  have s:=sh13 L.sh hp
  show p.spinN+_+p.idle.pending.length=p.spinN+_+p.idle.pending.length
  grind [spins,zet,b2n]
 case unpoll h0 hp ho=>exact E_keep h hi rfl rfl rfl rfl rfl (by simp [hp])
 case putOver h0 hp=>exact E_keep h hi rfl rfl rfl rfl rfl (by simp [hp])
 case putOne h0 hp=>exact E_keep h hi rfl rfl rfl rfl rfl (by simp [hp])
 case putRest q r' t h0 hp hq he=>exact E_keep h hi rfl rfl rfl rfl rfl (by simp [hp])
 case putNext q r' t h0 hp hq he=>exact E_keep h hi rfl rfl rfl rfl rfl (by simp [hp])
 case deliv s g h0 hp he=>exact E_keep h hi rfl rfl rfl rfl rfl (by simp [hp])
 case findNo h0 hp hz=>exact E_keep h hi rfl rfl rfl rfl rfl (by simp [hp,h0.2.1])
 case findBack c h1 hp =>
  refine E_of h hi rfl ?_
  have s:=sh23 L.sh hp
  show (p.ws.set _ _).getD (2*(p.P+2)) 0+_+p.idle.pending.length=p.spinN+_+p.idle.pending.length
  rw [zad _ _ _ _ _ (by unfold Wd.spinW;omega),if_pos (show 2*(p.P+2)=p.spinW from rfl)]
  have hge:spins (p.mach i)≤sumL spins p.all:=zaK spins p.all i Mach.fresh hla
  grind [spins,zet,b2n]
 case findM q k h0 hp hq hq2 m' o' hm =>
  obtain ⟨hk,hik,hr⟩:=zbv h hi hp hm
  have hnx:=hr.2.1
  have hkl:k<p.all.length:=by rw [h.sh.la];exact hk
  have e1:∀ m,sumL spins ((p.all.set k { p.mach k with next:=(q:Int) }).set i m)=sumL spins (p.all.set k { p.mach k with next:=(q:Int) }) - spins (p.mach i)+spins m:=fun m=>by
   rw [zbi spins _ i m Mach.fresh (by simpa using hla),zbI p i k _ hik]
  have e2:=zbi spins p.all k { p.mach k with next:=(q:Int) } Mach.fresh hkl
  have e3:spins (p.mach i)+spins (p.mach k)≤sumL spins p.all:=zbT spins p.all i k Mach.fresh hla hkl hik
  have e4:p.all.getD k Mach.fresh=p.mach k:=rfl
  rw [e4] at e2
  have s:=sh23 L.sh hp
  constructor
  show p.spinN=sumL spins ((p.all.set k { p.mach k with next:=(q:Int) }).set i _)+p.idle.pending.length
  rw [e1,e2]
  have a1:spins { p.mach k with next:=(q:Int) }=spins (p.mach k)+1:=by
   unfold spins zet
   rw [show b2n (0≤(p.mach k).next)=0 from zae (by omega)]
   show b2n _+b2n (0≤(q:Int))+b2n _=_
   rw [zai (show 0≤(q:Int) by omega)]
   show b2n ((p.mach k).spin=true)+1+b2n ((p.mach k).place=23∧¬ (p.mach k).s3)=_
   omega
  have a2:∀ k':Int,spins { p.mach i with target:=k',times:=1,stage:=3 }+1=spins (p.mach i):=fun k'=>by simp [spins,zet,b2n,hp,h0.1,h0.2.1]
  have:=a2 k
  omega
 case findP q h0 hp hq hq2 hm ho =>
  refine E_of h hi rfl ?_
  have s:=sh23 L.sh hp
  show p.spinN+_+p.idle.pending.length=p.spinN+_+(p.idle.pending++[(q:Int)]).length
  rw [List.length_append]
  grind [spins,zet,b2n]
 case park h0 hp=>exact E_keep h hi rfl rfl rfl rfl rfl (by simp [hp])
 case await s h0 hp he=>exact E_keep h hi rfl rfl rfl rfl rfl (by simp [hp])
 case awaitNo h0 hp=>exact E_keep h hi rfl rfl rfl rfl rfl (by simp [hp])
 case outOf g to k v c h1 hp hg hg2 hs hv =>
  exact E_keep h hi rfl (zaw p _ _ (by unfold Wd.statW;omega) (by unfold Wd.statW;omega)) rfl rfl rfl (by simp [Mach.s3];omega)
 case free k c hn hs hk hl hk2 ht =>
  refine E_of h hi rfl ?_
  have eN:=fun x=>zaw p (2*k+1) x (by omega) (by omega)
  show (p.ws.set _ _).getD (2*(p.P+2)) 0+_+p.idle.pending.length=p.spinN+_+p.idle.pending.length
  rw [eN]
  obtain ⟨k1,k2,k3,k4,k5,k6,k7,k8,k9⟩:=za1 p.P (p.fl i) { p.mach i with stage:=4,inn:=false }
  rw [spins_eq (m':=zei p.P (p.fl i) { p.mach i with stage:=4,inn:=false }) (m:=p.mach i) k6 k3 (by have:=then_not23 (P:=p.P) (f:=p.fl i) (m:=p.mach i) L.sh ⟨hn,hs⟩;simp [this,hn,hs])]
 case sched t h1 q hq m' hm =>
  exact E_keep h hi rfl rfl rfl (by rcases hm with rfl | rfl <;> rfl) (by rcases hm with rfl | rfl <;> rfl) (by rcases hm with rfl | rfl <;> simp [h1])
 case spinUp c hp =>
  refine E_of h hi rfl ?_
  have s:=sh5 L.sh hp
  show (p.ws.set _ _).getD (2*(p.P+2)) 0+_+p.idle.pending.length=p.spinN+_+p.idle.pending.length
  rw [zad _ _ _ _ _ (by unfold Wd.spinW;omega),if_pos (show 2*(p.P+2)=p.spinW from rfl)]
  grind [spins,zet,b2n]
 case spinBack c hp =>
  refine E_of h hi rfl ?_
  have s:=sh12 L.sh hp
  show (p.ws.set _ _).getD (2*(p.P+2)) 0+_+p.idle.pending.length=p.spinN+_+p.idle.pending.length
  rw [zad _ _ _ _ _ (by unfold Wd.spinW;omega),if_pos (show 2*(p.P+2)=p.spinW from rfl)]
  grind [spins,zet,b2n]
 case drop c hp =>
  refine E_of h hi rfl ?_
  have s:=sh8 L.sh hp
  show (p.ws.set _ _).getD (2*(p.P+2)) 0+_+p.idle.pending.length=p.spinN+_+p.idle.pending.length
  rw [zad _ _ _ _ _ (by unfold Wd.spinW;omega),if_pos (show 2*(p.P+2)=p.spinW from rfl)]
  have hge:spins (p.mach i)≤sumL spins p.all:=zaK spins p.all i Mach.fresh hla
  grind [spins,zet,b2n]
 case unspin c hp =>
  refine E_of h hi rfl ?_
  have s:=sh19 L.sh hp
  show (p.ws.set _ _).getD (2*(p.P+2)) 0+_+p.idle.pending.length=p.spinN+_+p.idle.pending.length
  rw [zad _ _ _ _ _ (by unfold Wd.spinW;omega),if_pos (show 2*(p.P+2)=p.spinW from rfl)]
  have hge:spins (p.mach i)≤sumL spins p.all:=zaK spins p.all i Mach.fresh hla
  grind [spins,zet,b2n]
 case dispatch g c hp hg hg2 hs =>
  exact E_keep h hi rfl (zaw p _ _ (by unfold Wd.statW;omega) (by unfold Wd.statW;omega)) rfl rfl rfl (by simp [hp])
 case load c hp =>
  refine E_of h hi rfl ?_
  have s:=sh21 L.sh hp
  show p.spinN+_+p.idle.pending.length=p.spinN+_+p.idle.pending.length
  grind [spins,zet,b2n]
 case claim c hp hz =>
  refine E_of h hi rfl ?_
  have s:=sh22 L.sh hp
  show (p.ws.set _ _).getD (2*(p.P+2)) 0+_+p.idle.pending.length=p.spinN+_+p.idle.pending.length
  rw [zad _ _ _ _ _ (by unfold Wd.spinW;omega),if_pos (show 2*(p.P+2)=p.spinW from rfl)]
  grind [spins,zet,b2n]
 case claimNo c hp hz =>
  refine E_of h hi rfl ?_
  have s:=sh22 L.sh hp
  show p.spinN+_+p.idle.pending.length=p.spinN+_+p.idle.pending.length
  grind [spins,zet,b2n]
 case wake k c hp hk hk2 hz =>
  refine E_of h hi rfl ?_
  have s:=sh24 L.sh hp
  have eN:=fun x=>zaw p (p.noteW k) x (by unfold Wd.noteW;omega) (by unfold Wd.noteW;omega)
  show (p.ws.set _ _).getD (2*(p.P+2)) 0+_+p.idle.pending.length=p.spinN+_+p.idle.pending.length
  grind [spins,zet,b2n]
 case mark g c hp hg hg2 hs =>
  exact E_keep h hi rfl (zaw p _ _ (by unfold Wd.statW;omega) (by unfold Wd.statW;omega)) rfl rfl rfl (by simp [hp])
 case asleep=>exact ⟨h.E.spin⟩
 case awake c hp hz hx =>
  exact E_keep h hi rfl (zaw p _ _ (by unfold Wd.noteW;omega) (by unfold Wd.noteW;omega)) rfl rfl rfl (by simp [hp])
 case awakeP c hp hz hx =>
  refine E_of h hi rfl ?_
  have s:=sh16 L.sh hp
  have eN:=fun x=>zaw p (p.noteW i) x (by unfold Wd.noteW;omega) (by unfold Wd.noteW;omega)
  show (p.ws.set _ _).getD (2*(p.P+2)) 0+_+p.idle.pending.length=p.spinN+_+p.idle.pending.length
  grind [spins,zet,b2n]
 case idle=>exact h.E
 case refused=>exact ⟨h.E.spin⟩
 case yield g c hp hg hg2 hs =>
  exact E_keep h hi rfl (zaw p _ _ (by unfold Wd.statW;omega) (by unfold Wd.statW;omega)) rfl rfl rfl (by simp [hp])
 case leave g to k c hp hk hg hg2 hs =>
  exact E_keep h hi rfl (zaw p _ _ (by unfold Wd.statW;omega) (by unfold Wd.statW;omega)) rfl rfl rfl (by simp [hp])
 case rouse g fr k c hp hk hg2 hs =>
  exact E_keep h hi rfl (zaw p _ _ (by unfold Wd.statW;omega) (by unfold Wd.statW;omega)) rfl rfl rfl (by simp [hp])
 case toPark d hp hd=>exact E_keep h hi rfl rfl rfl rfl rfl (by simp [hp])
 case toAwait x hp hx=>exact E_keep h hi rfl rfl rfl rfl rfl (by simp [hp])
end
section
variable {n:Nat} {p p':Wd} {i:Nat}
theorem B_of {q:Wd} {m':Mach} (h:Inv n p) (hi:i<p.M) (hP:q.P=p.P) (hall:q.all=p.all.set i m')
  (hd:∀ r,r<p.P→b2n (q.idle.p.testBit r=true)+q.idle.pending.count (r:Int)+zee r m'=b2n (p.idle.p.testBit r=true)+p.idle.pending.count (r:Int)+zee r (p.mach i))
  (hb:q.idle.p<2^p.P) (hr:∀ x,x∈q.idle.pending→0≤x∧x<p.P):PartB q:=by
 have hla:=h.la hi
 refine ⟨fun r hr=>?_,by rw [hP];exact hb,by rw [hP];exact hr⟩
 rw [hP] at hr
 have h1:=h.B.each r hr
 have h2:zee r (p.mach i)≤sumL (zee r) p.all:=zaK (zee r) p.all i Mach.fresh hla
 have h3:sumL (zee r) (p.all.set i m')=sumL (zee r) p.all - zee r (p.mach i)+zee r m':=zbi (zee r) p.all i m' Mach.fresh hla
 have h4:=hd r hr
 rw [hall,h3];omega
theorem B_keep {q:Wd} {m':Mach} (h:Inv n p) (hi:i<p.M) (hP:q.P=p.P) (hall:q.all=p.all.set i m') (h1:q.idle.p=p.idle.p) (h2:q.idle.pending=p.idle.pending) (h3:m'.p=(p.mach i).p) (h4:m'.next=(p.mach i).next):PartB q :=
 B_of h hi hP hall (fun r _=>by unfold zee;rw [h1,h2,h3,h4]) (by rw [h1];exact h.B.bits) (by rw [h2];exact h.B.rp)
theorem B_same {q:Wd} (h:Inv n p) (hP:q.P=p.P) (hall:q.all=p.all) (h1:q.idle.p=p.idle.p) (h2:q.idle.pending=p.idle.pending):PartB q :=
 ⟨by rw [hP,hall,h1,h2];exact h.B.each,by rw [hP,h1];exact h.B.bits,by rw [hP,h2];exact h.B.rp⟩
theorem bit_xor (x q r:Nat):b2n ((x^^^2^q).testBit r=true)=if r=q then 1 - b2n (x.testBit q=true) else b2n (x.testBit r=true):=by
 rw [zbD]
 split
 ·cases x.testBit q <;> rfl
 ·rfl
theorem B_tr (h:Inv n p) (hi:i<p.M) (t:Tr p i p'):PartB p':=by
 have hla:=h.la hi
 have hP:=h.sh.dP
 have L:=h.L.loc i hi
 have hb:=h.B.bits
 have hrp:=h.B.rp
 cases t
 case take k c hn hk=>exact B_keep h hi rfl rfl rfl rfl rfl rfl
 case miss c k hn hs hk ht=>exact B_same h rfl rfl rfl rfl
 case hit k c hn hs hk ht=>exact B_keep h hi rfl rfl rfl rfl rfl rfl
 case foundR q r' g t h0 hp hq hc hl=>exact B_keep h hi rfl rfl rfl rfl rfl rfl
 case foundG g t glob' h0 hp hg=>exact B_keep h hi rfl rfl rfl rfl rfl rfl
 case told b h0 ht=>exact B_keep h hi rfl rfl rfl rfl rfl rfl
 case release q h0 hp hg hq =>
  have s:=sh7 L.sh hp
  have hq2:q<p.P:=by have:=L.rp;omega
  have hn:=held_not h hi q hq hq2
  refine B_of h hi rfl rfl (fun r hr=>?_) (xor_lt hb hq2) hrp
  show b2n ((p.idle.p^^^2^q).testBit r=true)+p.idle.pending.count (r:Int)+(b2n ((-1:Int)=r)+b2n ((p.mach i).next=r))=_+(b2n ((p.mach i).p=r)+_)
  rw [bit_xor,zae (show ¬ (-1:Int)=r by omega),hq]
  by_cases e:r=q
  ·subst e;rw [if_pos rfl,zae (by rw [hn.1];decide),zai rfl];omega
  ·rw [if_neg e,zae (show ¬ (q:Int)=r by omega)]
 case retake q h0 hp hq hq2 =>
  have s:=sh11 L.sh hp
  have hpn:(p.mach i).p = -1:=by have:=s.2.2.2;rw [if_neg (by simp [h0.2.1])] at this;exact this
  refine B_of h hi rfl rfl (fun r hr=>?_) (xor_lt hb hq2) hrp
  show b2n ((p.idle.p^^^2^q).testBit r=true)+p.idle.pending.count (r:Int)+(b2n ((q:Int)=r)+b2n ((p.mach i).next=r))=_+(b2n ((p.mach i).p=r)+_)
  rw [bit_xor,hpn,zae (show ¬ (-1:Int)=r by omega)]
  by_cases e:r=q
  ·subst e;rw [if_pos rfl,zai hq,zai rfl];omega
  ·rw [if_neg e,zae (show ¬ (q:Int)=r by omega)]
 case pending q t h0 hp hq =>
  have s:=sh13 L.sh hp
  have hpn:(p.mach i).p = -1:=by have:=s.2.2;rw [if_neg (by simp [h0.2.1])] at this;exact this.1
  refine B_of h hi rfl rfl (fun r hr=>?_) hb (fun x hx=>hrp x (by rw [hq];simp [hx]))
  show b2n (p.idle.p.testBit r=true)+t.count (r:Int)+(b2n (q=r)+b2n ((p.mach i).next=r))=_+(b2n ((p.mach i).p=r)+_)
  rw [hpn,zae (show ¬ (-1:Int)=r by omega),hq,List.count_cons]
  unfold b2n
  simp only [beq_iff_eq]
  omega
 case stopP h0 hp hq ho=>exact B_keep h hi rfl rfl rfl rfl rfl rfl
 case stopM h0 hp hq ho=>exact B_keep h hi rfl rfl rfl rfl rfl rfl
 case unpoll h0 hp ho=>exact B_keep h hi rfl rfl rfl rfl rfl rfl
 case putOver h0 hp=>exact B_keep h hi rfl rfl rfl rfl rfl rfl
 case putOne h0 hp=>exact B_keep h hi rfl rfl rfl rfl rfl rfl
 case putRest q r' t h0 hp hq he=>exact B_keep h hi rfl rfl rfl rfl rfl rfl
 case putNext q r' t h0 hp hq he=>exact B_keep h hi rfl rfl rfl rfl rfl rfl
 case deliv s g h0 hp he=>exact B_keep h hi rfl rfl rfl rfl rfl rfl
 case findNo h0 hp hz=>exact B_keep h hi rfl rfl rfl rfl rfl rfl
 case findBack c h1 hp=>exact B_keep h hi rfl rfl rfl rfl rfl rfl
 case findM q k h0 hp hq hq2 m' o' hm =>
  obtain ⟨hk,hik,hr⟩:=zbv h hi hp hm
  have hnx:=hr.2.1
  have hkl:k<p.all.length:=by rw [h.sh.la];exact hk
  refine ⟨fun r hr=>?_,xor_lt hb hq2,hrp⟩
  have e1:∀ m,sumL (zee r) ((p.all.set k { p.mach k with next:=(q:Int) }).set i m)=sumL (zee r) (p.all.set k { p.mach k with next:=(q:Int) }) - zee r (p.mach i)+zee r m:=fun m=>by
   rw [zbi (zee r) _ i m Mach.fresh (by simpa using hla),zbI p i k _ hik]
  have e2:=zbi (zee r) p.all k { p.mach k with next:=(q:Int) } Mach.fresh hkl
  have e3:zee r (p.mach i)+zee r (p.mach k)≤sumL (zee r) p.all:=zbT (zee r) p.all i k Mach.fresh hla hkl hik
  have e4:p.all.getD k Mach.fresh=p.mach k:=rfl
  rw [e4] at e2
  have e5:=h.B.each r hr
  show b2n ((p.idle.p^^^2^q).testBit r=true)+p.idle.pending.count (r:Int)+sumL (zee r) ((p.all.set k { p.mach k with next:=(q:Int) }).set i _)=1
  rw [e1,e2,bit_xor]
  have a2:∀ k':Int,zee r { p.mach i with target:=k',times:=1,stage:=3 }=zee r (p.mach i):=fun _=>rfl
  have a1:zee r { p.mach k with next:=(q:Int) }=b2n ((p.mach k).p=r)+b2n ((q:Int)=r):=rfl
  have a3:zee r (p.mach k)=b2n ((p.mach k).p=r):=by unfold zee;rw [hnx,zae (show ¬ (-1:Int)=r by omega)];omega
  rw [a2,a1]
  by_cases e:r=q
  ·subst e;rw [if_pos rfl,zai hq,zai rfl];rw [zai hq] at e5;omega
  ·rw [if_neg e,zae (show ¬ (q:Int)=r by omega)];omega
 case findP q h0 hp hq hq2 hm ho =>
  refine B_of h hi rfl rfl (fun r hr=>?_) (xor_lt hb hq2) (fun x hx=>?_)
  ·show b2n ((p.idle.p^^^2^q).testBit r=true)+(p.idle.pending++[(q:Int)]).count (r:Int)+_=_
   rw [bit_xor,List.count_append,List.count_singleton]
   have a2:zee r { p.mach i with times:=1,stage:=3 }=zee r (p.mach i):=rfl
   rw [a2]
   by_cases e:r=q
   ·subst e;rw [if_pos rfl,zai hq,if_pos (by simp)];omega
   ·rw [if_neg e,if_neg (by simp;omega)];omega
  ·simp only [List.mem_append,List.mem_singleton] at hx
   rcases hx with hx | hx
   ·exact hrp x hx
   ·subst hx;exact ⟨by omega,by show (q:Int)<p.P;omega⟩
 case park h0 hp=>exact B_keep h hi rfl rfl rfl rfl rfl rfl
 case await s h0 hp he=>exact B_keep h hi rfl rfl rfl rfl rfl rfl
 case awaitNo h0 hp=>exact B_keep h hi rfl rfl rfl rfl rfl rfl
 case outOf g to k v c h1 hp hg hg2 hs hv=>exact B_keep h hi rfl rfl rfl rfl rfl rfl
 case free k c hn hs hk hl hk2 ht =>
  obtain ⟨k1,k2,k3,k4⟩:=za1 p.P (p.fl i) { p.mach i with stage:=4,inn:=false }
  exact B_keep h hi rfl rfl rfl rfl k1 k3
 case sched t hp q hq m' hm=>exact B_keep h hi rfl rfl rfl rfl (by rcases hm with rfl | rfl <;> rfl) (by rcases hm with rfl | rfl <;> rfl)
 case spinUp c hp=>exact B_keep h hi rfl rfl rfl rfl rfl rfl
 case spinBack c hp=>exact B_keep h hi rfl rfl rfl rfl rfl rfl
 case drop c hp=>exact B_keep h hi rfl rfl rfl rfl rfl rfl
 case unspin c hp=>exact B_keep h hi rfl rfl rfl rfl rfl rfl
 case dispatch g c hp hg hg2 hs=>exact B_keep h hi rfl rfl rfl rfl rfl rfl
 case load c hp=>exact B_keep h hi rfl rfl rfl rfl rfl rfl
 case claim c hp hz=>exact B_keep h hi rfl rfl rfl rfl rfl rfl
 case claimNo c hp hz=>exact B_keep h hi rfl rfl rfl rfl rfl rfl
 case wake k c hp hk hk2 hz=>exact B_keep h hi rfl rfl rfl rfl rfl rfl
 case mark g c hp hg hg2 hs=>exact B_keep h hi rfl rfl rfl rfl rfl rfl
 case asleep c hp hz=>exact B_same h rfl rfl rfl rfl
 case awake c hp hz hx=>exact B_keep h hi rfl rfl rfl rfl rfl rfl
 case awakeP c hp hz hx =>
  have s:=sh16 L.sh hp
  refine B_of h hi rfl rfl (fun r hr=>?_) hb hrp
  show b2n (p.idle.p.testBit r=true)+p.idle.pending.count (r:Int)+(b2n ((p.mach i).next=r)+b2n ((-1:Int)=r))=b2n (p.idle.p.testBit r=true)+p.idle.pending.count (r:Int)+(b2n ((p.mach i).p=r)+b2n ((p.mach i).next=r))
  rw [s.2.1];omega
 case idle=>exact h.B
 case refused c hp=>exact B_same h rfl rfl rfl rfl
 case yield g c hp hg hg2 hs=>exact B_keep h hi rfl rfl rfl rfl rfl rfl
 case leave g to k c hp hk hg hg2 hs=>exact B_keep h hi rfl rfl rfl rfl rfl rfl
 case rouse g fr k c hp hk hg2 hs=>exact B_keep h hi rfl rfl rfl rfl rfl rfl
 case toPark d hp hd=>exact B_keep h hi rfl rfl rfl rfl rfl rfl
 case toAwait x hp hx=>exact B_keep h hi rfl rfl rfl rfl rfl rfl
end
section
variable {n:Nat} {p p':Wd} {i:Nat}
theorem zba {q:Wd} {m':Mach} (hall:q.all=p.all.set i m') (hla:i<p.all.length) (j:Nat):q.mach j=if j=i then m' else p.mach j:=by
 unfold Wd.mach;rw [hall];exact zad p.all i j m' Mach.fresh hla
theorem zc9 {q:Wd} {m' x:Mach} {k:Nat} (hall:q.all=(p.all.set k x).set i m') (hla:i<p.all.length) (hkl:k<p.all.length) (j:Nat):q.mach j=if j=i then m' else if j=k then x else p.mach j:=by
 unfold Wd.mach;rw [hall,zad _ _ _ _ _ (by simpa using hla),zad _ _ _ _ _ hkl]
theorem C_keep {q:Wd} {m':Mach} (h:Inv n p) (hi:i<p.M) (hP:q.P=p.P) (hM:q.M=p.M) (hall:q.all=p.all.set i m') (hw:∀ a,a<2*(p.P+2)→q.ld a=p.ld a)
  (h1:m'.inn=(p.mach i).inn) (h2:m'.inn=true→m'.lkN=(p.mach i).lkN∧m'.ticket=(p.mach i).ticket∧(1≤m'.stage ↔ 1≤(p.mach i).stage)∧(2≤m'.stage→2≤(p.mach i).stage)):PartC (n+1) q:=by
 have hla:=h.la hi
 have ws:∀ k,k≤p.P+1→q.serve k=p.serve k:=fun k hk=>hw _ (by omega)
 have wn:∀ k,k≤p.P+1→q.nextT k=p.nextT k:=fun k hk=>hw _ (by omega)
 have ht:∀ k t,zed k t m'=zed k t (p.mach i):=fun k t=>by
  unfold zed
  refine zal ?_
  constructor
  ·rintro ⟨a,b,c,d⟩
   obtain ⟨e1,e2,e3,_⟩:=h2 a
   exact ⟨by rw [← h1];exact a,by rw [← e1];exact b,e3.1 c,by rw [← e2];exact d⟩
  ·rintro ⟨a,b,c,d⟩
   obtain ⟨e1,e2,e3,_⟩:=h2 (by rw [h1];exact a)
   exact ⟨by rw [h1];exact a,by rw [e1];exact b,e3.2 c,by rw [e2];exact d⟩
 refine ⟨fun k hk=>?_,fun k t hk=>?_,fun j k hj hn hs hk hl=>?_⟩
 ·rw [hP] at hk;rw [ws k hk,wn k hk];have:=h.C.le k hk;omega
 ·rw [hP] at hk
  have h3:sumL (zed k t) (p.all.set i m')+zed k t (p.mach i)=sumL (zed k t) p.all+zed k t m':=zap (zed k t) p.all i m' Mach.fresh hla
  rw [ws k hk,wn k hk,hall,← h.C.one k t hk]
  have:=ht k t
  omega
 ·rw [hP] at hk
  rw [hM] at hj
  rw [ws k hk]
  rw [zba hall hla] at hn hs hl ⊢
  by_cases e:j=i
  ·subst e
   rw [if_pos rfl] at hn hs hl ⊢
   obtain ⟨e1,e2,_,e4⟩:=h2 hn
   rw [e2]
   exact h.C.holds j k hj (by rw [← h1];exact hn) (e4 hs) hk (by rw [← e1];exact hl)
  ·rw [if_neg e] at hn hs hl ⊢
   exact h.C.holds j k hj hn hs hk hl
theorem C_same {q:Wd} (h:Inv n p) (hP:q.P=p.P) (hM:q.M=p.M) (hall:q.all=p.all) (hw:q.ws=p.ws):PartC (n+1) q:=by
 have ws:∀ k,q.serve k=p.serve k:=fun k=>by unfold Wd.serve Wd.ld;rw [hw]
 have wn:∀ k,q.nextT k=p.nextT k:=fun k=>by unfold Wd.nextT Wd.ld;rw [hw]
 have hm:∀ j,q.mach j=p.mach j:=fun j=>by unfold Wd.mach;rw [hall]
 refine ⟨fun k hk=>?_,fun k t hk=>?_,fun j k hj hn hs hk hl=>?_⟩
 ·rw [ws,wn];have:=h.C.le k (by omega);omega
 ·rw [ws,wn,hall];exact h.C.one k t (by omega)
 ·rw [hm] at hn hs hl ⊢;rw [ws];exact h.C.holds j k (by omega) hn hs (by omega) hl
theorem zaN (p:Wd) (a x b:Nat) (ha:a<p.ws.length) (h:2*(p.P+2)≤a) (hb:b<2*(p.P+2)):(p.ws.set a x).getD b 0=p.ld b:=by
 rw [zad _ _ _ _ _ ha,if_neg (by omega)];rfl
theorem C_tr (h:Inv n p) (hn64:n<2^62) (hi:i<p.M) (t:Tr p i p'):PartC (n+1) p':=by
 have hla:=h.la hi
 have hP:=h.sh.dP
 have hlw:=h.sh.lw
 have L:=h.L.loc i hi
 cases t
 case take k c hn hk =>
  have hkP:=zcb _ _ hk hP.1
  have hle:=h.C.le k hkP
  have hser:∀ j,j≤p.P+1→(p.ws.set (2*k) ((p.nextT k+1) % 2^64)).getD (2*j+1) 0=p.serve j:=fun j hj=>by
   rw [zad _ _ _ _ _ (by omega),if_neg (by omega)];rfl
  have hnx:∀ j,j≤p.P+1→(p.ws.set (2*k) ((p.nextT k+1) % 2^64)).getD (2*j) 0=if j=k then p.nextT k+1 else p.nextT j:=fun j hj=>by
   rw [zad _ _ _ _ _ (by omega)]
   by_cases e:j=k
   ·rw [if_pos (by omega),if_pos e,Nat.mod_eq_of_lt (by omega)]
   ·rw [if_neg (by omega),if_neg e];rfl
  refine ⟨fun j hj=>?_,fun j t hj=>?_,fun j k' hj hn' hs' hk' hl=>?_⟩
  ·show (p.ws.set (2*k) _).getD (2*j+1) 0≤(p.ws.set (2*k) _).getD (2*j) 0∧(p.ws.set (2*k) _).getD (2*j) 0≤n+1
   have:=h.C.le j hj
   rw [hser j hj,hnx j hj]
   split
   ·rename_i e;subst e;omega
   ·omega
  ·have h3:=zap (zed j t) p.all i { p.mach i with inn:=true,lkN:=2*(k:Int),lkS:=2*(k:Int)+1,stage:=1,ticket:=p.nextT k,times:=0 } Mach.fresh hla
   have h4:zed j t (p.mach i)=0:=by unfold zed;exact zae (by simp [hn])
   have h5:=h.C.one j t hj
   have h6:p.all.getD i Mach.fresh=p.mach i:=rfl
   rw [h6,h4] at h3
   show sumL (zed j t) (p.all.set i _)=b2n ((p.ws.set (2*k) _).getD (2*j+1) 0≤t∧t<(p.ws.set (2*k) _).getD (2*j) 0)
   rw [hser j hj,hnx j hj,← Nat.add_zero (sumL (zed j t) (p.all.set i _)),h3,h5]
   have h7:zed j t { p.mach i with inn:=true,lkN:=2*(k:Int),lkS:=2*(k:Int)+1,stage:=1,ticket:=p.nextT k,times:=0 }=b2n (j=k∧p.nextT k=t):=by
    unfold zed;refine zal ?_;simp;omega
   rw [h7]
   by_cases e:j=k
   ·subst e
    rw [if_pos rfl]
    unfold b2n
    (repeat' split) <;> omega
   ·rw [if_neg e,zae (P:=j=k∧p.nextT k=t) (fun hh=>e hh.1),Nat.add_zero]
  ·rw [zba (p:=p) rfl hla] at hn' hs' hl ⊢
   show _=(p.ws.set (2*k) _).getD (2*k'+1) 0
   rw [hser k' hk']
   by_cases e:j=i
   ·rw [if_pos e] at hs';exact absurd hs' (by show ¬ 2≤1;omega)
   ·rw [if_neg e] at hn' hs' hl ⊢
    exact h.C.holds j k' hj hn' hs' hk' hl
 case miss c k hn hs hk ht=>exact C_same h rfl rfl rfl rfl
 case hit k c hn hs hk ht =>
  refine ⟨fun j hj=>?_,fun j t hj=>?_,fun j k' hj hn' hs' hk' hl=>?_⟩
  ·have:=h.C.le j hj;exact ⟨this.1,Nat.le_succ_of_le this.2⟩
  ·have h3:=zap (zed j t) p.all i { p.mach i with stage:=2 } Mach.fresh hla
   have h4:zed j t { p.mach i with stage:=2 }=zed j t (p.mach i):=by unfold zed;refine zal ?_;simp [hs]
   have h5:=h.C.one j t hj
   have h6:p.all.getD i Mach.fresh=p.mach i:=rfl
   rw [h6] at h3
   show sumL (zed j t) (p.all.set i { p.mach i with stage:=2 })=b2n (p.serve j≤t∧t<p.nextT j)
   omega
  ·rw [zba (p:=p) rfl hla] at hn' hs' hl ⊢
   show _=p.serve k'
   by_cases e:j=i
   ·subst e
    rw [if_pos rfl] at hl ⊢
    obtain ⟨_,k2,e1,e2,e3⟩:=h.L.sec j hi hn
    obtain rfl:k2=k:=Option.some.inj (e1.symm.trans hk)
    have hl':(p.mach j).lkN=2*(k':Int):=hl
    obtain rfl:k2=k':=by omega
    exact ht.symm
   ·rw [if_neg e] at hn' hs' hl ⊢
    exact h.C.holds j k' hj hn' hs' hk' hl
 case foundR q r' g t h0 hp hq hc hl=>exact C_keep h hi rfl rfl rfl (fun _ _=>rfl) rfl (fun _=>⟨rfl,rfl,by simp [h0.2.1],by simp [h0.2.1]⟩)
 case foundG g t glob' h0 hp hg=>exact C_keep h hi rfl rfl rfl (fun _ _=>rfl) rfl (fun _=>⟨rfl,rfl,by simp [h0.2.1],by simp [h0.2.1]⟩)
 case told b h0 ht=>exact C_keep h hi rfl rfl rfl (fun _ _=>rfl) rfl (fun _=>⟨rfl,rfl,by simp [h0.2.1],by simp [h0.2.1]⟩)
 case release q h0 hp hg hq=>exact C_keep h hi rfl rfl rfl (fun _ _=>rfl) rfl (fun _=>⟨rfl,rfl,by simp [h0.2.1],by simp [h0.2.1]⟩)
 case retake q h0 hp hq hq2=>exact C_keep h hi rfl rfl rfl (fun _ _=>rfl) rfl (fun _=>⟨rfl,rfl,by simp [h0.2.1],by simp [h0.2.1]⟩)
 case pending q t h0 hp hq=>exact C_keep h hi rfl rfl rfl (fun _ _=>rfl) rfl (fun _=>⟨rfl,rfl,by simp [h0.2.1],by simp [h0.2.1]⟩)
 case stopP h0 hp hq ho=>exact C_keep h hi rfl rfl rfl (fun _ _=>rfl) rfl (fun _=>⟨rfl,rfl,by simp [h0.2.1],by simp [h0.2.1]⟩)
 case stopM h0 hp hq ho=>exact C_keep h hi rfl rfl rfl (fun _ _=>rfl) rfl (fun _=>⟨rfl,rfl,by simp [h0.2.1],by simp [h0.2.1]⟩)
 case unpoll h0 hp ho=>exact C_keep h hi rfl rfl rfl (fun _ _=>rfl) rfl (fun _=>⟨rfl,rfl,by simp [h0.2.1],by simp [h0.2.1]⟩)
 case putOver h0 hp=>exact C_keep h hi rfl rfl rfl (fun _ _=>rfl) rfl (fun _=>⟨rfl,rfl,by simp [h0.2.1],by simp [h0.2.1]⟩)
 case putOne h0 hp=>exact C_keep h hi rfl rfl rfl (fun _ _=>rfl) rfl (fun _=>⟨rfl,rfl,by simp [h0.2.1],by simp [h0.2.1]⟩)
 case putRest q r' t h0 hp hq he=>exact C_keep h hi rfl rfl rfl (fun _ _=>rfl) rfl (fun _=>⟨rfl,rfl,by simp [h0.2.1],by simp [h0.2.1]⟩)
 case putNext q r' t h0 hp hq he=>exact C_keep h hi rfl rfl rfl (fun _ _=>rfl) rfl (fun _=>⟨rfl,rfl,by simp [h0.2.1],by simp [h0.2.1]⟩)
 case deliv s g h0 hp he=>exact C_keep h hi rfl rfl rfl (fun _ _=>rfl) rfl (fun _=>⟨rfl,rfl,by simp [h0.2.1],by simp [h0.2.1]⟩)
 case findNo h0 hp hz=>exact C_keep h hi rfl rfl rfl (fun _ _=>rfl) rfl (fun _=>⟨rfl,rfl,by simp [h0.2.1],by simp [h0.2.1]⟩)
 case findBack c h1 hp=>exact C_keep h hi rfl rfl rfl (fun _ hb=>zaN p (p.spinW) _ _ (by unfold Wd.spinW;omega) (by unfold Wd.spinW;omega) hb) rfl (fun _=>⟨rfl,rfl,by simp [h1.2.1],by simp [h1.2.1]⟩)
 case findM q k h0 hp hq hq2 m' o' hm =>
  obtain ⟨hkM,hik,hr⟩:=zbv h hi hp hm
  have hkl:k<p.all.length:=by rw [h.sh.la];exact hkM
  have e4:p.all.getD k Mach.fresh=p.mach k:=rfl
  refine ⟨fun j hj=>?_,fun j t hj=>?_,fun j k' hj hn' hs' hk' hl'=>?_⟩
  ·have:=h.C.le j hj;exact ⟨this.1,Nat.le_succ_of_le this.2⟩
  ·have h1:=zap (zed j t) p.all k { p.mach k with next:=(q:Int) } Mach.fresh hkl
   have h2:=zap (zed j t) (p.all.set k { p.mach k with next:=(q:Int) }) i { p.mach i with target:=k,times:=1,stage:=3 } Mach.fresh (by simpa using hla)
   rw [zbI p i k _ hik] at h2
   rw [e4] at h1
   have h3:zed j t { p.mach k with next:=(q:Int) }=zed j t (p.mach k):=rfl
   have h4:zed j t { p.mach i with target:=k,times:=1,stage:=3 }=zed j t (p.mach i):=by unfold zed;refine zal ?_;simp [h0.2.1]
   have h5:=h.C.one j t hj
   show sumL (zed j t) ((p.all.set k { p.mach k with next:=(q:Int) }).set i _)=b2n (p.serve j≤t∧t<p.nextT j)
   omega
  ·rw [zc9 (p:=p) rfl hla hkl] at hn' hs' hl' ⊢
   show _=p.serve k'
   by_cases e:j=i
   ·subst e
    rw [if_pos rfl] at hl' ⊢
    exact h.C.holds j k' hj h0.1 (by rw [h0.2.1];omega) hk' hl'
   ·rw [if_neg e] at hn' hs' hl' ⊢
    by_cases e2:j=k
    ·subst e2
     rw [if_pos rfl] at hn' hs' hl' ⊢
     exact h.C.holds j k' hj hn' hs' hk' hl'
    ·rw [if_neg e2] at hn' hs' hl' ⊢
     exact h.C.holds j k' hj hn' hs' hk' hl'
 case findP q h0 hp hq hq2 hm ho=>exact C_keep h hi rfl rfl rfl (fun _ _=>rfl) rfl (fun _=>⟨rfl,rfl,by simp [h0.2.1],by simp [h0.2.1]⟩)
 case park h0 hp=>exact C_keep h hi rfl rfl rfl (fun _ _=>rfl) rfl (fun _=>⟨rfl,rfl,by simp [h0.2.1],by simp [h0.2.1]⟩)
 case await s h0 hp he=>exact C_keep h hi rfl rfl rfl (fun _ _=>rfl) rfl (fun _=>⟨rfl,rfl,by simp [h0.2.1],by simp [h0.2.1]⟩)
 case awaitNo h0 hp=>exact C_keep h hi rfl rfl rfl (fun _ _=>rfl) rfl (fun _=>⟨rfl,rfl,by simp [h0.2.1],by simp [h0.2.1]⟩)
 case outOf g to k v c h1 hp hg hg2 hs hv=>exact C_keep h hi rfl rfl rfl (fun _ hb=>zaN p (p.statW g) _ _ (by unfold Wd.statW;omega) (by unfold Wd.statW;omega) hb) rfl (fun _=>⟨rfl,rfl,by simp [h1.2.1],by simp [h1.2.1]⟩)
 case free k c hn hs hk hl hk2 ht =>
  have hle:=h.C.le k hk2
  obtain ⟨_,_,_,_,_,_,e7,_⟩:=za1 p.P (p.fl i) { p.mach i with stage:=4,inn:=false }
  have h8:=zaK (zed k (p.serve k)) p.all i Mach.fresh hla
  have h9:zed k (p.serve k) (p.all.getD i Mach.fresh)=1:=zai ⟨hn,hl,by show 1≤(p.mach i).stage;omega,ht⟩
  have h10:=h.C.one k (p.serve k) hk2
  have hlt:p.serve k<p.nextT k:=by
   by_cases hx:p.serve k<p.nextT k
   ·exact hx
   ·rw [zae (by omega)] at h10;omega
  have hnx:∀ j,j≤p.P+1→(p.ws.set (2*k+1) ((p.serve k+1) % 2^64)).getD (2*j) 0=p.nextT j:=fun j hj=>by
   rw [zad _ _ _ _ _ (by omega),if_neg (by omega)];rfl
  have hser:∀ j,j≤p.P+1→(p.ws.set (2*k+1) ((p.serve k+1) % 2^64)).getD (2*j+1) 0=if j=k then p.serve k+1 else p.serve j:=fun j hj=>by
   rw [zad _ _ _ _ _ (by omega)]
   by_cases e:j=k
   ·rw [if_pos (by omega),if_pos e,Nat.mod_eq_of_lt (by omega)]
   ·rw [if_neg (by omega),if_neg e];rfl
  refine ⟨fun j hj=>?_,fun j t hj=>?_,fun j k' hj hn' hs' hk' hl'=>?_⟩
  ·show (p.ws.set (2*k+1) _).getD (2*j+1) 0≤(p.ws.set (2*k+1) _).getD (2*j) 0∧(p.ws.set (2*k+1) _).getD (2*j) 0≤n+1
   have:=h.C.le j hj
   rw [hser j hj,hnx j hj]
   split
   ·rename_i e;subst e;omega
   ·omega
  ·have h3:=zap (zed j t) p.all i (zei p.P (p.fl i) { p.mach i with stage:=4,inn:=false }) Mach.fresh hla
   have h4:zed j t (zei p.P (p.fl i) { p.mach i with stage:=4,inn:=false })=0:=by unfold zed;exact zae (by rw [e7];simp)
   have h5:=h.C.one j t hj
   have h6:p.all.getD i Mach.fresh=p.mach i:=rfl
   rw [h6,h4] at h3
   have h7:zed j t (p.mach i)=b2n (j=k∧p.serve k=t):=by
    unfold zed;refine zal ?_;rw [hn,hl,ht,hs];simp;omega
   rw [h7,h5] at h3
   show sumL (zed j t) (p.all.set i _)=b2n ((p.ws.set (2*k+1) _).getD (2*j+1) 0≤t∧t<(p.ws.set (2*k+1) _).getD (2*j) 0)
   rw [hser j hj,hnx j hj]
   by_cases e:j=k
   ·subst e
    rw [if_pos rfl]
    unfold b2n at h3 ⊢
    revert h3
    (repeat' split) <;> omega
   ·rw [if_neg e]
    rw [zae (fun hh=>e hh.1)] at h3
    omega
  ·rw [zba (p:=p) rfl hla] at hn' hs' hl' ⊢
   show _=(p.ws.set (2*k+1) _).getD (2*k'+1) 0
   rw [hser k' hk']
   by_cases e:j=i
   ·rw [if_pos e] at hn';rw [e7] at hn';cases hn'
   ·rw [if_neg e] at hn' hs' hl' ⊢
    have h11:=h.C.holds j k' hj hn' hs' hk' hl'
    by_cases e2:k'=k
    ·subst e2
     have hlj:j<p.all.length:=h.la hj
     have h12:=zbT (zed k' (p.serve k')) p.all i j Mach.fresh hla hlj (Ne.symm e)
     have h13:zed k' (p.serve k') (p.all.getD j Mach.fresh)=1:=zai ⟨hn',hl',by show 1≤(p.mach j).stage;omega,h11⟩
     have h14:=za3 (p.serve k'≤p.serve k'∧p.serve k'<p.nextT k')
     omega
    ·rw [if_neg e2];exact h11
 case sched t hp q hq m' hm=>rcases hm with rfl | rfl <;> exact C_keep h hi rfl rfl rfl (fun _ _=>rfl) rfl (fun _=>⟨rfl,rfl,Iff.rfl,id⟩)
 case spinUp c hp=>exact C_keep h hi rfl rfl rfl (fun _ hb=>zaN p (p.spinW) _ _ (by unfold Wd.spinW;omega) (by unfold Wd.spinW;omega) hb) rfl (fun _=>⟨rfl,rfl,Iff.rfl,id⟩)
 case spinBack c hp=>exact C_keep h hi rfl rfl rfl (fun _ hb=>zaN p (p.spinW) _ _ (by unfold Wd.spinW;omega) (by unfold Wd.spinW;omega) hb) rfl (fun _=>⟨rfl,rfl,Iff.rfl,id⟩)
 case drop c hp=>exact C_keep h hi rfl rfl rfl (fun _ hb=>zaN p (p.spinW) _ _ (by unfold Wd.spinW;omega) (by unfold Wd.spinW;omega) hb) rfl (fun _=>⟨rfl,rfl,Iff.rfl,id⟩)
 case unspin c hp=>exact C_keep h hi rfl rfl rfl (fun _ hb=>zaN p (p.spinW) _ _ (by unfold Wd.spinW;omega) (by unfold Wd.spinW;omega) hb) rfl (fun _=>⟨rfl,rfl,Iff.rfl,id⟩)
 case dispatch g c hp hg hg2 hs=>exact C_keep h hi rfl rfl rfl (fun _ hb=>zaN p (p.statW g) _ _ (by unfold Wd.statW;omega) (by unfold Wd.statW;omega) hb) rfl (fun _=>⟨rfl,rfl,Iff.rfl,id⟩)
 case load c hp=>exact C_keep h hi rfl rfl rfl (fun _ _=>rfl) rfl (fun _=>⟨rfl,rfl,Iff.rfl,id⟩)
 case claim c hp hz=>exact C_keep h hi rfl rfl rfl (fun _ hb=>zaN p (p.spinW) _ _ (by unfold Wd.spinW;omega) (by unfold Wd.spinW;omega) hb) rfl (fun _=>⟨rfl,rfl,Iff.rfl,id⟩)
 case claimNo c hp hz=>exact C_keep h hi rfl rfl rfl (fun _ _=>rfl) rfl (fun _=>⟨rfl,rfl,Iff.rfl,id⟩)
 case wake k c hp hk hk2 hz=>exact C_keep h hi rfl rfl rfl (fun _ hb=>zaN p (p.noteW k) _ _ (by unfold Wd.noteW;omega) (by unfold Wd.noteW;omega) hb) rfl (fun _=>⟨rfl,rfl,Iff.rfl,id⟩)
 case mark g c hp hg hg2 hs=>exact C_keep h hi rfl rfl rfl (fun _ hb=>zaN p (p.statW g) _ _ (by unfold Wd.statW;omega) (by unfold Wd.statW;omega) hb) rfl (fun _=>⟨rfl,rfl,Iff.rfl,id⟩)
 case asleep c hp hz=>exact C_same h rfl rfl rfl rfl
 case awake c hp hz hx=>exact C_keep h hi rfl rfl rfl (fun _ hb=>zaN p (p.noteW i) _ _ (by unfold Wd.noteW;omega) (by unfold Wd.noteW;omega) hb) rfl (fun _=>⟨rfl,rfl,Iff.rfl,id⟩)
 case awakeP c hp hz hx=>exact C_keep h hi rfl rfl rfl (fun _ hb=>zaN p (p.noteW i) _ _ (by unfold Wd.noteW;omega) (by unfold Wd.noteW;omega) hb) rfl (fun _=>⟨rfl,rfl,Iff.rfl,id⟩)
 case idle=>exact C_same h rfl rfl rfl rfl
 case refused c hp=>exact C_same h rfl rfl rfl rfl
 case yield g c hp hg hg2 hs=>exact C_keep h hi rfl rfl rfl (fun _ hb=>zaN p (p.statW g) _ _ (by unfold Wd.statW;omega) (by unfold Wd.statW;omega) hb) rfl (fun _=>⟨rfl,rfl,Iff.rfl,id⟩)
 case leave g to k c hp hk hg hg2 hs=>exact C_keep h hi rfl rfl rfl (fun _ hb=>zaN p (p.statW g) _ _ (by unfold Wd.statW;omega) (by unfold Wd.statW;omega) hb) rfl (fun _=>⟨rfl,rfl,Iff.rfl,id⟩)
 case rouse g fr k c hp hk hg2 hs=>exact C_keep h hi rfl rfl rfl (fun _ hb=>zaN p (p.statW g) _ _ (by unfold Wd.statW;omega) (by unfold Wd.statW;omega) hb) rfl (fun _=>⟨rfl,rfl,Iff.rfl,id⟩)
 case toPark d hp hd=>exact C_keep h hi rfl rfl rfl (fun _ _=>rfl) rfl (fun _=>⟨rfl,rfl,Iff.rfl,id⟩)
 case toAwait x hp hx=>exact C_keep h hi rfl rfl rfl (fun _ _=>rfl) rfl (fun _=>⟨rfl,rfl,Iff.rfl,id⟩)
end
end Hst
