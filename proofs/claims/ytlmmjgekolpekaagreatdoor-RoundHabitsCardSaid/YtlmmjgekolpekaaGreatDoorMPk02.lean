/-
  Plain: sums over machines; what a store of one part leaves of the others.
  Plain: what holds of a world behind any steps.
  Plain: the invariant of a world behind any steps; what one step may be.
  Plain: all that one step of a machine may be.
  Plain: rings, masks, what is taken and put.
-/
import Derived.Test.YtlmmjgekolpekaaGreatDoorMPk01
set_option linter.unusedVariables false
set_option linter.unusedSimpArgs false
set_option linter.unusedSectionVars false
set_option maxRecDepth 100000
set_option maxHeartbeats 6400000
namespace Hst
def b2n (P:Prop) [Decidable P]:Nat:=if P then 1 else 0
theorem zai {P:Prop} [Decidable P] (h:P):b2n P=1:=if_pos h
theorem zae {P:Prop} [Decidable P] (h:¬ P):b2n P=0:=if_neg h
theorem za3 (P:Prop) [Decidable P]:b2n P≤1:=by unfold b2n;split <;> omega
theorem zca {P:Prop} [Decidable P]:b2n P=1 ↔ P:=by unfold b2n;split <;> simp_all
theorem zal {P Q:Prop} [Decidable P] [Decidable Q] (h:P ↔ Q):b2n P=b2n Q:=by unfold b2n;simp only [h]
def sumL {α:Type} (f:α→Nat):List α→Nat
 | []=>0
 | m :: t=>f m+sumL f t
section
variable {α:Type} (f:α→Nat)
theorem zap (l:List α) (i:Nat) (m d:α) (hi:i<l.length):sumL f (l.set i m)+f (l.getD i d)=sumL f l+f m:=by
 induction l generalizing i with
 | nil=>simp at hi
 | cons a t ih =>
  cases i with
  | zero=>simp [sumL];omega
  | succ k =>
   have:=ih k (by simpa using hi)
   simp only [List.set_cons_succ,sumL,List.getD_cons_succ]
   omega
theorem zaK (l:List α) (i:Nat) (d:α) (hi:i<l.length):f (l.getD i d)≤sumL f l:=by
 have:=zap f l i d d hi
 induction l generalizing i with
 | nil=>simp at hi
 | cons a t ih =>
  cases i with
  | zero=>simp [sumL]
  | succ k =>
   have:=ih k (by simpa using hi) (zap f t k d d (by simpa using hi))
   simp only [sumL,List.getD_cons_succ];omega
theorem zbT (l:List α) (i j:Nat) (d:α) (hi:i<l.length) (hj:j<l.length) (h:i≠j):f (l.getD i d)+f (l.getD j d)≤sumL f l:=by
 induction l generalizing i j with
 | nil=>simp at hi
 | cons a t ih =>
  cases i with
  | zero =>
   cases j with
   | zero=>exact absurd rfl h
   | succ k =>
    have:=zaK f t k d (by simpa using hj)
    simp only [sumL,List.getD_cons_succ,List.getD_cons_zero];omega
  | succ i =>
   cases j with
   | zero =>
    have:=zaK f t i d (by simpa using hi)
    simp only [sumL,List.getD_cons_succ,List.getD_cons_zero];omega
   | succ k =>
    have:=ih i k (by simpa using hi) (by simpa using hj) (by omega)
    simp only [sumL,List.getD_cons_succ];omega
theorem sumL_has (l:List α) (d:α) (h:0<sumL f l):∃ i,i<l.length∧0<f (l.getD i d):=by
 induction l with
 | nil=>simp [sumL] at h
 | cons a t ih =>
  by_cases ha:0<f a
  ·exact ⟨0,by simp,by simpa using ha⟩
  ·have ht:0<sumL f t:=by simp only [sumL] at h;omega
   obtain ⟨i,hi,hf⟩:=ih ht
   exact ⟨i+1,by simpa using hi,by simpa using hf⟩
theorem zdz (l:List α) (d:α) (h:∀ i,i<l.length→f (l.getD i d)=0):sumL f l=0:=by
 rcases Nat.eq_zero_or_pos (sumL f l) with e | e
 ·exact e
 ·obtain ⟨i,hi,hf⟩:=sumL_has f l d e
  have:=h i hi;omega
end
theorem zad {α:Type} (l:List α) (i j:Nat) (v d:α) (hi:i<l.length):(l.set i v).getD j d=if j=i then v else l.getD j d:=by
 by_cases e:j=i
 ·subst e;simp [List.getD_eq_getElem?_getD,hi]
 ·rw [if_neg e];simp [List.getD_eq_getElem?_getD,List.getElem?_set_ne (Ne.symm e)]
section
variable (p:Wd)
end
theorem zbc (l:List Int) (n:Nat) (g:Int):(l.take n).count g+(l.drop n).count g=l.count g:=by
 rw [← List.count_append,List.take_append_drop]
theorem zaq (l:List Int) (n:Nat) (h:∀ x,x∈l→0≤x∧x<n) (hc:∀ x,l.count x≤1):l.length≤n:=by
 induction n generalizing l with
 | zero =>
  cases l with
  | nil=>simp
  | cons a t=>have:=h a (by simp);omega
 | succ n ih =>
  have hk:(l.filter (fun x=>!(x==(n:Int)))).length≤n:=by
   refine ih _ (fun x hx=>?_) (fun x=>Nat.le_trans (List.Sublist.count_le _ List.filter_sublist) (hc x))
   simp only [List.mem_filter,Bool.not_eq_true',beq_eq_false_iff_ne] at hx
   have:=h x hx.1;omega
  have hs:l.length=(l.filter (fun x=>!(x==(n:Int)))).length+l.count (n:Int):=by
   clear h hc hk ih
   induction l with
   | nil=>rfl
   | cons a t ih =>
    simp only [List.filter_cons,List.count_cons,List.length_cons]
    by_cases e:a=(n:Int)
    ·subst e;simp at ih ⊢;omega
    ·have e1:(a==(n:Int))=false:=by simpa using e
     simp only [e1,Bool.not_false,if_true,List.length_cons]
     simp;omega
  have:=hc n;omega
abbrev Mach.s3 (m:Mach):Prop:=m.inn=true∧m.stage=3
abbrev Mach.s21 (m:Mach):Prop:=m.inn=true∧m.stage=2∧m.times=1
abbrev aft (m:Mach):Prop:=(m.after=2∧0≤m.p)∨(m.after=1∧0≤m.p)∨(m.after=13∧m.p = -1)
abbrev backs (m:Mach):Prop :=
 (m.back=20∧0≤m.p∧m.g = -1∧0≤m.got)∨(m.back=0∧0≤m.p∧0≤m.g∧m.got = -1)∨(m.back=1∧0≤m.p∧m.g = -1∧m.got = -1)∨(m.back=25∧m.g = -1∧m.got = -1∧aft m)
abbrev zer (m:Mach):Prop:=m.got = -1∧m.rest=[]∧m.target = -1
def shape (P:Nat) (f:Bool) (m:Mach):Prop :=
 match m.place with
 | 0=>m.inn=false∧0≤m.p∧0≤m.g∧zer m∧m.spin=false
 | 1=>m.inn=false∧0≤m.p∧m.g = -1∧zer m∧m.spin=false
 | 2=>0≤m.p∧m.g = -1∧m.spin=false∧m.target = -1∧m.rest=[]∧(if m.s3∧f=true then 0≤m.got else m.got = -1)
 | 3=>0≤m.p∧m.g = -1∧m.spin=false∧m.target = -1∧m.rest=[]∧(if m.s3∧f=true then 0≤m.got else m.got = -1)
 | 4=>0≤m.p∧m.g = -1∧m.target = -1∧(if m.s3∧f=true then 0≤m.got else m.got = -1∧m.rest=[])
 | 5=>m.inn=false∧0≤m.p∧m.g = -1∧zer m∧m.spin=false
 | 6=>0≤m.p∧m.g = -1∧m.spin=true∧m.target = -1∧1≤m.i∧m.i<P∧(if m.s3∧f=true then 0≤m.got else m.got = -1∧m.rest=[])
 | 7=>m.g = -1∧m.spin=true∧m.target = -1∧(if m.s3∧f=true then 0≤m.got else m.got = -1∧m.rest=[])∧(if m.s3∧f=false then m.p = -1 else 0≤m.p)
 | 8=>m.inn=false∧m.p = -1∧m.g = -1∧zer m∧m.spin=true
 | 9=>m.p = -1∧m.g = -1∧zer m∧m.spin=false∧0≤m.i∧m.i<P
 | 10=>m.p = -1∧m.g = -1∧zer m∧m.spin=false
 | 11=>m.g = -1∧zer m∧m.spin=false∧(if m.s3∧f=true then 0≤m.p else m.p = -1)
 | 12=>m.inn=false∧0≤m.p∧m.g = -1∧zer m∧m.spin=false
 | 13=>m.g = -1∧zer m∧(if m.s3∧m.spin=true then 0≤m.p∧f=true else m.p = -1∧m.spin=false)
 | 14=>m.p = -1∧m.g = -1∧zer m∧m.spin=false
 | 15=>m.p = -1∧m.g = -1∧zer m∧m.spin=false∧(m.s3∧f=true→m.next = -1)
 | 16=>m.inn=false∧m.p = -1∧m.g = -1∧zer m∧m.spin=false
 | 17=>0≤m.p∧m.g = -1∧0≤m.got∧m.back=20∧m.target = -1
 | 18=>0≤m.p∧m.target = -1∧((m.back=20∧0≤m.got∧m.g = -1)∨(m.back=0∧m.got = -1∧0≤m.g∧m.spin=false))
 | 19=>m.inn=false∧0≤m.p∧m.g = -1∧0≤m.got∧m.back=20∧m.spin=true∧m.rest=[]∧m.target = -1
 | 20=>m.inn=false∧0≤m.p∧m.g = -1∧0≤m.got∧m.rest=[]∧m.spin=false∧m.target = -1
 | 21=>m.inn=false∧backs m∧m.spin=false∧m.rest=[]∧m.target = -1
 | 22=>m.inn=false∧backs m∧m.spin=false∧m.rest=[]∧m.target = -1
 | 23=>backs m∧m.spin=false∧m.rest=[]∧(m.s3∨m.target = -1)
 | 24=>m.inn=false∧backs m∧m.spin=false∧m.rest=[]∧0≤m.target
 | 25=>m.g = -1∧m.spin=false∧m.rest=[]∧m.target = -1∧aft m∧(if m.s3∧f=true then 0≤m.got else m.got = -1)
 | 26=>m.inn=false∧m.g = -1∧m.spin=false∧m.rest=[]∧m.target = -1∧aft m∧0≤m.got
 | 27=>m.g = -1∧m.spin=false∧m.rest=[]∧m.target = -1∧((m.back=1∧0≤m.p)∨(m.back=25∧aft m))∧(if m.s3 then m.got = -1 else 0≤m.got)
 | 28=>0≤m.p∧0≤m.g∧m.spin=false∧m.target = -1∧(if m.s3 then m.got = -1 else 0≤m.got∧m.rest=[])
 | 29=>0≤m.p∧zer m∧m.spin=false∧(m.s3∨0≤m.g)
 | 30=>0≤m.p∧zer m∧m.spin=false∧(m.s3∨0≤m.g)∧0≤m.arg∧m.arg<65536
 | _=>False
instance (P:Nat) (f:Bool) (m:Mach):Decidable (shape P f m):=by
 unfold shape;split <;> infer_instance
abbrev zec (m:Mach):Prop:=m.place=14∨m.place=15∨m.place=16∨(m.place=13∧m.s3∧m.spin=false)
structure Loc (P M G:Nat) (f:Bool) (m:Mach):Prop where
 sh:shape P f m
 rp : -1≤m.p∧m.p<P
 rg : -1≤m.g∧m.g<G
 rn : -1≤m.next∧m.next<P
 rgot : -1≤m.got∧m.got<G
 rt : -1≤m.target∧m.target<M
 rr:∀ x,x∈m.rest→0≤x∧x<G
 nx:0≤m.next→zec m
 ri : -1≤m.i∧m.i≤4096
 ra : -9223372036854775808≤m.arg∧m.arg≤9223372036854775807
def zek (P:Nat) (m:Mach):Option Nat :=
 match m.place with
 | 2 | 4 | 7 | 10 | 11 | 13 | 15 | 18 | 23 | 27=>some 0
 | 14 | 25 | 29 | 30=>some (P+1)
 | 3 | 17 | 28=>if 0≤m.p∧m.p<P then some (m.p.toNat+1) else none
 | 9=>if 0≤m.i∧m.i<P then some (m.i.toNat+1) else none
 | 6=>if 0≤m.i∧0≤m.p∧m.p<P then some (((m.p+m.i % P) % P).toNat+1) else none
 | _=>none
structure Sect (m:Mach):Prop where
 pos:1≤m.stage
 stage:m.stage≤3
 t0:m.stage≤1→m.times=0
 t2:m.stage=2→m.times=0∨(m.times=1∧(m.place=23∨m.place=29∨m.place=30))
 lk:∃ k:Nat,m.lkN=2*(k:Int)∧m.lkS=2*(k:Int)+1
def zem (g:Int) (m:Mach):Nat:=b2n (m.got=g∧m.place≠25∧m.place≠26)+m.rest.count g
def zev (g:Int) (m:Mach):Nat:=b2n (m.g=g)
def zes (g:Int) (m:Mach):Nat:=b2n (m.got=g∧(m.place=25∨m.place=26))
def outS (g:Int) (m:Mach):Nat:=b2n (m.g=g∧(m.place=29∨m.place=30)∧m.s21)
def zee (q:Int) (m:Mach):Nat:=b2n (m.p=q)+b2n (m.next=q)
def aims (i:Int) (m:Mach):Nat:=b2n (m.target=i)
def zet (m:Mach):Nat:=b2n (m.place=23∧¬ m.s3)
def spins (m:Mach):Nat:=b2n (m.spin=true)+b2n (0≤m.next)+zet m
def zed (k t:Nat) (m:Mach):Nat:=b2n (m.inn=true∧m.lkN=2*(k:Int)∧1≤m.stage∧m.ticket=t)
def qcnt (rings:List Ring) (glob:List Int) (g:Int):Nat:=sumL (fun r=>r.all.count g) rings+glob.count g
def scnt (s:Src) (g:Int):Nat:=(s.tm.countP fun e=>e.g==g)+(s.fds.countP fun x=>x.waits && x.g==g)
def Wd.note (p:Wd) (i:Nat):Nat:=p.ld (p.noteW i)
def Wd.sts (p:Wd) (g:Nat):Nat:=p.ld (p.statW g)
def Wd.nextT (p:Wd) (k:Nat):Nat:=p.ld (2*k)
def Wd.serve (p:Wd) (k:Nat):Nat:=p.ld (2*k+1)
def Wd.spinN (p:Wd):Nat:=p.ld p.spinW
abbrev regd (p:Wd) (i:Nat):Prop:=zec (p.mach i)∧(p.mach i).next = -1∧p.note i=0∧¬ ((p.mach i).place=15∧(p.mach i).s3∧p.fl i=true)
structure Shape (p:Wd):Prop where
 dP:1≤p.P∧p.P≤64
 dM:p.P≤p.M∧p.M≤128
 dG:1≤p.G∧p.G≤4096
 lr:p.rings.length=p.P
 lt:p.turns.length=p.P
 la:p.all.length=p.M
 lf:p.flag.length=p.M
 lw:p.ws.length=2*(p.P+2)+1+p.M+p.G
structure PartL (p:Wd):Prop where
 loc:∀ i,i<p.M→Loc p.P p.M p.G (p.fl i) (p.mach i)
 sec:∀ i,i<p.M→(p.mach i).inn=true→Sect (p.mach i)∧∃ k:Nat,zek p.P (p.mach i)=some k∧k≤p.P+1∧(p.mach i).lkN=2*(k:Int)
 find:∀ i,i<p.M→(p.mach i).place=23→(p.mach i).s21→p.idle.p=0
structure PartA (p:Wd):Prop where
 st:∀ g,g<p.G→p.sts g≤6
 R:∀ g:Nat,g<p.G→qcnt p.rings p.glob g+sumL (zem g) p.all=b2n (p.sts g=1)
 X:∀ g:Nat,g<p.G→sumL (zev g) p.all=b2n (p.sts g=2)
 S:∀ g:Nat,g<p.G→scnt p.src g+sumL (zes g) p.all=b2n (p.sts g=4∨p.sts g=5)+sumL (outS g) p.all
 O:∀ g:Nat,g<p.G→sumL (outS g) p.all≤scnt p.src g
 rr:∀ r,r∈p.rings→r.l.length≤256∧∀ x,x∈r.all→0≤x∧x<p.G
 rg:∀ x,x∈p.glob→0≤x∧x<p.G
structure PartB (p:Wd):Prop where
 each:∀ q,q<p.P→b2n (p.idle.p.testBit q=true)+p.idle.pending.count (q:Int)+sumL (zee q) p.all=1
 bits:p.idle.p<2^p.P
 rp:∀ x,x∈p.idle.pending→0≤x∧x<p.P
structure PartC (n:Nat) (p:Wd):Prop where
 le:∀ k,k≤p.P+1→p.serve k≤p.nextT k∧p.nextT k≤n
 one:∀ k t,k≤p.P+1→sumL (zed k t) p.all=b2n (p.serve k≤t∧t<p.nextT k)
 holds:∀ i k,i<p.M→(p.mach i).inn=true→2≤(p.mach i).stage→k≤p.P+1→(p.mach i).lkN=2*(k:Int)→(p.mach i).ticket=p.serve k
structure PartD (p:Wd):Prop where
 reg:∀ i,i<p.M→p.idle.m.count (i:Int)+b2n (p.idle.poller=i)=b2n (regd p i)
 rm:∀ x,x∈p.idle.m→0≤x∧x<p.M
 rpo : -1≤p.idle.poller∧p.idle.poller<p.M
 nt:∀ i,i<p.M→p.note i≤1∧(p.note i=1→zec (p.mach i))
 aim:∀ i:Nat,i<p.M→sumL (aims i) p.all=b2n (0≤(p.mach i).next∧p.note i=0)
 chk:∀ i:Nat,i<p.M→((p.mach i).place=14∨(p.mach i).place=15∨((p.mach i).place=13∧(p.mach i).s3∧p.fl i=true))→p.idle.m.count (i:Int)=0
 n15:∀ i:Nat,i<p.M→(p.mach i).place=15→(p.mach i).s3→p.fl i=true→p.note i=0
 pend:p.idle.pending≠[]→p.idle.m=[]∧p.idle.poller = -1
structure PartE (p:Wd):Prop where
 spin:p.spinN=sumL spins p.all+p.idle.pending.length
structure PartS (n:Nat) (p:Wd):Prop where
 now:0≤p.src.now∧p.src.now≤9223372036854775807
 ord:p.src.order≤n
 tm:∀ e,e∈p.src.tm→e.order<p.src.order∧0≤e.g∧e.g<p.G∧0≤e.whenT∧e.whenT≤9223372036854775807
 ords:∀ o,(p.src.tm.countP fun e=>e.order==o)≤1
 fds:∀ x,x∈p.src.fds→x.fd<65536∧(x.waits=true→0≤x.g∧x.g<p.G)
 fd1:∀ o,(p.src.fds.countP fun x=>x.fd==o)≤1
 few:p.src.fds.length≤1024
structure Inv (n:Nat) (p:Wd):Prop where
 sh:Shape p
 L:PartL p
 A:PartA p
 B:PartB p
 C:PartC n p
 D:PartD p
 E:PartE p
 S:PartS n p
 log:p.log.length≤n+1
def thenS (P:Nat) (is:Bool) (m:Mach):Mach :=
 if is then { m with back:=20,place:=if m.rest≠[] then 17 else if m.spin then 19 else 20 }
 else match m.place with
  | 2=>{ m with place:=3 }
  | 3=>{ m with place:=4 }
  | 7=>{ m with place:=8 }
  | 6=>{ m with i:=m.i+1,place:=if m.i+1 ≥ P then 7 else 6 }
  | _=>if m.spin then { m with i:=1,place:=if (1:Int) ≥ P then 7 else 6 } else { m with place:=5 }
def zeA (m:Mach):Mach:={ m with place:=if m.rest≠[] then 18 else if m.spin then 19 else 21 }
def zei (P:Nat) (is:Bool) (m:Mach):Mach :=
 match m.place with
 | 2=>thenS P is m
 | 3=>thenS P is m
 | 4=>thenS P is m
 | 6=>thenS P is m
 | 7=>thenS P is m
 | 9=>{ m with i:=m.i+1,place:=if is then 11 else if m.i+1<P then 9 else 10 }
 | 10=>{ m with place:=if is then 11 else 13 }
 | 11=>{ m with place:=if is then 12 else 13 }
 | 13=>{ m with place:=if m.spin then 4 else if is then 14 else 16 }
 | 14=>{ m with place:=if is then 15 else 16 }
 | 15=>if is then { m with after:=13,place:=25 } else { m with place:=16 }
 | 17=>zeA m
 | 18=>zeA m
 | 28=>zeA { m with back:=0 }
 | 27=>{ m with place:=21 }
 | 23=>{ m with place:=if m.target ≥ 0 then 24 else m.back }
 | 25=>{ m with place:=if is then 26 else m.after }
 | 29=>if m.g ≥ 0 then { m with place:=0 } else if is then { m with after:=1,place:=25 } else { m with place:=1 }
 | 30=>if m.g ≥ 0 then { m with place:=0 } else if is then { m with after:=1,place:=25 } else { m with place:=1 }
 | _=>m
theorem mach_set (p:Wd) (i j:Nat) (m:Mach) (hi:i<p.all.length):(p.setM i m).mach j=if j=i then m else p.mach j:=zad p.all i j m Mach.fresh hi
theorem thenM_eq (p:Wd) (i:Nat) (hi:i<p.all.length):p.andThen i=p.setM i (zei p.P (p.fl i) (p.mach i)):=by
 have hid:p.setM i (p.mach i)=p:=by
  unfold Wd.setM Wd.mach
  have:p.all.set i (p.all.getD i Mach.fresh)=p.all:=by
   rw [List.getD_eq_getElem?_getD,List.getElem?_eq_getElem hi];simp
  rw [this]
 have hss:∀ m m',(p.setM i m).setM i m'=p.setM i m':=fun m m'=>by simp [Wd.setM]
 have hms:∀ m,(p.setM i m).mach i=m:=fun m=>by rw [mach_set p i i m hi,if_pos rfl]
 unfold Wd.andThen zei
 split <;> simp only [Wd.searched,Wd.take,Wd.steal,Wd.go,Wd.settle,Wd.deliver,zeA,thenS, *,hss,hms]
 all_goals first
  | rfl
  | (symm;exact hid)
  | (split <;> first | rfl | (split <;> rfl))
  | skip
def Told (p:Wd) (i:Nat) (b:Bool):Prop :=
 match (p.mach i).place with
 | 2=>b=false∧p.glob=[]
 | 3=>b=false∧(p.ring (p.mach i).p.toNat).all=[]
 | 4=>b=false∧p.glob=[]
 | 6=>b=false∧(p.ring (((p.mach i).p+(p.mach i).i) % p.P).toNat).all=[]
 | 9=>b=decide (0<(p.ring (p.mach i).i.toNat).len)
 | 10=>b=decide (0<p.glob.length)
 | 11=>b=false∧p.idle.p=0
 | 14=>b=p.src.due
 | 15=>b=false∧p.idle.poller≠i
 | 25=>b=false∧p.src.due=false
 | _=>False
abbrev Mach.at0 (m:Mach):Prop:=m.inn=true∧m.stage=2∧m.times=0
inductive Tr (p:Wd) (i:Nat):Wd→Prop
 | take (k:Nat) (c:Int) (hn:(p.mach i).inn=false) (hk:zek p.P (p.mach i)=some k) :
   Tr p i { p with ws:=p.ws.set (2*k) ((p.nextT k+1) % 2^64),cnt:=c,flag:=p.flag.set i false,all:=p.all.set i { p.mach i with inn:=true,lkN:=2*(k:Int),lkS:=2*(k:Int)+1,stage:=1,ticket:=p.nextT k,times:=0 } }
 | miss (c:Int) (k:Nat) (hn:(p.mach i).inn=true) (hs:(p.mach i).stage=1) (hk:zek p.P (p.mach i)=some k) (ht:p.serve k≠(p.mach i).ticket):Tr p i { p with cnt:=c }
 | hit (k:Nat) (c:Int) (hn:(p.mach i).inn=true) (hs:(p.mach i).stage=1) (hk:zek p.P (p.mach i)=some k) (ht:p.serve k=(p.mach i).ticket) :
   Tr p i { p with cnt:=c,all:=p.all.set i { p.mach i with stage:=2 } }
 | foundR (q:Nat) (r':Ring) (g:Int) (t:List Int) (h0:(p.mach i).at0) (hp:((p.mach i).place=3∧t=[]∧(p.mach i).p=q)∨(p.mach i).place=6) (hq:q<p.P)
   (hc:∀ x,r'.all.count x+(g :: t).count x=(p.ring q).all.count x) (hl:r'.l.length≤256) :
   Tr p i { p with rings:=p.rings.set q r',flag:=p.flag.set i true,all:=p.all.set i { p.mach i with got:=g,rest:=t,times:=1,stage:=3 } }
 | foundG (g:Int) (t glob':List Int) (h0:(p.mach i).at0) (hp:((p.mach i).place=2∧t=[])∨(p.mach i).place=4∨(p.mach i).place=7) (hg:p.glob=(g :: t)++glob') :
   Tr p i { p with glob:=glob',flag:=p.flag.set i true,all:=p.all.set i { p.mach i with got:=g,rest:=t,times:=1,stage:=3 } }
 | told (b:Bool) (h0:(p.mach i).at0) (ht:Told p i b):Tr p i { p with flag:=p.flag.set i b,all:=p.all.set i { p.mach i with times:=1,stage:=3 } }
 | release (q:Nat) (h0:(p.mach i).at0) (hp:(p.mach i).place=7) (hg:p.glob=[]) (hq:(p.mach i).p=q) :
   Tr p i { p with idle:={ p.idle with p:=p.idle.p^^^2^q },flag:=p.flag.set i false,all:=p.all.set i { p.mach i with p:=-1,times:=1,stage:=3 } }
 | retake (q:Nat) (h0:(p.mach i).at0) (hp:(p.mach i).place=11) (hq:p.idle.p.testBit q=true) (hq2:q<p.P) :
   Tr p i { p with idle:={ p.idle with p:=p.idle.p^^^2^q },flag:=p.flag.set i true,all:=p.all.set i { p.mach i with p:=q,times:=1,stage:=3 } }
 | pending (q:Int) (t:List Int) (h0:(p.mach i).at0) (hp:(p.mach i).place=13) (hq:p.idle.pending=q :: t) :
   Tr p i { p with idle:={ p.idle with pending:=t },flag:=p.flag.set i true,all:=p.all.set i { p.mach i with p:=q,spin:=true,times:=1,stage:=3 } }
 | stopP (h0:(p.mach i).at0) (hp:(p.mach i).place=13) (hq:p.idle.pending=[]) (ho:p.idle.poller = -1) :
   Tr p i { p with idle:={ p.idle with poller:=i },flag:=p.flag.set i true,all:=p.all.set i { p.mach i with spin:=false,times:=1,stage:=3 } }
 | stopM (h0:(p.mach i).at0) (hp:(p.mach i).place=13) (hq:p.idle.pending=[]) (ho:p.idle.poller ≠ -1) :
   Tr p i { p with idle:={ p.idle with m:=p.idle.m++[(i:Int)] },flag:=p.flag.set i false,all:=p.all.set i { p.mach i with spin:=false,times:=1,stage:=3 } }
 | unpoll (h0:(p.mach i).at0) (hp:(p.mach i).place=15) (ho:p.idle.poller=i) :
   Tr p i { p with idle:={ p.idle with poller:=-1 },flag:=p.flag.set i true,all:=p.all.set i { p.mach i with times:=1,stage:=3 } }
 | putOver (h0:(p.mach i).at0) (hp:(p.mach i).place=18) :
   Tr p i { p with glob:=p.glob++(p.mach i).rest,all:=p.all.set i { p.mach i with rest:=[],times:=1,stage:=3 } }
 | putOne (h0:(p.mach i).at0) (hp:(p.mach i).place=27) :
   Tr p i { p with glob:=p.glob++[(p.mach i).got],all:=p.all.set i { p.mach i with got:=-1,times:=1,stage:=3 } }
 | putRest (q:Nat) (r':Ring) (t:List Int) (h0:(p.mach i).at0) (hp:(p.mach i).place=17) (hq:(p.mach i).p=q) (he:(p.ring q).putAll (p.mach i).rest=(r',t)) :
   Tr p i { p with rings:=p.rings.set q r',all:=p.all.set i { p.mach i with rest:=t,times:=1,stage:=3 } }
 | putNext (q:Nat) (r':Ring) (t:List Int) (h0:(p.mach i).at0) (hp:(p.mach i).place=28) (hq:(p.mach i).p=q) (he:(p.ring q).ready (p.mach i).got=(r',t)) :
   Tr p i { p with rings:=p.rings.set q r',all:=p.all.set i { p.mach i with rest:=t,got:=-1,times:=1,stage:=3 } }
 | deliv (s:Src) (g:Int) (h0:(p.mach i).at0) (hp:(p.mach i).place=25) (he:p.src.take=(s,g,true)) :
   Tr p i { p with src:=s,flag:=p.flag.set i true,all:=p.all.set i { p.mach i with got:=g,rest:=[],times:=1,stage:=3 } }
 | findNo (h0:(p.mach i).at0) (hp:(p.mach i).place=23) (hz:p.idle.p=0):Tr p i { p with all:=p.all.set i { p.mach i with times:=1,stage:=2 } }
 | findBack (c:Int) (h1:(p.mach i).s21) (hp:(p.mach i).place=23) :
   Tr p i { p with ws:=p.ws.set p.spinW ((p.spinN+(2^64 - 1)) % 2^64),cnt:=c,all:=p.all.set i { p.mach i with times:=2,stage:=3 } }
 | findM (q k:Nat) (h0:(p.mach i).at0) (hp:(p.mach i).place=23) (hq:p.idle.p.testBit q=true) (hq2:q<p.P) (m':List Int) (o':Int) (hm:(p.idle.m=m'++[(k:Int)]∧o'=p.idle.poller)∨(p.idle.m=[]∧m'=[]∧p.idle.poller=k∧o' = -1)) :
   Tr p i { p with idle:={ p.idle with p:=p.idle.p^^^2^q,m:=m',poller:=o' },all:=(p.all.set k { p.mach k with next:=q }).set i { p.mach i with target:=k,times:=1,stage:=3 } }
 | findP (q:Nat) (h0:(p.mach i).at0) (hp:(p.mach i).place=23) (hq:p.idle.p.testBit q=true) (hq2:q<p.P) (hm:p.idle.m=[]) (ho:p.idle.poller = -1) :
   Tr p i { p with idle:={ p.idle with p:=p.idle.p^^^2^q,pending:=p.idle.pending++[(q:Int)] },all:=p.all.set i { p.mach i with times:=1,stage:=3 } }
 | park (h0:(p.mach i).at0) (hp:(p.mach i).place=29) :
   Tr p i { p with src:=p.src.sleep (p.mach i).g (p.mach i).arg,flag:=p.flag.set i (p.src.sleep (p.mach i).g (p.mach i).arg).due,all:=p.all.set i { p.mach i with arg:=sumT p.src.now (max 0 (p.mach i).arg),times:=1,stage:=2 } }
 | await (s:Src) (h0:(p.mach i).at0) (hp:(p.mach i).place=30) (he:p.src.wait (p.mach i).arg.toNat (p.mach i).g=(s,true)) :
   Tr p i { p with src:=s,flag:=p.flag.set i s.due,all:=p.all.set i { p.mach i with times:=1,stage:=2 } }
 | awaitNo (h0:(p.mach i).at0) (hp:(p.mach i).place=30):Tr p i { p with flag:=p.flag.set i false,all:=p.all.set i { p.mach i with times:=1,stage:=3 } }
 | outOf (g to:Nat) (k v:Int) (c:Int) (h1:(p.mach i).s21) (hp:((p.mach i).place=29∧to=4∧k=5)∨((p.mach i).place=30∧to=5∧k=6)) (hg:(p.mach i).g=g) (hg2:g<p.G) (hs:p.sts g=2) (hv:v=(p.mach i).arg) :
   Tr p i { p with ws:=p.ws.set (p.statW g) to,cnt:=c,log:=p.log++[{ kind:=k,g:=g,m:=i,p:=(p.mach i).p,value:=v }],all:=p.all.set i { p.mach i with g:=-1,times:=2,stage:=3 } }
 | free (k:Nat) (c:Int) (hn:(p.mach i).inn=true) (hs:(p.mach i).stage=3) (hk:zek p.P (p.mach i)=some k∨((p.mach i).place=9∨(p.mach i).place=7)) (hl:(p.mach i).lkN=2*(k:Int)) (hk2:k≤p.P+1) (ht:(p.mach i).ticket=p.serve k) :
   Tr p i { p with ws:=p.ws.set (2*k+1) ((p.serve k+1) % 2^64),cnt:=c,all:=p.all.set i (zei p.P (p.fl i) { p.mach i with stage:=4,inn:=false }) }
 | sched (t:Int) (h:(p.mach i).place=1) (q:Nat) (hq:(p.mach i).p=q) (m':Mach) (hm:m'={ p.mach i with place:=3 }∨m'={ p.mach i with after:=2,place:=25 }) :
   Tr p i { p with turns:=p.turns.set q t,all:=p.all.set i m' }
 | spinUp (c:Int) (h:(p.mach i).place=5) :
   Tr p i { p with ws:=p.ws.set p.spinW ((p.spinN+1) % 2^64),cnt:=c,all:=p.all.set i { p.mach i with spin:=true,i:=1,place:=if (1:Int) ≥ p.P then 7 else 6 } }
 | spinBack (c:Int) (h:(p.mach i).place=12) :
   Tr p i { p with ws:=p.ws.set p.spinW ((p.spinN+1) % 2^64),cnt:=c,all:=p.all.set i { p.mach i with spin:=true,place:=4 } }
 | drop (c:Int) (h:(p.mach i).place=8) :
   Tr p i { p with ws:=p.ws.set p.spinW ((p.spinN+(2^64 - 1)) % 2^64),cnt:=c,all:=p.all.set i { p.mach i with spin:=false,i:=0,place:=9 } }
 | unspin (c:Int) (h:(p.mach i).place=19) :
   Tr p i { p with ws:=p.ws.set p.spinW ((p.spinN+(2^64 - 1)) % 2^64),cnt:=c,all:=p.all.set i { p.mach i with spin:=false,place:=21 } }
 | dispatch (g:Nat) (c:Int) (h:(p.mach i).place=20) (hg:(p.mach i).got=g) (hg2:g<p.G) (hs:p.sts g=1) :
   Tr p i { p with ws:=p.ws.set (p.statW g) 2,cnt:=c,log:=p.log++[{ kind:=2,g:=g,m:=i,p:=(p.mach i).p,value:=0 }],all:=p.all.set i { p.mach i with g:=(p.mach i).got,got:=-1,place:=0 } }
 | load (c:Int) (h:(p.mach i).place=21):Tr p i { p with cnt:=c,all:=p.all.set i { p.mach i with place:=if p.spinN=0 then 22 else (p.mach i).back } }
 | claim (c:Int) (h:(p.mach i).place=22) (hz:p.spinN=0):Tr p i { p with ws:=p.ws.set p.spinW 1,cnt:=c,all:=p.all.set i { p.mach i with place:=23 } }
 | claimNo (c:Int) (h:(p.mach i).place=22) (hz:p.spinN≠0):Tr p i { p with cnt:=c,all:=p.all.set i { p.mach i with place:=(p.mach i).back } }
 | wake (k:Nat) (c:Int) (h:(p.mach i).place=24) (hk:(p.mach i).target=k) (hk2:k<p.M) (hz:p.note k=0) :
   Tr p i { p with ws:=p.ws.set (p.noteW k) 1,cnt:=c,all:=p.all.set i { p.mach i with target:=-1,place:=(p.mach i).back } }
 | mark (g:Nat) (c:Int) (h:(p.mach i).place=26) (hg:(p.mach i).got=g) (hg2:g<p.G) (hs:p.sts g=4∨p.sts g=5) :
   Tr p i { p with ws:=p.ws.set (p.statW g) 1,cnt:=c,log:=p.log++[{ kind:=1,g:=g,m:=i,p:=(p.mach i).p,value:=0 }],all:=p.all.set i { p.mach i with back:=25,place:=27 } }
 | asleep (c:Int) (h:(p.mach i).place=16) (hz:p.note i=0):Tr p i { p with cnt:=c }
 | awake (c:Int) (h:(p.mach i).place=16) (hz:p.note i=1) (hx:(p.mach i).next = -1) :
   Tr p i { p with ws:=p.ws.set (p.noteW i) 0,cnt:=c,all:=p.all.set i { p.mach i with after:=13,place:=25 } }
 | awakeP (c:Int) (h:(p.mach i).place=16) (hz:p.note i=1) (hx:0≤(p.mach i).next) :
   Tr p i { p with ws:=p.ws.set (p.noteW i) 0,cnt:=c,all:=p.all.set i { p.mach i with p:=(p.mach i).next,next:=-1,spin:=true,place:=4 } }
 | idle:Tr p i p
 | refused (c:Int) (h:(p.mach i).place=0):Tr p i { p with cnt:=c }
 | yield (g:Nat) (c:Int) (h:(p.mach i).place=0) (hg:(p.mach i).g=g) (hg2:g<p.G) (hs:p.sts g=2) :
   Tr p i { p with ws:=p.ws.set (p.statW g) 1,cnt:=c,log:=p.log++[{ kind:=3,g:=g,m:=i,p:=(p.mach i).p,value:=0 }],all:=p.all.set i { p.mach i with got:=(p.mach i).g,g:=-1,back:=1,place:=27 } }
 | leave (g to:Nat) (k:Int) (c:Int) (h:(p.mach i).place=0) (hk:(to=3∧k=4)∨(to=6∧k=7)) (hg:(p.mach i).g=g) (hg2:g<p.G) (hs:p.sts g=2) :
   Tr p i { p with ws:=p.ws.set (p.statW g) to,cnt:=c,log:=p.log++[{ kind:=k,g:=g,m:=i,p:=(p.mach i).p,value:=0 }],all:=p.all.set i { p.mach i with got:=-1,g:=-1,place:=1 } }
 | rouse (g fr:Nat) (k:Int) (c:Int) (h:(p.mach i).place=0) (hk:(fr=0∧k=0)∨(fr=3∧k=1)) (hg2:g<p.G) (hs:p.sts g=fr) :
   Tr p i { p with ws:=p.ws.set (p.statW g) 1,cnt:=c,log:=p.log++[{ kind:=k,g:=g,m:=i,p:=(p.mach i).p,value:=0 }],all:=p.all.set i { p.mach i with got:=g,place:=28 } }
 | toPark (d:Int) (h:(p.mach i).place=0) (hd : -9223372036854775808≤d∧d≤9223372036854775807):Tr p i { p with all:=p.all.set i { p.mach i with arg:=d,place:=29 } }
 | toAwait (x:Int) (h:(p.mach i).place=0) (hx:0≤x∧x<65536):Tr p i { p with all:=p.all.set i { p.mach i with arg:=x,place:=30 } }
theorem get_no {r r':Ring} {g:Int} (h:r.get=(r',g,false)):r'=r∧r.all=[]:=by
 unfold Ring.get at h
 split at h
 ·simp at h
 ·split at h
  ·simp at h
  ·split at h
   ·rename_i h1 h2 _ hl
    simp only [Prod.mk.injEq,and_true] at h
    refine ⟨h.1.symm,?_⟩
    unfold Ring.all
    cases hi:r.is
    ·simpa using hl
    ·exact absurd ⟨hi,hl⟩ h1
   ·split at h <;> simp at h
theorem get_yes {r r':Ring} {g:Int} (h:r.get=(r',g,true)):(∀ x,r'.all.count x+[g].count x=r.all.count x)∧r'.l.length≤r.l.length:=by
 unfold Ring.get at h
 split at h
 ·rename_i h1
  simp only [Prod.mk.injEq,and_true] at h
  obtain ⟨rfl,rfl⟩:=h
  simp [Ring.all,h1.1,h1.2]
 ·split at h
  ·rename_i h1
   simp only [Prod.mk.injEq,and_true] at h
   obtain ⟨rfl,rfl⟩:=h
   simp [Ring.all,h1.1]
  ·split at h
   ·simp at h
   ·rename_i g0 t hl
    split at h
    ·rename_i hi
     simp only [Prod.mk.injEq,and_true] at h
     obtain ⟨rfl,rfl⟩:=h
     simp [Ring.all,hi,hl,List.count_cons]
     try (intro x;omega)
    ·rename_i hi
     simp only [Prod.mk.injEq,and_true] at h
     obtain ⟨rfl,rfl⟩:=h
     simp [Ring.all,hi,hl,List.count_cons]
theorem steal_spec (r:Ring):(∀ x,r.steal.1.all.count x+r.steal.2.count x=r.all.count x)∧r.steal.1.l.length≤r.l.length∧(r.steal.2=[]→r.steal.1=r∧r.all=[]):=by
 unfold Ring.steal
 split
 ·rename_i h
  simp [Ring.all,h.1,h.2]
 ·rename_i h
  refine ⟨fun x=>?_,?_,fun e=>?_⟩
  ·have:=zbc r.l ((r.l.length+1) / 2) x
   simp only [Ring.all]
   split
   ·simp only [List.count_append];omega
   ·omega
  ·simp
  ·have hl:r.l=[]:=by
    cases hl:r.l with
    | nil=>rfl
    | cons a t=>simp only [hl,List.length_cons,List.take_eq_nil_iff] at e;exact absurd e (by simp)
   refine ⟨by cases r;simp_all,?_⟩
   unfold Ring.all
   cases hi:r.is
   ·simpa using hl
   ·exact absurd ⟨hl,hi⟩ h
theorem zdw (r:Ring) (l:List Int) (hr:r.l.length≤256):(∀ x,(r.putAll l).1.all.count x+(r.putAll l).2.count x=r.all.count x+l.count x)∧(r.putAll l).1.l.length≤256:=by
 unfold Ring.putAll
 refine ⟨fun x=>?_,by simp;omega⟩
 have:=zbc l (256 - r.l.length) x
 simp only [Ring.all]
 split <;> simp <;> omega
theorem put_spec (r:Ring) (g:Int) (hr:r.l.length≤256):(∀ x,(r.put g).1.all.count x+(r.put g).2.count x=r.all.count x+[g].count x)∧(r.put g).1.l.length≤256∧(r.put g).1.is=r.is:=by
 unfold Ring.put
 split
 ·refine ⟨fun x=>?_,by simp;omega,rfl⟩
  have:=zbc r.l 128 x
  simp only [Ring.all]
  split <;> simp <;> omega
 ·refine ⟨fun x=>?_,by simp;omega,rfl⟩
  simp only [Ring.all]
  split <;> simp [List.count_cons] <;> omega
theorem zd9 (r:Ring) (g:Int) (hr:r.l.length≤256):(∀ x,(r.ready g).1.all.count x+(r.ready g).2.count x=r.all.count x+[g].count x)∧(r.ready g).1.l.length≤256∧(r.ready g).1.is=true:=by
 unfold Ring.ready
 split
 ·rename_i hi
  have:=put_spec { r with next:=g,is:=true } r.next hr
  refine ⟨fun x=>?_,this.2.1,this.2.2⟩
  rw [this.1 x]
  simp only [Ring.all,hi,if_true,List.count_append]
  omega
 ·rename_i hi
  refine ⟨fun x=>?_,hr,rfl⟩
  simp [Ring.all,hi]
theorem zbS {x P:Nat} (hx:x≠0) (hP:P≤64) (hb:x<2^P):x.testBit (low x)=true∧low x<P:=by
 have hex:∃ k,k<64∧x.testBit k=true:=by
  refine Classical.byContradiction fun hno=>hx (Nat.eq_of_testBit_eq fun k=>?_)
  rw [Nat.zero_testBit]
  by_cases hk:k<64
  ·cases h:x.testBit k
   ·rfl
   ·exact absurd ⟨k,hk,h⟩ hno
  ·exact Nat.testBit_lt_two_pow (Nat.lt_of_lt_of_le hb (Nat.pow_le_pow_right (by decide) (by omega)))
 obtain ⟨k,hk,hb2⟩:=hex
 have hf:∃ j,(List.range 64).find? (fun i=>x.testBit i)=some j:=by
  cases hf:(List.range 64).find? (fun i=>x.testBit i) with
  | some j=>exact ⟨j,rfl⟩
  | none =>
   rw [List.find?_eq_none] at hf
   exact absurd hb2 (hf k (by simpa using hk))
 obtain ⟨j,hf⟩:=hf
 have hj:=List.find?_some hf
 have e:low x=j:=by unfold low;rw [hf];rfl
 rw [e]
 refine ⟨hj,?_⟩
 by_cases h:j<P
 ·exact h
 ·rw [Nat.testBit_lt_two_pow (Nat.lt_of_lt_of_le hb (Nat.pow_le_pow_right (by decide) (by omega)))] at hj
  cases hj
theorem zbD (x q r:Nat):(x^^^2^q).testBit r=if r=q then !x.testBit q else x.testBit r:=by
 rw [Nat.testBit_xor,Nat.testBit_two_pow]
 by_cases h:r=q
 ·subst h;simp
 ·have:¬ q=r:=fun e=>h e.symm
  simp [h,this]
theorem xor_lt {x q P:Nat} (hx:x<2^P) (hq:q<P):x^^^2^q<2^P:=Nat.xor_lt_two_pow hx (Nat.pow_lt_pow_right (by decide) hq)
theorem leastEnt_none:∀ {l:List Ent},zeq l=none→l=[]
 | [],_=>rfl
 | e :: t,h=>by
  unfold zeq at h
  split at h
  ·cases h
  ·split at h <;> cases h
theorem zbJ:∀ {l:List Ent} {x:Ent},zeq l=some x→x∈l
 | [],_,h=>by simp [zeq] at h
 | e :: t,x,h=>by
  unfold zeq at h
  split at h
  ·simp at h;subst h;simp
  ·rename_i y hy
   have:=zbJ hy
   split at h <;> simp at h <;> subst h
   ·simp
   ·simp [this]
theorem zcT:∀ {l:List Fd},zej l=none→(l.any fun x=>x.waits && x.ready)=false
 | [],_=>rfl
 | e :: t,h=>by
  unfold zej at h
  split at h
  ·split at h
   ·cases h
   ·split at h <;> cases h
  ·rename_i hw
   have:=zcT h
   simp at hw
   simp [this]
   intro a;simp [hw a]
theorem zbu:∀ {l:List Fd} {x:Fd},zej l=some x→x∈l∧x.waits=true∧x.ready=true
 | [],_,h=>by simp [zej] at h
 | e :: t,x,h=>by
  unfold zej at h
  split at h
  ·rename_i hw
   simp only [Bool.and_eq_true] at hw
   split at h
   ·simp at h;subst h;exact ⟨by simp,hw⟩
   ·rename_i y hy
    have:=zbu hy
    split at h <;> simp at h <;> subst h
    ·exact ⟨by simp,hw⟩
    ·exact ⟨by simp [this.1],this.2⟩
  ·have:=zbu h
   exact ⟨by simp [this.1],this.2⟩
theorem take_no {s s':Src} {g:Int} (h:s.take=(s',g,false)):s'=s∧s.due=false:=by
 unfold Src.take at h
 split at h
 ·simp at h
 ·rename_i h1
  split at h
  ·simp at h
  ·rename_i h2
   simp only [Prod.mk.injEq,and_true] at h
   refine ⟨h.1.symm,?_⟩
   have e1:=leastEnt_none h1
   have e2:=zcT h2
   unfold Src.due Src.timerDue Src.fdDue
   rw [e2,Bool.or_false,List.any_eq_false]
   intro x hx hd
   have:x∈s.tm.filter fun e=>decide (e.whenT≤s.now):=List.mem_filter.2 ⟨hx,hd⟩
   rw [e1] at this;cases this
end Hst
