/- Parts of the proof. -/
import Derived.Test.YtlmmjgekolpekaaGreatDoorMPk06
set_option linter.unusedVariables false
set_option linter.unusedSimpArgs false
set_option linter.unusedSectionVars false
set_option maxRecDepth 100000
set_option maxHeartbeats 6400000
namespace Hst
section
variable {n:Nat} {p p':Wd} {i:Nat}
theorem A_of {q:Wd} {m':Mach} (h:Inv n p) (hi:i<p.M) (hG:q.G=p.G) (hall:q.all=p.all.set i m')
  (hst:∀ g,g<p.G→q.sts g≤6)
  (hR:∀ g:Nat,g<p.G→qcnt q.rings q.glob g+zem g m'+b2n (p.sts g=1)=qcnt p.rings p.glob g+zem g (p.mach i)+b2n (q.sts g=1))
  (hX:∀ g:Nat,g<p.G→zev g m'+b2n (p.sts g=2)=zev g (p.mach i)+b2n (q.sts g=2))
  (hS:∀ g:Nat,g<p.G→scnt q.src g+zes g m'+outS g (p.mach i)+b2n (p.sts g=4∨p.sts g=5)=scnt p.src g+zes g (p.mach i)+outS g m'+b2n (q.sts g=4∨q.sts g=5))
  (hO:∀ g:Nat,g<p.G→sumL (outS g) p.all+outS g m'≤scnt q.src g+outS g (p.mach i))
  (hr:∀ r,r∈q.rings→r.l.length≤256∧∀ x,x∈r.all→0≤x∧x<p.G) (hg:∀ x,x∈q.glob→0≤x∧x<p.G):PartA q:=by
 have hla:=h.la hi
 have e4:p.all.getD i Mach.fresh=p.mach i:=rfl
 refine ⟨by rw [hG];exact hst,fun g hg=>?_,fun g hg=>?_,fun g hg=>?_,fun g hg=>?_,by rw [hG];exact hr,by rw [hG];exact hg⟩
 ·rw [hG] at hg
  have h1:=zap (zem g) p.all i m' Mach.fresh hla
  have h2:=h.A.R g hg;have h3:=hR g hg
  rw [hall];rw [e4] at h1;omega
 ·rw [hG] at hg
  have h1:=zap (zev g) p.all i m' Mach.fresh hla
  have h2:=h.A.X g hg;have h3:=hX g hg
  rw [hall];rw [e4] at h1;omega
 ·rw [hG] at hg
  have h1:=zap (zes g) p.all i m' Mach.fresh hla
  have h4:=zap (outS g) p.all i m' Mach.fresh hla
  have h2:=h.A.S g hg;have h3:=hS g hg
  rw [hall];rw [e4] at h1 h4;omega
 ·rw [hG] at hg
  have h4:=zap (outS g) p.all i m' Mach.fresh hla
  have h3:=hO g hg
  rw [hall];rw [e4] at h4;omega
theorem A_keep {q:Wd} {m':Mach} (h:Inv n p) (hi:i<p.M) (hG:q.G=p.G) (hall:q.all=p.all.set i m') (hst:∀ g,g<p.G→q.sts g=p.sts g) (h1:q.rings=p.rings) (h2:q.glob=p.glob) (h3:q.src=p.src)
  (g1:m'.got=(p.mach i).got) (g2:m'.rest=(p.mach i).rest) (g3:m'.g=(p.mach i).g) (g4:(p.mach i).got = -1∨((m'.place=25∨m'.place=26) ↔ ((p.mach i).place=25∨(p.mach i).place=26)))
  (g5:((m'.place=29∨m'.place=30)∧m'.s21) ↔ (((p.mach i).place=29∨(p.mach i).place=30)∧(p.mach i).s21)):PartA q:=by
 have eR:∀ g:Nat,zem g m'=zem g (p.mach i):=fun g=>by
  unfold zem;rw [g1,g2]
  congr 1
  refine zal ?_
  rcases g4 with e | e
  ·rw [e];constructor <;> (intro hh;omega)
  ·constructor
   ·rintro ⟨a,b,c⟩;refine ⟨a,fun d=>?_,fun d=>?_⟩
    ·rcases e.2 (.inl d) with x | x;exact b x;exact c x
    ·rcases e.2 (.inr d) with x | x;exact b x;exact c x
   ·rintro ⟨a,b,c⟩;refine ⟨a,fun d=>?_,fun d=>?_⟩
    ·rcases e.1 (.inl d) with x | x;exact b x;exact c x
    ·rcases e.1 (.inr d) with x | x;exact b x;exact c x
 have eS:∀ g:Nat,zes g m'=zes g (p.mach i):=fun g=>by
  unfold zes;rw [g1]
  refine zal ?_
  rcases g4 with e | e
  ·rw [e];constructor <;> (intro hh;omega)
  ·rw [e]
 have eO:∀ g:Nat,outS g m'=outS g (p.mach i):=fun g=>by
  unfold outS;rw [g3];exact zal (and_congr Iff.rfl g5)
 refine A_of h hi hG hall (fun g hg=>by rw [hst g hg];exact h.A.st g hg) (fun g hg=>by rw [hst g hg,h1,h2,eR]) (fun g hg=>by rw [hst g hg];unfold zev;rw [g3]) (fun g hg=>by rw [hst g hg,h3,eS,eO]) (fun g hg=>by rw [h3,eO];have:=h.A.O g hg;omega) (by rw [h1];exact h.A.rr) (by rw [h2];exact h.A.rg)
theorem A_same {q:Wd} (h:Inv n p) (hG:q.G=p.G) (hall:q.all=p.all) (hst:∀ g,g<p.G→q.sts g=p.sts g) (h1:q.rings=p.rings) (h2:q.glob=p.glob) (h3:q.src=p.src):PartA q:=by
 refine ⟨fun g hg=>?_,fun g hg=>?_,fun g hg=>?_,fun g hg=>?_,fun g hg=>?_,by rw [h1,hG];exact h.A.rr,by rw [h2,hG];exact h.A.rg⟩
 ·rw [hG] at hg;rw [hst g hg];exact h.A.st g hg
 ·rw [hG] at hg;rw [hst g hg,h1,h2,hall];exact h.A.R g hg
 ·rw [hG] at hg;rw [hst g hg,hall];exact h.A.X g hg
 ·rw [hG] at hg;rw [hst g hg,hall,h3];exact h.A.S g hg
 ·rw [hG] at hg;rw [hall,h3];exact h.A.O g hg
theorem zaD (p:Wd) (a x:Nat) (ha:a<p.ws.length) (hne:a<2*(p.P+2)+1+p.M) (g:Nat):(p.ws.set a x).getD (2*(p.P+2)+1+p.M+g) 0=p.sts g:=by
 rw [zad _ _ _ _ _ ha,if_neg (by omega)];rfl
theorem zb4 (p:Wd) (g x:Nat) (hl:p.ws.length=2*(p.P+2)+1+p.M+p.G) (hg:g<p.G) (y:Nat):(p.ws.set (p.statW g) x).getD (2*(p.P+2)+1+p.M+y) 0=if y=g then x else p.sts y:=by
 rw [zad _ _ _ _ _ (by unfold Wd.statW;omega)]
 unfold Wd.statW
 by_cases e:y=g
 ·rw [if_pos (by omega),if_pos e]
 ·rw [if_neg (by omega),if_neg e];rfl
theorem qcnt_set (rings:List Ring) (glob:List Int) (q:Nat) (r':Ring) (hq:q<rings.length) (x:Int):qcnt (rings.set q r') glob x+(rings.getD q Ring.new).all.count x=qcnt rings glob x+r'.all.count x:=by
 unfold qcnt
 have:=zap (fun r:Ring=>r.all.count x) rings q r' Ring.new hq
 omega
theorem zdA {rings:List Ring} {q:Nat} {r' r:Ring} (h:r∈rings.set q r'):r=r'∨r∈rings:=by
 rcases List.mem_or_eq_of_mem_set h with h | h
 ·exact .inr h
 ·exact .inl h
theorem ring_mem (h:Inv n p) {q:Nat} (hq:q<p.P):p.ring q∈p.rings:=by
 unfold Wd.ring;rw [List.getD_eq_getElem?_getD,List.getElem?_eq_getElem (by rw [h.sh.lr];exact hq)];simp
theorem then_A {P:Nat} {f:Bool} {m:Mach} (sh:shape P f m) (h3:m.s3):m.got = -1∨(((zei P f { m with stage:=4,inn:=false }).place=25∨(zei P f { m with stage:=4,inn:=false }).place=26) ↔ (m.place=25∨m.place=26)):=by
 unfold shape at sh
 split at sh
 all_goals (rename_i hpl)
 all_goals first
  | exact absurd sh.1 (by rw [h3.1];decide)
  | exact sh.elim
  | (simp only [zei,hpl,thenS,zeA];(repeat' split) <;> grind)
theorem no_out (h:Inv n p) (hi:i<p.M) (h0:(p.mach i).inn=true) (h1:2≤(p.mach i).stage) (hp:(p.mach i).place=25) (g:Int):sumL (outS g) p.all=0:=by
 refine zdz _ _ Mach.fresh fun j hj=>?_
 unfold outS
 refine zae fun hh=>?_
 have hj':j<p.M:=by rw [← h.sh.la];exact hj
 have h5:(p.mach j).place=29∨(p.mach j).place=30:=hh.2.1
 have h6:(p.mach j).s21:=hh.2.2
 have:=zcI h hi hj' h0 h1 (lockN_S _ _ (by omega)) h6.1 (by rw [h6.2.1];omega) (lockN_S _ _ (by omega))
 subst this;omega
theorem hand0 {m:Mach} (h1:m.got = -1) (h2:m.rest=[]) (g:Nat):zem g m=0:=by unfold zem;rw [h1,h2,zae (by omega)];rfl
theorem handS0 {m:Mach} (h1:m.got = -1) (g:Nat):zes g m=0:=by unfold zes;rw [h1];exact zae (by omega)
theorem zaC {m:Mach} (h1:m.place≠25∧m.place≠26) (g:Int):zes g m=0:=by unfold zes;exact zae (by omega)
theorem out0 {m:Mach} (h:¬ m.s21) (g:Int):outS g m=0:=by unfold outS;exact zae (fun hh=>h hh.2.2)
theorem zbj (g:Int) (t:List Int) (x:Int):(g :: t).count x=b2n (g=x)+t.count x:=by
 rw [List.count_cons];unfold b2n;simp only [beq_iff_eq];omega
theorem A_stat {q:Wd} {m':Mach} (h:Inv n p) (hi:i<p.M) (hG:q.G=p.G) (hall:q.all=p.all.set i m') (y to:Nat) (hst:∀ g,q.sts g=if g=y then to else p.sts g) (hto:to≤6) (h1:q.rings=p.rings) (h2:q.glob=p.glob) (h3:q.src=p.src)
  (hR:∀ g:Nat,zem g m'+b2n (g=y∧p.sts y=1)=zem g (p.mach i)+b2n (g=y∧to=1))
  (hX:∀ g:Nat,zev g m'+b2n (g=y∧p.sts y=2)=zev g (p.mach i)+b2n (g=y∧to=2))
  (hS:∀ g:Nat,zes g m'+outS g (p.mach i)+b2n (g=y∧(p.sts y=4∨p.sts y=5))=zes g (p.mach i)+outS g m'+b2n (g=y∧(to=4∨to=5)))
  (hO:∀ g:Nat,outS g m'≤outS g (p.mach i)):PartA q:=by
 refine A_of h hi hG hall (fun g hg=>?_) (fun g hg=>?_) (fun g hg=>?_) (fun g hg=>?_) (fun g hg=>?_) (by rw [h1];exact h.A.rr) (by rw [h2];exact h.A.rg)
 ·rw [hst];split
  ·exact hto
  ·exact h.A.st g hg
 ·rw [hst,h1,h2]
  have:=hR g
  by_cases e:g=y
  ·subst e;simp only [true_and] at this;rw [if_pos rfl];omega
  ·simp only [e,false_and] at this;rw [if_neg e];rw [show b2n False=0 from rfl] at this;omega
 ·rw [hst]
  have:=hX g
  by_cases e:g=y
  ·subst e;simp only [true_and] at this;rw [if_pos rfl];omega
  ·simp only [e,false_and] at this;rw [if_neg e];rw [show b2n False=0 from rfl] at this;omega
 ·rw [hst,h3]
  have:=hS g
  by_cases e:g=y
  ·subst e;simp only [true_and] at this;rw [if_pos rfl];omega
  ·simp only [e,false_and] at this;rw [if_neg e];rw [show b2n False=0 from rfl] at this;omega
 ·rw [h3];have:=hO g;have:=h.A.O g hg;omega
theorem A_tr (h:Inv n p) (hi:i<p.M) (t:Tr p i p'):PartA p':=by
 have hla:=h.la hi
 have hP:=h.sh.dP
 have hlw:=h.sh.lw
 have hlr:=h.sh.lr
 have L:=h.L.loc i hi
 cases t
 case take k c hn hk =>
  have hkP:=zcb _ _ hk hP.1
  exact A_keep h hi rfl rfl (fun g _=>zaD p (2*k) _ (by omega) (by omega) g) rfl rfl rfl rfl rfl rfl (.inr Iff.rfl) ⟨fun hh=>absurd hh.2.2.1 (by show ¬ 1=2;decide),fun hh=>absurd hh.2.1 (by rw [hn];decide)⟩
 case miss c k hn hs hk ht=>exact A_same h rfl rfl (fun _ _=>rfl) rfl rfl rfl
 case hit k c hn hs hk ht =>
  have ht0:=(h.L.sec i hi hn).1.t0 (by omega)
  exact A_keep h hi rfl rfl (fun _ _=>rfl) rfl rfl rfl rfl rfl rfl (.inr Iff.rfl) (by simp [hs,ht0])
 case foundR q r' g t h0 hp hq hc hl =>
  have hs:(p.mach i).got = -1∧(p.mach i).rest=[]:=by
   rcases hp with ⟨hp,_⟩ | hp
   ·have s:=sh3 L.sh hp;have:=s.2.2.2.2.2;rw [if_neg (by simp [h0.2.1])] at this;exact ⟨this,s.2.2.2.2.1⟩
   ·have s:=sh6 L.sh hp;have:=s.2.2.2.2.2.2;rw [if_neg (by simp [h0.2.1])] at this;exact this
  have hpl:(p.mach i).place≠25∧(p.mach i).place≠26:=by omega
  have hrq:=h.A.rr _ (ring_mem h hq)
  refine A_of h hi rfl rfl h.A.st (fun x hx=>?_) (fun _ _=>rfl) (fun x hx=>?_) (fun x hx=>?_) (fun r hr=>?_) h.A.rg
  ·have e1:=qcnt_set p.rings p.glob q r' (by omega) (x:Int)
   have e2:=hc x
   rw [zbj] at e2
   have e3:zem x { p.mach i with got:=g,rest:=t,times:=1,stage:=3 }=b2n (g=(x:Int))+t.count (x:Int):=by
    unfold zem;congr 1;exact zal ⟨fun hh=>hh.1,fun hh=>⟨hh,hpl⟩⟩
   have e5:(p.rings.getD q Ring.new).all.count (x:Int)=(p.ring q).all.count (x:Int):=rfl
   rw [e3,hand0 hs.1 hs.2]
   show qcnt (p.rings.set q r') p.glob x+_+_=qcnt p.rings p.glob x+0+b2n (p.sts x=1)
   omega
  ·rw [zaC hpl,zaC (m:={ p.mach i with got:=g,rest:=t,times:=1,stage:=3 }) hpl,out0 (by simp [h0.2.2]),out0 (by simp)];rfl
  ·rw [out0 (by simp),out0 (m:=p.mach i) (by simp [h0.2.2])];exact h.A.O x hx
  ·rcases zdA hr with rfl | hr
   ·refine ⟨hl,fun x hx=>hrq.2 x ?_⟩
    have:=List.count_pos_iff.2 hx
    have:=hc x
    exact List.count_pos_iff.1 (by omega)
   ·exact h.A.rr r hr
 case foundG g t glob' h0 hp hg =>
  have hs:(p.mach i).got = -1∧(p.mach i).rest=[]:=by
   rcases hp with ⟨hp,_⟩ | hp | hp
   ·have s:=sh2 L.sh hp;have:=s.2.2.2.2.2;rw [if_neg (by simp [h0.2.1])] at this;exact ⟨this,s.2.2.2.2.1⟩
   ·have s:=sh4 L.sh hp;have:=s.2.2.2;rw [if_neg (by simp [h0.2.1])] at this;exact this
   ·have s:=sh7 L.sh hp;have:=s.2.2.2.1;rw [if_neg (by simp [h0.2.1])] at this;exact this
  have hpl:(p.mach i).place≠25∧(p.mach i).place≠26:=by omega
  refine A_of h hi rfl rfl h.A.st (fun x hx=>?_) (fun _ _=>rfl) (fun x hx=>?_) (fun x hx=>?_) h.A.rr (fun x hx=>h.A.rg x (by rw [hg];exact List.mem_append_right _ hx))
  ·have e2:p.glob.count (x:Int)=(g :: t).count (x:Int)+glob'.count (x:Int):=by rw [hg,List.count_append]
   rw [zbj] at e2
   have e3:zem x { p.mach i with got:=g,rest:=t,times:=1,stage:=3 }=b2n (g=(x:Int))+t.count (x:Int):=by
    unfold zem;congr 1;exact zal ⟨fun hh=>hh.1,fun hh=>⟨hh,hpl⟩⟩
   rw [e3,hand0 hs.1 hs.2]
   show sumL (fun r:Ring=>r.all.count (x:Int)) p.rings+glob'.count (x:Int)+_+_=sumL (fun r:Ring=>r.all.count (x:Int)) p.rings+p.glob.count (x:Int)+0+b2n (p.sts x=1)
   omega
  ·rw [zaC hpl,zaC (m:={ p.mach i with got:=g,rest:=t,times:=1,stage:=3 }) hpl,out0 (by simp [h0.2.2]),out0 (by simp)];rfl
  ·rw [out0 (by simp),out0 (m:=p.mach i) (by simp [h0.2.2])];exact h.A.O x hx
 case told b h0 ht=>exact A_keep h hi rfl rfl (fun _ _=>rfl) rfl rfl rfl rfl rfl rfl (.inr Iff.rfl) (by simp [h0.2.1,h0.2.2])
 case release q h0 hp hg hq=>exact A_keep h hi rfl rfl (fun _ _=>rfl) rfl rfl rfl rfl rfl rfl (.inr Iff.rfl) (by simp [h0.2.1,h0.2.2])
 case retake q h0 hp hq hq2=>exact A_keep h hi rfl rfl (fun _ _=>rfl) rfl rfl rfl rfl rfl rfl (.inr Iff.rfl) (by simp [h0.2.1,h0.2.2])
 case pending q t h0 hp hq=>exact A_keep h hi rfl rfl (fun _ _=>rfl) rfl rfl rfl rfl rfl rfl (.inr Iff.rfl) (by simp [h0.2.1,h0.2.2])
 case stopP h0 hp hq ho=>exact A_keep h hi rfl rfl (fun _ _=>rfl) rfl rfl rfl rfl rfl rfl (.inr Iff.rfl) (by simp [h0.2.1,h0.2.2])
 case stopM h0 hp hq ho=>exact A_keep h hi rfl rfl (fun _ _=>rfl) rfl rfl rfl rfl rfl rfl (.inr Iff.rfl) (by simp [h0.2.1,h0.2.2])
 case unpoll h0 hp ho=>exact A_keep h hi rfl rfl (fun _ _=>rfl) rfl rfl rfl rfl rfl rfl (.inr Iff.rfl) (by simp [h0.2.1,h0.2.2])
 case putOver h0 hp =>
  have hpl:(p.mach i).place≠25∧(p.mach i).place≠26:=by omega
  refine A_of h hi rfl rfl h.A.st (fun x hx=>?_) (fun _ _=>rfl) (fun x hx=>?_) (fun x hx=>?_) ?_ ?_
  ·show sumL (fun r:Ring=>r.all.count (x:Int)) p.rings+(p.glob++(p.mach i).rest).count (x:Int)+(b2n ((p.mach i).got=(x:Int)∧(p.mach i).place≠25∧(p.mach i).place≠26)+0)+_=sumL (fun r:Ring=>r.all.count (x:Int)) p.rings+p.glob.count (x:Int)+(b2n ((p.mach i).got=(x:Int)∧(p.mach i).place≠25∧(p.mach i).place≠26)+(p.mach i).rest.count (x:Int))+b2n (p.sts x=1)
   rw [List.count_append]
   show _+b2n (p.sts x=1)=_
   omega
  ·rw [zaC hpl,zaC (m:={ p.mach i with rest:=[],times:=1,stage:=3 }) hpl,out0 (by simp [h0.2.2]),out0 (by simp)];rfl
  ·rw [out0 (by simp),out0 (m:=p.mach i) (by simp [h0.2.2])];exact h.A.O x hx
  ·exact h.A.rr
  ·intro x hx
   rcases List.mem_append.1 hx with hx | hx
   ·exact h.A.rg x hx
   ·exact L.rr x hx
 case putOne h0 hp =>
  have hpl:(p.mach i).place≠25∧(p.mach i).place≠26:=by omega
  have s:=sh27 L.sh hp
  have hgt:0≤(p.mach i).got:=by have:=s.2.2.2.2.2;rw [if_neg (by simp [h0.2.1])] at this;exact this
  refine A_of h hi rfl rfl h.A.st (fun x hx=>?_) (fun _ _=>rfl) (fun x hx=>?_) (fun x hx=>?_) ?_ ?_
  ·show sumL (fun r:Ring=>r.all.count (x:Int)) p.rings+(p.glob++[(p.mach i).got]).count (x:Int)+(b2n ((-1:Int)=(x:Int)∧(p.mach i).place≠25∧(p.mach i).place≠26)+(p.mach i).rest.count (x:Int))+_=sumL (fun r:Ring=>r.all.count (x:Int)) p.rings+p.glob.count (x:Int)+(b2n ((p.mach i).got=(x:Int)∧(p.mach i).place≠25∧(p.mach i).place≠26)+(p.mach i).rest.count (x:Int))+b2n (p.sts x=1)
   rw [List.count_append,zbj,zae (P:=(-1:Int)=(x:Int)∧_) (by omega),zal (P:=(p.mach i).got=(x:Int)∧_) (Q:=(p.mach i).got=(x:Int)) ⟨fun hh=>hh.1,fun hh=>⟨hh,hpl⟩⟩]
   show _+b2n (p.sts x=1)=_
   simp only [List.count_nil]
   omega
  ·rw [zaC hpl,zaC (m:={ p.mach i with got:=-1,times:=1,stage:=3 }) hpl,out0 (by simp [h0.2.2]),out0 (by simp)];rfl
  ·rw [out0 (by simp),out0 (m:=p.mach i) (by simp [h0.2.2])];exact h.A.O x hx
  ·exact h.A.rr
  ·intro x hx
   rcases List.mem_append.1 hx with hx | hx
   ·exact h.A.rg x hx
   ·have:x=(p.mach i).got:=by simpa using hx
    rw [this];exact ⟨hgt,L.rgot.2⟩
 case putRest q r' t h0 hp hq he =>
  have hpl:(p.mach i).place≠25∧(p.mach i).place≠26:=by omega
  have s:=sh17 L.sh hp
  have hqP:q<p.P:=by have:=L.rp;omega
  have hrq:=h.A.rr _ (ring_mem h hqP)
  have sp:=zdw (p.ring q) (p.mach i).rest hrq.1
  simp only [he] at sp
  refine A_of h hi rfl rfl h.A.st (fun x hx=>?_) (fun _ _=>rfl) (fun x hx=>?_) (fun x hx=>?_) ?_ ?_
  ·have e1:=qcnt_set p.rings p.glob q r' (by omega) (x:Int)
   have e2:=sp.1 x
   have e5:(p.rings.getD q Ring.new).all.count (x:Int)=(p.ring q).all.count (x:Int):=rfl
   show qcnt (p.rings.set q r') p.glob x+(b2n ((p.mach i).got=(x:Int)∧(p.mach i).place≠25∧(p.mach i).place≠26)+t.count (x:Int))+b2n (p.sts x=1)=qcnt p.rings p.glob x+(b2n ((p.mach i).got=(x:Int)∧(p.mach i).place≠25∧(p.mach i).place≠26)+(p.mach i).rest.count (x:Int))+b2n (p.sts x=1)
   omega
  ·rw [zaC hpl,zaC (m:={ p.mach i with rest:=t,times:=1,stage:=3 }) hpl,out0 (by simp [h0.2.2]),out0 (by simp)];rfl
  ·rw [out0 (by simp),out0 (m:=p.mach i) (by simp [h0.2.2])];exact h.A.O x hx
  ·intro r hr
   rcases zdA hr with rfl | hr
   ·refine ⟨sp.2,fun x hx=>?_⟩
    have h1:=List.count_pos_iff.2 hx
    have h2:=sp.1 x
    rcases Nat.eq_zero_or_pos ((p.mach i).rest.count x) with e | e
    ·exact hrq.2 x (List.count_pos_iff.1 (by omega))
    ·exact L.rr x (List.count_pos_iff.1 e)
   ·exact h.A.rr r hr
  ·exact h.A.rg
 case putNext q r' t h0 hp hq he =>
  have hpl:(p.mach i).place≠25∧(p.mach i).place≠26:=by omega
  have s:=sh28 L.sh hp
  have hgr:0≤(p.mach i).got∧(p.mach i).rest=[]:=by have:=s.2.2.2.2;rw [if_neg (by simp [h0.2.1])] at this;exact this
  have hqP:q<p.P:=by have:=L.rp;omega
  have hrq:=h.A.rr _ (ring_mem h hqP)
  have sp:=zd9 (p.ring q) (p.mach i).got hrq.1
  simp only [he] at sp
  refine A_of h hi rfl rfl h.A.st (fun x hx=>?_) (fun _ _=>rfl) (fun x hx=>?_) (fun x hx=>?_) ?_ ?_
  ·have e1:=qcnt_set p.rings p.glob q r' (by omega) (x:Int)
   have e2:=sp.1 x
   rw [zbj] at e2
   simp only [List.count_nil] at e2
   have e5:(p.rings.getD q Ring.new).all.count (x:Int)=(p.ring q).all.count (x:Int):=rfl
   have e6:(p.mach i).rest.count (x:Int)=0:=by rw [hgr.2];rfl
   show qcnt (p.rings.set q r') p.glob x+(b2n ((-1:Int)=(x:Int)∧(p.mach i).place≠25∧(p.mach i).place≠26)+t.count (x:Int))+b2n (p.sts x=1)=qcnt p.rings p.glob x+(b2n ((p.mach i).got=(x:Int)∧(p.mach i).place≠25∧(p.mach i).place≠26)+(p.mach i).rest.count (x:Int))+b2n (p.sts x=1)
   rw [zae (P:=(-1:Int)=(x:Int)∧_) (by omega),zal (P:=(p.mach i).got=(x:Int)∧_) (Q:=(p.mach i).got=(x:Int)) ⟨fun hh=>hh.1,fun hh=>⟨hh,hpl⟩⟩]
   omega
  ·rw [zaC hpl,zaC (m:={ p.mach i with rest:=t,got:=-1,times:=1,stage:=3 }) hpl,out0 (by simp [h0.2.2]),out0 (by simp)];rfl
  ·rw [out0 (by simp),out0 (m:=p.mach i) (by simp [h0.2.2])];exact h.A.O x hx
  ·intro r hr
   rcases zdA hr with rfl | hr
   ·refine ⟨sp.2.1,fun x hx=>?_⟩
    have h1:=List.count_pos_iff.2 hx
    have h2:=sp.1 x
    rw [zbj] at h2
    simp only [List.count_nil] at h2
    rcases Nat.eq_zero_or_pos (b2n ((p.mach i).got=x)) with e | e
    ·exact hrq.2 x (List.count_pos_iff.1 (by omega))
    ·have hx2:(p.mach i).got=x:=by
      by_cases e3:(p.mach i).got=x
      ·exact e3
      ·rw [zae e3] at e;omega
     rw [← hx2];exact ⟨hgr.1,L.rgot.2⟩
   ·exact h.A.rr r hr
  ·exact h.A.rg
 case deliv s g h0 hp he =>
  have s25:=sh25 L.sh hp
  have hgt:(p.mach i).got = -1:=by have:=s25.2.2.2.2.2;rw [if_neg (by simp [h0.2.1])] at this;exact this
  have hno:=no_out h hi h0.1 (by rw [h0.2.1];omega) hp
  refine A_of h hi rfl rfl h.A.st (fun x hx=>?_) (fun _ _=>rfl) (fun x hx=>?_) (fun x hx=>?_) h.A.rr h.A.rg
  ·rw [hand0 hgt s25.2.2.1]
   have e3:zem x { p.mach i with got:=g,rest:=[],times:=1,stage:=3 }=0:=by unfold zem;rw [zae (by simp [hp])];rfl
   rw [e3];rfl
  ·have e1:=scnt_take h.S he x
   have e3:zes x { p.mach i with got:=g,rest:=[],times:=1,stage:=3 }=b2n (g=(x:Int)):=by unfold zes;exact zal ⟨fun hh=>hh.1,fun hh=>⟨hh,.inl hp⟩⟩
   rw [e3,handS0 hgt,out0 (by simp [h0.2.2]),out0 (by simp)]
   show scnt s x+_+0+b2n (p.sts x=4∨p.sts x=5)=scnt p.src x+0+0+b2n (p.sts x=4∨p.sts x=5)
   omega
  ·rw [hno,out0 (by simp)];omega
 case findNo h0 hp hz=>exact A_keep h hi rfl rfl (fun _ _=>rfl) rfl rfl rfl rfl rfl rfl (.inr Iff.rfl) (by simp [hp])
 case findBack c h1 hp=>exact A_keep h hi rfl rfl (fun g _=>zaD p (p.spinW) _ (by unfold Wd.spinW;omega) (by unfold Wd.spinW;omega) g) rfl rfl rfl rfl rfl rfl (.inr Iff.rfl) (by simp [hp])
 case findM q k h0 hp hq hq2 m' o' hm =>
  obtain ⟨hkM,hik,hr⟩:=zbv h hi hp hm
  have hkl:k<p.all.length:=by rw [h.sh.la];exact hkM
  have e4:p.all.getD k Mach.fresh=p.mach k:=rfl
  have hS:∀ f:Mach→Nat,f { p.mach k with next:=(q:Int) }=f (p.mach k)→f { p.mach i with target:=(k:Int),times:=1,stage:=3 }=f (p.mach i)→sumL f ((p.all.set k { p.mach k with next:=(q:Int) }).set i { p.mach i with target:=(k:Int),times:=1,stage:=3 })=sumL f p.all:=fun f h1 h2=>by
   have a1:=zap f p.all k { p.mach k with next:=(q:Int) } Mach.fresh hkl
   have a2:=zap f (p.all.set k { p.mach k with next:=(q:Int) }) i { p.mach i with target:=(k:Int),times:=1,stage:=3 } Mach.fresh (by simpa using hla)
   rw [zbI p i k _ hik] at a2
   rw [e4] at a1
   omega
  refine ⟨h.A.st,fun g hg=>?_,fun g hg=>?_,fun g hg=>?_,fun g hg=>?_,h.A.rr,h.A.rg⟩
  ·refine Eq.trans ?_ (h.A.R g hg);exact congrArg (qcnt p.rings p.glob g+·) (hS _ rfl rfl)
  ·refine Eq.trans ?_ (h.A.X g hg);exact hS _ rfl rfl
  ·have o1:outS g { p.mach i with target:=(k:Int),times:=1,stage:=3 }=outS g (p.mach i):=by rw [out0 (by simp),out0 (by simp [h0.2.2])]
   show scnt p.src g+sumL (zes g) _=b2n (p.sts g=4∨p.sts g=5)+sumL (outS g) _
   rw [hS (zes g) rfl rfl,hS (outS g) rfl o1];exact h.A.S g hg
  ·have o1:outS g { p.mach i with target:=(k:Int),times:=1,stage:=3 }=outS g (p.mach i):=by rw [out0 (by simp),out0 (by simp [h0.2.2])]
   show sumL (outS g) _≤scnt p.src g
   rw [hS (outS g) rfl o1];exact h.A.O g hg
 case findP q h0 hp hq hq2 hm ho=>exact A_keep h hi rfl rfl (fun _ _=>rfl) rfl rfl rfl rfl rfl rfl (.inr Iff.rfl) (by simp [h0.2.1,h0.2.2])
 case park h0 hp =>
  have e1:=fun x:Int=>scnt_sleep p.src (p.mach i).g (p.mach i).arg x
  have hpl:(p.mach i).place≠25∧(p.mach i).place≠26:=by omega
  have e3:∀ x:Nat,outS x { p.mach i with arg:=sumT p.src.now (max 0 (p.mach i).arg),times:=1,stage:=2 }=b2n ((p.mach i).g=(x:Int)):=fun x=>by
   unfold outS;exact zal ⟨fun hh=>hh.1,fun hh=>⟨hh,(by show (p.mach i).place=29∨(p.mach i).place=30;omega),h0.1,rfl,rfl⟩⟩
  refine A_of h hi rfl rfl h.A.st (fun x hx=>rfl) (fun _ _=>rfl) (fun x hx=>?_) (fun x hx=>?_) h.A.rr h.A.rg
  ·rw [e3,zaC hpl,zaC (m:={ p.mach i with arg:=sumT p.src.now (max 0 (p.mach i).arg),times:=1,stage:=2 }) hpl,out0 (by simp [h0.2.2])]
   show scnt (p.src.sleep (p.mach i).g (p.mach i).arg) x+0+0+b2n (p.sts x=4∨p.sts x=5)=scnt p.src x+0+_+b2n (p.sts x=4∨p.sts x=5)
   rw [e1];omega
  ·rw [e3,out0 (m:=p.mach i) (by simp [h0.2.2])]
   show _≤scnt (p.src.sleep (p.mach i).g (p.mach i).arg) x+0
   rw [e1]
   have:=h.A.O x hx;omega
 case await s h0 hp he =>
  have e1:=fun x:Int=>scnt_wait h.S he x
  have hpl:(p.mach i).place≠25∧(p.mach i).place≠26:=by omega
  have e3:∀ x:Nat,outS x { p.mach i with times:=1,stage:=2 }=b2n ((p.mach i).g=(x:Int)):=fun x=>by
   unfold outS;exact zal ⟨fun hh=>hh.1,fun hh=>⟨hh,(by show (p.mach i).place=29∨(p.mach i).place=30;omega),h0.1,rfl,rfl⟩⟩
  refine A_of h hi rfl rfl h.A.st (fun x hx=>rfl) (fun _ _=>rfl) (fun x hx=>?_) (fun x hx=>?_) h.A.rr h.A.rg
  ·rw [e3,zaC hpl,zaC (m:={ p.mach i with times:=1,stage:=2 }) hpl,out0 (by simp [h0.2.2])]
   show scnt s x+0+0+b2n (p.sts x=4∨p.sts x=5)=scnt p.src x+0+_+b2n (p.sts x=4∨p.sts x=5)
   rw [e1];omega
  ·rw [e3,out0 (m:=p.mach i) (by simp [h0.2.2])]
   show _≤scnt s x+0
   rw [e1]
   have:=h.A.O x hx;omega
 case awaitNo h0 hp=>exact A_keep h hi rfl rfl (fun _ _=>rfl) rfl rfl rfl rfl rfl rfl (.inr Iff.rfl) (by simp [h0.2.1,h0.2.2])
 case outOf g to k v c h1 hp hg hg2 hs hv =>
  have s:zer (p.mach i)∧((p.mach i).place=29∨(p.mach i).place=30):=by
   rcases hp with ⟨hp,_⟩ | ⟨hp,_⟩
   ·have s:=sh29 L.sh hp;exact ⟨s.2.1,.inl hp⟩
   ·have s:=sh30 L.sh hp;exact ⟨s.2.1,.inr hp⟩
  refine A_stat h hi rfl rfl g to (fun x=>zb4 p g _ hlw hg2 x) (by omega) rfl rfl rfl (fun x=>?_) (fun x=>?_) (fun x=>?_) (fun x=>?_)
  ·grind [zem,b2n]
  ·grind [zev,b2n]
  ·grind [zes,outS,b2n]
  ·grind [outS,b2n]
 case free k c hn hs hk hl hk2 ht =>
  obtain ⟨k1,k2',k3,k4,k5,k6,e7,e8,_⟩:=za1 p.P (p.fl i) { p.mach i with stage:=4,inn:=false }
  exact A_keep h hi rfl rfl (fun g _=>zaD p (2*k+1) _ (by omega) (by omega) g) rfl rfl rfl k4 e8 k2' (then_A L.sh ⟨hn,hs⟩) ⟨fun hh=>absurd (e7.symm.trans hh.2.1) (by simp),fun hh=>absurd hh.2.2.1 (by rw [hs];decide)⟩
 case sched t hp q hq m' hm =>
  have s:=sh1 L.sh hp
  rcases hm with rfl | rfl
  ·exact A_keep h hi rfl rfl (fun _ _=>rfl) rfl rfl rfl rfl rfl rfl (.inl s.2.2.2.1.1) (by grind)
  ·exact A_keep h hi rfl rfl (fun _ _=>rfl) rfl rfl rfl rfl rfl rfl (.inl s.2.2.2.1.1) (by grind)
 case spinUp c hp =>
  have s:=sh5 L.sh hp
  exact A_keep h hi rfl rfl (fun g _=>zaD p (p.spinW) _ (by unfold Wd.spinW;omega) (by unfold Wd.spinW;omega) g) rfl rfl rfl rfl rfl rfl (.inr (by grind)) (by grind)
 case spinBack c hp =>
  have s:=sh12 L.sh hp
  exact A_keep h hi rfl rfl (fun g _=>zaD p (p.spinW) _ (by unfold Wd.spinW;omega) (by unfold Wd.spinW;omega) g) rfl rfl rfl rfl rfl rfl (.inr (by grind)) (by grind)
 case drop c hp =>
  have s:=sh8 L.sh hp
  exact A_keep h hi rfl rfl (fun g _=>zaD p (p.spinW) _ (by unfold Wd.spinW;omega) (by unfold Wd.spinW;omega) g) rfl rfl rfl rfl rfl rfl (.inr (by grind)) (by grind)
 case unspin c hp =>
  have s:=sh19 L.sh hp
  exact A_keep h hi rfl rfl (fun g _=>zaD p (p.spinW) _ (by unfold Wd.spinW;omega) (by unfold Wd.spinW;omega) g) rfl rfl rfl rfl rfl rfl (.inr (by grind)) (by grind)
 case dispatch g c hp hg hg2 hs =>
  have s:=sh20 L.sh hp
  refine A_stat h hi rfl rfl g 2 (fun x=>zb4 p g _ hlw hg2 x) (by omega) rfl rfl rfl (fun x=>?_) (fun x=>?_) (fun x=>?_) (fun x=>?_)
  ·grind [zem,b2n]
  ·grind [zev,b2n]
  ·grind [zes,outS,b2n]
  ·grind [outS,b2n]
 case load c hp =>
  have s:=sh21 L.sh hp
  exact A_keep h hi rfl rfl (fun _ _=>rfl) rfl rfl rfl rfl rfl rfl (by grind) (by grind)
 case claim c hp hz =>
  have s:=sh22 L.sh hp
  exact A_keep h hi rfl rfl (fun g _=>zaD p (p.spinW) _ (by unfold Wd.spinW;omega) (by unfold Wd.spinW;omega) g) rfl rfl rfl rfl rfl rfl (.inr (by grind)) (by grind)
 case claimNo c hp hz =>
  have s:=sh22 L.sh hp
  exact A_keep h hi rfl rfl (fun _ _=>rfl) rfl rfl rfl rfl rfl rfl (by grind) (by grind)
 case wake k c hp hk hk2 hz =>
  have s:=sh24 L.sh hp
  exact A_keep h hi rfl rfl (fun g _=>zaD p (p.noteW k) _ (by unfold Wd.noteW;omega) (by unfold Wd.noteW;omega) g) rfl rfl rfl rfl rfl rfl (by grind) (by grind)
 case mark g c hp hg hg2 hs =>
  have s:=sh26 L.sh hp
  refine A_stat h hi rfl rfl g 1 (fun x=>zb4 p g _ hlw hg2 x) (by omega) rfl rfl rfl (fun x=>?_) (fun x=>?_) (fun x=>?_) (fun x=>?_)
  ·grind [zem,b2n]
  ·grind [zev,b2n]
  ·grind [zes,outS,b2n]
  ·grind [outS,b2n]
 case asleep c hp hz=>exact A_same h rfl rfl (fun _ _=>rfl) rfl rfl rfl
 case awake c hp hz hx =>
  have s:=sh16 L.sh hp
  exact A_keep h hi rfl rfl (fun g _=>zaD p (p.noteW i) _ (by unfold Wd.noteW;omega) (by unfold Wd.noteW;omega) g) rfl rfl rfl rfl rfl rfl (.inl s.2.2.2.1.1) (by grind)
 case awakeP c hp hz hx =>
  have s:=sh16 L.sh hp
  exact A_keep h hi rfl rfl (fun g _=>zaD p (p.noteW i) _ (by unfold Wd.noteW;omega) (by unfold Wd.noteW;omega) g) rfl rfl rfl rfl rfl rfl (.inl s.2.2.2.1.1) (by grind)
 case idle=>exact h.A
 case refused c hp=>exact A_same h rfl rfl (fun _ _=>rfl) rfl rfl rfl
 case yield g c hp hg hg2 hs =>
  have s:=sh0 L.sh hp
  refine A_stat h hi rfl rfl g 1 (fun x=>zb4 p g _ hlw hg2 x) (by omega) rfl rfl rfl (fun x=>?_) (fun x=>?_) (fun x=>?_) (fun x=>?_)
  ·grind [zem,b2n]
  ·grind [zev,b2n]
  ·grind [zes,outS,b2n]
  ·grind [outS,b2n]
 case leave g to k c hp hk hg hg2 hs =>
  have s:=sh0 L.sh hp
  refine A_stat h hi rfl rfl g to (fun x=>zb4 p g _ hlw hg2 x) (by omega) rfl rfl rfl (fun x=>?_) (fun x=>?_) (fun x=>?_) (fun x=>?_)
  ·grind [zem,b2n]
  ·grind [zev,b2n]
  ·grind [zes,outS,b2n]
  ·grind [outS,b2n]
 case rouse g fr k c hp hk hg2 hs =>
  have s:=sh0 L.sh hp
  refine A_stat h hi rfl rfl g 1 (fun x=>zb4 p g _ hlw hg2 x) (by omega) rfl rfl rfl (fun x=>?_) (fun x=>?_) (fun x=>?_) (fun x=>?_)
  ·grind [zem,b2n]
  ·grind [zev,b2n]
  ·grind [zes,outS,b2n]
  ·grind [outS,b2n]
 case toPark d hp hd =>
  have s:=sh0 L.sh hp
  exact A_keep h hi rfl rfl (fun _ _=>rfl) rfl rfl rfl rfl rfl rfl (.inl s.2.2.2.1.1) (by grind)
 case toAwait x hp hx =>
  have s:=sh0 L.sh hp
  exact A_keep h hi rfl rfl (fun _ _=>rfl) rfl rfl rfl rfl rfl rfl (.inl s.2.2.2.1.1) (by grind)
end
section
variable {n:Nat} {p p':Wd} {i:Nat}
theorem inv_tr (h:Inv n p) (hn:n<2^62) (hi:i<p.M) (t:Tr p i p'):Inv (n+1) p' :=
 ⟨Sh_tr h hi t,L_tr h hi t,A_tr h hi t,B_tr h hi t,C_tr h hn hi t,D_tr h hi t,E_tr h hi t,S_tr h hi t,log_tr h hi t⟩
theorem C_more {m:Nat} (h:PartC n p) (hm:n≤m):PartC m p:=⟨fun k hk=>⟨(h.le k hk).1,Nat.le_trans (h.le k hk).2 hm⟩,h.one,h.holds⟩
theorem S_more {m:Nat} (h:PartS n p) (hm:n≤m):PartS m p:=⟨h.now,Nat.le_trans h.ord hm,h.tm,h.ords,h.fds,h.fd1,h.few⟩
theorem zbq {m:Nat} (h:Inv n p) (hm:n≤m):Inv m p:=⟨h.sh,h.L,h.A,h.B,C_more h.C hm,h.D,h.E,S_more h.S hm,by have:=h.log;omega⟩
theorem zcL (h:Inv n p) (s:Src) (hs:PartS (n+1) { p with src:=s }) (hc:∀ x,scnt s x=scnt p.src x):Inv (n+1) { p with src:=s } :=
 ⟨⟨h.sh.dP,h.sh.dM,h.sh.dG,h.sh.lr,h.sh.lt,h.sh.la,h.sh.lf,h.sh.lw⟩,L_same h rfl rfl rfl rfl rfl rfl,
  ⟨h.A.st,h.A.R,h.A.X,fun g hg=>by show scnt s g+_=_;rw [hc];exact h.A.S g hg,fun g hg=>by show _≤scnt s g;rw [hc];exact h.A.O g hg,h.A.rr,h.A.rg⟩,
  B_same h rfl rfl rfl rfl,C_same h rfl rfl rfl rfl,D_same h rfl rfl rfl rfl (fun _ _=>rfl),⟨h.E.spin⟩,hs,Nat.le_succ_of_le h.log⟩
theorem zbN (p:Wd) (a x b:Nat) (ha:a<p.ws.length) (h:a≠b):(p.ws.set a x).getD b 0=p.ld b:=by
 rw [zad _ _ _ _ _ ha,if_neg (fun e=>h e.symm)];rfl
theorem inv_told (h:Inv n p) (k:Nat) (c:Int) (hk:p.idle.poller=k):Inv (n+1) { p with idle:={ p.idle with poller:=-1 },ws:=p.ws.set (p.noteW k) 1,cnt:=c }:=by
 have hkM:k<p.M:=by have:=h.D.rpo;omega
 have hlw:=h.sh.lw
 have hr:=reg_of h hkM (.inl hk)
 have hNj:∀ j,j<p.M→(p.ws.set (p.noteW k) 1).getD (p.noteW j) 0=if j=k then 1 else p.note j:=fun j hj=>by
  rw [zad _ _ _ _ _ (by unfold Wd.noteW;omega)]
  unfold Wd.noteW
  by_cases e:j=k
  ·rw [if_pos (by omega),if_pos e]
  ·rw [if_neg (by omega),if_neg e];rfl
 have hst:∀ g,g<p.G→(p.ws.set (p.noteW k) 1).getD (p.statW g) 0=p.sts g:=fun g _=>zbN p _ _ _ (by unfold Wd.noteW;omega) (by unfold Wd.noteW Wd.statW;omega)
 refine ⟨⟨h.sh.dP,h.sh.dM,h.sh.dG,h.sh.lr,h.sh.lt,h.sh.la,h.sh.lf,by simpa using h.sh.lw⟩,L_same h rfl rfl rfl rfl rfl rfl,A_same h rfl rfl hst rfl rfl rfl,B_same h rfl rfl rfl rfl,?_,?_,⟨?_⟩,S_same h.S rfl rfl,Nat.le_succ_of_le h.log⟩
 ·have hs:∀ j,j≤p.P+1→(p.ws.set (p.noteW k) 1).getD (2*j+1) 0=p.serve j:=fun j _=>zbN p _ _ _ (by unfold Wd.noteW;omega) (by unfold Wd.noteW;omega)
  have hnx:∀ j,j≤p.P+1→(p.ws.set (p.noteW k) 1).getD (2*j) 0=p.nextT j:=fun j _=>zbN p _ _ _ (by unfold Wd.noteW;omega) (by unfold Wd.noteW;omega)
  refine ⟨fun j hj=>?_,fun j t hj=>?_,fun j k' hj hn' hs' hk' hl=>?_⟩
  ·show (p.ws.set (p.noteW k) 1).getD (2*j+1) 0≤(p.ws.set (p.noteW k) 1).getD (2*j) 0∧(p.ws.set (p.noteW k) 1).getD (2*j) 0≤n+1
   rw [hs j hj,hnx j hj];have:=h.C.le j hj;omega
  ·show _=b2n ((p.ws.set (p.noteW k) 1).getD (2*j+1) 0≤t∧t<(p.ws.set (p.noteW k) 1).getD (2*j) 0)
   rw [hs j hj,hnx j hj];exact h.C.one j t hj
  ·show _=(p.ws.set (p.noteW k) 1).getD (2*k'+1) 0
   rw [hs k' hk'];exact h.C.holds j k' hj hn' hs' hk' hl
 ·have hc0:p.idle.m.count (k:Int)=0:=by
   have h1:=h.D.reg k hkM
   have:=za3 (regd p k)
   rw [zai hk] at h1;omega
  refine ⟨fun j hj=>?_,h.D.rm,⟨by show (-1:Int) ≤ -1;omega,by show (-1:Int)<p.M;omega⟩,fun j hj=>?_,fun j hj=>?_,h.D.chk,fun j hj a b c=>?_,fun hh=>?_⟩
  ·show p.idle.m.count (j:Int)+b2n ((-1:Int)=j)=b2n (zec (p.mach j)∧(p.mach j).next = -1∧(p.ws.set (p.noteW k) 1).getD (p.noteW j) 0=0∧_)
   have h1:=h.D.reg j hj
   rw [zae (show ¬ (-1:Int)=j by omega)]
   by_cases e:j=k
   ·subst e
    rw [hc0]
    refine (zae fun hh=>?_).symm
    have:=hh.2.2.1;rw [hNj j hj,if_pos rfl] at this;omega
   ·rw [zae (show ¬ p.idle.poller=(j:Int) by rw [hk];omega)] at h1
    refine h1.trans (zal ?_)
    unfold regd
    rw [hNj j hj,if_neg e];exact Iff.rfl
  ·show (p.ws.set (p.noteW k) 1).getD (p.noteW j) 0≤1∧((p.ws.set (p.noteW k) 1).getD (p.noteW j) 0=1→zec (p.mach j))
   rw [hNj j hj]
   by_cases e:j=k
   ·subst e;rw [if_pos rfl];exact ⟨Nat.le_refl _,fun _=>hr.1⟩
   ·rw [if_neg e];exact h.D.nt j hj
  ·show sumL (aims j) p.all=b2n (0≤(p.mach j).next∧(p.ws.set (p.noteW k) 1).getD (p.noteW j) 0=0)
   rw [hNj j hj,h.D.aim j hj]
   refine zal ?_
   by_cases e:j=k
   ·subst e;rw [if_pos rfl];have:=hr.2.1;constructor <;> (intro hh;omega)
   ·rw [if_neg e]
  ·show (p.ws.set (p.noteW k) 1).getD (p.noteW j) 0=0
   rw [hNj j hj]
   by_cases e:j=k
   ·subst e;exact absurd ⟨a,b,c⟩ hr.2.2.2
   ·rw [if_neg e];exact h.D.n15 j hj a b c
  ·have:=h.D.pend hh;rw [hk] at this;omega
 ·show (p.ws.set (p.noteW k) 1).getD (2*(p.P+2)) 0=_
  rw [zbN p _ _ _ (by unfold Wd.noteW;omega) (by unfold Wd.noteW;omega)];exact h.E.spin
theorem tell_eq (h:Inv n p) (due:Bool):p.tell due=p∨∃ k:Nat,p.idle.poller=k∧due=true∧p.tell due={ p with idle:={ p.idle with poller:=-1 },ws:=p.ws.set (p.noteW k) 1,cnt:=Go.RowKit.wrap64 (p.cnt+1) }:=by
 unfold Wd.tell
 by_cases hc:p.idle.poller ≠ -1∧due=true
 ·rw [if_pos hc]
  obtain ⟨k,hk⟩:∃ k:Nat,p.idle.poller=k:=⟨p.idle.poller.toNat,by have:=h.D.rpo;omega⟩
  refine .inr ⟨k,hk,hc.2,?_⟩
  have hkM:k<p.M:=by have:=h.D.rpo;omega
  have hr:=reg_of h hkM (.inl hk)
  have hz:p.ld (p.noteW k)=0:=hr.2.2.1
  simp only [hk,Idle.leave,if_true,Int.toNat_natCast]
  unfold Wd.swap
  show (if p.ld (p.noteW k)=0 then _ else _)=_
  rw [if_pos hz]
  rfl
 ·rw [if_neg hc];exact .inl rfl
theorem zcm (h:Inv n p) (hn:n<2^61) (s:Stp) (hd : -9223372036854775808≤s.d∧s.d≤9223372036854775807):Inv (n+2) (p.step s).1:=by
 unfold Wd.step
 split
 ·rcases pick_tr h s hd with e | ⟨i,hi,_,t⟩
  ·rw [e];exact zbq h (by omega)
  ·exact zbq (inv_tr h (by omega) hi t) (by omega)
 ·have h1:Inv (n+1) { p with src:=p.src.tick s.d }:=zcL h _ (S_tick h.S s.d rfl rfl) (fun _=>rfl)
  rcases tell_eq h1 (p.src.tick s.d).due with e | ⟨k,hk,_,e⟩
  ·simp only;rw [e];exact zbq h1 (by omega)
  ·simp only;rw [e];exact inv_told h1 k _ hk
 ·split
  ·exact zbq h (by omega)
  ·rename_i ha
   have h1:Inv (n+1) { p with src:=(p.src.ready s.a.toNat).1 }:=zcL h _ (S_ready h.S s.a.toNat (by omega) rfl rfl) (fun x=>zcK h.S s.a.toNat x)
   rcases tell_eq h1 ((p.src.ready s.a.toNat).2 && (p.src.ready s.a.toNat).1.due) with e | ⟨k,hk,_,e⟩
   ·simp only;rw [e];exact zbq h1 (by omega)
   ·simp only;rw [e];exact inv_told h1 k _ hk
 ·exact zbq h (by omega)
end
theorem zdR {α:Type} (f:α→Nat) (m:Nat) (a:α):sumL f (List.replicate m a)=m*f a:=by
 induction m with
 | zero=>simp [sumL]
 | succ k ih=>rw [List.replicate_succ];simp only [sumL,ih,Nat.add_mul];omega
theorem zaA {α:Type} (m:Nat) (a:α) (i:Nat):(List.replicate m a).getD i a=a:=by
 rw [List.getD_eq_getElem?_getD,List.getElem?_replicate];split <;> rfl
theorem bits_new (P q:Nat) (hP:1≤P):(2^P - 2).testBit q=decide (1≤q∧q<P):=by
 obtain ⟨k,rfl⟩:∃ k,P=k+1:=⟨P - 1,by omega⟩
 have e:2^(k+1) - 2=2*(2^k - 1):=by rw [Nat.pow_succ];omega
 rw [e]
 cases q with
 | zero=>simp [Nat.testBit_zero]
 | succ q =>
  rw [Nat.testBit_succ,Nat.mul_div_cancel_left _ (by decide),Nat.testBit_two_pow_sub_one]
  simp
theorem zdg (m j:Nat):((List.range m).map fun k=>((k+2:Nat):Int)).count (j:Int)=b2n (2≤j∧j<m+2):=by
 induction m with
 | zero=>simp;exact (zae (by omega)).symm
 | succ m ih =>
  rw [List.range_succ,List.map_append,List.count_append,ih]
  simp only [List.map_cons,List.map_nil,List.count_singleton]
  unfold b2n
  by_cases e:m+2=j
  ·subst e;simp
  ·have:¬ (((m+2:Nat):Int)==(j:Int))=true:=by simp;omega
   rw [if_neg this];split <;> split <;> omega
theorem za4 (P M G i:Nat) (hM:1≤M):(Wd.new P M G).mach i=if i=0 then { Mach.fresh with place:=1,p:=0 } else Mach.fresh:=by
 show ((List.replicate M Mach.fresh).set 0 { Mach.fresh with place:=1,p:=0 }).getD i Mach.fresh=_
 rw [zad _ _ _ _ _ (by simp;omega)]
 split
 ·rfl
 ·exact zaA _ _ _
theorem zbo (P M G:Nat) (hM:1≤M) (f:Mach→Nat):sumL f (Wd.new P M G).all+f Mach.fresh=M*f Mach.fresh+f { Mach.fresh with place:=1,p:=0 }:=by
 have:=zap f (List.replicate M Mach.fresh) 0 { Mach.fresh with place:=1,p:=0 } Mach.fresh (by simp;omega)
 rw [zdR,zaA] at this
 exact this
theorem zdy (P M G a:Nat) (hG:1≤G):(Wd.new P M G).ld a=if a=2*(P+2)+1+M then 1 else 0:=by
 show ((List.replicate (2*(P+2)+1+M+G) 0).set (2*(P+2)+1+M) 1).getD a 0=_
 rw [zad _ _ _ _ _ (by simp;omega),zaA]
theorem inv_new (P M G:Nat) (hd:1≤P∧P≤64∧P≤M∧M≤128∧1≤G∧G≤4096):Inv 0 (Wd.new P M G):=by
 obtain ⟨d1,d2,d3,d4,d5,d6⟩:=hd
 have hM:1≤M:=by omega
 have hP':(Wd.new P M G).P=P:=rfl
 have hM':(Wd.new P M G).M=M:=rfl
 have hG':(Wd.new P M G).G=G:=rfl
 have hfl:∀ i,(Wd.new P M G).fl i=false:=fun i=>zaA M false i
 have hnote:∀ i,i<M→(Wd.new P M G).note i=0:=fun i hi=>by
  unfold Wd.note;rw [zdy P M G _ d5,if_neg (by unfold Wd.noteW;rw [hP'];omega)]
 have hsts:∀ g,(Wd.new P M G).sts g=if g=0 then 1 else 0:=fun g=>by
  unfold Wd.sts Wd.statW;rw [zdy P M G _ d5,hP',hM']
  by_cases e:g=0
  ·rw [if_pos (by omega),if_pos e]
  ·rw [if_neg (by omega),if_neg e]
 have hring:∀ r,r∈(Wd.new P M G).rings→r=Ring.new:=fun r hr=>List.eq_of_mem_replicate hr
 refine ⟨⟨⟨d1,d2⟩,⟨d3,d4⟩,⟨d5,d6⟩,by simp [Wd.new],by simp [Wd.new],by simp [Wd.new],by simp [Wd.new],by simp [Wd.new]⟩,⟨fun i hi=>?_,fun i hi hn=>?_,fun i hi hp hs=>?_⟩,
  ⟨fun g hg=>?_,fun g hg=>?_,fun g hg=>?_,fun g hg=>?_,fun g hg=>?_,fun r hr=>?_,fun x hx=>?_⟩,⟨fun q hq=>?_,?_,fun x hx=>by cases hx⟩,⟨fun k hk=>?_,fun k t hk=>?_,fun i k hi hn=>?_⟩,
  ⟨fun i hi=>?_,fun x hx=>?_,?_,fun i hi=>?_,fun i hi=>?_,fun i hi hc=>?_,fun i hi a=>?_,fun hh=>absurd rfl hh⟩,⟨?_⟩,?_,Nat.le_refl _⟩
 ·rw [za4 P M G i hM,hfl,hP',hM',hG']
  split
  ·exact ⟨by unfold shape zer;simp [Mach.fresh],by simp;omega,by simp [Mach.fresh] <;> omega,by simp [Mach.fresh] <;> omega,by simp [Mach.fresh] <;> omega,by simp [Mach.fresh] <;> omega,fun x hx=>by simp [Mach.fresh] at hx,fun hh=>by simp [Mach.fresh] at hh,by simp [Mach.fresh],by simp [Mach.fresh]⟩
  ·exact ⟨by unfold shape zer;simp [Mach.fresh],by simp [Mach.fresh] <;> omega,by simp [Mach.fresh] <;> omega,by simp [Mach.fresh] <;> omega,by simp [Mach.fresh] <;> omega,by simp [Mach.fresh] <;> omega,fun x hx=>by simp [Mach.fresh] at hx,fun hh=>by simp [Mach.fresh] at hh,by simp [Mach.fresh],by simp [Mach.fresh]⟩
 ·rw [za4 P M G i hM] at hn;split at hn <;> simp [Mach.fresh] at hn
 ·rw [za4 P M G i hM] at hp;split at hp <;> simp [Mach.fresh] at hp
 ·rw [hsts];split <;> omega
 ·have:=zbo P M G hM (zem g)
  have e1:zem g Mach.fresh=0:=by unfold zem;rw [zae (by simp [Mach.fresh] <;> omega)];rfl
  have e2:zem g { Mach.fresh with place:=1,p:=0 }=0:=by unfold zem;rw [zae (by simp [Mach.fresh] <;> omega)];rfl
  rw [e1,e2] at this
  have e3:qcnt (Wd.new P M G).rings (Wd.new P M G).glob g=b2n (g=0):=by
   unfold qcnt
   rw [zdz _ _ Ring.new (fun i hi=>by rw [show (Wd.new P M G).rings.getD i Ring.new=Ring.new from zaA P Ring.new i];simp [Ring.all,Ring.new])]
   show 0+[(0:Int)].count (g:Int)=_
   rw [List.count_singleton];unfold b2n;by_cases e:g=0
   ·subst e;simp
   ·have:¬ ((0:Int)==(g:Int))=true:=by simp;omega
    rw [if_neg this,if_neg e]
  rw [e3,hsts]
  by_cases e:g=0
  ·rw [if_pos e,zai e,zai rfl];omega
  ·rw [if_neg e,zae e,zae (by omega)];omega
 ·have:=zbo P M G hM (zev g)
  have e1:zev g Mach.fresh=0:=by unfold zev;exact zae (by simp [Mach.fresh] <;> omega)
  have e2:zev g { Mach.fresh with place:=1,p:=0 }=0:=by unfold zev;exact zae (by simp [Mach.fresh] <;> omega)
  rw [e1,e2] at this
  rw [hsts,zae (by split <;> omega)];omega
 ·have h1:=zbo P M G hM (zes g)
  have h2:=zbo P M G hM (outS g)
  have e1:zes g Mach.fresh=0:=by unfold zes;exact zae (by simp [Mach.fresh])
  have e2:zes g { Mach.fresh with place:=1,p:=0 }=0:=by unfold zes;exact zae (by simp [Mach.fresh])
  have e3:outS g Mach.fresh=0:=by unfold outS;exact zae (by simp [Mach.fresh])
  have e4:outS g { Mach.fresh with place:=1,p:=0 }=0:=by unfold outS;exact zae (by simp [Mach.fresh])
  rw [e1,e2] at h1
  rw [e3,e4] at h2
  rw [hsts,zae (by split <;> omega)]
  show 0+_=_;omega
 ·have h2:=zbo P M G hM (outS g)
  have e3:outS g Mach.fresh=0:=by unfold outS;exact zae (by simp [Mach.fresh])
  have e4:outS g { Mach.fresh with place:=1,p:=0 }=0:=by unfold outS;exact zae (by simp [Mach.fresh])
  rw [e3,e4] at h2;omega
 ·rw [hring r hr];exact ⟨by decide,fun x hx=>by simp [Ring.all,Ring.new] at hx⟩
 ·have:x=0:=by simpa [Wd.new] using hx
  rw [this,hG'];omega
 ·have h1:=zbo P M G hM (zee q)
  have e1:zee q Mach.fresh=0:=by unfold zee;rw [zae (by simp [Mach.fresh] <;> omega),zae (by simp [Mach.fresh] <;> omega)]
  have e2:zee q { Mach.fresh with place:=1,p:=0 }=b2n (q=0):=by
   unfold zee;rw [zae (P:=Mach.next _=_) (by simp [Mach.fresh] <;> omega)]
   exact zal (by simp;omega)
  rw [e1,e2] at h1
  show b2n ((2^P - 2).testBit q=true)+0+_=1
  rw [bits_new P q d1]
  rw [hP'] at hq
  by_cases e:q=0
  ·rw [zai e] at h1;rw [zae (by simp;omega)];omega
  ·rw [zae e] at h1;rw [zai (by simp;omega)];omega
 ·show 2^P - 2<2^P
  have:=Nat.two_pow_pos P;omega
 ·unfold Wd.serve Wd.nextT
  rw [zdy P M G _ d5,zdy P M G _ d5,if_neg (by rw [hP'] at hk;omega),if_neg (by rw [hP'] at hk;omega)];omega
 ·have h1:=zbo P M G hM (zed k t)
  have e1:zed k t Mach.fresh=0:=by unfold zed;exact zae (by simp [Mach.fresh])
  have e2:zed k t { Mach.fresh with place:=1,p:=0 }=0:=by unfold zed;exact zae (by simp [Mach.fresh])
  rw [e1,e2] at h1
  rw [zae (by unfold Wd.nextT;rw [zdy P M G _ d5,if_neg (by rw [hP'] at hk;omega)];omega)];omega
 ·rw [za4 P M G i hM] at hn;split at hn <;> simp [Mach.fresh] at hn
 ·have hi':i<M:=hi
  show ((List.range (M - 2)).map fun k=>((k+2:Nat):Int)).count (i:Int)+b2n ((if M≤1 then (-1:Int) else 1)=i)=b2n (regd (Wd.new P M G) i)
  rw [zdg]
  have e:regd (Wd.new P M G) i ↔ i≠0:=by
   unfold regd
   rw [za4 P M G i hM,hnote i hi']
   by_cases e:i=0
   ·simp [e,zec]
   ·simp [e,zec,Mach.fresh]
  rw [zal e]
  unfold b2n
  (repeat' split) <;> omega
 ·have hx':x∈((List.range (M - 2)).map fun k=>((k+2:Nat):Int)):=hx
  simp only [List.mem_map,List.mem_range] at hx'
  obtain ⟨k,hk,rfl⟩:=hx'
  rw [hM'];omega
 ·show (-1:Int)≤(if M≤1 then (-1:Int) else 1)∧(if M≤1 then (-1:Int) else 1)<(M:Int)
  split <;> omega
 ·rw [hnote i hi];exact ⟨Nat.zero_le _,fun h=>by omega⟩
 ·have h1:=zbo P M G hM (aims i)
  have e1:aims i Mach.fresh=0:=by unfold aims;exact zae (by simp [Mach.fresh] <;> omega)
  have e2:aims i { Mach.fresh with place:=1,p:=0 }=0:=by unfold aims;exact zae (by simp [Mach.fresh] <;> omega)
  rw [e1,e2] at h1
  rw [zae (by rw [za4 P M G i hM];split <;> simp [Mach.fresh])];omega
 ·rw [za4 P M G i hM] at hc;split at hc <;> simp [Mach.fresh] at hc
 ·rw [za4 P M G i hM] at a;split at a <;> simp [Mach.fresh] at a
 ·have h1:=zbo P M G hM spins
  have e1:spins Mach.fresh=0:=by decide
  have e2:spins { Mach.fresh with place:=1,p:=0 }=0:=by decide
  rw [e1,e2] at h1
  unfold Wd.spinN
  rw [zdy P M G _ d5,if_neg (by unfold Wd.spinW;rw [hP'];omega)]
  show 0=_+0;omega
 ·exact ⟨by show (0:Int)≤0∧(0:Int)≤9223372036854775807;omega,Nat.le_refl _,fun e he=>absurd he (List.not_mem_nil),fun _=>Nat.zero_le _,fun e he=>absurd he (List.not_mem_nil),fun _=>Nat.zero_le _,Nat.zero_le _⟩
theorem run_cons (p:Wd) (s:Stp) (l:List Stp) (k:Nat):(s :: l).foldl (fun (x,n) s=>let (y,b):=x.step s;(y,if b then n+1 else n)) (p,k)=l.foldl (fun (x,n) s=>let (y,b):=x.step s;(y,if b then n+1 else n)) ((p.step s).1,if (p.step s).2 then k+1 else k):=rfl
theorem inv_run:∀ (l:List Stp) (n k:Nat) (p:Wd),Inv n p→n+2*l.length<2^61→(∀ s,s∈l → -9223372036854775808≤s.d∧s.d≤9223372036854775807) →
  Inv (n+2*l.length) (l.foldl (fun (x,n) s=>let (y,b):=x.step s;(y,if b then n+1 else n)) (p,k)).1
 | [],n,k,p,h,_,_=>h
 | s :: l,n,k,p,h,hn,hd=>by
  rw [run_cons]
  simp only [List.length_cons] at hn ⊢
  have:=inv_run l (n+2) (if (p.step s).2 then k+1 else k) (p.step s).1 (zcm h (by omega) s (hd s (by simp))) (by omega) (fun s hs=>hd s (by simp [hs]))
  exact zbq this (by omega)
end Hst
