/- Parts of the proof. -/
import Derived.Test.YtlmmjgekolpekaaGreatDoorMPk05
set_option linter.unusedVariables false
set_option linter.unusedSimpArgs false
set_option linter.unusedSectionVars false
set_option maxRecDepth 100000
set_option maxHeartbeats 6400000
namespace Hst
section
variable {n:Nat} {p p':Wd} {i:Nat}
theorem D_of {q:Wd} {m':Mach} {f':Bool} (h:Inv n p) (hi:i<p.M) (hM:q.M=p.M) (hall:q.all=p.all.set i m') (hfl:q.flag=p.flag.set i f'∨(q.flag=p.flag∧f'=p.fl i))
  (hN:∀ j,j<p.M→j≠i→q.note j=p.note j) (hc:∀ j:Nat,j≠i→q.idle.m.count (j:Int)=p.idle.m.count (j:Int)∧(q.idle.poller=j ↔ p.idle.poller=j))
  (hr:q.idle.m.count (i:Int)+b2n (q.idle.poller=i)=b2n (zec m'∧m'.next = -1∧q.note i=0∧¬ (m'.place=15∧m'.s3∧f'=true)))
  (ht:m'.target=(p.mach i).target) (ha:(0≤m'.next∧q.note i=0) ↔ (0≤(p.mach i).next∧p.note i=0)) (hnt:q.note i≤1∧(q.note i=1→zec m'))
  (hk:(m'.place=14∨m'.place=15∨(m'.place=13∧m'.s3∧f'=true))→q.idle.m.count (i:Int)=0) (h15:m'.place=15→m'.s3→f'=true→q.note i=0)
  (hrm:∀ x,x∈q.idle.m→0≤x∧x<p.M) (hrp : -1≤q.idle.poller∧q.idle.poller<p.M) (hp:q.idle.pending≠[]→q.idle.m=[]∧q.idle.poller = -1):PartD q:=by
 have hla:=h.la hi
 have hlf:i<p.flag.length:=by rw [h.sh.lf];exact hi
 have hfl2:∀ j,q.fl j=if j=i then f' else p.fl j:=fun j=>by
  unfold Wd.fl
  rcases hfl with e | ⟨e,e2⟩
  ·rw [e];exact zad p.flag i j f' false hlf
  ·rw [e];split
   ·rename_i e3;rw [e2,e3];rfl
   ·rfl
 have hm:=zba hall hla
 refine ⟨fun j hj=>?_,by rw [hM];exact hrm,by rw [hM];exact hrp,fun j hj=>?_,fun j hj=>?_,fun j hj hc2=>?_,fun j hj a b c=>?_,hp⟩
 ·rw [hM] at hj
  unfold regd
  rw [hm,hfl2]
  by_cases e:j=i
  ·subst e;simp only [if_true];exact hr
  ·simp only [e,if_false,hN j hj e]
   obtain ⟨e1,e2⟩:=hc j e
   rw [e1,zal e2]
   exact h.D.reg j hj
 ·rw [hM] at hj
  rw [hm]
  by_cases e:j=i
  ·subst e;simp only [if_true];exact hnt
  ·simp only [e,if_false,hN j hj e];exact h.D.nt j hj
 ·rw [hM] at hj
  have h3:=zap (aims j) p.all i m' Mach.fresh hla
  have h4:aims j m'=aims j (p.all.getD i Mach.fresh):=by unfold aims;rw [ht];rfl
  rw [hall,hm]
  have h5:=h.D.aim j hj
  by_cases e:j=i
  ·subst e;simp only [if_true];rw [zal ha];omega
  ·simp only [e,if_false,hN j hj e];omega
 ·rw [hM] at hj
  rw [hm,hfl2] at hc2
  by_cases e:j=i
  ·subst e;simp only [if_true] at hc2;exact hk hc2
  ·simp only [e,if_false] at hc2;rw [(hc j e).1];exact h.D.chk j hj hc2
 ·rw [hM] at hj
  rw [hm] at a b
  rw [hfl2] at c
  by_cases e:j=i
  ·subst e;simp only [if_true] at a b c;exact h15 a b c
  ·simp only [e,if_false] at a b c;rw [hN j hj e];exact h.D.n15 j hj a b c
theorem zaH (h:Inv n p) (hi:i<p.M) (hr:¬ regd p i):p.idle.m.count (i:Int)=0∧p.idle.poller≠i:=by
 have h1:=h.D.reg i hi
 rw [zae hr] at h1
 refine ⟨by omega,fun e=>?_⟩
 rw [zai e] at h1;omega
theorem D_keep {q:Wd} {m':Mach} {f':Bool} (h:Inv n p) (hi:i<p.M) (hM:q.M=p.M) (hall:q.all=p.all.set i m') (hfl:q.flag=p.flag.set i f'∨(q.flag=p.flag∧f'=p.fl i))
  (hN:∀ j,j<p.M→q.note j=p.note j) (e1:q.idle.m=p.idle.m) (e2:q.idle.poller=p.idle.poller) (hp:q.idle.pending≠[]→p.idle.pending≠[]∨(p.idle.m=[]∧p.idle.poller = -1))
  (hg:¬ zec (p.mach i)) (hg':¬ zec m') (hx:m'.next=(p.mach i).next) (ht:m'.target=(p.mach i).target):PartD q:=by
 obtain ⟨c0,c1⟩:=zaH h hi (fun hr=>hg hr.1)
 have hni:=h.D.nt i hi
 have hn0:p.note i=0:=by
  by_cases e:p.note i=1
  ·exact absurd (hni.2 e) hg
  ·omega
 refine D_of h hi hM hall hfl (fun j hj _=>hN j hj) (fun j _=>by rw [e1,e2];exact ⟨rfl,Iff.rfl⟩) ?_ ht (by rw [hx,hN i hi]) ⟨by rw [hN i hi];omega,fun e=>?_⟩ (fun _=>by rw [e1];exact c0) (fun _ _ _=>by rw [hN i hi];exact hn0) (by rw [e1];exact h.D.rm) (by rw [e2];exact h.D.rpo) (fun hh=>?_)
 ·rw [e1,e2,c0,zae c1,zae (fun hr=>hg' hr.1)]
 ·rw [hN i hi] at e;omega
 ·rw [e1,e2]
  rcases hp hh with hx | hx
  ·exact h.D.pend hx
  ·exact hx
theorem D_same {q:Wd} (h:Inv n p) (hM:q.M=p.M) (hall:q.all=p.all) (hfl:q.flag=p.flag) (hid:q.idle=p.idle) (hN:∀ j,j<p.M→q.note j=p.note j):PartD q:=by
 have hm:∀ j,q.mach j=p.mach j:=fun j=>by unfold Wd.mach;rw [hall]
 have hf:∀ j,q.fl j=p.fl j:=fun j=>by unfold Wd.fl;rw [hfl]
 refine ⟨fun j hj=>?_,by rw [hM,hid];exact h.D.rm,by rw [hM,hid];exact h.D.rpo,fun j hj=>?_,fun j hj=>?_,fun j hj hc=>?_,fun j hj a b c=>?_,by rw [hid];exact h.D.pend⟩
 ·rw [hM] at hj;unfold regd;rw [hm,hf,hN j hj,hid];exact h.D.reg j hj
 ·rw [hM] at hj;rw [hm,hN j hj];exact h.D.nt j hj
 ·rw [hM] at hj;rw [hall,hm,hN j hj];exact h.D.aim j hj
 ·rw [hM] at hj;rw [hm,hf] at hc;rw [hid];exact h.D.chk j hj hc
 ·rw [hM] at hj;rw [hm] at a b;rw [hf] at c;rw [hN j hj];exact h.D.n15 j hj a b c
theorem zat (h:Inv n p) (a x:Nat) (ha:a<p.ws.length) (hne:∀ j,j<p.M→a≠2*(p.P+2)+1+j) (j:Nat) (hj:j<p.M):(p.ws.set a x).getD (2*(p.P+2)+1+j) 0=p.note j:=by
 rw [zad _ _ _ _ _ ha,if_neg (fun e=>hne j hj e.symm)];rfl
theorem D_given {q:Wd} {m':Mach} {f':Bool} (h:Inv n p) (hi:i<p.M) (hM:q.M=p.M) (hall:q.all=p.all.set i m') (hfl:q.flag=p.flag.set i f'∨(q.flag=p.flag∧f'=p.fl i))
  (hN:∀ j,j<p.M→q.note j=p.note j) (hid:q.idle=p.idle)
  (hg:zec (p.mach i)) (hg':zec m') (hx:m'.next=(p.mach i).next) (ht:m'.target=(p.mach i).target)
  (h1:¬ ((p.mach i).place=15∧(p.mach i).s3∧p.fl i=true)) (h2:¬ (m'.place=15∧m'.s3∧f'=true))
  (hk:(m'.place=14∨m'.place=15∨(m'.place=13∧m'.s3∧f'=true))→((p.mach i).place=14∨(p.mach i).place=15∨((p.mach i).place=13∧(p.mach i).s3∧p.fl i=true))):PartD q:=by
 refine D_of h hi hM hall hfl (fun j hj _=>hN j hj) (fun j _=>by rw [hid];exact ⟨rfl,Iff.rfl⟩) ?_ ht (by rw [hx,hN i hi]) (by rw [hN i hi];exact ⟨(h.D.nt i hi).1,fun _=>hg'⟩) (fun hh=>by rw [hid];exact h.D.chk i hi (hk hh)) (fun a b c=>absurd ⟨a,b,c⟩ h2) (by rw [hid];exact h.D.rm) (by rw [hid];exact h.D.rpo) (by rw [hid];exact h.D.pend)
 rw [hid,h.D.reg i hi]
 refine zal ?_
 unfold regd
 rw [hN i hi,hx]
 constructor
 ·rintro ⟨_,a,b,_⟩;exact ⟨hg',a,b,h2⟩
 ·rintro ⟨_,a,b,_⟩;exact ⟨hg,a,b,h1⟩
theorem then_ungiven {P:Nat} {f:Bool} {m:Mach} (sh:shape P f m) (h3:m.s3) (hg:¬ zec m):¬ zec (zei P f { m with stage:=4,inn:=false }):=by
 unfold shape at sh
 unfold zec at hg ⊢
 split at sh
 all_goals (rename_i hpl)
 all_goals first
  | exact absurd sh.1 (by rw [h3.1];decide)
  | exact sh.elim
  | (simp only [zei,hpl,thenS,zeA];(repeat' split) <;> grind)
theorem D_tr (h:Inv n p) (hi:i<p.M) (t:Tr p i p'):PartD p':=by
 have hla:=h.la hi
 have hP:=h.sh.dP
 have hlw:=h.sh.lw
 have L:=h.L.loc i hi
 cases t
 case take k c hn hk =>
  have hkP:=zcb _ _ hk hP.1
  have hpl:=zaQ _ _ hk
  have hN:∀ j,j<p.M→(p.ws.set (2*k) ((p.nextT k+1) % 2^64)).getD (2*(p.P+2)+1+j) 0=p.note j:=fun j hj=>zat h (2*k) _ (by omega) (fun _ _=>by omega) j hj
  by_cases hg:zec (p.mach i)
  ·refine D_given (f':=false) h hi rfl rfl (.inl rfl) hN rfl hg ?_ rfl rfl (fun hh=>absurd hh.2.1.1 (by rw [hn];decide)) (by simp) (fun hh=>?_)
   ·rcases hg with e | e | e | e
    ·exact .inl e
    ·exact .inr (.inl e)
    ·exact .inr (.inr (.inl e))
    ·exact absurd e.2.1.1 (by rw [hn];decide)
   ·rcases hh with e | e | e
    ·exact .inl e
    ·exact .inr (.inl e)
    ·exact absurd e.2.2 (by simp)
  ·refine D_keep (f':=false) h hi rfl rfl (.inl rfl) hN rfl rfl (fun hh=>.inl hh) hg ?_ rfl rfl
   intro hg2
   apply hg
   rcases hg2 with e | e | e | e
   ·exact .inl e
   ·exact .inr (.inl e)
   ·exact .inr (.inr (.inl e))
   ·exact absurd e.2.1.2 (by show ¬ 1=3;decide)
 case miss c k hn hs hk ht=>exact D_same h rfl rfl rfl rfl (fun _ _=>rfl)
 case hit k c hn hs hk ht =>
  by_cases hg:zec (p.mach i)
  ·have hpl:(p.mach i).place=14∨(p.mach i).place=15∨(p.mach i).place=16:=by
    rcases hg with e | e | e | e
    ·exact .inl e
    ·exact .inr (.inl e)
    ·exact .inr (.inr e)
    ·exact absurd e.2.1.2 (by rw [hs];decide)
   refine D_given (f':=p.fl i) h hi rfl rfl (.inr ⟨rfl,rfl⟩) (fun _ _=>rfl) rfl hg (by unfold zec;simp;omega) rfl rfl (fun hh=>absurd hh.2.1.2 (by rw [hs];decide)) (by simp) (fun hh=>?_)
   rcases hh with e | e | e
   ·exact .inl e
   ·exact .inr (.inl e)
   ·exact absurd e.2.1.2 (by show ¬ 2=3;decide)
  ·refine D_keep (f':=p.fl i) h hi rfl rfl (.inr ⟨rfl,rfl⟩) (fun _ _=>rfl) rfl rfl (fun hh=>.inl hh) hg ?_ rfl rfl
   intro hg2
   apply hg
   rcases hg2 with e | e | e | e
   ·exact .inl e
   ·exact .inr (.inl e)
   ·exact .inr (.inr (.inl e))
   ·exact absurd e.2.1.2 (by show ¬ 2=3;decide)
 case foundR q r' g t h0 hp hq hc hl=>exact D_keep (f':=true) h hi rfl rfl (.inl rfl) (fun _ _=>rfl) rfl rfl (fun hh=>.inl hh) (by unfold zec;simp [h0.2.1];omega) (by unfold zec;simp;omega) rfl rfl
 case foundG g t glob' h0 hp hg=>exact D_keep (f':=true) h hi rfl rfl (.inl rfl) (fun _ _=>rfl) rfl rfl (fun hh=>.inl hh) (by unfold zec;simp [h0.2.1];omega) (by unfold zec;simp;omega) rfl rfl
 case told b h0 ht =>
  by_cases hg:zec (p.mach i)
  ·have hpl:(p.mach i).place=14∨((p.mach i).place=15∧b=false):=by
    rcases hg with e | e | e | e
    ·exact .inl e
    ·simp only [Told,e] at ht;exact .inr ⟨e,ht.1⟩
    ·simp only [Told,e] at ht
    ·exact absurd e.2.1.2 (by rw [h0.2.1];decide)
   refine D_given (f':=b) h hi rfl rfl (.inl rfl) (fun _ _=>rfl) rfl hg (by unfold zec;simp;omega) rfl rfl (fun hh=>absurd hh.2.1.2 (by rw [h0.2.1];decide)) (by rcases hpl with e | ⟨e,e2⟩ <;> simp [e, *]) (fun _=>by omega)
  ·have hpl:(p.mach i).place≠13:=fun e=>by simp only [Told,e] at ht
   refine D_keep (f':=b) h hi rfl rfl (.inl rfl) (fun _ _=>rfl) rfl rfl (fun hh=>.inl hh) hg ?_ rfl rfl
   intro hg2
   apply hg
   rcases hg2 with e | e | e | e
   ·exact .inl e
   ·exact .inr (.inl e)
   ·exact .inr (.inr (.inl e))
   ·exact absurd e.1 hpl
 case release q h0 hp hg hq=>exact D_keep (f':=false) h hi rfl rfl (.inl rfl) (fun _ _=>rfl) rfl rfl (fun hh=>.inl hh) (by unfold zec;simp [hp]) (by unfold zec;simp [hp]) rfl rfl
 case retake q h0 hp hq hq2=>exact D_keep (f':=true) h hi rfl rfl (.inl rfl) (fun _ _=>rfl) rfl rfl (fun hh=>.inl hh) (by unfold zec;simp [hp]) (by unfold zec;simp [hp]) rfl rfl
 case pending q t h0 hp hq=>refine D_keep (f':=true) h hi rfl rfl (.inl rfl) (fun _ _=>rfl) rfl rfl (fun _=>.inl (by rw [hq];simp)) (by unfold zec;simp [hp,h0.2.1]) (by unfold zec;simp [hp]) rfl rfl
 case stopP h0 hp hq ho =>
  have hng:¬ zec (p.mach i):=by unfold zec;simp [hp,h0.2.1]
  have hn0:p.note i=0:=by
   have hni:=h.D.nt i hi
   by_cases e:p.note i=1
   ·exact absurd (hni.2 e) hng
   ·omega
  have hnx:=zaE h hi hng
  obtain ⟨c0,c1⟩:=zaH h hi (fun hr=>hng hr.1)
  refine D_of (f':=true) h hi rfl rfl (.inl rfl) (fun _ _ _=>rfl) (fun j hj=>⟨rfl,?_⟩) ?_ rfl Iff.rfl ⟨by show p.note i≤1;omega,fun _=>.inr (.inr (.inr ⟨hp,⟨h0.1,rfl⟩,rfl⟩))⟩ (fun _=>c0) (fun _ _ _=>hn0) h.D.rm (by show (-1:Int)≤i∧(i:Int)<p.M;omega) (fun hh=>absurd hq hh)
  ·show (i:Int)=j ↔ p.idle.poller=j
   rw [ho];omega
  ·show p.idle.m.count (i:Int)+b2n ((i:Int)=i)=_
   rw [c0,zai rfl,zai ⟨.inr (.inr (.inr ⟨hp,⟨h0.1,rfl⟩,rfl⟩)),hnx,hn0,by simp [hp]⟩]
 case stopM h0 hp hq ho =>
  have hng:¬ zec (p.mach i):=by unfold zec;simp [hp,h0.2.1]
  have hn0:p.note i=0:=by
   have hni:=h.D.nt i hi
   by_cases e:p.note i=1
   ·exact absurd (hni.2 e) hng
   ·omega
  have hnx:=zaE h hi hng
  obtain ⟨c0,c1⟩:=zaH h hi (fun hr=>hng hr.1)
  refine D_of (f':=false) h hi rfl rfl (.inl rfl) (fun _ _ _=>rfl) (fun j hj=>⟨?_,Iff.rfl⟩) ?_ rfl Iff.rfl ⟨by show p.note i≤1;omega,fun _=>.inr (.inr (.inr ⟨hp,⟨h0.1,rfl⟩,rfl⟩))⟩ (fun hh=>?_) (fun _ _ _=>hn0) (fun x hx=>?_) h.D.rpo (fun hh=>absurd hq hh)
  ·show (p.idle.m++[(i:Int)]).count (j:Int)=_
   rw [List.count_append,List.count_singleton,if_neg (by simp;omega)];rfl
  ·show (p.idle.m++[(i:Int)]).count (i:Int)+b2n (p.idle.poller=i)=_
   rw [List.count_append,List.count_singleton,if_pos (by simp),c0,zae c1,zai ⟨.inr (.inr (.inr ⟨hp,⟨h0.1,rfl⟩,rfl⟩)),hnx,hn0,by simp [hp]⟩]
  ·simp [hp] at hh
  ·simp only [List.mem_append,List.mem_singleton] at hx
   rcases hx with hx | hx
   ·exact h.D.rm x hx
   ·subst hx;exact ⟨by omega,by show (i:Int)<p.M;omega⟩
 case unpoll h0 hp ho =>
  have hr:=reg_of h hi (.inl ho)
  have h1:=h.D.reg i hi
  have hle:=za3 (regd p i)
  rw [zai ho] at h1
  have c0:p.idle.m.count (i:Int)=0:=by omega
  refine D_of (f':=true) h hi rfl rfl (.inl rfl) (fun _ _ _=>rfl) (fun j hj=>⟨rfl,?_⟩) ?_ rfl Iff.rfl ⟨(h.D.nt i hi).1,fun _=>.inr (.inl hp)⟩ (fun _=>c0) (fun _ _ _=>hr.2.2.1) h.D.rm (by show (-1:Int) ≤ -1∧(-1:Int)<p.M;omega) (fun hh=>?_)
  ·show (-1:Int)=j ↔ p.idle.poller=j
   rw [ho];omega
  ·show p.idle.m.count (i:Int)+b2n ((-1:Int)=i)=_
   rw [c0,zae (by omega),zae (by simp [hp,h0.1])]
  ·have:=h.D.pend hh;rw [ho] at this;omega
 case putOver h0 hp=>exact D_keep (f':=p.fl i) h hi rfl rfl (.inr ⟨rfl,rfl⟩) (fun _ _=>rfl) rfl rfl (fun hh=>.inl hh) (by unfold zec;simp [hp]) (by unfold zec;simp [hp]) rfl rfl
 case putOne h0 hp=>exact D_keep (f':=p.fl i) h hi rfl rfl (.inr ⟨rfl,rfl⟩) (fun _ _=>rfl) rfl rfl (fun hh=>.inl hh) (by unfold zec;simp [hp]) (by unfold zec;simp [hp]) rfl rfl
 case putRest q r' t h0 hp hq he=>exact D_keep (f':=p.fl i) h hi rfl rfl (.inr ⟨rfl,rfl⟩) (fun _ _=>rfl) rfl rfl (fun hh=>.inl hh) (by unfold zec;simp [hp]) (by unfold zec;simp [hp]) rfl rfl
 case putNext q r' t h0 hp hq he=>exact D_keep (f':=p.fl i) h hi rfl rfl (.inr ⟨rfl,rfl⟩) (fun _ _=>rfl) rfl rfl (fun hh=>.inl hh) (by unfold zec;simp [hp]) (by unfold zec;simp [hp]) rfl rfl
 case deliv s g h0 hp he=>exact D_keep (f':=true) h hi rfl rfl (.inl rfl) (fun _ _=>rfl) rfl rfl (fun hh=>.inl hh) (by unfold zec;simp [hp]) (by unfold zec;simp [hp]) rfl rfl
 case findNo h0 hp hz=>exact D_keep (f':=p.fl i) h hi rfl rfl (.inr ⟨rfl,rfl⟩) (fun _ _=>rfl) rfl rfl (fun hh=>.inl hh) (by unfold zec;simp [hp]) (by unfold zec;simp [hp]) rfl rfl
 case findBack c h1 hp=>exact D_keep (f':=p.fl i) h hi rfl rfl (.inr ⟨rfl,rfl⟩) (fun j hj=>zat h (p.spinW) _ (by unfold Wd.spinW;omega) (fun _ _=>by unfold Wd.spinW;omega) j hj) rfl rfl (fun hh=>.inl hh) (by unfold zec;simp [hp]) (by unfold zec;simp [hp]) rfl rfl
 case findM q k h0 hp hq hq2 m' o' hm =>
  obtain ⟨hkM,hik,hr⟩:=zbv h hi hp hm
  have hkl:k<p.all.length:=by rw [h.sh.la];exact hkM
  have hng:¬ zec (p.mach i):=by unfold zec;simp [hp]
  have hnx:=zaE h hi hng
  have s:=sh23 L.sh hp
  have htg:(p.mach i).target = -1:=by rcases s.2.2.2 with e | e;exact absurd e.2 (by rw [h0.2.1];decide);exact e
  obtain ⟨hrg,hrn,hrt,hr15⟩:=hr
  have hm2:∀ j,((p.all.set k { p.mach k with next:=(q:Int) }).set i { p.mach i with target:=(k:Int),times:=1,stage:=3 }).getD j Mach.fresh=if j=i then { p.mach i with target:=(k:Int),times:=1,stage:=3 } else if j=k then { p.mach k with next:=(q:Int) } else p.mach j:=fun j=>by
   rw [zad _ _ _ _ _ (by simpa using hla),zad _ _ _ _ _ hkl];rfl
  have hcnt:∀ j:Nat,m'.count (j:Int)+b2n (o'=j)+b2n (j=k)=p.idle.m.count (j:Int)+b2n (p.idle.poller=j):=fun j=>by
   rcases hm with ⟨e1,e2⟩ | ⟨e1,e2,e3,e4⟩
   ·rw [e1,e2,List.count_append,List.count_singleton];unfold b2n;simp only [beq_iff_eq];(repeat' split) <;> omega
   ·rw [e1,e2,e3,e4];unfold b2n;simp;(repeat' split) <;> omega
  have hcm:∀ j:Nat,p.idle.m.count (j:Int)=0→m'.count (j:Int)=0:=fun j hj=>by
   rcases hm with ⟨e1,_⟩ | ⟨_,e2,_⟩
   ·rw [e1,List.count_append] at hj;omega
   ·rw [e2];rfl
  refine ⟨fun j hj=>?_,fun x hx=>?_,?_,fun j hj=>?_,fun j hj=>?_,fun j hj hc=>?_,fun j hj a b c=>?_,fun hh=>?_⟩
  ·show m'.count (j:Int)+b2n (o'=j)=b2n (zec (((p.all.set k { p.mach k with next:=(q:Int) }).set i { p.mach i with target:=(k:Int),times:=1,stage:=3 }).getD j Mach.fresh)∧(((p.all.set k { p.mach k with next:=(q:Int) }).set i { p.mach i with target:=(k:Int),times:=1,stage:=3 }).getD j Mach.fresh).next = -1∧p.note j=0∧¬ ((((p.all.set k { p.mach k with next:=(q:Int) }).set i { p.mach i with target:=(k:Int),times:=1,stage:=3 }).getD j Mach.fresh).place=15∧(((p.all.set k { p.mach k with next:=(q:Int) }).set i { p.mach i with target:=(k:Int),times:=1,stage:=3 }).getD j Mach.fresh).s3∧p.fl j=true))
   have h1:=h.D.reg j hj
   have h2:=hcnt j
   rw [hm2]
   by_cases e:j=i
   ·subst e
    rw [zae (P:=regd p j) (fun hh=>hng hh.1)] at h1
    rw [if_pos rfl]
    refine Eq.trans ?_ (zae (by unfold zec;simp [hp])).symm
    omega
   ·rw [if_neg e]
    by_cases e2:j=k
    ·subst e2
     rw [zai (P:=regd p j) ⟨hrg,hrn,hrt,hr15⟩] at h1
     rw [zai (P:=j=j) rfl] at h2
     rw [if_pos rfl]
     refine Eq.trans ?_ (zae (by intro hh;have:(q:Int) = -1:=hh.2.1;omega)).symm
     omega
    ·rw [zae (P:=j=k) e2] at h2
     rw [if_neg e2]
     exact (by omega:m'.count (j:Int)+b2n (o'=j)=b2n (regd p j))
  ·show 0≤x∧x<(p.M:Int)
   rcases hm with ⟨e1,_⟩ | ⟨_,e2,_⟩
   ·exact h.D.rm x (by rw [e1];exact List.mem_append_left _ hx)
   ·have hx':x∈m':=hx;rw [e2] at hx';cases hx'
  ·show -1≤o'∧o'<(p.M:Int)
   have:=h.D.rpo
   rcases hm with ⟨_,e2⟩ | ⟨_,_,_,e4⟩ <;> omega
  ·show p.note j≤1∧(p.note j=1→zec (((p.all.set k { p.mach k with next:=(q:Int) }).set i { p.mach i with target:=(k:Int),times:=1,stage:=3 }).getD j Mach.fresh))
   have h1:=h.D.nt j hj
   rw [hm2]
   by_cases e:j=i
   ·subst e;exact ⟨h1.1,fun hh=>absurd (h1.2 hh) hng⟩
   ·rw [if_neg e]
    by_cases e2:j=k
    ·subst e2;rw [if_pos rfl];exact ⟨h1.1,fun _=>hrg⟩
    ·rw [if_neg e2];exact h1
  ·show sumL (aims j) ((p.all.set k { p.mach k with next:=(q:Int) }).set i { p.mach i with target:=(k:Int),times:=1,stage:=3 })=b2n (0≤(((p.all.set k { p.mach k with next:=(q:Int) }).set i { p.mach i with target:=(k:Int),times:=1,stage:=3 }).getD j Mach.fresh).next∧p.note j=0)
   have h1:=zap (aims j) p.all k { p.mach k with next:=(q:Int) } Mach.fresh hkl
   have h2:=zap (aims j) (p.all.set k { p.mach k with next:=(q:Int) }) i { p.mach i with target:=(k:Int),times:=1,stage:=3 } Mach.fresh (by simpa using hla)
   rw [zbI p i k _ hik] at h2
   have e4:p.all.getD k Mach.fresh=p.mach k:=rfl
   rw [e4] at h1
   have h3:aims j { p.mach k with next:=(q:Int) }=aims j (p.mach k):=rfl
   have h4:aims j { p.mach i with target:=(k:Int),times:=1,stage:=3 }=b2n (j=k):=by unfold aims;refine zal ?_;simp;omega
   have h5:aims j (p.mach i)=0:=by unfold aims;rw [htg];exact zae (by omega)
   have h6:=h.D.aim j hj
   rw [hm2]
   by_cases e:j=i
   ·subst e
    rw [zae (P:=j=k) hik] at h4
    rw [if_pos rfl]
    show _=b2n (0≤(p.mach j).next∧p.note j=0)
    omega
   ·rw [if_neg e]
    by_cases e2:j=k
    ·subst e2
     rw [zai (P:=j=j) rfl] at h4
     rw [zae (P:=0≤(p.mach j).next∧p.note j=0) (by omega)] at h6
     rw [if_pos rfl]
     refine Eq.trans ?_ (zai ⟨by show 0≤(q:Int);omega,hrt⟩).symm
     omega
    ·rw [zae (P:=j=k) e2] at h4
     rw [if_neg e2]
     omega
  ·show m'.count (j:Int)=0
   have hc':((((p.all.set k { p.mach k with next:=(q:Int) }).set i { p.mach i with target:=(k:Int),times:=1,stage:=3 }).getD j Mach.fresh).place=14∨(((p.all.set k { p.mach k with next:=(q:Int) }).set i { p.mach i with target:=(k:Int),times:=1,stage:=3 }).getD j Mach.fresh).place=15∨((((p.all.set k { p.mach k with next:=(q:Int) }).set i { p.mach i with target:=(k:Int),times:=1,stage:=3 }).getD j Mach.fresh).place=13∧(((p.all.set k { p.mach k with next:=(q:Int) }).set i { p.mach i with target:=(k:Int),times:=1,stage:=3 }).getD j Mach.fresh).s3∧p.fl j=true)):=hc
   rw [hm2] at hc'
   apply hcm
   by_cases e:j=i
   ·subst e;simp [hp] at hc'
   ·rw [if_neg e] at hc'
    by_cases e2:j=k
    ·subst e2;rw [if_pos rfl] at hc';exact h.D.chk j hj hc'
    ·rw [if_neg e2] at hc';exact h.D.chk j hj hc'
  ·show p.note j=0
   have a':(((p.all.set k { p.mach k with next:=(q:Int) }).set i { p.mach i with target:=(k:Int),times:=1,stage:=3 }).getD j Mach.fresh).place=15:=a
   have b':(((p.all.set k { p.mach k with next:=(q:Int) }).set i { p.mach i with target:=(k:Int),times:=1,stage:=3 }).getD j Mach.fresh).s3:=b
   rw [hm2] at a' b'
   by_cases e:j=i
   ·subst e;simp [hp] at a'
   ·rw [if_neg e] at a' b'
    by_cases e2:j=k
    ·subst e2;rw [if_pos rfl] at a' b';exact h.D.n15 j hj a' b' c
    ·rw [if_neg e2] at a' b';exact h.D.n15 j hj a' b' c
  ·have hpd:=h.D.pend hh
   rcases hm with ⟨e1,_⟩ | ⟨_,_,e3,_⟩
   ·rw [hpd.1] at e1;simp at e1
   ·rw [hpd.2] at e3;omega
 case findP q h0 hp hq hq2 hm ho=>refine D_keep (f':=p.fl i) h hi rfl rfl (.inr ⟨rfl,rfl⟩) (fun _ _=>rfl) rfl rfl (fun _=>.inr ⟨hm,ho⟩) (by unfold zec;simp [hp]) (by unfold zec;simp [hp]) rfl rfl
 case park h0 hp=>exact D_keep (f':=_) h hi rfl rfl (.inl rfl) (fun _ _=>rfl) rfl rfl (fun hh=>.inl hh) (by unfold zec;simp [hp]) (by unfold zec;simp [hp]) rfl rfl
 case await s h0 hp he=>exact D_keep (f':=s.due) h hi rfl rfl (.inl rfl) (fun _ _=>rfl) rfl rfl (fun hh=>.inl hh) (by unfold zec;simp [hp]) (by unfold zec;simp [hp]) rfl rfl
 case awaitNo h0 hp=>exact D_keep (f':=false) h hi rfl rfl (.inl rfl) (fun _ _=>rfl) rfl rfl (fun hh=>.inl hh) (by unfold zec;simp [hp]) (by unfold zec;simp [hp]) rfl rfl
 case outOf g to k v c h1 hp hg hg2 hs hv=>exact D_keep (f':=p.fl i) h hi rfl rfl (.inr ⟨rfl,rfl⟩) (fun j hj=>zat h (p.statW g) _ (by unfold Wd.statW;omega) (fun _ _=>by unfold Wd.statW;omega) j hj) rfl rfl (fun hh=>.inl hh) (by unfold zec;omega) (by unfold zec;simp;omega) rfl rfl
 case free k c hn hs hk hl hk2 ht =>
  obtain ⟨k1,k2',k3,k4,k5,k6,e7,_⟩:=za1 p.P (p.fl i) { p.mach i with stage:=4,inn:=false }
  have hN:∀ j,j<p.M→(p.ws.set (2*k+1) ((p.serve k+1) % 2^64)).getD (2*(p.P+2)+1+j) 0=p.note j:=fun j hj=>zat h (2*k+1) _ (by omega) (fun _ _=>by omega) j hj
  have h3:(p.mach i).s3:=⟨hn,hs⟩
  have hns3:¬ (zei p.P (p.fl i) { p.mach i with stage:=4,inn:=false }).s3:=fun hh=>by have:=e7.symm.trans hh.1;simp at this
  by_cases hg:zec (p.mach i)
  ·by_cases h15:(p.mach i).place=15∧p.fl i=true
   ·have hz:=h.D.n15 i hi h15.1 h3 h15.2
    have hg':¬ zec (zei p.P (p.fl i) { p.mach i with stage:=4,inn:=false }):=by
     unfold zec;simp only [zei,h15.1,h15.2];simp
    obtain ⟨c0,c1⟩:=zaH h hi (fun hr=>hr.2.2.2 ⟨h15.1,h3,h15.2⟩)
    refine D_of (f':=p.fl i) h hi rfl rfl (.inr ⟨rfl,rfl⟩) (fun j hj _=>hN j hj) (fun j _=>⟨rfl,Iff.rfl⟩) ?_ k5 (by rw [k3];show (_∧(p.ws.set (2*k+1) _).getD (2*(p.P+2)+1+i) 0=0) ↔ _;rw [hN i hi]) ⟨by show (p.ws.set (2*k+1) _).getD (2*(p.P+2)+1+i) 0≤1;rw [hN i hi];omega,fun e=>absurd ((hN i hi).symm.trans e) (by omega)⟩ (fun _=>c0) (fun _ b _=>absurd b hns3) h.D.rm h.D.rpo h.D.pend
    show p.idle.m.count (i:Int)+b2n (p.idle.poller=i)=_
    rw [c0,zae c1,zae (fun hh=>hg' hh.1)]
   ·have hg':zec (zei p.P (p.fl i) { p.mach i with stage:=4,inn:=false })∧((zei p.P (p.fl i) { p.mach i with stage:=4,inn:=false }).place=14∨(zei p.P (p.fl i) { p.mach i with stage:=4,inn:=false }).place=15→((p.mach i).place=14∨(p.mach i).place=15∨((p.mach i).place=13∧(p.mach i).s3∧p.fl i=true))):=by
     unfold zec
     rcases hg with e | e | e | ⟨e,_,e2⟩
     ·simp only [zei,e];cases p.fl i <;> simp
     ·have:p.fl i=false:=by simpa [e] using h15
      simp only [zei,e,this];simp
     ·exact absurd (sh16 L.sh e).1 (by rw [hn];decide)
     ·simp only [zei,e,e2];cases hf:p.fl i
      ·exact ⟨.inr (.inr (.inl rfl)),fun hh=>by simp at hh⟩
      ·exact ⟨.inl rfl,fun _=>.inr (.inr ⟨trivial,h3,rfl⟩)⟩
    refine D_given (f':=p.fl i) h hi rfl rfl (.inr ⟨rfl,rfl⟩) hN rfl hg hg'.1 k3 k5 (fun hh=>h15 ⟨hh.1,hh.2.2⟩) (fun hh=>hns3 hh.2.1) (fun hh=>?_)
    rcases hh with e | e | e
    ·exact hg'.2 (.inl e)
    ·exact hg'.2 (.inr e)
    ·exact absurd e.2.1 hns3
  ·refine D_keep (f':=p.fl i) h hi rfl rfl (.inr ⟨rfl,rfl⟩) hN rfl rfl (fun hh=>.inl hh) hg ?_ k3 k5
   exact then_ungiven L.sh h3 hg
 case sched t hp q hq m' hm =>
  rcases hm with rfl | rfl
  ·exact D_keep (f':=p.fl i) h hi rfl rfl (.inr ⟨rfl,rfl⟩) (fun _ _=>rfl) rfl rfl (fun hh=>.inl hh) (by unfold zec;simp [hp]) (by unfold zec;simp) rfl rfl
  ·exact D_keep (f':=p.fl i) h hi rfl rfl (.inr ⟨rfl,rfl⟩) (fun _ _=>rfl) rfl rfl (fun hh=>.inl hh) (by unfold zec;simp [hp]) (by unfold zec;simp) rfl rfl
 case spinUp c hp=>exact D_keep (f':=p.fl i) h hi rfl rfl (.inr ⟨rfl,rfl⟩) (fun j hj=>zat h (p.spinW) _ (by unfold Wd.spinW;omega) (fun _ _=>by unfold Wd.spinW;omega) j hj) rfl rfl (fun hh=>.inl hh) (by unfold zec;simp [hp]) (by unfold zec;simp;split <;> simp) rfl rfl
 case spinBack c hp=>exact D_keep (f':=p.fl i) h hi rfl rfl (.inr ⟨rfl,rfl⟩) (fun j hj=>zat h (p.spinW) _ (by unfold Wd.spinW;omega) (fun _ _=>by unfold Wd.spinW;omega) j hj) rfl rfl (fun hh=>.inl hh) (by unfold zec;simp [hp]) (by unfold zec;simp) rfl rfl
 case drop c hp=>exact D_keep (f':=p.fl i) h hi rfl rfl (.inr ⟨rfl,rfl⟩) (fun j hj=>zat h (p.spinW) _ (by unfold Wd.spinW;omega) (fun _ _=>by unfold Wd.spinW;omega) j hj) rfl rfl (fun hh=>.inl hh) (by unfold zec;simp [hp]) (by unfold zec;simp) rfl rfl
 case unspin c hp=>exact D_keep (f':=p.fl i) h hi rfl rfl (.inr ⟨rfl,rfl⟩) (fun j hj=>zat h (p.spinW) _ (by unfold Wd.spinW;omega) (fun _ _=>by unfold Wd.spinW;omega) j hj) rfl rfl (fun hh=>.inl hh) (by unfold zec;simp [hp]) (by unfold zec;simp) rfl rfl
 case dispatch g c hp hg hg2 hs=>exact D_keep (f':=p.fl i) h hi rfl rfl (.inr ⟨rfl,rfl⟩) (fun j hj=>zat h (p.statW g) _ (by unfold Wd.statW;omega) (fun _ _=>by unfold Wd.statW;omega) j hj) rfl rfl (fun hh=>.inl hh) (by unfold zec;simp [hp]) (by unfold zec;simp) rfl rfl
 case load c hp =>
  have s:=sh21 L.sh hp
  refine D_keep (f':=p.fl i) h hi rfl rfl (.inr ⟨rfl,rfl⟩) (fun _ _=>rfl) rfl rfl (fun hh=>.inl hh) (by unfold zec;simp [hp]) ?_ rfl rfl
  unfold zec;by_cases hz:p.spinN=0
  ·simp [hz]
  ·simp only [hz,if_false];rcases s.2.1 with b | b | b | b <;> simp [b.1]
 case claim c hp hz=>exact D_keep (f':=p.fl i) h hi rfl rfl (.inr ⟨rfl,rfl⟩) (fun j hj=>zat h (p.spinW) _ (by unfold Wd.spinW;omega) (fun _ _=>by unfold Wd.spinW;omega) j hj) rfl rfl (fun hh=>.inl hh) (by unfold zec;simp [hp]) (by unfold zec;simp) rfl rfl
 case claimNo c hp hz =>
  have s:=sh22 L.sh hp
  refine D_keep (f':=p.fl i) h hi rfl rfl (.inr ⟨rfl,rfl⟩) (fun _ _=>rfl) rfl rfl (fun hh=>.inl hh) (by unfold zec;simp [hp]) ?_ rfl rfl
  unfold zec;rcases s.2.1 with b | b | b | b <;> simp [b.1]
 case wake k c hp hk hk2 hz =>
  have s:=sh24 L.sh hp
  obtain ⟨hx,hz2⟩:=aim_note h hi k hk hk2
  have hng:¬ zec (p.mach i):=by unfold zec;simp [hp]
  have hgk:=(h.L.loc k hk2).nx hx
  have hki:k≠i:=fun e=>hng (e ▸ hgk)
  have hNj:∀ j,j<p.M→(p.ws.set (p.noteW k) 1).getD (p.noteW j) 0=if j=k then 1 else p.note j:=fun j hj=>by
   rw [zad _ _ _ _ _ (by unfold Wd.noteW;omega)]
   unfold Wd.noteW
   by_cases e:j=k
   ·rw [if_pos (by omega),if_pos e]
   ·rw [if_neg (by omega),if_neg e];rfl
  have hgb:¬ zec { p.mach i with target:=-1,place:=(p.mach i).back }:=by
   unfold zec;rcases s.2.1 with b | b | b | b <;> simp [b.1]
  have hm:=zba (p:=p) (q:={ p with ws:=p.ws.set (p.noteW k) 1,cnt:=c,all:=p.all.set i { p.mach i with target:=-1,place:=(p.mach i).back } }) rfl hla
  refine ⟨fun j hj=>?_,h.D.rm,h.D.rpo,fun j hj=>?_,fun j hj=>?_,fun j hj hc=>?_,fun j hj a b c=>?_,h.D.pend⟩
  ·show p.idle.m.count (j:Int)+b2n (p.idle.poller=j)=_
   refine Eq.trans (h.D.reg j hj) (zal ?_)
   unfold regd
   rw [hm]
   show regd p j ↔ (zec _∧Mach.next _ = -1∧(p.ws.set (p.noteW k) 1).getD (p.noteW j) 0=0∧_)
   rw [hNj j hj]
   unfold regd
   by_cases e:j=i
   ·subst e;simp only [if_true]
    exact ⟨fun hh=>absurd hh.1 hng,fun hh=>absurd hh.1 hgb⟩
   ·rw [if_neg e]
    by_cases e2:j=k
    ·subst e2;simp;intro _ hh;omega
    ·rw [if_neg e2];exact Iff.rfl
  ·have h1:=h.D.nt j hj
   rw [hm]
   show (p.ws.set (p.noteW k) 1).getD (p.noteW j) 0≤1∧((p.ws.set (p.noteW k) 1).getD (p.noteW j) 0=1→_)
   rw [hNj j hj]
   by_cases e:j=i
   ·subst e
    rw [if_neg (fun e3=>hki e3.symm),if_pos rfl]
    exact ⟨h1.1,fun hh=>absurd (h1.2 hh) hng⟩
   ·rw [if_neg e]
    by_cases e2:j=k
    ·subst e2;rw [if_pos rfl];exact ⟨Nat.le_refl _,fun _=>hgk⟩
    ·rw [if_neg e2];exact h1
  ·have h3:=zap (aims j) p.all i { p.mach i with target:=-1,place:=(p.mach i).back } Mach.fresh hla
   have e4:p.all.getD i Mach.fresh=p.mach i:=rfl
   have h4:aims j { p.mach i with target:=-1,place:=(p.mach i).back }=0:=by unfold aims;exact zae (by show ¬ (-1:Int)=j;omega)
   have h5:aims j (p.mach i)=b2n (j=k):=by unfold aims;rw [hk];refine zal ?_;omega
   rw [e4,h4,h5] at h3
   have h6:=h.D.aim j hj
   rw [hm]
   show sumL (aims j) (p.all.set i { p.mach i with target:=-1,place:=(p.mach i).back })=b2n (0≤Mach.next _∧(p.ws.set (p.noteW k) 1).getD (p.noteW j) 0=0)
   rw [hNj j hj]
   by_cases e:j=i
   ·subst e
    rw [zae (fun e3=>hki e3.symm)] at h3
    rw [if_pos rfl,if_neg (fun e3=>hki e3.symm)]
    show _=b2n (0≤(p.mach j).next∧p.note j=0)
    omega
   ·rw [if_neg e]
    by_cases e2:j=k
    ·subst e2
     rw [zai ⟨hx,hz2⟩] at h6
     rw [zai rfl] at h3
     rw [if_pos rfl,zae (by omega)];omega
    ·rw [zae e2] at h3
     rw [if_neg e2];omega
  ·rw [hm] at hc
   show p.idle.m.count (j:Int)=0
   by_cases e:j=i
   ·subst e
    exact (zaH h hj (fun hr=>hng hr.1)).1
   ·rw [if_neg e] at hc;exact h.D.chk j hj hc
  ·rw [hm] at a b
   show (p.ws.set (p.noteW k) 1).getD (p.noteW j) 0=0
   rw [hNj j hj]
   by_cases e:j=i
   ·rw [if_pos e] at a;exact absurd (.inr (.inl a)) hgb
   ·rw [if_neg e] at a b
    by_cases e2:j=k
    ·subst e2
     have:=(sh15 (h.L.loc j hj).sh a).2.2.2.2 ⟨b,c⟩
     omega
    ·rw [if_neg e2];exact h.D.n15 j hj a b c
 case mark g c hp hg hg2 hs=>exact D_keep (f':=p.fl i) h hi rfl rfl (.inr ⟨rfl,rfl⟩) (fun j hj=>zat h (p.statW g) _ (by unfold Wd.statW;omega) (fun _ _=>by unfold Wd.statW;omega) j hj) rfl rfl (fun hh=>.inl hh) (by unfold zec;simp [hp]) (by unfold zec;simp) rfl rfl
 case asleep c hp hz=>exact D_same h rfl rfl rfl rfl (fun _ _=>rfl)
 case awake c hp hz hx =>
  have s:=sh16 L.sh hp
  have hNj:∀ j,j<p.M→(p.ws.set (p.noteW i) 0).getD (p.noteW j) 0=if j=i then 0 else p.note j:=fun j hj=>by
   rw [zad _ _ _ _ _ (by unfold Wd.noteW;omega)]
   unfold Wd.noteW
   by_cases e:j=i
   ·rw [if_pos (by omega),if_pos e]
   ·rw [if_neg (by omega),if_neg e];rfl
  have hn0:(p.ws.set (p.noteW i) 0).getD (p.noteW i) 0=0:=by rw [hNj i hi,if_pos rfl]
  obtain ⟨c0,c1⟩:=zaH h hi (fun hr=>by have:=hr.2.2.1;omega)
  refine D_of (f':=p.fl i) h hi rfl rfl (.inr ⟨rfl,rfl⟩) (fun j hj e=>(hNj j hj).trans (if_neg e)) (fun j _=>⟨rfl,Iff.rfl⟩) ?_ rfl ⟨fun hh=>absurd hh.1 (by show ¬ 0≤(p.mach i).next;omega),fun hh=>by omega⟩ ⟨by show (p.ws.set (p.noteW i) 0).getD (p.noteW i) 0≤1;rw [hn0];omega,fun e=>absurd (hn0.symm.trans e) (by decide)⟩ (fun _=>c0) (fun _ _ _=>hn0) h.D.rm h.D.rpo h.D.pend
  show p.idle.m.count (i:Int)+b2n (p.idle.poller=i)=_
  rw [c0,zae c1,zae (by unfold zec;simp)]
 case awakeP c hp hz hx =>
  have s:=sh16 L.sh hp
  have hNj:∀ j,j<p.M→(p.ws.set (p.noteW i) 0).getD (p.noteW j) 0=if j=i then 0 else p.note j:=fun j hj=>by
   rw [zad _ _ _ _ _ (by unfold Wd.noteW;omega)]
   unfold Wd.noteW
   by_cases e:j=i
   ·rw [if_pos (by omega),if_pos e]
   ·rw [if_neg (by omega),if_neg e];rfl
  have hn0:(p.ws.set (p.noteW i) 0).getD (p.noteW i) 0=0:=by rw [hNj i hi,if_pos rfl]
  obtain ⟨c0,c1⟩:=zaH h hi (fun hr=>by have:=hr.2.2.1;omega)
  refine D_of (f':=p.fl i) h hi rfl rfl (.inr ⟨rfl,rfl⟩) (fun j hj e=>(hNj j hj).trans (if_neg e)) (fun j _=>⟨rfl,Iff.rfl⟩) ?_ rfl ⟨fun hh=>absurd hh.1 (by show ¬ 0≤(-1:Int);omega),fun hh=>by omega⟩ ⟨by show (p.ws.set (p.noteW i) 0).getD (p.noteW i) 0≤1;rw [hn0];omega,fun e=>absurd (hn0.symm.trans e) (by decide)⟩ (fun _=>c0) (fun _ _ _=>hn0) h.D.rm h.D.rpo h.D.pend
  show p.idle.m.count (i:Int)+b2n (p.idle.poller=i)=_
  rw [c0,zae c1,zae (by unfold zec;simp)]
 case idle=>exact h.D
 case refused c hp=>exact D_same h rfl rfl rfl rfl (fun _ _=>rfl)
 case yield g c hp hg hg2 hs=>exact D_keep (f':=p.fl i) h hi rfl rfl (.inr ⟨rfl,rfl⟩) (fun j hj=>zat h (p.statW g) _ (by unfold Wd.statW;omega) (fun _ _=>by unfold Wd.statW;omega) j hj) rfl rfl (fun hh=>.inl hh) (by unfold zec;simp [hp]) (by unfold zec;simp) rfl rfl
 case leave g to k c hp hk hg hg2 hs=>exact D_keep (f':=p.fl i) h hi rfl rfl (.inr ⟨rfl,rfl⟩) (fun j hj=>zat h (p.statW g) _ (by unfold Wd.statW;omega) (fun _ _=>by unfold Wd.statW;omega) j hj) rfl rfl (fun hh=>.inl hh) (by unfold zec;simp [hp]) (by unfold zec;simp) rfl rfl
 case rouse g fr k c hp hk hg2 hs=>exact D_keep (f':=p.fl i) h hi rfl rfl (.inr ⟨rfl,rfl⟩) (fun j hj=>zat h (p.statW g) _ (by unfold Wd.statW;omega) (fun _ _=>by unfold Wd.statW;omega) j hj) rfl rfl (fun hh=>.inl hh) (by unfold zec;simp [hp]) (by unfold zec;simp) rfl rfl
 case toPark d hp hd=>exact D_keep (f':=p.fl i) h hi rfl rfl (.inr ⟨rfl,rfl⟩) (fun _ _=>rfl) rfl rfl (fun hh=>.inl hh) (by unfold zec;simp [hp]) (by unfold zec;simp) rfl rfl
 case toAwait x hp hx=>exact D_keep (f':=p.fl i) h hi rfl rfl (.inr ⟨rfl,rfl⟩) (fun _ _=>rfl) rfl rfl (fun hh=>.inl hh) (by unfold zec;simp [hp]) (by unfold zec;simp) rfl rfl
end
theorem zdn {α:Type} (f:α→Bool) (l:List α) (h:∀ a,a∈l→f a=false):l.countP f=0:=by
 rw [List.countP_eq_zero];intro a ha;rw [h a ha];decide
theorem zdL {α:Type} (k:α→Nat) (o:Nat) (l:List α) (h:(l.countP fun a=>k a==o)=0):(l.filter fun a=>k a != o)=l:=by
 rw [List.countP_eq_zero] at h
 rw [List.filter_eq_self]
 intro a ha;have:=h a ha;simpa using this
theorem zcE {α:Type} (k:α→Nat) (f:α→Bool) (e:α):∀ l:List α,e∈l→(l.countP fun a=>k a==k e)≤1→((l.filter fun a=>k a != k e).countP f)+(if f e then 1 else 0)=l.countP f
 | [],h,_=>by cases h
 | a :: t,h,hc=>by
  rw [List.countP_cons] at hc
  by_cases ha:k a=k e
  ·have h0:(t.countP fun a=>k a==k e)=0:=by
    rw [if_pos (by simpa using ha)] at hc;omega
   have he:e=a:=by
    rcases List.mem_cons.1 h with h | h
    ·exact h
    ·rw [List.countP_eq_zero] at h0;exact absurd (by simp) (h0 e h)
   subst he
   rw [List.filter_cons,if_neg (by simp),zdL k (k e) t h0,List.countP_cons]
  ·have hm:e∈t:=by
    rcases List.mem_cons.1 h with h | h
    ·exact absurd (by rw [h]) ha
    ·exact h
   have hc':(t.countP fun a=>k a==k e)≤1:=by omega
   have ih:=zcE k f e t hm hc'
   rw [List.filter_cons,if_pos (by simpa using ha),List.countP_cons,List.countP_cons]
   omega
theorem zby {α:Type} (f g:α→Bool) (l:List α):((l.filter g).countP f)≤l.countP f:=List.Sublist.countP_le (l₁:=l.filter g) List.filter_sublist
theorem zbO {α:Type} (k:α→Nat) (f:α→Bool) (e x:α) (hx:k x=k e):∀ l:List α,e∈l→(l.countP fun a=>k a==k e)≤1→((l.map fun a=>if k a==k e then x else a).countP f)+(if f e then 1 else 0)=l.countP f+(if f x then 1 else 0)
 | [],h,_=>by cases h
 | a :: t,h,hc=>by
  rw [List.countP_cons] at hc
  by_cases ha:k a=k e
  ·have h0:(t.countP fun a=>k a==k e)=0:=by
    rw [if_pos (by simpa using ha)] at hc;omega
   have he:e=a:=by
    rcases List.mem_cons.1 h with h | h
    ·exact h
    ·rw [List.countP_eq_zero] at h0;exact absurd (by simp) (h0 e h)
   subst he
   have ht:(t.map fun a=>if k a==k e then x else a)=t:=by
    rw [List.countP_eq_zero] at h0
    conv=>rhs;rw [← List.map_id t]
    apply List.map_congr_left
    intro b hb;have:=h0 b hb;simp at this;simp [this]
   rw [List.map_cons,if_pos (by simp),ht,List.countP_cons,List.countP_cons];omega
  ·have hm:e∈t:=by
    rcases List.mem_cons.1 h with h | h
    ·exact absurd (by rw [h]) ha
    ·exact h
   have hc':(t.countP fun a=>k a==k e)≤1:=by omega
   have ih:=zbO k f e x hx t hm hc'
   rw [List.map_cons,if_neg (by simpa using ha),List.countP_cons,List.countP_cons];omega
section
variable {n:Nat} {p p':Wd} {i:Nat}
theorem scnt_take (hS:PartS n p) {s':Src} {g:Int} (he:p.src.take=(s',g,true)) (x:Int):scnt s' x+b2n (g=x)=scnt p.src x:=by
 unfold Src.take at he
 split at he
 ·rename_i e h1
  simp only [Prod.mk.injEq,and_true] at he
  obtain ⟨rfl,rfl⟩:=he
  have hm:=(List.mem_filter.1 (zbJ h1)).1
  have:=zcE (fun e:Ent=>e.order) (fun e=>e.g==x) e p.src.tm hm (hS.ords e.order)
  unfold scnt b2n
  simp only [beq_iff_eq] at this
  dsimp only
  omega
 ·split at he
  ·rename_i y h2
   simp only [Prod.mk.injEq,and_true] at he
   obtain ⟨rfl,rfl⟩:=he
   obtain ⟨a,b,_⟩:=zbu h2
   have:=zcE (fun e:Fd=>e.fd) (fun z=>z.waits && z.g==x) y p.src.fds a (hS.fd1 y.fd)
   unfold scnt b2n
   rw [b] at this
   simp only [Bool.true_and,beq_iff_eq] at this
   dsimp only
   omega
  ·simp at he
theorem S_take (hS:PartS n p) {s':Src} {g:Int} (he:p.src.take=(s',g,true)) {q:Wd} (hs:q.src=s') (hG:q.G=p.G):PartS (n+1) q:=by
 unfold Src.take at he
 split at he
 ·simp only [Prod.mk.injEq,and_true] at he
  obtain ⟨rfl,rfl⟩:=he
  refine ⟨by rw [hs];exact hS.now,by rw [hs];exact Nat.le_succ_of_le hS.ord,?_,?_,by rw [hs,hG];exact hS.fds,by rw [hs];exact hS.fd1,by rw [hs];exact hS.few⟩
  ·rw [hs,hG];intro e he;exact hS.tm e (List.mem_filter.1 he).1
  ·rw [hs];intro o;exact Nat.le_trans (zby _ _ _) (hS.ords o)
 ·split at he
  ·simp only [Prod.mk.injEq,and_true] at he
   obtain ⟨rfl,rfl⟩:=he
   refine ⟨by rw [hs];exact hS.now,by rw [hs];exact Nat.le_succ_of_le hS.ord,by rw [hs,hG];exact hS.tm,by rw [hs];exact hS.ords,?_,?_,?_⟩
   ·rw [hs,hG];intro e he;exact hS.fds e (List.mem_filter.1 he).1
   ·rw [hs];intro o;exact Nat.le_trans (zby _ _ _) (hS.fd1 o)
   ·rw [hs];exact Nat.le_trans (List.length_filter_le _ _) hS.few
  ·simp at he
theorem scnt_sleep (s:Src) (g d x:Int):scnt (s.sleep g d) x=scnt s x+b2n (g=x):=by
 unfold scnt Src.sleep b2n
 simp only [List.countP_append,List.countP_cons,List.countP_nil,beq_iff_eq]
 omega
theorem sumT_pos {a b:Int} (ha:0≤a):0≤sumT a (max 0 b)∧sumT a (max 0 b)≤9223372036854775807:=by unfold sumT;(repeat' split) <;> omega
theorem S_sleep (hS:PartS n p) {g d:Int} (hg:0≤g∧g<p.G) {q:Wd} (hs:q.src=p.src.sleep g d) (hG:q.G=p.G):PartS (n+1) q:=by
 have h0:(p.src.tm.countP fun e=>e.order==p.src.order)=0:=zdn _ _ fun e he=>by have:=(hS.tm e he).1;simp;omega
 refine ⟨by rw [hs];exact hS.now,by rw [hs];exact Nat.succ_le_succ hS.ord,?_,?_,by rw [hs,hG];exact hS.fds,by rw [hs];exact hS.fd1,by rw [hs];exact hS.few⟩
 ·rw [hs,hG];intro e he
  show e.order<p.src.order+1∧_
  rcases List.mem_append.1 he with he | he
  ·have:=hS.tm e he;exact ⟨by omega,this.2⟩
  ·simp only [List.mem_singleton] at he
   subst he
   exact ⟨Nat.lt_succ_self _,hg.1,hg.2,sumT_pos hS.now.1⟩
 ·rw [hs];intro o
  show (p.src.tm++[_]).countP _≤1
  rw [List.countP_append,List.countP_cons,List.countP_nil]
  by_cases e:p.src.order=o
  ·subst e;rw [h0];simp
  ·have:=hS.ords o;simp [e];exact this
theorem fd?_some {s:Src} {fd:Nat} {y:Fd} (h:s.fd? fd=some y):y∈s.fds∧y.fd=fd:=by
 unfold Src.fd? at h
 exact ⟨List.mem_of_find?_eq_some h,by simpa using List.find?_some h⟩
theorem fd?_none {s:Src} {fd:Nat} (h:s.fd? fd=none):∀ y,y∈s.fds→y.fd≠fd:=by
 unfold Src.fd? at h
 rw [List.find?_eq_none] at h
 intro y hy;have:=h y hy;simpa using this
theorem za9 (s:Src) (x:Fd):(∃ y,s.fd? x.fd=some y∧zeo s.fds x=s.fds.map fun z=>if z.fd==y.fd then x else z)∨(s.fd? x.fd=none∧zeo s.fds x=s.fds++[x]):=by
 unfold zeo
 cases h:s.fd? x.fd with
 | some y =>
  obtain ⟨a,b⟩:=fd?_some h
  refine .inl ⟨y,rfl,?_⟩
  rw [if_pos (by rw [List.any_eq_true];exact ⟨y,a,by simpa using b⟩),b]
 | none =>
  have:=fd?_none h
  refine .inr ⟨rfl,?_⟩
  rw [if_neg (by rw [List.any_eq_true];rintro ⟨y,a,b⟩;exact this y a (by simpa using b))]
theorem zdM (s:Src) (x:Fd) (h1:∀ o,(s.fds.countP fun y=>y.fd==o)≤1) (o:Nat):((zeo s.fds x).countP fun y=>y.fd==o)≤1:=by
 rcases za9 s x with ⟨y,e1,e2⟩ | ⟨e1,e2⟩
 ·obtain ⟨a,b⟩:=fd?_some e1
  have:=zbO (fun z:Fd=>z.fd) (fun z=>z.fd==o) y x b.symm s.fds a (h1 y.fd)
  rw [b] at this
  rw [e2,b]
  have:=h1 o
  omega
 ·have h0:=fd?_none e1
  rw [e2,List.countP_append,List.countP_cons,List.countP_nil]
  by_cases e:x.fd=o
  ·subst e
   rw [zdn _ _ (fun y hy=>by simpa using h0 y hy)];simp
  ·have:=h1 o;simp [e];exact this
theorem zdt (s:Src) (x y:Fd) (h:y∈zeo s.fds x):y=x∨y∈s.fds:=by
 rcases za9 s x with ⟨z,_,e2⟩ | ⟨_,e2⟩
 ·rw [e2] at h
  obtain ⟨w,hw,rfl⟩:=List.mem_map.1 h
  by_cases e:w.fd==z.fd
  ·rw [if_pos e];exact .inl rfl
  ·rw [if_neg e];exact .inr hw
 ·rw [e2] at h
  rcases List.mem_append.1 h with h | h
  ·exact .inr h
  ·exact .inl (by simpa using h)
theorem zbG (s:Src) (x:Fd) (h:s.full x.fd=false) (h1:s.fds.length≤1024):(zeo s.fds x).length≤1024:=by
 rcases za9 s x with ⟨z,_,e2⟩ | ⟨e1,e2⟩
 ·rw [e2,List.length_map];exact h1
 ·unfold Src.full at h
  rw [e1] at h
  simp at h
  rw [e2,List.length_append];simp;omega
theorem setFd_cnt (s:Src) (x:Fd) (h1:∀ o,(s.fds.countP fun y=>y.fd==o)≤1) (f:Fd→Bool) (hf:∀ y,s.fd? x.fd=some y→f y=false):(zeo s.fds x).countP f=s.fds.countP f+(if f x then 1 else 0):=by
 rcases za9 s x with ⟨y,e1,e2⟩ | ⟨e1,e2⟩
 ·obtain ⟨a,b⟩:=fd?_some e1
  have:=zbO (fun z:Fd=>z.fd) f y x b.symm s.fds a (h1 y.fd)
  rw [hf y e1] at this
  rw [e2];simpa using this
 ·rw [e2,List.countP_append,List.countP_cons,List.countP_nil];omega
theorem zdE {s s':Src} {fd:Nat} {g:Int} (he:s.wait fd g=(s',true)):s.hasT g=false∧s.hasP g=false∧(∀ y,s.fd? fd=some y→y.waits=false)∧s.full fd=false∧∃ r,s'={ s with fds:=zeo s.fds { fd:=fd,g:=g,waits:=true,ready:=r } }:=by
 unfold Src.wait at he
 split at he
 ·simp at he
 ·rename_i h
  simp only [Prod.mk.injEq,and_true] at he
  simp only [Bool.or_eq_true,not_or,Bool.not_eq_true] at h
  obtain ⟨⟨⟨h1,h2⟩,h3⟩,h4⟩:=h
  refine ⟨h1,h2,fun y hy=>?_,h4,_,he.symm⟩
  rw [hy] at h3;simpa using h3
theorem scnt_wait (hS:PartS n p) {s':Src} {fd:Nat} {g:Int} (he:p.src.wait fd g=(s',true)) (x:Int):scnt s' x=scnt p.src x+b2n (g=x):=by
 obtain ⟨_,_,h3,_,r,rfl⟩:=zdE he
 have:=setFd_cnt p.src { fd:=fd,g:=g,waits:=true,ready:=r } hS.fd1 (fun z=>z.waits && z.g==x) (fun y hy=>by rw [h3 y hy];rfl)
 unfold scnt b2n
 simp only [Bool.true_and,beq_iff_eq] at this
 simp only
 omega
theorem S_wait (hS:PartS n p) {s':Src} {fd:Nat} {g:Int} (he:p.src.wait fd g=(s',true)) (hg:0≤g∧g<p.G) (hfd:fd<65536) {q:Wd} (hs:q.src=s') (hG:q.G=p.G):PartS (n+1) q:=by
 obtain ⟨_,_,h3,h4,r,rfl⟩:=zdE he
 refine ⟨by rw [hs];exact hS.now,by rw [hs];exact Nat.le_succ_of_le hS.ord,by rw [hs,hG];exact hS.tm,by rw [hs];exact hS.ords,?_,?_,?_⟩
 ·rw [hs,hG];intro y hy
  rcases zdt p.src _ y hy with rfl | hy
  ·exact ⟨hfd,fun _=>hg⟩
  ·exact hS.fds y hy
 ·rw [hs];exact zdM p.src _ hS.fd1
 ·rw [hs];exact zbG p.src _ h4 hS.few
theorem zcK (hS:PartS n p) (fd:Nat) (x:Int):scnt (p.src.ready fd).1 x=scnt p.src x:=by
 unfold Src.ready
 split
 ·rfl
 ·split
  ·rename_i y hy
   obtain ⟨a,b⟩:=fd?_some hy
   have:=zbO (fun z:Fd=>z.fd) (fun z=>z.waits && z.g==x) y { y with ready:=true } rfl p.src.fds a (hS.fd1 y.fd)
   unfold scnt
   rcases za9 p.src { y with ready:=true } with ⟨z,e1,e2⟩ | ⟨e1,e2⟩
   ·have hz:z=y:=by
     have h5:p.src.fd? y.fd=some z:=e1
     rw [b,hy] at h5;exact (Option.some.inj h5).symm
    subst hz
    simp only at e2 this ⊢
    rw [e2];omega
   ·exact absurd rfl (fd?_none e1 y a)
  ·rename_i hy
   have:=setFd_cnt p.src { fd:=fd,g:=0,waits:=false,ready:=true } hS.fd1 (fun z=>z.waits && z.g==x) (fun y e=>by rw [hy] at e;cases e)
   unfold scnt
   simp at this ⊢
   omega
theorem S_ready (hS:PartS n p) (fd:Nat) (hfd:fd<65536) {q:Wd} (hs:q.src=(p.src.ready fd).1) (hG:q.G=p.G):PartS (n+1) q:=by
 unfold Src.ready at hs
 split at hs
 ·exact ⟨by rw [hs];exact hS.now,by rw [hs];exact Nat.le_succ_of_le hS.ord,by rw [hs,hG];exact hS.tm,by rw [hs];exact hS.ords,by rw [hs,hG];exact hS.fds,by rw [hs];exact hS.fd1,by rw [hs];exact hS.few⟩
 ·rename_i hfull
  have h4:p.src.full fd=false:=by simpa using hfull
  split at hs
  ·rename_i y hy
   obtain ⟨a,b⟩:=fd?_some hy
   refine ⟨by rw [hs];exact hS.now,by rw [hs];exact Nat.le_succ_of_le hS.ord,by rw [hs,hG];exact hS.tm,by rw [hs];exact hS.ords,?_,?_,?_⟩
   ·rw [hs,hG];intro z hz
    rcases zdt p.src _ z hz with rfl | hz
    ·exact hS.fds y a
    ·exact hS.fds z hz
   ·rw [hs];exact zdM p.src _ hS.fd1
   ·rw [hs];exact zbG p.src _ (by rw [b];exact h4) hS.few
  ·refine ⟨by rw [hs];exact hS.now,by rw [hs];exact Nat.le_succ_of_le hS.ord,by rw [hs,hG];exact hS.tm,by rw [hs];exact hS.ords,?_,?_,?_⟩
   ·rw [hs,hG];intro z hz
    rcases zdt p.src _ z hz with rfl | hz
    ·exact ⟨hfd,fun h=>by simp at h⟩
    ·exact hS.fds z hz
   ·rw [hs];exact zdM p.src _ hS.fd1
   ·rw [hs];exact zbG p.src _ h4 hS.few
theorem S_tick (hS:PartS n p) (d:Int) {q:Wd} (hs:q.src=p.src.tick d) (hG:q.G=p.G):PartS (n+1) q :=
 ⟨by rw [hs];exact sumT_pos hS.now.1,by rw [hs];exact Nat.le_succ_of_le hS.ord,by rw [hs,hG];exact hS.tm,by rw [hs];exact hS.ords,by rw [hs,hG];exact hS.fds,by rw [hs];exact hS.fd1,by rw [hs];exact hS.few⟩
theorem S_same (hS:PartS n p) {q:Wd} (hs:q.src=p.src) (hG:q.G=p.G):PartS (n+1) q :=
 ⟨by rw [hs];exact hS.now,by rw [hs];exact Nat.le_succ_of_le hS.ord,by rw [hs,hG];exact hS.tm,by rw [hs];exact hS.ords,by rw [hs,hG];exact hS.fds,by rw [hs];exact hS.fd1,by rw [hs];exact hS.few⟩
theorem S_tr (h:Inv n p) (hi:i<p.M) (t:Tr p i p'):PartS (n+1) p':=by
 have L:=h.L.loc i hi
 cases t
 case deliv s g h0 hp he=>exact S_take h.S he rfl rfl
 case park h0 hp =>
  have s:=sh29 L.sh hp
  have:0≤(p.mach i).g:=by rcases s.2.2.2 with e | e;exact absurd e.2 (by rw [h0.2.1];decide);exact e
  exact S_sleep h.S ⟨this,L.rg.2⟩ rfl rfl
 case await s h0 hp he =>
  have s:=sh30 L.sh hp
  have:0≤(p.mach i).g:=by rcases s.2.2.2.1 with e | e;exact absurd e.2 (by rw [h0.2.1];decide);exact e
  exact S_wait h.S he ⟨this,L.rg.2⟩ (by omega) rfl rfl
 all_goals exact S_same h.S rfl rfl
theorem Sh_tr (h:Inv n p) (hi:i<p.M) (t:Tr p i p'):Shape p':=by
 obtain ⟨a,b,c,d,e,f,g,k⟩:=h.sh
 cases t
 all_goals exact ⟨a,b,c,by first | exact d | simpa using d,by first | exact e | simpa using e,by first | exact f | simpa using f,by first | exact g | simpa using g,by first | exact k | simpa using k⟩
theorem log_tr (h:Inv n p) (hi:i<p.M) (t:Tr p i p'):p'.log.length≤n+1+1:=by
 have hl:=h.log
 cases t
 all_goals first
  | exact Nat.le_succ_of_le hl
  | (show (p.log++[_]).length≤_;rw [List.length_append];exact Nat.succ_le_succ hl)
end
end Hst
