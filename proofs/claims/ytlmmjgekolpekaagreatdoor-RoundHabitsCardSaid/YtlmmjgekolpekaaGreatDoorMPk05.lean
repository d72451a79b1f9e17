/- Parts of the proof. -/
import Derived.Test.YtlmmjgekolpekaaGreatDoorMPk04
set_option linter.unusedVariables false
set_option linter.unusedSimpArgs false
set_option linter.unusedSectionVars false
set_option maxRecDepth 100000
set_option maxHeartbeats 6400000
namespace Hst
section
variable {n:Nat} {p p':Wd} {i:Nat}
theorem excl (h:Inv n p) {j k:Nat} (hi:i<p.M) (hj:j<p.M) (hk:k≤p.P+1) (h1:(p.mach i).inn=true) (h2:2≤(p.mach i).stage) (h3:(p.mach i).lkN=2*(k:Int)) (g1:(p.mach j).inn=true) (g2:2≤(p.mach j).stage) (g3:(p.mach j).lkN=2*(k:Int)):i=j:=by
 by_cases e:i=j
 ·exact e
 ·have t1:=h.C.holds i k hi h1 h2 hk h3
  have t2:=h.C.holds j k hj g1 g2 hk g3
  have h12:=zbT (zed k (p.serve k)) p.all i j Mach.fresh (h.la hi) (h.la hj) e
  have h13:zed k (p.serve k) (p.all.getD i Mach.fresh)=1:=zai ⟨h1,h3,by show 1≤(p.mach i).stage;omega,t1⟩
  have h14:zed k (p.serve k) (p.all.getD j Mach.fresh)=1:=zai ⟨g1,g3,by show 1≤(p.mach j).stage;omega,t2⟩
  have h15:=h.C.one k (p.serve k) hk
  have h16:=za3 (p.serve k≤p.serve k∧p.serve k<p.nextT k)
  omega
theorem zcI (h:Inv n p) {j k:Nat} (hi:i<p.M) (hj:j<p.M) (h1:(p.mach i).inn=true) (h2:2≤(p.mach i).stage) (h3:zek p.P (p.mach i)=some k) (g1:(p.mach j).inn=true) (g2:2≤(p.mach j).stage) (g3:zek p.P (p.mach j)=some k):i=j:=by
 obtain ⟨_,k1,e1,e2,e3⟩:=h.L.sec i hi h1
 obtain ⟨_,k2,f1,f2,f3⟩:=h.L.sec j hj g1
 obtain rfl:k1=k:=Option.some.inj (e1.symm.trans h3)
 obtain rfl:k2=k1:=Option.some.inj (f1.symm.trans g3)
 exact excl h hi hj e2 h1 h2 e3 g1 g2 f3
theorem za2 (P:Nat) (m:Mach) (h:m.place=2∨m.place=4∨m.place=7∨m.place=10∨m.place=11∨m.place=13∨m.place=15∨m.place=18∨m.place=23∨m.place=27):zek P m=some 0:=by
 unfold zek;rcases h with e | e | e | e | e | e | e | e | e | e <;> simp only [e]
theorem lockN_S (P:Nat) (m:Mach) (h:m.place=14∨m.place=25∨m.place=29∨m.place=30):zek P m=some (P+1):=by
 unfold zek;rcases h with e | e | e | e <;> simp only [e]
theorem L_of {q:Wd} {m':Mach} {f':Bool} (h:Inv n p) (hi:i<p.M) (hP:q.P=p.P) (hM:q.M=p.M) (hG:q.G=p.G) (hall:q.all=p.all.set i m') (hfl:q.flag=p.flag.set i f'∨(q.flag=p.flag∧f'=p.fl i))
  (hL:Loc p.P p.M p.G f' m') (hsec:m'.inn=true→Sect m'∧∃ k:Nat,zek p.P m'=some k∧k≤p.P+1∧m'.lkN=2*(k:Int)) (hfind:m'.place=23→m'.s21→q.idle.p=0)
  (hidle:q.idle.p=p.idle.p∨((p.mach i).inn=true∧2≤(p.mach i).stage∧zek p.P (p.mach i)=some 0)):PartL q:=by
 have hla:=h.la hi
 have hlf:i<p.flag.length:=by rw [h.sh.lf];exact hi
 have hfl2:∀ j,q.fl j=if j=i then f' else p.fl j:=fun j=>by
  unfold Wd.fl
  rcases hfl with e | ⟨e,e2⟩
  ·rw [e];exact zad p.flag i j f' false hlf
  ·rw [e];split
   ·rename_i e3;rw [e2,e3];rfl
   ·rfl
 refine ⟨fun j hj=>?_,fun j hj hn=>?_,fun j hj hp hs=>?_⟩
 ·rw [hP,hM,hG,hfl2,zba hall hla]
  split
  ·exact hL
  ·exact h.L.loc j (by omega)
 ·rw [zba hall hla] at hn ⊢
  rw [hP]
  split at hn
  ·rename_i e;rw [if_pos e];exact hsec hn
  ·rename_i e;rw [if_neg e];exact h.L.sec j (by omega) hn
 ·rw [zba hall hla] at hp hs
  split at hp
  ·rename_i e;rw [if_pos e] at hs;exact hfind hp hs
  ·rename_i e
   rw [if_neg e] at hs
   have h0:=h.L.find j (by omega) hp hs
   rcases hidle with e2 | ⟨a,b,c⟩
   ·rw [e2];exact h0
   ·exact absurd (zcI h hi (by omega) a b c hs.1 (by rw [hs.2.1];omega) (za2 _ _ (by omega))) (fun e3=>e e3.symm)
theorem L_same {q:Wd} (h:Inv n p) (hP:q.P=p.P) (hM:q.M=p.M) (hG:q.G=p.G) (hall:q.all=p.all) (hfl:q.flag=p.flag) (hid:q.idle.p=p.idle.p):PartL q:=by
 have hm:∀ j,q.mach j=p.mach j:=fun j=>by unfold Wd.mach;rw [hall]
 have hf:∀ j,q.fl j=p.fl j:=fun j=>by unfold Wd.fl;rw [hfl]
 refine ⟨fun j hj=>?_,fun j hj hn=>?_,fun j hj hp hs=>?_⟩
 ·rw [hP,hM,hG,hm,hf];exact h.L.loc j (by omega)
 ·rw [hm] at hn ⊢;rw [hP];exact h.L.sec j (by omega) hn
 ·rw [hm] at hp hs;rw [hid];exact h.L.find j (by omega) hp hs
theorem zaE (h:Inv n p) (hi:i<p.M) (hg:¬ zec (p.mach i)):(p.mach i).next = -1:=by
 have L:=h.L.loc i hi
 have:=L.rn
 by_cases e:0≤(p.mach i).next
 ·exact absurd (L.nx e) hg
 ·omega
theorem reg_of (h:Inv n p) (hi:i<p.M) (hr:p.idle.poller=i∨(i:Int)∈p.idle.m):regd p i:=by
 have h1:=h.D.reg i hi
 have h2:1≤p.idle.m.count (i:Int)+b2n (p.idle.poller=i):=by
  rcases hr with e | e
  ·rw [zai e];omega
  ·have:=List.count_pos_iff.2 e;omega
 have h5:=za3 (regd p i)
 exact zca.1 (by omega)
theorem zau (h:Inv n p) (hi:i<p.M) (h0:(p.mach i).inn=true) {m':Mach} (h1:m'.lkN=(p.mach i).lkN) (h2:m'.lkS=(p.mach i).lkS) (hs:m'.stage=3) (hl:zek p.P m'=zek p.P (p.mach i)):Sect m'∧∃ k:Nat,zek p.P m'=some k∧k≤p.P+1∧m'.lkN=2*(k:Int):=by
 obtain ⟨s,k,e1,e2,e3⟩:=h.L.sec i hi h0
 exact ⟨⟨by omega,by omega,by omega,by omega,by rw [h1,h2];exact s.lk⟩,k,by rw [hl];exact e1,e2,by rw [h1];exact e3⟩
theorem sec_more (h:Inv n p) (hi:i<p.M) (h0:(p.mach i).inn=true) {m':Mach} (h1:m'.lkN=(p.mach i).lkN) (h2:m'.lkS=(p.mach i).lkS) (hs:m'.stage=2) (ht:m'.times=1) (hp:m'.place=23∨m'.place=29∨m'.place=30) (hl:zek p.P m'=zek p.P (p.mach i)):Sect m'∧∃ k:Nat,zek p.P m'=some k∧k≤p.P+1∧m'.lkN=2*(k:Int):=by
 obtain ⟨s,k,e1,e2,e3⟩:=h.L.sec i hi h0
 exact ⟨⟨by omega,by omega,by omega,fun _=>.inr ⟨ht,hp⟩,by rw [h1,h2];exact s.lk⟩,k,by rw [hl];exact e1,e2,by rw [h1];exact e3⟩
theorem sumT_le (a b:Int) : -9223372036854775808≤sumT a b∧sumT a b≤9223372036854775807:=by unfold sumT;(repeat' split) <;> omega
theorem za0 {l:List Int} {x:Int} (h:0<l.count x):x∈l:=List.count_pos_iff.1 h
theorem zcW {s s':Src} {g:Int} (he:s.take=(s',g,true)):(∃ e,e∈s.tm∧e.g=g)∨(∃ x,x∈s.fds∧x.waits=true∧x.g=g):=by
 unfold Src.take at he
 split at he
 ·rename_i e h1
  simp only [Prod.mk.injEq,and_true] at he
  have:=(List.mem_filter.1 (zbJ h1)).1
  exact .inl ⟨e,this,he.2⟩
 ·split at he
  ·rename_i x h2
   simp only [Prod.mk.injEq,and_true] at he
   obtain ⟨a,b,_⟩:=zbu h2
   exact .inr ⟨x,a,b,he.2⟩
  ·simp at he
theorem then_loc {P M G:Nat} (hP:1≤P∧P≤64) {f:Bool} {m:Mach} (L:Loc P M G f m) (h3:m.s3):Loc P M G f (zei P f { m with stage:=4,inn:=false }):=by
 obtain ⟨sh,rp,rg,rn,rgot,rt,rr,nx,ri,ra⟩:=L
 obtain ⟨k1,k2,k3,k4,k5,k6,k7,k8,k9,_⟩:=za1 P f { m with stage:=4,inn:=false }
 refine ⟨?_,by rw [k1];exact rp,by rw [k2];exact rg,by rw [k3];exact rn,by rw [k4];exact rgot,by rw [k5];exact rt,by rw [k8];exact rr,?_,?_,by rw [k9];exact ra⟩
 ·clear k1 k2 k3 k4 k5 k6 k7 k8 k9 nx
  unfold shape at sh
  split at sh
  all_goals (rename_i hpl)
  all_goals first
   | exact absurd sh.1 (by rw [h3.1];decide)
   | exact sh.elim
   | (simp only [zei,hpl,thenS,zeA];(repeat' split) <;> (unfold shape;grind))
 ·rw [k3];intro hn
  have hg:=nx hn
  clear k1 k2 k3 k4 k5 k6 k7 k8 k9 nx
  have hn':0≤m.next:=hn
  rcases hg with e | e | e | ⟨e,e2,e3⟩
  ·simp only [zei,e];unfold zec;cases f <;> simp
  ·have s:=(sh15 sh e).2.2.2.2
   cases f
   ·simp only [zei,e];unfold zec;simp
   ·have:=s ⟨h3,rfl⟩;omega
  ·exact absurd (sh16 sh e).1 (by rw [h3.1];decide)
  ·simp only [zei,e,e3];unfold zec;cases f <;> simp
 ·clear k1 k2 k3 k4 k5 k6 k7 k8 k9 nx
  unfold shape at sh
  split at sh
  all_goals (rename_i hpl)
  all_goals first
   | exact absurd sh.1 (by rw [h3.1];decide)
   | exact sh.elim
   | (simp only [zei,hpl,thenS,zeA];(repeat' split) <;> (try dsimp only) <;> omega)
theorem L_tr (h:Inv n p) (hi:i<p.M) (t:Tr p i p'):PartL p':=by
 have hla:=h.la hi
 have hP:=h.sh.dP
 have L:=h.L.loc i hi
 cases t
 case take k c hn hk =>
  have hkP:=zcb _ _ hk hP.1
  have hpl:=zaQ _ _ hk
  refine L_of (f':=false) h hi rfl rfl rfl rfl (.inl rfl) ⟨?_,L.rp,L.rg,L.rn,L.rgot,L.rt,L.rr,(fun hh=>?_),L.ri,L.ra⟩ (fun _=>⟨⟨Nat.le_refl 1,(by show 1≤3;omega),fun _=>rfl,fun hh=>absurd hh (by show ¬ 1=2;decide),k,rfl,rfl⟩,k,hk,hkP,rfl⟩) (fun _ hs=>absurd hs.2.1 (by show ¬ 1=2;decide)) (.inl rfl)
  ·rcases hpl with hp | hp | hp | hp | hp | hp | hp | hp | hp | hp | hp | hp | hp | hp | hp | hp | hp | hp | hp
   ·have s:=sh2 L.sh hp;unfold shape;simp only [hp];grind
   ·have s:=sh3 L.sh hp;unfold shape;simp only [hp];grind
   ·have s:=sh4 L.sh hp;unfold shape;simp only [hp];grind
   ·have s:=sh6 L.sh hp;unfold shape;simp only [hp];grind
   ·have s:=sh7 L.sh hp;unfold shape;simp only [hp];grind
   ·have s:=sh9 L.sh hp;unfold shape;simp only [hp];grind
   ·have s:=sh10 L.sh hp;unfold shape;simp only [hp];grind
   ·have s:=sh11 L.sh hp;unfold shape;simp only [hp];grind
   ·have s:=sh13 L.sh hp;unfold shape;simp only [hp];grind
   ·have s:=sh14 L.sh hp;unfold shape;simp only [hp];grind
   ·have s:=sh15 L.sh hp;unfold shape;simp only [hp];grind
   ·have s:=sh17 L.sh hp;unfold shape;simp only [hp];grind
   ·have s:=sh18 L.sh hp;unfold shape;simp only [hp];grind
   ·have s:=sh23 L.sh hp;unfold shape;simp only [hp];grind
   ·have s:=sh25 L.sh hp;unfold shape;simp only [hp];grind
   ·have s:=sh27 L.sh hp;unfold shape;simp only [hp];grind
   ·have s:=sh28 L.sh hp;unfold shape;simp only [hp];grind
   ·have s:=sh29 L.sh hp;unfold shape;simp only [hp];grind
   ·have s:=sh30 L.sh hp;unfold shape;simp only [hp];grind
  ·have hg:=L.nx hh
   rcases hg with e | e | e | e
   ·exact .inl e
   ·exact .inr (.inl e)
   ·exact .inr (.inr (.inl e))
   ·exact absurd e.2.1.1 (by rw [hn];decide)
 case miss c k hn hs hk ht=>exact L_same h rfl rfl rfl rfl rfl rfl
 case hit k c hn hs hk ht =>
  obtain ⟨hsec,k2,hk2,hkP,hl⟩:=h.L.sec i hi hn
  have hpl:=zaQ _ _ hk
  refine L_of (f':=p.fl i) h hi rfl rfl rfl rfl (.inr ⟨rfl,rfl⟩) ⟨?_,L.rp,L.rg,L.rn,L.rgot,L.rt,L.rr,(fun hh=>?_),L.ri,L.ra⟩ (fun _=>⟨⟨(by show 1≤2;omega),(by show 2≤3;omega),(fun hh=>absurd hh (by show ¬ 2≤1;decide)),fun _=>.inl (hsec.t0 (by omega)),hsec.lk⟩,k2,hk2,hkP,hl⟩) (fun _ hs'=>absurd hs'.2.2 (by show ¬ (p.mach i).times=1;rw [hsec.t0 (by omega)];decide)) (.inl rfl)
  ·rcases hpl with hp | hp | hp | hp | hp | hp | hp | hp | hp | hp | hp | hp | hp | hp | hp | hp | hp | hp | hp
   ·have s:=sh2 L.sh hp;unfold shape;simp only [hp];grind
   ·have s:=sh3 L.sh hp;unfold shape;simp only [hp];grind
   ·have s:=sh4 L.sh hp;unfold shape;simp only [hp];grind
   ·have s:=sh6 L.sh hp;unfold shape;simp only [hp];grind
   ·have s:=sh7 L.sh hp;unfold shape;simp only [hp];grind
   ·have s:=sh9 L.sh hp;unfold shape;simp only [hp];grind
   ·have s:=sh10 L.sh hp;unfold shape;simp only [hp];grind
   ·have s:=sh11 L.sh hp;unfold shape;simp only [hp];grind
   ·have s:=sh13 L.sh hp;unfold shape;simp only [hp];grind
   ·have s:=sh14 L.sh hp;unfold shape;simp only [hp];grind
   ·have s:=sh15 L.sh hp;unfold shape;simp only [hp];grind
   ·have s:=sh17 L.sh hp;unfold shape;simp only [hp];grind
   ·have s:=sh18 L.sh hp;unfold shape;simp only [hp];grind
   ·have s:=sh23 L.sh hp;unfold shape;simp only [hp];grind
   ·have s:=sh25 L.sh hp;unfold shape;simp only [hp];grind
   ·have s:=sh27 L.sh hp;unfold shape;simp only [hp];grind
   ·have s:=sh28 L.sh hp;unfold shape;simp only [hp];grind
   ·have s:=sh29 L.sh hp;unfold shape;simp only [hp];grind
   ·have s:=sh30 L.sh hp;unfold shape;simp only [hp];grind
  ·have hg:=L.nx hh
   rcases hg with e | e | e | e
   ·exact .inl e
   ·exact .inr (.inl e)
   ·exact .inr (.inr (.inl e))
   ·exact absurd e.2.1.2 (by rw [hs];decide)
 case foundR q r' g t h0 hp hq hc hl =>
  have hnx:=zaE h hi (by unfold zec;simp [h0.2.1];omega)
  have hmem:∀ x,x∈g :: t→0≤x∧x<p.G:=fun x hx=>by
   have h1:0<(g :: t).count x:=List.count_pos_iff.2 hx
   have h2:=hc x
   exact (h.A.rr (p.ring q) (by unfold Wd.ring;rw [List.getD_eq_getElem?_getD,List.getElem?_eq_getElem (by rw [h.sh.lr];exact hq)];simp)).2 x (za0 (by omega))
  have hg:=hmem g (by simp)
  refine L_of (f':=true) h hi rfl rfl rfl rfl (.inl rfl) ⟨?_,L.rp,L.rg,L.rn,⟨by show (-1:Int)≤g;omega,hg.2⟩,L.rt,(fun x hx=>hmem x (by simp [show x∈t from hx])),(fun hh=>absurd hh (by show ¬ 0≤(p.mach i).next;omega)),L.ri,L.ra⟩ (fun _=>zau h hi h0.1 rfl rfl rfl rfl) (fun _ hs=>absurd hs.2.1 (by show ¬ 3=2;decide)) (.inl rfl)
  rcases hp with ⟨hp,ht,hpq⟩ | hp
  ·have s:=sh3 L.sh hp
   unfold shape;simp only [hp];grind
  ·have s:=sh6 L.sh hp
   unfold shape;simp only [hp];grind
 case foundG g t glob' h0 hp hg =>
  have hnx:=zaE h hi (by unfold zec;simp [h0.2.1];omega)
  have hmem:∀ x,x∈g :: t→0≤x∧x<p.G:=fun x hx=>h.A.rg x (by rw [hg];exact List.mem_append_left _ hx)
  have hg:=hmem g (by simp)
  refine L_of (f':=true) h hi rfl rfl rfl rfl (.inl rfl) ⟨?_,L.rp,L.rg,L.rn,⟨by show (-1:Int)≤g;omega,hg.2⟩,L.rt,(fun x hx=>hmem x (by simp [show x∈t from hx])),(fun hh=>absurd hh (by show ¬ 0≤(p.mach i).next;omega)),L.ri,L.ra⟩ (fun _=>zau h hi h0.1 rfl rfl rfl rfl) (fun _ hs=>absurd hs.2.1 (by show ¬ 3=2;decide)) (.inl rfl)
  rcases hp with ⟨hp,ht⟩ | hp | hp
  ·have s:=sh2 L.sh hp
   unfold shape;simp only [hp];grind
  ·have s:=sh4 L.sh hp
   unfold shape;simp only [hp];grind
  ·have s:=sh7 L.sh hp
   unfold shape;simp only [hp];grind
 case told b h0 ht =>
  have hpl:(p.mach i).place=2∨(p.mach i).place=3∨(p.mach i).place=4∨(p.mach i).place=6∨(p.mach i).place=9∨(p.mach i).place=10∨(p.mach i).place=11∨(p.mach i).place=14∨(p.mach i).place=15∨(p.mach i).place=25:=by
   unfold Told at ht;split at ht <;> simp_all
  refine L_of (f':=b) h hi rfl rfl rfl rfl (.inl rfl) ⟨?_,L.rp,L.rg,L.rn,L.rgot,L.rt,L.rr,(fun hh=>?_),L.ri,L.ra⟩ (fun _=>zau h hi h0.1 rfl rfl rfl rfl) (fun _ hs=>absurd hs.2.1 (by show ¬ 3=2;decide)) (.inl rfl)
  ·rcases hpl with hp | hp | hp | hp | hp | hp | hp | hp | hp | hp
   ·have s:=sh2 L.sh hp;simp only [Told,hp] at ht;unfold shape;simp only [hp];grind
   ·have s:=sh3 L.sh hp;simp only [Told,hp] at ht;unfold shape;simp only [hp];grind
   ·have s:=sh4 L.sh hp;simp only [Told,hp] at ht;unfold shape;simp only [hp];grind
   ·have s:=sh6 L.sh hp;simp only [Told,hp] at ht;unfold shape;simp only [hp];grind
   ·have s:=sh9 L.sh hp;simp only [Told,hp] at ht;unfold shape;simp only [hp];grind
   ·have s:=sh10 L.sh hp;simp only [Told,hp] at ht;unfold shape;simp only [hp];grind
   ·have s:=sh11 L.sh hp;simp only [Told,hp] at ht;unfold shape;simp only [hp];grind
   ·have s:=sh14 L.sh hp;simp only [Told,hp] at ht;unfold shape;simp only [hp];grind
   ·have s:=sh15 L.sh hp;simp only [Told,hp] at ht;unfold shape;simp only [hp];grind
   ·have s:=sh25 L.sh hp;simp only [Told,hp] at ht;unfold shape;simp only [hp];grind
  ·have hg:=L.nx hh
   rcases hg with e | e | e | e
   ·exact .inl e
   ·exact .inr (.inl e)
   ·exact .inr (.inr (.inl e))
   ·exact absurd e.2.1.2 (by rw [h0.2.1];decide)
 case release q h0 hp hg hq =>
  have s:=sh7 L.sh hp
  have hnx:=zaE h hi (by unfold zec;simp [hp,h0.2.1])
  refine L_of (f':=false) h hi rfl rfl rfl rfl (.inl rfl) ⟨?_,(by show (-1:Int) ≤ -1∧(-1:Int)<p.P;omega),L.rg,L.rn,L.rgot,L.rt,L.rr,(fun hh=>absurd hh (by show ¬ 0≤(p.mach i).next;omega)),L.ri,L.ra⟩ (fun _=>zau h hi h0.1 rfl rfl rfl ((za2 _ _ (by simp [hp])).trans (za2 _ _ (by simp [hp])).symm)) (fun _ hs=>absurd hs.2.1 (by show ¬ 3=2;decide)) (.inr ⟨h0.1,by rw [h0.2.1];omega,za2 _ _ (by simp [hp])⟩)
  unfold shape;simp only [hp];grind
 case retake q h0 hp hq hq2 =>
  have s:=sh11 L.sh hp
  have hnx:=zaE h hi (by unfold zec;simp [hp,h0.2.1])
  refine L_of (f':=true) h hi rfl rfl rfl rfl (.inl rfl) ⟨?_,(by show (-1:Int)≤q∧(q:Int)<p.P;omega),L.rg,L.rn,L.rgot,L.rt,L.rr,(fun hh=>absurd hh (by show ¬ 0≤(p.mach i).next;omega)),L.ri,L.ra⟩ (fun _=>zau h hi h0.1 rfl rfl rfl ((za2 _ _ (by simp [hp])).trans (za2 _ _ (by simp [hp])).symm)) (fun _ hs=>absurd hs.2.1 (by show ¬ 3=2;decide)) (.inr ⟨h0.1,by rw [h0.2.1];omega,za2 _ _ (by simp [hp])⟩)
  unfold shape;simp only [hp];grind
 case pending q t h0 hp hq =>
  have s:=sh13 L.sh hp
  have hnx:=zaE h hi (by unfold zec;simp [hp,h0.2.1])
  have hqr:=h.B.rp q (by rw [hq];simp)
  refine L_of (f':=true) h hi rfl rfl rfl rfl (.inl rfl) ⟨?_,(by show (-1:Int)≤q∧q<p.P;omega),L.rg,L.rn,L.rgot,L.rt,L.rr,(fun hh=>absurd hh (by show ¬ 0≤(p.mach i).next;omega)),L.ri,L.ra⟩ (fun _=>zau h hi h0.1 rfl rfl rfl ((za2 _ _ (by simp [hp])).trans (za2 _ _ (by simp [hp])).symm)) (fun _ hs=>absurd hs.2.1 (by show ¬ 3=2;decide)) (.inl rfl)
  unfold shape;simp only [hp];grind
 case stopP h0 hp hq ho =>
  have s:=sh13 L.sh hp
  have hnx:=zaE h hi (by unfold zec;simp [hp,h0.2.1])
  refine L_of (f':=true) h hi rfl rfl rfl rfl (.inl rfl) ⟨?_,L.rp,L.rg,L.rn,L.rgot,L.rt,L.rr,(fun hh=>absurd hh (by show ¬ 0≤(p.mach i).next;omega)),L.ri,L.ra⟩ (fun _=>zau h hi h0.1 rfl rfl rfl (rfl)) (fun _ hs=>absurd hs.2.1 (by show ¬ 3=2;decide)) (.inl rfl)
  unfold shape;simp only [hp];grind
 case stopM h0 hp hq ho =>
  have s:=sh13 L.sh hp
  have hnx:=zaE h hi (by unfold zec;simp [hp,h0.2.1])
  refine L_of (f':=false) h hi rfl rfl rfl rfl (.inl rfl) ⟨?_,L.rp,L.rg,L.rn,L.rgot,L.rt,L.rr,(fun hh=>absurd hh (by show ¬ 0≤(p.mach i).next;omega)),L.ri,L.ra⟩ (fun _=>zau h hi h0.1 rfl rfl rfl (rfl)) (fun _ hs=>absurd hs.2.1 (by show ¬ 3=2;decide)) (.inl rfl)
  unfold shape;simp only [hp];grind
 case unpoll h0 hp ho =>
  have s:=sh15 L.sh hp
  have hnx:=(reg_of h hi (.inl ho)).2.1
  refine L_of (f':=true) h hi rfl rfl rfl rfl (.inl rfl) ⟨?_,L.rp,L.rg,L.rn,L.rgot,L.rt,L.rr,(fun _=>.inr (.inl hp)),L.ri,L.ra⟩ (fun _=>zau h hi h0.1 rfl rfl rfl (rfl)) (fun _ hs=>absurd hs.2.1 (by show ¬ 3=2;decide)) (.inl rfl)
  unfold shape;simp only [hp];grind
 case putOver h0 hp =>
  have s:=sh18 L.sh hp
  have hnx:=zaE h hi (by unfold zec;simp [hp,h0.2.1])
  refine L_of (f':=p.fl i) h hi rfl rfl rfl rfl (.inr ⟨rfl,rfl⟩) ⟨?_,L.rp,L.rg,L.rn,L.rgot,L.rt,(fun x hx=>absurd hx (by simp)),(fun hh=>absurd hh (by show ¬ 0≤(p.mach i).next;omega)),L.ri,L.ra⟩ (fun _=>zau h hi h0.1 rfl rfl rfl (rfl)) (fun _ hs=>absurd hs.2.1 (by show ¬ 3=2;decide)) (.inl rfl)
  unfold shape;simp only [hp];grind
 case putOne h0 hp =>
  have s:=sh27 L.sh hp
  have hnx:=zaE h hi (by unfold zec;simp [hp,h0.2.1])
  refine L_of (f':=p.fl i) h hi rfl rfl rfl rfl (.inr ⟨rfl,rfl⟩) ⟨?_,L.rp,L.rg,L.rn,(by show (-1:Int) ≤ -1∧(-1:Int)<p.G;omega),L.rt,L.rr,(fun hh=>absurd hh (by show ¬ 0≤(p.mach i).next;omega)),L.ri,L.ra⟩ (fun _=>zau h hi h0.1 rfl rfl rfl (rfl)) (fun _ hs=>absurd hs.2.1 (by show ¬ 3=2;decide)) (.inl rfl)
  unfold shape;simp only [hp];grind
 case putRest q r' t h0 hp hq he =>
  have s:=sh17 L.sh hp
  have hnx:=zaE h hi (by unfold zec;simp [hp,h0.2.1])
  have hrq:=h.A.rr (p.ring q) (by unfold Wd.ring;rw [List.getD_eq_getElem?_getD,List.getElem?_eq_getElem (by rw [h.sh.lr];have:=L.rp;omega)];simp)
  have sp:=zdw (p.ring q) (p.mach i).rest hrq.1
  simp only [he] at sp
  have hmem:∀ x,x∈t→0≤x∧x<p.G:=fun x hx=>by
   have h1:0<t.count x:=List.count_pos_iff.2 hx
   have h2:=sp.1 x
   rcases Nat.eq_zero_or_pos ((p.mach i).rest.count x) with e | e
   ·exact hrq.2 x (za0 (by omega))
   ·exact L.rr x (za0 e)
  refine L_of (f':=p.fl i) h hi rfl rfl rfl rfl (.inr ⟨rfl,rfl⟩) ⟨?_,L.rp,L.rg,L.rn,L.rgot,L.rt,hmem,(fun hh=>absurd hh (by show ¬ 0≤(p.mach i).next;omega)),L.ri,L.ra⟩ (fun _=>zau h hi h0.1 rfl rfl rfl (rfl)) (fun _ hs=>absurd hs.2.1 (by show ¬ 3=2;decide)) (.inl rfl)
  unfold shape;simp only [hp];grind
 case putNext q r' t h0 hp hq he =>
  have s:=sh28 L.sh hp
  have hnx:=zaE h hi (by unfold zec;simp [hp,h0.2.1])
  have hrq:=h.A.rr (p.ring q) (by unfold Wd.ring;rw [List.getD_eq_getElem?_getD,List.getElem?_eq_getElem (by rw [h.sh.lr];have:=L.rp;omega)];simp)
  have sp:=zd9 (p.ring q) (p.mach i).got hrq.1
  simp only [he] at sp
  have hgt:0≤(p.mach i).got:=by have:=s.2.2.2.2;rw [if_neg (by simp [h0.2.1])] at this;exact this.1
  have hmem:∀ x,x∈t→0≤x∧x<p.G:=fun x hx=>by
   have h1:0<t.count x:=List.count_pos_iff.2 hx
   have h2:=sp.1 x
   rcases Nat.eq_zero_or_pos ([(p.mach i).got].count x) with e | e
   ·exact hrq.2 x (za0 (by omega))
   ·have:x=(p.mach i).got:=by simpa using za0 e
    rw [this];exact ⟨hgt,L.rgot.2⟩
  refine L_of (f':=p.fl i) h hi rfl rfl rfl rfl (.inr ⟨rfl,rfl⟩) ⟨?_,L.rp,L.rg,L.rn,(by show (-1:Int) ≤ -1∧(-1:Int)<p.G;omega),L.rt,hmem,(fun hh=>absurd hh (by show ¬ 0≤(p.mach i).next;omega)),L.ri,L.ra⟩ (fun _=>zau h hi h0.1 rfl rfl rfl (rfl)) (fun _ hs=>absurd hs.2.1 (by show ¬ 3=2;decide)) (.inl rfl)
  unfold shape;simp only [hp];grind
 case deliv s g h0 hp he =>
  have s:=sh25 L.sh hp
  have hnx:=zaE h hi (by unfold zec;simp [hp,h0.2.1])
  have hgr:0≤g∧g<p.G:=by
   rcases zcW he with ⟨e,e1,e2⟩ | ⟨x,e1,e2,e3⟩
   ·have:=h.S.tm e e1;rw [← e2];exact ⟨this.2.1,this.2.2.1⟩
   ·have:=(h.S.fds x e1).2 e2;rw [← e3];exact this
  refine L_of (f':=true) h hi rfl rfl rfl rfl (.inl rfl) ⟨?_,L.rp,L.rg,L.rn,(by show (-1:Int)≤g∧g<p.G;omega),L.rt,(fun x hx=>absurd hx (by simp)),(fun hh=>absurd hh (by show ¬ 0≤(p.mach i).next;omega)),L.ri,L.ra⟩ (fun _=>zau h hi h0.1 rfl rfl rfl (rfl)) (fun _ hs=>absurd hs.2.1 (by show ¬ 3=2;decide)) (.inl rfl)
  unfold shape;simp only [hp];grind
 case findNo h0 hp hz =>
  have s:=sh23 L.sh hp
  have hnx:=zaE h hi (by unfold zec;simp [hp])
  refine L_of (f':=p.fl i) h hi rfl rfl rfl rfl (.inr ⟨rfl,rfl⟩) ⟨?_,L.rp,L.rg,L.rn,L.rgot,L.rt,L.rr,(fun hh=>absurd hh (by show ¬ 0≤(p.mach i).next;omega)),L.ri,L.ra⟩ (fun _=>sec_more h hi h0.1 rfl rfl rfl rfl (by simp [hp]) rfl) (fun _ _=>hz) (.inl rfl)
  unfold shape;simp only [hp];grind
 case findBack c h1 hp =>
  have s:=sh23 L.sh hp
  have hnx:=zaE h hi (by unfold zec;simp [hp])
  refine L_of (f':=p.fl i) h hi rfl rfl rfl rfl (.inr ⟨rfl,rfl⟩) ⟨?_,L.rp,L.rg,L.rn,L.rgot,L.rt,L.rr,(fun hh=>absurd hh (by show ¬ 0≤(p.mach i).next;omega)),L.ri,L.ra⟩ (fun _=>zau h hi h1.1 rfl rfl rfl rfl) (fun _ hs=>absurd hs.2.1 (by show ¬ 3=2;decide)) (.inl rfl)
  unfold shape;simp only [hp];grind
 case findM q k h0 hp hq hq2 m' o' hm =>
  obtain ⟨hkM,hik,hr⟩:=zbv h hi hp hm
  have hkl:k<p.all.length:=by rw [h.sh.la];exact hkM
  have s:=sh23 L.sh hp
  have hnx:=zaE h hi (by unfold zec;simp [hp])
  have Lk:=h.L.loc k hkM
  refine ⟨fun j hj=>?_,fun j hj hn=>?_,fun j hj hp2 hs=>?_⟩
  ·show Loc p.P p.M p.G (p.fl j) (((p.all.set k { p.mach k with next:=(q:Int) }).set i { p.mach i with target:=(k:Int),times:=1,stage:=3 }).getD j Mach.fresh)
   rw [zad _ _ _ _ _ (by simpa using hla),zad _ _ _ _ _ hkl]
   by_cases e:j=i
   ·subst e
    rw [if_pos rfl]
    refine ⟨?_,L.rp,L.rg,L.rn,L.rgot,⟨by show (-1:Int)≤k;omega,by show (k:Int)<p.M;omega⟩,L.rr,(fun hh=>absurd hh (by show ¬ 0≤(p.mach j).next;omega)),L.ri,L.ra⟩
    unfold shape;simp only [hp];grind
   ·rw [if_neg e]
    by_cases e2:j=k
    ·subst e2
     rw [if_pos rfl]
     refine ⟨?_,Lk.rp,Lk.rg,⟨by show (-1:Int)≤q;omega,by show (q:Int)<p.P;omega⟩,Lk.rgot,Lk.rt,Lk.rr,fun _=>hr.1,Lk.ri,Lk.ra⟩
     have hs:=Lk.sh
     have h15:=hr.2.2.2
     rcases hr.1 with e3 | e3 | e3 | ⟨e3,_⟩
     ·have s2:=sh14 hs e3;unfold shape;simp only [e3];exact s2
     ·have s2:=sh15 hs e3;unfold shape;simp only [e3];exact ⟨s2.1,s2.2.1,s2.2.2.1,s2.2.2.2.1,fun hh=>absurd ⟨e3,hh.1,hh.2⟩ h15⟩
     ·have s2:=sh16 hs e3;unfold shape;simp only [e3];exact s2
     ·have s2:=sh13 hs e3;unfold shape;simp only [e3];exact s2
    ·rw [if_neg e2];exact h.L.loc j hj
  ·rw [zc9 (p:=p) rfl hla hkl] at hn ⊢
   by_cases e:j=i
   ·subst e
    rw [if_pos rfl] at hn ⊢
    exact zau h hi h0.1 rfl rfl rfl rfl
   ·rw [if_neg e] at hn ⊢
    by_cases e2:j=k
    ·subst e2
     rw [if_pos rfl] at hn ⊢
     obtain ⟨a,b⟩:=h.L.sec j hj hn
     exact ⟨⟨a.pos,a.stage,a.t0,a.t2,a.lk⟩,b⟩
    ·rw [if_neg e2] at hn ⊢;exact h.L.sec j hj hn
  ·rw [zc9 (p:=p) rfl hla hkl] at hp2 hs
   by_cases e:j=i
   ·rw [if_pos e] at hs;exact absurd hs.2.1 (by show ¬ 3=2;decide)
   ·rw [if_neg e] at hp2 hs
    have hjk:(p.mach j).place=23∧(p.mach j).s21:=by
     by_cases e2:j=k
     ·rw [if_pos e2] at hp2 hs;rw [e2];exact ⟨hp2,hs⟩
     ·rw [if_neg e2] at hp2 hs;exact ⟨hp2,hs⟩
    exact absurd (zcI h hi hj h0.1 (by rw [h0.2.1];omega) (za2 _ _ (by simp [hp])) hjk.2.1 (by rw [hjk.2.2.1];omega) (za2 _ _ (by omega))) (fun e3=>e e3.symm)
 case findP q h0 hp hq hq2 hm ho =>
  have s:=sh23 L.sh hp
  have hnx:=zaE h hi (by unfold zec;simp [hp,h0.2.1])
  refine L_of (f':=p.fl i) h hi rfl rfl rfl rfl (.inr ⟨rfl,rfl⟩) ⟨?_,L.rp,L.rg,L.rn,L.rgot,L.rt,L.rr,(fun hh=>absurd hh (by show ¬ 0≤(p.mach i).next;omega)),L.ri,L.ra⟩ (fun _=>zau h hi h0.1 rfl rfl rfl (rfl)) (fun _ hs=>absurd hs.2.1 (by show ¬ 3=2;decide)) (.inr ⟨h0.1,by rw [h0.2.1];omega,za2 _ _ (by simp [hp])⟩)
  unfold shape;simp only [hp];grind
 case park h0 hp =>
  have s:=sh29 L.sh hp
  have hnx:=zaE h hi (by unfold zec;simp [hp])
  refine L_of (f':=_) h hi rfl rfl rfl rfl (.inl rfl) ⟨?_,L.rp,L.rg,L.rn,L.rgot,L.rt,L.rr,(fun hh=>absurd hh (by show ¬ 0≤(p.mach i).next;omega)),L.ri,(by show -9223372036854775808≤sumT p.src.now _∧sumT p.src.now _≤9223372036854775807;exact sumT_le _ _)⟩ (fun _=>sec_more h hi h0.1 rfl rfl rfl rfl (by simp [hp]) rfl) (fun e _=>absurd (show (p.mach i).place=23 from e) (by omega)) (.inl rfl)
  unfold shape;simp only [hp];grind
 case await s h0 hp he =>
  have s:=sh30 L.sh hp
  have hnx:=zaE h hi (by unfold zec;simp [hp])
  refine L_of (f':=_) h hi rfl rfl rfl rfl (.inl rfl) ⟨?_,L.rp,L.rg,L.rn,L.rgot,L.rt,L.rr,(fun hh=>absurd hh (by show ¬ 0≤(p.mach i).next;omega)),L.ri,L.ra⟩ (fun _=>sec_more h hi h0.1 rfl rfl rfl rfl (by simp [hp]) rfl) (fun e _=>absurd (show (p.mach i).place=23 from e) (by omega)) (.inl rfl)
  unfold shape;simp only [hp];grind
 case awaitNo h0 hp =>
  have s:=sh30 L.sh hp
  have hnx:=zaE h hi (by unfold zec;simp [hp,h0.2.1])
  refine L_of (f':=false) h hi rfl rfl rfl rfl (.inl rfl) ⟨?_,L.rp,L.rg,L.rn,L.rgot,L.rt,L.rr,(fun hh=>absurd hh (by show ¬ 0≤(p.mach i).next;omega)),L.ri,L.ra⟩ (fun _=>zau h hi h0.1 rfl rfl rfl (rfl)) (fun _ hs=>absurd hs.2.1 (by show ¬ 3=2;decide)) (.inl rfl)
  unfold shape;simp only [hp];grind
 case outOf g to k v c h1 hp hg hg2 hs hv =>
  have hnx:=zaE h hi (by unfold zec;omega)
  refine L_of (f':=p.fl i) h hi rfl rfl rfl rfl (.inr ⟨rfl,rfl⟩) ⟨?_,L.rp,(by show (-1:Int) ≤ -1∧(-1:Int)<p.G;omega),L.rn,L.rgot,L.rt,L.rr,(fun hh=>absurd hh (by show ¬ 0≤(p.mach i).next;omega)),L.ri,L.ra⟩ (fun _=>zau h hi h1.1 rfl rfl rfl rfl) (fun _ hs=>absurd hs.2.1 (by show ¬ 3=2;decide)) (.inl rfl)
  rcases hp with ⟨hp,_⟩ | ⟨hp,_⟩
  ·have s:=sh29 L.sh hp;unfold shape;simp only [hp];grind
  ·have s:=sh30 L.sh hp;unfold shape;simp only [hp];grind
 case free k c hn hs hk hl hk2 ht =>
  obtain ⟨_,_,_,_,_,_,e7,_⟩:=za1 p.P (p.fl i) { p.mach i with stage:=4,inn:=false }
  exact L_of (f':=p.fl i) h hi rfl rfl rfl rfl (.inr ⟨rfl,rfl⟩) (then_loc hP L ⟨hn,hs⟩) (fun hh=>absurd (e7.symm.trans hh) (by simp)) (fun _ hs=>absurd (e7.symm.trans hs.1) (by simp)) (.inl rfl)
 case sched t hp q hq m' hm =>
  rcases hm with rfl | rfl
  ·have s:=sh1 L.sh hp
   have hnx:=zaE h hi (by unfold zec;simp [hp])
   refine L_of (f':=p.fl i) h hi rfl rfl rfl rfl (.inr ⟨rfl,rfl⟩) ⟨?_,L.rp,L.rg,L.rn,L.rgot,L.rt,L.rr,(fun hh=>absurd hh (by show ¬ 0≤(p.mach i).next;omega)),L.ri,L.ra⟩ (fun hh=>absurd hh (by show ¬ (p.mach i).inn=true;rw [s.1];decide)) (fun _ hs=>absurd hs.1 (by show ¬ (p.mach i).inn=true;rw [s.1];decide)) (.inl rfl)
   unfold shape;grind
  ·have s:=sh1 L.sh hp
   have hnx:=zaE h hi (by unfold zec;simp [hp])
   refine L_of (f':=p.fl i) h hi rfl rfl rfl rfl (.inr ⟨rfl,rfl⟩) ⟨?_,L.rp,L.rg,L.rn,L.rgot,L.rt,L.rr,(fun hh=>absurd hh (by show ¬ 0≤(p.mach i).next;omega)),L.ri,L.ra⟩ (fun hh=>absurd hh (by show ¬ (p.mach i).inn=true;rw [s.1];decide)) (fun _ hs=>absurd hs.1 (by show ¬ (p.mach i).inn=true;rw [s.1];decide)) (.inl rfl)
   unfold shape;grind
 case spinUp c hp =>
  have s:=sh5 L.sh hp
  have hnx:=zaE h hi (by unfold zec;simp [hp])
  refine L_of (f':=p.fl i) h hi rfl rfl rfl rfl (.inr ⟨rfl,rfl⟩) ⟨?_,L.rp,L.rg,L.rn,L.rgot,L.rt,L.rr,(fun hh=>absurd hh (by show ¬ 0≤(p.mach i).next;omega)),(by show (-1:Int)≤1∧(1:Int)≤4096;omega),L.ra⟩ (fun hh=>absurd hh (by show ¬ (p.mach i).inn=true;rw [s.1];decide)) (fun _ hs=>absurd hs.1 (by show ¬ (p.mach i).inn=true;rw [s.1];decide)) (.inl rfl)
  unfold shape;dsimp only;split <;> grind
 case spinBack c hp =>
  have s:=sh12 L.sh hp
  have hnx:=zaE h hi (by unfold zec;simp [hp])
  refine L_of (f':=p.fl i) h hi rfl rfl rfl rfl (.inr ⟨rfl,rfl⟩) ⟨?_,L.rp,L.rg,L.rn,L.rgot,L.rt,L.rr,(fun hh=>absurd hh (by show ¬ 0≤(p.mach i).next;omega)),L.ri,L.ra⟩ (fun hh=>absurd hh (by show ¬ (p.mach i).inn=true;rw [s.1];decide)) (fun _ hs=>absurd hs.1 (by show ¬ (p.mach i).inn=true;rw [s.1];decide)) (.inl rfl)
  unfold shape;grind
 case drop c hp =>
  have s:=sh8 L.sh hp
  have hnx:=zaE h hi (by unfold zec;simp [hp])
  refine L_of (f':=p.fl i) h hi rfl rfl rfl rfl (.inr ⟨rfl,rfl⟩) ⟨?_,L.rp,L.rg,L.rn,L.rgot,L.rt,L.rr,(fun hh=>absurd hh (by show ¬ 0≤(p.mach i).next;omega)),(by show (-1:Int)≤0∧(0:Int)≤4096;omega),L.ra⟩ (fun hh=>absurd hh (by show ¬ (p.mach i).inn=true;rw [s.1];decide)) (fun _ hs=>absurd hs.1 (by show ¬ (p.mach i).inn=true;rw [s.1];decide)) (.inl rfl)
  unfold shape;grind
 case unspin c hp =>
  have s:=sh19 L.sh hp
  have hnx:=zaE h hi (by unfold zec;simp [hp])
  refine L_of (f':=p.fl i) h hi rfl rfl rfl rfl (.inr ⟨rfl,rfl⟩) ⟨?_,L.rp,L.rg,L.rn,L.rgot,L.rt,L.rr,(fun hh=>absurd hh (by show ¬ 0≤(p.mach i).next;omega)),L.ri,L.ra⟩ (fun hh=>absurd hh (by show ¬ (p.mach i).inn=true;rw [s.1];decide)) (fun _ hs=>absurd hs.1 (by show ¬ (p.mach i).inn=true;rw [s.1];decide)) (.inl rfl)
  unfold shape;grind
 case dispatch g c hp hg hg2 hs =>
  have s:=sh20 L.sh hp
  have hnx:=zaE h hi (by unfold zec;simp [hp])
  refine L_of (f':=p.fl i) h hi rfl rfl rfl rfl (.inr ⟨rfl,rfl⟩) ⟨?_,L.rp,L.rgot,L.rn,(by show (-1:Int) ≤ -1∧(-1:Int)<p.G;omega),L.rt,L.rr,(fun hh=>absurd hh (by show ¬ 0≤(p.mach i).next;omega)),L.ri,L.ra⟩ (fun hh=>absurd hh (by show ¬ (p.mach i).inn=true;rw [s.1];decide)) (fun _ hs=>absurd hs.1 (by show ¬ (p.mach i).inn=true;rw [s.1];decide)) (.inl rfl)
  unfold shape;grind
 case load c hp =>
  have s:=sh21 L.sh hp
  have hnx:=zaE h hi (by unfold zec;simp [hp])
  refine L_of (f':=p.fl i) h hi rfl rfl rfl rfl (.inr ⟨rfl,rfl⟩) ⟨?_,L.rp,L.rg,L.rn,L.rgot,L.rt,L.rr,(fun hh=>absurd hh (by show ¬ 0≤(p.mach i).next;omega)),L.ri,L.ra⟩ (fun hh=>absurd hh (by show ¬ (p.mach i).inn=true;rw [s.1];decide)) (fun _ hs=>absurd hs.1 (by show ¬ (p.mach i).inn=true;rw [s.1];decide)) (.inl rfl)
  unfold shape
  by_cases hz:p.spinN=0
  ·simp only [hz,if_true];grind
  ·simp only [hz,if_false];rcases s.2.1 with b | b | b | b <;> (simp only [b.1];grind)
 case claim c hp hz =>
  have s:=sh22 L.sh hp
  have hnx:=zaE h hi (by unfold zec;simp [hp])
  refine L_of (f':=p.fl i) h hi rfl rfl rfl rfl (.inr ⟨rfl,rfl⟩) ⟨?_,L.rp,L.rg,L.rn,L.rgot,L.rt,L.rr,(fun hh=>absurd hh (by show ¬ 0≤(p.mach i).next;omega)),L.ri,L.ra⟩ (fun hh=>absurd hh (by show ¬ (p.mach i).inn=true;rw [s.1];decide)) (fun _ hs=>absurd hs.1 (by show ¬ (p.mach i).inn=true;rw [s.1];decide)) (.inl rfl)
  unfold shape;grind
 case claimNo c hp hz =>
  have s:=sh22 L.sh hp
  have hnx:=zaE h hi (by unfold zec;simp [hp])
  refine L_of (f':=p.fl i) h hi rfl rfl rfl rfl (.inr ⟨rfl,rfl⟩) ⟨?_,L.rp,L.rg,L.rn,L.rgot,L.rt,L.rr,(fun hh=>absurd hh (by show ¬ 0≤(p.mach i).next;omega)),L.ri,L.ra⟩ (fun hh=>absurd hh (by show ¬ (p.mach i).inn=true;rw [s.1];decide)) (fun _ hs=>absurd hs.1 (by show ¬ (p.mach i).inn=true;rw [s.1];decide)) (.inl rfl)
  rcases s.2.1 with b | b | b | b <;> (unfold shape;simp only [b.1];grind)
 case wake k c hp hk hk2 hz =>
  have s:=sh24 L.sh hp
  have hnx:=zaE h hi (by unfold zec;simp [hp])
  refine L_of (f':=p.fl i) h hi rfl rfl rfl rfl (.inr ⟨rfl,rfl⟩) ⟨?_,L.rp,L.rg,L.rn,L.rgot,(by show (-1:Int) ≤ -1∧(-1:Int)<p.M;omega),L.rr,(fun hh=>absurd hh (by show ¬ 0≤(p.mach i).next;omega)),L.ri,L.ra⟩ (fun hh=>absurd hh (by show ¬ (p.mach i).inn=true;rw [s.1];decide)) (fun _ hs=>absurd hs.1 (by show ¬ (p.mach i).inn=true;rw [s.1];decide)) (.inl rfl)
  rcases s.2.1 with b | b | b | b <;> (unfold shape;simp only [b.1];grind)
 case mark g c hp hg hg2 hs =>
  have s:=sh26 L.sh hp
  have hnx:=zaE h hi (by unfold zec;simp [hp])
  refine L_of (f':=p.fl i) h hi rfl rfl rfl rfl (.inr ⟨rfl,rfl⟩) ⟨?_,L.rp,L.rg,L.rn,L.rgot,L.rt,L.rr,(fun hh=>absurd hh (by show ¬ 0≤(p.mach i).next;omega)),L.ri,L.ra⟩ (fun hh=>absurd hh (by show ¬ (p.mach i).inn=true;rw [s.1];decide)) (fun _ hs=>absurd hs.1 (by show ¬ (p.mach i).inn=true;rw [s.1];decide)) (.inl rfl)
  unfold shape;grind
 case asleep c hp hz=>exact L_same h rfl rfl rfl rfl rfl rfl
 case awake c hp hz hx =>
  have s:=sh16 L.sh hp
  refine L_of (f':=p.fl i) h hi rfl rfl rfl rfl (.inr ⟨rfl,rfl⟩) ⟨?_,L.rp,L.rg,L.rn,L.rgot,L.rt,L.rr,(fun hh=>absurd hh (by show ¬ 0≤(p.mach i).next;omega)),L.ri,L.ra⟩ (fun hh=>absurd hh (by show ¬ (p.mach i).inn=true;rw [s.1];decide)) (fun _ hs=>absurd hs.1 (by show ¬ (p.mach i).inn=true;rw [s.1];decide)) (.inl rfl)
  unfold shape;grind
 case awakeP c hp hz hx =>
  have s:=sh16 L.sh hp
  refine L_of (f':=p.fl i) h hi rfl rfl rfl rfl (.inr ⟨rfl,rfl⟩) ⟨?_,L.rn,L.rg,(by show (-1:Int) ≤ -1∧(-1:Int)<p.P;omega),L.rgot,L.rt,L.rr,(fun hh=>absurd hh (by show ¬ 0≤(-1:Int);omega)),L.ri,L.ra⟩ (fun hh=>absurd hh (by show ¬ (p.mach i).inn=true;rw [s.1];decide)) (fun _ hs=>absurd hs.1 (by show ¬ (p.mach i).inn=true;rw [s.1];decide)) (.inl rfl)
  unfold shape;grind
 case idle=>exact h.L
 case refused c hp=>exact L_same h rfl rfl rfl rfl rfl rfl
 case yield g c hp hg hg2 hs =>
  have s:=sh0 L.sh hp
  have hnx:=zaE h hi (by unfold zec;simp [hp])
  refine L_of (f':=p.fl i) h hi rfl rfl rfl rfl (.inr ⟨rfl,rfl⟩) ⟨?_,L.rp,(by show (-1:Int) ≤ -1∧(-1:Int)<p.G;omega),L.rn,L.rg,L.rt,L.rr,(fun hh=>absurd hh (by show ¬ 0≤(p.mach i).next;omega)),L.ri,L.ra⟩ (fun hh=>absurd hh (by show ¬ (p.mach i).inn=true;rw [s.1];decide)) (fun _ hs=>absurd hs.1 (by show ¬ (p.mach i).inn=true;rw [s.1];decide)) (.inl rfl)
  unfold shape;grind
 case leave g to k c hp hk hg hg2 hs =>
  have s:=sh0 L.sh hp
  have hnx:=zaE h hi (by unfold zec;simp [hp])
  refine L_of (f':=p.fl i) h hi rfl rfl rfl rfl (.inr ⟨rfl,rfl⟩) ⟨?_,L.rp,(by show (-1:Int) ≤ -1∧(-1:Int)<p.G;omega),L.rn,(by show (-1:Int) ≤ -1∧(-1:Int)<p.G;omega),L.rt,L.rr,(fun hh=>absurd hh (by show ¬ 0≤(p.mach i).next;omega)),L.ri,L.ra⟩ (fun hh=>absurd hh (by show ¬ (p.mach i).inn=true;rw [s.1];decide)) (fun _ hs=>absurd hs.1 (by show ¬ (p.mach i).inn=true;rw [s.1];decide)) (.inl rfl)
  unfold shape;grind
 case rouse g fr k c hp hk hg2 hs =>
  have s:=sh0 L.sh hp
  have hnx:=zaE h hi (by unfold zec;simp [hp])
  refine L_of (f':=p.fl i) h hi rfl rfl rfl rfl (.inr ⟨rfl,rfl⟩) ⟨?_,L.rp,L.rg,L.rn,(by show (-1:Int)≤g∧(g:Int)<p.G;omega),L.rt,L.rr,(fun hh=>absurd hh (by show ¬ 0≤(p.mach i).next;omega)),L.ri,L.ra⟩ (fun hh=>absurd hh (by show ¬ (p.mach i).inn=true;rw [s.1];decide)) (fun _ hs=>absurd hs.1 (by show ¬ (p.mach i).inn=true;rw [s.1];decide)) (.inl rfl)
  unfold shape;grind
 case toPark d hp hd =>
  have s:=sh0 L.sh hp
  have hnx:=zaE h hi (by unfold zec;simp [hp])
  refine L_of (f':=p.fl i) h hi rfl rfl rfl rfl (.inr ⟨rfl,rfl⟩) ⟨?_,L.rp,L.rg,L.rn,L.rgot,L.rt,L.rr,(fun hh=>absurd hh (by show ¬ 0≤(p.mach i).next;omega)),L.ri,hd⟩ (fun hh=>absurd hh (by show ¬ (p.mach i).inn=true;rw [s.1];decide)) (fun _ hs=>absurd hs.1 (by show ¬ (p.mach i).inn=true;rw [s.1];decide)) (.inl rfl)
  unfold shape;grind
 case toAwait x hp hx =>
  have s:=sh0 L.sh hp
  have hnx:=zaE h hi (by unfold zec;simp [hp])
  refine L_of (f':=p.fl i) h hi rfl rfl rfl rfl (.inr ⟨rfl,rfl⟩) ⟨?_,L.rp,L.rg,L.rn,L.rgot,L.rt,L.rr,(fun hh=>absurd hh (by show ¬ 0≤(p.mach i).next;omega)),L.ri,(by show -9223372036854775808≤x∧x≤9223372036854775807;omega)⟩ (fun hh=>absurd hh (by show ¬ (p.mach i).inn=true;rw [s.1];decide)) (fun _ hs=>absurd hs.1 (by show ¬ (p.mach i).inn=true;rw [s.1];decide)) (.inl rfl)
  unfold shape;grind
end
end Hst
