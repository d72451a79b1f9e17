/- Parts of the proof. -/
import Derived.Test.YtlmmjgekolpekaaGreatDoorMPq31
import Derived.Maps.OwnSet
import Derived.DeepKeys4
import Derived.MapViews
import Derived.WideKeyEntry
set_option linter.unusedVariables false
set_option linter.unusedSimpArgs false
set_option linter.unusedSectionVars false
set_option maxRecDepth 100000
set_option maxHeartbeats 6400000
namespace Hst
structure NoEv (p q:Wd):Prop where
 dim:q.P=p.P∧q.M=p.M∧q.G=p.G
 log:q.log=p.log
 st:∀ g,g<p.G→q.sts g=p.sts g
 g:∀ j,(q.mach j).g=(p.mach j).g
 p:∀ j,0≤(p.mach j).g→(q.mach j).p=(p.mach j).p
def toS:Nat→Nat | 0=>1 | 1=>1 | 2=>2 | 3=>1 | 4=>3 | 5=>4 | 6=>5 | _=>6
def frS:Nat→Nat | 0=>0 | 1=>0 | 2=>1 | _=>2
structure AnEv (p:Wd) (i:Nat) (q:Wd) (g k:Nat) (v:Int):Prop where
 dim:q.P=p.P∧q.M=p.M∧q.G=p.G
 iM:i<p.M
 gG:g<p.G
 k7:k≤7
 log:q.log=p.log++[{ kind:=k,g:=g,m:=i,p:=(p.mach i).p,value:=v }]
 val:if k=5 then -9223372036854775808≤v∧v≤9223372036854775807 else if k=6 then 0≤v∧v<65536 else v=0
 st:∀ y,y<p.G→q.sts y=if y=g then toS k else p.sts y
 fr:if k=1 then p.sts g=3∨p.sts g=4∨p.sts g=5 else p.sts g=frS k
 oth:∀ j,j≠i→(q.mach j).g=(p.mach j).g∧(q.mach j).p=(p.mach j).p
 pp:(q.mach i).p=(p.mach i).p
 hp:1<k→0≤(p.mach i).p
 mg:if k=2 then (p.mach i).g = -1∧(q.mach i).g=g else if 2<k then (p.mach i).g=g∧(q.mach i).g = -1 else (q.mach i).g=(p.mach i).g
section
variable {n:Nat} {p:Wd} {i:Nat}
theorem zan {q:Wd} {m':Mach} (h:Inv n p) (hi:i<p.M) (hd:q.P=p.P∧q.M=p.M∧q.G=p.G) (hall:q.all=p.all.set i m') (hlog:q.log=p.log) (hst:∀ g,g<p.G→q.sts g=p.sts g) (hg:m'.g=(p.mach i).g) (hp:0≤(p.mach i).g→m'.p=(p.mach i).p):NoEv p q:=by
 have hm:=zba hall (h.la hi)
 refine ⟨hd,hlog,hst,fun j=>?_,fun j hj=>?_⟩
 ·rw [hm j];split
  ·subst_vars;exact hg
  ·rfl
 ·rw [hm j];split
  ·subst_vars;exact hp hj
  ·rfl
theorem zbg {q:Wd} (hd:q.P=p.P∧q.M=p.M∧q.G=p.G) (hall:q.all=p.all) (hlog:q.log=p.log) (hst:∀ g,g<p.G→q.sts g=p.sts g):NoEv p q:=by
 refine ⟨hd,hlog,hst,fun j=>?_,fun j _=>?_⟩ <;> (unfold Wd.mach;rw [hall])
theorem zbt {q:Wd} {m':Mach} {g k:Nat} {v:Int} (h:Inv n p) (hi:i<p.M) (hd:q.P=p.P∧q.M=p.M∧q.G=p.G) (hg:g<p.G) (hk:k≤7) (hall:q.all=p.all.set i m') (hws:q.ws=p.ws.set (p.statW g) (toS k))
  (hlog:q.log=p.log++[{ kind:=k,g:=g,m:=i,p:=(p.mach i).p,value:=v }]) (val:if k=5 then -9223372036854775808≤v∧v≤9223372036854775807 else if k=6 then 0≤v∧v<65536 else v=0)
  (fr:if k=1 then p.sts g=3∨p.sts g=4∨p.sts g=5 else p.sts g=frS k) (pp:m'.p=(p.mach i).p) (hp:1<k→0≤(p.mach i).p)
  (mg:if k=2 then (p.mach i).g = -1∧m'.g=g else if 2<k then (p.mach i).g=g∧m'.g = -1 else m'.g=(p.mach i).g):AnEv p i q g k v:=by
 have hm:=zba hall (h.la hi)
 have hm':q.mach i=m':=by rw [hm i,if_pos rfl]
 refine ⟨hd,hi,hg,hk,hlog,val,fun y hy=>?_,fr,fun j hj=>?_,by rw [hm'];exact pp,hp,by rw [hm'];exact mg⟩
 ·have:=zb4 p g (toS k) h.sh.lw hg y
  unfold Wd.sts Wd.ld Wd.statW at *
  rw [hws,hd.1,hd.2.1]
  exact this
 ·rw [hm j,if_neg hj];exact ⟨rfl,rfl⟩
theorem tr_ev {p':Wd} (h:Inv n p) (hi:i<p.M) (t:Tr p i p'):NoEv p p'∨∃ g k v,AnEv p i p' g k v:=by
 have hlw:=h.sh.lw
 have sh:=(h.L.loc i hi).sh
 have hlow:∀ a x g,a<2*(p.P+2)+1+p.M→(p.ws.set a x).getD (2*(p.P+2)+1+p.M+g) 0=p.sts g:=fun a x g ha=>zaD p a x (by omega) ha g
 have hk2:∀ k,zek p.P (p.mach i)=some k→k≤p.P+1:=fun k hk=>zcb p.P (p.mach i) hk h.sh.dP.1
 cases t
 case take k c hn hk=>exact .inl (zan h hi ⟨rfl,rfl,rfl⟩ rfl rfl (fun g _=>hlow _ _ g (by have:=hk2 k hk;omega)) rfl fun _=>rfl)
 case miss=>exact .inl (zbg ⟨rfl,rfl,rfl⟩ rfl rfl fun _ _=>rfl)
 case hit=>exact .inl (zan h hi ⟨rfl,rfl,rfl⟩ rfl rfl (fun _ _=>rfl) rfl fun _=>rfl)
 case foundR=>exact .inl (zan h hi ⟨rfl,rfl,rfl⟩ rfl rfl (fun _ _=>rfl) rfl fun _=>rfl)
 case foundG=>exact .inl (zan h hi ⟨rfl,rfl,rfl⟩ rfl rfl (fun _ _=>rfl) rfl fun _=>rfl)
 case told=>exact .inl (zan h hi ⟨rfl,rfl,rfl⟩ rfl rfl (fun _ _=>rfl) rfl fun _=>rfl)
 case release q h0 hp hg hq=>exact .inl (zan h hi ⟨rfl,rfl,rfl⟩ rfl rfl (fun _ _=>rfl) rfl fun hx=>by have:=(sh7 sh hp).1;omega)
 case retake q h0 hp hq hq2=>exact .inl (zan h hi ⟨rfl,rfl,rfl⟩ rfl rfl (fun _ _=>rfl) rfl fun hx=>by have:=(sh11 sh hp).1;omega)
 case pending q t h0 hp hq=>exact .inl (zan h hi ⟨rfl,rfl,rfl⟩ rfl rfl (fun _ _=>rfl) rfl fun hx=>by have:=(sh13 sh hp).1;omega)
 case stopP=>exact .inl (zan h hi ⟨rfl,rfl,rfl⟩ rfl rfl (fun _ _=>rfl) rfl fun _=>rfl)
 case stopM=>exact .inl (zan h hi ⟨rfl,rfl,rfl⟩ rfl rfl (fun _ _=>rfl) rfl fun _=>rfl)
 case unpoll=>exact .inl (zan h hi ⟨rfl,rfl,rfl⟩ rfl rfl (fun _ _=>rfl) rfl fun _=>rfl)
 case putOver=>exact .inl (zan h hi ⟨rfl,rfl,rfl⟩ rfl rfl (fun _ _=>rfl) rfl fun _=>rfl)
 case putOne=>exact .inl (zan h hi ⟨rfl,rfl,rfl⟩ rfl rfl (fun _ _=>rfl) rfl fun _=>rfl)
 case putRest=>exact .inl (zan h hi ⟨rfl,rfl,rfl⟩ rfl rfl (fun _ _=>rfl) rfl fun _=>rfl)
 case putNext=>exact .inl (zan h hi ⟨rfl,rfl,rfl⟩ rfl rfl (fun _ _=>rfl) rfl fun _=>rfl)
 case deliv=>exact .inl (zan h hi ⟨rfl,rfl,rfl⟩ rfl rfl (fun _ _=>rfl) rfl fun _=>rfl)
 case findNo=>exact .inl (zan h hi ⟨rfl,rfl,rfl⟩ rfl rfl (fun _ _=>rfl) rfl fun _=>rfl)
 case findBack c h1 hp=>exact .inl (zan h hi ⟨rfl,rfl,rfl⟩ rfl rfl (fun g _=>hlow _ _ g (by unfold Wd.spinW;omega)) rfl fun _=>rfl)
 case findM q k h0 hp hq hq2 m' o' hm =>
  obtain ⟨hkM,hne⟩:k<p.M∧i≠k:=by
   have:=zbv h hi hp hm
   grind
  have hm2:=zc9 (p:=p) (q:={ p with idle:={ p.idle with p:=p.idle.p^^^2^q,m:=m',poller:=o' },all:=(p.all.set k { p.mach k with next:=q }).set i { p.mach i with target:=k,times:=1,stage:=3 } }) (i:=i) (k:=k) rfl (h.la hi) (by rw [h.sh.la];exact hkM)
  refine .inl ⟨⟨rfl,rfl,rfl⟩,rfl,fun _ _=>rfl,fun j=>?_,fun j _=>?_⟩
  ·rw [hm2 j];(repeat' split) <;> (subst_vars;rfl)
  ·rw [hm2 j];(repeat' split) <;> (subst_vars;rfl)
 case findP=>exact .inl (zan h hi ⟨rfl,rfl,rfl⟩ rfl rfl (fun _ _=>rfl) rfl fun _=>rfl)
 case park=>exact .inl (zan h hi ⟨rfl,rfl,rfl⟩ rfl rfl (fun _ _=>rfl) rfl fun _=>rfl)
 case await=>exact .inl (zan h hi ⟨rfl,rfl,rfl⟩ rfl rfl (fun _ _=>rfl) rfl fun _=>rfl)
 case awaitNo=>exact .inl (zan h hi ⟨rfl,rfl,rfl⟩ rfl rfl (fun _ _=>rfl) rfl fun _=>rfl)
 case outOf g to k v c h1 hp hg hg2 hs hv =>
  have ra:=(h.L.loc i hi).ra
  rcases hp with ⟨hp,rfl,rfl⟩ | ⟨hp,rfl,rfl⟩
  ·exact .inr ⟨g,5,v,zbt h hi ⟨rfl,rfl,rfl⟩ hg2 (by omega) rfl rfl rfl (by rw [if_pos rfl,hv];exact ra) (by rw [if_neg (by decide)];exact hs) rfl (fun _=>(sh29 sh hp).1) (by rw [if_neg (by decide),if_pos (by decide)];exact ⟨hg,rfl⟩)⟩
  ·have ha:=sh30 sh hp
   exact .inr ⟨g,6,v,zbt h hi ⟨rfl,rfl,rfl⟩ hg2 (by omega) rfl rfl rfl (by rw [if_neg (by decide),if_pos rfl];omega) (by rw [if_neg (by decide)];exact hs) rfl (fun _=>ha.1) (by rw [if_neg (by decide),if_pos (by decide)];exact ⟨hg,rfl⟩)⟩
 case free k c hn hs hk hl hk2' ht =>
  have hk3:=za1 p.P (p.fl i) { p.mach i with stage:=4,inn:=false }
  exact .inl (zan h hi ⟨rfl,rfl,rfl⟩ rfl rfl (fun g _=>hlow _ _ g (by omega)) hk3.2.1 fun _=>hk3.1)
 case sched t hpl q hq m' hm =>
  rcases hm with rfl | rfl
  ·exact .inl (zan h hi ⟨rfl,rfl,rfl⟩ rfl rfl (fun _ _=>rfl) rfl fun _=>rfl)
  ·exact .inl (zan h hi ⟨rfl,rfl,rfl⟩ rfl rfl (fun _ _=>rfl) rfl fun _=>rfl)
 case spinUp=>exact .inl (zan h hi ⟨rfl,rfl,rfl⟩ rfl rfl (fun g _=>hlow _ _ g (by unfold Wd.spinW;omega)) rfl fun _=>rfl)
 case spinBack=>exact .inl (zan h hi ⟨rfl,rfl,rfl⟩ rfl rfl (fun g _=>hlow _ _ g (by unfold Wd.spinW;omega)) rfl fun _=>rfl)
 case drop=>exact .inl (zan h hi ⟨rfl,rfl,rfl⟩ rfl rfl (fun g _=>hlow _ _ g (by unfold Wd.spinW;omega)) rfl fun _=>rfl)
 case unspin=>exact .inl (zan h hi ⟨rfl,rfl,rfl⟩ rfl rfl (fun g _=>hlow _ _ g (by unfold Wd.spinW;omega)) rfl fun _=>rfl)
 case dispatch g c hpl hg hg2 hs =>
  have s:=sh20 sh hpl
  exact .inr ⟨g,2,0,zbt h hi ⟨rfl,rfl,rfl⟩ hg2 (by omega) rfl rfl rfl rfl hs rfl (fun _=>s.2.1) (by rw [if_pos rfl];exact ⟨s.2.2.1,hg⟩)⟩
 case load=>exact .inl (zan h hi ⟨rfl,rfl,rfl⟩ rfl rfl (fun _ _=>rfl) rfl fun _=>rfl)
 case claim=>exact .inl (zan h hi ⟨rfl,rfl,rfl⟩ rfl rfl (fun g _=>hlow _ _ g (by unfold Wd.spinW;omega)) rfl fun _=>rfl)
 case claimNo=>exact .inl (zan h hi ⟨rfl,rfl,rfl⟩ rfl rfl (fun _ _=>rfl) rfl fun _=>rfl)
 case wake k c hpl hk hk2' hz=>exact .inl (zan h hi ⟨rfl,rfl,rfl⟩ rfl rfl (fun g _=>hlow _ _ g (by unfold Wd.noteW;omega)) rfl fun _=>rfl)
 case mark g c hpl hg hg2 hs =>
  exact .inr ⟨g,1,0,zbt h hi ⟨rfl,rfl,rfl⟩ hg2 (by omega) rfl rfl rfl rfl (by rw [if_pos rfl];exact .inr hs) rfl (fun hh=>absurd hh (by decide)) rfl⟩
 case asleep=>exact .inl (zbg ⟨rfl,rfl,rfl⟩ rfl rfl fun _ _=>rfl)
 case awake=>exact .inl (zan h hi ⟨rfl,rfl,rfl⟩ rfl rfl (fun g _=>hlow _ _ g (by unfold Wd.noteW;omega)) rfl fun _=>rfl)
 case awakeP c hpl hz hx=>exact .inl (zan h hi ⟨rfl,rfl,rfl⟩ rfl rfl (fun g _=>hlow _ _ g (by unfold Wd.noteW;omega)) rfl fun hx=>by have:=(sh16 sh hpl).2.2.1;omega)
 case idle=>exact .inl (zbg ⟨rfl,rfl,rfl⟩ rfl rfl fun _ _=>rfl)
 case refused=>exact .inl (zbg ⟨rfl,rfl,rfl⟩ rfl rfl fun _ _=>rfl)
 case yield g c hpl hg hg2 hs =>
  have s:=sh0 sh hpl
  exact .inr ⟨g,3,0,zbt h hi ⟨rfl,rfl,rfl⟩ hg2 (by omega) rfl rfl rfl rfl hs rfl (fun _=>s.2.1) ⟨hg,rfl⟩⟩
 case leave g to k c hpl hk hg hg2 hs =>
  have s:=sh0 sh hpl
  rcases hk with ⟨rfl,rfl⟩ | ⟨rfl,rfl⟩
  ·exact .inr ⟨g,4,0,zbt h hi ⟨rfl,rfl,rfl⟩ hg2 (by omega) rfl rfl rfl rfl hs rfl (fun _=>s.2.1) ⟨hg,rfl⟩⟩
  ·exact .inr ⟨g,7,0,zbt h hi ⟨rfl,rfl,rfl⟩ hg2 (by omega) rfl rfl rfl rfl hs rfl (fun _=>s.2.1) ⟨hg,rfl⟩⟩
 case rouse g fr k c hpl hk hg2 hs =>
  rcases hk with ⟨rfl,rfl⟩ | ⟨rfl,rfl⟩
  ·exact .inr ⟨g,0,0,zbt h hi ⟨rfl,rfl,rfl⟩ hg2 (by omega) rfl rfl rfl rfl hs rfl (fun hh=>absurd hh (by decide)) rfl⟩
  ·exact .inr ⟨g,1,0,zbt h hi ⟨rfl,rfl,rfl⟩ hg2 (by omega) rfl rfl rfl rfl (.inl hs) rfl (fun hh=>absurd hh (by decide)) rfl⟩
 case toPark=>exact .inl (zan h hi ⟨rfl,rfl,rfl⟩ rfl rfl (fun _ _=>rfl) rfl fun _=>rfl)
 case toAwait=>exact .inl (zan h hi ⟨rfl,rfl,rfl⟩ rfl rfl (fun _ _=>rfl) rfl fun _=>rfl)
theorem zct:NoEv p p:=zbg ⟨rfl,rfl,rfl⟩ rfl rfl fun _ _=>rfl
theorem noev_tell (h:Inv n p) (due:Bool):NoEv p (p.tell due):=by
 rcases tell_eq h due with e | ⟨k,hk,_,e⟩
 ·rw [e];exact zct
 ·rw [e]
  have hlw:=h.sh.lw
  have hr:=h.D.rpo
  exact zbg ⟨rfl,rfl,rfl⟩ rfl rfl fun g _=>zaD p (p.noteW k) 1 (by unfold Wd.noteW;omega) (by unfold Wd.noteW;omega) g
theorem NoEv.src {q:Wd} {s:Src} (h:NoEv { p with src:=s } q):NoEv p q:=⟨h.dim,h.log,h.st,h.g,h.p⟩
theorem step_ev (h:Inv n p) (s:Stp) (hd : -9223372036854775808≤s.d∧s.d≤9223372036854775807):NoEv p (p.step s).1∨∃ i g k v,AnEv p i (p.step s).1 g k v:=by
 unfold Wd.step
 split
 ·rcases pick_tr h s hd with e | ⟨i,hi,_,t⟩
  ·rw [e];exact .inl zct
  ·rcases tr_ev h hi t with e | ⟨g,k,v,e⟩
   ·exact .inl e
   ·exact .inr ⟨i,g,k,v,e⟩
 ·have h1:Inv (n+1) { p with src:=p.src.tick s.d }:=zcL h _ (S_tick h.S s.d rfl rfl) (fun _=>rfl)
  exact .inl (noev_tell h1 _).src
 ·split
  ·exact .inl zct
  ·rename_i ha
   have h1:Inv (n+1) { p with src:=(p.src.ready s.a.toNat).1 }:=zcL h _ (S_ready h.S s.a.toNat (by omega) rfl rfl) (fun x=>zcK h.S s.a.toNat x)
   exact .inl (noev_tell h1 _).src
 ·exact .inl zct
end
section
variable {β:Type}
def alGet (l:List (Int × β)) (k:Int):Option β:=(l.find? fun p=>p.1==k).map (·.2)
def zeE (l:List (Int × β)) (k:Int):List (Int × β):=l.filter fun p=>decide (p.1≠k)
theorem zcv (k:Int):alGet ([]:List (Int × β)) k=none:=rfl
theorem zaI (a:Int × β) (l:List (Int × β)) (k:Int):alGet (a :: l) k=if a.1=k then some a.2 else alGet l k:=by
 unfold alGet
 rw [List.find?_cons]
 by_cases h:a.1=k
 ·rw [if_pos h,show (a.1==k)=true by simpa using h];rfl
 ·rw [if_neg h,show (a.1==k)=false by simpa using h]
theorem alGet_app (l:List (Int × β)) (k:Int) (v:β) (j:Int) (h:alGet l k=none):alGet (l++[(k,v)]) j=if j=k then some v else alGet l j:=by
 induction l with
 | nil=>rw [List.nil_append,zaI,zcv];simp only [eq_comm]
 | cons a t ih =>
  rw [zaI] at h
  rw [List.cons_append,zaI,zaI]
  by_cases ha:a.1=k
  ·rw [if_pos ha] at h;cases h
  ·rw [if_neg ha] at h
   rw [ih h]
   by_cases hj:j=k
   ·subst hj;rw [if_neg ha,if_pos rfl,if_pos rfl]
   ·rw [if_neg hj,if_neg hj]
theorem alGet_del (l:List (Int × β)) (k j:Int):alGet (zeE l k) j=if j=k then none else alGet l j:=by
 induction l with
 | nil=>simp [zeE,zcv]
 | cons a t ih =>
  unfold zeE at *
  rw [List.filter_cons,zaI]
  by_cases ha:a.1=k
  ·rw [if_neg (by simpa using ha),ih]
   by_cases hj:j=k
   ·rw [if_pos hj,if_pos hj]
   ·rw [if_neg hj,if_neg hj,if_neg (fun e=>hj (by rw [← e,ha]))]
  ·rw [if_pos (by simpa using ha),zaI,ih]
   by_cases hj:j=k
   ·subst hj;rw [if_neg ha,if_pos rfl,if_pos rfl]
   ·rw [if_neg hj,if_neg hj]
theorem zdX {l:List (Int × β)} {k:Int}:alGet l k=none ↔ ¬ k∈l.map (·.1):=by
 induction l with
 | nil=>simp [zcv]
 | cons a t ih =>
  rw [zaI,List.map_cons,List.mem_cons]
  by_cases ha:a.1=k
  ·rw [if_pos ha];simp [ha]
  ·rw [if_neg ha,ih]
   exact ⟨fun h e=>e.elim (fun e=>ha e.symm) h,fun h e=>h (.inr e)⟩
theorem alDel_len (l:List (Int × β)) (k:Int) (hn:(l.map (·.1)).Nodup) (v:β) (h:alGet l k=some v):(zeE l k).length+1=l.length:=by
 induction l with
 | nil=>simp [zcv] at h
 | cons a t ih =>
  rw [List.map_cons,List.nodup_cons] at hn
  rw [zaI] at h
  unfold zeE at *
  rw [List.filter_cons]
  by_cases ha:a.1=k
  ·rw [if_neg (by simpa using ha),List.filter_eq_self.2]
   ·rfl
   ·intro p hp
    have:p.1≠k:=fun e=>hn.1 (by rw [ha,← e];exact List.mem_map.2 ⟨p,hp,rfl⟩)
    simpa using this
  ·rw [if_neg ha] at h
   rw [if_pos (by simpa using ha),List.length_cons,List.length_cons]
   have:=ih hn.2 h
   omega
theorem zbs {l:List (Int × β)} {k:Int} (hn:(l.map (·.1)).Nodup):((zeE l k).map (·.1)).Nodup:=hn.sublist (List.Sublist.map _ List.filter_sublist)
theorem zbr {l:List (Int × β)} {k:Int} {v:β} (hn:(l.map (·.1)).Nodup) (h:alGet l k=none):((l++[(k,v)]).map (·.1)).Nodup:=by
 rw [List.map_append,List.nodup_append]
 refine ⟨hn,by simp,fun a ha b hb e=>?_⟩
 simp at hb
 subst hb;subst e
 exact zdX.1 h ha
theorem alGet_mem {l:List (Int × β)} {k:Int} (h:k∈l.map (·.1)):∃ v,alGet l k=some v:=by
 cases e:alGet l k with
 | none=>exact absurd h (zdX.1 e)
 | some v=>exact ⟨v,rfl⟩
end
structure Mdl where
 st:List Nat
 runs:List (Int × (Int × Int))
 on:List (Int × Int)
def Mdl.new (G:Nat):Mdl:={ st:=List.replicate G 0,runs:=[],on:=[] }
def Mdl.add (m:Mdl) (e:Ev):Mdl :=
 { st:=m.st.set e.g.toNat (toS e.kind.toNat),runs:=if e.kind<2 then m.runs else if e.kind=2 then m.runs++[(e.m,(e.g,e.p))] else zeE m.runs e.m,on:=if e.kind<2 then m.on else if e.kind=2 then m.on++[(e.p,e.m)] else zeE m.on e.p }
structure MOk (P M:Nat) (m:Mdl) (e:Ev):Prop where
 k:0≤e.kind∧e.kind≤7
 g:0≤e.g∧e.g<m.st.length
 m1 : -1≤e.m∧e.m<M
 p1 : -1≤e.p∧e.p<P
 val:if e.kind=5 then -9223372036854775808≤e.value∧e.value≤9223372036854775807 else if e.kind=6 then 0≤e.value∧e.value<65536 else e.value=0
 inn:2≤e.kind→0≤e.m∧0≤e.p
 fr:if e.kind=1 then m.st.getD e.g.toNat 0=3∨m.st.getD e.g.toNat 0=4∨m.st.getD e.g.toNat 0=5 else m.st.getD e.g.toNat 0=frS e.kind.toNat
 two:e.kind=2→alGet m.runs e.m=none∧alGet m.on e.p=none
 off:3≤e.kind→alGet m.runs e.m=some (e.g,e.p)
def MOks (P M:Nat):Mdl→List Ev→Prop
 | _,[]=>True
 | m,e :: t=>MOk P M m e∧(m.add e).runs.length≤P∧MOks P M (m.add e) t
def mrun (m:Mdl) (l:List Ev):Mdl:=l.foldl Mdl.add m
theorem mrun_app (m:Mdl) (l:List Ev) (e:Ev):mrun m (l++[e])=(mrun m l).add e:=by unfold mrun;rw [List.foldl_append];rfl
theorem MOks_app {P M:Nat}:∀ (l:List Ev) (m:Mdl) (e:Ev),MOks P M m l→MOk P M (mrun m l) e→((mrun m l).add e).runs.length≤P→MOks P M m (l++[e])
 | [],m,e,_,h,h2=>⟨h,h2,trivial⟩
 | a :: t,m,e,h,h1,h2=>⟨h.1,h.2.1,MOks_app t (m.add a) e h.2.2 h1 h2⟩
theorem MOks_at {P M:Nat}:∀ (l:List Ev) (m:Mdl) (j:Nat) (e:Ev),MOks P M m l→l[j]?=some e→MOk P M (mrun m (l.take j)) e∧((mrun m (l.take j)).add e).runs.length≤P∧mrun m (l.take (j+1))=(mrun m (l.take j)).add e
 | [],m,j,e,_,h=>by simp at h
 | a :: t,m,0,e,h,he=>by
  simp at he;subst he;exact ⟨h.1,h.2.1,rfl⟩
 | a :: t,m,j+1,e,h,he=>MOks_at t (m.add a) j e h.2.2 (by simpa using he)
structure MRel (p:Wd) (m:Mdl):Prop where
 len:m.st.length=p.G
 st:∀ g,g<p.G→m.st.getD g 0=p.sts g
 runs:∀ i x,alGet m.runs i=some x ↔ ∃ j:Nat,i=j∧j<p.M∧0≤(p.mach j).g∧x=((p.mach j).g,(p.mach j).p)
 on:∀ q x,alGet m.on q=some x ↔ ∃ j:Nat,x=j∧j<p.M∧0≤(p.mach j).g∧q=(p.mach j).p
 nr:(m.runs.map (·.1)).Nodup
 no:(m.on.map (·.1)).Nodup
 rl:m.runs.length=m.on.length
section
variable {n:Nat} {p:Wd} {i:Nat}
theorem one_p (h:Inv n p) {j k:Nat} (hj:j<p.M) (hk:k<p.M) (hp:0≤(p.mach j).p) (e:(p.mach j).p=(p.mach k).p):j=k:=by
 refine Classical.byContradiction fun hne=>?_
 obtain ⟨q,hq⟩:∃ q:Nat,(p.mach j).p=q:=⟨(p.mach j).p.toNat,by omega⟩
 have hqP:q<p.P:=by have:=(h.L.loc j hj).rp;omega
 have h1:=h.B.each q hqP
 have h2:=zbT (zee q) p.all j k Mach.fresh (h.la hj) (h.la hk) hne
 have e1:1≤zee q (p.all.getD j Mach.fresh):=by show 1≤zee q (p.mach j);unfold zee;rw [zai hq];omega
 have e2:1≤zee q (p.all.getD k Mach.fresh):=by show 1≤zee q (p.mach k);unfold zee;rw [zai (by rw [← e];exact hq)];omega
 omega
theorem runs_p (h:Inv n p) (hi:i<p.M) (hg:0≤(p.mach i).g):0≤(p.mach i).p:=by
 have sh:=(h.L.loc i hi).sh
 unfold shape at sh
 split at sh
 all_goals grind
theorem rel_noev {q:Wd} {m:Mdl} (e:NoEv p q) (r:MRel p m):MRel q m:=by
 obtain ⟨dP,dM,dG⟩:=e.dim
 have hj:∀ j,0≤(p.mach j).g ↔ 0≤(q.mach j).g:=fun j=>by rw [e.g j]
 refine ⟨by rw [dG];exact r.len,fun g hg=>by rw [dG] at hg;rw [e.st g hg];exact r.st g hg,fun i x=>?_,fun y x=>?_,r.nr,r.no,r.rl⟩
 ·rw [r.runs i x,dM]
  refine exists_congr fun j=>and_congr_right fun _=>and_congr_right fun _=>?_
  rw [e.g j]
  refine and_congr_right fun hg=>?_
  rw [e.p j hg]
 ·rw [r.on y x,dM]
  refine exists_congr fun j=>and_congr_right fun _=>and_congr_right fun _=>?_
  rw [e.g j]
  refine and_congr_right fun hg=>?_
  rw [e.p j hg]
theorem rel_len (h:Inv n p) {m:Mdl} (r:MRel p m):m.runs.length≤p.P:=by
 rw [r.rl,← List.length_map («as»:=m.on) (·.1)]
 refine zaq _ _ (fun x hx=>?_) fun x=>List.nodup_iff_count.1 r.no x
 obtain ⟨v,hv⟩:=alGet_mem hx
 obtain ⟨j,_,hj,hg,rfl⟩:=(r.on x v).1 hv
 exact ⟨runs_p h hj hg,((h.L.loc j hj).rp).2⟩
theorem rel_ev {q:Wd} {g k:Nat} {v:Int} {m:Mdl} (h:Inv n p) (e:AnEv p i q g k v) (r:MRel p m) :
  MOk p.P p.M m { kind:=k,g:=g,m:=i,p:=(p.mach i).p,value:=v }∧MRel q (m.add { kind:=k,g:=g,m:=i,p:=(p.mach i).p,value:=v }):=by
 obtain ⟨dP,dM,dG⟩:=e.dim
 have hi:=e.iM
 have hrp:=(h.L.loc i hi).rp
 have hk7:=e.k7
 have hgG:=e.gG
 have hst:=r.st g hgG
 have hoff:3≤k→alGet m.runs i=some ((g:Int),(p.mach i).p):=fun hk=>by
  have:=e.mg
  rw [if_neg (by omega),if_pos (by omega)] at this
  exact (r.runs i _).2 ⟨i,rfl,hi,by omega,by rw [this.1]⟩
 have htwo:k=2→alGet m.runs i=none∧alGet m.on (p.mach i).p=none:=fun hk=>by
  have hg1:=e.mg
  rw [if_pos hk] at hg1
  have hp0:=e.hp (by omega)
  refine ⟨?_,?_⟩
  ·cases hx:alGet m.runs i with
   | none=>rfl
   | some x =>
    obtain ⟨j,hj1,hj,hg,_⟩:=(r.runs i x).1 hx
    obtain rfl:i=j:=by omega
    omega
  ·cases hx:alGet m.on (p.mach i).p with
   | none=>rfl
   | some x =>
    obtain ⟨j,_,hj,hg,hq⟩:=(r.on _ x).1 hx
    obtain rfl:=one_p h hi hj hp0 hq
    omega
 refine ⟨⟨⟨by dsimp only;omega,by dsimp only;omega⟩,⟨by dsimp only;omega,by dsimp only;rw [r.len];omega⟩,⟨by dsimp only;omega,by dsimp only;omega⟩,⟨hrp.1,hrp.2⟩,?_,fun hk=>⟨by dsimp only;omega,e.hp (by dsimp only at hk;omega)⟩,?_,fun hk=>htwo (by dsimp only at hk;omega),fun hk=>hoff (by dsimp only at hk;omega)⟩,?_⟩
 ·have hv:=e.val
  simp only
  by_cases h5:k=5
  ·rw [if_pos h5] at hv;rw [if_pos (by omega)];exact hv
  ·rw [if_neg h5] at hv;rw [if_neg (by omega)]
   by_cases h6:k=6
   ·rw [if_pos h6] at hv;rw [if_pos (by omega)];exact hv
   ·rw [if_neg h6] at hv;rw [if_neg (by omega)];exact hv
 ·have hf:=e.fr
  simp only [Int.toNat_natCast]
  rw [hst]
  by_cases h1:k=1
  ·rw [if_pos h1] at hf;rw [if_pos (by omega)];exact hf
  ·rw [if_neg h1] at hf;rw [if_neg (by omega)];exact hf
 ·refine ⟨by show (m.st.set _ _).length=_;rw [List.length_set,dG];exact r.len,fun y hy=>?_,fun a x=>?_,fun a x=>?_,?_,?_,?_⟩
  ·show (m.st.set (Int.toNat (g:Int)) (toS (Int.toNat (k:Int)))).getD y 0=_
   rw [dG] at hy
   rw [Int.toNat_natCast,Int.toNat_natCast,e.st y hy,zad _ _ _ _ _ (by rw [r.len];exact hgG),r.st y hy]
  ·show alGet (if (k:Int)<2 then m.runs else if (k:Int)=2 then m.runs++[((i:Int),((g:Int),(p.mach i).p))] else zeE m.runs i) a=some x ↔ _
   rw [dM]
   by_cases h2:k<2
   ·rw [if_pos (by omega),r.runs a x]
    have hmg:=e.mg
    rw [if_neg (by omega),if_neg (by omega)] at hmg
    refine exists_congr fun j=>and_congr_right fun _=>and_congr_right fun hj=>?_
    by_cases hji:j=i
    ·subst hji;rw [hmg,e.pp]
    ·rw [(e.oth j hji).1,(e.oth j hji).2]
   ·rw [if_neg (by omega)]
    by_cases h3:k=2
    ·rw [if_pos (by omega),alGet_app _ _ _ _ (htwo h3).1]
     have hmg:=e.mg
     rw [if_pos h3] at hmg
     by_cases ha:a=i
     ·rw [if_pos ha]
      constructor
      ·intro hx
       cases hx
       exact ⟨i,ha,hi,by rw [hmg.2];omega,by rw [hmg.2,e.pp]⟩
      ·rintro ⟨j,hj1,hj,hg,rfl⟩
       obtain rfl:j=i:=by omega
       rw [hmg.2,e.pp]
     ·rw [if_neg ha,r.runs a x]
      refine exists_congr fun j=>and_congr_right fun hj1=>and_congr_right fun hj=>?_
      have hji:j≠i:=by omega
      rw [(e.oth j hji).1,(e.oth j hji).2]
    ·rw [if_neg (by omega),alGet_del]
     have hmg:=e.mg
     rw [if_neg h3,if_pos (by omega)] at hmg
     by_cases ha:a=i
     ·rw [if_pos ha]
      constructor
      ·intro hx;cases hx
      ·rintro ⟨j,hj1,hj,hg,rfl⟩
       obtain rfl:j=i:=by omega
       omega
     ·rw [if_neg ha,r.runs a x]
      refine exists_congr fun j=>and_congr_right fun hj1=>and_congr_right fun hj=>?_
      have hji:j≠i:=by omega
      rw [(e.oth j hji).1,(e.oth j hji).2]
  ·show alGet (if (k:Int)<2 then m.on else if (k:Int)=2 then m.on++[((p.mach i).p,(i:Int))] else zeE m.on (p.mach i).p) a=some x ↔ _
   rw [dM]
   by_cases h2:k<2
   ·rw [if_pos (by omega),r.on a x]
    have hmg:=e.mg
    rw [if_neg (by omega),if_neg (by omega)] at hmg
    refine exists_congr fun j=>and_congr_right fun _=>and_congr_right fun hj=>?_
    by_cases hji:j=i
    ·subst hji;rw [hmg,e.pp]
    ·rw [(e.oth j hji).1,(e.oth j hji).2]
   ·have hp0:=e.hp (by omega)
    rw [if_neg (by omega)]
    by_cases h3:k=2
    ·rw [if_pos (by omega),alGet_app _ _ _ _ (htwo h3).2]
     have hmg:=e.mg
     rw [if_pos h3] at hmg
     by_cases ha:a=(p.mach i).p
     ·rw [if_pos ha]
      constructor
      ·intro hx
       cases hx
       exact ⟨i,rfl,hi,by rw [hmg.2];omega,by rw [e.pp,ha]⟩
      ·rintro ⟨j,rfl,hj,hg,hq⟩
       by_cases hji:j=i
       ·rw [hji]
       ·rw [(e.oth j hji).2] at hq
        exact absurd (one_p h hj hi (by omega) (by omega)) hji
     ·rw [if_neg ha,r.on a x]
      refine exists_congr fun j=>and_congr_right fun hj1=>and_congr_right fun hj=>?_
      by_cases hji:j=i
      ·subst hji
       rw [e.pp,hmg.1,hmg.2]
       constructor
       ·rintro ⟨h1,_⟩;omega
       ·rintro ⟨_,h1⟩;exact absurd h1 ha
      ·rw [(e.oth j hji).1,(e.oth j hji).2]
    ·rw [if_neg (by omega),alGet_del]
     have hmg:=e.mg
     rw [if_neg h3,if_pos (by omega)] at hmg
     by_cases ha:a=(p.mach i).p
     ·rw [if_pos ha]
      constructor
      ·intro hx;cases hx
      ·rintro ⟨j,rfl,hj,hg,hq⟩
       by_cases hji:j=i
       ·subst hji;omega
       ·rw [(e.oth j hji).2] at hq
        exact absurd (one_p h hj hi (by omega) (by omega)) hji
     ·rw [if_neg ha,r.on a x]
      refine exists_congr fun j=>and_congr_right fun hj1=>and_congr_right fun hj=>?_
      by_cases hji:j=i
      ·subst hji
       rw [e.pp,hmg.1,hmg.2]
       constructor
       ·rintro ⟨_,h1⟩;exact absurd h1 ha
       ·rintro ⟨h1,_⟩;omega
      ·rw [(e.oth j hji).1,(e.oth j hji).2]
  ·show ((if (k:Int)<2 then m.runs else if (k:Int)=2 then m.runs++[((i:Int),((g:Int),(p.mach i).p))] else zeE m.runs i).map (·.1)).Nodup
   split
   ·exact r.nr
   ·split
    ·exact zbr r.nr (htwo (by omega)).1
    ·exact zbs r.nr
  ·show ((if (k:Int)<2 then m.on else if (k:Int)=2 then m.on++[((p.mach i).p,(i:Int))] else zeE m.on (p.mach i).p).map (·.1)).Nodup
   split
   ·exact r.no
   ·split
    ·exact zbr r.no (htwo (by omega)).2
    ·exact zbs r.no
  ·show (if (k:Int)<2 then m.runs else if (k:Int)=2 then m.runs++[((i:Int),((g:Int),(p.mach i).p))] else zeE m.runs i).length=(if (k:Int)<2 then m.on else if (k:Int)=2 then m.on++[((p.mach i).p,(i:Int))] else zeE m.on (p.mach i).p).length
   have:=r.rl
   by_cases h2:(k:Int)<2
   ·rw [if_pos h2,if_pos h2];exact r.rl
   ·rw [if_neg h2,if_neg h2]
    by_cases h3:(k:Int)=2
    ·rw [if_pos h3,if_pos h3];simp [this]
    ·rw [if_neg h3,if_neg h3]
     have h4:=hoff (by omega)
     have h5:=alDel_len m.runs i r.nr _ h4
     have h6:=alDel_len m.on (p.mach i).p r.no i ((r.on _ _).2 ⟨i,rfl,hi,by have hmg:=e.mg;rw [if_neg (by omega),if_pos (by omega)] at hmg;omega,rfl⟩)
     omega
structure Mdld (P M G:Nat) (p:Wd):Prop where
 dim:p.P=P∧p.M=M∧p.G=G
 oks:MOks P M (Mdl.new G) p.log
 rel:MRel p (mrun (Mdl.new G) p.log)
theorem mdld_step {P M G:Nat} (h:Inv n p) (hn:n<2^61) (d:Mdld P M G p) (s:Stp) (hd : -9223372036854775808≤s.d∧s.d≤9223372036854775807):Mdld P M G (p.step s).1:=by
 obtain ⟨dP,dM,dG⟩:=d.dim
 rcases step_ev h s hd with e | ⟨i,g,k,v,e⟩
 ·obtain ⟨eP,eM,eG⟩:=e.dim
  refine ⟨⟨eP.trans dP,eM.trans dM,eG.trans dG⟩,by rw [e.log];exact d.oks,by rw [e.log];exact rel_noev e d.rel⟩
 ·obtain ⟨eP,eM,eG⟩:=e.dim
  obtain ⟨h1,h2⟩:=rel_ev h e d.rel
  rw [dP,dM] at h1
  have h3:=rel_len (zcm h hn s hd) h2
  rw [eP,dP] at h3
  refine ⟨⟨eP.trans dP,eM.trans dM,eG.trans dG⟩,?_,?_⟩
  ·rw [e.log];exact MOks_app _ _ _ d.oks h1 h3
  ·rw [e.log,mrun_app];exact h2
theorem mdld_run {P M G:Nat}:∀ (l:List Stp) (n k:Nat) (p:Wd),Inv n p→n+2*l.length<2^61→(∀ s,s∈l → -9223372036854775808≤s.d∧s.d≤9223372036854775807)→Mdld P M G p →
  Mdld P M G (l.foldl (fun (x,n) s=>let (y,b):=x.step s;(y,if b then n+1 else n)) (p,k)).1
 | [],n,k,p,h,_,_,d=>d
 | s :: l,n,k,p,h,hn,hd,d=>by
  rw [run_cons]
  simp only [List.length_cons] at hn
  exact mdld_run l (n+2) _ (p.step s).1 (zcm h (by omega) s (hd s (by simp))) (by omega) (fun s hs=>hd s (by simp [hs])) (mdld_step h (by omega) d s (hd s (by simp)))
theorem mdld_new (P M G:Nat) (hd:1≤P∧P≤64∧P≤M∧M≤128∧1≤G∧G≤4096):Mdld P M G (Wd.new P M G):=by
 have hm:∀ j,((Wd.new P M G).mach j).g = -1:=fun j=>by
  rw [za4 P M G j (by omega)];split <;> rfl
 refine ⟨⟨rfl,rfl,rfl⟩,⟨⟨by decide,⟨by show (0:Int)≤0;omega,by show (0:Int)<((List.replicate G 0).length:Nat);rw [List.length_replicate];omega⟩,⟨by show (-1:Int) ≤ -1;omega,by show (-1:Int)<M;omega⟩,⟨by show (-1:Int) ≤ -1;omega,by show (-1:Int)<P;omega⟩,rfl,fun hh=>absurd hh (by decide),?_,fun hh=>absurd hh (by decide),fun hh=>absurd hh (by decide)⟩,Nat.zero_le _,trivial⟩,?_⟩
 ·show (List.replicate G 0).getD 0 0=0
  rw [zaA]
 ·refine ⟨by show ((List.replicate G 0).set _ _).length=G;simp,fun g hg=>?_,fun i x=>?_,fun i x=>?_,List.nodup_nil,List.nodup_nil,rfl⟩
  ·show ((List.replicate G 0).set 0 1).getD g 0=(Wd.new P M G).ld (2*(P+2)+1+M+g)
   rw [zdy P M G _ (by omega),zad _ _ _ _ _ (by rw [List.length_replicate];omega),zaA]
   by_cases h0:g=0
   ·rw [if_pos h0,if_pos (by omega)]
   ·rw [if_neg h0,if_neg (by omega)]
  ·constructor
   ·intro hx;cases hx
   ·rintro ⟨j,_,_,hg,_⟩;rw [hm j] at hg;omega
  ·constructor
   ·intro hx;cases hx
   ·rintro ⟨j,_,_,hg,_⟩;rw [hm j] at hg;omega
end
end Hst
namespace Go.Proofs.YtlmmjgekolpekaaGreatDoor
open Go Go.RowKit Hst Go.Proofs
section
variable {F:Fix} {V:Vol} {ow:Nat→Nat} {w:World} {p:Wd}
theorem config_on (h:WAt F V ow w p) :
  Calls Tryz.prog 25 #[.pointer (some ⟨F.W,0,none⟩)] w fun e w'=>e=.returned (.agg #[.int .i64 p.P,.int .i64 p.M,.int .i64 p.G])∧Below w.heap.size w w':=by
 have c0:=h.cW_F_P
 have c1:=h.cW_F_M
 have c2:=h.cW_F_G
 have lW:=World.block_lt_of_cell? w _ c0
 simp only at lW
 clear h
 go_enter Tryz.func25,Tryz.ntmps25
 go_wp2
 go_returns
 exact ⟨rfl,by go_grown⟩
end
section
variable {F:Fix} {V:Vol} {ow:Nat→Nat} {w:World} {p:Wd}
theorem zce {P:Program} {ops:Array Oper} {Q:Exit→Act→World→Prop} {rest:List Oper} {a:Act} {w:World} (R:World→Prop) (h:R w) (k:∀ w2,R w2→wpList P ops Q rest a w2):wpList P ops Q rest a w:=k w h
theorem zbb {w:World} {o:Array Value} {t:TypeId} (cs:Array Value):((w.alloc (.cells o t)).setRow w.heap.size cs).heap[w.heap.size]?=some (.cells cs t (0,0))∧Below w.heap.size w ((w.alloc (.cells o t)).setRow w.heap.size cs):=by
 refine ⟨setRow_heap _ _ _ _ _ _ (heap_alloc_new w _),⟨rfl,rfl,rfl,by simp,fun b hb=>?_⟩⟩
 rw [setRow_other _ _ _ _ (by omega)]
 exact Below.heap_alloc _ _ _ hb
theorem zbn:(Tryz.prog.info? 52).map (·.size)=some 18:=by kernel_rfl
end
theorem evArg_cut {w:World} {v:Value} {l:List Hst.Ev} (h:EvArg w v l):∃ a c,v=.slice a l.length c∧(l=[]∨∃ b o,a=some ⟨b,o,none⟩∧EvCells w b o l):=by
 rcases h with ⟨rfl,rfl⟩ | ⟨a,c,rfl,rfl⟩ | ⟨b,o,c,rfl,h⟩
 ·exact ⟨none,0,rfl,.inl rfl⟩
 ·exact ⟨some a,c,rfl,.inl rfl⟩
 ·exact ⟨some ⟨b,o,none⟩,c,rfl,.inr ⟨b,o,rfl,h⟩⟩
theorem Env.low_of {N:Nat} {ow:Nat→Nat} {w W:World} (T:Tabs N W) (K:Below W.heap.size W w) (h0:∀ b,b<W.heap.size→ow b=0):Env N ow w :=
 ⟨T.below (fun b hb=>K.block b (Nat.lt_of_lt_of_le hb T.le)) (Nat.le_trans T.le K.size),fun b hb=>h0 b (Nat.lt_of_lt_of_le hb T.le)⟩
theorem new_inv (p m g:Nat):Inv 0 (Wd.new (sP p) (sM p m) (sG g)):=inv_new _ _ _ (s_dims p m g)
theorem new_log (P M G:Nat):(Wd.new P M G).log.length=1:=rfl
theorem run_log (p m g:Nat) (l:List Hst.Stp) (hl:l.length≤100000) (hin:inSt l):0<((Wd.new (sP p) (sM p m) (sG g)).run l).1.log.length∧((Wd.new (sP p) (sM p m) (sG g)).run l).1.log.length≤2*l.length+1:=by
 have hI:=new_inv p m g
 obtain ⟨t,e⟩:=log_run l 0 0 _ hI (by omega) fun s hs=>(hin s hs).2.2.2.2
 have h2:=(run_inv hI l (by omega) hin).log
 have h3:((Wd.new (sP p) (sM p m) (sG g)).run l).1.log=(Wd.new (sP p) (sM p m) (sG g)).log++t:=e
 rw [h3,List.length_append,new_log]
 rw [h3,List.length_append,new_log] at h2
 omega
theorem Two.frame {F G:Fix} {V V' U:Vol} {ow ow' up:Nat→Nat} {W w w':World} {p p' q:Wd} (h:Two F G V U ow up w p q) (h0:∀ b,b<W.heap.size→ow b=0∧up b=0) (K:Below W.heap.size W w) (k:On F V' ow w ow' w' p') :
  Two F G V' U ow' (grow up w.heap.size 0) w' p' q∧(∀ b,b<W.heap.size→ow' b=0∧grow up w.heap.size 0 b=0)∧Below W.heap.size W w':=by
 have hs:=K.size
 refine ⟨h.left k,fun b hb=>⟨?_,?_⟩,K.trans (k.st.below hs fun b hb=>(h0 b hb).1)⟩
 ·rw [k.st.own b (by omega)];exact (h0 b hb).1
 ·rw [grow_lt (by omega)];exact (h0 b hb).2
end Go.Proofs.YtlmmjgekolpekaaGreatDoor
namespace Go.Proofs.YtlmmjgekolpekaaGreatDoor
open Go Go.ChangeShapes Go.WideShapes Go.ChangeAt Go.RowKit Hst Go.Proofs
def KTab (w:World):Prop:=∀ k,k<8→∃ s,w.cell? ⟨1,k*3,none⟩=some (.string s)∧w.cell? ⟨1,k*3+1,none⟩=some (.int .u64 (frS k:Nat))∧w.cell? ⟨1,k*3+2,none⟩=some (.int .u64 (toS k:Nat))
theorem KTab.keep {w w':World} (h:KTab w) (e:w'.heap[1]?=w.heap[1]?):KTab w':=fun k hk=>by
 obtain ⟨s,h1,h2,h3⟩:=h k hk
 have hc:∀ o,w'.cell? ⟨1,o,none⟩=w.cell? ⟨1,o,none⟩:=fun o=>World.cell?_of_block (a:=⟨1,o,none⟩) e
 exact ⟨s,(hc _).trans h1,(hc _).trans h2,(hc _).trans h3⟩
theorem KTab.lt {w:World} (h:KTab w):1<w.heap.size:=by
 obtain ⟨s,h1,_⟩:=h 0 (by decide)
 exact World.block_lt_of_cell? w _ h1
theorem KTab.below {w w':World} (h:KTab w) {B:Nat} (hB:1<B) (b:Below B w w'):KTab w':=h.keep (b.block _ hB)
theorem ktab_of {W:World} {l:List (String × DataW Unit)} (h:laidMet Tryz.prog l W) (hm:("hostler/event.all",Rows.laid_hostler_event_all)∈l):KTab W:=by
 obtain ⟨ps,hl,_⟩:=h
 obtain ⟨g,t,cs,fuel,p,hg,ht,hv,hd⟩:=zcN hl hm
 obtain rfl:=Option.some.inj (gAll.symm.trans hg)
 obtain rfl:=Option.some.inj (gAllType.symm.trans ht)
 obtain ⟨xs,m,rfl,hxs,hlen,hxl,hx⟩:=DataW.trod_array Tryz.underlying196 hd
 have c80:Tryz.prog.cellsOf 142=3:=by kernel_rfl
 have c9:Tryz.prog.cellsOf 9=1:=by kernel_rfl
 have c78:Tryz.prog.cellsOf 69=1:=by kernel_rfl
 have hpl:∀ k,k<8→∃ b,(xs.map (·.1))[k]?=some (.agg [.lit (.string b),.lit (.int .u64 (frS k:Nat)),.lit (.int .u64 (toS k:Nat))]):=by
  injection hxs with e1 _
  unfold Rows.laid_hostler_event_all at e1
  injection e1 with e1
  rw [← e1]
  intro k hk
  match k,hk with
  | 0,_ | 1,_ | 2,_ | 3,_ | 4,_ | 5,_ | 6,_ | 7,_=>exact ⟨_,rfl⟩
  | k+8,h=>exact absurd h (by omega)
 intro k hk
 have hk2:=hx k hk
 obtain ⟨b,hb⟩:=hpl k hk
 rw [List.getElem?_map] at hb
 rw [c80,List.getElem?_eq_getElem (by omega)] at hk2
 rw [List.getElem?_eq_getElem (by omega)] at hb
 obtain ⟨y0,y1,y2,n,exy,hl3,h0,h1,h2⟩:=Deep.trod_struct3 Tryz.underlying142 hk2
 rw [c80] at hl3
 rw [exy] at hb
 simp only [Option.map_some,Option.some.injEq,DataW.agg.injEq,List.cons.injEq,and_true] at hb
 obtain ⟨s,e0,_⟩:=DataW.trod_string Tryz.underlying9 h0
 obtain ⟨x,e1,f1,_⟩:=DataW.trod_int (k:=.u64) (by kernel_rfl) h1
 obtain ⟨y,e2,f2,_⟩:=DataW.trod_int (k:=.u64) (by kernel_rfl) h2
 dsimp only at e0 e1 e2
 rw [c9] at e0
 rw [c78] at e1 e2
 have e:=three hl3 e0 e1 e2
 have hx2:x=(frS k:Nat):=by
  have:=hb.2.1
  rw [f1] at this
  simpa using this
 have hy2:y=(toS k:Nat):=by
  have:=hb.2.2
  rw [f2] at this
  simpa using this
 subst hx2 hy2
 exact ⟨s,zcr gAll hv 3 k 0 _ ⟨_,e,rfl⟩,zcr gAll hv 3 k 1 _ ⟨_,e,rfl⟩,zcr gAll hv 3 k 2 _ ⟨_,e,rfl⟩⟩
theorem ofK_any (k:Nat) (hk:k<8) (w:World) (h:KTab w) :
  Calls Tryz.prog 88 #[.int .i64 k] w fun r w'=>(∃ s,r=.returned (.tuple #[.agg #[.string s,.int .u64 (frS k:Nat),.int .u64 (toS k:Nat)],.bool true]))∧Below w.heap.size w w':=by
 obtain ⟨s,c0,c1,c2⟩:=h k hk
 have hlt:=h.lt
 clear h
 generalize frS k=x at *
 generalize toS k=y at *
 go_enter Tryz.func88,Tryz.ntmps88
 go_wp2
 go_returns
 exact ⟨⟨s,rfl⟩,by go_grown⟩
theorem steps_any (e:Ev) (k:Nat) (hk:k<8) (he:e.kind=k) (w:World) (h:KTab w) :
  Calls Tryz.prog 35 #[evV e] w fun r w'=>r=.returned (.tuple #[.int .u64 (frS k:Nat),.int .u64 (toS k:Nat),.bool true])∧Below w.heap.size w w':=by
 obtain ⟨k',g,m,p,v⟩:=e
 simp only [evV] at he ⊢
 subst he
 have ho:=fun w1 h1=>ofK_any k hk w1 h1
 have HO:=Lib.hid ho
 have HT:=Lib.hid h
 clear ho h
 generalize frS k=x at *
 generalize toS k=y at *
 go_enter Tryz.func35,Tryz.ntmps35
 go_wp2_with (go_at_call 88;refine (HO.out _ (HT.out.below HT.out.lt (by go_grown))).mono ?_;rintro e w1 ⟨⟨s,rfl⟩,hb⟩)
 have K:Below w.heap.size w w1:=((Below.refl _ w).alloc (Nat.le_refl _) _).trans (hb.mono (by simp))
 have K2:=K.alloc K.size (.cells #[.string s,.int .u64 (x:Nat),.int .u64 (y:Nat)] 142)
 go_quiet (fail)
 go_wp2
 go_returns
 exact ⟨rfl,⟨K2.os,K2.tape,K2.output,K2.size,K2.block⟩⟩
end Go.Proofs.YtlmmjgekolpekaaGreatDoor
namespace Go.Proofs.YtlmmjgekolpekaaGreatDoor
open Go Go.RowKit Hst Go.Proofs Go.MapKept
def zeP (l:List (Int × (Int × Int))):List (Int × Value):=l.map fun x=>(x.1,.agg #[.int .i64 x.2.1,.int .i64 x.2.2])
def onV (l:List (Int × Int)):List (Int × Value):=l.map fun x=>(x.1,.int .i64 x.2)
theorem zbE {β:Type} (f:β→Value) (l:List (Int × β)) (k:Int):zen (l.map fun x=>(x.1,f x.2)) k=(alGet l k).map f:=by
 induction l with
 | nil=>rfl
 | cons a t ih =>
  rw [List.map_cons,zaI]
  unfold zen at *
  rw [List.find?_cons]
  by_cases h:a.1=k
  ·rw [if_pos h,show (a.1==k)=true by simpa using h];rfl
  ·rw [if_neg h,show (a.1==k)=false by simpa using h];exact ih
theorem zcy {β:Type} (f:β→Value) (l:List (Int × β)):(l.map fun x=>(x.1,f x.2)).map (·.1)=l.map (·.1):=by rw [List.map_map];rfl
theorem filt_map {β:Type} (f:β→Value) (l:List (Int × β)) (k:Int):(l.map fun x=>(x.1,f x.2)).filter (fun p=>decide (p.1≠k))=(zeE l k).map fun x=>(x.1,f x.2):=by
 unfold zeE;rw [List.filter_map];rfl
structure MdlAt (w:World) (b gs r1 r2 c P M:Nat) (m:Mdl):Prop where
 c0:w.cell? ⟨b,0,none⟩=some (.int .i64 P)
 c1:w.cell? ⟨b,1,none⟩=some (.int .i64 M)
 c2:w.cell? ⟨b,2,none⟩=some (.slice (some ⟨gs,0,none⟩) m.st.length c)
 cap:m.st.length≤c
 c3:w.cell? ⟨b,3,none⟩=some (.map (some r1))
 c4:w.cell? ⟨b,4,none⟩=some (.map (some r2))
 cs:∀ g,g<m.st.length→w.cell? ⟨gs,g,none⟩=some (.int .u64 (m.st.getD g 0:Nat))
 i1:IMap .i64 w r1 (zeP m.runs)
 i2:IMap .i64 w r2 (onV m.on)
 n1:(m.runs.map (·.1)).Nodup
 n2:(m.on.map (·.1)).Nodup
 ne:b≠gs∧b≠r1∧b≠r2∧gs≠r1∧gs≠r2∧r1≠r2
 fr:∀ o,w.frozen? ⟨gs,o,none⟩=false
 pos:0<m.st.length∧m.st.length≤4096
section
variable {w w':World} {b gs r1 r2 c P M:Nat} {m:Mdl}
theorem MdlAt.lt (h:MdlAt w b gs r1 r2 c P M m):b<w.heap.size∧gs<w.heap.size∧r1<w.heap.size∧r2<w.heap.size :=
 ⟨World.block_lt_of_cell? w _ h.c0,World.block_lt_of_cell? w _ (h.cs 0 h.pos.1),h.i1.lt,h.i2.lt⟩
theorem MdlAt.same (h:MdlAt w b gs r1 r2 c P M m) (eb:w'.heap[b]?=w.heap[b]?) (eg:w'.heap[gs]?=w.heap[gs]?) (e1:w'.heap[r1]?=w.heap[r1]?) (e2:w'.heap[r2]?=w.heap[r2]?):MdlAt w' b gs r1 r2 c P M m :=
 ⟨(zam eb).trans h.c0,(zam eb).trans h.c1,(zam eb).trans h.c2,h.cap,(zam eb).trans h.c3,(zam eb).trans h.c4,fun g hg=>(zam eg).trans (h.cs g hg),h.i1.congr e1,h.i2.congr e2,h.n1,h.n2,h.ne,fun o=>(zaM eg).trans (h.fr o),h.pos⟩
theorem MdlAt.below (h:MdlAt w b gs r1 r2 c P M m) (hb:Below w.heap.size w w'):MdlAt w' b gs r1 r2 c P M m :=
 h.same (hb.block _ h.lt.1) (hb.block _ h.lt.2.1) (hb.block _ h.lt.2.2.1) (hb.block _ h.lt.2.2.2)
theorem MdlAt.heap (h:MdlAt w b gs r1 r2 c P M m) (e:w'.heap=w.heap):MdlAt w' b gs r1 r2 c P M m:=h.same (by rw [e]) (by rw [e]) (by rw [e]) (by rw [e])
theorem MdlAt.setSt (h:MdlAt w b gs r1 r2 c P M m) {g:Nat} (hg:g<m.st.length) (x:Nat):MdlAt (w.setCell ⟨gs,g,none⟩ (.int .u64 (x:Nat))) b gs r1 r2 c P M { m with st:=m.st.set g x }:=by
 obtain ⟨n0,n1,n2,n3,n4,n5⟩:=h.ne
 have hb:∀ y,y≠gs→(w.setCell ⟨gs,g,none⟩ (.int .u64 (x:Nat))).heap[y]?=w.heap[y]?:=fun y hy=>Below.heap_setCell w ⟨gs,g,none⟩ _ y hy
 refine ⟨(zam (hb b n0)).trans h.c0,(zam (hb b n0)).trans h.c1,?_,?_,(zam (hb b n0)).trans h.c3,(zam (hb b n0)).trans h.c4,fun y hy=>?_,h.i1.congr (hb _ (Ne.symm n3)),h.i2.congr (hb _ (Ne.symm n4)),h.n1,h.n2,h.ne,fun o=>?_,?_⟩
 ·show _=some (Value.slice _ ((m.st.set g x).length:Nat) _);rw [List.length_set];exact (zam (hb b n0)).trans h.c2
 ·show (m.st.set g x).length≤c;rw [List.length_set];exact h.cap
 ·have hy':y<m.st.length:=by have:y<(m.st.set g x).length:=hy;rwa [List.length_set] at this
  show _=some (Value.int .u64 ((m.st.set g x).getD y 0:Nat))
  rw [zaf (h.cs g hg) _ y,zad _ _ _ _ _ hg]
  split
  ·rfl
  ·exact h.cs y hy'
 ·simpa using h.fr o
 ·show 0<(m.st.set g x).length∧(m.st.set g x).length≤4096;rw [List.length_set];exact h.pos
theorem mstatus_any (h:MdlAt w b gs r1 r2 c P M m) (g:Nat) (hg:g<m.st.length) :
  Calls Tryz.prog 45 #[.pointer (some ⟨b,0,none⟩),.int .i64 g] w fun e w'=>e=.returned (.int .u64 (m.st.getD g 0:Nat))∧Below w.heap.size w w':=by
 have c2:=h.c2
 have cg:=h.cs g hg
 have hcap:=h.cap
 have hpos:=h.pos
 have hlt:=h.lt
 have hp:(g:Int)<m.st.length:=by omega
 have hn:¬ (m.st.length:Int)≤g:=by omega
 generalize m.st.getD g 0=x at *
 generalize m.st.length=n at *
 clear h
 go_enter Tryz.func45,Tryz.ntmps45
 go_wp2
 go_returns
 exact ⟨rfl,by go_grown⟩
theorem zdG (w:World):(zeroValue 157).run Tryz.prog w=.ok (.agg #[.int .i64 0,.int .i64 0]) w:=by kernel_rfl
theorem zeroInt (w:World):(zeroValue 3).run Tryz.prog w=.ok (.int .i64 0) w:=by kernel_rfl
theorem mruns_any (h:MdlAt w b gs r1 r2 c P M m) (i:Int) (x:Option (Int × Int)) (hx:alGet m.runs i=x) :
  Calls Tryz.prog 46 #[.pointer (some ⟨b,0,none⟩),.int .i64 i] w fun e w'=>e=.returned (.tuple #[.int .i64 (x.getD (0,0)).1,.int .i64 (x.getD (0,0)).2,.bool x.isSome])∧Below w.heap.size w w':=by
 have c3:=h.c3
 have hl:=h.i1.lookOk (P:=Tryz.prog) (mty:=152) (z:=.agg #[.int .i64 0,.int .i64 0]) Tryz.underlying152 Tryz.underlying3 zdG (by unfold zeP;rw [zcy (fun x:Int × Int=>Value.agg #[.int .i64 x.1,.int .i64 x.2])];exact h.n1) i
 have hlt:=h.lt
 unfold zeP at hl
 rw [zbE (fun x:Int × Int=>Value.agg #[.int .i64 x.1,.int .i64 x.2]),hx] at hl
 have K:=(zab w (.cells #[.int .i64 (x.getD (0,0)).1,.int .i64 (x.getD (0,0)).2] 157))
 have HK:=Lib.hid K
 cases x with
 | none =>
  simp only [Option.map_none,Option.getD_none,Option.isSome_none] at hl HK ⊢
  clear h hx K
  go_enter Tryz.func46,Tryz.ntmps46
  go_wp2
  go_quiet (fail)
  go_wp2
  go_returns
  exact ⟨rfl,⟨HK.out.os,HK.out.tape,HK.out.output,HK.out.size,HK.out.block⟩⟩
 | some y =>
  obtain ⟨u,v⟩:=y
  simp only [Option.map_some,Option.getD_some,Option.isSome_some] at hl HK ⊢
  clear h hx K
  go_enter Tryz.func46,Tryz.ntmps46
  go_wp2
  go_quiet (fail)
  go_wp2
  go_returns
  exact ⟨rfl,⟨HK.out.os,HK.out.tape,HK.out.output,HK.out.size,HK.out.block⟩⟩
theorem infoStat:(Tryz.prog.info? 69).map (fun i=>(i.zero,i.size,i.bytes))=some (some (.int .u64 0),1,8):=by kernel_rfl
theorem makeSt (n:Nat) (hn:n≤1048576) (w:World):(Instr.makeSlice 146 (.int .i64 n) (.int .i64 n)).run Tryz.prog w=.ok (.slice (some ⟨w.heap.size,0,none⟩) n n) (w.alloc (.cells (madeCells #[.int .u64 0] n) 69)):=by
 obtain ⟨i0,hi,hz0,hz1,hz2⟩:=info_parts infoStat
 have h:=run_make (P:=Tryz.prog) w 146 69 i0 (.int .u64 0) Tryz.underlying146 hi hz0 .i64 .i64 n n (by omega) (Int.le_refl _) (by rw [hz2];omega) (by omega)
 simp only [Int.toNat_natCast,hz1,Nat.mul_one] at h
 exact h
theorem madeSt (n:Nat):madeCells #[.int .u64 0] n=Array.replicate n (.int .u64 0):=by
 apply Array.ext
 ·simp [madeCells]
 ·intro i h1 h2
  simp [madeCells,Nat.mod_one]
theorem zd5 (P M G:Nat) (hP:P≤64) (hM:M≤128) (hG:1≤G∧G≤4096) (w:World) :
  Calls Tryz.prog 43 #[.int .i64 P,.int .i64 M,.int .i64 G] w fun e w'=>∃ b gs r1 r2 c,e=.returned (.pointer (some ⟨b,0,none⟩))∧MdlAt w' b gs r1 r2 c P M (Mdl.new G)∧w.heap.size≤b∧w.heap.size≤gs∧w.heap.size≤r1∧w.heap.size≤r2∧Below w.heap.size w w':=by
 have hmk:=makeSt G (by omega) w
 have hmm:=@run_makeMap Tryz.prog
 go_enter Tryz.func43,Tryz.ntmps43
 go_wp2
 clear hmk hmm
 obtain ⟨W,hW⟩:∃ W,W=((((w.alloc (.cells (madeCells #[.int .u64 0] G) 69)).alloc (.map #[] 0)).alloc (.map #[] 0)).alloc (.cells #[.int .i64 P,.int .i64 M,.slice (some ⟨w.heap.size,0,none⟩) G G,.map (some (w.heap.size+1)),.map (some (w.heap.size+1+1))] 154)):=⟨_,rfl⟩
 have hw:W.heap=(((w.heap.push (.cells (madeCells #[.int .u64 0] G) 69)).push (.map #[] 0)).push (.map #[] 0)).push (.cells #[.int .i64 P,.int .i64 M,.slice (some ⟨w.heap.size,0,none⟩) G G,.map (some (w.heap.size+1)),.map (some (w.heap.size+1+1))] 154):=by rw [hW];rfl
 have e0:W.heap[w.heap.size]?=some (.cells (Array.replicate G (.int .u64 0)) 69 (0,0)):=by rw [hw,← madeSt];simp only [Array.getElem?_push,Array.size_push];rw [if_neg (by omega),if_neg (by omega),if_neg (by omega),if_pos trivial]
 have e1:W.heap[w.heap.size+1]?=some (.map #[] 0):=by rw [hw];simp only [Array.getElem?_push,Array.size_push];rw [if_neg (by omega),if_neg (by omega),if_pos trivial]
 have e2:W.heap[w.heap.size+2]?=some (.map #[] 0):=by rw [hw];simp only [Array.getElem?_push,Array.size_push];rw [if_neg (by omega),if_pos trivial]
 have e3:W.heap[w.heap.size+3]?=some (.cells #[.int .i64 P,.int .i64 M,.slice (some ⟨w.heap.size,0,none⟩) G G,.map (some (w.heap.size+1)),.map (some (w.heap.size+1+1))] 154 (0,0)):=by rw [hw];simp only [Array.getElem?_push,Array.size_push];rw [if_pos trivial]
 have K:Below w.heap.size w W:=by rw [hW];exact ((((Below.refl _ w).alloc (by simp) _).alloc (by simp;try omega) _).alloc (by simp;try omega) _).alloc (by simp;try omega) _
 have hlen:(Mdl.new G).st.length=G:=by simp [Mdl.new]
 have hat:MdlAt W (w.heap.size+3) w.heap.size (w.heap.size+1) (w.heap.size+2) G P M (Mdl.new G):=by
  refine ⟨zaa e3 0,zaa e3 1,?_,by rw [hlen];omega,zaa e3 3,zaa e3 4,fun g hg=>?_,⟨_,_,e1,rfl,List.nodup_nil,fun x hx=>by cases hx⟩,⟨_,_,e2,rfl,List.nodup_nil,fun x hx=>by cases hx⟩,List.nodup_nil,List.nodup_nil,by omega,fun o=>?_,by rw [hlen];omega⟩
  ·rw [hlen];exact zaa e3 2
  ·rw [hlen] at hg
   rw [zaa e0 g]
   simp [Mdl.new,hg,List.getD_eq_getElem?_getD]
  ·simp [World.frozen?,e0]
 go_returns
 rw [← hW]
 exact ⟨_,_,_,_,G,rfl,hat,by omega,by omega,by omega,by omega,K⟩
end
end Go.Proofs.YtlmmjgekolpekaaGreatDoor
namespace Go.Proofs.YtlmmjgekolpekaaGreatDoor
open Go Go.RowKit Hst Go.Proofs Go.MapKept
section
variable {w w':World} {b gs r1 r2 c P M:Nat} {m:Mdl}
theorem right_ok {e:Ev} (h:MOk P M m e) (hP:P≤64) (hM:M≤128) (hl:m.st.length≤4096):zeh e=true:=by
 obtain ⟨hk,hg,hm,hp,hv,_⟩:=h
 have h1:valOk e=true:=by
  unfold valOk
  rw [decide_eq_true_iff]
  by_cases h5:e.kind=5
  ·exact .inl h5
  ·rw [if_neg h5] at hv
   by_cases h6:e.kind=6
   ·rw [if_pos h6] at hv;exact .inr (.inl ⟨h6,hv.1,hv.2⟩)
   ·rw [if_neg h6] at hv;exact .inr (.inr ⟨h5,h6,hv⟩)
 unfold zeh
 rw [decide_eq_true_iff]
 exact ⟨hk.1,by omega,hg.1,by omega,hm.1,by omega,hp.1,by omega,h1⟩
theorem zb9 (k g m p v:Int) (w:World) :
  Calls Tryz.prog 95 #[.agg #[.int .i64 k,.int .i64 g,.int .i64 m,.int .i64 p,.int .i64 v]] w fun e w'=>e=.returned (.bool (decide (k=0∨k=1)))∧Below w.heap.size w w':=by
 by_cases h0:k=0
 ·subst h0
  go_enter Tryz.func95,Tryz.ntmps95
  go_wp2
  go_returns
  exact ⟨rfl,by go_grown⟩
 ·by_cases h1:k=1
  ·subst h1
   go_enter Tryz.func95,Tryz.ntmps95
   go_wp2
   go_returns
   exact ⟨rfl,by go_grown⟩
  ·have e:decide (k=0∨k=1)=false:=decide_eq_false (by omega)
   rw [e]
   go_enter Tryz.func95,Tryz.ntmps95
   go_wp2
   go_returns
   refine ⟨congrArg (fun b=>Ending.returned (.bool b)) ?_,by go_grown⟩
   show (k==0 || k==1)=false
   simp [h0,h1]
theorem mshape_any (N:Nat) (h:MdlAt w b gs r1 r2 c P M m) (T:Tabs N w) (k g i p v:Int) (hr:zeh ⟨k,g,i,p,v⟩=true) (hg:0≤g∧g<m.st.length) (hm:i<M) (hp:p<P) (ho:(k=0∨k=1)∨(0≤i∧0≤p)) :
  Calls Tryz.prog 137 #[.pointer (some ⟨b,0,none⟩),.agg #[.int .i64 k,.int .i64 g,.int .i64 i,.int .i64 p,.int .i64 v]] w fun e w'=>e=.returned (.bool true)∧Below w.heap.size w w':=by
 have c0:=h.c0
 have c1:=h.c1
 have c2:=h.c2
 have hlt:=h.lt.1
 have d1:decide (g<(m.st.length:Int))=true:=decide_eq_true hg.2
 have d2:decide (i<(M:Int))=true:=decide_eq_true hm
 have d3:decide (p<(P:Int))=true:=decide_eq_true hp
 have hri:=fun w1 T1=>right_any ⟨k,g,i,p,v⟩ w1 N T1
 simp only [evV] at hri
 rw [hr] at hri
 have hou:=fun w1=>zb9 k g i p v w1
 have HR:=Lib.hid hri
 have HO:=Lib.hid hou
 have HT:=Lib.hid T
 generalize m.st.length=n at *
 clear h hri hou T hr
 go_enter Tryz.func137,Tryz.ntmps137
 go_wp2
 have B1:=zab w (.cells #[.int .i64 k,.int .i64 g,.int .i64 i,.int .i64 p,.int .i64 v] 39)
 have T1:=HT.out.below (w':=(w.alloc (.cells #[.int .i64 k,.int .i64 g,.int .i64 i,.int .i64 p,.int .i64 v] 39)).drew) (fun x hx=>B1.block x (Nat.lt_of_lt_of_le hx HT.out.le)) (Nat.le_trans HT.out.le B1.size)
 have u:=heap_alloc_new w (.cells #[.int .i64 k,.int .i64 g,.int .i64 i,.int .i64 p,.int .i64 v] 39)
 have u0:=zaa u 0
 have u1:=zaa u 1
 have u2:=zaa u 2
 have u3:=zaa u 3
 have u4:=zaa u 4
 have HT1:=Lib.hid T1
 have k0:=(B1.cell (p:=⟨b,0,none⟩) hlt).trans c0
 have k1:=(B1.cell (p:=⟨b,1,none⟩) hlt).trans c1
 have k2:=(B1.cell (p:=⟨b,2,none⟩) hlt).trans c2
 have hbn:b≠w.heap.size:=Nat.ne_of_lt hlt
 have hnb:w.heap.size<(w.alloc (.cells #[.int .i64 k,.int .i64 g,.int .i64 i,.int .i64 p,.int .i64 v] 39)).heap.size:=by simp
 have hnb2:b<(w.alloc (.cells #[.int .i64 k,.int .i64 g,.int .i64 i,.int .i64 p,.int .i64 v] 39)).heap.size:=Nat.lt_trans hlt hnb
 simp only [List.getElem?_toArray,List.getElem?_cons_zero,List.getElem?_cons_succ] at u0 u1 u2 u3 u4
 clear T1 u
 generalize w.alloc (.cells #[.int .i64 k,.int .i64 g,.int .i64 i,.int .i64 p,.int .i64 v] 39)=W at *
 go_region_held3 (fun w'=>w'.cell? ⟨b,0,none⟩=some (.int .i64 P)∧w'.cell? ⟨b,1,none⟩=some (.int .i64 M)∧w'.cell? ⟨b,2,none⟩=some (.slice (some ⟨gs,0,none⟩) n c)∧w'.cell? ⟨w.heap.size,0,none⟩=some (.int .i64 k)∧w'.cell? ⟨w.heap.size,1,none⟩=some (.int .i64 g)∧w'.cell? ⟨w.heap.size,2,none⟩=some (.int .i64 i)∧w'.cell? ⟨w.heap.size,3,none⟩=some (.int .i64 p)∧w'.cell? ⟨w.heap.size,4,none⟩=some (.int .i64 v))
  (first | exact ⟨k0,k1,k2,u0,u1,u2,u3,u4⟩ | exact ⟨k0',k1',k2',u0',u1',u2',u3',u4'⟩)
  (first | (go_at_call 162;refine (HR.out _ HT1.out).mono ?_;rintro e w1 ⟨rfl,hb⟩;have k0':=(hb.cell (p:=⟨b,0,none⟩) hnb2).trans k0;have k1':=(hb.cell (p:=⟨b,1,none⟩) hnb2).trans k1;have k2':=(hb.cell (p:=⟨b,2,none⟩) hnb2).trans k2;have u0':=(hb.cell (p:=⟨w.heap.size,0,none⟩) hnb).trans u0;have u1':=(hb.cell (p:=⟨w.heap.size,1,none⟩) hnb).trans u1;have u2':=(hb.cell (p:=⟨w.heap.size,2,none⟩) hnb).trans u2;have u3':=(hb.cell (p:=⟨w.heap.size,3,none⟩) hnb).trans u3;have u4':=(hb.cell (p:=⟨w.heap.size,4,none⟩) hnb).trans u4))
 have K:=B1.drew.trans (hb.mono B1.size)
 have HK:=Lib.hid (show Below w.heap.size w w1 from ⟨K.os,K.tape,K.output,K.size,K.block⟩)
 clear B1 hb HR HT K
 by_cases hk:k=0∨k=1
 ·rw [decide_eq_true hk] at HO
  go_wp2_with (first | (go_at_call 95;refine (HO.out _).mono ?_;rintro e w2 ⟨rfl,hb⟩))
  go_returns
  exact ⟨rfl,HK.out.trans (hb.mono HK.out.size)⟩
 ·rw [decide_eq_false hk] at HO
  obtain ⟨hi0,hp0⟩:0≤i∧0≤p:=by rcases ho with ho | ho;exact absurd ho hk;exact ho
  have hn1:w.heap.size<w1.heap.size:=World.block_lt_of_cell? w1 _ u2'
  go_wp2_with (first | (go_at_call 95;refine (HO.out _).mono ?_;rintro e w2 ⟨rfl,hb⟩;have v2:=(hb.cell (p:=⟨w.heap.size,2,none⟩) hn1).trans u2';have v3:=(hb.cell (p:=⟨w.heap.size,3,none⟩) hn1).trans u3'))
  go_returns
  exact ⟨rfl,HK.out.trans (hb.mono HK.out.size)⟩
theorem mfrom_any (h:MdlAt w b gs r1 r2 c P M m) (T:KTab w) (k g:Nat) (i p v:Int) (hk:k<8) (hg:g<m.st.length) (hf:if k=1 then m.st.getD g 0=3∨m.st.getD g 0=4∨m.st.getD g 0=5 else m.st.getD g 0=frS k) :
  Calls Tryz.prog 138 #[.pointer (some ⟨b,0,none⟩),.agg #[.int .i64 k,.int .i64 g,.int .i64 i,.int .i64 p,.int .i64 v]] w fun e w'=>e=.returned (.bool true)∧Below w.heap.size w w':=by
 have c2:=h.c2
 have cg:=h.cs g hg
 have hcap:=h.cap
 have hpos:=h.pos
 have hlt:=h.lt.1
 have hltg:=h.lt.2.1
 have hgi:(g:Int)<m.st.length:=by omega
 have hsa:=fun w1 T1=>steps_any ⟨k,g,i,p,v⟩ k hk rfl w1 T1
 simp only [evV] at hsa
 have HS:=Lib.hid hsa
 have HT:=Lib.hid T
 generalize m.st.getD g 0=x at *
 generalize m.st.length=n at *
 have B1:=zab w (.cells #[.int .i64 k,.int .i64 g,.int .i64 i,.int .i64 p,.int .i64 v] 39)
 have HT1:=Lib.hid (HT.out.below (w':=(w.alloc (.cells #[.int .i64 k,.int .i64 g,.int .i64 i,.int .i64 p,.int .i64 v] 39))) HT.out.lt B1)
 have HB1:=Lib.hid B1
 clear h hsa T B1
 by_cases h1:k=1
 ·rw [if_pos h1] at hf
  subst h1
  clear HS HT HT1
  rcases hf with rfl | rfl | rfl
  ·go_enter Tryz.func138,Tryz.ntmps138
   go_wp2
   go_quiet (fail)
   go_wp2
   go_returns
   exact ⟨rfl,⟨HB1.out.os,HB1.out.tape,HB1.out.output,HB1.out.size,HB1.out.block⟩⟩
  ·go_enter Tryz.func138,Tryz.ntmps138
   go_wp2
   go_quiet (fail)
   go_wp2
   go_returns
   exact ⟨rfl,⟨HB1.out.os,HB1.out.tape,HB1.out.output,HB1.out.size,HB1.out.block⟩⟩
  ·go_enter Tryz.func138,Tryz.ntmps138
   go_wp2
   go_quiet (fail)
   go_wp2
   go_returns
   exact ⟨rfl,⟨HB1.out.os,HB1.out.tape,HB1.out.output,HB1.out.size,HB1.out.block⟩⟩
 ·rw [if_neg h1] at hf
  rw [← hf] at HS
  have hki:¬ (k:Int)=1:=by omega
  clear hf HT
  go_enter Tryz.func138,Tryz.ntmps138
  go_wp2
  go_quiet (fail)
  have HT2:=Lib.hid (HT1.out.keep (w':=(w.alloc (.cells #[.int .i64 k,.int .i64 g,.int .i64 i,.int .i64 p,.int .i64 v] 39)).drewN nq) rfl)
  go_wp2_with (go_at_call 35;refine (HS.out _ HT2.out).mono ?_;rintro e w1 ⟨rfl,hb⟩)
  have K:=HB1.out.trans (show Below w.heap.size _ w1 from ⟨hb.os,hb.tape,hb.output,by have:=hb.size;simpa using this,fun x hx=>(hb.block x (Nat.lt_of_lt_of_le hx (by simp)))⟩)
  go_wp2
  go_returns
  exact ⟨rfl,K⟩
end
end Go.Proofs.YtlmmjgekolpekaaGreatDoor
namespace Go.Proofs.YtlmmjgekolpekaaGreatDoor
open Go Go.RowKit Hst Go.Proofs Go.MapKept
section
variable {w w':World} {b gs r1 r2 c P M:Nat} {m:Mdl}
theorem MdlAt.lookRuns (h:MdlAt w b gs r1 r2 c P M m) (i:Int):(Instr.lookup 152 (.map (some r1)) (.int .i64 i) true).run Tryz.prog w=.ok (.tuple #[.agg #[.int .i64 ((alGet m.runs i).getD (0,0)).1,.int .i64 ((alGet m.runs i).getD (0,0)).2],.bool (alGet m.runs i).isSome]) w:=by
 have hl:=h.i1.lookOk (P:=Tryz.prog) (mty:=152) (z:=.agg #[.int .i64 0,.int .i64 0]) Tryz.underlying152 Tryz.underlying3 zdG (by unfold zeP;rw [zcy (fun x:Int × Int=>Value.agg #[.int .i64 x.1,.int .i64 x.2])];exact h.n1) i
 unfold zeP at hl
 rw [zbE (fun x:Int × Int=>Value.agg #[.int .i64 x.1,.int .i64 x.2])] at hl
 rw [hl]
 cases alGet m.runs i <;> rfl
theorem MdlAt.lookOn (h:MdlAt w b gs r1 r2 c P M m) (i:Int):(Instr.lookup 98 (.map (some r2)) (.int .i64 i) true).run Tryz.prog w=.ok (.tuple #[.int .i64 ((alGet m.on i).getD 0),.bool (alGet m.on i).isSome]) w:=by
 have hl:=h.i2.lookOk (P:=Tryz.prog) (mty:=98) (z:=.int .i64 0) Tryz.underlying98 Tryz.underlying3 zeroInt (by unfold onV;rw [zcy (fun x:Int=>Value.int .i64 x)];exact h.n2) i
 unfold onV at hl
 rw [zbE (fun x:Int=>Value.int .i64 x)] at hl
 rw [hl]
 cases alGet m.on i <;> rfl
theorem mwrong_any (N:Nat) (h:MdlAt w b gs r1 r2 c P M m) (T:Tabs N w) (KT:KTab w) (k g:Nat) (i p v:Int) (hP:P≤64) (hM:M≤128) (ok:MOk P M m ⟨k,g,i,p,v⟩) :
  Calls Tryz.prog 94 #[.pointer (some ⟨b,0,none⟩),.agg #[.int .i64 k,.int .i64 g,.int .i64 i,.int .i64 p,.int .i64 v]] w fun e w'=>(∃ q,e=.returned (.tuple #[.int .u8 q,.bool false]))∧Below w.heap.size w w':=by
 have hr:=right_ok ok hP hM h.pos.2
 obtain ⟨hk,hg,hm,hp,hv,hin,hfr,htwo,hoff⟩:=ok
 simp only [Int.toNat_natCast] at hfr
 dsimp only at hk hg hm hp hin htwo hoff
 have hg':g<m.st.length:=by omega
 have hsh:=fun w1 (h1:MdlAt w1 b gs r1 r2 c P M m) T1=>mshape_any N h1 T1 k g i p v hr hg hm.2 hp.2 (by by_cases h2:2≤(k:Int);exact .inr (hin h2);exact .inl (by omega))
 have hfo:=fun w1 (h1:MdlAt w1 b gs r1 r2 c P M m) T1=>mfrom_any h1 T1 k g i p v (by omega) hg' (by
  by_cases h1:k=1
  ·rw [if_pos h1];rw [if_pos (by omega)] at hfr;exact hfr
  ·rw [if_neg h1];rw [if_neg (by omega)] at hfr;exact hfr)
 have hou:=fun w1=>zb9 k g i p v w1
 have HSh:=Lib.hid hsh
 have HFo:=Lib.hid hfo
 have HO:=Lib.hid hou
 have H:=Lib.hid h
 have HT:=Lib.hid T
 have HKT:=Lib.hid KT
 have hlt:=h.lt.1
 have c3:=h.c3
 have c4:=h.c4
 obtain ⟨o,ho⟩:∃ o:Obj,o=.cells #[.int .i64 k,.int .i64 g,.int .i64 i,.int .i64 p,.int .i64 v] 39:=⟨_,rfl⟩
 have B1:=zab w o
 have hat:∀ W,Below w.heap.size w W→MdlAt W b gs r1 r2 c P M m∧Tabs N W∧KTab W:=fun W K=>⟨H.out.below K,HT.out.below (fun x hx=>K.block x (Nat.lt_of_lt_of_le hx HT.out.le)) (Nat.le_trans HT.out.le K.size),HKT.out.below HKT.out.lt K⟩
 have HAt:=Lib.hid hat
 have A1:=Lib.hid (hat _ B1)
 have u:=heap_alloc_new w o
 have HU:=Lib.hid u
 have hnb:w.heap.size<(w.alloc o).heap.size:=by simp
 have HB1:=Lib.hid B1
 rw [ho] at A1 HU HB1 hnb
 clear hsh hfo hou h T KT hat B1 u ho hr
 go_enter Tryz.func94,Tryz.ntmps94
 go_wp2_with fail
 generalize w.alloc (.cells #[.int .i64 k,.int .i64 g,.int .i64 i,.int .i64 p,.int .i64 v] 39)=W at *
 refine (HSh.out W A1.out.1 A1.out.2.1).mono ?_
 rintro e w1 ⟨rfl,b1⟩
 have K1:=HB1.out.trans (b1.mono HB1.out.size)
 have U1:=(b1.block _ hnb).trans HU.out
 have A2:=Lib.hid (HAt.out w1 K1)
 have HK1:=Lib.hid K1
 have HU1:=Lib.hid U1
 have u0:=zaa U1 0
 have u1:=zaa U1 1
 have u2:=zaa U1 2
 have u3:=zaa U1 3
 have u4:=zaa U1 4
 simp only [List.getElem?_toArray,List.getElem?_cons_zero,List.getElem?_cons_succ] at u0 u1 u2 u3 u4
 have hn1:w.heap.size<w1.heap.size:=zaB U1
 clear b1 K1 U1 HSh
 go_wp2_with fail
 refine (HFo.out w1 A2.out.1 A2.out.2.2).mono ?_
 rintro e w2 ⟨rfl,b2⟩
 have K2:=HK1.out.trans (b2.mono HK1.out.size)
 have U2:=(b2.block _ hn1).trans HU1.out
 have A3:=Lib.hid (HAt.out w2 K2)
 have HK2:=Lib.hid K2
 clear u0 u1 u2 u3 u4 A2 HK1 HU1 hn1 b2 HFo A1 HU HB1
 have u0:=zaa U2 0
 have u1:=zaa U2 1
 have u2:=zaa U2 2
 have u3:=zaa U2 3
 have u4:=zaa U2 4
 simp only [List.getElem?_toArray,List.getElem?_cons_zero,List.getElem?_cons_succ] at u0 u1 u2 u3 u4
 have hn2:w.heap.size<w2.heap.size:=zaB U2
 have d3:=A3.out.1.c3
 have d4:=A3.out.1.c4
 have hb2:=A3.out.1.lt.1
 have L1:=A3.out.1.lookRuns i
 have hbn:b≠w.heap.size:=Nat.ne_of_lt hlt
 have hS5:∀ W,Below w2.heap.size w2 W→W.cell? ⟨b,3,none⟩=some (.map (some r1))∧W.cell? ⟨w.heap.size,2,none⟩=some (.int .i64 i)∧(Instr.lookup 152 (.map (some r1)) (.int .i64 i) true).run Tryz.prog W=.ok (.tuple #[.agg #[.int .i64 ((alGet m.runs i).getD (0,0)).1,.int .i64 ((alGet m.runs i).getD (0,0)).2],.bool (alGet m.runs i).isSome]) W:=fun W K=>⟨(K.cell (p:=⟨b,3,none⟩) hb2).trans d3,(K.cell (p:=⟨w.heap.size,2,none⟩) hn2).trans u2,(A3.out.1.below K).lookRuns i⟩
 have HS5:=Lib.hid hS5
 obtain ⟨xo,hxo⟩:∃ xo,xo=alGet m.runs i:=⟨_,rfl⟩
 obtain ⟨x1,hx1⟩:∃ x1,x1=(xo.getD (0,0)).1:=⟨_,rfl⟩
 obtain ⟨x2,hx2⟩:∃ x2,x2=(xo.getD (0,0)).2:=⟨_,rfl⟩
 obtain ⟨xs,hxs⟩:∃ xs,xs=xo.isSome:=⟨_,rfl⟩
 rw [← hxo,← hx1,← hx2,← hxs] at HS5
 have HX:=Lib.hid (And.intro hxo (And.intro hx1 (And.intro hx2 hxs)))
 clear hS5 hxo hx1 hx2 hxs L1
 have B2:Below w2.heap.size w2 w2:=Below.refl _ _
 have s5a:=(HS5.out w2 B2).2.2
 have s5b:=(HS5.out w2.drew B2.drew).2.2
 have s5c:=(HS5.out (w2.alloc (.cells #[.int .i64 0,.int .i64 0] 157)).drew (B2.alloc (Nat.le_refl _) (.cells #[.int .i64 0,.int .i64 0] 157)).drew).2.2
 have s5d:=(HS5.out (w2.drew.alloc (.cells #[.int .i64 0,.int .i64 0] 157)) (B2.drew.alloc (Nat.le_refl _) (.cells #[.int .i64 0,.int .i64 0] 157))).2.2
 go_wp2
 go_region
 all_goals (
  have K3:=HK2.out.trans (((B2.alloc (Nat.le_refl _) (.cells #[.int .i64 x1,.int .i64 x2] 157)).drew).mono HK2.out.size)
  have hx:=heap_alloc_new w2 (.cells #[.int .i64 x1,.int .i64 x2] 157)
  have hxlt:w2.heap.size<(w2.alloc (.cells #[.int .i64 x1,.int .i64 x2] 157)).drew.heap.size:=by simp [World.drew]
  have hnx:w.heap.size≠w2.heap.size:=Nat.ne_of_lt hn2
  have y0:=zaa (w:=(w2.alloc (.cells #[.int .i64 x1,.int .i64 x2] 157)).drew) hx 0
  have y1:=zaa (w:=(w2.alloc (.cells #[.int .i64 x1,.int .i64 x2] 157)).drew) hx 1
  have KK:Below w2.heap.size w2 (w2.alloc (.cells #[.int .i64 x1,.int .i64 x2] 157)).drew:=(B2.alloc (Nat.le_refl _) _).drew
  have v0:=(KK.cell (p:=⟨w.heap.size,0,none⟩) hn2).trans u0
  have v1:=(KK.cell (p:=⟨w.heap.size,1,none⟩) hn2).trans u1
  have v2:=(KK.cell (p:=⟨w.heap.size,2,none⟩) hn2).trans u2
  have v3:=(KK.cell (p:=⟨w.heap.size,3,none⟩) hn2).trans u3
  have v4:=(KK.cell (p:=⟨w.heap.size,4,none⟩) hn2).trans u4
  have A4:=HAt.out _ K3
  have e4:=A4.1.c4
  have L2:=A4.1.lookOn p
  have L3:=(A4.1.heap (w':=(w2.alloc (.cells #[.int .i64 x1,.int .i64 x2] 157)).drew.drew) rfl).lookOn p
  have hn3:w.heap.size<(w2.alloc (.cells #[.int .i64 x1,.int .i64 x2] 157)).drew.heap.size:=Nat.lt_trans hn2 hxlt
  have hb3:b<(w2.alloc (.cells #[.int .i64 x1,.int .i64 x2] 157)).drew.heap.size:=Nat.lt_trans hb2 hxlt
  simp only [List.getElem?_toArray,List.getElem?_cons_zero,List.getElem?_cons_succ] at y0 y1
  obtain ⟨yo,hyo⟩:∃ yo,yo=alGet m.on p:=⟨_,rfl⟩
  obtain ⟨z1,hz1⟩:∃ z1,z1=yo.getD 0:=⟨_,rfl⟩
  obtain ⟨zs,hzs⟩:∃ zs,zs=yo.isSome:=⟨_,rfl⟩
  rw [← hyo,← hz1,← hzs] at L2 L3
  have HY:=Lib.hid (And.intro hyo (And.intro hz1 hzs))
  have HK3:=Lib.hid K3
  clear s5a s5b s5c hx KK B2 u0 u1 u2 u3 u4 d3 d4 A3 HK2 HS5 A4 HAt c3 c4 hyo hz1 hzs K3 HT HKT H
  generalize (w2.alloc (.cells #[.int .i64 x1,.int .i64 x2] 157)).drew=w3 at *
  go_wp2
  go_region
  clear L2 L3
  by_cases h2:k<2
  ·rw [decide_eq_true (show (k:Int)=0∨(k:Int)=1 by omega)] at HO
   go_wp2_with (first | (go_at_call 95;refine (HO.out _).mono ?_;rintro e w4 ⟨rfl,hb⟩))
   go_returns
   exact ⟨⟨_,rfl⟩,HK3.out.trans (show Below w.heap.size _ _ from ⟨hb.os,hb.tape,hb.output,Nat.le_trans (Nat.le_of_eq rfl) hb.size,fun x hx=>hb.block x (Nat.lt_of_lt_of_le hx HK3.out.size)⟩)⟩
  ·rw [decide_eq_false (show ¬ ((k:Int)=0∨(k:Int)=1) by omega)] at HO
   by_cases h3:k=2
   ·subst h3
    have hz:zs=false:=by rw [HY.out.2.2,HY.out.1,(htwo rfl).2];rfl
    have hx:xs=false:=by rw [HX.out.2.2.2,HX.out.1,(htwo rfl).1];rfl
    subst hz hx
    go_wp2_with (first | (go_at_call 95;refine (HO.out _).mono ?_;rintro e w4 ⟨rfl,hb⟩;have q0:=(hb.cell (p:=⟨w.heap.size,0,none⟩) hn3).trans v0))
    go_returns
    exact ⟨⟨_,rfl⟩,HK3.out.trans (show Below w.heap.size _ _ from ⟨hb.os,hb.tape,hb.output,Nat.le_trans (Nat.le_of_eq rfl) hb.size,fun x hx=>hb.block x (Nat.lt_of_lt_of_le hx HK3.out.size)⟩)⟩
   ·have hki:¬ (k:Int)=2:=by omega
    have ho3:=hoff (by omega)
    have hx:xs=true:=by rw [HX.out.2.2.2,HX.out.1,ho3];rfl
    have hx1:x1=g:=by rw [HX.out.2.1,HX.out.1,ho3];rfl
    have hx2:x2=p:=by rw [HX.out.2.2.1,HX.out.1,ho3];rfl
    subst hx hx1 hx2
    go_wp2_with (first | (go_at_call 95;refine (HO.out _).mono ?_;rintro e w4 ⟨rfl,hb⟩;have q0:=(hb.cell (p:=⟨w.heap.size,0,none⟩) hn3).trans v0;have q1:=(hb.cell (p:=⟨w.heap.size,1,none⟩) hn3).trans v1;have q3:=(hb.cell (p:=⟨w.heap.size,3,none⟩) hn3).trans v3;have q4:=(hb.cell (p:=⟨w2.heap.size,0,none⟩) hxlt).trans y0;have q5:=(hb.cell (p:=⟨w2.heap.size,1,none⟩) hxlt).trans y1))
    go_quiet (fail)
    go_wp2
    go_returns
    refine ⟨⟨3,?_⟩,HK3.out.trans (show Below w.heap.size _ _ from ⟨hb.os,hb.tape,hb.output,Nat.le_trans (Nat.le_of_eq rfl) hb.size,fun x hx=>hb.block x (Nat.lt_of_lt_of_le hx HK3.out.size)⟩)⟩
    refine congrArg (fun b=>Ending.returned (.tuple #[.int .u8 3,.bool b])) ?_
    rfl)
end
end Go.Proofs.YtlmmjgekolpekaaGreatDoor
namespace Go.Proofs.YtlmmjgekolpekaaGreatDoor
open Go Go.RowKit Hst Go.Proofs Go.MapKept Go.ChangeMaps Go.WideElems
section
variable {w w':World} {b gs r1 r2 c P M:Nat} {m:Mdl}
def mdlS (gs r1 r2:Nat) (x:Nat):Prop:=x=gs∨x=r1∨x=r2
theorem MdlAt.setRuns (h:MdlAt w b gs r1 r2 c P M m) (l:List (Int × (Int × Int))) (hl:(l.map (·.1)).Nodup) (k:IMap .i64 w' r1 (zeP l)) (hm:Mod (·=r1) w w'):MdlAt w' b gs r1 r2 c P M { m with runs:=l }:=by
 obtain ⟨n0,n1,n2,n3,n4,n5⟩:=h.ne
 obtain ⟨l0,l1,l2,l3⟩:=h.lt
 have eb:=hm.block b l0 n1
 have eg:=hm.block gs l1 n3
 have e2:=hm.block r2 l3 (Ne.symm n5)
 exact ⟨(zam eb).trans h.c0,(zam eb).trans h.c1,(zam eb).trans h.c2,h.cap,(zam eb).trans h.c3,(zam eb).trans h.c4,fun g hg=>(zam eg).trans (h.cs g hg),k,h.i2.congr e2,hl,h.n2,h.ne,fun o=>(zaM eg).trans (h.fr o),h.pos⟩
theorem MdlAt.setOn (h:MdlAt w b gs r1 r2 c P M m) (l:List (Int × Int)) (hl:(l.map (·.1)).Nodup) (k:IMap .i64 w' r2 (onV l)) (hm:Mod (·=r2) w w'):MdlAt w' b gs r1 r2 c P M { m with on:=l }:=by
 obtain ⟨n0,n1,n2,n3,n4,n5⟩:=h.ne
 obtain ⟨l0,l1,l2,l3⟩:=h.lt
 have eb:=hm.block b l0 n2
 have eg:=hm.block gs l1 n4
 have e2:=hm.block r1 l2 n5
 exact ⟨(zam eb).trans h.c0,(zam eb).trans h.c1,(zam eb).trans h.c2,h.cap,(zam eb).trans h.c3,(zam eb).trans h.c4,fun g hg=>(zam eg).trans (h.cs g hg),h.i1.congr e2,k,h.n1,hl,h.ne,fun o=>(zaM eg).trans (h.fr o),h.pos⟩
theorem IMap.entry {Pr:Program} {K:IntKind} {mty kt et:TypeId} {r:Nat} {l:List (Int × Value)} (hm:Pr.underlying mty=some (.map kt et)) (hd:Pr.underlying kt=some (.int K)) {z:Value} (hz:∀ w,(zeroValue et).run Pr w=.ok z w) (h:IMap K w r l) (g:Int) (hno:zen l g=none) :
  ∃ (st:Nat) (w1:World),(Instr.mapEntry mty (.map (some r)) (.int K g)).run Pr w=.ok (.tuple #[z,goInt st]) w1∧Mod (·=r) w w1 ∧
   ∀ u v,u.heap[r]?=w1.heap[r]?→∃ w2,(Instr.entryStore mty (.map (some r)) (goInt st) v).run Pr u=.ok () w2∧IMap K w2 r (l++[(g,v)])∧Mod (·=r) u w2:=by
 obtain ⟨es,clock,hb,he,hnd,hlt⟩:=h
 have hk:IsKey (.int K) (.int K g):=rfl
 have hmod:∀ (u:World) o,(∃ o0,u.heap[r]?=some o0)→Mod (·=r) u { u with heap:=u.heap.setIfInBounds r o }:=fun u o ho=>⟨rfl,rfl,rfl,by simp,fun x _ hx=>by obtain ⟨o0,ho⟩:=ho;exact (heap_set ho).2 x hx⟩
 obtain ⟨hks,h2⟩:=zcj he g
 rcases h2 with ⟨h1,h3,h2⟩ | ⟨j,e,u,h1,h3,h4,h5,h6⟩
 ·refine ⟨clock,{ w with heap:=w.heap.setIfInBounds r (.map (es.push { key:=.int K g,val:=z,born:=clock }) (clock+1)) },by simp [Instr.mapEntry,run_underlying hm,MapKept.run_getObj_map hb,run_checkKey hd hk,run_findKey hd h1,hz,run_setObj_map _ hb,Result.andThen],hmod _ _ ⟨_,hb⟩,fun u v hu=>?_⟩
  have hub:u.heap[r]?=some (.map (es.push { key:=.int K g,val:=z,born:=clock }) (clock+1)):=hu.trans (heap_set hb).1
  have hidx:(es.push ⟨.int K g,z,clock⟩).findIdx? (fun e=>((e.born:Nat):Int)==((clock:Nat):Int))=some es.size:=by
   rw [findIdx_arr]
   have:=findIdx_born (l:=(es.push ⟨.int K g,z,clock⟩).toList) (j:=es.size) (e0:=⟨.int K g,z,clock⟩) (by
    simp only [Array.toList_push,List.map_append,List.map_cons,List.map_nil]
    refine List.nodup_append.2 ⟨hnd,by simp,fun a ha c hc e1=>?_⟩
    simp only [List.mem_singleton] at hc
    obtain ⟨x,hx,rfl⟩:=List.mem_map.1 ha
    have:=hlt x hx
    omega) (by simp)
   exact this
  have hmd:(es.push ⟨.int K g,z,clock⟩).modify es.size (fun e=>{ e with val:=v })=es.push ⟨.int K g,v,clock⟩:=by
   apply Array.ext'
   rw [Array.toList_modify,Array.toList_push,Array.toList_push,← Array.length_toList,modify_last]
  refine ⟨{ u with heap:=u.heap.setIfInBounds r (.map (es.push ⟨.int K g,v,clock⟩) (clock+1)) },by simp [Instr.entryStore,MapKept.run_getObj_map hub,asInt,asIntOf,goInt,hidx,hmd,run_setObj_map _ hub,Result.andThen],⟨_,_,(heap_set hub).1,?_,?_,?_⟩,hmod _ _ ⟨_,hub⟩⟩
  ·simp [he]
  ·simp only [Array.toList_push,List.map_append,List.map_cons,List.map_nil]
   refine List.nodup_append.2 ⟨hnd,by simp,fun a ha b hb'=>?_⟩
   simp at hb'
   subst hb'
   obtain ⟨x,hx,rfl⟩:=List.mem_map.1 ha
   have:=hlt x hx
   omega
  ·intro x hx
   simp only [Array.toList_push,List.mem_append,List.mem_singleton] at hx
   rcases hx with hx | rfl
   ·have:=hlt x hx;omega
   ·simp
 ·exfalso
  have:(g,u)∈l:=List.mem_of_getElem? h6
  unfold zen at hno
  rw [Option.map_eq_none_iff,List.find?_eq_none] at hno
  exact hno _ this (by simp)
end
end Go.Proofs.YtlmmjgekolpekaaGreatDoor
namespace Go.Proofs.YtlmmjgekolpekaaGreatDoor
open Go Go.RowKit Hst Go.Proofs Go.MapKept
section
variable {w w':World} {b gs r1 r2 c P M:Nat} {m:Mdl}
theorem madd_any (N:Nat) (h:MdlAt w b gs r1 r2 c P M m) (T:Tabs N w) (KT:KTab w) (k g:Nat) (i p v:Int) (hP:P≤64) (hM:M≤128) (ok:MOk P M m ⟨k,g,i,p,v⟩) :
  Calls Tryz.prog 44 #[.pointer (some ⟨b,0,none⟩),.agg #[.int .i64 k,.int .i64 g,.int .i64 i,.int .i64 p,.int .i64 v]] w fun e w'=>e=.returned (.tuple #[.int .u8 0,.bool true])∧MdlAt w' b gs r1 r2 c P M (m.add ⟨k,g,i,p,v⟩)∧Mod (mdlS gs r1 r2) w w':=by
 have hg':g<m.st.length:=by have:=ok.g;dsimp only at this;omega
 have hk8:k<8:=by have:=ok.k;dsimp only at this;omega
 have hwr:=fun w1 (h1:MdlAt w1 b gs r1 r2 c P M m) T1 K1=>mwrong_any N h1 T1 K1 k g i p v hP hM ok
 have hst:=fun w1 T1=>steps_any ⟨k,g,i,p,v⟩ k hk8 rfl w1 T1
 simp only [evV] at hst
 have hou:=fun w1=>zb9 k g i p v w1
 have HW:=Lib.hid hwr
 have HS:=Lib.hid hst
 have HO:=Lib.hid hou
 have H:=Lib.hid h
 have HT:=Lib.hid T
 have HKT:=Lib.hid KT
 have hlt:=h.lt.1
 have hltg:=h.lt.2.1
 have hcap:=h.cap
 have hpos:=h.pos
 have hbg:b≠gs:=h.ne.1
 obtain ⟨o,ho⟩:∃ o:Obj,o=.cells #[.int .i64 k,.int .i64 g,.int .i64 i,.int .i64 p,.int .i64 v] 39:=⟨_,rfl⟩
 have B1:=zab w o
 have hat:∀ W,Below w.heap.size w W→MdlAt W b gs r1 r2 c P M m∧Tabs N W∧KTab W:=fun W K=>⟨H.out.below K,HT.out.below (fun x hx=>K.block x (Nat.lt_of_lt_of_le hx HT.out.le)) (Nat.le_trans HT.out.le K.size),HKT.out.below HKT.out.lt K⟩
 have HAt:=Lib.hid hat
 have A1:=Lib.hid (hat _ B1)
 have HU:=Lib.hid (heap_alloc_new w o)
 have hnb:w.heap.size<(w.alloc o).heap.size:=by simp
 have HB1:=Lib.hid B1
 have OK:=Lib.hid ok
 rw [ho] at A1 HU HB1 hnb
 clear hwr hst hou h T KT hat B1 ho ok
 go_enter Tryz.func44,Tryz.ntmps44
 go_wp2_with fail
 generalize w.alloc (.cells #[.int .i64 k,.int .i64 g,.int .i64 i,.int .i64 p,.int .i64 v] 39)=W at *
 refine (HW.out W A1.out.1 A1.out.2.1 A1.out.2.2).mono ?_
 rintro e w1 ⟨⟨q,rfl⟩,b1⟩
 have K1:=HB1.out.trans (b1.mono HB1.out.size)
 have U1:=(b1.block _ hnb).trans HU.out
 have A2:=Lib.hid (HAt.out w1 K1)
 have HK1:=Lib.hid K1
 have HU1:=Lib.hid U1
 have u0:=zaa U1 0
 have u1:=zaa U1 1
 have u2:=zaa U1 2
 have u3:=zaa U1 3
 have u4:=zaa U1 4
 simp only [List.getElem?_toArray,List.getElem?_cons_zero,List.getElem?_cons_succ] at u0 u1 u2 u3 u4
 have hn1:w.heap.size<w1.heap.size:=zaB U1
 have hgi:(g:Int)<m.st.length:=by omega
 have c2:=A2.out.1.c2
 have cg:=A2.out.1.cs g hg'
 have fg:=A2.out.1.fr
 have hb1:=A2.out.1.lt.1
 have hgs1:=A2.out.1.lt.2.1
 have KT1:=Lib.hid (A2.out.2.2.keep (w':=w1.drew) rfl)
 obtain ⟨n,hn⟩:∃ n,n=m.st.length:=⟨_,rfl⟩
 obtain ⟨s0,hs0⟩:∃ s0,s0=m.st.getD g 0:=⟨_,rfl⟩
 rw [← hn] at hgi c2 hcap hpos
 rw [← hs0] at cg
 clear b1 K1 U1 HW A1 HU HB1
 go_wp2
 go_region_held3 (fun w'=>w'.cell? ⟨b,2,none⟩=some (.slice (some ⟨gs,0,none⟩) n c)∧w'.cell? ⟨w.heap.size,0,none⟩=some (.int .i64 k)∧w'.cell? ⟨w.heap.size,1,none⟩=some (.int .i64 g)∧w'.cell? ⟨w.heap.size,2,none⟩=some (.int .i64 i)∧w'.cell? ⟨w.heap.size,3,none⟩=some (.int .i64 p)∧w'.cell? ⟨w.heap.size,4,none⟩=some (.int .i64 v))
  (first | exact ⟨c2,u0,u1,u2,u3,u4⟩ | exact ⟨c2',u0',u1',u2',u3',u4'⟩ | exact ⟨(cell_far (Ne.symm hbg) _).trans c2',(cell_far hgw _).trans u0',(cell_far hgw _).trans u1',(cell_far hgw _).trans u2',(cell_far hgw _).trans u3',(cell_far hgw _).trans u4'⟩)
  (first | (go_at_call 35;refine (HS.out _ KT1.out).mono ?_;rintro e w2 ⟨rfl,hb⟩;have c2':=(hb.cell (p:=⟨b,2,none⟩) hb1).trans c2;have u0':=(hb.cell (p:=⟨w.heap.size,0,none⟩) hn1).trans u0;have u1':=(hb.cell (p:=⟨w.heap.size,1,none⟩) hn1).trans u1;have u2':=(hb.cell (p:=⟨w.heap.size,2,none⟩) hn1).trans u2;have u3':=(hb.cell (p:=⟨w.heap.size,3,none⟩) hn1).trans u3;have u4':=(hb.cell (p:=⟨w.heap.size,4,none⟩) hn1).trans u4;have cg':=(hb.cell (p:=⟨gs,g,none⟩) hgs1).trans cg;have fg':=fun o=>(zaM (hb.block gs hgs1)).trans (fg o);have hgw:gs≠w.heap.size:=Nat.ne_of_lt hltg))
 have M2:=(A2.out.1.heap (w':=w1.drew) rfl).below hb
 have M3:=M2.setSt hg' (toS k)
 have K2:Below w.heap.size w w2:=HK1.out.drew.trans (hb.mono HK1.out.size)
 have D3:Mod (mdlS gs r1 r2) w (w2.setCell ⟨gs,g,none⟩ (.int .u64 (toS k:Nat))):=(Mod.of_below K2 _).setCell (.inl (.inl rfl)) _
 have v0:=(cell_far (o:=g) hgw (.int .u64 (toS k:Nat))).trans u0'
 have v1:=(cell_far (o:=g) hgw (.int .u64 (toS k:Nat))).trans u1'
 have v2:=(cell_far (o:=g) hgw (.int .u64 (toS k:Nat))).trans u2'
 have v3:=(cell_far (o:=g) hgw (.int .u64 (toS k:Nat))).trans u3'
 have v4:=(cell_far (o:=g) hgw (.int .u64 (toS k:Nat))).trans u4'
 have HM3:=Lib.hid M3
 have HD3:=Lib.hid D3
 clear A2 HK1 u0 u1 u2 u3 u4 c2 cg fg u0' u1' u2' u3' u4' c2' cg' fg' M2 M3 K2 D3 hb KT1 HS HU1
 generalize w2.setCell ⟨gs,g,none⟩ (.int .u64 (toS k:Nat))=w3 at *
 have hn3:w.heap.size<w3.heap.size:=World.block_lt_of_cell? w3 _ v0
 have hb3:=HM3.out.lt.1
 have hadd:m.add ⟨(k:Int),(g:Int),i,p,v⟩={ st:=m.st.set g (toS k),runs:=if k<2 then m.runs else if k=2 then m.runs++[(i,((g:Int),p))] else zeE m.runs i,on:=if k<2 then m.on else if k=2 then m.on++[(p,i)] else zeE m.on p }:=by
  unfold Mdl.add
  simp only [Int.toNat_natCast]
  congr 1
  ·by_cases h2:k<2
   ·rw [if_pos h2,if_pos (by omega)]
   ·rw [if_neg h2,if_neg (by omega)]
    by_cases h3:k=2
    ·rw [if_pos h3,if_pos (by omega)]
    ·rw [if_neg h3,if_neg (by omega)]
  ·by_cases h2:k<2
   ·rw [if_pos h2,if_pos (by omega)]
   ·rw [if_neg h2,if_neg (by omega)]
    by_cases h3:k=2
    ·rw [if_pos h3,if_pos (by omega)]
    ·rw [if_neg h3,if_neg (by omega)]
 have HAdd:=Lib.hid hadd
 clear hadd
 by_cases h2:k<2
 ·rw [decide_eq_true (show (k:Int)=0∨(k:Int)=1 by omega)] at HO
  go_wp2_with (first | (go_at_call 95;refine (HO.out _).mono ?_;rintro e w4 ⟨rfl,hb⟩))
  go_returns
  refine ⟨rfl,?_,HD3.out.trans1 (Mod.of_below hb _)⟩
  rw [HAdd.out,if_pos h2,if_pos h2]
  exact HM3.out.below hb
 ·rw [decide_eq_false (show ¬ ((k:Int)=0∨(k:Int)=1) by omega)] at HO
  by_cases h3:k=2
  ·subst h3
   go_wp2_with (first | (go_at_call 95;refine (HO.out _).mono ?_;rintro e w4 ⟨rfl,hb⟩;have y0:=(hb.cell (p:=⟨w.heap.size,0,none⟩) hn3).trans v0;have y1:=(hb.cell (p:=⟨w.heap.size,1,none⟩) hn3).trans v1;have y2:=(hb.cell (p:=⟨w.heap.size,2,none⟩) hn3).trans v2;have y3:=(hb.cell (p:=⟨w.heap.size,3,none⟩) hn3).trans v3))
   have htw:=OK.out.two rfl
   dsimp only at htw
   have M4:=HM3.out.below hb
   have z3:=M4.c3
   have z4:=M4.c4
   have hwr:w.heap.size≠r1:=Ne.symm (Nat.ne_of_lt H.out.lt.2.2.1)
   have hwr2:w.heap.size≠r2:=Ne.symm (Nat.ne_of_lt H.out.lt.2.2.2)
   obtain ⟨st,w5,e5,m5,st5⟩:=IMap.entry (Pr:=Tryz.prog) (mty:=152) Tryz.underlying152 Tryz.underlying3 zdG (M4.i1.same (w':=w4.drew) rfl) i (by unfold zeP;rw [zbE (fun x:Int × Int=>Value.agg #[.int .i64 x.1,.int .i64 x.2])];show (alGet m.runs i).map _=none;rw [htw.1];rfl)
   obtain ⟨w6,e6,i6,m6⟩:=st5 w5 (.agg #[.int .i64 g,.int .i64 p]) rfl
   change (Instr.entryStore _ _ (.int .i64 (st:Int)) _).run _ _=_ at e6
   have m56:Mod (·=r1) w4.drew w6:=m5.trans1 m6
   have M6:=(M4.heap (w':=w4.drew) rfl).setRuns (m.runs++[(i,((g:Int),p))]) (zbr M4.n1 htw.1) (by unfold zeP at i6 ⊢;rw [List.map_append];exact i6) m56
   obtain ⟨st2,w7,e7,m7,st7⟩:=IMap.entry (Pr:=Tryz.prog) (mty:=98) Tryz.underlying98 Tryz.underlying3 zeroInt M6.i2 p (by unfold onV;rw [zbE (fun x:Int=>Value.int .i64 x)];show (alGet m.on p).map _=none;rw [htw.2];rfl)
   obtain ⟨w8,e8,i8,m8⟩:=st7 w7 (.int .i64 i) rfl
   change (Instr.entryStore _ _ (.int .i64 (st2:Int)) _).run _ _=_ at e8
   have m78:Mod (·=r2) w6 w8:=m7.trans1 m8
   have M8:=M6.setOn (m.on++[(p,i)]) (zbr M6.n2 htw.2) (by unfold onV at i8 ⊢;rw [List.map_append];exact i8) m78
   have DM:Mod (mdlS gs r1 r2) w w8:=((HD3.out.trans1 (Mod.of_below hb _)).drew.trans1 (m56.mono fun x _ e=>.inr (.inl e))).trans1 (m78.mono fun x _ e=>.inr (.inr e))
   have p1:=m5.cell (a:=⟨w.heap.size,1,none⟩) hwr y1
   have p2:=m5.cell (a:=⟨w.heap.size,2,none⟩) hwr y2
   have p3:=m5.cell (a:=⟨w.heap.size,3,none⟩) hwr y3
   have q1:=m6.cell (a:=⟨w.heap.size,1,none⟩) hwr p1
   have q2:=m6.cell (a:=⟨w.heap.size,2,none⟩) hwr p2
   have q3:=m6.cell (a:=⟨w.heap.size,3,none⟩) hwr p3
   have r1':=m7.cell (a:=⟨w.heap.size,1,none⟩) hwr2 q1
   have r2':=m7.cell (a:=⟨w.heap.size,2,none⟩) hwr2 q2
   have r3':=m7.cell (a:=⟨w.heap.size,3,none⟩) hwr2 q3
   have HM8:=Lib.hid M8
   have HDM:=Lib.hid DM
   clear M4 m5 st5 i6 m6 m56 M6 m7 st7 i8 m8 m78 M8 DM hb htw
   go_region
   go_wp2
   go_returns
   refine ⟨rfl,?_,HDM.out⟩
   have ha:=HAdd.out
   simp only [if_neg h2,if_true] at ha
   exact Eq.mp (congrArg (MdlAt w8 b gs r1 r2 c P M) ha.symm) HM8.out
  ·have hki:¬ (k:Int)=2:=by omega
   go_wp2_with (first | (go_at_call 95;refine (HO.out _).mono ?_;rintro e w4 ⟨rfl,hb⟩;have y0:=(hb.cell (p:=⟨w.heap.size,0,none⟩) hn3).trans v0;have y1:=(hb.cell (p:=⟨w.heap.size,1,none⟩) hn3).trans v1;have y2:=(hb.cell (p:=⟨w.heap.size,2,none⟩) hn3).trans v2;have y3:=(hb.cell (p:=⟨w.heap.size,3,none⟩) hn3).trans v3))
   have M4:=HM3.out.below hb
   have z3:=M4.c3
   have z4:=M4.c4
   obtain ⟨w5,e5,i5,m5⟩:=IMap.delete (P:=Tryz.prog) (mty:=152) (ty:=0) Tryz.underlying152 Tryz.underlying3 (M4.i1.same (w':=w4.drew) rfl) (by unfold zeP;rw [zcy (fun x:Int × Int=>Value.agg #[.int .i64 x.1,.int .i64 x.2])];exact M4.n1) i
   go_region
   have hne:=M4.ne
   have l4:=M4.lt
   have hwr:w.heap.size≠r1:=Ne.symm (Nat.ne_of_lt H.out.lt.2.2.1)
   have hwr2:w.heap.size≠r2:=Ne.symm (Nat.ne_of_lt H.out.lt.2.2.2)
   have M5:=(M4.heap (w':=w4.drew) rfl).setRuns (zeE m.runs i) (zbs M4.n1) (by unfold zeP at i5 ⊢;rw [filt_map (fun x:Int × Int=>Value.agg #[.int .i64 x.1,.int .i64 x.2])] at i5;exact i5) m5
   have x3:=m5.cell (a:=⟨w.heap.size,3,none⟩) hwr y3
   have z5:=M5.c4
   obtain ⟨w6,e6,i6,m6⟩:=IMap.delete (P:=Tryz.prog) (mty:=98) (ty:=0) Tryz.underlying98 Tryz.underlying3 (M5.i2.same (w':=w5.drew) rfl) (by unfold onV;rw [zcy (fun x:Int=>Value.int .i64 x)];exact M5.n2) p
   have M6:=(M5.heap (w':=w5.drew) rfl).setOn (zeE m.on p) (zbs M5.n2) (by unfold onV at i6 ⊢;rw [filt_map (fun x:Int=>Value.int .i64 x)] at i6;exact i6) m6
   have DM:Mod (mdlS gs r1 r2) w w6:=((HD3.out.trans1 (Mod.of_below hb _)).drew.trans1 (m5.mono fun x _ e=>.inr (.inl e))).drew.trans1 (m6.mono fun x _ e=>.inr (.inr e))
   have HM6:=Lib.hid M6
   have HDM:=Lib.hid DM
   clear M4 M5 i5 i6 m5 m6 M6 DM e5 hb
   go_wp2
   go_region
   go_wp2
   go_returns
   refine ⟨rfl,?_,HDM.out⟩
   rw [HAdd.out,if_neg h2,if_neg h3,if_neg h2,if_neg h3]
   exact HM6.out
end
end Go.Proofs.YtlmmjgekolpekaaGreatDoor
namespace Go.Proofs.YtlmmjgekolpekaaGreatDoor
open Go Go.RowKit Hst Go.Proofs Go.MapKept
section
variable {w w':World} {b gs r1 r2 c P M:Nat} {m:Mdl}
theorem zdC {B:Nat} {a w w':World} (hB:B≤a.heap.size) (K:Below B a w) (h:Mod (mdlS gs r1 r2) w w') (h1:B≤gs) (h2:B≤r1) (h3:B≤r2):Below B a w' :=
 ⟨h.os.trans K.os,h.tape.trans K.tape,h.output.trans K.output,Nat.le_trans K.size h.size,fun x hx=>(h.block x (by have:=K.size;omega) (fun e=>by rcases e with e | e | e <;> omega)).trans (K.block x hx)⟩
theorem mcheck_any (N P M G:Nat) (hP:P≤64) (hM:M≤128) (hG:1≤G∧G≤4096) (l:List Ev) (hl:l.length≤4294967296) (ok:MOks P M (Mdl.new G) l) (v:Value) (w:World) (T:Tabs N w) (KT:KTab w) (hA:EvArg w v l) :
  Calls Tryz.prog 42 #[.int .i64 P,.int .i64 M,.int .i64 G,v] w fun e w'=>e=.returned (.slice none 0 0)∧Below w.heap.size w w':=by
 have hnew:=zd5 P M G hP hM hG w
 obtain ⟨a,ca,rfl,hE⟩:=evArg_cut hA
 have HN:=Lib.hid hnew
 have HT:=Lib.hid T
 have HKT:=Lib.hid KT
 have HE:=Lib.hid hE
 have OK:=Lib.hid ok
 clear hnew T KT hE ok hA
 go_enter Tryz.func42,Tryz.ntmps42
 go_wp2_with fail
 refine HN.out.mono ?_
 rintro e w1 ⟨b,gs,r1,r2,c,rfl,hm,h1,h2,h3,h4,b1⟩
 have HM1:=Lib.hid hm
 have HB1:=Lib.hid b1
 clear hm b1
 go_wp2_with fail
 go_loopw [10,21] (fun o i wr=>∃ j:Nat,o=.slice none 0 0∧i=.int .i64 (j:Int)∧j≤l.length∧MdlAt wr b gs r1 r2 c P M (mrun (Mdl.new G) (l.take j))∧Below w.heap.size w wr) (fun _ i _=>l.length - (intOf i).toNat)
 case atStart=>exact ⟨0,rfl,rfl,by omega,HM1.out,HB1.out⟩
 case round =>
  clear HM1 HB1
  obtain ⟨j,rfl,rfl,hj,hm,K⟩:=hrel
  by_cases hpj:j<l.length
  ·have hEl:=HE.out
   rcases hEl with h0 | ⟨ba,oa,rfl,hE⟩
   ·rw [h0] at hpj;simp at hpj
   obtain ⟨e,he⟩:∃ e,l[j]?=some e:=⟨_,List.getElem?_eq_getElem hpj⟩
   obtain ⟨hok,_,hnx⟩:=MOks_at l (Mdl.new G) j e OK.out he
   have hE2:=hE.below hE.lt K
   have c0:=hE2.ck j e he
   have c1:=hE2.cg j e he
   have c2:=hE2.cm j e he
   have c3:=hE2.cp j e he
   have c4:=hE2.cv j e he
   have hlt:=hE2.lt
   have hpi:(j:Int)<l.length:=by omega
   obtain ⟨ek,eg,ei,ep,ev⟩:=e
   obtain ⟨k,rfl⟩:∃ k:Nat,ek=k:=⟨ek.toNat,by have:=hok.k;dsimp only at this;omega⟩
   obtain ⟨g,rfl⟩:∃ g:Nat,eg=g:=⟨eg.toNat,by have:=hok.g;dsimp only at this;omega⟩
   dsimp only at c0 c1 c2 c3 c4
   obtain ⟨o,ho⟩:∃ o:Obj,o=.cells #[.int .i64 k,.int .i64 g,.int .i64 ei,.int .i64 ep,.int .i64 ev] 39:=⟨_,rfl⟩
   have B2:=zab wr o
   have K2:=K.trans (B2.mono K.size)
   have hm2:=hm.below B2
   have T2:=HT.out.below (fun x hx=>K2.block x (Nat.lt_of_lt_of_le hx HT.out.le)) (Nat.le_trans HT.out.le K2.size)
   have KT2:=HKT.out.below HKT.out.lt K2
   have hadd:=madd_any N hm2 T2 KT2 k g ei ep ev hP hM hok
   rw [← hnx] at hadd
   rw [ho] at hadd K2
   have HA:=Lib.hid hadd
   have HK2:=Lib.hid K2
   clear hm hE hE2 K he hok hnx B2 hm2 T2 KT2 hadd K2 ho
   go_wp2_with fail
   refine HA.out.mono ?_
   rintro e w2 ⟨rfl,hm3,hmod⟩
   have K3:=Lib.hid (zdC (Nat.le_refl _) HK2.out hmod h2 h3 h4)
   have HM3:=Lib.hid hm3
   clear HA hm3 hmod
   go_wp2
   go_roundw
   case rel=>exact ⟨j+1,rfl,by go_num,hpj,HM3.out,K3.out⟩
   case measure=>simp [intOf];omega
  ·obtain rfl:j=l.length:=by omega
   have hpi:¬ (l.length:Int)<l.length:=by omega
   clear hm
   go_wp2
   go_returns
   exact ⟨rfl,K⟩
end
end Go.Proofs.YtlmmjgekolpekaaGreatDoor
