/- Parts of the proof. -/
import Derived.Test.YtlmmjgekolpekaaGreatDoorMPk07
import Derived.Test.YtlmmjgekolpekaaGreatDoorMPq31
import Derived.Test.YtlmmjgekolpekaaGreatDoorMPk29
import Derived.Test.YtlmmjgekolpekaaGreatDoorMPq10
import Derived.Defers
set_option linter.unusedVariables false
set_option linter.unusedSimpArgs false
set_option linter.unusedSectionVars false
set_option maxRecDepth 100000
set_option maxHeartbeats 6400000
namespace Hst
structure NoEv (p q:Wd):Prop where
 dim:q.P=p.P∧q.M=p.M∧q.G=p.G
 log:q.log=p.log
 st:∀ g,g<p.G→q.sts g=p.sts g
 g:∀ j,(q.mach j).g=(p.mach j).g
 p:∀ j,0≤(p.mach j).g→(q.mach j).p=(p.mach j).p
def toS:Nat→Nat | 0=>1 | 1=>1 | 2=>2 | 3=>1 | 4=>3 | 5=>4 | 6=>5 | _=>6
def frS:Nat→Nat | 0=>0 | 1=>0 | 2=>1 | _=>2
structure AnEv (p:Wd) (i:Nat) (q:Wd) (g k:Nat) (v:Int):Prop where
 dim:q.P=p.P∧q.M=p.M∧q.G=p.G
 iM:i<p.M
 gG:g<p.G
 k7:k≤7
 log:q.log=p.log++[{ kind:=k,g:=g,m:=i,p:=(p.mach i).p,value:=v }]
 val:if k=5 then -9223372036854775808≤v∧v≤9223372036854775807 else if k=6 then 0≤v∧v<65536 else v=0
 st:∀ y,y<p.G→q.sts y=if y=g then toS k else p.sts y
 fr:if k=1 then p.sts g=3∨p.sts g=4∨p.sts g=5 else p.sts g=frS k
 oth:∀ j,j≠i→(q.mach j).g=(p.mach j).g∧(q.mach j).p=(p.mach j).p
 pp:(q.mach i).p=(p.mach i).p
 hp:1<k→0≤(p.mach i).p
 mg:if k=2 then (p.mach i).g = -1∧(q.mach i).g=g else if 2<k then (p.mach i).g=g∧(q.mach i).g = -1 else (q.mach i).g=(p.mach i).g
section
variable {n:Nat} {p:Wd} {i:Nat}
theorem zan {q:Wd} {m':Mach} (h:Inv n p) (hi:i<p.M) (hd:q.P=p.P∧q.M=p.M∧q.G=p.G) (hall:q.all=p.all.set i m') (hlog:q.log=p.log) (hst:∀ g,g<p.G→q.sts g=p.sts g) (hg:m'.g=(p.mach i).g) (hp:0≤(p.mach i).g→m'.p=(p.mach i).p):NoEv p q:=by
 have hm:=zba hall (h.la hi)
 refine ⟨hd,hlog,hst,fun j=>?_,fun j hj=>?_⟩
 ·rw [hm j];split
  ·subst_vars;exact hg
  ·rfl
 ·rw [hm j];split
  ·subst_vars;exact hp hj
  ·rfl
theorem zbg {q:Wd} (hd:q.P=p.P∧q.M=p.M∧q.G=p.G) (hall:q.all=p.all) (hlog:q.log=p.log) (hst:∀ g,g<p.G→q.sts g=p.sts g):NoEv p q:=by
 refine ⟨hd,hlog,hst,fun j=>?_,fun j _=>?_⟩ <;> (unfold Wd.mach;rw [hall])
theorem zbt {q:Wd} {m':Mach} {g k:Nat} {v:Int} (h:Inv n p) (hi:i<p.M) (hd:q.P=p.P∧q.M=p.M∧q.G=p.G) (hg:g<p.G) (hk:k≤7) (hall:q.all=p.all.set i m') (hws:q.ws=p.ws.set (p.statW g) (toS k))
  (hlog:q.log=p.log++[{ kind:=k,g:=g,m:=i,p:=(p.mach i).p,value:=v }]) (val:if k=5 then -9223372036854775808≤v∧v≤9223372036854775807 else if k=6 then 0≤v∧v<65536 else v=0)
  (fr:if k=1 then p.sts g=3∨p.sts g=4∨p.sts g=5 else p.sts g=frS k) (pp:m'.p=(p.mach i).p) (hp:1<k→0≤(p.mach i).p)
  (mg:if k=2 then (p.mach i).g = -1∧m'.g=g else if 2<k then (p.mach i).g=g∧m'.g = -1 else m'.g=(p.mach i).g):AnEv p i q g k v:=by
 have hm:=zba hall (h.la hi)
 have hm':q.mach i=m':=by rw [hm i,if_pos rfl]
 refine ⟨hd,hi,hg,hk,hlog,val,fun y hy=>?_,fr,fun j hj=>?_,by rw [hm'];exact pp,hp,by rw [hm'];exact mg⟩
 ·have:=zb4 p g (toS k) h.sh.lw hg y
  unfold Wd.sts Wd.ld Wd.statW at *
  rw [hws,hd.1,hd.2.1]
  exact this
 ·rw [hm j,if_neg hj];exact ⟨rfl,rfl⟩
theorem tr_ev {p':Wd} (h:Inv n p) (hi:i<p.M) (t:Tr p i p'):NoEv p p'∨∃ g k v,AnEv p i p' g k v:=by
 have hlw:=h.sh.lw
 have sh:=(h.L.loc i hi).sh
 have hlow:∀ a x g,a<2*(p.P+2)+1+p.M→(p.ws.set a x).getD (2*(p.P+2)+1+p.M+g) 0=p.sts g:=fun a x g ha=>zaD p a x (by omega) ha g
 have hk2:∀ k,zek p.P (p.mach i)=some k→k≤p.P+1:=fun k hk=>zcb p.P (p.mach i) hk h.sh.dP.1
 cases t
 case take k c hn hk=>exact .inl (zan h hi ⟨rfl,rfl,rfl⟩ rfl rfl (fun g _=>hlow _ _ g (by have:=hk2 k hk;omega)) rfl fun _=>rfl)
 case miss=>exact .inl (zbg ⟨rfl,rfl,rfl⟩ rfl rfl fun _ _=>rfl)
 case hit=>exact .inl (zan h hi ⟨rfl,rfl,rfl⟩ rfl rfl (fun _ _=>rfl) rfl fun _=>rfl)
 case foundR=>exact .inl (zan h hi ⟨rfl,rfl,rfl⟩ rfl rfl (fun _ _=>rfl) rfl fun _=>rfl)
 case foundG=>exact .inl (zan h hi ⟨rfl,rfl,rfl⟩ rfl rfl (fun _ _=>rfl) rfl fun _=>rfl)
 case told=>exact .inl (zan h hi ⟨rfl,rfl,rfl⟩ rfl rfl (fun _ _=>rfl) rfl fun _=>rfl)
 case release q h0 hp hg hq=>exact .inl (zan h hi ⟨rfl,rfl,rfl⟩ rfl rfl (fun _ _=>rfl) rfl fun hx=>by have:=(sh7 sh hp).1;omega)
 case retake q h0 hp hq hq2=>exact .inl (zan h hi ⟨rfl,rfl,rfl⟩ rfl rfl (fun _ _=>rfl) rfl fun hx=>by have:=(sh11 sh hp).1;omega)
 case pending q t h0 hp hq=>exact .inl (zan h hi ⟨rfl,rfl,rfl⟩ rfl rfl (fun _ _=>rfl) rfl fun hx=>by have:=(sh13 sh hp).1;omega)
 case stopP=>exact .inl (zan h hi ⟨rfl,rfl,rfl⟩ rfl rfl (fun _ _=>rfl) rfl fun _=>rfl)
 case stopM=>exact .inl (zan h hi ⟨rfl,rfl,rfl⟩ rfl rfl (fun _ _=>rfl) rfl fun _=>rfl)
 case unpoll=>exact .inl (zan h hi ⟨rfl,rfl,rfl⟩ rfl rfl (fun _ _=>rfl) rfl fun _=>rfl)
 case putOver=>exact .inl (zan h hi ⟨rfl,rfl,rfl⟩ rfl rfl (fun _ _=>rfl) rfl fun _=>rfl)
 case putOne=>exact .inl (zan h hi ⟨rfl,rfl,rfl⟩ rfl rfl (fun _ _=>rfl) rfl fun _=>rfl)
 case putRest=>exact .inl (zan h hi ⟨rfl,rfl,rfl⟩ rfl rfl (fun _ _=>rfl) rfl fun _=>rfl)
 case putNext=>exact .inl (zan h hi ⟨rfl,rfl,rfl⟩ rfl rfl (fun _ _=>rfl) rfl fun _=>rfl)
 case deliv=>exact .inl (zan h hi ⟨rfl,rfl,rfl⟩ rfl rfl (fun _ _=>rfl) rfl fun _=>rfl)
 case findNo=>exact .inl (zan h hi ⟨rfl,rfl,rfl⟩ rfl rfl (fun _ _=>rfl) rfl fun _=>rfl)
 case findBack c h1 hp=>exact .inl (zan h hi ⟨rfl,rfl,rfl⟩ rfl rfl (fun g _=>hlow _ _ g (by unfold Wd.spinW;omega)) rfl fun _=>rfl)
 case findM q k h0 hp hq hq2 m' o' hm =>
  obtain ⟨hkM,hne⟩:k<p.M∧i≠k:=by
   have:=zbv h hi hp hm
   grind
  have hm2:=zc9 (p:=p) (q:={ p with idle:={ p.idle with p:=p.idle.p^^^2^q,m:=m',poller:=o' },all:=(p.all.set k { p.mach k with next:=q }).set i { p.mach i with target:=k,times:=1,stage:=3 } }) (i:=i) (k:=k) rfl (h.la hi) (by rw [h.sh.la];exact hkM)
  refine .inl ⟨⟨rfl,rfl,rfl⟩,rfl,fun _ _=>rfl,fun j=>?_,fun j _=>?_⟩
  ·rw [hm2 j];(repeat' split) <;> (subst_vars;rfl)
  ·rw [hm2 j];(repeat' split) <;> (subst_vars;rfl)
 case findP=>exact .inl (zan h hi ⟨rfl,rfl,rfl⟩ rfl rfl (fun _ _=>rfl) rfl fun _=>rfl)
 case park=>exact .inl (zan h hi ⟨rfl,rfl,rfl⟩ rfl rfl (fun _ _=>rfl) rfl fun _=>rfl)
 case await=>exact .inl (zan h hi ⟨rfl,rfl,rfl⟩ rfl rfl (fun _ _=>rfl) rfl fun _=>rfl)
 case awaitNo=>exact .inl (zan h hi ⟨rfl,rfl,rfl⟩ rfl rfl (fun _ _=>rfl) rfl fun _=>rfl)
 case outOf g to k v c h1 hp hg hg2 hs hv =>
  have ra:=(h.L.loc i hi).ra
  rcases hp with ⟨hp,rfl,rfl⟩ | ⟨hp,rfl,rfl⟩
  ·exact .inr ⟨g,5,v,zbt h hi ⟨rfl,rfl,rfl⟩ hg2 (by omega) rfl rfl rfl (by rw [if_pos rfl,hv];exact ra) (by rw [if_neg (by decide)];exact hs) rfl (fun _=>(sh29 sh hp).1) (by rw [if_neg (by decide),if_pos (by decide)];exact ⟨hg,rfl⟩)⟩
  ·have ha:=sh30 sh hp
   exact .inr ⟨g,6,v,zbt h hi ⟨rfl,rfl,rfl⟩ hg2 (by omega) rfl rfl rfl (by rw [if_neg (by decide),if_pos rfl];omega) (by rw [if_neg (by decide)];exact hs) rfl (fun _=>ha.1) (by rw [if_neg (by decide),if_pos (by decide)];exact ⟨hg,rfl⟩)⟩
 case free k c hn hs hk hl hk2' ht =>
  have hk3:=za1 p.P (p.fl i) { p.mach i with stage:=4,inn:=false }
  exact .inl (zan h hi ⟨rfl,rfl,rfl⟩ rfl rfl (fun g _=>hlow _ _ g (by omega)) hk3.2.1 fun _=>hk3.1)
 case sched t hpl q hq m' hm =>
  rcases hm with rfl | rfl
  ·exact .inl (zan h hi ⟨rfl,rfl,rfl⟩ rfl rfl (fun _ _=>rfl) rfl fun _=>rfl)
  ·exact .inl (zan h hi ⟨rfl,rfl,rfl⟩ rfl rfl (fun _ _=>rfl) rfl fun _=>rfl)
 case spinUp=>exact .inl (zan h hi ⟨rfl,rfl,rfl⟩ rfl rfl (fun g _=>hlow _ _ g (by unfold Wd.spinW;omega)) rfl fun _=>rfl)
 case spinBack=>exact .inl (zan h hi ⟨rfl,rfl,rfl⟩ rfl rfl (fun g _=>hlow _ _ g (by unfold Wd.spinW;omega)) rfl fun _=>rfl)
 case drop=>exact .inl (zan h hi ⟨rfl,rfl,rfl⟩ rfl rfl (fun g _=>hlow _ _ g (by unfold Wd.spinW;omega)) rfl fun _=>rfl)
 case unspin=>exact .inl (zan h hi ⟨rfl,rfl,rfl⟩ rfl rfl (fun g _=>hlow _ _ g (by unfold Wd.spinW;omega)) rfl fun _=>rfl)
 case dispatch g c hpl hg hg2 hs =>
  have s:=sh20 sh hpl
  exact .inr ⟨g,2,0,zbt h hi ⟨rfl,rfl,rfl⟩ hg2 (by omega) rfl rfl rfl rfl hs rfl (fun _=>s.2.1) (by rw [if_pos rfl];exact ⟨s.2.2.1,hg⟩)⟩
 case load=>exact .inl (zan h hi ⟨rfl,rfl,rfl⟩ rfl rfl (fun _ _=>rfl) rfl fun _=>rfl)
 case claim=>exact .inl (zan h hi ⟨rfl,rfl,rfl⟩ rfl rfl (fun g _=>hlow _ _ g (by unfold Wd.spinW;omega)) rfl fun _=>rfl)
 case claimNo=>exact .inl (zan h hi ⟨rfl,rfl,rfl⟩ rfl rfl (fun _ _=>rfl) rfl fun _=>rfl)
 case wake k c hpl hk hk2' hz=>exact .inl (zan h hi ⟨rfl,rfl,rfl⟩ rfl rfl (fun g _=>hlow _ _ g (by unfold Wd.noteW;omega)) rfl fun _=>rfl)
 case mark g c hpl hg hg2 hs =>
  exact .inr ⟨g,1,0,zbt h hi ⟨rfl,rfl,rfl⟩ hg2 (by omega) rfl rfl rfl rfl (by rw [if_pos rfl];exact .inr hs) rfl (fun hh=>absurd hh (by decide)) rfl⟩
 case asleep=>exact .inl (zbg ⟨rfl,rfl,rfl⟩ rfl rfl fun _ _=>rfl)
 case awake=>exact .inl (zan h hi ⟨rfl,rfl,rfl⟩ rfl rfl (fun g _=>hlow _ _ g (by unfold Wd.noteW;omega)) rfl fun _=>rfl)
 case awakeP c hpl hz hx=>exact .inl (zan h hi ⟨rfl,rfl,rfl⟩ rfl rfl (fun g _=>hlow _ _ g (by unfold Wd.noteW;omega)) rfl fun hx=>by have:=(sh16 sh hpl).2.2.1;omega)
 case idle=>exact .inl (zbg ⟨rfl,rfl,rfl⟩ rfl rfl fun _ _=>rfl)
 case refused=>exact .inl (zbg ⟨rfl,rfl,rfl⟩ rfl rfl fun _ _=>rfl)
 case yield g c hpl hg hg2 hs =>
  have s:=sh0 sh hpl
  exact .inr ⟨g,3,0,zbt h hi ⟨rfl,rfl,rfl⟩ hg2 (by omega) rfl rfl rfl rfl hs rfl (fun _=>s.2.1) ⟨hg,rfl⟩⟩
 case leave g to k c hpl hk hg hg2 hs =>
  have s:=sh0 sh hpl
  rcases hk with ⟨rfl,rfl⟩ | ⟨rfl,rfl⟩
  ·exact .inr ⟨g,4,0,zbt h hi ⟨rfl,rfl,rfl⟩ hg2 (by omega) rfl rfl rfl rfl hs rfl (fun _=>s.2.1) ⟨hg,rfl⟩⟩
  ·exact .inr ⟨g,7,0,zbt h hi ⟨rfl,rfl,rfl⟩ hg2 (by omega) rfl rfl rfl rfl hs rfl (fun _=>s.2.1) ⟨hg,rfl⟩⟩
 case rouse g fr k c hpl hk hg2 hs =>
  rcases hk with ⟨rfl,rfl⟩ | ⟨rfl,rfl⟩
  ·exact .inr ⟨g,0,0,zbt h hi ⟨rfl,rfl,rfl⟩ hg2 (by omega) rfl rfl rfl rfl hs rfl (fun hh=>absurd hh (by decide)) rfl⟩
  ·exact .inr ⟨g,1,0,zbt h hi ⟨rfl,rfl,rfl⟩ hg2 (by omega) rfl rfl rfl rfl (.inl hs) rfl (fun hh=>absurd hh (by decide)) rfl⟩
 case toPark=>exact .inl (zan h hi ⟨rfl,rfl,rfl⟩ rfl rfl (fun _ _=>rfl) rfl fun _=>rfl)
 case toAwait=>exact .inl (zan h hi ⟨rfl,rfl,rfl⟩ rfl rfl (fun _ _=>rfl) rfl fun _=>rfl)
theorem zct:NoEv p p:=zbg ⟨rfl,rfl,rfl⟩ rfl rfl fun _ _=>rfl
theorem noev_tell (h:Inv n p) (due:Bool):NoEv p (p.tell due):=by
 rcases tell_eq h due with e | ⟨k,hk,_,e⟩
 ·rw [e];exact zct
 ·rw [e]
  have hlw:=h.sh.lw
  have hr:=h.D.rpo
  exact zbg ⟨rfl,rfl,rfl⟩ rfl rfl fun g _=>zaD p (p.noteW k) 1 (by unfold Wd.noteW;omega) (by unfold Wd.noteW;omega) g
theorem NoEv.src {q:Wd} {s:Src} (h:NoEv { p with src:=s } q):NoEv p q:=⟨h.dim,h.log,h.st,h.g,h.p⟩
theorem step_ev (h:Inv n p) (s:Stp) (hd : -9223372036854775808≤s.d∧s.d≤9223372036854775807):NoEv p (p.step s).1∨∃ i g k v,AnEv p i (p.step s).1 g k v:=by
 unfold Wd.step
 split
 ·rcases pick_tr h s hd with e | ⟨i,hi,_,t⟩
  ·rw [e];exact .inl zct
  ·rcases tr_ev h hi t with e | ⟨g,k,v,e⟩
   ·exact .inl e
   ·exact .inr ⟨i,g,k,v,e⟩
 ·have h1:Inv (n+1) { p with src:=p.src.tick s.d }:=zcL h _ (S_tick h.S s.d rfl rfl) (fun _=>rfl)
  exact .inl (noev_tell h1 _).src
 ·split
  ·exact .inl zct
  ·rename_i ha
   have h1:Inv (n+1) { p with src:=(p.src.ready s.a.toNat).1 }:=zcL h _ (S_ready h.S s.a.toNat (by omega) rfl rfl) (fun x=>zcK h.S s.a.toNat x)
   exact .inl (noev_tell h1 _).src
 ·exact .inl zct
end
end Hst
namespace Go.Proofs.YtlmmjgekolpekaaGreatDoor
open Go Go.RowKit Hst Go.Proofs
def zeL (p:Wd) (i:Nat):Bool:=(p.mach i).place==16 && p.ld (p.noteW i)==0
def quietB (p:Wd):Bool:=(List.range p.M).all fun i=>(p.mach i).place==0 || zeL p i
theorem load_copy (b g c n a v:Nat) (cnt:Int) (w:World) (hn:n≤65536) (ha:a<n) (k0:w.cell? ⟨b,0,none⟩=some (.slice (some ⟨g,0,none⟩) n c)) (kc:n≤c) (k1:w.cell? ⟨b,1,none⟩=some (.int .i64 cnt)) (k2:w.cell? ⟨g,a,none⟩=some (.int .u64 (v:Nat))) (kf:∀ o,w.frozen? ⟨b,o,none⟩=false) (hbg:b≠g) :
  Calls Tryz.prog 81 #[.pointer (some ⟨b,0,none⟩),.int .i64 a] w fun e w'=>e=.returned (.int .u64 (v:Nat))∧Below b w w':=by
 have lb:=World.block_lt_of_cell? w _ k0
 simp only at lb
 have lg:=World.block_lt_of_cell? w _ k2
 simp only at lg
 go_enter Tryz.func81,Tryz.ntmps81
 go_wp2
 go_returns
 exact ⟨rfl,by go_grown⟩
section
variable {F:Fix} {V:Vol} {ow:Nat→Nat} {w:World} {p:Wd}
theorem config_on (h:WAt F V ow w p) :
  Calls Tryz.prog 25 #[.pointer (some ⟨F.W,0,none⟩)] w fun e w'=>e=.returned (.agg #[.int .i64 p.P,.int .i64 p.M,.int .i64 p.G])∧Below w.heap.size w w':=by
 have c0:=h.cW_F_P
 have c1:=h.cW_F_M
 have c2:=h.cW_F_G
 have lW:=World.block_lt_of_cell? w _ c0
 simp only at lW
 clear h
 go_enter Tryz.func25,Tryz.ntmps25
 go_wp2
 go_returns
 exact ⟨rfl,by go_grown⟩
theorem asleep_no (h:WAt F V ow w p) (i:Nat) (hi:i<p.M) (hp:¬ (p.mach i).place=16) :
  Calls Tryz.prog 27 #[.pointer (some ⟨F.W,0,none⟩),.int .i64 i] w fun e w'=>e=.returned (.bool false)∧Below w.heap.size w w':=by
 have c1:=h.cW_F_M
 have c13:=h.cW_all
 have c0:=h.cA_place hi
 have hM:=h.dim
 have hcap:=h.own_cap.2
 unfold dims at hM
 have hi0:(0:Int)≤i:=by omega
 have hi1:(i:Int)<p.M:=by omega
 have d0:decide ((0:Int)≤i)=true:=decide_eq_true hi0
 have d1:decide ((i:Int)<p.M)=true:=decide_eq_true hi1
 have hpi:¬ ((p.mach i).place:Int)=16:=by omega
 have d2:(((p.mach i).place:Int)==16)=false:=by simpa using hpi
 have lW:=h.cw.lt (by decide)
 clear h
 go_enter Tryz.func27,Tryz.ntmps27
 go_wp2
 go_quiet (fail)
 go_wp2
 go_returns
 exact ⟨rfl,⟨rfl,rfl,rfl,Nat.le_refl _,fun _ _=>rfl⟩⟩
theorem asleep_at (h:WAt F V ow w p) (i:Nat) (hi:i<p.M) (hp:(p.mach i).place=16) :
  Calls Tryz.prog 27 #[.pointer (some ⟨F.W,0,none⟩),.int .i64 i] w fun e w'=>e=.returned (.bool (p.ld (p.noteW i)==0))∧Below w.heap.size w w':=by
 have c1:=h.cW_F_M
 have c3:=h.cW_mem
 have c5:=h.cW_notes
 have c13:=h.cW_all
 have c0:=h.cA_place hi
 rw [hp] at c0
 have hM:=h.dim
 have hcap:=h.own_cap.2
 unfold dims at hM
 have hn:=h.nw
 have hi0:(0:Int)≤i:=by omega
 have hi1:(i:Int)<p.M:=by omega
 have d0:decide ((0:Int)≤i)=true:=decide_eq_true hi0
 have d1:decide ((i:Int)<p.M)=true:=decide_eq_true hi1
 have lW:=h.cw.lt (by decide)
 have lA:=h.call.lt (by omega)
 have hc:=fun w1 (h1:WAt F V ow w1 p)=>zcf h1
 have HC:=Lib.hid hc
 have H:=Lib.hid h
 have hsp:p.noteW i<nWords p.P p.M p.G:=by unfold Wd.noteW nWords;omega
 obtain ⟨nt,hnt⟩:∃ nt:Nat,nt=2*(p.P+2)+1:=⟨_,rfl⟩
 have e0:p.noteW i=nt+i:=by unfold Wd.noteW;omega
 rw [← hnt] at c5
 rw [e0] at hsp ⊢
 have wn:IntKind.i64.wrap ((nt:Int)+(i:Int))=((nt+i:Nat):Int):=by rw [IntWalk.i64_in _ (by omega)];omega
 obtain ⟨v,hv⟩:∃ v,v=p.ld (nt+i):=⟨_,rfl⟩
 rw [← hv]
 have HV:=Lib.hid hv
 have hvb:((v:Int)==0)=(v==0):=by
  by_cases hz:v=0
  ·subst hz;rfl
  ·have h1:¬ (v:Int)=0:=by omega
   rw [beq_eq_false_iff_ne.2 h1,beq_eq_false_iff_ne.2 hz]
 clear hc h hnt e0 hp hv
 go_enter Tryz.func27,Tryz.ntmps27
 go_wp2
 go_region_held3 (fun w'=>w'.cell? ⟨F.W,1,none⟩=some (.int .i64 p.M)∧w'.cell? ⟨F.W,3,none⟩=some (.pointer (some ⟨F.mem,0,none⟩))∧w'.cell? ⟨F.W,5,none⟩=some (.int .i64 nt)∧w'.cell? ⟨F.W,13,none⟩=some (.slice (some ⟨F.all,0,none⟩) p.M F.allCap)∧w'.cell? ⟨F.all,i*18,none⟩=some (.int .i64 (16:Nat)))
  (first | exact ⟨c1,c3,c5,c13,c0⟩ | exact ⟨c1',c3',c5',c13',c0'⟩ | exact ⟨(K.cell (p:=⟨F.W,1,none⟩) lW).trans c1,(K.cell (p:=⟨F.W,3,none⟩) lW).trans c3,(K.cell (p:=⟨F.W,5,none⟩) lW).trans c5,(K.cell (p:=⟨F.W,13,none⟩) lW).trans c13,(K.cell (p:=⟨F.all,i*18,none⟩) lA).trans c0⟩)
  (first | (go_at_call 80;refine (HC.out _ (On.start H.out).drew.at_).mono ?_;rintro e w1 ⟨b,gg,c,rfl,hb1,hb2,hb3,k0,kc,k1,ks,kf,hb⟩;have c1':=(hb.cell (p:=⟨F.W,1,none⟩) lW).trans c1;have c3':=(hb.cell (p:=⟨F.W,3,none⟩) lW).trans c3;have c5':=(hb.cell (p:=⟨F.W,5,none⟩) lW).trans c5;have c13':=(hb.cell (p:=⟨F.W,13,none⟩) lW).trans c13;have c0':=(hb.cell (p:=⟨F.all,i*18,none⟩) lA).trans c0) | (go_at_call 81;refine (load_copy b gg c _ (nt+i) v p.cnt _ hn hsp k0 kc k1 (by rw [HV.out];exact ks _ hsp) kf hb3).mono ?_;rintro e w2 ⟨rfl,hb4⟩;have K:=(((Below.refl _ w).drew).trans hb).trans (hb4.mono hb1)))
 go_wp2
 go_returns
 exact ⟨rfl,K⟩
end
section
variable {F:Fix} {V:Vol} {ow:Nat→Nat} {w:World} {p:Wd}
theorem asleep_on (h:WAt F V ow w p) (i:Nat) (hi:i<p.M) :
  Calls Tryz.prog 27 #[.pointer (some ⟨F.W,0,none⟩),.int .i64 i] w fun e w'=>e=.returned (.bool (zeL p i))∧Below w.heap.size w w':=by
 unfold zeL
 by_cases hp:(p.mach i).place=16
 ·rw [show ((p.mach i).place==16)=true by simpa using hp,Bool.true_and]
  exact asleep_at h i hi hp
 ·rw [show ((p.mach i).place==16)=false by simpa using hp,Bool.false_and]
  exact asleep_no h i hi hp
theorem zce {P:Program} {ops:Array Oper} {Q:Exit→Act→World→Prop} {rest:List Oper} {a:Act} {w:World} (R:World→Prop) (h:R w) (k:∀ w2,R w2→wpList P ops Q rest a w2):wpList P ops Q rest a w:=k w h
theorem zbb {w:World} {o:Array Value} {t:TypeId} (cs:Array Value):((w.alloc (.cells o t)).setRow w.heap.size cs).heap[w.heap.size]?=some (.cells cs t (0,0))∧Below w.heap.size w ((w.alloc (.cells o t)).setRow w.heap.size cs):=by
 refine ⟨setRow_heap _ _ _ _ _ _ (heap_alloc_new w _),⟨rfl,rfl,rfl,by simp,fun b hb=>?_⟩⟩
 rw [setRow_other _ _ _ _ (by omega)]
 exact Below.heap_alloc _ _ _ hb
def zeK (p:Wd) (j:Nat):Bool:=(List.range j).all fun i=>(p.mach i).place==0 || zeL p i
theorem quietTo_succ (p:Wd) (j:Nat):zeK p (j+1)=(zeK p j && ((p.mach j).place==0 || zeL p j)):=by
 unfold zeK;rw [List.range_succ,List.all_append];simp
theorem quietTo_not (p:Wd) (j n:Nat) (hj:j<n) (h:((p.mach j).place==0 || zeL p j)=false):zeK p n=false:=by
 unfold zeK
 rw [List.all_eq_false]
 exact ⟨j,List.mem_range.2 hj,by rw [h];decide⟩
theorem zbn:(Tryz.prog.info? 52).map (·.size)=some 18:=by kernel_rfl
theorem quiet_on (h:WAt F V ow w p) :
  Calls Tryz.prog 22 #[.pointer (some ⟨F.W,0,none⟩)] w fun e w'=>e=.returned (.bool (quietB p))∧Below w.heap.size w w':=by
 have c13:=h.cW_all
 have hM:=h.dim
 have hcap:=h.own_cap.2
 unfold dims at hM
 have H:=Lib.hid h
 have e0:quietB p=zeK p p.M:=rfl
 rw [e0]
 clear h e0
 go_enter Tryz.func22,Tryz.ntmps22
 go_wp2
 go_loopw [10] (fun i wr=>∃ j:Nat,i=.int .i64 (j:Int)∧j≤p.M∧zeK p j=true∧Below w.heap.size w wr) (fun i _=>p.M - (intOf i).toNat)
 case atStart=>exact ⟨0,rfl,by omega,rfl,Below.refl _ w⟩
 case round =>
  obtain ⟨j,rfl,hj,hq,K⟩:=hrel
  by_cases hp:j<p.M
  ·have hpi:(j:Int)<p.M:=by omega
   have hk:=((On.start H.out).below K).at_
   have a0:=hk.cA_place hp
   have a1:=hk.cA_p hp
   have a2:=hk.cA_g hp
   have a3:=hk.cA_next hp
   have a4:=hk.cA_got hp
   have a5:=hk.cA_target hp
   have a6:=hk.cA_i hp
   have a7:=hk.cA_spin hp
   have a8:=hk.cA_inn hp
   have a9:=hk.cA_rest hp
   have a10:=hk.cA_back hp
   have a11:=hk.cA_after hp
   have a12:=hk.cA_arg hp
   have a13:=hk.cA_lkN hp
   have a14:=hk.cA_lkS hp
   have a15:=hk.cA_stage hp
   have a16:=hk.cA_ticket hp
   have a17:=hk.cA_times hp
   obtain ⟨ra,rc,hra⟩:=zac (hk.crest j hp).1
   rw [hra] at a9
   have lA:=hk.call.lt (by omega)
   have hsl:=fun wb (hb:Below wr.heap.size wr wb)=>asleep_on ((On.start hk).below hb).at_ j hp
   have hst:=quietTo_succ p j
   rw [hq,Bool.true_and] at hst
   have hnt:=quietTo_not p j p.M hp
   by_cases hz:(p.mach j).place=0
   ·have hzb:((p.mach j).place==0)=true:=by simpa using hz
    rw [hzb,Bool.true_or] at hst
    have HS:=Lib.hid hst
    have HK:=Lib.hid K
    have hz2:((p.mach j).place:Int)=0:=by omega
    have HZ:=Lib.hid hz2
    clear hst hzb hz hsl hk hnt K hq hra hz2
    go_wp2_with (first | (refine wpList_store_row rfl 52 _ _ rfl _ _ rfl rfl 52 _ (heap_alloc_new wr _) zbn rfl (by simp [Value.oneCell']) ?_;refine zce (fun wb=>wb.heap[wr.heap.size]?=some (.cells (encM (p.mach j) (.slice ra (p.mach j).rest.length rc)).toArray 52 (0,0))∧Below wr.heap.size wr wb) (zbb _) ?_;rintro wb ⟨hx,hbw⟩;have x0:=zaa hx 0;have K1:=HK.out.trans (hbw.mono HK.out.size);change wb.cell? _=some (.int .i64 ((p.mach j).place:Nat)) at x0;have HK1:=Lib.hid K1;clear hx K1;have hz2:=HZ.out))
    go_wp2
    go_roundw
    case rel=>exact ⟨j+1,by go_num,hp,HS.out,HK1.out⟩
    case measure=>simp [intOf];omega
   ·have hzi:¬ ((p.mach j).place:Int)=0:=by omega
    have hzb:((p.mach j).place==0)=false:=by simpa using hz
    rw [hzb,Bool.false_or] at hst hnt
    cases hb:zeL p j with
    | true =>
     rw [hb] at hst hsl
     have HS:=Lib.hid hst
     have HSl:=Lib.hid hsl
     have HK:=Lib.hid K
     clear hst hzb hsl hk hnt K hq hz hra
     go_wp2_with (first | (refine wpList_store_row rfl 52 _ _ rfl _ _ rfl rfl 52 _ (heap_alloc_new wr _) zbn rfl (by simp [Value.oneCell']) ?_;refine zce (fun wb=>wb.heap[wr.heap.size]?=some (.cells (encM (p.mach j) (.slice ra (p.mach j).rest.length rc)).toArray 52 (0,0))∧Below wr.heap.size wr wb) (zbb _) ?_;rintro wb ⟨hx,hbw⟩;have x0:=zaa hx 0;have K1:=HK.out.trans (hbw.mono HK.out.size);change wb.cell? _=some (.int .i64 ((p.mach j).place:Nat)) at x0;have HK1:=Lib.hid K1;clear hx K1) | (go_at_call 27;refine (HSl.out wb hbw).mono ?_;rintro x w2 ⟨rfl,b2⟩;have K2:=Lib.hid (HK1.out.trans (b2.mono HK1.out.size));clear b2))
     go_wp2
     go_roundw
     case rel=>exact ⟨j+1,by go_num,hp,HS.out,K2.out⟩
     case measure=>simp [intOf];omega
    | false =>
     rw [hb] at hsl
     have HN:=Lib.hid (hnt hb)
     have HSl:=Lib.hid hsl
     have HK:=Lib.hid K
     clear hst hzb hsl hk hnt K hq hz hra
     go_wp2_with (first | (refine wpList_store_row rfl 52 _ _ rfl _ _ rfl rfl 52 _ (heap_alloc_new wr _) zbn rfl (by simp [Value.oneCell']) ?_;refine zce (fun wb=>wb.heap[wr.heap.size]?=some (.cells (encM (p.mach j) (.slice ra (p.mach j).rest.length rc)).toArray 52 (0,0))∧Below wr.heap.size wr wb) (zbb _) ?_;rintro wb ⟨hx,hbw⟩;have x0:=zaa hx 0;have K1:=HK.out.trans (hbw.mono HK.out.size);change wb.cell? _=some (.int .i64 ((p.mach j).place:Nat)) at x0;have HK1:=Lib.hid K1;clear hx K1) | (go_at_call 27;refine (HSl.out wb hbw).mono ?_;rintro x w2 ⟨rfl,b2⟩;have K2:=Lib.hid (HK1.out.trans (b2.mono HK1.out.size));clear b2))
     go_wp2
     go_returns
     exact ⟨by rw [HN.out];rfl,K2.out⟩
  ·obtain rfl:j=p.M:=by omega
   have hpi:¬ (p.M:Int)<p.M:=by omega
   have HQ:=Lib.hid hq
   clear hq
   go_wp2
   go_returns
   exact ⟨by rw [HQ.out];rfl,K⟩
end
theorem Env.low_of {N:Nat} {ow:Nat→Nat} {w W:World} (T:Tabs N W) (K:Below W.heap.size W w) (h0:∀ b,b<W.heap.size→ow b=0):Env N ow w :=
 ⟨T.below (fun b hb=>K.block b (Nat.lt_of_lt_of_le hb T.le)) (Nat.le_trans T.le K.size),fun b hb=>h0 b (Nat.lt_of_lt_of_le hb T.le)⟩
theorem new_inv (p m g:Nat):Inv 0 (Wd.new (sP p) (sM p m) (sG g)):=inv_new _ _ _ (s_dims p m g)
theorem new_log (P M G:Nat):(Wd.new P M G).log.length=1:=rfl
theorem run_log (p m g:Nat) (l:List Hst.Stp) (hl:l.length≤100000) (hin:inSt l):0<((Wd.new (sP p) (sM p m) (sG g)).run l).1.log.length∧((Wd.new (sP p) (sM p m) (sG g)).run l).1.log.length≤2*l.length+1:=by
 have hI:=new_inv p m g
 obtain ⟨t,e⟩:=log_run l 0 0 _ hI (by omega) fun s hs=>(hin s hs).2.2.2.2
 have h2:=(run_inv hI l (by omega) hin).log
 have h3:((Wd.new (sP p) (sM p m) (sG g)).run l).1.log=(Wd.new (sP p) (sM p m) (sG g)).log++t:=e
 rw [h3,List.length_append,new_log]
 rw [h3,List.length_append,new_log] at h2
 omega
theorem Two.frame {F G:Fix} {V V' U:Vol} {ow ow' up:Nat→Nat} {W w w':World} {p p' q:Wd} (h:Two F G V U ow up w p q) (h0:∀ b,b<W.heap.size→ow b=0∧up b=0) (K:Below W.heap.size W w) (k:On F V' ow w ow' w' p') :
  Two F G V' U ow' (grow up w.heap.size 0) w' p' q∧(∀ b,b<W.heap.size→ow' b=0∧grow up w.heap.size 0 b=0)∧Below W.heap.size W w':=by
 have hs:=K.size
 refine ⟨h.left k,fun b hb=>⟨?_,?_⟩,K.trans (k.st.below hs fun b hb=>(h0 b hb).1)⟩
 ·rw [k.st.own b (by omega)];exact (h0 b hb).1
 ·rw [grow_lt (by omega)];exact (h0 b hb).2
structure StpX (D:Nat→Prop) (ow ow':Nat→Nat) (w w':World):Prop where
 os:w'.os=w.os
 tape:w'.tape=w.tape
 output:w'.output=w.output
 size:w.heap.size≤w'.heap.size
 own:∀ b,b<w.heap.size→ow' b=ow b
 block:∀ b,b<w.heap.size→ow b=0→¬ D b→w'.heap[b]?=w.heap[b]?
structure OnX (D:Nat→Prop) (F:Fix) (V:Vol) (ow0:Nat→Nat) (w0:World) (ow:Nat→Nat) (w:World) (p:Wd):Prop where
 at_:WAt F V ow w p
 st:StpX D ow0 ow w0 w
section
variable {D:Nat→Prop} {F:Fix} {V V':Vol} {ow0 ow ow':Nat→Nat} {w0 w w':World} {p p':Wd}
theorem OnX.start (h:WAt F V ow w p):OnX D F V ow w ow w p:=⟨h,rfl,rfl,rfl,Nat.le_refl _,fun _ _=>rfl,fun _ _ _ _=>rfl⟩
theorem OnX.on (h:OnX D F V ow0 w0 ow w p) (k:On F V' ow w ow' w' p'):OnX D F V' ow0 w0 ow' w' p' :=
 ⟨k.at_,k.st.os.trans h.st.os,k.st.tape.trans h.st.tape,k.st.output.trans h.st.output,Nat.le_trans h.st.size k.st.size,fun b hb=>(k.st.own b (Nat.lt_of_lt_of_le hb h.st.size)).trans (h.st.own b hb),
  fun b hb e hd=>(k.st.block b (Nat.lt_of_lt_of_le hb h.st.size) ((h.st.own b hb).trans e)).trans (h.st.block b hb e hd)⟩
theorem OnX.then_ (h:OnX D F V ow0 w0 ow w p) (k:OnX D F V' ow w ow' w' p'):OnX D F V' ow0 w0 ow' w' p' :=
 ⟨k.at_,k.st.os.trans h.st.os,k.st.tape.trans h.st.tape,k.st.output.trans h.st.output,Nat.le_trans h.st.size k.st.size,fun b hb=>(k.st.own b (Nat.lt_of_lt_of_le hb h.st.size)).trans (h.st.own b hb),
  fun b hb e hd=>(k.st.block b (Nat.lt_of_lt_of_le hb h.st.size) ((h.st.own b hb).trans e) hd).trans (h.st.block b hb e hd)⟩
theorem OnX.set (h:OnX D F V ow0 w0 ow w p) {b o:Nat} (hd:D b∨w0.heap.size≤b) (ho:b<w.heap.size→ow b=0) (v:Value):OnX D F V ow0 w0 ow (w.setCell ⟨b,o,none⟩ v) p:=by
 have hb:∀ x,x<w.heap.size→ow x≠0→(w.setCell ⟨b,o,none⟩ v).heap[x]?=w.heap[x]?:=fun x hx hne=>Below.heap_setCell w ⟨b,o,none⟩ v x (fun e=>hne (by have h1:x=b:=e;rw [h1];exact ho (by omega)))
 refine ⟨h.at_.same ow (fun _ _=>rfl) ⟨by simp,hb⟩,⟨h.st.os,h.st.tape,h.st.output,by simpa using h.st.size,h.st.own,fun x hx he hn=>?_⟩⟩
 exact (Below.heap_setCell w ⟨b,o,none⟩ v x (fun e=>by
  rcases hd with hd | hd
  ·exact hn (by rw [e];exact hd)
  ·simp only at e;omega)).trans (h.st.block x hx he hn)
theorem OnX.drew (h:OnX D F V ow0 w0 ow w p):OnX D F V ow0 w0 ow w.drew p:=h.on (On.start h.at_).drew
theorem OnX.drewN (h:OnX D F V ow0 w0 ow w p) (n:Nat):OnX D F V ow0 w0 ow (w.drewN n) p:=⟨h.at_.same ow (fun _ _=>rfl) ⟨Nat.le_refl _,fun _ _ _=>rfl⟩,h.st.os,h.st.tape,h.st.output,h.st.size,h.st.own,h.st.block⟩
theorem OnX.below (h:OnX D F V ow0 w0 ow w p) (b:Below w.heap.size w w'):OnX D F V ow0 w0 (grow ow w.heap.size 0) w' p:=h.on ((On.start h.at_).below b)
end
structure Drv where
 kind:Nat
 every:Nat
 counts:List Int
 rounds:Int
structure DrvAt (F:Fix) (ow:Nat→Nat) (w:World) (d gc M:Nat) (x:Drv):Prop where
 ne:d≠gc
 od:ow d=0
 og:ow gc=0
 c0:w.cell? ⟨d,0,none⟩=some (.pointer (some ⟨F.W,0,none⟩))
 c1:w.cell? ⟨d,1,none⟩=some (.int .u8 (x.kind:Nat))
 c2:w.cell? ⟨d,2,none⟩=some (.int .i64 (x.every:Nat))
 c3:w.cell? ⟨d,3,none⟩=some (.int .i64 x.rounds)
 c4:w.cell? ⟨d,4,none⟩=some (.slice (some ⟨gc,0,none⟩) M M)
 cs:∀ i,i<M→w.cell? ⟨gc,i,none⟩=some (.int .i64 (x.counts.getD i 0))
 len:x.counts.length=M
 fd:∀ o,w.frozen? ⟨d,o,none⟩=false
 fg:∀ o,w.frozen? ⟨gc,o,none⟩=false
section
variable {F:Fix} {V V':Vol} {ow ow':Nat→Nat} {w w':World} {p p':Wd} {d gc M:Nat} {x:Drv}
theorem DrvAt.same (h:DrvAt F ow w d gc M x) (hM:0<M) (ho:∀ b,b<w.heap.size→ow' b=ow b) (hk:∀ b,b<w.heap.size→ow b=0→w'.heap[b]?=w.heap[b]?):DrvAt F ow' w' d gc M x:=by
 have ld:=World.block_lt_of_cell? w _ h.c0
 have lg:=World.block_lt_of_cell? w _ (h.cs 0 hM)
 simp only at ld lg
 have ed:=hk d ld h.od
 have eg:=hk gc lg h.og
 have kd:∀ o v,w.cell? ⟨d,o,none⟩=some v→w'.cell? ⟨d,o,none⟩=some v:=fun o v e=>(zam ed).trans e
 exact ⟨h.ne,(ho d ld).trans h.od,(ho gc lg).trans h.og,kd _ _ h.c0,kd _ _ h.c1,kd _ _ h.c2,kd _ _ h.c3,kd _ _ h.c4,fun i hi=>(zam eg).trans (h.cs i hi),h.len,fun o=>(zaM ed).trans (h.fd o),fun o=>(zaM eg).trans (h.fg o)⟩
theorem DrvAt.on (h:DrvAt F ow w d gc M x) (hM:0<M) (k:On F V' ow w ow' w' p'):DrvAt F ow' w' d gc M x:=h.same hM k.st.own k.st.block
theorem DrvAt.below (h:DrvAt F ow w d gc M x) (hM:0<M) (b:Below w.heap.size w w'):DrvAt F (grow ow w.heap.size 0) w' d gc M x:=h.same hM (fun _ hb=>grow_lt hb) fun y hy _=>b.block y hy
theorem DrvAt.count (h:DrvAt F ow w d gc M x) {i:Nat} (hi:i<M) (c:Int):DrvAt F ow (w.setCell ⟨gc,i,none⟩ (.int .i64 c)) d gc M { x with counts:=x.counts.set i c }:=by
 have hn:=h.ne
 have kd:∀ o v,w.cell? ⟨d,o,none⟩=some v→(w.setCell ⟨gc,i,none⟩ (.int .i64 c)).cell? ⟨d,o,none⟩=some v:=fun o v e=>(cell_far (Ne.symm hn) _).trans e
 refine ⟨h.ne,h.od,h.og,kd _ _ h.c0,kd _ _ h.c1,kd _ _ h.c2,kd _ _ h.c3,kd _ _ h.c4,fun j hj=>?_,by simpa using h.len,fun o=>?_,fun o=>?_⟩
 ·by_cases e:j=i
  ·subst e
   rw [World.cell?_setCell_same _ _ _ (h.cs j hj)]
   show _=some (Value.int .i64 ((x.counts.set j c).getD j 0))
   rw [zav _ _ _ _ (by rw [h.len];exact hj)]
  ·rw [World.cell?_setCell_other _ _ _ _ (by intro e2;injection e2 with _ e3 _;exact e e3.symm)]
   show _=some (Value.int .i64 ((x.counts.set i c).getD j 0))
   rw [Hst.getD_set_ne _ _ _ _ _ e]
   exact h.cs j hj
 ·simpa using h.fd o
 ·simpa using h.fg o
theorem DrvAt.over (h:DrvAt F ow w d gc M x) (r:Int):DrvAt F ow (w.setCell ⟨d,3,none⟩ (.int .i64 r)) d gc M { x with rounds:=r }:=by
 have hn:=h.ne
 have kd:∀ o v,o≠3→w.cell? ⟨d,o,none⟩=some v→(w.setCell ⟨d,3,none⟩ (.int .i64 r)).cell? ⟨d,o,none⟩=some v:=fun o v ho e=>(World.cell?_setCell_other _ _ _ _ (by intro e2;injection e2 with _ e3 _;exact ho e3.symm)).trans e
 exact ⟨h.ne,h.od,h.og,kd _ _ (by decide) h.c0,kd _ _ (by decide) h.c1,kd _ _ (by decide) h.c2,World.cell?_setCell_same _ _ _ h.c3,kd _ _ (by decide) h.c4,fun j hj=>(cell_far hn _).trans (h.cs j hj),h.len,fun o=>by simpa using h.fd o,fun o=>by simpa using h.fg o⟩
end
def actOf (p:Wd) (x:Drv) (i:Nat):Drv × Nat :=
 if (p.mach i).place=0 then
  ({ x with counts:=x.counts.set i (x.counts.getD i 0+1) },if (x.counts.getD i 0+1).tmod x.every=0∧(x.kind=1∨x.kind=2∨x.kind=3) then x.kind else 0)
 else (x,0)
theorem field_place (pl p g nx got tg i:Int) (sp inn:Bool) (a:Option Addr) (n c:Nat) (bk af ar kN kS st tk tm:Int) (w:World) :
  (Instr.field 52 (.agg #[.int .i64 pl,.int .i64 p,.int .i64 g,.int .i64 nx,.int .i64 got,.int .i64 tg,.int .i64 i,.bool sp,.bool inn,.slice a n c,.int .i64 bk,.int .i64 af,.int .i64 ar,.int .i64 kN,.int .i64 kS,.int .i64 st,.int .u64 tk,.int .i64 tm]) 0).run Tryz.prog w=.ok (.int .i64 pl) w:=by kernel_rfl
section
variable {F:Fix} {V:Vol} {ow:Nat→Nat} {w:World} {p:Wd} {d gc:Nat} {x:Drv}
theorem act_any {n:Nat} (h:WAt F V ow w p) (D:DrvAt F ow w d gc p.M x) (hI:Inv n p) (i:Nat) (hi:i<p.M) (hc:0≤x.counts.getD i 0∧x.counts.getD i 0≤1000000) (he:1≤x.every∧(x.every:Int)≤9223372036854775807) (hk:x.kind≤255) (r:Drv × Nat) (hr:r=actOf p x i) :
  Calls Tryz.prog 77 #[.pointer (some ⟨d,0,none⟩),.int .i64 i] w fun e w'=>e=.returned (.int .u8 (r.2:Nat))∧∃ ow',OnX (fun b=>b=d∨b=gc) F V ow w ow' w' p∧DrvAt F ow' w' d gc p.M r.1:=by
 have hM:=h.dim
 have hcap:=h.own_cap
 unfold dims at hM
 have c0:=D.c0
 have hm:=zdZ h i hi (by have:=rest_len hI hi;omega)
 have HM:=Lib.hid hm
 have H:=Lib.hid h
 have HD:=Lib.hid D
 have hM0:0<p.M:=by omega
 by_cases hz:(p.mach i).place=0
 ·have ea:actOf p x i=({ x with counts:=x.counts.set i (x.counts.getD i 0+1) },if (x.counts.getD i 0+1).tmod x.every=0∧(x.kind=1∨x.kind=2∨x.kind=3) then x.kind else 0):=by unfold actOf;rw [if_pos hz]
  have HR:=Lib.hid (hr.trans ea)
  clear hr
  have hzi:((p.mach i).place:Int)=0:=by omega
  have c4:=D.c4
  have ci:=D.cs i hi
  have hne:=D.ne
  have lg:=World.block_lt_of_cell? w _ ci
  have ld:=World.block_lt_of_cell? w _ c0
  simp only at lg ld
  obtain ⟨c,hcd⟩:∃ c,c=x.counts.getD i 0:=⟨_,rfl⟩
  rw [← hcd] at ci hc HR
  have HC:=Lib.hid hcd
  have w1c:IntKind.i64.wrap (c+1)=c+1:=IntWalk.i64_in _ (by omega)
  clear h hm D ea hI hcd
  go_enter Tryz.func77,Tryz.ntmps77
  go_wp2_with fail
  refine HM.out.mono ?_
  rintro e w1 ⟨v,rfl,hown,b1⟩
  obtain ⟨ra,rc,rfl⟩:=zac hown
  have hf0:=field_place
  have on1:=(OnX.start (D:=fun b=>b=d∨b=gc) H.out).below b1
  have D1:=HD.out.below hM0 b1
  have d4:=D1.c4
  have di:=D1.cs i hi
  rw [← HC.out] at di
  have fg:=D1.fg
  have on2:=on1.set (b:=gc) (o:=i) (.inl (.inr rfl)) (fun _=>D1.og) (.int .i64 (c+1))
  have D2:=D1.count hi (c+1)
  have ON2:=Lib.hid on2
  have HD2:=Lib.hid D2
  simp only [encM]
  clear on1 on2 D1 D2 hown b1
  go_wp2_with fail
  have h2:(x.counts.set i (c+1)).getD i 0=c+1:=zav _ _ _ _ (by rw [HD.out.len];exact hi)
  have k1:(w1.setCell ⟨gc,i,none⟩ (.int .i64 (c+1))).cell? ⟨d,1,none⟩=some (.int .u8 (x.kind:Nat)):=HD2.out.c1
  have k2:(w1.setCell ⟨gc,i,none⟩ (.int .i64 (c+1))).cell? ⟨d,2,none⟩=some (.int .i64 (x.every:Nat)):=HD2.out.c2
  have k4:=HD2.out.c4
  have ki:(w1.setCell ⟨gc,i,none⟩ (.int .i64 (c+1))).cell? ⟨gc,i,none⟩=some (.int .i64 (c+1)):=(HD2.out.cs i hi).trans (congrArg (fun z=>some (Value.int .i64 z)) h2)
  clear h2
  have hlt2:gc<(w1.setCell ⟨gc,i,none⟩ (.int .i64 (c+1))).heap.size:=World.block_lt_of_cell? _ _ ki
  have hi64:(i:Int)<p.M:=by omega
  clear hf0 c0 c4 ci di d4 fg HM H w1c hcap
  generalize w1.setCell ⟨gc,i,none⟩ (.int .i64 (c+1))=w2 at *
  have hz0:¬ (x.every:Int)=0:=by omega
  have hrm:((c+1).tmod (x.every:Int):Int)≤c+1∧0≤(c+1).tmod (x.every:Int):=by
   obtain ⟨cn,hcn⟩:∃ cn:Nat,c+1=(cn:Int):=⟨(c+1).toNat,by omega⟩
   rw [hcn]
   exact ⟨by exact Int.ofNat_le.2 (Nat.mod_le cn x.every),Int.natCast_nonneg (cn % x.every)⟩
  have wrm:IntKind.i64.wrap ((c+1).tmod (x.every:Int))=(c+1).tmod (x.every:Int):=IntWalk.i64_in _ (by omega)
  have hem:(c+1).tmod (x.every:Int)=(c+1) % (x.every:Int):=Int.tmod_eq_emod_of_nonneg (by omega)
  by_cases ht:(c+1) % (x.every:Int)=0
  ·have htb:((c+1) % (x.every:Int) != 0)=false:=by simpa using ht
   have HT:=Lib.hid (hem.trans ht)
   go_quiet (fail)
   by_cases h1:x.kind=1
   ·have g1:((x.kind:Int)==1)=true:=by simp [h1]
    have HK:=Lib.hid h1
    clear h1
    go_wp2
    go_returns
    refine ⟨congrArg (fun z:Nat=>Ending.returned (.int .u8 z)) (show _=r.2 by rw [HR.out];dsimp only;rw [if_pos ⟨HT.out,.inl HK.out⟩]),_,ON2.out.drewN nq,(show r.1=_ by rw [HR.out]) ▸ HD2.out.same hM0 (fun _ _=>rfl) (fun _ _ _=>rfl)⟩
   have g1:((x.kind:Int)==1)=false:=by
    have:¬ (x.kind:Int)=1:=by omega
    simpa using this
   by_cases h2:x.kind=2
   ·have g2:((x.kind:Int)==2)=true:=by simp [h2]
    have HK:=Lib.hid h2
    clear h2
    go_wp2
    go_returns
    refine ⟨congrArg (fun z:Nat=>Ending.returned (.int .u8 z)) (show _=r.2 by rw [HR.out];dsimp only;rw [if_pos ⟨HT.out,.inr (.inl HK.out)⟩]),_,ON2.out.drewN nq,(show r.1=_ by rw [HR.out]) ▸ HD2.out.same hM0 (fun _ _=>rfl) (fun _ _ _=>rfl)⟩
   have g2:((x.kind:Int)==2)=false:=by
    have:¬ (x.kind:Int)=2:=by omega
    simpa using this
   by_cases h3:x.kind=3
   ·have g3:((x.kind:Int)==3)=true:=by simp [h3]
    have HK:=Lib.hid h3
    clear h3
    go_wp2
    go_returns
    refine ⟨congrArg (fun z:Nat=>Ending.returned (.int .u8 z)) (show _=r.2 by rw [HR.out];dsimp only;rw [if_pos ⟨HT.out,.inr (.inr HK.out)⟩]),_,ON2.out.drewN nq,(show r.1=_ by rw [HR.out]) ▸ HD2.out.same hM0 (fun _ _=>rfl) (fun _ _ _=>rfl)⟩
   have g3:((x.kind:Int)==3)=false:=by
    have:¬ (x.kind:Int)=3:=by omega
    simpa using this
   have HN:=Lib.hid (And.intro h1 (And.intro h2 h3))
   clear h1 h2 h3
   go_wp2
   go_returns
   refine ⟨congrArg (fun z:Nat=>Ending.returned (.int .u8 z)) (show _=r.2 by rw [HR.out];dsimp only;rw [if_neg (fun hh=>by rcases hh.2 with e | e | e;exact HN.out.1 e;exact HN.out.2.1 e;exact HN.out.2.2 e)]),_,ON2.out.drewN nq,(show r.1=_ by rw [HR.out]) ▸ HD2.out.same hM0 (fun _ _=>rfl) (fun _ _ _=>rfl)⟩
  ·have htb:((c+1) % (x.every:Int) != 0)=true:=by simpa using ht
   have HT:=Lib.hid (fun e=>ht (hem.symm.trans e))
   clear ht hem
   go_quiet (fail)
   go_wp2
   go_returns
   refine ⟨congrArg (fun z:Nat=>Ending.returned (.int .u8 z)) (show _=r.2 by rw [HR.out];dsimp only;rw [if_neg (fun hh=>HT.out hh.1)]),_,ON2.out.drewN nq,(show r.1=_ by rw [HR.out]) ▸ HD2.out.same hM0 (fun _ _=>rfl) (fun _ _ _=>rfl)⟩
 ·have ea:actOf p x i=(x,0):=by unfold actOf;rw [if_neg hz]
  subst hr
  have HR:=Lib.hid ea
  have hzi:¬ ((p.mach i).place:Int)=0:=by omega
  clear h hm D ea hI
  go_enter Tryz.func77,Tryz.ntmps77
  go_wp2_with fail
  refine HM.out.mono ?_
  rintro e w1 ⟨v,rfl,hown,b1⟩
  obtain ⟨ra,rc,rfl⟩:=zac hown
  have hf0:=field_place
  have on1:=(OnX.start (D:=fun b=>b=d∨b=gc) H.out).below b1
  have D1:=HD.out.below hM0 b1
  have ON1:=Lib.hid on1
  have HD1:=Lib.hid D1
  simp only [encM]
  clear on1 D1 hown b1
  go_wp2_with fail
  go_returns
  rw [HR.out]
  exact ⟨rfl,_,ON1.out,HD1.out⟩
end
theorem field_conf (a b c:Int) (w:World):(Instr.field 42 (.agg #[.int .i64 a,.int .i64 b,.int .i64 c]) 1).run Tryz.prog w=.ok (.int .i64 b) w:=by kernel_rfl
theorem made_dr (n:Nat):madeCells #[.int .i64 0] n=Array.replicate n (.int .i64 0):=by
 apply Array.ext
 ·simp [madeCells]
 ·intro i h1 h2
  simp [madeCells,Nat.mod_one]
theorem makeDr (n:Nat) (hn:n≤1048576) (w:World):(Instr.makeSlice 45 (.int .i64 n) (.int .i64 n)).run Tryz.prog w=.ok (.slice (some ⟨w.heap.size,0,none⟩) n n) (w.alloc (.cells (Array.replicate n (.int .i64 0)) 3)):=by
 obtain ⟨i0,hi,hz0,hz1,hz2⟩:=info_parts Tryz.infoInt
 have h:=run_make (P:=Tryz.prog) w 45 3 i0 (.int .i64 0) Tryz.underlying45 hi hz0 .i64 .i64 n n (by omega) (Int.le_refl _) (by rw [hz2];omega) (by omega)
 simp only [Int.toNat_natCast,hz1,Nat.mul_one] at h
 rw [← made_dr]
 exact h
section
variable {F:Fix} {V:Vol} {ow:Nat→Nat} {w:World} {p:Wd} {d gc:Nat} {x:Drv}
theorem rounds_any (D:DrvAt F ow w d gc p.M x) (hM:0<p.M) :
  Calls Tryz.prog 21 #[.pointer (some ⟨d,0,none⟩)] w fun e w'=>e=.returned (.int .i64 x.rounds)∧Below w.heap.size w w':=by
 have c3:=D.c3
 have ld:=World.block_lt_of_cell? w _ c3
 simp only at ld
 clear D
 go_enter Tryz.func21,Tryz.ntmps21
 go_wp2
 go_returns
 exact ⟨rfl,by go_grown⟩
theorem over_deferred (r:Int) (hr : -9223372036854775808≤r+1∧r+1≤9223372036854775807) (u:FrameMode) (c3:w.cell? ⟨d,3,none⟩=some (.int .i64 r)) (f3:w.frozen? ⟨d,3,none⟩=false) :
  CallsD Tryz.prog 76 #[.pointer (some ⟨d,0,none⟩)] u w fun e u' w'=>u'=u∧(e=.returned (.tuple #[])∧w'=w.setCell ⟨d,3,none⟩ (.int .i64 (r+1))):=by
 have wr:IntKind.i64.wrap (r+1)=r+1:=IntWalk.i64_in _ (by omega)
 go_enter_d Tryz.func76,Tryz.ntmps76
 go_wp2
 go_returns
 exact ⟨rfl,rfl⟩
theorem dnew_any (h:WAt F V ow w p) (kd ev:Int) (hkd:0≤kd∧kd≤255) (hev : -9223372036854775808≤ev∧ev≤9223372036854775807) :
  Calls Tryz.prog 18 #[.pointer (some ⟨F.W,0,none⟩),.agg #[.int .u8 kd,.int .i64 ev]] w fun e w'=>∃ d gc ow',e=.returned (.pointer (some ⟨d,0,none⟩))∧w.heap.size≤d∧w.heap.size≤gc∧On F V ow w ow' w' p ∧
   DrvAt F ow' w' d gc p.M { kind:=kd.toNat,every:=(max 1 ev).toNat,counts:=List.replicate p.M 0,rounds:=0 }:=by
 have hM:=h.dim
 unfold dims at hM
 have hmk:=makeDr p.M (by omega)
 have hfd:=field_conf
 have h1:=(On.start h).alloc (.cells #[.int .u8 kd,.int .i64 (max 1 ev)] 30)
 have hcf:=config_on h1.drew.at_
 have u:=heap_alloc_new w (.cells #[.int .u8 kd,.int .i64 (max 1 ev)] 30)
 have u0:=zaa u 0
 have u1:=zaa u 1
 simp only [List.getElem?_toArray,List.getElem?_cons_zero,List.getElem?_cons_succ] at u0 u1
 have hlt:w.heap.size<(w.alloc (.cells #[.int .u8 kd,.int .i64 (max 1 ev)] 30)).heap.size:=by simp
 have HC:=Lib.hid hcf
 have H1:=Lib.hid h1
 obtain ⟨mx,hmx⟩:∃ mx,mx=max 1 ev:=⟨_,rfl⟩
 have hmb:1≤mx∧mx≤9223372036854775807:=by omega
 clear hcf h1 u h
 go_enter Tryz.func18,Tryz.ntmps18
 go_wp2
 rw [← hmx] at u0 u1 HC H1 hlt ⊢
 have HX:=Lib.hid hmx
 clear hmx
 generalize hW:w.alloc (.cells #[.int .u8 kd,.int .i64 mx] 30)=W at *
 go_region_held3 (fun w'=>w'.cell? ⟨w.heap.size,0,none⟩=some (.int .u8 kd)∧w'.cell? ⟨w.heap.size,1,none⟩=some (.int .i64 mx))
  (first | exact ⟨u0,u1⟩ | exact ⟨v0,v1⟩ | exact hS2 _ (zab w2 _) | exact hS2 _ ((zab w2 _).alloc (by simp) _))
  (first | (go_at_call 25;refine HC.out.mono ?_;rintro e w2 ⟨rfl,hb⟩;have v0:=(hb.cell (p:=⟨w.heap.size,0,none⟩) hlt).trans u0;have v1:=(hb.cell (p:=⟨w.heap.size,1,none⟩) hlt).trans u1;have hlt2:w.heap.size<w2.heap.size:=Nat.lt_of_lt_of_le hlt hb.size;have hS2:∀ W',Below w2.heap.size w2 W'→W'.cell? ⟨w.heap.size,0,none⟩=some (.int .u8 kd)∧W'.cell? ⟨w.heap.size,1,none⟩=some (.int .i64 mx):=fun W' K=>⟨(K.cell (p:=⟨w.heap.size,0,none⟩) hlt2).trans v0,(K.cell (p:=⟨w.heap.size,1,none⟩) hlt2).trans v1⟩))
 obtain ⟨X,hX⟩:∃ X,X=(w2.alloc (.cells (Array.replicate p.M (.int .i64 0)) 3)).alloc (.cells #[.pointer (some ⟨F.W,0,none⟩),.int .u8 kd,.int .i64 mx,.int .i64 0,.slice (some ⟨w2.heap.size,0,none⟩) p.M p.M] 112):=⟨_,rfl⟩
 have hXh:X.heap=(w2.heap.push (.cells (Array.replicate p.M (.int .i64 0)) 3)).push (.cells #[.pointer (some ⟨F.W,0,none⟩),.int .u8 kd,.int .i64 mx,.int .i64 0,.slice (some ⟨w2.heap.size,0,none⟩) p.M p.M] 112):=by rw [hX];rfl
 have e0:X.heap[w2.heap.size]?=some (.cells (Array.replicate p.M (.int .i64 0)) 3 (0,0)):=by rw [hXh];simp only [Array.getElem?_push,Array.size_push];rw [if_neg (by omega),if_pos trivial]
 have e1:X.heap[w2.heap.size+1]?=some (.cells #[.pointer (some ⟨F.W,0,none⟩),.int .u8 kd,.int .i64 mx,.int .i64 0,.slice (some ⟨w2.heap.size,0,none⟩) p.M p.M] 112 (0,0)):=by rw [hXh];simp only [Array.getElem?_push,Array.size_push];rw [if_pos trivial]
 obtain ⟨ow3,hon,hg1⟩:∃ ow3,On F V ow w ow3 X p∧∀ y,w2.heap.size≤y→ow3 y=0:=by
  have k:=(((H1.out.drew).below hb).alloc (.cells (Array.replicate p.M (.int .i64 0)) 3)).alloc (.cells #[.pointer (some ⟨F.W,0,none⟩),.int .u8 kd,.int .i64 mx,.int .i64 0,.slice (some ⟨w2.heap.size,0,none⟩) p.M p.M] 112)
  rw [← hX] at k
  refine ⟨_,k,fun y hy=>?_⟩
  unfold grow;split
  ·split
   ·omega
   ·rfl
  ·rfl
 have hsz:w.heap.size<w2.heap.size:=hlt2
 go_wp2
 go_returns
 rw [← hX]
 refine ⟨w2.heap.size+1,w2.heap.size,_,rfl,by omega,by omega,hon,?_⟩
 have hmn:((mx.toNat:Nat):Int)=mx:=by omega
 have hkn:((kd.toNat:Nat):Int)=kd:=by omega
 refine ⟨by omega,hg1 _ (by omega),hg1 _ (by omega),zaa e1 0,?_,?_,zaa e1 3,zaa e1 4,fun i hi=>?_,by simp,fun o=>by simp [World.frozen?,e1],fun o=>by simp [World.frozen?,e0]⟩
 ·dsimp only;rw [hkn];exact zaa e1 1
 ·dsimp only;rw [← HX.out,hmn];exact zaa e1 2
 ·rw [zaa e0 i]
  simp [hi,List.getD_eq_getElem?_getD]
end
theorem step_dim {n:Nat} {p:Wd} (h:Inv n p) (s:Hst.Stp) (hd : -9223372036854775808≤s.d∧s.d≤9223372036854775807):(p.step s).1.P=p.P∧(p.step s).1.M=p.M∧(p.step s).1.G=p.G:=by
 rcases step_ev h s hd with e | ⟨i,g,k,v,e⟩
 ·exact e.dim
 ·exact e.dim
def actS (a i:Nat):Hst.Stp:={ kind:=0,act:=a,a:=(i:Int),x:=0,d:=0 }
def roundTo (p:Wd) (x:Drv):Nat→Wd × Drv
 | 0=>(p,x)
 | j+1=>(((roundTo p x j).1.step (actS (actOf (roundTo p x j).1 (roundTo p x j).2 j).2 j)).1,(actOf (roundTo p x j).1 (roundTo p x j).2 j).1)
def roundP (p:Wd) (x:Drv):Wd × Drv:=((roundTo p x p.M).1,{ (roundTo p x p.M).2 with rounds:=(roundTo p x p.M).2.rounds+1 })
theorem actOf_keep (p:Wd) (x:Drv) (i:Nat):(actOf p x i).1.kind=x.kind∧(actOf p x i).1.every=x.every∧(actOf p x i).1.rounds=x.rounds∧(∀ j,j≠i→(actOf p x i).1.counts.getD j 0=x.counts.getD j 0)∧(0≤x.counts.getD i 0→0≤(actOf p x i).1.counts.getD i 0∧(actOf p x i).1.counts.getD i 0≤x.counts.getD i 0+1):=by
 unfold actOf
 split
 ·refine ⟨rfl,rfl,rfl,fun j hj=>Hst.getD_set_ne _ _ _ _ _ hj,fun h0=>?_⟩
  by_cases hi:i<x.counts.length
  ·dsimp only;rw [zav _ _ _ _ hi];omega
  ·dsimp only;rw [List.set_eq_of_length_le (by omega)];omega
 ·exact ⟨rfl,rfl,rfl,fun _ _=>rfl,fun h0=>by dsimp only;omega⟩
theorem roundTo_keep (p:Wd) (x:Drv) (c:Int) (h0:∀ i,0≤x.counts.getD i 0∧x.counts.getD i 0≤c):∀ j,(roundTo p x j).2.kind=x.kind∧(roundTo p x j).2.every=x.every∧(roundTo p x j).2.rounds=x.rounds∧(∀ i,j≤i→(roundTo p x j).2.counts.getD i 0=x.counts.getD i 0)∧∀ i,0≤(roundTo p x j).2.counts.getD i 0∧(roundTo p x j).2.counts.getD i 0≤c+1
 | 0=>⟨rfl,rfl,rfl,fun _ _=>rfl,fun i=>by have:=h0 i;show 0≤x.counts.getD i 0∧x.counts.getD i 0≤c+1;omega⟩
 | j+1=>by
  obtain ⟨k1,k2,k3,k4,k5⟩:=roundTo_keep p x c h0 j
  obtain ⟨a1,a2,a3,a4,a5⟩:=actOf_keep (roundTo p x j).1 (roundTo p x j).2 j
  refine ⟨a1.trans k1,a2.trans k2,a3.trans k3,fun i hi=>(a4 i (by omega)).trans (k4 i (by omega)),fun i=>?_⟩
  by_cases e:i=j
  ·subst e
   have h1:=a5 (k5 i).1
   have h2:=k4 i (Nat.le_refl _)
   have h3:=h0 i
   show 0≤(actOf (roundTo p x i).1 (roundTo p x i).2 i).1.counts.getD i 0∧(actOf (roundTo p x i).1 (roundTo p x i).2 i).1.counts.getD i 0≤c+1
   omega
  ·have h1:=a4 i e
   have h2:=k5 i
   show 0≤(actOf (roundTo p x j).1 (roundTo p x j).2 j).1.counts.getD i 0∧(actOf (roundTo p x j).1 (roundTo p x j).2 j).1.counts.getD i 0≤c+1
   omega
theorem roundTo_inv {n:Nat} {p:Wd} (x:Drv) (h:Inv n p):∀ j,n+2*j<2^61→Inv (n+2*j) (roundTo p x j).1∧(roundTo p x j).1.P=p.P∧(roundTo p x j).1.M=p.M∧(roundTo p x j).1.G=p.G
 | 0,_=>⟨h,rfl,rfl,rfl⟩
 | j+1,hn=>by
  obtain ⟨h1,d1,d2,d3⟩:=roundTo_inv x h j (by omega)
  have hd : -9223372036854775808≤(actS (actOf (roundTo p x j).1 (roundTo p x j).2 j).2 j).d∧(actS (actOf (roundTo p x j).1 (roundTo p x j).2 j).2 j).d≤9223372036854775807:=⟨by show _≤(0:Int);omega,by show (0:Int)≤_;omega⟩
  obtain ⟨e1,e2,e3⟩:=step_dim h1 (actS (actOf (roundTo p x j).1 (roundTo p x j).2 j).2 j) hd
  exact ⟨zcm h1 (by omega) _ hd,e1.trans d1,e2.trans d2,e3.trans d3⟩
theorem Env.onX {N:Nat} {D:Nat→Prop} {F:Fix} {V:Vol} {ow ow':Nat→Nat} {w w':World} {p:Wd} (E:Env N ow w) (k:OnX D F V ow w ow' w' p) (hD:∀ b,D b→N≤b):Env N ow' w':=by
 obtain ⟨T,h0⟩:=E
 exact ⟨T.below (fun b hb=>k.st.block b (Nat.lt_of_lt_of_le hb T.le) (h0 b hb) (fun hd=>by have:=hD b hd;omega)) (Nat.le_trans T.le k.st.size),fun b hb=>by rw [k.st.own b (Nat.lt_of_lt_of_le hb T.le)];exact h0 b hb⟩
section
variable {F:Fix} {V:Vol} {ow:Nat→Nat} {w:World} {p:Wd} {d gc:Nat} {x:Drv}
theorem round_any (N n:Nat) (hI:Inv n p) (hn:n+2*p.M<2^31) (h:WAt F V ow w p) (D:DrvAt F ow w d gc p.M x) (E:Env N ow w) (hNd:N≤d) (hNg:N≤gc) (hcb:∀ i,0≤x.counts.getD i 0∧x.counts.getD i 0≤999999) (he:1≤x.every∧(x.every:Int)≤9223372036854775807) (hk:x.kind≤255) (hr:0≤x.rounds∧x.rounds≤4294967296) :
  Calls Tryz.prog 24 #[.pointer (some ⟨d,0,none⟩)] w fun e w'=>e=.returned (.tuple #[])∧∃ V' ow',OnX (fun b=>b=d∨b=gc) F V' ow w ow' w' (roundP p x).1∧DrvAt F ow' w' d gc p.M (roundP p x).2:=by
 have hM:=h.dim
 unfold dims at hM
 have c4:=D.c4
 have ld:=World.block_lt_of_cell? w _ D.c0
 simp only at ld
 have H:=Lib.hid h
 have HD:=Lib.hid D
 have HE:=Lib.hid E
 have HI:=Lib.hid hI
 have HCB:=Lib.hid hcb
 clear h D E hI hcb
 go_enter_defers Tryz.func24,Tryz.ntmps24
 go_wp2
 go_loopw [9] (fun i wr=>∃ (j:Nat) (V':Vol) (ow':Nat→Nat),i=.int .i64 (j:Int)∧j≤p.M∧OnX (fun b=>b=d∨b=gc) F V' ow w ow' wr (roundTo p x j).1∧DrvAt F ow' wr d gc p.M (roundTo p x j).2) (fun i _=>p.M - (intOf i).toNat)
 case atStart=>exact ⟨0,V,ow,rfl,by omega,OnX.start H.out,HD.out⟩
 case round =>
  obtain ⟨j,V1,ow1,rfl,hj,hon,hdr⟩:=hrel
  by_cases hpj:j<p.M
  ·have hpi:(j:Int)<p.M:=by omega
   obtain ⟨hIj,dP,dM,dG⟩:=roundTo_inv x HI.out j (by omega)
   obtain ⟨k1,k2,k3,k4,k5⟩:=roundTo_keep p x 999999 HCB.out j
   have hnext:roundTo p x (j+1)=(((roundTo p x j).1.step (actS (actOf (roundTo p x j).1 (roundTo p x j).2 j).2 j)).1,(actOf (roundTo p x j).1 (roundTo p x j).2 j).1):=rfl
   have hE1:=HE.out.onX hon (fun b hb=>by rcases hb with e | e <;> omega)
   have hkind:(actOf (roundTo p x j).1 (roundTo p x j).2 j).2≤255:=by
    unfold actOf;split
    ·dsimp only;split
     ·rw [k1];exact hk
     ·omega
    ·show 0≤255;omega
   have hst:=step_ok N hIj (by omega) (actS (actOf (roundTo p x j).1 (roundTo p x j).2 j).2 j) ⟨by show _≤(0:Int);omega,by show (0:Int)≤_;omega⟩
   rw [← dM] at hdr
   have hac:=act_any hon.drew.at_ (hdr.same (by omega) (fun _ _=>rfl) (fun _ _ _=>rfl)) hIj j (by omega) ⟨(k5 j).1,by have:=(k5 j).2;omega⟩ (by rw [k2];exact he) (by rw [k1];exact hk) _ rfl
   rw [dM] at hac hdr
   have HNx:=Lib.hid hnext
   clear hnext
   generalize actOf (roundTo p x j).1 (roundTo p x j).2 j=ra at *
   generalize roundTo p x j=q at *
   obtain ⟨q,y⟩:=q
   obtain ⟨ya,a⟩:=ra
   dsimp only at *
   unfold StepDone stV zeD actS at hst
   dsimp only at hst
   have hc0:=hdr.c0
   have HAc:=Lib.hid hac
   have HSt:=Lib.hid hst
   have HOn:=Lib.hid hon
   clear hac hst hon hIj k1 k2 k3 k4 k5 hE1 hdr
   have hM0:0<p.M:=by omega
   go_wp2
   go_region_held3 (fun w'=>w'.cell? ⟨d,0,none⟩=some (.pointer (some ⟨F.W,0,none⟩)))
    (first | exact hc0 | exact hc2 | exact hc3)
    (first | (go_at_call 77;refine HAc.out.mono ?_;rintro e w2 ⟨rfl,ow2,on2,dr2⟩;have hc2:=dr2.c0;have on12:=HOn.out.drew.then_ on2;have hE2:=HE.out.onX on12 (fun b hb=>by rcases hb with e | e <;> omega)) | (go_at_call 59;refine (HSt.out F V1 ow2 w2 on2.at_ hE2).mono ?_;rintro e w3 ⟨rfl,V3,ow3,on3⟩;have dr3:=dr2.on hM0 on3;have hc3:=dr3.c0))
   have on13:=on12.on on3
   have HF:=Lib.hid (And.intro on13 dr3)
   clear HAc HSt HOn on2 dr2 on12 hE2 on3 dr3 on13 hc0 hc2 hc3
   go_wp2
   go_roundw
   case rel=>exact ⟨j+1,V3,ow3,by go_num,hpj,by rw [HNx.out];exact HF.out.1,by rw [HNx.out];exact HF.out.2⟩
   case measure=>simp [intOf];omega
  ·obtain rfl:j=p.M:=by omega
   have hpi:¬ (p.M:Int)<p.M:=by omega
   obtain ⟨k1,k2,k3,k4,k5⟩:=roundTo_keep p x 999999 HCB.out p.M
   have c3:=hdr.c3
   have f3:=hdr.fd 3
   rw [k3] at c3
   have hrp:roundP p x=((roundTo p x p.M).1,{ (roundTo p x p.M).2 with rounds:=x.rounds+1 }):=by unfold roundP;rw [k3]
   have HOn:=Lib.hid hon
   have HDr:=Lib.hid hdr
   have HRp:=Lib.hid hrp
   clear hon hdr k1 k2 k3 k4 k5 hrp
   go_wp2
   show bodyPostD Tryz.prog _ _ _ _ _
   refine leaves_cons (f:=76) (args:=#[.pointer (some ⟨d,0,none⟩)]) (by simp) (by simp [go_sem]) ?_
   refine (over_deferred x.rounds (by omega) .returning c3 f3).mono ?_
   rintro e u' w' ⟨rfl,rfl,rfl⟩
   refine ⟨_,results_none rfl _ _ _,rfl,V1,ow1,?_,?_⟩
   ·rw [HRp.out]
    exact HOn.out.set (.inl (.inl rfl)) (fun _=>HDr.out.od) _
   ·rw [HRp.out]
    exact HDr.out.over _
end
def rP (p:Wd) (x:Drv):Nat→Wd × Drv
 | 0=>(p,x)
 | j+1=>roundP (rP p x j).1 (rP p x j).2
theorem rP_keep {n:Nat} {p:Wd} (x:Drv) (c:Int) (h:Inv n p) (h0:∀ i,0≤x.counts.getD i 0∧x.counts.getD i 0≤c):∀ j,n+2*p.M*j<2^61 →
  Inv (n+2*p.M*j) (rP p x j).1∧(rP p x j).1.M=p.M∧(rP p x j).2.kind=x.kind∧(rP p x j).2.every=x.every∧(rP p x j).2.rounds=x.rounds+j∧∀ i,0≤(rP p x j).2.counts.getD i 0∧(rP p x j).2.counts.getD i 0≤c+j
 | 0,_=>⟨h,rfl,rfl,rfl,by show x.rounds=x.rounds+((0:Nat):Int);omega,fun i=>by have:=h0 i;show 0≤x.counts.getD i 0∧x.counts.getD i 0≤c+((0:Nat):Int);omega⟩
 | j+1,hn=>by
  have hm:2*p.M*(j+1)=2*p.M*j+2*p.M:=by rw [Nat.mul_add,Nat.mul_one]
  obtain ⟨k1,k2,k3,k4,k5,k6⟩:=rP_keep x c h h0 j (by omega)
  obtain ⟨r1,r2,r3,r4⟩:=roundTo_inv (rP p x j).2 k1 (rP p x j).1.M (by rw [k2];omega)
  obtain ⟨s1,s2,s3,s4,s5⟩:=roundTo_keep (rP p x j).1 (rP p x j).2 (c+j) k6 (rP p x j).1.M
  refine ⟨?_,r3.trans k2,s1.trans k3,s2.trans k4,?_,fun i=>?_⟩
  ·show Inv _ (roundTo (rP p x j).1 (rP p x j).2 (rP p x j).1.M).1
   rw [hm]
   rw [k2] at r1 ⊢
   have e:n+(2*p.M*j+2*p.M)=n+2*p.M*j+2*p.M:=by omega
   rw [e];exact r1
  ·show (roundTo (rP p x j).1 (rP p x j).2 (rP p x j).1.M).2.rounds+1=_
   rw [s3,k5];omega
  ·have:=s5 i
   show 0≤(roundTo (rP p x j).1 (rP p x j).2 (rP p x j).1.M).2.counts.getD i 0∧(roundTo (rP p x j).1 (rP p x j).2 (rP p x j).1.M).2.counts.getD i 0≤c+((j+1:Nat):Int)
   omega
theorem DrvAt.sameB {F:Fix} {ow ow':Nat→Nat} {w w':World} {d gc M:Nat} {x:Drv} (h:DrvAt F ow w d gc M x) (od:ow' d=ow d) (og:ow' gc=ow gc) (ed:w'.heap[d]?=w.heap[d]?) (eg:w'.heap[gc]?=w.heap[gc]?):DrvAt F ow' w' d gc M x:=by
 have kd:∀ o v,w.cell? ⟨d,o,none⟩=some v→w'.cell? ⟨d,o,none⟩=some v:=fun o v e=>(zam ed).trans e
 exact ⟨h.ne,od.trans h.od,og.trans h.og,kd _ _ h.c0,kd _ _ h.c1,kd _ _ h.c2,kd _ _ h.c3,kd _ _ h.c4,fun i hi=>(zam eg).trans (h.cs i hi),h.len,fun o=>(zaM ed).trans (h.fd o),fun o=>(zaM eg).trans (h.fg o)⟩
theorem OnX.wide {D D':Nat→Prop} {F:Fix} {V:Vol} {ow0 ow:Nat→Nat} {w0 w:World} {p:Wd} (h:OnX D F V ow0 w0 ow w p) (hd:∀ b,D b→D' b):OnX D' F V ow0 w0 ow w p :=
 ⟨h.at_,h.st.os,h.st.tape,h.st.output,h.st.size,h.st.own,fun b hb e hn=>h.st.block b hb e fun x=>hn (hd b x)⟩
theorem OnX.mod {D C:Nat→Prop} {F:Fix} {V:Vol} {ow0 ow:Nat→Nat} {w0 w w':World} {p:Wd} (h:OnX D F V ow0 w0 ow w p) (m:Mod C w w') (hC:∀ b,C b→D b∧ow b=0):OnX D F V ow0 w0 (grow ow w.heap.size 0) w' p :=
 ⟨h.at_.same _ (fun _ hb=>grow_lt hb) ⟨m.size,fun b hb hx=>m.block b hb (fun s=>hx (hC b s).2)⟩,m.os.trans h.st.os,m.tape.trans h.st.tape,m.output.trans h.st.output,Nat.le_trans h.st.size m.size,
  fun b hb=>(grow_lt (Nat.lt_of_lt_of_le hb h.st.size)).trans (h.st.own b hb),fun b hb e hn=>(m.block b (Nat.lt_of_lt_of_le hb h.st.size) (fun s=>hn (hC b s).1)).trans (h.st.block b hb e hn)⟩
section
variable {F:Fix} {V:Vol} {ow:Nat→Nat} {w:World} {p:Wd} {d gc:Nat} {x:Drv}
theorem so_quiet (bi bd:Nat) (b:Bool) (hi:w.cell? ⟨bi,0,none⟩=some (.func (.func 22) #[] #[])) (hd:w.cell? ⟨bd,0,none⟩=some (.pointer (some ⟨d,0,none⟩))) (h0:w.cell? ⟨d,0,none⟩=some (.pointer (some ⟨F.W,0,none⟩)))
  (hq:Calls Tryz.prog 22 #[.pointer (some ⟨F.W,0,none⟩)] w.drew fun e w'=>e=.returned (.bool b)∧Below w.drew.heap.size w.drew w') :
  Calls Tryz.prog 74 #[.pointer (some ⟨bi,0,none⟩),.pointer (some ⟨bd,0,none⟩)] w fun e w'=>e=.returned (.bool b)∧Below w.heap.size w w':=by
 have hrun:∀ w,Sem.run Tryz.prog (binOp BinOp.neq 32 (Value.func (.func 22) #[] #[]) Value.nilFunc) w=.ok (.bool true) w:=fun w=>by kernel_rfl
 have HQ:=Lib.hid hq
 have l1:=World.block_lt_of_cell? w _ hi
 have l2:=World.block_lt_of_cell? w _ hd
 have l3:=World.block_lt_of_cell? w _ h0
 clear hq
 go_enter Tryz.func74,Tryz.ntmps74
 go_wp2
 go_region_held3 (fun w'=>w'.cell? ⟨bi,0,none⟩=some (.func (.func 22) #[] #[])∧w'.cell? ⟨bd,0,none⟩=some (.pointer (some ⟨d,0,none⟩))∧w'.cell? ⟨d,0,none⟩=some (.pointer (some ⟨F.W,0,none⟩)))
  (first | exact ⟨hi,hd,h0⟩ | exact ⟨(hb.cell (p:=⟨bi,0,none⟩) l1).trans hi,(hb.cell (p:=⟨bd,0,none⟩) l2).trans hd,(hb.cell (p:=⟨d,0,none⟩) l3).trans h0⟩)
  (first | (go_at_call 22;refine HQ.out.mono ?_;rintro e w2 ⟨rfl,hb⟩))
 go_wp2
 go_returns
 exact ⟨rfl,⟨hb.os,hb.tape,hb.output,hb.size,hb.block⟩⟩
theorem untilBoxes (w:World) (d:Option Addr) (fv:Value):(((w.alloc (.cells #[.pointer d] 27)).alloc (.cells #[fv] 32)).cell? ⟨w.heap.size+1,0,none⟩=some fv)∧(((w.alloc (.cells #[.pointer d] 27)).alloc (.cells #[fv] 32)).cell? ⟨w.heap.size,0,none⟩=some (.pointer d))∧Below w.heap.size w ((w.alloc (.cells #[.pointer d] 27)).alloc (.cells #[fv] 32)):=by
 obtain ⟨X,hX⟩:∃ X,X=(w.alloc (.cells #[.pointer d] 27)).alloc (.cells #[fv] 32):=⟨_,rfl⟩
 have hXh:X.heap=(w.heap.push (.cells #[.pointer d] 27)).push (.cells #[fv] 32):=by rw [hX];rfl
 have e0:X.heap[w.heap.size]?=some (.cells #[.pointer d] 27 (0,0)):=by rw [hXh];simp only [Array.getElem?_push,Array.size_push];rw [if_neg (by omega),if_pos trivial]
 have e1:X.heap[w.heap.size+1]?=some (.cells #[fv] 32 (0,0)):=by rw [hXh];simp only [Array.getElem?_push,Array.size_push];rw [if_pos trivial]
 rw [← hX]
 exact ⟨zaa e1 0,zaa e0 0,by rw [hX];exact (zab w _).alloc (by simp) _⟩
theorem until_any (N n K:Nat) (c:Int) (most:Int) (hmost : -9223372036854775808≤most∧most≤9223372036854775807) (fv:Value) (hfv:fv=.nilFunc∨∃ f cp,fv=.func (.func f) #[] cp) (bK:Bool) (C:Nat→Prop) (I:Nat→World→Prop) (hI:Inv n p) (hn:n+2*p.M*K<2^30) (h:WAt F V ow w p) (D:DrvAt F ow w d gc p.M x) (E:Env N ow w) (hNd:N≤d) (hNg:N≤gc)
  (hcb:∀ i,0≤x.counts.getD i 0∧x.counts.getD i 0≤c) (hcK:0≤c∧c+K≤999999) (he:1≤x.every∧(x.every:Int)≤9223372036854775807) (hk:x.kind≤255) (hr:0≤x.rounds∧x.rounds+K≤4294967296)
  (hK:(K:Int)≤max 0 most) (hb:(K:Int)<max 0 most→bK=true) (hC:∀ b,C b→b<w.heap.size∧ow b=0∧N≤b∧b≠d∧b≠gc) (hI0:I 0 w) (hIs:∀ j W W',I j W→(∀ b,C b→W'.heap[b]?=W.heap[b]?)→I j W')
  (hso:∀ (j:Nat) (W:World) (V':Vol) (ow':Nat→Nat),j≤K→WAt F V' ow' W (rP p x j).1→I j W→W.cell? ⟨w.heap.size+1,0,none⟩=some fv→W.cell? ⟨w.heap.size,0,none⟩=some (.pointer (some ⟨d,0,none⟩))→W.cell? ⟨d,0,none⟩=some (.pointer (some ⟨F.W,0,none⟩)) →
   Calls Tryz.prog 74 #[.pointer (some ⟨w.heap.size+1,0,none⟩),.pointer (some ⟨w.heap.size,0,none⟩)] W fun e W'=>e=.returned (.bool (if j=K then bK else false))∧Mod C W W'∧I (j+1) W') :
  Calls Tryz.prog 19 #[.pointer (some ⟨d,0,none⟩),.int .i64 most,fv] w fun e w'=>e=.returned (.bool bK)∧∃ V' ow',OnX (fun b=>b=d∨b=gc∨C b) F V' ow w ow' w' (rP p x K).1∧DrvAt F ow' w' d gc p.M (rP p x K).2∧I (K+1) w':=by
 have hmf:∀ (fn:Fn) (first cap:Array Value) (w:World),(Instr.makeFunc fn first cap).run Tryz.prog w=.ok (.func fn first cap) w:=fun _ _ _ _=>rfl
 have hM:=h.dim
 unfold dims at hM
 have hM0:0<p.M:=by omega
 have ld:=World.block_lt_of_cell? w _ D.c0
 have lg:=World.block_lt_of_cell? w _ (D.cs 0 hM0)
 simp only at ld lg
 have H:=Lib.hid h
 have HD:=Lib.hid D
 have HE:=Lib.hid E
 have HI:=Lib.hid hI
 have HCB:=Lib.hid hcb
 have HCC:=Lib.hid hC
 have HIs:=Lib.hid hIs
 have HSo:=Lib.hid hso
 have HI0:=Lib.hid hI0
 have HB:=Lib.hid hb
 clear h D E hI hcb hC hIs hso hI0 hb
 rcases hfv with rfl | ⟨f,cp,rfl⟩
 ·skip
  go_enter Tryz.func19,Tryz.ntmps19
  go_wp2
  obtain ⟨mx,hmx⟩:∃ mx,mx=max 0 most:=⟨_,rfl⟩
  rw [← hmx] at hK HB
  have hmx2:0≤mx∧mx≤9223372036854775807:=by omega
  have u:=untilBoxes w (some ⟨d,0,none⟩) .nilFunc
  obtain ⟨ci,cd,BB⟩:=u
  have hon0:=(OnX.start (D:=fun b=>b=d∨b=gc∨C b) H.out).below BB
  have hd0:=HD.out.below hM0 BB
  have hi0:=HIs.out 0 _ _ HI0.out (fun b hb=>BB.block b (HCC.out b hb).1)
  have HON0:=Lib.hid hon0
  have HD0:=Lib.hid hd0
  have HII0:=Lib.hid hi0
  have hg1:grow ow w.heap.size 0 w.heap.size=0∧grow ow w.heap.size 0 (w.heap.size+1)=0:=⟨grow_ge (Nat.le_refl _),grow_ge (by omega)⟩
  clear hon0 hd0 hi0 BB
  rw [← hmx]
  clear hmx
  go_loopw [11] (fun i wr=>∃ (j:Nat) (V':Vol) (ow':Nat→Nat),i=.int .i64 (j:Int)∧j≤K∧OnX (fun b=>b=d∨b=gc∨C b) F V' ow w ow' wr (rP p x j).1∧DrvAt F ow' wr d gc p.M (rP p x j).2∧I j wr∧wr.cell? ⟨w.heap.size+1,0,none⟩=some .nilFunc∧wr.cell? ⟨w.heap.size,0,none⟩=some (.pointer (some ⟨d,0,none⟩))∧ow' w.heap.size=0∧ow' (w.heap.size+1)=0) (fun i _=>K+1 - (intOf i).toNat)
  case atStart=>exact ⟨0,V,_,rfl,by omega,HON0.out,HD0.out,HII0.out,ci,cd,hg1.1,hg1.2⟩
  case round =>
   clear HON0 HD0 HII0 ci cd hg1
   obtain ⟨j,V1,ow1,rfl,hj,hon,hdr,hIj,ci,cd,o1,o2⟩:=hrel
   have hso:=HSo.out j wr V1 ow1 hj hon.at_ hIj ci cd hdr.c0
   have HSj:=Lib.hid hso
   have HON:=Lib.hid hon
   have HDR:=Lib.hid hdr
   clear hso hon hdr hIj
   by_cases hjm:(j:Int)<mx
   ·by_cases hjK:j=K
    ·subst hjK
     have hbt:=HB.out hjm
     rw [if_pos rfl,hbt] at HSj
     have HBt:=Lib.hid hbt
     clear hbt
     go_wp2_with fail
     refine HSj.out.mono ?_
     rintro e w2 ⟨rfl,m2,hI2⟩
     have hcw:∀ b,C b→ow1 b=0:=fun b hb=>(HON.out.st.own b (HCC.out b hb).1).trans (HCC.out b hb).2.1
     have on2:=HON.out.mod m2 (fun b hb=>⟨.inr (.inr hb),hcw b hb⟩)
     have sz:=HON.out.st.size
     have dr2:=HDR.out.sameB (w':=w2) (ow':=grow ow1 wr.heap.size 0) (grow_lt (by omega)) (grow_lt (by omega)) (m2.block d (by omega) (fun hb=>(HCC.out d hb).2.2.2.1 rfl)) (m2.block gc (by omega) (fun hb=>(HCC.out gc hb).2.2.2.2 rfl))
     have HF:=Lib.hid (And.intro on2 (And.intro dr2 hI2))
     clear on2 dr2 hI2 m2 HSj HSo
     go_wp2_with fail
     go_returns
     exact ⟨by rw [HBt.out];rfl,V1,_,HF.out.1,HF.out.2.1,HF.out.2.2⟩
    ·rw [if_neg hjK] at HSj
     go_wp2_with fail
     refine HSj.out.mono ?_
     rintro e w2 ⟨rfl,m2,hI2⟩
     have hcw:∀ b,C b→ow1 b=0:=fun b hb=>(HON.out.st.own b (HCC.out b hb).1).trans (HCC.out b hb).2.1
     have on2:=HON.out.mod m2 (fun b hb=>⟨.inr (.inr hb),hcw b hb⟩)
     have sz:=HON.out.st.size
     have dr2:=HDR.out.sameB (w':=w2) (ow':=grow ow1 wr.heap.size 0) (grow_lt (by omega)) (grow_lt (by omega)) (m2.block d (by omega) (fun hb=>(HCC.out d hb).2.2.2.1 rfl)) (m2.block gc (by omega) (fun hb=>(HCC.out gc hb).2.2.2.2 rfl))
     have hjl:j<K:=by omega
     have hmul:2*p.M*(j+1)≤2*p.M*K:=Nat.mul_le_mul_left _ hjl
     rw [Nat.mul_add,Nat.mul_one] at hmul
     obtain ⟨k1,k2,k3,k4,k5,k6⟩:=rP_keep x c HI.out HCB.out j (by omega)
     have cd2:=m2.cell (a:=⟨w.heap.size,0,none⟩) (fun hb=>by have h1:=(HCC.out _ hb).1;dsimp only at h1;omega) cd
     have ci2:=m2.cell (a:=⟨w.heap.size+1,0,none⟩) (fun hb=>by have h1:=(HCC.out _ hb).1;dsimp only at h1;omega) ci
     have E2:=HE.out.onX on2 (fun b hb=>by rcases hb with e | e | e;omega;omega;exact (HCC.out b e).2.2.1)
     have hnx:rP p x (j+1)=roundP (rP p x j).1 (rP p x j).2:=rfl
     have l1:=World.block_lt_of_cell? _ _ cd
     have l2:=World.block_lt_of_cell? _ _ ci
     simp only at l1 l2
     have hrd:=round_any N (n+2*p.M*j) k1 (by rw [k2];omega) on2.at_ (by rw [k2];exact dr2) E2 hNd hNg (fun i=>by have:=k6 i;omega) (by rw [k4];exact he) (by rw [k3];exact hk) (by rw [k5];omega)
     rw [k2] at hrd
     have HRd:=Lib.hid hrd
     have HNx:=Lib.hid hnx
     have HO2:=Lib.hid on2
     have HI2:=Lib.hid hI2
     have sz2:=m2.size
     clear hrd hnx on2 hI2 dr2 E2 k1 k2 k3 k4 k5 k6 HSj m2
     go_wp2_with fail
     refine HRd.out.mono ?_
     rintro e w3 ⟨rfl,V3,ow3,on3,dr3⟩
     have on13:=HO2.out.then_ (on3.wide (D':=fun b=>b=d∨b=gc∨C b) (fun b hb=>by rcases hb with e | e;exact .inl e;exact .inr (.inl e)))
     have hI3:=HIs.out (j+1) w2 w3 HI2.out (fun b hb=>on3.st.block b (by have:=(HCC.out b hb).1;omega) (by rw [grow_lt (by have:=(HCC.out b hb).1;omega)];exact hcw b hb) (fun e=>by rcases e with e | e;exact (HCC.out b hb).2.2.2.1 e;exact (HCC.out b hb).2.2.2.2 e))
     have q1:=(zam (o:=0) (on3.st.block w.heap.size (by omega) (by rw [grow_lt (by omega)];exact o1) (fun e=>by rcases e with e | e <;> omega))).trans cd2
     have q2:=(zam (o:=0) (on3.st.block (w.heap.size+1) (by omega) (by rw [grow_lt (by omega)];exact o2) (fun e=>by rcases e with e | e <;> omega))).trans ci2
     have q3:ow3 w.heap.size=0:=by rw [on3.st.own _ (by omega),grow_lt (by omega)];exact o1
     have q4:ow3 (w.heap.size+1)=0:=by rw [on3.st.own _ (by omega),grow_lt (by omega)];exact o2
     have HF:=Lib.hid (And.intro on13 (And.intro dr3 hI3))
     clear on13 on3 dr3 hI3 HRd HO2 HI2 hcw
     go_wp2_with fail
     go_roundw
     case rel=>exact ⟨j+1,V3,ow3,by go_num,hjl,by rw [HNx.out];exact HF.out.1,by rw [HNx.out];exact HF.out.2.1,HF.out.2.2,q2,q1,q3,q4⟩
     case measure=>simp [intOf];omega
   ·obtain rfl:j=K:=by omega
    rw [if_pos rfl] at HSj
    go_wp2_with fail
    refine HSj.out.mono ?_
    rintro e w2 ⟨rfl,m2,hI2⟩
    have hcw:∀ b,C b→ow1 b=0:=fun b hb=>(HON.out.st.own b (HCC.out b hb).1).trans (HCC.out b hb).2.1
    have on2:=HON.out.mod m2 (fun b hb=>⟨.inr (.inr hb),hcw b hb⟩)
    have sz:=HON.out.st.size
    have dr2:=HDR.out.sameB (w':=w2) (ow':=grow ow1 wr.heap.size 0) (grow_lt (by omega)) (grow_lt (by omega)) (m2.block d (by omega) (fun hb=>(HCC.out d hb).2.2.2.1 rfl)) (m2.block gc (by omega) (fun hb=>(HCC.out gc hb).2.2.2.2 rfl))
    have HF:=Lib.hid (And.intro on2 (And.intro dr2 hI2))
    clear on2 dr2 hI2 m2 HSj HSo
    go_wp2_with fail
    go_returns
    exact ⟨rfl,V1,_,HF.out.1,HF.out.2.1,HF.out.2.2⟩
 ·skip
  go_enter Tryz.func19,Tryz.ntmps19
  go_wp2
  obtain ⟨mx,hmx⟩:∃ mx,mx=max 0 most:=⟨_,rfl⟩
  rw [← hmx] at hK HB
  have hmx2:0≤mx∧mx≤9223372036854775807:=by omega
  have u:=untilBoxes w (some ⟨d,0,none⟩) (.func (.func f) #[] cp)
  obtain ⟨ci,cd,BB⟩:=u
  have hon0:=(OnX.start (D:=fun b=>b=d∨b=gc∨C b) H.out).below BB
  have hd0:=HD.out.below hM0 BB
  have hi0:=HIs.out 0 _ _ HI0.out (fun b hb=>BB.block b (HCC.out b hb).1)
  have HON0:=Lib.hid hon0
  have HD0:=Lib.hid hd0
  have HII0:=Lib.hid hi0
  have hg1:grow ow w.heap.size 0 w.heap.size=0∧grow ow w.heap.size 0 (w.heap.size+1)=0:=⟨grow_ge (Nat.le_refl _),grow_ge (by omega)⟩
  clear hon0 hd0 hi0 BB
  rw [← hmx]
  clear hmx
  go_loopw [11] (fun i wr=>∃ (j:Nat) (V':Vol) (ow':Nat→Nat),i=.int .i64 (j:Int)∧j≤K∧OnX (fun b=>b=d∨b=gc∨C b) F V' ow w ow' wr (rP p x j).1∧DrvAt F ow' wr d gc p.M (rP p x j).2∧I j wr∧wr.cell? ⟨w.heap.size+1,0,none⟩=some (.func (.func f) #[] cp)∧wr.cell? ⟨w.heap.size,0,none⟩=some (.pointer (some ⟨d,0,none⟩))∧ow' w.heap.size=0∧ow' (w.heap.size+1)=0) (fun i _=>K+1 - (intOf i).toNat)
  case atStart=>exact ⟨0,V,_,rfl,by omega,HON0.out,HD0.out,HII0.out,ci,cd,hg1.1,hg1.2⟩
  case round =>
   clear HON0 HD0 HII0 ci cd hg1
   obtain ⟨j,V1,ow1,rfl,hj,hon,hdr,hIj,ci,cd,o1,o2⟩:=hrel
   have hso:=HSo.out j wr V1 ow1 hj hon.at_ hIj ci cd hdr.c0
   have HSj:=Lib.hid hso
   have HON:=Lib.hid hon
   have HDR:=Lib.hid hdr
   clear hso hon hdr hIj
   by_cases hjm:(j:Int)<mx
   ·by_cases hjK:j=K
    ·subst hjK
     have hbt:=HB.out hjm
     rw [if_pos rfl,hbt] at HSj
     have HBt:=Lib.hid hbt
     clear hbt
     go_wp2_with fail
     refine HSj.out.mono ?_
     rintro e w2 ⟨rfl,m2,hI2⟩
     have hcw:∀ b,C b→ow1 b=0:=fun b hb=>(HON.out.st.own b (HCC.out b hb).1).trans (HCC.out b hb).2.1
     have on2:=HON.out.mod m2 (fun b hb=>⟨.inr (.inr hb),hcw b hb⟩)
     have sz:=HON.out.st.size
     have dr2:=HDR.out.sameB (w':=w2) (ow':=grow ow1 wr.heap.size 0) (grow_lt (by omega)) (grow_lt (by omega)) (m2.block d (by omega) (fun hb=>(HCC.out d hb).2.2.2.1 rfl)) (m2.block gc (by omega) (fun hb=>(HCC.out gc hb).2.2.2.2 rfl))
     have HF:=Lib.hid (And.intro on2 (And.intro dr2 hI2))
     clear on2 dr2 hI2 m2 HSj HSo
     go_wp2_with fail
     go_returns
     exact ⟨by rw [HBt.out];rfl,V1,_,HF.out.1,HF.out.2.1,HF.out.2.2⟩
    ·rw [if_neg hjK] at HSj
     go_wp2_with fail
     refine HSj.out.mono ?_
     rintro e w2 ⟨rfl,m2,hI2⟩
     have hcw:∀ b,C b→ow1 b=0:=fun b hb=>(HON.out.st.own b (HCC.out b hb).1).trans (HCC.out b hb).2.1
     have on2:=HON.out.mod m2 (fun b hb=>⟨.inr (.inr hb),hcw b hb⟩)
     have sz:=HON.out.st.size
     have dr2:=HDR.out.sameB (w':=w2) (ow':=grow ow1 wr.heap.size 0) (grow_lt (by omega)) (grow_lt (by omega)) (m2.block d (by omega) (fun hb=>(HCC.out d hb).2.2.2.1 rfl)) (m2.block gc (by omega) (fun hb=>(HCC.out gc hb).2.2.2.2 rfl))
     have hjl:j<K:=by omega
     have hmul:2*p.M*(j+1)≤2*p.M*K:=Nat.mul_le_mul_left _ hjl
     rw [Nat.mul_add,Nat.mul_one] at hmul
     obtain ⟨k1,k2,k3,k4,k5,k6⟩:=rP_keep x c HI.out HCB.out j (by omega)
     have cd2:=m2.cell (a:=⟨w.heap.size,0,none⟩) (fun hb=>by have h1:=(HCC.out _ hb).1;dsimp only at h1;omega) cd
     have ci2:=m2.cell (a:=⟨w.heap.size+1,0,none⟩) (fun hb=>by have h1:=(HCC.out _ hb).1;dsimp only at h1;omega) ci
     have E2:=HE.out.onX on2 (fun b hb=>by rcases hb with e | e | e;omega;omega;exact (HCC.out b e).2.2.1)
     have hnx:rP p x (j+1)=roundP (rP p x j).1 (rP p x j).2:=rfl
     have l1:=World.block_lt_of_cell? _ _ cd
     have l2:=World.block_lt_of_cell? _ _ ci
     simp only at l1 l2
     have hrd:=round_any N (n+2*p.M*j) k1 (by rw [k2];omega) on2.at_ (by rw [k2];exact dr2) E2 hNd hNg (fun i=>by have:=k6 i;omega) (by rw [k4];exact he) (by rw [k3];exact hk) (by rw [k5];omega)
     rw [k2] at hrd
     have HRd:=Lib.hid hrd
     have HNx:=Lib.hid hnx
     have HO2:=Lib.hid on2
     have HI2:=Lib.hid hI2
     have sz2:=m2.size
     clear hrd hnx on2 hI2 dr2 E2 k1 k2 k3 k4 k5 k6 HSj m2
     go_wp2_with fail
     refine HRd.out.mono ?_
     rintro e w3 ⟨rfl,V3,ow3,on3,dr3⟩
     have on13:=HO2.out.then_ (on3.wide (D':=fun b=>b=d∨b=gc∨C b) (fun b hb=>by rcases hb with e | e;exact .inl e;exact .inr (.inl e)))
     have hI3:=HIs.out (j+1) w2 w3 HI2.out (fun b hb=>on3.st.block b (by have:=(HCC.out b hb).1;omega) (by rw [grow_lt (by have:=(HCC.out b hb).1;omega)];exact hcw b hb) (fun e=>by rcases e with e | e;exact (HCC.out b hb).2.2.2.1 e;exact (HCC.out b hb).2.2.2.2 e))
     have q1:=(zam (o:=0) (on3.st.block w.heap.size (by omega) (by rw [grow_lt (by omega)];exact o1) (fun e=>by rcases e with e | e <;> omega))).trans cd2
     have q2:=(zam (o:=0) (on3.st.block (w.heap.size+1) (by omega) (by rw [grow_lt (by omega)];exact o2) (fun e=>by rcases e with e | e <;> omega))).trans ci2
     have q3:ow3 w.heap.size=0:=by rw [on3.st.own _ (by omega),grow_lt (by omega)];exact o1
     have q4:ow3 (w.heap.size+1)=0:=by rw [on3.st.own _ (by omega),grow_lt (by omega)];exact o2
     have HF:=Lib.hid (And.intro on13 (And.intro dr3 hI3))
     clear on13 on3 dr3 hI3 HRd HO2 HI2 hcw
     go_wp2_with fail
     go_roundw
     case rel=>exact ⟨j+1,V3,ow3,by go_num,hjl,by rw [HNx.out];exact HF.out.1,by rw [HNx.out];exact HF.out.2.1,HF.out.2.2,q2,q1,q3,q4⟩
     case measure=>simp [intOf];omega
   ·obtain rfl:j=K:=by omega
    rw [if_pos rfl] at HSj
    go_wp2_with fail
    refine HSj.out.mono ?_
    rintro e w2 ⟨rfl,m2,hI2⟩
    have hcw:∀ b,C b→ow1 b=0:=fun b hb=>(HON.out.st.own b (HCC.out b hb).1).trans (HCC.out b hb).2.1
    have on2:=HON.out.mod m2 (fun b hb=>⟨.inr (.inr hb),hcw b hb⟩)
    have sz:=HON.out.st.size
    have dr2:=HDR.out.sameB (w':=w2) (ow':=grow ow1 wr.heap.size 0) (grow_lt (by omega)) (grow_lt (by omega)) (m2.block d (by omega) (fun hb=>(HCC.out d hb).2.2.2.1 rfl)) (m2.block gc (by omega) (fun hb=>(HCC.out gc hb).2.2.2.2 rfl))
    have HF:=Lib.hid (And.intro on2 (And.intro dr2 hI2))
    clear on2 dr2 hI2 m2 HSj HSo
    go_wp2_with fail
    go_returns
    exact ⟨rfl,V1,_,HF.out.1,HF.out.2.1,HF.out.2.2⟩
end
section
variable {F:Fix} {V:Vol} {ow:Nat→Nat} {w:World} {p:Wd} {d gc:Nat} {x:Drv}
theorem dquiet_any (N n K most:Nat) (c:Int) (hmost:most≤999999) (hI:Inv n p) (hn:n+2*p.M*K<2^30) (h:WAt F V ow w p) (D:DrvAt F ow w d gc p.M x) (E:Env N ow w) (hNd:N≤d) (hNg:N≤gc)
  (hcb:∀ i,0≤x.counts.getD i 0∧x.counts.getD i 0≤c) (hcK:0≤c∧c+K≤999999) (he:1≤x.every∧(x.every:Int)≤9223372036854775807) (hk:x.kind≤255) (hr:0≤x.rounds∧x.rounds+K≤4294967296)
  (hK:K≤most) (hq:∀ j,j<K→quietB (rP p x j).1=false) (hb:K<most→quietB (rP p x K).1=true) :
  Calls Tryz.prog 72 #[.pointer (some ⟨d,0,none⟩),.int .i64 most] w fun e w'=>e=.returned (.bool (quietB (rP p x K).1))∧∃ V' ow',OnX (fun b=>b=d∨b=gc) F V' ow w ow' w' (rP p x K).1∧DrvAt F ow' w' d gc p.M (rP p x K).2:=by
 have hu:=until_any N n K c (most:Int) (by omega) (.func (.func 22) #[] #[]) (.inr ⟨_,_,rfl⟩) (quietB (rP p x K).1) (fun _=>False) (fun _ _=>True) hI hn h D E hNd hNg hcb hcK he hk hr (by omega) (fun hh=>hb (by omega)) (fun b hb=>hb.elim) trivial (fun _ _ _ _ _=>trivial)
  (fun j W V' ow' hj hW _ ci cd c0=>by
   have hqq:=quiet_on (On.start hW).drew.at_
   refine (so_quiet (F:=F) (d:=d) (w.heap.size+1) w.heap.size (quietB (rP p x j).1) ci cd c0 hqq).mono ?_
   rintro e W' ⟨rfl,b⟩
   refine ⟨?_,Mod.of_below b _,trivial⟩
   by_cases e:j=K
   ·rw [if_pos e,e]
   ·rw [if_neg e,hq j (by omega)])
 have HU:=Lib.hid hu
 have hqf:quietB (rP p x K).1=quietB (rP p x K).1:=rfl
 clear hu hI h D E hcb hq hb hqf
 generalize rP p x K=r at *
 generalize quietB r.1=b at *
 go_enter Tryz.func72,Tryz.ntmps72
 go_wp2_with fail
 refine HU.out.mono ?_
 rintro e w2 ⟨rfl,V2,ow2,on2,dr2,_⟩
 have HO:=Lib.hid (And.intro (on2.wide (D':=fun b=>b=d∨b=gc) (fun b hb=>by rcases hb with e | e | e;exact .inl e;exact .inr e;exact e.elim)) dr2)
 clear on2 dr2 HU
 go_wp2_with fail
 go_returns
 exact ⟨rfl,V2,ow2,HO.out.1,HO.out.2⟩
end
def d0:Drv:={ kind:=0,every:=1,counts:=[0],rounds:=0 }
def quietAt (j:Nat):Bool:=quietB (rP (Wd.new 1 1 1) d0 j).1
theorem quiet_first:(List.range 10).all (fun j=>!quietAt j)=true∧quietAt 10=true:=by decide +kernel
theorem quiet_before (j:Nat) (h:j<10):quietAt j=false:=by
 have h1:=List.all_eq_true.1 quiet_first.1 j (List.mem_range.2 h)
 simpa using h1
theorem lives22r_any (N:Nat) (w:World) (T:Tabs N w):Calls Tryz.prog 15 #[] w fun e w'=>e=.returned (.bool true)∧Below w.heap.size w w':=by
 have hL:=fun w1 T1=>lives_any N w1 T1
 have hB:=beginW_any N 0 0 0 (by decide) (by decide) (by decide) w T
 have HL:=Lib.hid hL
 have HB:=Lib.hid hB
 have HT:=Lib.hid T
 clear hL hB T
 go_enter Tryz.func15,Tryz.ntmps15
 go_wp2_with fail
 refine HB.out.mono ?_
 rintro e w1 ⟨F,V,ow,rfl,hx,hx0,b1⟩
 have hx:WAt F V ow w1 (Wd.new 1 1 1):=hx
 have HX:=Lib.hid hx
 have HB1:=Lib.hid b1
 have HX0:=Lib.hid hx0
 have T1:=HT.out.below (fun x hx=>b1.block x (Nat.lt_of_lt_of_le hx HT.out.le)) (Nat.le_trans HT.out.le b1.size)
 have HT1:=Lib.hid T1
 clear hx b1 T1 HB hx0
 go_wp2_with fail
 refine (HL.out w1 HT1.out).mono ?_
 rintro e w2 ⟨rfl,b2⟩
 have h2:=((On.start HX.out).below b2).at_
 have B2:=HB1.out.trans (b2.mono HB1.out.size)
 have hq:=quiet_on h2
 rw [show quietB (Wd.new 1 1 1)=false from quiet_before 0 (by decide)] at hq
 have HQ:=Lib.hid hq
 have H2:=Lib.hid h2
 have HB2:=Lib.hid B2
 clear hq h2 b2 B2 HX HL
 go_wp2_with fail
 refine HQ.out.mono ?_
 rintro e w3 ⟨rfl,b3⟩
 have h3:=((On.start H2.out).below b3).at_
 have B3:=HB2.out.trans (b3.mono HB2.out.size)
 have hnw:=dnew_any h3 0 0 (by decide) (by decide)
 have HN:=Lib.hid hnw
 have H3:=Lib.hid h3
 have HB3:=Lib.hid B3
 have low3:∀ b,b<w.heap.size→grow (grow ow w1.heap.size 0) w2.heap.size 0 b=0:=fun b hb=>by
  unfold grow
  split
  ·split
   ·exact HX0.out b hb
   ·rfl
  ·rfl
 have HLo:=Lib.hid low3
 clear hnw h3 B3 b3 HQ H2 low3
 go_wp2_with fail
 refine HN.out.mono ?_
 rintro e w4 ⟨d,gc,ow4,rfl,hd,hg,on4,dr4⟩
 have B4:=HB3.out.trans (on4.st.below HB3.out.size fun b hb=>HLo.out b hb)
 have E4:Env N ow4 w4:=Env.low_of HT.out B4 (fun b hb=>by rw [on4.st.own b (by have:=HB3.out.size;omega)];exact HLo.out b hb)
 have hs3:=HB3.out.size
 have hT:=HT.out.le
 have hdq:=dquiet_any N 0 10 10 0 (by decide) (inv_new 1 1 1 (by decide)) (by decide) on4.at_ (show DrvAt F ow4 w4 d gc (Wd.new 1 1 1).M d0 from dr4) E4 (by omega) (by omega) (fun i=>by
  have:d0.counts.getD i 0=0:=by
   show [(0:Int)].getD i 0=0
   rcases i with _ | i <;> rfl
  omega) (by decide) (by decide) (by decide) (by decide) (by decide) (fun j hj=>quiet_before j hj) (fun h=>absurd h (by decide))
 rw [show quietB (rP (Wd.new 1 1 1) d0 10).1=true from quiet_first.2] at hdq
 have HDq:=Lib.hid hdq
 have HB4:=Lib.hid B4
 have HO4:=Lib.hid on4
 clear hdq on4 dr4 E4 HN B4
 generalize rP (Wd.new 1 1 1) d0 10=r at *
 go_wp2_with fail
 refine HDq.out.mono ?_
 rintro e w5 ⟨rfl,V5,ow5,on5,dr5⟩
 have B5:Below w.heap.size w w5:=⟨on5.st.os.trans HB4.out.os,on5.st.tape.trans HB4.out.tape,on5.st.output.trans HB4.out.output,Nat.le_trans HB4.out.size on5.st.size,fun b hb=>(on5.st.block b (Nat.lt_of_lt_of_le hb HB4.out.size) (by rw [HO4.out.st.own b (by omega)];exact HLo.out b hb) (fun e=>by rcases e with e | e <;> omega)).trans (HB4.out.block b hb)⟩
 have HB5:=Lib.hid B5
 clear on5 dr5 B5 HDq
 go_wp2_with fail
 go_returns
 exact ⟨rfl,HB5.out⟩
end Go.Proofs.YtlmmjgekolpekaaGreatDoor
