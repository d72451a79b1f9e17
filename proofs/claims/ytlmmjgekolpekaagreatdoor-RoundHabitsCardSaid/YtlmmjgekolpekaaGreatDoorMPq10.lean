/- Parts of the proof. -/
import Derived.Test.YtlmmjgekolpekaaGreatDoorMPq09
import Derived.Test.YtlmmjgekolpekaaGreatDoorMPk07
set_option linter.unusedVariables false
set_option linter.unusedSimpArgs false
set_option linter.unusedSectionVars false
set_option maxRecDepth 100000
set_option maxHeartbeats 6400000
namespace Go.Proofs.YtlmmjgekolpekaaGreatDoor
open Go Go.RowKit Hst Go.Proofs
theorem zch {w w':World} {b o:Nat} (h:w'.heap[b]?=w.heap[b]?):w'.cell? ⟨b,o,none⟩=w.cell? ⟨b,o,none⟩:=by
 simp only [World.cell?,h]
theorem zc6 {w w':World} {b o:Nat} (h:w'.heap[b]?=w.heap[b]?):w'.frozen? ⟨b,o,none⟩=w.frozen? ⟨b,o,none⟩:=by
 simp only [World.frozen?,h]
def fdC (x:Hst.Fd):Value:=.agg #[.int .i64 x.g,.bool x.waits,.bool x.ready]
def fd0:Hst.Fd:=⟨0,0,false,false⟩
theorem fdV_eq (x:Hst.Fd):fdV x=((x.fd:Int),fdC x):=rfl
theorem zbP {l:List Hst.Fd} (h:∀ o,(l.countP fun x=>x.fd==o)≤1):((l.map fdV).map (·.1)).Nodup:=by
 induction l with
 | nil=>exact List.nodup_nil
 | cons a t ih =>
  rw [List.map_cons,List.map_cons,List.nodup_cons]
  constructor
  ·intro hm
   obtain ⟨y,hy,hya⟩:=List.mem_map.1 hm
   obtain ⟨x,hx,rfl⟩:=List.mem_map.1 hy
   have e:x.fd=a.fd:=Int.ofNat.inj hya
   have h1:=h a.fd
   rw [List.countP_cons] at h1
   have h2:0<t.countP fun x=>x.fd==a.fd:=List.countP_pos_iff.2 ⟨x,hx,by simpa using e⟩
   rw [if_pos (by simp)] at h1
   omega
  ·refine ih fun o=>?_
   have h1:=h o
   rw [List.countP_cons] at h1
   omega
theorem get_fd (l:List Hst.Fd) (fd:Nat):zen (l.map fdV) (fd:Int)=(l.find? fun x=>x.fd==fd).map fdC:=by
 unfold zen
 induction l with
 | nil=>rfl
 | cons a t ih =>
  rw [List.map_cons,List.find?_cons,List.find?_cons]
  have e:((fdV a).1==(fd:Int))=(a.fd==fd):=by
   rw [fdV_eq,Bool.eq_iff_iff]
   simp
   omega
  rw [e]
  cases a.fd==fd
  ·exact ih
  ·rfl
theorem put_fd (l:List Hst.Fd) (x:Hst.Fd):zeB (l.map fdV) (x.fd:Int) (fdC x)=(zeo l x).map fdV:=by
 unfold zeB zeo
 have e:∀ a:Hst.Fd,((fdV a).1==(x.fd:Int))=(a.fd==x.fd):=fun a=>by
  rw [fdV_eq,Bool.eq_iff_iff]
  simp
  omega
 have e2:(l.map fdV).any (fun p=>p.1==(x.fd:Int))=l.any (fun y=>y.fd==x.fd):=by
  rw [List.any_map]
  exact congrArg (l.any) (funext fun a=>e a)
 rw [e2]
 split
 ·rw [List.map_map,List.map_map]
  refine List.map_congr_left fun a _=>?_
  simp only [Function.comp,e]
  split <;> rfl
 ·rw [List.map_append]
  rfl
theorem del_fd (l:List Hst.Fd) (fd:Nat):(l.map fdV).filter (fun p=>decide (p.1≠(fd:Int)))=(l.filter fun y=>y.fd != fd).map fdV:=by
 rw [List.filter_map]
 congr 1
 refine List.filter_congr fun a _=>?_
 show decide ((fdV a).1≠(fd:Int))=(a.fd != fd)
 by_cases e:a.fd=fd
 ·have e2:¬ ((fdV a).1≠(fd:Int)):=fun h=>h (by show (a.fd:Int)=fd;omega)
  rw [decide_eq_false e2]
  simp [e]
 ·have e2:(fdV a).1≠(fd:Int):=fun h=>e (Int.ofNat.inj h)
  rw [decide_eq_true e2]
  simp [e]
theorem who_is {s:Src} {wl:List (Int × Value)} (hN:(wl.map (·.1)).Nodup) (hE:∀ g v,(g,v)∈wl ↔ ∃ x,x∈s.fds∧x.waits=true∧x.g=g∧v=.int .u16 (x.fd:Nat)) (g:Int):(zen wl g).isSome=s.hasP g:=by
 unfold Src.hasP
 rw [Bool.eq_iff_iff]
 constructor
 ·intro h
  obtain ⟨v,hv⟩:=Option.isSome_iff_exists.1 h
  obtain ⟨x,hx,hw,hg,_⟩:=(hE g v).1 (zcF hv)
  exact List.any_eq_true.2 ⟨x,hx,by simp [hw,hg]⟩
 ·intro h
  obtain ⟨x,hx,hb⟩:=List.any_eq_true.1 h
  simp at hb
  have:=zc8 hN ((hE g _).2 ⟨x,hx,hb.1,hb.2,rfl⟩)
  rw [this]
  rfl
theorem has_is {s:Src} {hl:List (Int × Value)} (hN:(hl.map (·.1)).Nodup) (hE:∀ g v,(g,v)∈hl ↔ v=.agg #[]∧∃ e,e∈s.tm∧e.g=g) (g:Int):(zen hl g).isSome=s.hasT g:=by
 unfold Src.hasT
 rw [Bool.eq_iff_iff]
 constructor
 ·intro h
  obtain ⟨v,hv⟩:=Option.isSome_iff_exists.1 h
  obtain ⟨_,e,he,hg⟩:=(hE g v).1 (zcF hv)
  exact List.any_eq_true.2 ⟨e,he,by simp [hg]⟩
 ·intro h
  obtain ⟨e,he,hb⟩:=List.any_eq_true.1 h
  simp at hb
  rw [zc8 hN ((hE g _).2 ⟨rfl,e,he,hb⟩)]
  rfl
def updH (hs:Nat→List Ent) (q:Nat) (l:List Ent):Nat→List Ent:=fun k=>if k=q then l else hs k
theorem updH_at (hs:Nat→List Ent) (q:Nat) (l:List Ent):updH hs q l q=l:=if_pos rfl
theorem updH_ne (hs:Nat→List Ent) {q k:Nat} (l:List Ent) (h:k≠q):updH hs q l k=hs k:=if_neg h
theorem zcG (hs:Nat→List Ent) {P q:Nat} (hq:q<P):∃ R:List Ent,((List.range P).flatMap hs).Perm (hs q++R)∧∀ l,((List.range P).flatMap (updH hs q l)).Perm (l++R):=by
 have h1:(List.range P).Perm (q :: (List.range P).erase q):=List.perm_cons_erase (List.mem_range.2 hq)
 refine ⟨((List.range P).erase q).flatMap hs,?_,fun l=>?_⟩
 ·have:=h1.flatMap_right hs
  rwa [List.flatMap_cons] at this
 ·have:=h1.flatMap_right (updH hs q l)
  rw [List.flatMap_cons,updH_at] at this
  have e:((List.range P).erase q).flatMap (updH hs q l)=((List.range P).erase q).flatMap hs:=by
   rw [List.flatMap_def,List.flatMap_def]
   congr 1
   refine List.map_congr_left fun k hk=>updH_ne hs l ?_
   exact ((List.nodup_range (n:=P)).mem_erase_iff.1 hk).1
  rwa [e] at this
theorem zaS {α:Type} {p:α→Bool} {a b:α}:∀ {l:List α},l.countP p≤1→a∈l→b∈l→p a=true→p b=true→a=b
 | [],_,ha,_,_,_=>by cases ha
 | c :: t,h,ha,hb,pa,pb=>by
  rw [List.countP_cons] at h
  rcases List.mem_cons.1 ha with e1 | ha1
  ·rcases List.mem_cons.1 hb with e2 | hb1
   ·rw [e1,e2]
   ·have:0<t.countP p:=List.countP_pos_iff.2 ⟨b,hb1,pb⟩
    rw [← e1,pa,if_pos rfl] at h
    omega
  ·have h0:0<t.countP p:=List.countP_pos_iff.2 ⟨a,ha1,pa⟩
   rcases List.mem_cons.1 hb with e2 | hb1
   ·rw [← e2,pb,if_pos rfl] at h
    omega
   ·exact zaS (by omega) ha1 hb1 pa pb
theorem zcl {α:Type} (key:α→Nat) {x:α}:∀ {l:List α},x∈l→(l.countP fun y=>key y==key x)≤1→l.Perm (x :: l.filter fun y=>key y != key x)
 | [],hx,_=>by cases hx
 | a :: t,hx,h=>by
  rw [List.countP_cons] at h
  rcases List.mem_cons.1 hx with e | hx1
  ·subst e
   have h0:(t.countP fun y=>key y==key x)=0:=by rw [if_pos (by simp)] at h;omega
   rw [List.filter_cons_of_neg (by simp),List.filter_eq_self.2]
   intro y hy
   have:=List.countP_eq_zero.1 h0 y hy
   simpa using this
  ·have h0:0<t.countP fun y=>key y==key x:=List.countP_pos_iff.2 ⟨x,hx1,by simp⟩
   have hne:(key a==key x)=false:=by
    cases hk:key a==key x
    ·rfl
    ·rw [hk,if_pos rfl] at h;omega
   rw [hne,if_neg (by decide)] at h
   have hpos:(key a != key x)=true:=by simp [bne,hne]
   rw [List.filter_cons_of_pos (by exact hpos)]
   exact ((zcl key hx1 h).cons a).trans (List.Perm.swap _ _ _)
theorem perm_put {hs:Nat→List Ent} {P q:Nat} {tm l:List Ent} {e:Ent} (hq:q<P) (hp:((List.range P).flatMap hs).Perm tm) (hl:l.Perm (hs q++[e])):((List.range P).flatMap (updH hs q l)).Perm (tm++[e]):=by
 obtain ⟨R,h1,h2⟩:=zcG hs hq
 have a:=h1.symm.trans hp
 refine (h2 l).trans (((hl.append_right R).trans ?_).trans (a.append_right [e]))
 rw [List.append_assoc,List.append_assoc]
 exact (List.perm_append_comm).append_left _
theorem perm_take {hs:Nat→List Ent} {P q:Nat} {tm l:List Ent} {e:Ent} (hq:q<P) (hp:((List.range P).flatMap hs).Perm tm) (hl:(l++[e]).Perm (hs q)) (ho:(tm.countP fun x=>x.order==e.order)≤1) :
  ((List.range P).flatMap (updH hs q l)).Perm (tm.filter fun x=>x.order != e.order):=by
 obtain ⟨R,h1,h2⟩:=zcG hs hq
 have a:tm.Perm (e :: (l++R)):=by
  refine (hp.symm.trans h1).trans ((hl.symm.append_right R).trans ?_)
  rw [List.append_assoc]
  exact List.perm_middle
 have he:e∈tm:=a.mem_iff.2 (List.mem_cons_self ..)
 have b:=zcl (fun x:Ent=>x.order) he ho
 exact (h2 l).trans ((List.perm_cons e).1 (a.symm.trans b))
theorem zbh {l:List Hst.Fd} {X y:Hst.Fd}:y∈zeo l X ↔ (y∈l∧y.fd≠X.fd)∨y=X:=by
 unfold zeo
 split
 ·rename_i h
  rw [List.mem_map]
  constructor
  ·rintro ⟨z,hz,rfl⟩
   by_cases e:z.fd=X.fd
   ·right;simp [e]
   ·left;simp [e,hz]
  ·rintro (⟨hy,hne⟩ | rfl)
   ·exact ⟨y,hy,by simp [hne]⟩
   ·obtain ⟨z,hz,he⟩:=List.any_eq_true.1 h
    exact ⟨z,hz,by simp [he]⟩
 ·rename_i h
  rw [List.mem_append,List.mem_singleton]
  constructor
  ·rintro (hy | rfl)
   ·left
    refine ⟨hy,fun e=>h (List.any_eq_true.2 ⟨y,hy,by simpa using e⟩)⟩
   ·exact .inr rfl
  ·rintro (⟨hy,_⟩ | rfl)
   ·exact .inl hy
   ·exact .inr rfl
theorem zdW {X:Hst.Fd}:∀ {l:List Hst.Fd},(l.countP fun y=>y.fd==X.fd)≤1→(zeo l X).Perm (X :: l.filter fun y=>y.fd != X.fd):=by
 intro l h
 unfold zeo
 split
 ·rename_i ha
  obtain ⟨z,hz,he⟩:=List.any_eq_true.1 ha
  have e:z.fd=X.fd:=by simpa using he
  rw [← e] at h ⊢
  have hp:=(zcl (fun y:Hst.Fd=>y.fd) hz h).map (fun y=>if y.fd==z.fd then X else y)
  refine hp.trans ?_
  rw [List.map_cons]
  simp only [beq_self_eq_true,if_true]
  refine List.Perm.cons X (List.Perm.of_eq ?_)
  conv=>rhs;rw [← List.map_id (l.filter fun y=>y.fd != z.fd)]
  refine List.map_congr_left fun y hy=>?_
  have:=(List.mem_filter.1 hy).2
  simp at this
  simp [this]
 ·rename_i ha
  have e:(l.filter fun y=>y.fd != X.fd)=l:=List.filter_eq_self.2 fun y hy=>by
   have:¬ (y.fd==X.fd)=true:=fun e=>ha (List.any_eq_true.2 ⟨y,hy,e⟩)
   simpa [bne] using this
  rw [e]
  exact List.perm_append_comm
structure SrcOK (s:Src) (G:Nat):Prop where
 now:0≤s.now∧s.now≤9223372036854775807
 ord:s.order<9223372036854775808
 ords:∀ o,(s.tm.countP fun e=>e.order==o)≤1
 tg:∀ e,e∈s.tm→0≤e.g∧e.g<G
 tu:∀ g,(s.tm.countP fun e=>e.g==g)≤1
 fu:∀ g,(s.fds.countP fun x=>x.waits && x.g==g)≤1
 fd:∀ x,x∈s.fds→x.fd<65536
 fd1:∀ o,(s.fds.countP fun x=>x.fd==o)≤1
 few:s.fds.length≤1024
 len:s.tm.length≤4096
 G_le:G≤4096
theorem has_take {s:Src} {G:Nat} (h:SrcOK s G) {hl:List (Int × Value)} (hE:∀ g v,(g,v)∈hl ↔ v=.agg #[]∧∃ e,e∈s.tm∧e.g=g) {e:Ent} (he:e∈s.tm) :
  ∀ g v,(g,v)∈(hl.filter fun p=>decide (p.1≠e.g)) ↔ v=.agg #[]∧∃ x,x∈(s.tm.filter fun x=>x.order != e.order)∧x.g=g:=by
 intro g v
 rw [List.mem_filter,hE]
 constructor
 ·rintro ⟨⟨hv,x,hx,hg⟩,hne⟩
  refine ⟨hv,x,List.mem_filter.2 ⟨hx,?_⟩,hg⟩
  simp only [decide_eq_true_eq] at hne
  simp only [bne_iff_ne]
  intro ho
  have:=zaS (h.ords e.order) hx he (by simp [ho]) (by simp)
  exact hne (by rw [← hg,this])
 ·rintro ⟨hv,x,hx,hg⟩
  obtain ⟨hx1,hx2⟩:=List.mem_filter.1 hx
  refine ⟨⟨hv,x,hx1,hg⟩,?_⟩
  simp only [bne_iff_ne] at hx2
  simp only [decide_eq_true_eq]
  intro hge
  have:=zaS (h.tu e.g) hx1 he (by simp;omega) (by simp)
  exact hx2 (by rw [this])
theorem has_put {s:Src} {hl:List (Int × Value)} (hE:∀ g v,(g,v)∈hl ↔ v=.agg #[]∧∃ e,e∈s.tm∧e.g=g) {e:Ent} (hn:s.hasT e.g=false) (hN:(hl.map (·.1)).Nodup) :
  zeB hl e.g (.agg #[])=hl++[(e.g,.agg #[])]∧((zeB hl e.g (.agg #[])).map (·.1)).Nodup∧∀ g v,(g,v)∈zeB hl e.g (.agg #[]) ↔ v=.agg #[]∧∃ x,x∈s.tm++[e]∧x.g=g:=by
 have hno:∀ p∈hl,p.1≠e.g:=fun p hp hpe=>by
  obtain ⟨_,x,hx,hg⟩:=(hE p.1 p.2).1 hp
  have:s.hasT e.g=true:=List.any_eq_true.2 ⟨x,hx,by simp [hg,hpe]⟩
  rw [hn] at this
  cases this
 have e1:zeB hl e.g (.agg #[])=hl++[(e.g,.agg #[])]:=by
  unfold zeB
  rw [if_neg]
  intro h
  obtain ⟨p,hp,hpe⟩:=List.any_eq_true.1 h
  exact hno p hp (by simpa using hpe)
 refine ⟨e1,?_,fun g v=>?_⟩
 ·rw [e1,List.map_append]
  refine List.nodup_append.2 ⟨hN,by simp,fun a ha b hb=>?_⟩
  simp at hb
  subst hb
  obtain ⟨p,hp,rfl⟩:=List.mem_map.1 ha
  exact hno p hp
 ·rw [e1,List.mem_append,List.mem_singleton,hE]
  constructor
  ·rintro (⟨hv,x,hx,hg⟩ | heq)
   ·exact ⟨hv,x,List.mem_append_left _ hx,hg⟩
   ·injection heq with h1 h2
    exact ⟨h2,e,List.mem_append_right _ (List.mem_singleton_self e),h1.symm⟩
  ·rintro ⟨hv,x,hx,hg⟩
   rcases List.mem_append.1 hx with hx | hx
   ·exact .inl ⟨hv,x,hx,hg⟩
   ·rw [List.mem_singleton] at hx
    subst hx
    exact .inr (by rw [hv,hg])
theorem who_put {s:Src} {wl:List (Int × Value)} (hE:∀ g v,(g,v)∈wl ↔ ∃ x,x∈s.fds∧x.waits=true∧x.g=g∧v=.int .u16 (x.fd:Nat)) (hN:(wl.map (·.1)).Nodup) {X:Hst.Fd} (hX:X.waits=true) (hn:s.hasP X.g=false)
  (hold:∀ x,x∈s.fds→x.fd=X.fd→x.waits=false) :
  ((zeB wl X.g (.int .u16 (X.fd:Nat))).map (·.1)).Nodup∧∀ g v,(g,v)∈zeB wl X.g (.int .u16 (X.fd:Nat)) ↔ ∃ x,x∈zeo s.fds X∧x.waits=true∧x.g=g∧v=.int .u16 (x.fd:Nat):=by
 have hno:∀ p∈wl,p.1≠X.g:=fun p hp hpe=>by
  obtain ⟨x,hx,hw,hg,_⟩:=(hE p.1 p.2).1 hp
  have:s.hasP X.g=true:=List.any_eq_true.2 ⟨x,hx,by simp [hg,hpe,hw]⟩
  rw [hn] at this
  cases this
 have e1:zeB wl X.g (.int .u16 (X.fd:Nat))=wl++[(X.g,.int .u16 (X.fd:Nat))]:=by
  unfold zeB
  rw [if_neg]
  intro h
  obtain ⟨p,hp,hpe⟩:=List.any_eq_true.1 h
  exact hno p hp (by simpa using hpe)
 refine ⟨?_,fun g v=>?_⟩
 ·rw [e1,List.map_append]
  refine List.nodup_append.2 ⟨hN,by simp,fun a ha b hb=>?_⟩
  simp at hb
  subst hb
  obtain ⟨p,hp,rfl⟩:=List.mem_map.1 ha
  exact hno p hp
 ·rw [e1,List.mem_append,List.mem_singleton,hE]
  constructor
  ·rintro (⟨x,hx,hw,hg,hv⟩ | heq)
   ·refine ⟨x,zbh.2 (.inl ⟨hx,fun e=>?_⟩),hw,hg,hv⟩
    have:=hold x hx e
    rw [hw] at this
    cases this
   ·injection heq with h1 h2
    exact ⟨X,zbh.2 (.inr rfl),hX,h1.symm,h2⟩
  ·rintro ⟨x,hx,hw,hg,hv⟩
   rcases zbh.1 hx with ⟨hx,_⟩ | rfl
   ·exact .inl ⟨x,hx,hw,hg,hv⟩
   ·exact .inr (by rw [hv,hg])
theorem waits_put {s:Src} {G:Nat} (h:SrcOK s G) {X:Hst.Fd} (hX:X.waits=true) (hold:∀ x,x∈s.fds→x.fd=X.fd→x.waits=false):waitsN { s with fds:=zeo s.fds X }=waitsN s+1:=by
 have h1:=(zdW (X:=X) (h.fd1 X.fd)).countP_eq (·.waits)
 have h2:(s.fds.filter fun y=>y.fd != X.fd).countP (·.waits)=s.fds.countP (·.waits):=by
  rw [List.countP_filter]
  refine List.countP_congr fun y hy=>?_
  by_cases e:y.fd=X.fd
  ·simp [hold y hy e]
  ·simp [e]
 unfold waitsN
 show (zeo s.fds X).countP (·.waits)=_
 rw [h1,List.countP_cons,h2]
 simp [hX]
theorem who_ready {s:Src} {G:Nat} (h:SrcOK s G) {wl:List (Int × Value)} (hE:∀ g v,(g,v)∈wl ↔ ∃ x,x∈s.fds∧x.waits=true∧x.g=g∧v=.int .u16 (x.fd:Nat)) {X:Hst.Fd}
  (hx:X.waits=true→∃ x,x∈s.fds∧x.fd=X.fd∧x.waits=true∧x.g=X.g) (hy:∀ x,x∈s.fds→x.fd=X.fd→x.waits=X.waits∧(x.waits=true→x.g=X.g)) :
  (∀ g v,(g,v)∈wl ↔ ∃ x,x∈zeo s.fds X∧x.waits=true∧x.g=g∧v=.int .u16 (x.fd:Nat))∧waitsN { s with fds:=zeo s.fds X }=waitsN s:=by
 constructor
 ·intro g v
  rw [hE]
  constructor
  ·rintro ⟨x,hxm,hw,hg,hv⟩
   by_cases e:x.fd=X.fd
   ·obtain ⟨h1,h2⟩:=hy x hxm e
    exact ⟨X,zbh.2 (.inr rfl),by rw [← h1,hw],by rw [← h2 hw,hg],by rw [hv,e]⟩
   ·exact ⟨x,zbh.2 (.inl ⟨hxm,e⟩),hw,hg,hv⟩
  ·rintro ⟨x,hxm,hw,hg,hv⟩
   rcases zbh.1 hxm with ⟨hxm,_⟩ | rfl
   ·exact ⟨x,hxm,hw,hg,hv⟩
   ·obtain ⟨y,hym,hyf,hyw,hyg⟩:=hx hw
    exact ⟨y,hym,hyw,by rw [hyg,hg],by rw [hv,hyf]⟩
 ·have h1:=(zdW (X:=X) (h.fd1 X.fd)).countP_eq (·.waits)
  unfold waitsN
  show (zeo s.fds X).countP (·.waits)=_
  rw [h1,List.countP_cons]
  by_cases hw:∃ x,x∈s.fds∧x.fd=X.fd
  ·obtain ⟨x,hxm,e⟩:=hw
   have hk:(s.fds.countP fun y=>y.fd==x.fd)≤1:=h.fd1 x.fd
   have h2:=(zcl (fun y:Hst.Fd=>y.fd) hxm hk).countP_eq (·.waits)
   rw [List.countP_cons] at h2
   rw [h2,← e,(hy x hxm e).1]
  ·have hX:X.waits=false:=by
    cases hb:X.waits
    ·rfl
    ·obtain ⟨y,hym,hyf,_⟩:=hx hb
     exact absurd ⟨y,hym,hyf⟩ hw
   rw [hX,List.filter_eq_self.2]
   ·simp
   ·intro y hym
    have:y.fd≠X.fd:=fun e=>hw ⟨y,hym,e⟩
    simpa using this
theorem who_take {s:Src} {G:Nat} (h:SrcOK s G) {wl:List (Int × Value)} (hE:∀ g v,(g,v)∈wl ↔ ∃ x,x∈s.fds∧x.waits=true∧x.g=g∧v=.int .u16 (x.fd:Nat)) {x:Hst.Fd} (hx:x∈s.fds) (hw:x.waits=true) :
  (∀ g v,(g,v)∈(wl.filter fun p=>decide (p.1≠x.g)) ↔ ∃ y,y∈(s.fds.filter fun y=>y.fd != x.fd)∧y.waits=true∧y.g=g∧v=.int .u16 (y.fd:Nat)) ∧
   waitsN { s with fds:=s.fds.filter fun y=>y.fd != x.fd }+1=waitsN s:=by
 constructor
 ·intro g v
  rw [List.mem_filter,hE]
  constructor
  ·rintro ⟨⟨y,hy,hyw,hg,hv⟩,hne⟩
   simp only [decide_eq_true_eq] at hne
   refine ⟨y,List.mem_filter.2 ⟨hy,?_⟩,hyw,hg,hv⟩
   simp only [bne_iff_ne]
   intro e
   have:=zaS (h.fd1 x.fd) hy hx (by simp [e]) (by simp)
   exact hne (by rw [← hg,this])
  ·rintro ⟨y,hy,hyw,hg,hv⟩
   obtain ⟨hy1,hy2⟩:=List.mem_filter.1 hy
   refine ⟨⟨y,hy1,hyw,hg,hv⟩,?_⟩
   simp only [bne_iff_ne] at hy2
   simp only [decide_eq_true_eq]
   intro e
   have:=zaS (h.fu x.g) hy1 hx (by simp [hyw];omega) (by simp [hw])
   exact hy2 (by rw [this])
 ·have h2:=(zcl (fun y:Hst.Fd=>y.fd) hx (h.fd1 x.fd)).countP_eq (·.waits)
  rw [List.countP_cons,hw] at h2
  unfold waitsN
  rw [h2]
  rfl
theorem zbd:∀ (l:List Hst.Fd),(zej l=none∧∀ y,y∈l→(y.waits && y.ready)=false)∨∃ x,zej l=some x∧x∈l∧(x.waits && x.ready)=true∧∀ y,y∈l→(y.waits && y.ready)=true→x.fd≤y.fd
 | []=>.inl ⟨rfl,fun y hy=>by cases hy⟩
 | a :: t=>by
  have ih:=zbd t
  unfold zej
  cases ha:a.waits && a.ready with
  | false =>
   rw [if_neg (by decide)]
   rcases ih with ⟨h1,h2⟩ | ⟨x,h1,h2,h3,h4⟩
   ·refine .inl ⟨h1,fun y hy=>?_⟩
    rcases List.mem_cons.1 hy with rfl | hy
    ·exact ha
    ·exact h2 y hy
   ·refine .inr ⟨x,h1,List.mem_cons_of_mem _ h2,h3,fun y hy hb=>?_⟩
    rcases List.mem_cons.1 hy with rfl | hy
    ·rw [ha] at hb;cases hb
    ·exact h4 y hy hb
  | true =>
   rw [if_pos rfl]
   right
   rcases ih with ⟨h1,h2⟩ | ⟨x,h1,h2,h3,h4⟩
   ·rw [h1]
    refine ⟨a,rfl,List.mem_cons_self ..,ha,fun y hy hb=>?_⟩
    rcases List.mem_cons.1 hy with rfl | hy
    ·exact Nat.le_refl _
    ·rw [h2 y hy] at hb;cases hb
   ·rw [h1]
    dsimp only
    by_cases hle:a.fd≤x.fd
    ·rw [if_pos hle]
     refine ⟨a,rfl,List.mem_cons_self ..,ha,fun y hy hb=>?_⟩
     rcases List.mem_cons.1 hy with rfl | hy
     ·exact Nat.le_refl _
     ·exact Nat.le_trans hle (h4 y hy hb)
    ·rw [if_neg hle]
     refine ⟨x,rfl,List.mem_cons_of_mem _ h2,h3,fun y hy hb=>?_⟩
     rcases List.mem_cons.1 hy with rfl | hy
     ·omega
     ·exact h4 y hy hb
theorem least_none {l:List Hst.Fd} (h:∀ y,y∈l→(y.waits && y.ready)=false):zej l=none:=by
 rcases zbd l with ⟨h1,_⟩ | ⟨x,_,h2,h3,_⟩
 ·exact h1
 ·rw [h x h2] at h3;cases h3
theorem least_first {s:Src} {G:Nat} (h:SrcOK s G) {ks:List Int} (hp:ks.Perm (s.fds.map fun x=>(x.fd:Int))) (hs:ks.Pairwise (·≤·)) {j:Nat} {x:Hst.Fd} (hj:ks[j]?=some (x.fd:Int)) (hx:x∈s.fds) (hb:(x.waits && x.ready)=true)
  (hbef:∀ y,y∈s.fds→∀ i,i<j→ks[i]?=some (y.fd:Int)→(y.waits && y.ready)=false):zej s.fds=some x:=by
 rcases zbd s.fds with ⟨_,h2⟩ | ⟨z,h1,h2,h3,h4⟩
 ·rw [h2 x hx] at hb;cases hb
 ·rw [h1]
  have hle:=h4 x hx hb
  have hzm:(z.fd:Int)∈ks:=hp.mem_iff.2 (List.mem_map.2 ⟨z,h2,rfl⟩)
  obtain ⟨i,hi⟩:=List.getElem?_of_mem hzm
  obtain ⟨hjl,hjv⟩:=List.getElem?_eq_some_iff.1 hj
  obtain ⟨hil,hiv⟩:=List.getElem?_eq_some_iff.1 hi
  have hge:x.fd≤z.fd:=by
   rcases Nat.lt_trichotomy i j with hlt | rfl | hgt
   ·have:=hbef z h2 i hlt hi
    rw [h3] at this;cases this
   ·rw [hjv] at hiv;omega
   ·have:=List.pairwise_iff_getElem.1 hs j i hjl hil hgt
    rw [hjv,hiv] at this
    omega
  have e:z.fd=x.fd:=by omega
  rw [zaS (h.fd1 x.fd) h2 hx (by simp [e]) (by simp)]
theorem sumL_mono {α:Type} {f g:α→Nat}:∀ (l:List α),(∀ a,a∈l→f a≤g a)→sumL f l≤sumL g l
 | [],_=>Nat.le_refl _
 | a :: t,h=>by
  have h1:=h a (List.mem_cons_self ..)
  have h2:=sumL_mono t fun x hx=>h x (List.mem_cons_of_mem _ hx)
  simp only [sumL]
  omega
theorem outS_le (g:Int) (m:Mach):outS g m≤zev g m:=by
 unfold outS zev b2n
 split
 ·rename_i h
  rw [if_pos h.1]
  exact Nat.le_refl _
 ·exact Nat.zero_le _
theorem scnt_le {n:Nat} {p:Wd} (h:Inv n p) (g:Nat) (hg:g<p.G):scnt p.src g≤1:=by
 have h1:=h.A.S g hg
 have h2:=h.A.X g hg
 have h3:sumL (outS g) p.all≤sumL (zev g) p.all:=sumL_mono p.all fun m _=>outS_le g m
 have h4:b2n (p.sts g=4∨p.sts g=5)+b2n (p.sts g=2)≤1:=by
  unfold b2n
  split
  ·split
   ·omega
   ·omega
  ·split
   ·omega
   ·omega
 omega
theorem scnt_any {n:Nat} {p:Wd} (h:Inv n p) (g:Int):(p.src.tm.countP fun e=>e.g==g)≤1∧(p.src.fds.countP fun x=>x.waits && x.g==g)≤1:=by
 by_cases hr:0≤g∧g<p.G
 ·have h1:=scnt_le h g.toNat (by omega)
  unfold scnt at h1
  rw [show ((g.toNat:Nat):Int)=g by omega] at h1
  omega
 ·constructor
  ·have:(p.src.tm.countP fun e=>e.g==g)=0:=List.countP_eq_zero.2 fun e he=>by
    have:=h.S.tm e he
    simp
    omega
   omega
  ·have:(p.src.fds.countP fun x=>x.waits && x.g==g)=0:=List.countP_eq_zero.2 fun x hx=>by
    have h2:=(h.S.fds x hx).2
    simp
    intro hw
    have:=h2 hw
    omega
   omega
theorem srcok {n:Nat} {p:Wd} (h:Inv n p) (hn:n<2^61):SrcOK p.src p.G where
 now:=h.S.now
 ord:=by have:=h.S.ord;omega
 ords:=h.S.ords
 tg e he:=⟨(h.S.tm e he).2.1,(h.S.tm e he).2.2.1⟩
 tu g:=(scnt_any h g).1
 fu g:=(scnt_any h g).2
 fd x hx:=(h.S.fds x hx).1
 fd1:=h.S.fd1
 few:=h.S.few
 len:=by
  have hG:=h.sh.dG.2
  have h1:=zaq (p.src.tm.map (·.g)) p.G (fun x hx=>by
   obtain ⟨e,he,rfl⟩:=List.mem_map.1 hx
   exact ⟨(h.S.tm e he).2.1,(h.S.tm e he).2.2.1⟩) (fun x=>by
   have:=(scnt_any h x).1
   rw [List.count,List.countP_map]
   exact this)
  rw [List.length_map] at h1
  omega
 G_le:=h.sh.dG.2
section
variable {n:Nat} {p:Wd} {i:Nat}
theorem zas (p:Wd) (i k:Nat) (m:Mach) (h:m.stage=(p.mach k).stage):((p.setM k m).mach i).stage=(p.mach i).stage:=by
 by_cases hk:k<p.all.length
 ·rw [mach_set p k i m hk]
  split
  ·next e=>subst e;exact h
  ·rfl
 ·show ((p.all.set k m).getD i Mach.fresh).stage=_
  rw [List.set_eq_of_length_le (by omega)]
  rfl
theorem zbF (p:Wd) (g:Int) (a b:Nat):(p.move g a b).M=p.M∧(p.move g a b).all=p.all∧(p.move g a b).G=p.G∧(p.move g a b).src=p.src:=by
 unfold Wd.move
 split
 ·unfold Wd.swap
  split
  ·exact ⟨rfl,rfl,rfl,rfl⟩
  ·exact ⟨rfl,rfl,rfl,rfl⟩
 ·exact ⟨rfl,rfl,rfl,rfl⟩
theorem zcn (p:Wd) (i:Nat) (l:List Int):(p.found i l).M=p.M∧((p.found i l).mach i).stage=(p.mach i).stage∧(p.found i l).G=p.G:=by
 unfold Wd.found
 split
 ·exact ⟨rfl,rfl,rfl⟩
 ·exact ⟨rfl,zas _ i i _ rfl,rfl⟩
theorem hold_keep (p:Wd) (i:Nat) (q:Int) (is:Bool):(p.hold i q is).M=p.M∧((p.hold i q is).mach i).stage=(p.mach i).stage∧(p.hold i q is).G=p.G:=by
 unfold Wd.hold
 split
 ·exact ⟨rfl,zas _ i i _ rfl,rfl⟩
 ·exact ⟨rfl,rfl,rfl⟩
theorem find_keep (p:Wd) (i:Nat) (t:Int):(p.find i t).1.M=p.M∧((p.find i t).1.mach i).stage=(p.mach i).stage∧(p.find i t).1.G=p.G:=by
 unfold Wd.find
 split
 ·exact ⟨rfl,rfl,rfl⟩
 ·dsimp only
  split
  ·split
   ·exact ⟨rfl,by refine (zas _ _ _ _ ?_).trans ((zas _ _ _ _ ?_).trans ?_) <;> rfl,rfl⟩
   ·exact ⟨rfl,rfl,rfl⟩
  ·exact ⟨rfl,rfl,rfl⟩
theorem out_keep (p:Wd) (i:Nat) (t:Int):(p.out i t).1.M=p.M∧((p.out i t).1.mach i).stage=(p.mach i).stage∧(p.out i t).1.G=p.G:=by
 have hm:∀ (q:Wd) (g:Int) (a b:Nat) (k v:Int),(((q.move g a b).add i k g v).mach i).stage=(q.mach i).stage:=fun q g a b k v=>by
  show ((q.move g a b).all.getD i Mach.fresh).stage=_
  rw [(zbF q g a b).2.1];rfl
 unfold Wd.out
 dsimp only
 split
 ·split
  ·exact ⟨rfl,rfl,rfl⟩
  ·exact ⟨(zbF p _ _ _).1,by refine (zas _ _ _ _ ?_).trans (hm p _ _ _ _ _);rfl,(zbF p _ _ _).2.2.1⟩
 ·split
  ·exact ⟨rfl,zas _ i i _ rfl,rfl⟩
  ·exact ⟨(zbF p _ _ _).1,by refine (zas _ _ _ _ ?_).trans (hm p _ _ _ _ _);rfl,(zbF p _ _ _).2.2.1⟩
theorem zdu (p:Wd) (i:Nat) (g:Int) (is:Bool):(p.one i g is).M=p.M∧((p.one i g is).mach i).stage=(p.mach i).stage∧(p.one i g is).G=p.G:=by
 unfold Wd.one
 split
 ·exact zcn p i _
 ·exact zcn p i _
theorem do_keep (p:Wd) (i:Nat) (t:Int):(p.doIt i t).1.M=p.M∧((p.doIt i t).1.mach i).stage=(p.mach i).stage∧(p.doIt i t).1.G=p.G:=by
 unfold Wd.doIt
 dsimp only
 split
 case h_1=>exact zdu { p with glob:=p.glob.tail } i _ _
 case h_2=>exact zdu (p.setR _ _) i _ _
 case h_3=>exact zcn p.takeShare.1 i _
 case h_4=>exact zcn (p.setR _ _) i _
 case h_5 =>
  obtain ⟨a,b,c⟩:=zcn p.takeShare.1 i p.takeShare.2
  split
  ·exact ⟨a,b,c⟩
  ·exact ⟨a,by refine (zas _ _ _ _ ?_).trans b;rfl,c⟩
 case h_6=>exact ⟨rfl,rfl,rfl⟩
 case h_7=>exact ⟨rfl,rfl,rfl⟩
 case h_8=>exact hold_keep { p with idle:=p.idle.takeP.1 } i _ _
 case h_9 =>
  obtain ⟨a,b,c⟩:=hold_keep { p with idle:=p.idle.takePending.1 } i p.idle.takePending.2.1 p.idle.takePending.2.2
  split
  ·exact ⟨a,by refine (zas _ _ _ _ ?_).trans b;rfl,c⟩
  ·exact ⟨a,by refine (zas _ _ _ _ ?_).trans b;rfl,c⟩
 case h_10=>exact ⟨rfl,rfl,rfl⟩
 case h_11=>exact ⟨rfl,zas _ i i _ rfl,rfl⟩
 case h_12=>exact ⟨rfl,zas _ i i _ rfl,rfl⟩
 case h_13=>exact ⟨rfl,zas _ i i _ rfl,rfl⟩
 case h_14=>exact ⟨rfl,zas _ i i _ rfl,rfl⟩
 case h_15=>exact ⟨rfl,rfl,rfl⟩
 case h_16=>exact zdu { p with src:=p.src.take.1 } i _ _
 case h_17=>exact find_keep p i t
 case h_18=>exact out_keep p i t
 case h_19=>exact out_keep p i t
 case h_20=>exact ⟨rfl,rfl,rfl⟩
theorem qcnt_le (h:Inv n p) (g:Nat) (hg:g<p.G):p.glob.count (g:Int)+sumL (zem g) p.all≤1:=by
 have h1:=h.A.R g hg
 have h2:=za3 (p.sts g=1)
 unfold qcnt at h1
 omega
theorem glob_len (h:Inv n p):p.glob.length≤4096:=by
 have hG:=h.sh.dG.2
 have:=zaq p.glob p.G h.A.rg fun x=>by
  by_cases hr:0≤x∧x<p.G
  ·have:=qcnt_le h x.toNat (by omega)
   rw [show ((x.toNat:Nat):Int)=x by omega] at this
   omega
  ·have:p.glob.count x=0:=List.count_eq_zero.2 fun hx=>hr (h.A.rg x hx)
   omega
 omega
theorem rest_len (h:Inv n p) (hi:i<p.M):(p.mach i).rest.length≤4096:=by
 have hG:=h.sh.dG.2
 have hla:i<p.all.length:=by rw [h.sh.la];exact hi
 have L:=h.L.loc i hi
 have:=zaq (p.mach i).rest p.G L.rr fun x=>by
  by_cases hr:0≤x∧x<p.G
  ·have h1:=qcnt_le h x.toNat (by omega)
   have h2:=zaK (zem (x.toNat:Nat)) p.all i Mach.fresh hla
   have h3:(p.mach i).rest.count x≤zem (x.toNat:Nat) (p.mach i):=by
    unfold zem
    rw [show ((x.toNat:Nat):Int)=x by omega]
    omega
   have h4:zem (x.toNat:Nat) (p.all.getD i Mach.fresh)=zem (x.toNat:Nat) (p.mach i):=rfl
   omega
  ·have:(p.mach i).rest.count x=0:=List.count_eq_zero.2 fun hx=>hr (L.rr x hx)
   omega
 omega
theorem pend_len (h:Inv n p):p.idle.pending.length≤64:=by
 have hP:=h.sh.dP.2
 have:=zaq p.idle.pending p.P h.B.rp fun x=>by
  by_cases hr:0≤x∧x<p.P
  ·have h1:=h.B.each x.toNat (by omega)
   rw [show ((x.toNat:Nat):Int)=x by omega] at h1
   omega
  ·have:p.idle.pending.count x=0:=List.count_eq_zero.2 fun hx=>hr (h.B.rp x hx)
   omega
 omega
theorem idlem_len (h:Inv n p):p.idle.m.length≤128:=by
 have hM:=h.sh.dM.2
 have:=zaq p.idle.m p.M h.D.rm fun x=>by
  by_cases hr:0≤x∧x<p.M
  ·have h1:=h.D.reg x.toNat (by omega)
   have h2:=za3 (regd p x.toNat)
   rw [show ((x.toNat:Nat):Int)=x by omega] at h1
   omega
  ·have:p.idle.m.count x=0:=List.count_eq_zero.2 fun hx=>hr (h.D.rm x hx)
   omega
 omega
theorem runs_scnt (h:Inv n p) (hi:i<p.M) (g:Nat) (hg:(p.mach i).g=g) (hgG:g<p.G) (hs:¬ (p.mach i).s21):scnt p.src g=0:=by
 have hla:i<p.all.length:=by rw [h.sh.la];exact hi
 have hst:=zc2 h hi g hg hgG
 have h1:=h.A.S g hgG
 rw [zae (by rw [hst];omega)] at h1
 have h2:=h.A.X g hgG
 rw [zai hst] at h2
 have h3:sumL (outS g) p.all=0:=zdz (outS g) p.all Mach.fresh fun j hj=>by
  by_cases e:j=i
  ·subst e
   show b2n _=0
   exact zae fun x=>hs x.2.2
  ·have h4:=zbT (zev g) p.all j i Mach.fresh hj hla e
   have h5:zev g (p.all.getD i Mach.fresh)=1:=zai hg
   have h6:=outS_le g (p.all.getD j Mach.fresh)
   omega
 omega
theorem runs_out (h:Inv n p) (hi:i<p.M) (hg:0≤(p.mach i).g) (hs:¬ (p.mach i).s21):p.src.hasT (p.mach i).g=false∧p.src.hasP (p.mach i).g=false:=by
 have L:=(h.L.loc i hi).rg
 have h1:=runs_scnt h hi (p.mach i).g.toNat (by omega) (by omega) hs
 unfold scnt at h1
 rw [show (((p.mach i).g.toNat:Nat):Int)=(p.mach i).g by omega] at h1
 constructor
 ·have h2:(p.src.tm.countP fun e=>e.g==(p.mach i).g)=0:=by omega
  rw [List.countP_eq_zero] at h2
  unfold Src.hasT
  rw [List.any_eq_false]
  exact h2
 ·have h2:(p.src.fds.countP fun x=>x.waits && x.g==(p.mach i).g)=0:=by omega
  rw [List.countP_eq_zero] at h2
  unfold Src.hasP
  rw [List.any_eq_false]
  exact h2
end
end Go.Proofs.YtlmmjgekolpekaaGreatDoor
