/- Parts of the proof. -/
import Derived.MapKept
import Derived.Test.YtlmmjgekolpekaaGreatDoorMPk10
import Derived.Handy
import Derived.Shelf.Spec.TrailingZeros
set_option linter.unusedVariables false
set_option linter.unusedSimpArgs false
set_option linter.unusedSectionVars false
set_option maxRecDepth 100000
set_option maxHeartbeats 6400000
namespace Go.Proofs.YtlmmjgekolpekaaGreatDoor
open Go Go.RowKit Hst Go.Proofs Go.MapKept
theorem zcQ (g:Int):∀ (l:List (Int × Value)) (j:Nat) (v:Value),(l.map (·.1)).Nodup→l[j]?=some (g,v)→l.eraseIdx j=l.filter (fun p=>decide (p.1≠g))
 | [],j,v,_,h=>by simp at h
 | (a,x) :: t,0,v,hn,h=>by
  simp at h
  obtain ⟨rfl,rfl⟩:=h
  rw [List.map_cons,List.nodup_cons] at hn
  rw [List.eraseIdx_cons_zero,List.filter_cons_of_neg (by simp),List.filter_eq_self.2]
  intro p hp
  have:p.1≠a:=fun e=>hn.1 (List.mem_map.2 ⟨p,hp,e⟩)
  simpa using this
 | (a,x) :: t,j+1,v,hn,h=>by
  rw [List.map_cons,List.nodup_cons] at hn
  simp only [List.getElem?_cons_succ] at h
  have hne:a≠g:=fun e=>hn.1 (by rw [e];exact List.mem_map.2 ⟨_,List.mem_of_getElem? h,rfl⟩)
  rw [List.eraseIdx_cons_succ,List.filter_cons_of_pos (by simpa using hne),zcQ g t j v hn.2 h]
theorem zdr {α β:Type} (f:α→β):∀ (l:List α) (j:Nat),(l.eraseIdx j).map f=(l.map f).eraseIdx j
 | [],_=>rfl
 | _ :: _,0=>rfl
 | a :: t,j+1=>by rw [List.eraseIdx_cons_succ,List.map_cons,zdr f t j,List.map_cons,List.eraseIdx_cons_succ]
theorem IMap.delete {P:Program} {K:IntKind} {mty kt et ty:TypeId} {w:World} {r:Nat} {l:List (Int × Value)} (hm:P.underlying mty=some (.map kt et)) (hd:P.underlying kt=some (.int K)) (h:IMap K w r l) (hN:(l.map (·.1)).Nodup) (g:Int) :
  ∃ w',(Builtin.delete_ #[mty,kt] ty #[.map (some r),.int K g]).run P w=.ok (.tuple #[]) w'∧IMap K w' r (l.filter fun p=>decide (p.1≠g))∧Mod (·=r) w w':=by
 obtain ⟨es,clock,hb,he,hnd,hlt⟩:=h
 have hlen:es.toList.length=l.length:=by simpa using congrArg List.length he
 have hks:∀ x∈es.toList,IsKey (.int K) x.key:=by
  intro x hx
  have:(x.key,x.val)∈es.toList.map (fun e=>(e.key,e.val)):=List.mem_map.2 ⟨x,hx,rfl⟩
  rw [he] at this
  obtain ⟨p,_,hp⟩:=List.mem_map.1 this
  have:x.key=.int K p.1:=(congrArg Prod.fst hp).symm
  rw [this]
  exact rfl
 have hk:IsKey (.int K) (.int K g):=rfl
 have hat:∀ (j:Nat) (e:MapEntry),es.toList[j]?=some e→∃ p:Int × Value,l[j]?=some p∧e.key=Value.int K p.1∧e.val=p.2:=by
  intro j e hj
  have h1:(es.toList.map (fun e=>(e.key,e.val)))[j]?=some (e.key,e.val):=by rw [List.getElem?_map,hj];rfl
  rw [he,List.getElem?_map,Option.map_eq_some_iff] at h1
  obtain ⟨p,hp,hpe⟩:=h1
  exact ⟨p,hp,(congrArg Prod.fst hpe).symm,(congrArg Prod.snd hpe).symm⟩
 have hmod:∀ o,Mod (·=r) w { w with heap:=w.heap.setIfInBounds r o }:=fun o=>⟨rfl,rfl,rfl,by simp,fun x _ hx=>(heap_set hb).2 x hx⟩
 rcases findNow_spec hk es.toList 0 hks with ⟨h1,h2⟩ | ⟨j,e,h1,h3,h4⟩
 ·refine ⟨{ w with heap:=w.heap.setIfInBounds r (.map es clock) },?_,⟨es,clock,(heap_set hb).1,?_,hnd,hlt⟩,hmod _⟩
  ·simp [Builtin.delete_,run_underlying hm,run_getObj_map _ _ _ _ hb,run_checkKey hd hk,run_findKey hd h1,run_setObj_map _ hb,Result.andThen]
  ·rw [he,List.filter_eq_self.2]
   intro p hp
   have hm2:(Value.int K p.1,p.2)∈es.toList.map (fun e=>(e.key,e.val)):=by rw [he];exact List.mem_map.2 ⟨p,hp,rfl⟩
   obtain ⟨x,hx,hxe⟩:=List.mem_map.1 hm2
   have hkx:x.key=.int K p.1:=congrArg Prod.fst hxe
   have hne:=h2 x hx
   rw [hkx] at hne
   have:p.1≠g:=fun e=>hne (by rw [e])
   simpa using this
 ·obtain ⟨p,hp,hpk,hpv⟩:=hat j e h3
  have hpg:p.1=g:=by rw [h4] at hpk;injection hpk with _ e;exact e.symm
  have hj:j<es.size:=by have:=(List.getElem?_eq_some_iff.1 h3).1;simpa using this
  have herase:(es.eraseIdxIfInBounds j).toList=es.toList.eraseIdx j:=by
   unfold Array.eraseIdxIfInBounds
   rw [dif_pos hj,Array.toList_eraseIdx]
  refine ⟨{ w with heap:=w.heap.setIfInBounds r (.map (es.eraseIdxIfInBounds j) clock) },?_,⟨es.eraseIdxIfInBounds j,clock,(heap_set hb).1,?_,?_,?_⟩,hmod _⟩
  ·simp [Builtin.delete_,run_underlying hm,run_getObj_map _ _ _ _ hb,run_checkKey hd hk,run_findKey hd h1,run_setObj_map _ hb,Result.andThen]
  ·rw [herase,zdr,he,← zdr,zcQ g l j p.2 hN (by rw [hp,← hpg])]
  ·rw [herase]
   exact hnd.sublist (List.Sublist.map _ (List.eraseIdx_sublist _ _))
  ·rw [herase]
   intro x hx
   exact hlt x ((List.eraseIdx_sublist _ _).subset hx)
end Go.Proofs.YtlmmjgekolpekaaGreatDoor
namespace Go.Proofs.YtlmmjgekolpekaaGreatDoor
open Go Go.RowKit Hst Go.Proofs Go.MapKept
def zen (l:List (Int × Value)) (g:Int):Option Value:=(l.find? fun p=>p.1==g).map (·.2)
def zeB (l:List (Int × Value)) (g:Int) (v:Value):List (Int × Value):=if l.any (fun p=>p.1==g) then l.map (fun p=>if p.1==g then (g,v) else p) else l++[(g,v)]
theorem zcj {K:IntKind} {es:Array MapEntry} {l:List (Int × Value)} (he:es.toList.map (fun e=>(e.key,e.val))=l.map (fun p=>(Value.int K p.1,p.2))) (g:Int) :
  (∀ x∈es.toList,IsKey (.int K) x.key)∧((Instr.findNow (.int K) (.int K g) es.toList 0=some none∧(∀ x∈es.toList,x.key≠.int K g)∧∀ p∈l,p.1≠g) ∨
   ∃ j e v,Instr.findNow (.int K) (.int K g) es.toList 0=some (some (j,v))∧es.toList[j]?=some e∧e.key=.int K g∧e.val=v∧l[j]?=some (g,v)):=by
 have hat:∀ (j:Nat) (e:MapEntry),es.toList[j]?=some e→∃ p:Int × Value,l[j]?=some p∧e.key=Value.int K p.1∧e.val=p.2:=by
  intro j e hj
  have h1:(es.toList.map (fun e=>(e.key,e.val)))[j]?=some (e.key,e.val):=by rw [List.getElem?_map,hj];rfl
  rw [he,List.getElem?_map,Option.map_eq_some_iff] at h1
  obtain ⟨p,hp,hpe⟩:=h1
  exact ⟨p,hp,(congrArg Prod.fst hpe).symm,(congrArg Prod.snd hpe).symm⟩
 have hks:∀ x∈es.toList,IsKey (.int K) x.key:=by
  intro x hx
  obtain ⟨j,hj⟩:=List.getElem?_of_mem hx
  obtain ⟨p,_,hp,_⟩:=hat j x hj
  rw [hp]
  exact rfl
 refine ⟨hks,?_⟩
 rcases findNow_spec (d:=.int K) (k:=.int K g) rfl es.toList 0 hks with ⟨h1,h2⟩ | ⟨j,e,h1,h3,h4⟩
 ·refine .inl ⟨h1,h2,fun p hp=>?_⟩
  have hm2:(Value.int K p.1,p.2)∈es.toList.map (fun e=>(e.key,e.val)):=by rw [he];exact List.mem_map.2 ⟨p,hp,rfl⟩
  obtain ⟨x,hx,hxe⟩:=List.mem_map.1 hm2
  have hkx:x.key=.int K p.1:=congrArg Prod.fst hxe
  intro e
  exact h2 x hx (by rw [hkx,e])
 ·obtain ⟨p,hp,hpk,hpv⟩:=hat j e h3
  have hpg:p.1=g:=by rw [h4] at hpk;injection hpk with _ e;exact e.symm
  exact .inr ⟨j,e,e.val,by simpa using h1,h3,h4,rfl,by rw [hp,← hpg,hpv]⟩
theorem zdU {l:List (Int × Value)} {g:Int} (h:∀ p∈l,p.1≠g):zen l g=none:=by
 unfold zen
 rw [List.find?_eq_none.2 (fun p hp=>by simpa using h p hp)]
 rfl
theorem zc8 {l:List (Int × Value)} {g:Int} {v:Value} (hN:(l.map (·.1)).Nodup) (h:(g,v)∈l):zen l g=some v:=by
 induction l with
 | nil=>cases h
 | cons a t ih =>
  unfold zen
  rw [List.find?_cons]
  rw [List.map_cons,List.nodup_cons] at hN
  by_cases ha:a.1=g
  ·rcases List.mem_cons.1 h with e | e
   ·rw [← e];simp
   ·exact absurd (List.mem_map.2 ⟨_,e,rfl⟩) (by rw [← ha] ;exact hN.1)
  ·have:(a.1==g)=false:=by simpa using ha
   rw [this]
   rcases List.mem_cons.1 h with e | e
   ·exact absurd (by rw [← e]) ha
   ·exact ih hN.2 e
theorem zcF {l:List (Int × Value)} {g:Int} {v:Value} (h:zen l g=some v):(g,v)∈l:=by
 unfold zen at h
 obtain ⟨p,hp,rfl⟩:=Option.map_eq_some_iff.1 h
 have h1:=List.find?_some hp
 have h2:=List.mem_of_find?_eq_some hp
 simp only [beq_iff_eq] at h1
 rw [← h1]
 exact h2
section
variable {P:Program} {K:IntKind} {mty kt et ty:TypeId} {w:World} {r:Nat} {l:List (Int × Value)}
theorem IMap.look (hm:P.underlying mty=some (.map kt et)) (hd:P.underlying kt=some (.int K)) {z:Value} (hz:∀ w,(zeroValue et).run P w=.ok z w) (h:IMap K w r l) (hN:(l.map (·.1)).Nodup) (g:Int) :
  (Instr.lookup mty (.map (some r)) (.int K g) false).run P w=.ok ((zen l g).getD z) w:=by
 obtain ⟨es,clock,hb,he,hnd,hlt⟩:=h
 have hk:IsKey (.int K) (.int K g):=rfl
 obtain ⟨hks,h2⟩:=zcj he g
 rcases h2 with ⟨h1,_,h2⟩ | ⟨j,e,v,h1,h3,h4,h5,h6⟩
 ·rw [zdU h2]
  simp [Instr.lookup,run_underlying hm,MapKept.run_getObj_map hb,run_checkKey hd hk,run_findKey hd h1,Result.andThen,hz]
 ·rw [zc8 hN (List.mem_of_getElem? h6)]
  simp [Instr.lookup,run_underlying hm,MapKept.run_getObj_map hb,run_checkKey hd hk,run_findKey hd h1,Result.andThen]
theorem IMap.lookOk (hm:P.underlying mty=some (.map kt et)) (hd:P.underlying kt=some (.int K)) {z:Value} (hz:∀ w,(zeroValue et).run P w=.ok z w) (h:IMap K w r l) (hN:(l.map (·.1)).Nodup) (g:Int) :
  (Instr.lookup mty (.map (some r)) (.int K g) true).run P w=.ok (.tuple #[(zen l g).getD z,.bool (zen l g).isSome]) w:=by
 obtain ⟨es,clock,hb,he,hnd,hlt⟩:=h
 have hk:IsKey (.int K) (.int K g):=rfl
 obtain ⟨hks,h2⟩:=zcj he g
 rcases h2 with ⟨h1,_,h2⟩ | ⟨j,e,v,h1,h3,h4,h5,h6⟩
 ·rw [zdU h2]
  simp [Instr.lookup,run_underlying hm,MapKept.run_getObj_map hb,run_checkKey hd hk,run_findKey hd h1,Result.andThen,hz]
 ·rw [zc8 hN (List.mem_of_getElem? h6)]
  simp [Instr.lookup,run_underlying hm,MapKept.run_getObj_map hb,run_checkKey hd hk,run_findKey hd h1,Result.andThen]
theorem IMap.len (hm:P.underlying mty=some (.map kt et)) (h:IMap K w r l):(Builtin.len_ #[mty] ty #[.map (some r)]).run P w=.ok (.int .i64 l.length) w:=by
 obtain ⟨es,clock,hb,he,hnd,hlt⟩:=h
 have hlen:es.size=l.length:=by simpa using congrArg List.length he
 rw [← hlen]
 simp [Builtin.len_,run_underlying hm,MapKept.run_getObj_map hb,goInt,Result.andThen]
theorem zd3 {α β:Type} (f:α→β) (u:α→α) (j:Nat) (l:List α) (e:α) (he:l[j]?=some e):(l.modify j u).map f=(l.map f).set j (f (u e)):=by
 apply List.ext_getElem?
 intro i
 by_cases hi:j=i
 ·subst hi
  have hl:=(List.getElem?_eq_some_iff.1 he).1
  rw [List.getElem?_map,List.getElem?_modify_eq,he,List.getElem?_set_self (by simpa using hl)]
  rfl
 ·rw [List.getElem?_map,List.getElem?_modify_ne _ _ hi,List.getElem?_set_ne hi,List.getElem?_map]
theorem imPut_at:∀ (l:List (Int × Value)) (j:Nat) (g:Int) (v u:Value),(l.map (·.1)).Nodup→l[j]?=some (g,v)→zeB l g u=l.set j (g,u):=by
 intro l j g v u hN hj
 have hany:l.any (fun p=>p.1==g)=true:=List.any_eq_true.2 ⟨(g,v),List.mem_of_getElem? hj,by simp⟩
 unfold zeB
 rw [if_pos hany]
 clear hany
 induction l generalizing j with
 | nil=>simp at hj
 | cons a t ih =>
  rw [List.map_cons,List.nodup_cons] at hN
  cases j with
  | zero =>
   simp at hj
   subst hj
   rw [List.map_cons,List.set_cons_zero]
   congr 1
   ·simp
   ·conv=>rhs;rw [← List.map_id t]
    refine List.map_congr_left fun p hp=>?_
    have:p.1≠g:=fun e=>hN.1 (List.mem_map.2 ⟨p,hp,e⟩)
    simp [this]
  | succ j =>
   simp only [List.getElem?_cons_succ] at hj
   have hne:a.1≠g:=fun e=>hN.1 (by rw [e];exact List.mem_map.2 ⟨_,List.mem_of_getElem? hj,rfl⟩)
   rw [List.map_cons,List.set_cons_succ,ih j hN.2 hj]
   simp [hne]
theorem IMap.put (hm:P.underlying mty=some (.map kt et)) (hd:P.underlying kt=some (.int K)) (h:IMap K w r l) (hN:(l.map (·.1)).Nodup) (g:Int) (v:Value) :
  ∃ w',(Instr.mapUpdate mty (.map (some r)) (.int K g) v).run P w=.ok () w'∧IMap K w' r (zeB l g v)∧Mod (·=r) w w':=by
 obtain ⟨es,clock,hb,he,hnd,hlt⟩:=h
 have hk:IsKey (.int K) (.int K g):=rfl
 obtain ⟨hks,h2⟩:=zcj he g
 have hmod:∀ o,Mod (·=r) w { w with heap:=w.heap.setIfInBounds r o }:=fun o=>⟨rfl,rfl,rfl,by simp,fun x _ hx=>(heap_set hb).2 x hx⟩
 rcases h2 with ⟨h1,_,h2⟩ | ⟨j,e,u,h1,h3,h4,h5,h6⟩
 ·refine ⟨{ w with heap:=w.heap.setIfInBounds r (.map (es.push { key:=.int K g,val:=v,born:=clock }) (clock+1)) },by simp [Instr.mapUpdate,run_underlying hm,MapKept.run_getObj_map hb,run_checkKey hd hk,run_findKey hd h1,run_setObj_map _ hb,Result.andThen],⟨_,_,(heap_set hb).1,?_,?_,?_⟩,hmod _⟩
  ·have:l.any (fun p=>p.1==g)=false:=List.any_eq_false.2 (fun p hp=>by simpa using h2 p hp)
   unfold zeB
   rw [if_neg (by rw [this];decide)]
   simp [he]
  ·simp only [Array.toList_push,List.map_append,List.map_cons,List.map_nil]
   refine List.nodup_append.2 ⟨hnd,by simp,fun a ha b hb'=>?_⟩
   simp at hb'
   subst hb'
   obtain ⟨x,hx,rfl⟩:=List.mem_map.1 ha
   have:=hlt x hx
   omega
  ·intro x hx
   simp only [Array.toList_push,List.mem_append,List.mem_singleton] at hx
   rcases hx with hx | rfl
   ·have:=hlt x hx;omega
   ·simp
 ·have hj:es[j]?=some e:=by simpa using h3
  refine ⟨{ w with heap:=w.heap.setIfInBounds r (.map (es.modify j fun e=>{ e with key:=.int K g,val:=v }) clock) },by simp [Instr.mapUpdate,run_underlying hm,MapKept.run_getObj_map hb,run_checkKey hd hk,run_findKey hd h1,hj,h4,run_keyThatStays hk,run_setObj_map _ hb,Result.andThen],⟨_,_,(heap_set hb).1,?_,?_,?_⟩,hmod _⟩
  ·rw [Array.toList_modify,zd3 _ _ j es.toList e h3,he,imPut_at l j g u v hN h6,List.map_set]
  ·rw [Array.toList_modify,zd3 _ _ j es.toList e h3]
   have:(es.toList.map (·.born))[j]?=some e.born:=by rw [List.getElem?_map,h3];rfl
   have e2:(es.toList.map (·.born)).set j e.born=es.toList.map (·.born):=by
    obtain ⟨hl,hv⟩:=List.getElem?_eq_some_iff.1 this
    rw [← hv]
    exact List.set_getElem_self hl
   show ((es.toList.map (·.born)).set j e.born).Nodup
   rw [e2]
   exact hnd
  ·intro x hx
   rw [Array.toList_modify] at hx
   obtain ⟨i,hi⟩:=List.getElem?_of_mem hx
   by_cases hji:j=i
   ·subst hji
    rw [List.getElem?_modify_eq,h3] at hi
    simp at hi
    subst hi
    exact hlt e (List.mem_of_getElem? h3)
   ·rw [List.getElem?_modify_ne _ _ hji] at hi
    exact hlt x (List.mem_of_getElem? hi)
end
theorem IMap.same {K:IntKind} {w w':World} {r:Nat} {l:List (Int × Value)} (h:IMap K w r l) (e:w'.heap=w.heap):IMap K w' r l:=h.congr (by rw [e])
theorem WAt.nw {F:Fix} {V:Vol} {ow:Nat→Nat} {w:World} {p:Wd} (h:WAt F V ow w p):nWords p.P p.M p.G≤65536:=by
 obtain ⟨_,_,_,_,_,_⟩:=h.dim
 unfold nWords;omega
theorem On.then_ {F:Fix} {V V':Vol} {ow0 ow ow':Nat→Nat} {w0 w w':World} {p p':Wd} (h:On F V ow0 w0 ow w p) (k:On F V' ow w ow' w' p'):On F V' ow0 w0 ow' w' p':=⟨k.at_,h.st.trans k.st⟩
theorem On.keeps {F:Fix} {V:Vol} {ow0 ow:Nat→Nat} {w0 w:World} {p:Wd} (h:On F V ow0 w0 ow w p) {b o:Nat} {v:Value} (hb:ow0 b=0) (hc:w0.cell? ⟨b,o,none⟩=some v):w.cell? ⟨b,o,none⟩=some v :=
 (World.cell?_of_block (w:=w0) (a:=⟨b,o,none⟩) (h.st.block b (World.block_lt_of_cell? w0 _ hc) hb)).trans hc
theorem zaG (ow:Nat→Nat) (s k:Nat):grow ow s k s=k:=if_neg (by omega)
section
variable {F:Fix} {V:Vol} {ow:Nat→Nat} {w:World} {p:Wd}
theorem load_on (h:WAt F V ow w p) (a:Nat) (ha:a<nWords p.P p.M p.G) :
  Calls Tryz.prog 81 #[.pointer (some ⟨F.mem,0,none⟩),.int .i64 a] w fun e w'=>e=.returned (.int .u64 (p.ld a:Nat))∧On F V ow w ow w' p.acc:=by
 have m0:=h.cM_ws
 have m1:=h.cM_cnt
 have cs:=h.cS ha
 have fM:=h.cmem.2
 have fS:=h.cws.2
 have hne:=h.own.ne.2.2.2.2.2.2.1
 have lM:=h.cmem.lt (by decide)
 have lS:=h.cws.lt (by unfold nWords;omega)
 have hn:=h.nw
 have H:=Lib.hid h
 clear h
 go_enter Tryz.func81,Tryz.ntmps81
 go_wp2
 go_ret
 exact ⟨rfl,(On.start H.out).s_acc⟩
theorem store_on (h:WAt F V ow w p) (a:Nat) (ha:a<nWords p.P p.M p.G) (x:Nat) (hx:x<18446744073709551616) :
  Calls Tryz.prog 215 #[.pointer (some ⟨F.mem,0,none⟩),.int .i64 a,.int .u64 x] w fun e w'=>e=.returned (.bool true)∧On F V ow w ow w' (p.st a x):=by
 have m0:=h.cM_ws
 have m1:=h.cM_cnt
 have cs:=h.cS ha
 have fM:=h.cmem.2
 have fS:=h.cws.2
 have hne:=h.own.ne.2.2.2.2.2.2.1
 have lM:=h.cmem.lt (by decide)
 have lS:=h.cws.lt (by unfold nWords;omega)
 have hn:=h.nw
 have H:=Lib.hid h
 clear h
 go_enter Tryz.func215,Tryz.ntmps215
 go_wp2
 go_ret
 exact ⟨rfl,(On.start H.out).s_acc.s_word ha _ _ rfl hx⟩
theorem zcO (h:WAt F V ow w p) (a:Nat) (ha:a<nWords p.P p.M p.G) (o x:Nat) (hx:x<18446744073709551616) :
  Calls Tryz.prog 161 #[.pointer (some ⟨F.mem,0,none⟩),.int .i64 a,.int .u64 o,.int .u64 x] w fun e w'=>e=.returned (.bool (p.ld a==o))∧On F V ow w ow w' (p.swap a o x):=by
 have m0:=h.cM_ws
 have m1:=h.cM_cnt
 have cs:=h.cS ha
 have fM:=h.cmem.2
 have fS:=h.cws.2
 have hne:=h.own.ne.2.2.2.2.2.2.1
 have lM:=h.cmem.lt (by decide)
 have lS:=h.cws.lt (by unfold nWords;omega)
 have hn:=h.nw
 have H:=Lib.hid h
 clear h
 by_cases he:p.ld a=o
 ·subst he
  go_enter Tryz.func161,Tryz.ntmps161
  go_wp2
  all_goals go_ret
  all_goals exact ⟨by rw [beq_self_eq_true];rfl,by unfold Wd.swap;rw [if_pos rfl];exact (On.start H.out).s_acc.s_word ha _ _ rfl hx⟩
 ·have e1:((p.ld a:Int)==(o:Int))=false:=by rw [beq_eq_false_iff_ne];omega
  have e2:(p.ld a==o)=false:=by rw [beq_eq_false_iff_ne];exact he
  have He:=Lib.hid he
  clear he
  go_enter Tryz.func161,Tryz.ntmps161
  go_wp2
  all_goals go_ret
  all_goals exact ⟨by rw [e2];rfl,by unfold Wd.swap;rw [if_neg He.out];exact (On.start H.out).s_acc⟩
theorem more_on (h:WAt F V ow w p) (a:Nat) (ha:a<nWords p.P p.M p.G) :
  Calls Tryz.prog 180 #[.pointer (some ⟨F.mem,0,none⟩),.int .i64 a,.int .i64 1] w fun e w'=>e=.returned (.int .u64 (((p.ld a+1) % 2^64:Nat):Int))∧On F V ow w ow w' (p.more a):=by
 have m0:=h.cM_ws
 have m1:=h.cM_cnt
 have cs:=h.cS ha
 have fM:=h.cmem.2
 have fS:=h.cws.2
 have hne:=h.own.ne.2.2.2.2.2.2.1
 have lM:=h.cmem.lt (by decide)
 have lS:=h.cws.lt (by unfold nWords;omega)
 have hn:=h.nw
 have hx:p.ld a<18446744073709551616:=h.wsb a
 have H:=Lib.hid h
 clear h
 go_enter Tryz.func180,Tryz.ntmps180
 go_wp2
 go_ret
 have e1:IntKind.u64.wrap ((p.ld a:Nat)+1:Int)=(((p.ld a+1) % 2^64:Nat):Int):=by rw [IntKind.wrap_u64];omega
 rw [e1]
 exact ⟨rfl,(On.start H.out).s_acc.s_word ha _ _ rfl (by omega)⟩
theorem less_on (h:WAt F V ow w p) (a:Nat) (ha:a<nWords p.P p.M p.G) :
  Calls Tryz.prog 180 #[.pointer (some ⟨F.mem,0,none⟩),.int .i64 a,.int .i64 (-1)] w fun e w'=>∃ v,e=.returned v∧On F V ow w ow w' (p.less a):=by
 have m0:=h.cM_ws
 have m1:=h.cM_cnt
 have cs:=h.cS ha
 have fM:=h.cmem.2
 have fS:=h.cws.2
 have hne:=h.own.ne.2.2.2.2.2.2.1
 have lM:=h.cmem.lt (by decide)
 have lS:=h.cws.lt (by unfold nWords;omega)
 have hn:=h.nw
 have hx:p.ld a<18446744073709551616:=h.wsb a
 have H:=Lib.hid h
 clear h
 go_enter Tryz.func180,Tryz.ntmps180
 go_wp2
 go_ret
 have e1:IntKind.u64.wrap ((p.ld a:Nat)+IntKind.u64.wrap (-1))=(((p.ld a+(2^64 - 1)) % 2^64:Nat):Int):=by rw [IntKind.wrap_u64,IntKind.wrap_u64];omega
 rw [e1]
 exact ⟨_,rfl,(On.start H.out).s_acc.s_word ha _ _ rfl (by omega)⟩
theorem held_on (h:WAt F V ow w p) (a:Int) (b t:Nat) (hb:b<nWords p.P p.M p.G) (ht:t<18446744073709551616) :
  Calls Tryz.prog 195 #[.agg #[.int .i64 a,.int .i64 b],.pointer (some ⟨F.mem,0,none⟩),.int .u64 t] w fun e w'=>e=.returned (.bool (p.ld b==t))∧∃ ow',On F V ow w ow' w' p.acc:=by
 have hx:p.ld b<18446744073709551616:=h.wsb b
 have e0:(IntKind.u64.wrap ((t:Int) - (p.ld b:Int))==0)=(p.ld b==t):=by
  rw [Bool.eq_iff_iff,beq_iff_eq,beq_iff_eq,IntKind.wrap_u64];omega
 have H:=Lib.hid h
 have E:=Lib.hid e0
 clear h e0
 go_enter Tryz.func195,Tryz.ntmps195
 go_wp2_with (first | (go_at_call 219;go_in) | fail)
 refine (load_on (((On.start H.out).alloc _).alloc _).at_ b hb).mono ?_
 rintro e w1 ⟨rfl,h1⟩
 go_wp2
 go_ret
 exact ⟨by rw [← E.out];rfl,_,(((On.start H.out).alloc _).alloc _).then_ h1⟩
theorem free_on (h:WAt F V ow w p) (a:Int) (b t:Nat) (hb:b<nWords p.P p.M p.G) (ht:t<18446744073709551616) (he:p.ld b=t) :
  Calls Tryz.prog 196 #[.agg #[.int .i64 a,.int .i64 b],.pointer (some ⟨F.mem,0,none⟩),.int .u64 t] w fun e w'=>e=.returned (.bool true)∧∃ ow',On F V ow w ow' w' (p.acc.st b ((t+1) % 2^64)):=by
 have e1:(p.ld b==t)=true:=by rw [beq_iff_eq];exact he
 have H:=Lib.hid h
 clear h he
 go_enter Tryz.func196,Tryz.ntmps196
 go_wp2_with fail
 refine (held_on ((On.start H.out).alloc _).at_ a b t hb ht).mono ?_
 rintro e w1 ⟨rfl,ow1,h1⟩
 have c0:=h1.keeps (b:=w.heap.size) (o:=1) (v:=.int .i64 b) (zaG _ _ _) (by rw [zak];rfl)
 have H1:=Lib.hid (((On.start H.out).alloc _).then_ h1)
 rw [e1]
 clear e1 h1
 go_wp2_with fail
 have e2:IntKind.u64.wrap ((t:Int)+1)=(((t+1) % 2^64:Nat):Int):=by rw [IntKind.wrap_u64];omega
 rw [e2]
 refine (store_on H1.out.at_ b hb _ (by omega)).mono ?_
 rintro e w2 ⟨rfl,h2⟩
 go_wp2
 go_ret
 exact ⟨rfl,_,H1.out.then_ h2⟩
end
def zex:Nat→List Nat
 | 0=>[1]
 | 1=>[2]
 | 2=>[1,3,4,5,6]
 | 3=>[1]
 | 4=>[1]
 | 5=>[1]
 | _=>[]
def lockK:Nat→Nat
 | 2 | 4 | 7 | 10 | 11 | 13 | 15 | 18 | 23 | 27=>1
 | 3 | 17 | 28=>2
 | 6=>3
 | 9=>4
 | 14 | 25 | 29 | 30=>5
 | _=>0
structure Tabs (N:Nat) (w:World):Prop where
 lt:3≤N
 le:N≤w.heap.size
 next:∀ k,k<6→∃ b o c,b<N∧w.cell? ⟨0,k,none⟩=some (.slice (some ⟨b,o,none⟩) (zex k).length c)∧(zex k).length≤c∧∀ j,j<(zex k).length→w.cell? ⟨b,o+j,none⟩=some (.int .u64 ((zex k).getD j 0:Nat))
 all:∀ k,k<8→∃ s x y,w.cell? ⟨1,k*3,none⟩=some (.string s)∧w.cell? ⟨1,k*3+1,none⟩=some (.int .u64 x)∧w.cell? ⟨1,k*3+2,none⟩=some (.int .u64 y)
 tz:∀ j,j<64→w.cell? ⟨3,j,none⟩=some (.int .u8 (Lib.deBruijn64tab.getD j 0:Nat))
 tzlt:3<N
 places:∀ k,k<31→∃ s,w.cell? ⟨2,k*2,none⟩=some (.string s)∧w.cell? ⟨2,k*2+1,none⟩=some (.int .i64 (lockK k:Nat))
theorem Tabs.below {N:Nat} {w w':World} (h:Tabs N w) (hb:∀ b,b<N→w'.heap[b]?=w.heap[b]?) (hs:N≤w'.heap.size):Tabs N w':=by
 have hc:∀ b o,b<N→w'.cell? ⟨b,o,none⟩=w.cell? ⟨b,o,none⟩:=fun b o hlt=>World.cell?_of_block (a:=⟨b,o,none⟩) (hb b hlt)
 have h3:=h.lt
 have htz:=h.tzlt
 refine ⟨h.lt,hs,fun k hk=>?_,fun k hk=>?_,fun j hj=>by rw [hc _ _ htz];exact h.tz j hj,htz,fun k hk=>?_⟩
 ·obtain ⟨b,o,c,h1,h2,h3',h4⟩:=h.next k hk
  exact ⟨b,o,c,h1,by rw [hc _ _ (by omega)];exact h2,h3',fun j hj=>by rw [hc _ _ h1];exact h4 j hj⟩
 ·obtain ⟨s,x,y,h1,h2,h3'⟩:=h.all k hk
  exact ⟨s,x,y,by rw [hc _ _ (by omega)];exact h1,by rw [hc _ _ (by omega)];exact h2,by rw [hc _ _ (by omega)];exact h3'⟩
 ·obtain ⟨s,h1,h2⟩:=h.places k hk
  exact ⟨s,by rw [hc _ _ (by omega)];exact h1,by rw [hc _ _ (by omega)];exact h2⟩
theorem Tabs.alloc {N:Nat} {w:World} (h:Tabs N w) (o:Obj):Tabs N (w.alloc o) :=
 h.below (fun b hb=>Below.heap_alloc w o b (Nat.lt_of_lt_of_le hb h.le)) (by have:=h.le;simp;omega)
theorem Tabs.of_below {N B:Nat} {w w':World} (h:Tabs N w) (hb:Below B w w') (hN:N≤B):Tabs N w' :=
 h.below (fun b hlt=>hb.block b (Nat.lt_of_lt_of_le hlt hN)) (Nat.le_trans h.le hb.size)
structure Env (N:Nat) (ow:Nat→Nat) (w:World):Prop where
 tabs:Tabs N w
 low:∀ b,b<N→ow b=0
theorem Env.on {N:Nat} {F:Fix} {V:Vol} {ow ow':Nat→Nat} {w w':World} {p:Wd} (h:Env N ow w) (k:On F V ow w ow' w' p):Env N ow' w':=by
 have hle:=h.tabs.le
 exact ⟨h.tabs.below (fun b hb=>k.st.block b (by omega) (h.low b hb)) (Nat.le_trans hle k.st.size),fun b hb=>(k.st.own b (by omega)).trans (h.low b hb)⟩
theorem legal_any (a b:Nat) (hl:b∈zex a) (N:Nat) (w:World) (h:Tabs N w) :
  Calls Tryz.prog 36 #[.int .u64 a,.int .u64 b] w fun e w'=>e=.returned (.bool true)∧w'=w:=by
 have ha:a<6:=by
  rcases Nat.lt_or_ge a 6 with h | h
  ·exact h
  ·match a,h with
   | n+6,_=>simp [zex] at hl
 obtain ⟨x,o,c,_,c0,hcap,hr⟩:=h.next a ha
 clear h
 match a,ha with
 | 0,_ | 1,_ | 3,_ | 4,_ | 5,_ =>
  simp only [zex,List.mem_cons,List.not_mem_nil,or_false] at hl
  subst hl
  have r0:=hr 0 (by decide)
  simp only [zex,List.length_cons,List.length_nil,List.getD_cons_zero,Nat.add_zero] at c0 r0
  clear hr
  go_enter Tryz.func36,Tryz.ntmps36
  go_wp2
  go_rounds 2
  all_goals go_returns
  all_goals exact ⟨rfl,rfl⟩
 | 2,_ =>
  have r0:=hr 0 (by decide)
  have r1:=hr 1 (by decide)
  have r2:=hr 2 (by decide)
  have r3:=hr 3 (by decide)
  have r4:=hr 4 (by decide)
  simp only [zex,List.length_cons,List.length_nil,List.getD_cons_zero,List.getD_cons_succ,Nat.add_zero] at c0 r0 r1 r2 r3 r4
  clear hr
  simp only [zex,List.mem_cons,List.not_mem_nil,or_false] at hl
  rcases hl with rfl | rfl | rfl | rfl | rfl
  all_goals (
   go_enter Tryz.func36,Tryz.ntmps36
   go_wp2
   go_rounds 6
   all_goals go_returns
   all_goals exact ⟨rfl,rfl⟩)
theorem zbZ {N:Nat} {F:Fix} {V:Vol} {ow:Nat→Nat} {w:World} {p:Wd} (h:WAt F V ow w p) (E:Env N ow w) (g:Int) (a b:Nat) (hl:b∈zex a) (_ha:a<6) (hb:b<7) :
  Calls Tryz.prog 126 #[.agg #[.int .i64 ((2*(p.P+2)+1+p.M:Nat):Int),.int .i64 p.G],.pointer (some ⟨F.mem,0,none⟩),.int .i64 g,.int .u64 a,.int .u64 b] w fun e w' =>
   e=.returned (.bool (p.moved g a))∧∃ ow',On F V ow w ow' w' (p.move g a b):=by
 have hd:=h.dim
 have hL:=fun w h=>legal_any a b hl N w h
 have HL:=Lib.hid hL
 have H:=Lib.hid h
 have HE:=Lib.hid E
 clear h E hL hl
 by_cases hg:0≤g∧g<p.G
 ·obtain ⟨n,rfl⟩:∃ n:Nat,g=n:=⟨g.toNat,by omega⟩
  obtain ⟨hg1,hg2⟩:=hg
  have hw:p.statW n<nWords p.P p.M p.G:=by unfold Wd.statW nWords;omega
  have e1:p.moved n a=(p.ld (p.statW n)==a):=by unfold Wd.moved;simp [hg1,hg2]
  have e2:p.move n a b=p.swap (p.statW n) a b:=by unfold Wd.move;rw [if_pos ⟨hg1,hg2⟩];rfl
  have e3:((2*(p.P+2)+1+p.M:Nat):Int)+(n:Int)=((p.statW n:Nat):Int):=by unfold Wd.statW;omega
  rw [e1,e2]
  obtain ⟨s,hs⟩:∃ s,s=p.statW n:=⟨_,rfl⟩
  rw [← hs] at hw e3 ⊢
  obtain ⟨q,hq⟩:∃ q:Nat,q=2*(p.P+2)+1+p.M:=⟨_,rfl⟩
  rw [← hq] at e3 ⊢
  clear hs e1 e2 hd hq
  have E3:=Lib.hid e3
  have hsum:IntKind.i64.wrap ((q:Int)+(n:Int))=(s:Int):=by rw [e3];exact IntWalk.i64_in _ (by have:=H.out.nw;omega)
  clear e3
  go_enter Tryz.func126,Tryz.ntmps126
  go_wp2_with (first | (go_at_call 136;go_in) | (go_at_call 36;refine (HL.out _ ((HE.out.tabs.alloc _).alloc _)).mono ?_;rintro e w1 ⟨rfl,rfl⟩) | fail)
  refine (zcO (((On.start H.out).alloc _).alloc _).at_ s hw a b (by omega)).mono ?_
  rintro e w1 ⟨rfl,h1⟩
  go_wp2
  go_returns
  exact ⟨rfl,_,(((On.start H.out).alloc _).alloc _).then_ h1⟩
 ·have e1:p.moved g a=false:=by unfold Wd.moved;simp;intro h1 h2;exact absurd ⟨h1,h2⟩ hg
  have e2:p.move g a b=p:=by unfold Wd.move;rw [if_neg hg]
  rw [e1,e2]
  clear e1 e2
  by_cases h0:0≤g
  ·have h1:¬ g<p.G:=fun h=>hg ⟨h0,h⟩
   clear hg
   go_enter Tryz.func126,Tryz.ntmps126
   go_wp2
   go_returns
   exact ⟨rfl,_,((On.start H.out).alloc _).alloc _⟩
  ·clear hg
   go_enter Tryz.func126,Tryz.ntmps126
   go_wp2
   go_returns
   exact ⟨rfl,_,((On.start H.out).alloc _).alloc _⟩
def valOk (e:Ev):Bool:=decide (e.kind=5∨(e.kind=6∧0≤e.value∧e.value<65536)∨(e.kind≠5∧e.kind≠6∧e.value=0))
def zeh (e:Ev):Bool:=decide (0≤e.kind∧e.kind<8∧0≤e.g∧e.g<4096 ∧ -1≤e.m∧e.m<128 ∧ -1≤e.p∧e.p<64∧valOk e=true)
def evV (e:Ev):Value:=.agg #[.int .i64 e.kind,.int .i64 e.g,.int .i64 e.m,.int .i64 e.p,.int .i64 e.value]
theorem value_any (e:Ev) (w:World) :
  Calls Tryz.prog 189 #[evV e] w fun r w'=>r=.returned (.bool (valOk e))∧Below w.heap.size w w':=by
 obtain ⟨k,g,m,p,v⟩:=e
 simp only [evV]
 by_cases h5:k=5
 ·subst h5
  go_enter Tryz.func189,Tryz.ntmps189
  go_wp2
  all_goals go_ret
  all_goals refine ⟨congrArg (fun b=>Ending.returned (.bool b)) ?_,(Below.refl _ w).alloc (Nat.le_refl _) _⟩
  all_goals (show (_:Bool)=_)
  all_goals simp only [valOk]
  all_goals rw [Bool.eq_iff_iff]
  all_goals simp
 ·by_cases h6:k=6
  ·subst h6
   go_enter Tryz.func189,Tryz.ntmps189
   go_wp2
   all_goals go_ret
   all_goals refine ⟨congrArg (fun b=>Ending.returned (.bool b)) ?_,(Below.refl _ w).alloc (Nat.le_refl _) _⟩
   all_goals (show (_:Bool)=_)
   all_goals simp only [valOk]
   all_goals rw [Bool.eq_iff_iff]
   all_goals simp
   all_goals simp at *
   all_goals omega
  ·go_enter Tryz.func189,Tryz.ntmps189
   go_wp2
   all_goals go_ret
   all_goals refine ⟨congrArg (fun b=>Ending.returned (.bool b)) ?_,(Below.refl _ w).alloc (Nat.le_refl _) _⟩
   all_goals (show (_:Bool)=_)
   all_goals simp only [valOk]
   all_goals rw [Bool.eq_iff_iff]
   all_goals simp
   all_goals simp at *
   all_goals omega
theorem zaJ {B:Nat} {a w:World} (h:Below B a w) {i:Nat} (hi:i<B):w.heap[i]?=a.heap[i]?:=h.block i hi
theorem below_cell {B:Nat} {a w:World} (h:Below B a w) {i o:Nat} (hi:i<B):w.cell? ⟨i,o,none⟩=a.cell? ⟨i,o,none⟩:=by
 simp only [World.cell?,zaJ h hi]
theorem zaL {w w':World} {cs:Array Value} {t:TypeId} (h:Below (w.alloc (.cells cs t)).heap.size (w.alloc (.cells cs t)) w'):w'.heap[w.heap.size]?=some (.cells cs t (0,0)):=by
 rw [zaJ h (by simp)]
 show (w.heap.push _)[w.heap.size]?=_
 simp
theorem zaa {w:World} {b:Nat} {cs:Array Value} {t:TypeId} (h:w.heap[b]?=some (.cells cs t (0,0))) (o:Nat):w.cell? ⟨b,o,none⟩=cs[o]?:=Lib.cell_of_heap h o
theorem zaB {w:World} {b:Nat} {o:Obj} (h:w.heap[b]?=some o):b<w.heap.size:=(Array.getElem?_eq_some_iff.1 h).1
theorem of_any (k:Nat) (hk:k<8) (w:World) (N:Nat) (h:Tabs N w) :
  Calls Tryz.prog 88 #[.int .i64 k] w fun r w'=>(∃ s x y,r=.returned (.tuple #[.agg #[.string s,.int .u64 x,.int .u64 y],.bool true]))∧Below w.heap.size w w':=by
 obtain ⟨s,x,y,c0,c1,c2⟩:=h.all k hk
 have hlt:1<w.heap.size:=Nat.lt_of_lt_of_le (Nat.lt_of_lt_of_le (by decide) h.lt) h.le
 clear h
 go_enter Tryz.func88,Tryz.ntmps88
 go_wp2
 go_returns
 exact ⟨⟨s,x,y,rfl⟩,by go_grown⟩
theorem of_none (k:Int) (hk:¬ (0≤k∧k<8)) (w:World) :
  Calls Tryz.prog 88 #[.int .i64 k] w fun r w'=>r=.returned (.tuple #[.agg #[.string ⟨#[]⟩,.int .u64 0,.int .u64 0],.bool false])∧Below w.heap.size w w':=by
 by_cases h0:k<0
 ·go_enter Tryz.func88,Tryz.ntmps88
  go_wp2
  go_returns
  exact ⟨rfl,by go_grown⟩
 ·have h8:8≤k:=by omega
  go_enter Tryz.func88,Tryz.ntmps88
  go_wp2
  go_returns
  exact ⟨rfl,by go_grown⟩
theorem right_any (e:Ev) (w:World) (N:Nat) (h:Tabs N w) :
  Calls Tryz.prog 162 #[evV e] w fun r w'=>r=.returned (.bool (zeh e))∧Below w.heap.size w w':=by
 obtain ⟨k,g,m,p,v⟩:=e
 simp only [evV]
 by_cases hk:0≤k∧k<8
 ·obtain ⟨n,rfl⟩:∃ n:Nat,k=n:=⟨k.toNat,by omega⟩
  have hn:n<8:=by omega
  have hv:=fun w=>value_any ⟨(n:Int),g,m,p,v⟩ w
  simp only [evV] at hv
  go_enter Tryz.func162,Tryz.ntmps162
  go_wp2_with (go_at_call 88;refine (of_any n hn _ N (h.alloc _)).mono ?_)
  rintro e w1 ⟨⟨s,x,y,rfl⟩,hb⟩
  have hx:=zaL hb
  have hlt:=zaB hx
  have hb0:Below w.heap.size w w1:=((Below.refl _ w).alloc (Nat.le_refl _) _).trans (hb.mono (by simp))
  have c0:=zaa hx 0
  have c1:=zaa hx 1
  have c2:=zaa hx 2
  have c3:=zaa hx 3
  have c4:=zaa hx 4
  simp only [List.getElem?_toArray,List.getElem?_cons_zero,List.getElem?_cons_succ] at c0 c1 c2 c3 c4
  clear hx hb
  go_wp2_with (go_at_call 189;refine (hv _).mono ?_;rintro e w' ⟨rfl,hb⟩)
  all_goals go_returns
  all_goals refine ⟨congrArg (fun b=>Ending.returned (.bool b)) ?_,?_⟩
  any_goals first | exact (hb0.alloc (by omega) _).trans (hb.mono (by simp;omega)) | exact hb0.alloc (by omega) _
  all_goals (show (_:Bool)=_)
  all_goals simp only [zeh]
  all_goals generalize valOk _=b
  all_goals cases b
  all_goals simp
  all_goals simp at *
  all_goals omega
 ·go_enter Tryz.func162,Tryz.ntmps162
  go_wp2_with (go_at_call 88;refine (of_none k hk _).mono ?_)
  rintro e w1 ⟨rfl,hb⟩
  have hlt:=zaB (zaL hb)
  have hb0:Below w.heap.size w w1:=((Below.refl _ w).alloc (Nat.le_refl _) _).trans (hb.mono (by simp))
  clear hb
  go_wp2
  go_returns
  refine ⟨congrArg (fun b=>Ending.returned (.bool b)) ?_,hb0.alloc (by omega) _⟩
  show false=_
  simp only [zeh]
  rw [eq_comm,decide_eq_false_iff_not]
  intro a
  exact hk ⟨a.1,a.2.1⟩
end Go.Proofs.YtlmmjgekolpekaaGreatDoor
