/- Parts of the proof. -/
import Derived.Test.YtlmmjgekolpekaaGreatDoorMPk08
import Derived.WalkLawsBesides
set_option linter.unusedVariables false
set_option linter.unusedSimpArgs false
set_option linter.unusedSectionVars false
set_option maxRecDepth 100000
set_option maxHeartbeats 6400000
namespace Go.Proofs.YtlmmjgekolpekaaGreatDoor
open Go Go.RowKit Hst Go.Proofs
theorem put_any (b:Nat) (r:Hst.Ring) (g:Int) (w:World) (h:RingAt b w r) :
  Calls Tryz.prog 230 #[.pointer (some ⟨b,0,none⟩),.int .i64 g] w fun e w' =>
   ∃ v,e=.returned v∧w'.ownsRow w.heap.size 3 1 v (r.put g).2.length (ints (r.put g).2)∧RingAt b w' (r.put g).1∧Mod (·=b) w w':=by
 obtain ⟨head,h⟩:=h
 have hl0:=h.len_le
 have hlt:=h.lt
 have c257:=h.csize
 obtain ⟨i0,hi,hz0,hz1,hz2⟩:=info_parts Tryz.infoInt
 have Hh:=Lib.hid h
 clear h
 by_cases hf:r.l.length=256
 ·have e1:((r.l.length:Int)==256)=true:=by simp;omega
  rw [hf] at c257
  have Hf:=Lib.hid hf
  clear hf e1
  go_enter Tryz.func230,Tryz.ntmps230
  go_wp2_with fail
  refine (zdk b 128 head r _ Hh.out (by have:=Hf.out;omega)).mono ?_
  rintro e w' ⟨v,rfl,hown,hr,hm⟩
  have hsz:=hm.size
  go_wp2_with (at_builtin;refine wpList_append_own _ rfl _ _ 45 rfl w.heap.size 3 i0 (.int .i64 0) 1 8 Tryz.underlying45 hi hz0 hz1 hz2 rfl (by decide) _ _ _ rfl (hown.alloc _) ⟨w'.heap.size,0,none⟩ 1 1 [.int .i64 g] rfl rfl (cell_one_new _ _ _) (by simp [Value.oneCell']) (by unfold maxLen;omega) (by omega) (by simp;omega) ?_;intro v' w2 hown2 hgrow _)
  go_ret
  have hf:=Hf.out
  have hnb:v.ownBlock≠some b:=fun e=>by have:=hown.lt b e;omega
  have hr2:RingH b w2 { r with l:=r.l.drop 128 } ((head+128) % 256):=hr.congr ((hgrow.block b (by have:=hr.lt;simp;omega) (Ne.symm hnb)).trans (Below.heap_alloc w' _ b hr.lt))
  refine ⟨_,rfl,?_,⟨_,by simpa [Ring.put,hf] using hr2⟩,?_⟩
  ·simpa [Ring.put,hf,ints] using hown2
  ·refine hm.trans (((Mod.refl _ w').alloc _).trans ⟨hgrow.os,hgrow.tape,hgrow.output,hgrow.size,fun x hx hn=>hgrow.block x hx (fun e=>?_)⟩)
   have:=hown.lt x e.symm
   exact hn (.inl (.inr this.1))
 ·have e1:((r.l.length:Int)==256)=false:=by simp;omega
  have Hf:=Lib.hid hf
  clear hf
  go_enter Tryz.func230,Tryz.ntmps230
  go_wp2_with fail
  have hf:=Hf.out
  refine (push_any b r head g _ Hh.out (by omega)).mono ?_
  clear hf
  rintro e w' ⟨rfl,hr,hm⟩
  go_wp2
  go_ret
  have hf:=Hf.out
  exact ⟨_,rfl,by simpa [Ring.put,hf,ints] using World.ownsRow_nil _ _ _ _,⟨_,by simpa [Ring.put,hf] using hr⟩,hm⟩
theorem ready_any (b:Nat) (r:Hst.Ring) (g:Int) (w:World) (h:RingAt b w r) :
  Calls Tryz.prog 209 #[.pointer (some ⟨b,0,none⟩),.int .i64 g] w fun e w' =>
   ∃ v,e=.returned v∧w'.ownsRow w.heap.size 3 1 v (r.ready g).2.length (ints (r.ready g).2)∧RingAt b w' (r.ready g).1∧Mod (·=b) w w':=by
 obtain ⟨head,h⟩:=h
 have c258:=h.cis
 have c259:=h.cnext
 have hfr:=h.fr
 have Hh:=Lib.hid h
 clear h
 obtain ⟨l,is,next,streak⟩:=r
 dsimp only at *
 have hh2:=(Hh.out.setNext g).setIs true
 have Hh2:=Lib.hid hh2
 clear hh2
 cases is
 ·go_enter Tryz.func209,Tryz.ntmps209
  go_wp2
  go_ret
  exact ⟨_,rfl,by simpa [Ring.ready,ints] using World.ownsRow_nil _ _ _ _,⟨_,by simpa [Ring.ready] using Hh2.out⟩,((Mod.refl _ w).setB _ _).setB _ _⟩
 ·go_enter Tryz.func209,Tryz.ntmps209
  go_wp2_with (go_at_call 229;go_in)
  refine (put_any b { l:=l,is:=true,next:=g,streak:=streak } next _ ⟨_,Hh2.out⟩).mono ?_
  rintro e w' ⟨v,rfl,hown,hr,hm⟩
  go_wp2
  go_ret
  refine ⟨_,rfl,by simpa [Ring.ready] using hown,by simpa [Ring.ready] using hr,(((Mod.refl _ w).setB _ _).setB _ _).trans1 hm⟩
theorem zea (g k n c:Nat) (l:List Int) (w:World) (hk:k≤n) (hl:l.length=n) (hn:n*8≤140737488355328) (hc:∀ j,j<n→w.cell? ⟨g,j,none⟩=some (.int .i64 (l.getD j 0))) (o:Nat) (ho:k<n→o=k) :
  Calls Tryz.prog 91 #[.slice (some ⟨g,o,none⟩) (n - k) c] w fun e w' =>
   ∃ v,e=.returned v∧w'.ownsRow w.heap.size 3 1 v (l.drop k).length (ints (l.drop k))∧Below w.heap.size w w':=by
 by_cases h:k<n
 ·obtain rfl:=ho h
  refine (Tryz.slices_Clone_int g o (n - o) c (l.drop o) w (by simp;omega) (by omega) (fun j hj=>?_)).mono ?_
  ·simp at hj
   rw [hc (o+j) (by omega)]
   simp [List.getD_eq_getElem?_getD]
  ·rintro e w' ⟨v,rfl,hown,_,hb⟩
   refine ⟨v,rfl,?_,hb⟩
   have e1:(l.drop o).length=n - o:=by simp;omega
   rw [e1]
   rwa [List.take_of_length_le (by omega)] at hown
 ·obtain rfl:k=n:=by omega
  have e1:l.drop k=[]:=List.drop_of_length_le (by omega)
  rw [Nat.sub_self,e1]
  refine (Tryz.slices_Clone_int_zero _ c w).mono ?_
  rintro e w' ⟨v,rfl,hown,_,hb⟩
  exact ⟨v,rfl,hown,hb⟩
theorem cut_min (l:List Int) (k m:Nat) (h:k=min l.length m):l.take k=l.take m∧l.drop k=l.drop m:=by
 rcases Nat.le_total l.length m with h1 | h1
 ·rw [List.take_of_length_le (by omega),List.take_of_length_le h1,List.drop_of_length_le (by omega),List.drop_of_length_le h1];exact ⟨rfl,rfl⟩
 ·rw [show k=m by omega];exact ⟨rfl,rfl⟩
theorem zbW {b k head:Nat} {r:Hst.Ring} {l:List Int} {w wr w':World} {v:Value} (hk:k=min l.length (256 - r.l.length)) (hr:RingH b wr { r with l:=r.l++l.take k } head) (hm:Mod (·=b) w wr)
  (hown:w'.ownsRow wr.heap.size 3 1 v (l.drop k).length (ints (l.drop k))) (hb:Below wr.heap.size wr w') :
  ∃ v',Ending.returned v=.returned v'∧w'.ownsRow w.heap.size 3 1 v' (r.putAll l).2.length (ints (r.putAll l).2)∧RingAt b w' (r.putAll l).1∧Mod (·=b) w w':=by
 obtain ⟨e1,e2⟩:=cut_min l k _ hk
 refine ⟨v,rfl,?_,⟨head,?_⟩,hm.trans1 (Mod.of_below hb _)⟩
 ·rw [e2] at hown
  obtain ⟨h1,h2⟩:=hown
  refine ⟨h1,?_⟩
  rcases h2 with h2 | ⟨g,cap,cur,hv,hg,rest⟩
  ·exact .inl h2
  ·exact .inr ⟨g,cap,cur,hv,Nat.le_trans hm.size hg,rest⟩
 ·rw [e1] at hr
  exact hr.congr (hb.block b hr.lt)
theorem putAll_any (b:Nat) (r:Hst.Ring) (base:Nat) (v0:Value) (l:List Int) (w:World) (h:RingAt b w r) (hown:w.ownsRow base 3 1 v0 l.length (ints l)) (hne:v0.ownBlock≠some b) (hbig:l.length≤4294967296) :
  Calls Tryz.prog 208 #[.pointer (some ⟨b,0,none⟩),v0] w fun e w' =>
   ∃ v,e=.returned v∧w'.ownsRow w.heap.size 3 1 v (r.putAll l).2.length (ints (r.putAll l).2)∧RingAt b w' (r.putAll l).1∧Mod (·=b) w w':=by
 obtain ⟨head,h⟩:=h
 have hl0:=h.len_le
 have hlt:=h.lt
 have c257:=h.csize
 have Hh:=Lib.hid h
 clear h
 rcases Nat.eq_zero_or_pos l.length with h0 | h0
 ·have hl:l=[]:=List.eq_nil_of_length_eq_zero h0
  subst hl
  have hm1:(0:Int)≤256 - (r.l.length:Int):=by omega
  have hm2:min (0:Int) (256 - (r.l.length:Int))=0:=by omega
  rcases hown.2 with ⟨rfl,_⟩ | ⟨g,cap,cur,rfl,_⟩
  ·go_enter Tryz.func208,Tryz.ntmps208
   go_wp2
   refine wp_loop_rounds 1 ?_
   rw [rounds_succ]
   go_wp2_with fail
   refine (Tryz.slices_Clone_int_nil _ _ _).mono ?_
   rintro e w' ⟨rfl,rfl⟩
   go_wp2
   go_ret
   exact zbW (k:=0) (by simp) (by simpa using Hh.out) (Mod.refl _ _) (by simpa [ints] using World.ownsRow_nil _ _ _ _) (Below.refl _ _)
  ·go_enter Tryz.func208,Tryz.ntmps208
   go_wp2
   refine wp_loop_rounds 1 ?_
   rw [rounds_succ]
   go_wp2_with fail
   refine (Tryz.slices_Clone_int_zero _ _ _).mono ?_
   rintro e w' ⟨v,rfl,hown2,_,hb⟩
   go_wp2
   go_ret
   exact zbW (k:=0) (by simp) (by simpa using Hh.out) (Mod.refl _ _) (by simpa [ints] using hown2) hb
 ·obtain ⟨g,cap,rfl,hgb,hgl,hcap⟩:=zar hown h0
  have hcell:∀ j,j<l.length→w.cell? ⟨g,j,none⟩=some (.int .i64 (l.getD j 0)):=fun j hj=>by
   rw [hown.cellAt j (by simpa using hj)];simp [ints,List.getD_eq_getElem?_getD,List.getElem?_eq_getElem hj]
  have hgn:g≠b:=fun e=>hne (by simp [Value.ownBlock,e])
  clear hown hne
  obtain ⟨n,hn⟩:∃ n,n=min l.length (256 - r.l.length):=⟨_,rfl⟩
  have hm1:min (l.length:Int) (256 - (r.l.length:Int))=(n:Int):=by omega
  have hn1:n≤l.length:=by omega
  have hn2:r.l.length+n≤256:=by omega
  have Hn:=Lib.hid hn
  clear hn
  go_enter Tryz.func208,Tryz.ntmps208
  go_wp2
  go_loopw [7,20] (fun _ i wr=>∃ k:Nat,k≤n∧i=.int .i64 k∧RingH b wr { r with l:=r.l++l.take k } head∧Mod (·=b) w wr) (fun _ i _=>n - (intOf i).toNat)
  case atStart=>exact ⟨0,Nat.zero_le _,rfl,by simpa using Hh.out,Mod.refl _ _⟩
  case round =>
   obtain ⟨k,hk,rfl,hr,hm⟩:=hrel
   by_cases hlt2:k<n
   ·have hx:wr.cell? ⟨g,k,none⟩=some (.int .i64 (l.getD k 0)):=hm.cell (a:=⟨g,k,none⟩) hgn (hcell k (by omega))
    have Hr:=Lib.hid hr
    have hx2:r.l++l.take (k+1)=(r.l++l.take k)++[l.getD k 0]:=by
     rw [List.take_succ_eq_append_getElem (show k<l.length by omega),List.append_assoc];simp [List.getD_eq_getElem?_getD,List.getElem?_eq_getElem (show k<l.length by omega)]
    have Hx:=Lib.hid hx2
    clear hx2
    clear hr
    clear hcell
    generalize l.getD k 0=x at *
    go_wp2_with fail
    refine (push_any b { r with l:=r.l++l.take k } head x _ Hr.out (by simp;omega)).mono ?_
    rintro e w' ⟨rfl,hr2,hm2⟩
    go_wp2
    go_roundw
    case rel=>exact ⟨k+1,by omega,by go_num,by rw [Hx.out];exact hr2,hm.trans1 hm2⟩
    case measure=>simp [intOf];omega
   ·obtain rfl:k=n:=by omega
    clear hlt2
    have Hr:=Lib.hid hr
    have hc3:∀ j,j<l.length→wr.cell? ⟨g,j,none⟩=some (.int .i64 (l.getD j 0)):=fun j hj=>hm.cell (a:=⟨g,j,none⟩) hgn (hcell j hj)
    have hclone:=zea g k l.length (cap - k) l wr hn1 rfl (by omega) hc3
    clear hr hcell hc3
    by_cases hcn:cap=k
    ·subst hcn
     go_wp2_with fail
     refine (Tryz.slices_Clone_int_zero ⟨g,0,none⟩ 0 wr).mono ?_
     rintro e w' ⟨v,rfl,hown,_,hb⟩
     go_wp2
     go_ret
     have e1:l.drop cap=[]:=List.drop_of_length_le (by omega)
     exact zbW Hn.out Hr.out hm (by rw [e1];exact hown) hb
    ·go_wp2_with fail
     refine (hclone k (fun _=>rfl)).mono ?_
     rintro e w' ⟨v,rfl,hown,hb⟩
     go_wp2
     go_ret
     exact zbW Hn.out Hr.out hm hown hb
end Go.Proofs.YtlmmjgekolpekaaGreatDoor
namespace Go.Proofs.YtlmmjgekolpekaaGreatDoor
open Go Go.RowKit Hst
theorem wpList_append_run {P:Program} {ops:Array Oper} {rest:List Oper} {o:Oper} {a:Act} {w w':World} {Q:Exit→Act→World→Prop} (hgd:o.guard=none) (s x:Operand) (t:TypeId)
  (ho:o.op=.call { callee:=.builtin .append,args:=#[s,x],argTypes:=#[t,t] }) (v vx v':Value) (hs:a.eval s=v) (hx:a.eval x=vx)
  (hr:(Builtin.append_ #[t,t] o.type #[v,vx]).run P w=.ok v' w') (h:wpList P ops Q rest (a.put o.dst v') w'):wpList P ops Q (o :: rest) a w :=
 wpList_plain hgd fun _ hK=>by
  unfold Oper.wp execOp
  simp only [ho,resolve,invoke,builtin,Sem.run_bind,Sem.run_pure,Result.andThen_ok,List.map_toArray,List.map_cons,List.map_nil,hs,hx,hr]
  exact hK _ _ h
theorem zac {w:World} {base e size n:Nat} {v:Value} {xs:List Value} (h:w.ownsRow base e size v n xs):∃ a c,v=.slice a n c:=by
 rcases h.2 with ⟨rfl,rfl⟩ | ⟨g,cap,cur,rfl,_⟩
 ·exact ⟨none,0,rfl⟩
 ·exact ⟨_,_,rfl⟩
theorem append_ints {P:Program} (t ty e:TypeId) (i:TypeInfo) (w:World) (base base2:Nat) (v vx:Value) (l xs:List Int) (ht:P.underlying t=some (.slice e)) (hi:P.info? e=some i) (hz:i.zero=some (.int .i64 0)) (hsize:i.size=1) (hby:i.bytes=8)
  (hown:w.ownsRow base e 1 v l.length (ints l)) (hx:w.ownsRow base2 e 1 vx xs.length (ints xs)) (hbase:base≤w.heap.size) (hbig:l.length+xs.length≤4294967296) :
  ∃ v' w',(Builtin.append_ #[t,t] ty #[v,vx]).run P w=.ok v' w'∧w'.ownsRow base e 1 v' (l++xs).length (ints (l++xs))∧w.grownBy w' v.ownBlock∧(v'.ownBlock=v.ownBlock∨v'.ownBlock=some w.heap.size) ∧
   ∃ a c,v'=.slice a (l++xs).length c:=by
 rcases hx.2 with ⟨rfl,h0⟩ | ⟨g,cap,cur,rfl,hb,hg,hc,hm2,hs,_⟩
 ·have hl:xs=[]:=List.eq_nil_of_length_eq_zero h0
  subst hl
  rw [List.append_nil]
  exact ⟨v,w,run_append_owned_none w base t ty e i 1 ht hi v l.length (ints l) hown,hown,⟨rfl,rfl,rfl,Nat.le_refl _,fun _ _ _=>rfl⟩,.inl rfl,zac hown⟩
 ·have hnews:∀ j u,(ints xs)[j]?=some u→w.cell? ((⟨g,0,none⟩:Addr).add j)=some u:=hx.cells rfl
  obtain ⟨v',w',hr,h2,h3,_,h5⟩:=run_append_own_at (P:=P) w base t ty e i (.int .i64 0) 1 8 ht hi hz hsize hby rfl (by decide) v l.length (ints l) hown ⟨g,0,none⟩ xs.length cap (ints xs) (by simp [ints]) hnews (by simp [ints,Value.oneCell'])
   (by unfold maxLen;omega) (by omega) hbase
  have e1:ints l++ints xs=ints (l++xs):=by simp [ints]
  have e2:l.length+xs.length=(l++xs).length:=by simp
  rw [e1,e2] at h2
  exact ⟨v',w',hr,h2,h3,h5,zac h2⟩
theorem RowAt.append {S:Nat→Prop} {b o:Nat} {w w':World} {l:List Int} {v v':Value} (hv:v.ownBlock≠some b) (hin:RowIn S v) (c0:w.cell? ⟨b,o,none⟩=some v) (hown:w'.ownsRow 0 3 1 v' l.length (ints l))
  (hg:w.grownBy w' v.ownBlock) (hat:v'.ownBlock=v.ownBlock∨v'.ownBlock=some w.heap.size) :
  RowAt (fun x=>S x∨w.heap.size≤x) b o (w'.setCell ⟨b,o,none⟩ v') l∧w'.cell? ⟨b,o,none⟩=some v:=by
 have hbl:=World.block_lt_of_cell? w _ c0
 have hne:v'.ownBlock≠some b:=by
  rcases hat with h | h
  ·rw [h];exact hv
  ·rw [h];intro e;have:=Option.some.inj e;simp at hbl;omega
 have c1:w'.cell? ⟨b,o,none⟩=some v:=hg.cell c0 (Ne.symm hv)
 refine ⟨⟨v',World.cell?_setCell_same _ _ _ c1,ownsRow_setCell_other hown hne v',?_,hne⟩,c1⟩
 intro g hgv
 rcases hat with h | h
 ·exact .inl (hin g (h ▸ hgv))
 ·rw [h] at hgv;cases hgv;exact .inr (Nat.le_refl _)
theorem zb3 (v:Value) (k base:Nat) (l:List Int) (w:World) (hown:w.ownsRow base 3 1 v l.length (ints l)) (hk:k≤l.length) (hn:l.length*8≤140737488355328) :
  ∀ c,Calls Tryz.prog 91 #[match v with | .slice a _ _=>.slice a k c | x=>x] w fun e w' =>
   ∃ v',e=.returned v'∧w'.ownsRow w.heap.size 3 1 v' k (ints (l.take k))∧Below w.heap.size w w':=by
 intro c
 rcases hown.2 with ⟨rfl,h0⟩ | ⟨g,cap,cur,rfl,hb,hg,hc,hm,hs,ht⟩
 ·refine (Tryz.slices_Clone_int_nil _ _ _).mono ?_
  rintro e w' ⟨rfl,rfl⟩
  obtain rfl:k=0:=by omega
  exact ⟨_,rfl,by simpa [ints] using World.ownsRow_nil _ _ _ _,Below.refl _ _⟩
 ·have hcell:∀ j,j<l.length→w.cell? ⟨g,0+j,none⟩=some (.int .i64 (l.getD j 0)):=fun j hj=>by
   rw [Nat.zero_add,hown.cellAt j (by simpa using hj)];simp [ints,List.getD_eq_getElem?_getD,List.getElem?_eq_getElem hj]
  refine (Tryz.slices_Clone_int g 0 k c l w hk (by omega) hcell).mono ?_
  rintro e w' ⟨v',rfl,hown',_,hb'⟩
  exact ⟨v',rfl,hown',hb'⟩
theorem zbM (S:Nat→Prop) (b:Nat) (n:Int) (m:Nat) (l:List Int) (w:World) (hS:S b) (h:RowAt S b 0 w l) (hf:∀ o,w.frozen? ⟨b,o,none⟩=false) (hbig:l.length≤4294967296)
  (hm:min (max 0 n) (l.length:Int)=(m:Int)) :
  Calls Tryz.prog 223 #[.pointer (some ⟨b,0,none⟩),.int .i64 n] w fun e w' =>
   ∃ v,e=.returned v∧w'.ownsRow w.heap.size 3 1 v m (ints (l.take m))∧RowAt S b 0 w' (l.drop m)∧Mod S w w' ∧
    (∀ o,o≠0→w'.cell? ⟨b,o,none⟩=w.cell? ⟨b,o,none⟩)∧(∀ o,w'.frozen? ⟨b,o,none⟩=false):=by
 obtain ⟨v,c0,hown,hin,hne⟩:=h
 have hbl:=World.block_lt_of_cell? w _ c0
 have hml:m≤l.length:=by omega
 have hclone:=zb3 v m 0 l w hown hml (by omega)
 rcases hown.2 with ⟨rfl,h0⟩ | ⟨g,cap,cur,rfl,hb,hg,hc,hm2,hs,ht⟩
 ·have hl:l=[]:=List.eq_nil_of_length_eq_zero h0
  subst hl
  obtain rfl:m=0:=by simp at hml;omega
  have Hm:=Lib.hid hm
  clear hm
  have hm':=Hm.out
  simp only [List.length_nil] at hm'
  have Hm2:=Lib.hid hm'
  clear hm'
  have hm3:min (max 0 n) (0:Int)=0:=Hm2.out
  go_enter Tryz.func223,Tryz.ntmps223
  go_wp2_with fail
  refine (Tryz.slices_Clone_int_nil _ _ _).mono ?_
  rintro e w' ⟨rfl,rfl⟩
  go_wp2_with fail
  refine (Tryz.slices_Delete_int_empty _ _ _).mono ?_
  rintro e w' ⟨rfl,rfl⟩
  go_wp2
  go_ret
  refine ⟨_,rfl,by simpa [ints] using World.ownsRow_nil _ _ _ _,⟨.slice none 0 0,World.cell?_setCell_same _ _ _ c0,by simpa [ints] using World.ownsRow_nil _ _ _ _,(fun x hx=>by cases hx),by simp [Value.ownBlock]⟩,(Mod.refl _ _).setCell (.inl hS) _,fun o ho=>by rw [zaf c0,if_neg ho],fun o=>by rw [World.frozen?_setCell];exact hf o⟩
 ·have hgl:=(Array.getElem?_eq_some_iff.1 hg).1
  have hSg:S g:=hin g rfl
  have hgb:g≠b:=fun e=>hne (by simp [Value.ownBlock,e])
  have Hm:=Lib.hid hm
  go_enter Tryz.func223,Tryz.ntmps223
  go_wp2_with fail
  refine (hclone cap).mono ?_
  rintro e w1 ⟨v1,rfl,hown1,hb1⟩
  have c01:w1.cell? ⟨b,0,none⟩=some (.slice (some ⟨g,0,none⟩) l.length cap):=(hb1.cell (p:=⟨b,0,none⟩) hbl).trans c0
  have f01:∀ o,w1.frozen? ⟨b,o,none⟩=false:=fun o=>(hb1.frozen (p:=⟨b,o,none⟩) hbl).trans (hf o)
  have hownl:w1.ownsRow 0 3 1 (.slice (some ⟨g,0,none⟩) l.length cap) l.length (ints l):=⟨hown.1,.inr ⟨g,cap,cur,rfl,hb,(hb1.block g hgl).trans hg,hc,hm2,hs,ht⟩⟩
  go_wp2_with fail
  refine (Tryz.slices_Delete_int_cells g 0 l.length cap 0 m l w1 (Nat.le_refl _) hc (by unfold maxLen at hm2;omega) (Nat.zero_le _) hml (fun j hj=>?_) (fun j _=>?_)).mono ?_
  ·rw [Nat.zero_add,hownl.cellAt j (by simpa using hj)];simp [ints,List.getD_eq_getElem?_getD,List.getElem?_eq_getElem hj]
  ·exact hownl.frozenAt _
  rintro e w2 ⟨rfl,q,hw2⟩
  have hlen:(ints ((l.take l.length).take 0++(l.take l.length).drop m++List.replicate (m - 0) 0)).length=l.length:=by simp [ints];omega
  have hrow2:=zbz (w:=w1.drewN q) (vs:=ints ((l.take l.length).take 0++(l.take l.length).drop m++List.replicate (m - 0) 0)) hownl hlen (l.length - m) (by omega) (Nat.zero_le _)
  have hw2':w2=(w1.drewN q).setCells g 0 (ints ((l.take l.length).take 0++(l.take l.length).drop m++List.replicate (m - 0) 0)):=hw2
  have hk2:∀ x:Addr,x.block≠g→w2.cell? x=w1.cell? x:=fun x hx=>by rw [hw2',World.cell?_setCells_out g _ _ _ _ (fun e=>absurd e hx)];rfl
  have hf2:∀ x:Addr,w2.frozen? x=w1.frozen? x:=fun x=>by rw [hw2',World.frozen?_setCells];rfl
  have hmod2:Mod (·=g) w1 w2:=by rw [hw2'];exact ((Mod.refl _ w1).drewN q).setCellsB _ _
  have hrow2':w2.ownsRow 0 3 1 (.slice (some ⟨g,0,none⟩) (l.length - m) cap) (l.drop m).length (ints (l.drop m)):=by
   rw [hw2']
   simp only [List.length_drop]
   have e1:(ints ((l.take l.length).take 0++(l.take l.length).drop m++List.replicate (m - 0) 0)).take (l.length - m)=ints (l.drop m):=by
    simp only [List.take_zero,List.nil_append,List.take_length,ints,List.map_append,List.map_drop]
    rw [List.take_append_of_le_length (by simp),List.take_of_length_le (by simp)]
   rw [← e1];exact hrow2
  clear hw2 hw2' hrow2 hlen
  have c02:w2.cell? ⟨b,0,none⟩=some (.slice (some ⟨g,0,none⟩) l.length cap):=(hk2 ⟨b,0,none⟩ (Ne.symm hgb)).trans c01
  have f02:∀ o,w2.frozen? ⟨b,o,none⟩=false:=fun o=>(hf2 _).trans (f01 o)
  go_wp2
  go_ret
  have hms:Mod S w (w2.setCell ⟨b,0,none⟩ (.slice (some ⟨g,0,none⟩) (l.length - m) cap)) :=
   ((Mod.of_below hb1 S).trans1 (hmod2.mono (fun x _ e=>e ▸ hSg))).setCell (.inl hS) _
  have hv1:v1.ownBlock≠some b:=fun e=>by have:=hown1.lt b e;omega
  have hv1g:v1.ownBlock≠some g:=fun e=>by have:=hown1.lt g e;omega
  refine ⟨_,rfl,?_,⟨_,World.cell?_setCell_same _ _ _ c02,ownsRow_setCell_other hrow2' (by simpa [Value.ownBlock] using hgb) _,(fun x hx=>by cases hx;exact hSg),by simpa [Value.ownBlock] using hgb⟩,hms,?_,?_⟩
  ·refine ownsRow_setCell_other ?_ hv1 _
   refine hown1.kept (row:=some g) ⟨hmod2.os,hmod2.tape,hmod2.output,hmod2.size,fun k hk hx=>hmod2.block k hk (fun e=>hx (by rw [e]))⟩ (.inr hv1g)
  ·intro o ho
   rw [zaf c02,if_neg ho,hk2 _ (Ne.symm hgb)]
   exact hb1.cell hbl
  ·intro o;rw [World.frozen?_setCell];exact f02 o
theorem GlobAt.of_row {S:Nat→Prop} {b n:Nat} {w w':World} {l l':List Int} (h:GlobAt S b w n l) (hr:RowAt S b 0 w' l') (hc:∀ o,o≠0→w'.cell? ⟨b,o,none⟩=w.cell? ⟨b,o,none⟩) (hf:∀ o,w'.frozen? ⟨b,o,none⟩=false):GlobAt S b w' n l' :=
 ⟨h.inS,hr,by rw [hc 1 (by decide)];exact h.cn,hf⟩
theorem row_len {S:Nat→Prop} {b o:Nat} {w:World} {l:List Int} (h:RowAt S b o w l):∃ a c,w.cell? ⟨b,o,none⟩=some (.slice a l.length c):=by
 obtain ⟨v,c0,hown,_,_⟩:=h
 rcases hown.2 with ⟨rfl,h0⟩ | ⟨g,cap,cur,rfl,_⟩
 ·exact ⟨none,0,by rw [h0];exact c0⟩
 ·exact ⟨_,_,c0⟩
theorem ret_int {k:IntKind} {a b:Int} (h:a=b):Ending.returned (.int k a)=Ending.returned (.int k b):=by rw [h]
theorem glen_any (b:Nat) (a:Option Addr) (n c:Nat) (w:World) (c0:w.cell? ⟨b,0,none⟩=some (.slice a n c)) :
  Calls Tryz.prog 204 #[.pointer (some ⟨b,0,none⟩)] w fun e w'=>e=.returned (.int .i64 n)∧w'=w:=by
 go_enter Tryz.func204,Tryz.ntmps204
 go_wp2
 go_ret
 exact ⟨rfl,rfl⟩
theorem share_any (b n len c k:Nat) (a:Option Addr) (w:World) (c0:w.cell? ⟨b,0,none⟩=some (.slice a len c)) (c1:w.cell? ⟨b,1,none⟩=some (.int .i64 n)) (hn:0<n) (hn2:n≤4294967296) (hbig:len≤4294967296)
  (hk:k=min (min (len / n+1) len) 128) :
  Calls Tryz.prog 224 #[.pointer (some ⟨b,0,none⟩)] w fun e w'=>e=.returned (.int .i64 k)∧∃ q,w'=w.drewN q:=by
 have e1:(len:Int).tdiv n=((len / n:Nat):Int):=by rw [Int.tdiv_eq_ediv_of_nonneg (by omega)];simp
 have e0:((n:Int)==0)=false:=by simp;omega
 obtain ⟨m,hm⟩:∃ m,m=len / n:=⟨_,rfl⟩
 have hml:m≤len:=by rw [hm];exact Nat.div_le_self _ _
 rw [← hm] at e1
 have e2:(len:Int) / n=(m:Int):=by rw [hm];simp
 have e3:min (min ((m:Int)+1) (len:Int)) 128=(k:Int):=by rw [hk,← hm];omega
 clear hm hk
 have h0:¬ n=0:=by omega
 have w1:IntKind.i64.wrap ((len:Int).tdiv n)=(m:Int):=by rw [e1];exact IntWalk.i64_in _ (by omega)
 have w2:IntKind.i64.wrap (m:Int)=(m:Int):=IntWalk.i64_in _ (by omega)
 have w3:IntKind.i64.wrap ((m:Int)+1)=(m:Int)+1:=IntWalk.i64_in _ (by omega)
 go_enter Tryz.func224,Tryz.ntmps224
 go_wp2
 go_quiet ((go_at_call 204;exact Calls.quiet_of_same (glen_any b a len c _ (by exact c0))))
 go_wp2
 all_goals go_ret
 all_goals exact ⟨ret_int (by omega),nq,rfl⟩
theorem gtake_any (S:Nat→Prop) (b n:Nat) (l:List Int) (w:World) (h:GlobAt S b w n l) (hn:0<n) (hn2:n≤4294967296) (hbig:l.length≤4294967296) (k:Nat) (hk:k=min (min (l.length / n+1) l.length) 128) :
  Calls Tryz.prog 201 #[.pointer (some ⟨b,0,none⟩)] w fun e w' =>
   ∃ v,e=.returned v∧w'.ownsRow w.heap.size 3 1 v k (ints (l.take k))∧GlobAt S b w' n (l.drop k)∧Mod S w w':=by
 obtain ⟨a,c,c0⟩:=row_len h.row
 have c1:=h.cn
 have hkl:k≤l.length:=by omega
 have H:=Lib.hid h
 have Hk:=Lib.hid hk
 clear h hk
 go_enter Tryz.func201,Tryz.ntmps201
 go_wp2
 go_region_held3 (fun w'=>w'.cell? ⟨b,1,none⟩=some (.int .i64 n))
  (first | go_keep | (rw [hcs 1 (by decide)];assumption))
  (first
   | (go_at_call 224;refine (share_any b n l.length c k a _ (by exact c0) (by exact c1) hn hn2 hbig Hk.out).mono ?_;rintro e w1 ⟨rfl,q,rfl⟩)
   | (go_at_call 223;refine (zbM S b k k l _ H.out.inS (by exact H.out.row.congr rfl (fun _ _ _=>rfl)) (by exact H.out.fr) hbig (by omega)).mono ?_;rintro e w2 ⟨v,rfl,hown,hrow,hmod,hcs,hfs⟩))
 go_wp2
 go_ret
 exact ⟨v,rfl,hown,H.out.of_row hrow hcs hfs,((Mod.refl S w).drewN _).trans1 hmod⟩
theorem gone_any (S:Nat→Prop) (b n:Nat) (l:List Int) (w:World) (h:GlobAt S b w n l) (hbig:l.length≤4294967296) :
  Calls Tryz.prog 197 #[.pointer (some ⟨b,0,none⟩)] w fun e w' =>
   e=.returned (.tuple #[.int .i64 (l.headD 0),.bool (!l.isEmpty)])∧GlobAt S b w' n l.tail∧Mod S w w':=by
 cases l with
 | nil =>
  go_enter Tryz.func197,Tryz.ntmps197
  go_wp2_with (go_at_call 220;go_in)
  refine (zbM S b 1 0 [] w h.inS h.row h.fr (by simp) (by simp only [List.length_nil];omega)).mono ?_
  rintro e w' ⟨v,rfl,hown,hrow,hmod,hcs,hfs⟩
  obtain ⟨a,c,rfl⟩:∃ a c,v=.slice a 0 c:=by
   rcases hown.2 with ⟨rfl,_⟩ | ⟨g,cap,cur,rfl,_⟩
   ·exact ⟨_,_,rfl⟩
   ·exact ⟨_,_,rfl⟩
  go_wp2
  go_ret2
  exact ⟨rfl,h.of_row hrow hcs hfs,hmod⟩
 | cons g t =>
  go_enter Tryz.func197,Tryz.ntmps197
  go_wp2_with (go_at_call 220;go_in)
  refine (zbM S b 1 1 (g :: t) w h.inS h.row h.fr hbig (by simp;omega)).mono ?_
  rintro e w' ⟨v,rfl,hown,hrow,hmod,hcs,hfs⟩
  obtain ⟨gb,cap,rfl,hgb,hgl,hcap⟩:=zar hown (by decide)
  have hg0:=hown.cellAt 0 (by decide)
  simp [ints] at hg0
  go_wp2
  go_ret2
  exact ⟨rfl,h.of_row hrow hcs hfs,hmod⟩
theorem gput_any (S:Nat→Prop) (b n base:Nat) (l xs:List Int) (vx:Value) (w:World) (h:GlobAt S b w n l) (hx:w.ownsRow base 3 1 vx xs.length (ints xs)) (hbig:l.length+xs.length≤4294967296) :
  Calls Tryz.prog 128 #[.pointer (some ⟨b,0,none⟩),vx] w fun e w' =>
   e=.returned (.tuple #[])∧GlobAt (fun x=>S x∨w.heap.size≤x) b w' n (l++xs)∧Mod S w w':=by
 obtain ⟨v,c0,hown,hin,hne⟩:=h.row
 have hfr:=h.fr
 have c1:=h.cn
 have hS:=h.inS
 have hbl:=World.block_lt_of_cell? w _ c0
 obtain ⟨i0,hi,hz0,hz1,hz2⟩:=info_parts Tryz.infoInt
 obtain ⟨v',w2,hrun,hown2,hgrow,hat,a2,c2,rfl⟩:=append_ints (P:=Tryz.prog) 45 45 3 i0 w 0 base v vx l xs Tryz.underlying45 hi hz0 hz1 hz2 hown hx (Nat.zero_le _) hbig
 obtain ⟨hrow,k0⟩:=RowAt.append hne hin c0 hown2 hgrow hat
 have k1:w2.cell? ⟨b,1,none⟩=some (.int .i64 n):=hgrow.cell c1 (Ne.symm hne)
 have kf:∀ o,w2.frozen? ⟨b,o,none⟩=false:=fun o=>(World.frozen?_of_block (a:=⟨b,o,none⟩) (hgrow.block b hbl (Ne.symm hne))).trans (hfr o)
 have Hrun:=Lib.hid hrun
 have Hrow:=Lib.hid hrow
 have Hat:=Lib.hid hat
 clear h hrun hrow hat
 go_enter Tryz.func128,Tryz.ntmps128
 go_wp2_with (first | (go_at_call 163;go_in) | (at_builtin;refine wpList_append_run rfl _ _ 45 rfl _ _ _ rfl rfl Hrun.out ?_))
 go_end0
 dsimp only
 go_wp2
 go_end0
 rw [← List.length_append]
 refine ⟨rfl,⟨.inl hS,Hrow.out,?_,?_⟩,?_⟩
 ·rw [zaf k0,if_neg (by decide)];exact k1
 ·intro o;rw [World.frozen?_setCell];exact kf o
 ·exact Mod.setCell ⟨hgrow.os,hgrow.tape,hgrow.output,hgrow.size,fun k hk hs=>hgrow.block k hk (fun e=>hs (hin k e.symm))⟩ (.inl hS) _
end Go.Proofs.YtlmmjgekolpekaaGreatDoor
