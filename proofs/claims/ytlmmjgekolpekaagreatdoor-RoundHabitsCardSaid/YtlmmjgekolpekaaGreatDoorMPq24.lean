/- Parts of the proof. -/
import Derived.Test.YtlmmjgekolpekaaGreatDoorMPq07
import Derived.Test.YtlmmjgekolpekaaGreatDoorMPq23
set_option linter.unusedVariables false
set_option linter.unusedSimpArgs false
set_option linter.unusedSectionVars false
set_option maxRecDepth 100000
set_option maxHeartbeats 6400000
namespace Go.Proofs.YtlmmjgekolpekaaGreatDoor
open Go Go.RowKit Hst Go.Proofs
def hCells (F:Fix) (P M G:Nat) (vr va:Value):Nat→Value
 | 0=>.int .i64 P
 | 1=>.int .i64 M
 | 2=>.int .i64 G
 | 3=>ptr F.mem
 | 4=>.int .i64 (2*(P+2):Nat)
 | 5=>.int .i64 (2*(P+2)+1:Nat)
 | 6=>.int .i64 (2*(P+2)+1+M:Nat)
 | 7=>.int .i64 G
 | 8=>vr
 | 9=>sli F.turns P P
 | 10=>ptr F.glob
 | 11=>ptr F.src
 | 12=>ptr F.idle
 | 13=>va
 | 14=>sli F.flag M M
 | _=>.slice none 0 0
def zeJ:List Value:=encM Mach.fresh (.slice none 0 0)
def ptrs (F:Fix) (n:Nat):List Value:=(List.range n).map fun q=>ptr (F.ring q)
structure Half (F:Fix) (wb:World) (P M G:Nat) (ow:Nat→Nat) (w:World) (nr nk:Nat) (vr:Value) (idl:Hst.Idle) (nm:Nat) (va:Value):Prop where
 low:∀ b,b<wb.heap.size→ow b=0
 frame:Below wb.heap.size wb w
 own:ow F.W=1∧ow F.mem=2∧ow F.ws=3∧ow F.turns=5∧ow F.flag=10
 pos:0<P∧0<M
 cw:Cells F.W 16 (hCells F P M G vr va) w
 cmem:Cells F.mem 2 (memCells F (nWords P M G) 0) w
 cws:Cells F.ws (nWords P M G) (fun _=>.int .u64 0) w
 cturns:Cells F.turns P (fun _=>.int .i64 0) w
 cflag:Cells F.flag M (fun _=>.bool false) w
 cglob:GlobAt (ow ·=6) F.glob w P []
 csrc:SrcAt (ow ·=7) F.src w P Src.new
 cidle:IdleAt (ow ·=8) F.idle w P M idl
 rings:∀ q,q<nk→RingAt (F.ring q) w Ring.new∧ow (F.ring q)=100+q
 row:w.ownsRow 0 174 1 vr nr (ptrs F nr)∧RowIn (ow ·=4) vr
 all:w.ownsRow 0 52 18 va nm ((List.replicate nm zeJ).flatten)∧RowIn (ow ·=9) va
section
variable {F:Fix} {wb w w':World} {P M G:Nat} {ow ow':Nat→Nat} {nr nk nr':Nat} {vr vr':Value} {idl idl':Hst.Idle} {nm nm':Nat} {va va':Value}
theorem Half.lt (h:Half F wb P M G ow w nr nk vr idl nm va):F.W<w.heap.size∧F.mem<w.heap.size∧F.ws<w.heap.size∧F.turns<w.heap.size∧F.flag<w.heap.size :=
 ⟨h.cw.lt (by decide),h.cmem.lt (by decide),h.cws.lt (by unfold nWords;omega),h.cturns.lt h.pos.1,h.cflag.lt h.pos.2⟩
theorem Half.upd (h:Half F wb P M G ow w nr nk vr idl nm va) (K:Nat→Prop) (hK:¬ K 2∧¬ K 3∧¬ K 5∧¬ K 6∧¬ K 7∧¬ K 10∧∀ q,¬ K (100+q)) (e:∀ b,b<w.heap.size→ow' b=ow b) (a:Agree (fun b=>ow b≠0∧¬ K (ow b)) w w') (hf:Below wb.heap.size wb w')
  (cw:(¬ K 1∧vr'=vr∧va'=va)∨Cells F.W 16 (hCells F P M G vr' va') w')
  (cidle:(¬ K 8∧idl'=idl)∨IdleAt (ow' ·=8) F.idle w' P M idl')
  (row:(¬ K 4∧nr'=nr∧vr'=vr)∨(w'.ownsRow 0 174 1 vr' nr' (ptrs F nr')∧RowIn (ow' ·=4) vr'))
  (all:(¬ K 9∧nm'=nm∧va'=va)∨(w'.ownsRow 0 52 18 va' nm' ((List.replicate nm' zeJ).flatten)∧RowIn (ow' ·=9) va')) :
  Half F wb P M G ow' w' nr' nk vr' idl' nm' va':=by
 obtain ⟨k2,k3,k5,k6,k7,k10,kq⟩:=hK
 obtain ⟨o1,o2,o3,o5,o10⟩:=h.own
 obtain ⟨l1,l2,l3,l5,l10⟩:=h.lt
 have ag:∀ k,k≠0→¬ K k→Agree (ow ·=k) w w':=fun k hk hK=>a.mono fun x _ hx=>⟨by rw [hx];exact hk,by rw [hx];exact hK⟩
 have em:∀ k x,x<w.heap.size→ow x=k→ow' x=k:=fun k x hx hk=>(e x hx).trans hk
 refine ⟨fun b hb=>(e b (by have:=h.frame.size;omega)).trans (h.low b hb),hf,⟨em 1 _ l1 o1,em 2 _ l2 o2,em 3 _ l3 o3,em 5 _ l5 o5,em 10 _ l10 o10⟩,h.pos,?_,h.cmem.congr (ag 2 (by decide) k2) o2 l2,h.cws.congr (ag 3 (by decide) k3) o3 l3,h.cturns.congr (ag 5 (by decide) k5) o5 l5,
  h.cflag.congr (ag 10 (by decide) k10) o10 l10,h.cglob.agree (ag 6 (by decide) k6) (em 6),h.csrc.agree h.pos.1 (ag 7 (by decide) k7) (em 7),?_,fun q hq=>?_,?_,?_⟩
 ·rcases cw with ⟨hk,hv,hv2⟩ | hc
  ·rw [hv,hv2];exact h.cw.congr (ag 1 (by decide) hk) o1 l1
  ·exact hc
 ·rcases cidle with ⟨hk,hv⟩ | hc
  ·rw [hv];exact h.cidle.agree (ag 8 (by decide) hk) (em 8)
  ·exact hc
 ·obtain ⟨r1,r2⟩:=h.rings q hq
  exact ⟨r1.agree (ag (100+q) (by omega) (kq q)) r2,em _ _ r1.lt r2⟩
 ·rcases row with ⟨hk,hn,hv⟩ | hc
  ·rw [hn,hv];exact ⟨(ag 4 (by decide) hk).row h.row.2 h.row.1,h.row.2.mono h.row.1 (em 4)⟩
  ·exact hc
 ·rcases all with ⟨hk,hn,hv⟩ | hc
  ·rw [hn,hv];exact ⟨(ag 9 (by decide) hk).row h.all.2 h.all.1,h.all.2.mono h.all.1 (em 9)⟩
  ·exact hc
theorem Half.more (h:Half F wb P M G ow w nr nk vr idl nm va) (b:Below w.heap.size w w') (k:Nat):Half F wb P M G (grow ow w.heap.size k) w' nr nk vr idl nm va :=
 h.upd (fun _=>False) ⟨id,id,id,id,id,id,fun _=>id⟩ (fun _ hb=>grow_lt hb) ⟨b.size,fun x hx _=>b.block x hx⟩ (h.frame.trans (b.mono h.frame.size)) (.inl ⟨id,rfl,rfl⟩) (.inl ⟨id,rfl⟩) (.inl ⟨id,rfl,rfl⟩) (.inl ⟨id,rfl,rfl⟩)
theorem Half.drew (h:Half F wb P M G ow w nr nk vr idl nm va):Half F wb P M G ow w.drew nr nk vr idl nm va :=
 h.upd (fun _=>False) ⟨id,id,id,id,id,id,fun _=>id⟩ (fun _ _=>rfl) ⟨Nat.le_refl _,fun _ _ _=>rfl⟩ h.frame.drew (.inl ⟨id,rfl,rfl⟩) (.inl ⟨id,rfl⟩) (.inl ⟨id,rfl,rfl⟩) (.inl ⟨id,rfl,rfl⟩)
theorem Half.ringNew (h:Half F wb P M G ow w nr nk vr idl nm va) (hn:nr≤nk) {b:Nat} (hb:w.heap.size≤b) (hr:RingAt b w' Ring.new) (bl:Below w.heap.size w w') :
  Half { F with ring:=fun q=>if q=nk then b else F.ring q } wb P M G (grow ow w.heap.size (100+nk)) w' nr (nk+1) vr idl nm va:=by
 have h1:=h.more bl (100+nk)
 refine ⟨h1.low,h1.frame,h1.own,h1.pos,?_,h1.cmem,h1.cws,h1.cturns,h1.cflag,h1.cglob,h1.csrc,h1.cidle,fun q hq=>?_,?_,h1.all⟩
 ·exact h1.cw
 ·by_cases e:q=nk
  ·subst e
   simp only [if_true]
   exact ⟨hr,grow_ge hb⟩
  ·simp only [if_neg e]
   exact h1.rings q (by omega)
 ·have e:ptrs { F with ring:=fun q=>if q=nk then b else F.ring q } nr=ptrs F nr:=by
   unfold ptrs
   refine List.map_congr_left fun q hq=>?_
   have:=List.mem_range.1 hq
   simp only [if_neg (show ¬ q=nk by omega)]
  rw [e];exact h1.row
theorem Half.idleMod (h:Half F wb P M G ow w nr nk vr idl nm va) (hi:IdleAt (fun x=>(ow x=8∧x<w.heap.size)∨w.heap.size≤x) F.idle w' P M idl') (hm:Mod (fun x=>ow x=8∧x<w.heap.size) w w'):Half F wb P M G (grow ow w.heap.size 8) w' nr nk vr idl' nm va :=
 h.upd (·=8) ⟨by omega,by omega,by omega,by omega,by omega,by omega,fun q=>by omega⟩ (fun _ hb=>grow_lt hb) ⟨hm.size,fun x hx hs=>hm.block x hx (fun e=>hs.2 e.1)⟩
  ⟨hm.os.trans h.frame.os,hm.tape.trans h.frame.tape,hm.output.trans h.frame.output,Nat.le_trans h.frame.size hm.size,fun k hk=>(hm.block k (Nat.lt_of_lt_of_le hk h.frame.size) (fun e=>by have:=h.low k hk;omega)).trans (h.frame.block k hk)⟩
  (.inl ⟨by omega,rfl,rfl⟩) (.inr (hi.agree ⟨Nat.le_refl _,fun _ _ _=>rfl⟩ fun x _ e=>by rcases e with e | e;exact (grow_lt e.2).trans e.1;exact grow_ge e)) (.inl ⟨by omega,rfl,rfl⟩) (.inl ⟨by omega,rfl,rfl⟩)
theorem Half.idle8 (h:Half F wb P M G ow w nr nk vr idl nm va):IdleAt (fun x=>ow x=8∧x<w.heap.size) F.idle w P M idl:=h.cidle.agree ⟨Nat.le_refl _,fun _ _ _=>rfl⟩ fun x hx e=>⟨e,hx⟩
theorem Half.blk (h:Half F wb P M G ow w nr nk vr idl nm va) {x k:Nat} (hk:k≠0) (hx:ow x=k):wb.heap.size≤x:=by
 rcases Nat.lt_or_ge x wb.heap.size with hl | hl
 ·have:=h.low x hl;omega
 ·exact hl
theorem Half.appRow (h:Half F wb P M G ow w nr nk vr idl nm va) (hg:w.grownBy w' vr.ownBlock) (hown:w'.ownsRow 0 174 1 vr' (nr+1) (ptrs F (nr+1))) (hat:vr'.ownBlock=vr.ownBlock∨vr'.ownBlock=some w.heap.size) :
  Half F wb P M G (grow ow w.heap.size 4) (w'.setCell ⟨F.W,8,none⟩ vr') (nr+1) nk vr' idl nm va:=by
 obtain ⟨o1,o2,o3,o5,o10⟩:=h.own
 have lW:=h.lt.1
 have hin:=h.row.2
 have hvW:vr.ownBlock≠some F.W:=fun e=>by have:ow F.W=4:=hin _ e;omega
 have hvW':vr'.ownBlock≠some F.W:=by
  rcases hat with e | e
  ·rw [e];exact hvW
  ·rw [e];intro e2;have:=Option.some.inj e2;omega
 have hblk:∀ b,b<w.heap.size→ow b≠1→ow b≠4→(w'.setCell ⟨F.W,8,none⟩ vr').heap[b]?=w.heap[b]?:=fun b hb h1 h2=>by
  rw [za5 (fun e=>h1 (by rw [e];exact o1))]
  exact hg.block b hb (fun e=>h2 (hin b e.symm))
 have hcw':Cells F.W 16 (hCells F P M G vr va) w':=h.cw.congr (S:=fun b=>ow b=1) ⟨hg.size,fun b hb e=>hg.block b hb (fun e2=>by have e3:ow b=4:=hin b e2.symm;omega)⟩ o1 lW
 have hsz:w.heap.size≤(w'.setCell ⟨F.W,8,none⟩ vr').heap.size:=by have:=hg.size;simpa using this
 refine h.upd (fun k=>k=1∨k=4) ⟨by omega,by omega,by omega,by omega,by omega,by omega,fun q=>by omega⟩ (fun _ hb=>grow_lt hb) ⟨hsz,fun b hb hx=>hblk b hb (fun e=>hx.2 (.inl e)) (fun e=>hx.2 (.inr e))⟩
  ⟨hg.os.trans h.frame.os,hg.tape.trans h.frame.tape,hg.output.trans h.frame.output,Nat.le_trans h.frame.size hsz,fun k hk=>(hblk k (Nat.lt_of_lt_of_le hk h.frame.size) (by have:=h.low k hk;omega) (by have:=h.low k hk;omega)).trans (h.frame.block k hk)⟩
  (.inr ?_) (.inl ⟨by omega,rfl⟩) (.inr ⟨ownsRow_far hown hvW',?_⟩) (.inl ⟨by omega,rfl,rfl⟩)
 ·refine (hcw'.set 8 (by decide) vr').ext fun c hc=>?_
  by_cases e:c=8
  ·subst e;rfl
  ·rw [if_neg e]
   rcases (show c=0∨c=1∨c=2∨c=3∨c=4∨c=5∨c=6∨c=7∨c=9∨c=10∨c=11∨c=12∨c=13∨c=14∨c=15 by omega) with rfl | rfl | rfl | rfl | rfl | rfl | rfl | rfl | rfl | rfl | rfl | rfl | rfl | rfl | rfl <;> rfl
 ·intro g hgv
  rcases hat with e | e
  ·have h2:ow g=4:=hin g (by rw [← e];exact hgv)
   have h3:=h.row.1.lt g (by rw [← e];exact hgv)
   show grow ow w.heap.size 4 g=4
   rw [grow_lt (by omega)];exact h2
  ·rw [e] at hgv;cases hgv;exact grow_ge (Nat.le_refl _)
theorem Half.appAll (h:Half F wb P M G ow w nr nk vr idl nm va) (hg:w.grownBy w' va.ownBlock) (hown:w'.ownsRow 0 52 18 va' (nm+1) ((List.replicate (nm+1) zeJ).flatten)) (hat:va'.ownBlock=va.ownBlock∨va'.ownBlock=some w.heap.size) :
  Half F wb P M G (grow ow w.heap.size 9) (w'.setCell ⟨F.W,13,none⟩ va') nr nk vr idl (nm+1) va':=by
 obtain ⟨o1,o2,o3,o5,o10⟩:=h.own
 have lW:=h.lt.1
 have hin:=h.all.2
 have hvW:va.ownBlock≠some F.W:=fun e=>by have:ow F.W=9:=hin _ e;omega
 have hvW':va'.ownBlock≠some F.W:=by
  rcases hat with e | e
  ·rw [e];exact hvW
  ·rw [e];intro e2;have:=Option.some.inj e2;omega
 have hblk:∀ b,b<w.heap.size→ow b≠1→ow b≠9→(w'.setCell ⟨F.W,13,none⟩ va').heap[b]?=w.heap[b]?:=fun b hb h1 h2=>by
  rw [za5 (fun e=>h1 (by rw [e];exact o1))]
  exact hg.block b hb (fun e=>h2 (hin b e.symm))
 have hcw':Cells F.W 16 (hCells F P M G vr va) w':=h.cw.congr (S:=fun b=>ow b=1) ⟨hg.size,fun b hb e=>hg.block b hb (fun e2=>by have e3:ow b=9:=hin b e2.symm;omega)⟩ o1 lW
 have hsz:w.heap.size≤(w'.setCell ⟨F.W,13,none⟩ va').heap.size:=by have:=hg.size;simpa using this
 refine h.upd (fun k=>k=1∨k=9) ⟨by omega,by omega,by omega,by omega,by omega,by omega,fun q=>by omega⟩ (fun _ hb=>grow_lt hb) ⟨hsz,fun b hb hx=>hblk b hb (fun e=>hx.2 (.inl e)) (fun e=>hx.2 (.inr e))⟩
  ⟨hg.os.trans h.frame.os,hg.tape.trans h.frame.tape,hg.output.trans h.frame.output,Nat.le_trans h.frame.size hsz,fun k hk=>(hblk k (Nat.lt_of_lt_of_le hk h.frame.size) (by have:=h.low k hk;omega) (by have:=h.low k hk;omega)).trans (h.frame.block k hk)⟩
  (.inr ?_) (.inl ⟨by omega,rfl⟩) (.inl ⟨by omega,rfl,rfl⟩) (.inr ⟨ownsRow_far hown hvW',?_⟩)
 ·refine (hcw'.set 13 (by decide) va').ext fun c hc=>?_
  by_cases e:c=13
  ·subst e;rfl
  ·rw [if_neg e]
   rcases (show c=0∨c=1∨c=2∨c=3∨c=4∨c=5∨c=6∨c=7∨c=8∨c=9∨c=10∨c=11∨c=12∨c=14∨c=15 by omega) with rfl | rfl | rfl | rfl | rfl | rfl | rfl | rfl | rfl | rfl | rfl | rfl | rfl | rfl | rfl <;> rfl
 ·intro g hgv
  rcases hat with e | e
  ·have h2:ow g=9:=hin g (by rw [← e];exact hgv)
   have h3:=h.all.1.lt g (by rw [← e];exact hgv)
   show grow ow w.heap.size 9 g=9
   rw [grow_lt (by omega)];exact h2
  ·rw [e] at hgv;cases hgv;exact grow_ge (Nat.le_refl _)
end
def idl1 (k:Nat):Hst.Idle:={ p:=2^(max k 1) - 2,pending:=[],m:=[],poller:=-1 }
def idl2 (P k:Nat):Hst.Idle:={ p:=2^P - 2,pending:=[],m:=(List.range (k - 2)).map fun j=>((j+2:Nat):Int),poller:=if k≤1 then -1 else 1 }
theorem idl1_step (k:Nat) (hk:0<k):(idl1 k).p.testBit k=false∧{ idl1 k with p:=(idl1 k).p^^^2^k }=idl1 (k+1):=by
 have hlt:2^k - 2<2^k:=by have:=Nat.two_pow_pos k;omega
 have e:max k 1=k:=by omega
 have e2:max (k+1) 1=k+1:=by omega
 have h1:(2^k - 2)^^^2^k=2^(k+1) - 2:=by
  have h2:=Nat.two_pow_add_eq_or_of_lt hlt 1
  rw [Nat.mul_one] at h2
  have h3:(2^k - 2)^^^2^k=2^k ||| (2^k - 2):=by
   apply Nat.eq_of_testBit_eq
   intro j
   rw [Nat.testBit_xor,Nat.testBit_or]
   by_cases hj:j=k
   ·subst hj;rw [Nat.testBit_lt_two_pow hlt];simp
   ·rw [Nat.testBit_two_pow_of_ne (Ne.symm hj)];simp
  rw [h3,← h2,Nat.pow_succ]
  have h4:2^1≤2^k:=Nat.pow_le_pow_right (by decide) hk
  have h5:(2:Nat)^1=2:=rfl
  rw [h5] at h4
  generalize 2^k=y at *
  omega
 refine ⟨by unfold idl1;rw [e];exact Nat.testBit_lt_two_pow hlt,?_⟩
 unfold idl1
 rw [e,e2,h1]
theorem idl2_step (P k:Nat) (hk:0<k):(idl2 P k).poller≠(k:Int)∧(idl2 P k).m.contains (k:Int)=false∧((idl2 P k).stop k).1=idl2 P (k+1):=by
 have hp:(idl2 P k).poller≠(k:Int)∨k=1:=by unfold idl2;dsimp only;split <;> omega
 have hm:¬ (k:Int)∈(idl2 P k).m:=by
  unfold idl2
  simp only [List.mem_map,List.mem_range,not_exists,not_and]
  intro j hj;omega
 have hp2:(idl2 P k).poller≠(k:Int):=by
  rcases hp with h | h
  ·exact h
  ·subst h;exact (show (if 1≤1 then (-1:Int) else 1)≠((1:Nat):Int) by decide)
 refine ⟨hp2,by simpa using hm,?_⟩
 unfold Idle.stop
 rw [if_neg (by rintro (e | e);exact hp2 e.symm;exact hm e)]
 by_cases h1:k=1
 ·subst h1;rfl
 ·have hpol:(idl2 P k).poller=1:=by unfold idl2;dsimp only;rw [if_neg (by omega)]
  rw [if_neg (by rw [hpol];decide)]
  unfold idl2
  rw [if_neg (show ¬ k≤1 by omega),if_neg (show ¬ k+1≤1 by omega)]
  have e:k+1 - 2=(k - 2)+1:=by omega
  rw [e,List.range_succ,List.map_append]
  have e2:(((k - 2+2:Nat)):Int)=(k:Int):=by omega
  simp only [List.map_cons,List.map_nil,e2]
end Go.Proofs.YtlmmjgekolpekaaGreatDoor
