/- Parts of the proof. -/
import Derived.Test.YtlmmjgekolpekaaGreatDoorMPq14
import Derived.Test.YtlmmjgekolpekaaGreatDoorMPq16
set_option linter.unusedVariables false
set_option linter.unusedSimpArgs false
set_option linter.unusedSectionVars false
set_option maxRecDepth 100000
set_option maxHeartbeats 6400000
namespace Go.Proofs.YtlmmjgekolpekaaGreatDoor
open Go Go.RowKit Hst Go.Proofs
section
variable {S:Nat→Prop} {b P G:Nat} {B:SrcF} {w:World} {s:Src} {hs:Nat→List Ent} {hv:Nat→Value} {wl hl:List (Int × Value)}
theorem flat_len (hs:Nat→List Ent) {P k:Nat} (hk:k<P):(hs k).length≤((List.range P).flatMap hs).length:=by
 obtain ⟨R,h1,_⟩:=zcG hs hk
 rw [h1.length_eq,List.length_append]
 omega
theorem SrcH.poll (h:SrcH S b B w P s hs hv wl hl):PollH w B.pB B.fB B.wB s.fds wl:=⟨h.p0,h.p1,h.fds,h.who⟩
theorem SrcH.len (h:SrcH S b B w P s hs hv wl hl) (ok:SrcOK s G) (k:Nat) (hk:k<P):(hs k).length≤4096:=by
 have h1:=flat_len hs hk
 have h2:=h.perm.length_eq
 have:=ok.len
 omega
theorem SrcH.tim (h:SrcH S b B w P s hs hv wl hl) (ok:SrcOK s G) (hP:P≤64):TimH w B.tB B.lB P hs hv :=
 ⟨hP,h.t0,h.l,fun k hk=>(h.rows k hk).1,fun k hk=>by have:=h.len ok k hk;omega⟩
theorem SrcH.nes (h:SrcH S b B w P s hs hv wl hl):b≠B.tB∧b≠B.lB∧b≠B.pB∧b≠B.fB∧b≠B.wB∧b≠B.hB∧B.tB≠B.lB∧B.tB≠B.pB∧B.tB≠B.fB∧B.tB≠B.wB∧B.tB≠B.hB∧B.lB≠B.pB∧B.lB≠B.fB∧B.lB≠B.wB∧B.lB≠B.hB∧B.pB≠B.fB∧B.pB≠B.wB∧B.pB≠B.hB∧B.fB≠B.wB∧B.fB≠B.hB∧B.wB≠B.hB:=by
 have:=h.ne
 simp only [List.nodup_cons,List.mem_cons,List.not_mem_nil,or_false,not_or] at this
 obtain ⟨⟨a1,a2,a3,a4,a5,a6⟩,⟨b1,b2,b3,b4,b5⟩,⟨c1,c2,c3,c4⟩,⟨d1,d2,d3⟩,⟨e1,e2⟩,f1,_⟩:=this
 exact ⟨a1,a2,a3,a4,a5,a6,b1,b2,b3,b4,b5,c1,c2,c3,c4,d1,d2,d3,e1,e2,f1⟩
theorem zc4 (c:Int) (c0:w.cell? ⟨b,0,none⟩=some (.int .i64 c)) :
  Calls Tryz.prog 31 #[.pointer (some ⟨b,0,none⟩)] w fun e w'=>e=.returned (.int .i64 c)∧w'=w:=by
 go_enter Tryz.func31,Tryz.ntmps31
 go_wp2
 go_returns
 exact ⟨rfl,rfl⟩
theorem sdue_any (h:SrcH S b B w P s hs hv wl hl) (ok:SrcOK s G) (hP:P≤64) :
  Calls Tryz.prog 55 #[.pointer (some ⟨b,0,none⟩)] w fun e w'=>e=.returned (.bool s.due)∧Below w.heap.size w w':=by
 have lb:=World.block_lt_of_cell? w _ h.c0
 simp only at lb
 have c0:=h.c0
 have c1:=h.c1
 have c2:=h.c2
 have hT:∀ w1,Below w.heap.size w w1→Calls Tryz.prog 101 #[.pointer (some ⟨B.tB,0,none⟩),.int .i64 s.now] w1 fun e w'=>e=.returned (.bool s.timerDue)∧Below w1.heap.size w1 w':=fun w1 hb=>by
  have:=tdue_any B.tB B.lB P hs hv s.now w1 ((h.tim ok hP).below hb)
  rwa [due_law s.now h.heap h.perm] at this
 have hPd:∀ w1,Below w.heap.size w w1→Calls Tryz.prog 102 #[.pointer (some ⟨B.pB,0,none⟩)] w1 fun e w'=>e=.returned (.bool s.fdDue)∧Below w1.heap.size w1 w':=fun w1 hb=>pdue_any (h.poll.below hb) ok.fd1 ok.fd ok.few
 have hNw:∀ w1,Below w.heap.size w w1→Calls Tryz.prog 31 #[.pointer (some ⟨b,0,none⟩)] w1 fun e w'=>e=.returned (.int .i64 s.now)∧w'=w1:=fun w1 hb=>zc4 s.now ((below_cell hb lb).trans c0)
 have e:s.due=(s.timerDue || s.fdDue):=rfl
 rw [e]
 generalize s.timerDue=dT at hT ⊢
 generalize s.fdDue=dP at hPd ⊢
 have HT:=Lib.hid hT
 have HPd:=Lib.hid hPd
 have HNw:=Lib.hid hNw
 have B0:=Lib.hid (show Below w.heap.size w w.drew from ⟨rfl,rfl,rfl,Nat.le_refl _,fun _ _=>rfl⟩)
 clear hT hPd hNw h ok e
 cases dT with
 | false =>
  go_enter Tryz.func55,Tryz.ntmps55
  go_wp2
  go_region_held3 (fun w'=>w'.cell? ⟨b,1,none⟩=some (.pointer (some ⟨B.tB,0,none⟩))∧w'.cell? ⟨b,2,none⟩=some (.pointer (some ⟨B.pB,0,none⟩)))
   (first | exact ⟨c1,c2⟩ | exact ⟨k1,k2⟩ | exact ⟨q1,q2⟩)
   (first
    | (go_at_call 31;refine (HNw.out w.drew B0.out).mono ?_;rintro e w1 ⟨rfl,hw⟩;have hw:=hw.symm;subst hw)
    | (go_at_call 101;refine (HT.out w.drew B0.out).mono ?_;rintro e w2 ⟨rfl,b2⟩;have K2:=Lib.hid (B0.out.trans b2);have k1:=(below_cell (o:=1) K2.out lb).trans c1;have k2:=(below_cell (o:=2) K2.out lb).trans c2;clear b2)
    | (go_at_call 102;refine (HPd.out w2 K2.out).mono ?_;rintro e w3 ⟨rfl,b3⟩;have K3:=Lib.hid (K2.out.trans (b3.mono K2.out.size));have q1:=(below_cell (o:=1) K3.out lb).trans c1;have q2:=(below_cell (o:=2) K3.out lb).trans c2;clear b3))
  go_wp2
  go_returns
  exact ⟨rfl,K3.out⟩
 | true =>
  go_enter Tryz.func55,Tryz.ntmps55
  go_wp2
  refine wp_region_held_drew (S:=fun w'=>w'.cell? ⟨b,1,none⟩=some (.pointer (some ⟨B.tB,0,none⟩))) (by kernel_rfl) c1 (fun hHeld=>?_)
  refine wpAnyH_take (i:=0) (oi:={ dst:=some 3,op:=Op.move (Operand.tmp 0),type:=58,pos := "source.go:61",after:=#[],guard:=none }) (v:=.pointer (some ⟨b,0,none⟩)) rfl (by kernel_rfl) (by kernel_rfl) (by kernel_rfl) (fun _ _ _ h=>h) (Or.inl ⟨by rfl,by intro w hSw;go_simp⟩) (by assumption) ?_;simp only [Act.put,List.setIfInBounds_toArray,List.set_cons_zero,List.set_cons_succ]
  refine wpAnyH_take (i:=1) (oi:={ dst:=some 4,op:=Op.nilCheck (Operand.tmp 3),type:=0,pos := "source.go:61",after:=#[{ on:=0,ground:=Ground.data }],guard:=none }) (v:=.pointer (some ⟨b,0,none⟩)) rfl (by kernel_rfl) (by kernel_rfl) (by kernel_rfl) (fun _ _ _ h=>h) (Or.inl ⟨by rfl,by intro w hSw;go_simp⟩) (by assumption) ?_;simp only [Act.put,List.setIfInBounds_toArray,List.set_cons_zero,List.set_cons_succ]
  refine wpAnyH_take (i:=2) (oi:={ dst:=some 5,op:=Op.fieldAddr 134 (Operand.tmp 4) 1,type:=0,pos := "source.go:61",after:=#[{ on:=1,ground:=Ground.data }],guard:=none }) (v:=.pointer (some ⟨b,1,none⟩)) rfl (by kernel_rfl) (by kernel_rfl) (by kernel_rfl) (fun _ _ _ h=>h) (Or.inl ⟨by rfl,by intro w hSw;go_simp⟩) (by assumption) ?_;simp only [Act.put,List.setIfInBounds_toArray,List.set_cons_zero,List.set_cons_succ]
  refine wpAnyH_take (i:=3) (oi:={ dst:=some 6,op:=Op.load 131 (Operand.tmp 5),type:=131,pos := "source.go:61",after:=#[{ on:=2,ground:=Ground.data }],guard:=none }) (v:=.pointer (some ⟨B.tB,0,none⟩)) rfl (by kernel_rfl) (by kernel_rfl) (by kernel_rfl) (fun _ _ _ h=>h) (Or.inl ⟨by rfl,by intro w hSw;go_simp⟩) (by assumption) ?_;simp only [Act.put,List.setIfInBounds_toArray,List.set_cons_zero,List.set_cons_succ]
  refine wpAnyH_take (i:=4) (oi:={ dst:=some 7,op:=Op.move (Operand.tmp 0),type:=58,pos := "source.go:61",after:=#[],guard:=none }) (v:=.pointer (some ⟨b,0,none⟩)) rfl (by kernel_rfl) (by kernel_rfl) (by kernel_rfl) (fun _ _ _ h=>h) (Or.inl ⟨by rfl,by intro w hSw;go_simp⟩) (by assumption) ?_;simp only [Act.put,List.setIfInBounds_toArray,List.set_cons_zero,List.set_cons_succ]
  refine wpAnyH_ready (rs:=[5]) (by kernel_rfl) (by simp) (AllReadyH.cons (o:={ dst:=some 8,op:=Op.call { callee:=Callee.value (Operand.func 31),args:=#[Operand.tmp 7],argTypes:=#[58] },type:=2,pos := "source.go:61",after:=#[{ on:=4,ground:=Ground.data }],guard:=none }) rfl (fun _ hK=>?_) AllReadyH.nil)
  go_simp
  go_at_call 31
  refine (HNw.out w.drew B0.out).mono ?_
  rintro e w1 ⟨rfl,hw⟩
  have hw:=hw.symm
  subst hw
  refine hK.out _ _ hHeld (fun hHeld=>?_)
  refine wpAnyH_ready (rs:=[6]) (by kernel_rfl) (by simp) (AllReadyH.cons (o:={ dst:=some 9,op:=Op.call { callee:=Callee.value (Operand.func 101),args:=#[Operand.tmp 6,Operand.tmp 8],argTypes:=#[131,2] },type:=4,pos := "source.go:61",after:=#[{ on:=3,ground:=Ground.data },{ on:=5,ground:=Ground.data },{ on:=5,ground:=Ground.chain }],guard:=none }) rfl (fun _ hK=>?_) AllReadyH.nil)
  go_simp
  go_at_call 101
  refine (HT.out w.drew B0.out).mono ?_
  rintro e w2 ⟨rfl,b2⟩
  have K2:=Lib.hid (B0.out.trans b2)
  clear b2
  refine hK.out _ _ ((below_cell (o:=1) K2.out lb).trans c1) (fun hHeld=>?_)
  refine wpAnyH_take (i:=7) (oi:={ dst:=some 10,op:=Op.move (Operand.tmp 9),type:=4,pos := "source.go:61",after:=#[{ on:=6,ground:=Ground.data },{ on:=6,ground:=Ground.chain }],guard:=none }) (v:=.bool true) rfl (by kernel_rfl) (by kernel_rfl) (by kernel_rfl) (fun _ _ _ h=>h) (Or.inl ⟨by rfl,by intro w hSw;go_simp⟩) (by assumption) ?_;simp only [Act.put,List.setIfInBounds_toArray,List.set_cons_zero,List.set_cons_succ]
  refine wpAnyH_take (i:=8) (oi:={ dst:=some 11,op:=Op.move (Operand.tmp 0),type:=58,pos := "source.go:61",after:=#[{ on:=7,ground:=Ground.guard }],guard:=some (7,false) }) (v:=undef) rfl (by kernel_rfl) (by kernel_rfl) (by kernel_rfl) (fun _ _ _ h=>h) (Or.inr ⟨by rfl,rfl⟩) (by assumption) ?_;simp only [Act.put,List.setIfInBounds_toArray,List.set_cons_zero,List.set_cons_succ]
  refine wpAnyH_take (i:=9) (oi:={ dst:=some 12,op:=Op.nilCheck (Operand.tmp 11),type:=0,pos := "source.go:61",after:=#[{ on:=8,ground:=Ground.data },{ on:=7,ground:=Ground.guard }],guard:=some (7,false) }) (v:=undef) rfl (by kernel_rfl) (by kernel_rfl) (by kernel_rfl) (fun _ _ _ h=>h) (Or.inr ⟨by rfl,rfl⟩) (by assumption) ?_;simp only [Act.put,List.setIfInBounds_toArray,List.set_cons_zero,List.set_cons_succ]
  refine wpAnyH_take (i:=10) (oi:={ dst:=some 13,op:=Op.fieldAddr 134 (Operand.tmp 12) 2,type:=0,pos := "source.go:61",after:=#[{ on:=9,ground:=Ground.data },{ on:=7,ground:=Ground.guard }],guard:=some (7,false) }) (v:=undef) rfl (by kernel_rfl) (by kernel_rfl) (by kernel_rfl) (fun _ _ _ h=>h) (Or.inr ⟨by rfl,rfl⟩) (by assumption) ?_;simp only [Act.put,List.setIfInBounds_toArray,List.set_cons_zero,List.set_cons_succ]
  refine wpAnyH_take (i:=11) (oi:={ dst:=some 14,op:=Op.load 132 (Operand.tmp 13),type:=132,pos := "source.go:61",after:=#[{ on:=10,ground:=Ground.data },{ on:=7,ground:=Ground.guard }],guard:=some (7,false) }) (v:=undef) rfl (by kernel_rfl) (by kernel_rfl) (by kernel_rfl) (fun _ _ _ h=>h) (Or.inr ⟨by rfl,rfl⟩) (by assumption) ?_;simp only [Act.put,List.setIfInBounds_toArray,List.set_cons_zero,List.set_cons_succ]
  refine wpAnyH_take (i:=12) (oi:={ dst:=some 15,op:=Op.call { callee:=Callee.value (Operand.func 102),args:=#[Operand.tmp 14],argTypes:=#[132] },type:=4,pos := "source.go:61",after:=#[{ on:=11,ground:=Ground.data },{ on:=7,ground:=Ground.chain },{ on:=7,ground:=Ground.guard }],guard:=some (7,false) }) (v:=undef) rfl (by kernel_rfl) (by kernel_rfl) (by kernel_rfl) (fun _ _ _ h=>h) (Or.inr ⟨by rfl,rfl⟩) (by assumption) ?_;simp only [Act.put,List.setIfInBounds_toArray,List.set_cons_zero,List.set_cons_succ]
  refine wpAnyH_take (i:=13) (oi:={ dst:=some 16,op:=Op.pick (Operand.tmp 10) (Operand.const (Value.bool true)) (Operand.tmp 15),type:=4,pos := "source.go:61",after:=#[{ on:=7,ground:=Ground.data },{ on:=12,ground:=Ground.data }],guard:=none }) (v:=.bool true) rfl (by kernel_rfl) (by kernel_rfl) (by kernel_rfl) (fun _ _ _ h=>h) (Or.inl ⟨by rfl,by intro w hSw;go_simp⟩) (by assumption) ?_;simp only [Act.put,List.setIfInBounds_toArray,List.set_cons_zero,List.set_cons_succ]
  refine wpAnyH_take (i:=14) (oi:={ dst:=some 2,op:=Op.assign (Operand.tmp 16),type:=4,pos := "source.go:61",after:=#[{ on:=13,ground:=Ground.data },{ on:=12,ground:=Ground.chain },{ on:=0,ground:=Ground.phase },{ on:=1,ground:=Ground.phase },{ on:=2,ground:=Ground.phase },{ on:=3,ground:=Ground.phase },{ on:=4,ground:=Ground.phase },{ on:=5,ground:=Ground.phase },{ on:=6,ground:=Ground.phase },{ on:=7,ground:=Ground.phase },{ on:=8,ground:=Ground.phase },{ on:=9,ground:=Ground.phase },{ on:=10,ground:=Ground.phase },{ on:=11,ground:=Ground.phase },{ on:=12,ground:=Ground.phase },{ on:=13,ground:=Ground.phase }],guard:=none }) (v:=.bool true) rfl (by kernel_rfl) (by kernel_rfl) (by kernel_rfl) (fun _ _ _ h=>h) (Or.inl ⟨by rfl,by intro w hSw;go_simp⟩) (by assumption) ?_;simp only [Act.put,List.setIfInBounds_toArray,List.set_cons_zero,List.set_cons_succ]
  refine wpAnyH_done (by kernel_rfl) ?_ _
  go_wp2
  all_goals go_returns
  all_goals exact ⟨rfl,K2.out⟩
end
theorem own_heap {w w':World} {e size n:Nat} {v:Value} {xs:List Value} (ho:w.ownsRow 0 e size v n xs) (hk:∀ g,g<w.heap.size→v.ownBlock=some g→w'.heap[g]?=w.heap[g]?):w'.ownsRow 0 e size v n xs:=by
 refine ⟨ho.1,?_⟩
 rcases ho.2 with hn | ⟨g,cap,cur,rfl,hbg,hg,rest⟩
 ·exact .inl hn
 ·exact .inr ⟨g,cap,cur,rfl,hbg,by rw [hk g (Array.getElem?_eq_some_iff.1 hg).1 rfl];exact hg,rest⟩
theorem Mod.frz {T:Nat→Prop} {w w':World} (h:Mod T w w') {x:Nat} (hx:x<w.heap.size) (hn:¬ T x) (hf:∀ o,w.frozen? ⟨x,o,none⟩=false):∀ o,w'.frozen? ⟨x,o,none⟩=false:=fun o=>(zc6 (h.block x hx hn)).trans (hf o)
section
variable {S:Nat→Prop} {b P G:Nat} {B:SrcF} {w:World} {s:Src} {hs:Nat→List Ent} {hv:Nat→Value} {wl hl:List (Int × Value)}
theorem sum_any (t d:Int) (ht:0≤t∧t≤9223372036854775807) (hd:0≤d∧d≤9223372036854775807) (w:World) :
  Calls Tryz.prog 216 #[.int .i64 t,.int .i64 d] w fun e w'=>e=.returned (.int .i64 (sumT t d))∧w'=w:=by
 by_cases hb:t+d≤9223372036854775807
 ·have e:sumT t d=t+d:=by unfold sumT;rw [if_neg (by omega),if_neg (by omega)]
  rw [e]
  have w1:IntKind.i64.wrap (t+d)=t+d:=IntWalk.i64_in _ (by omega)
  have h1:¬ t+d<t:=by omega
  have h2:¬ d<0:=by omega
  go_enter Tryz.func216,Tryz.ntmps216
  go_wp2
  all_goals go_returns
  all_goals exact ⟨rfl,rfl⟩
 ·have e:sumT t d=9223372036854775807:=by unfold sumT;rw [if_pos (by omega)]
  rw [e]
  obtain ⟨z,hz⟩:∃ z,z=t+d - 18446744073709551616:=⟨_,rfl⟩
  have w1:IntKind.i64.wrap (t+d)=z:=by
   rw [hz]
   have e3:(t+d) % 18446744073709551616=t+d:=Int.emod_eq_of_lt (by omega) (by omega)
   show (if (true && decide ((t+d) % 18446744073709551616 ≥ 9223372036854775808))=true then (t+d) % 18446744073709551616 - 18446744073709551616 else (t+d) % 18446744073709551616)=_
   rw [e3,if_pos (by simp;omega)]
  have h1:z<t:=by omega
  have h2:0<d:=by omega
  clear hz e
  go_enter Tryz.func216,Tryz.ntmps216
  go_wp2
  all_goals go_returns
  all_goals exact ⟨rfl,rfl⟩
theorem after_any (now d:Int) (hn:0≤now∧now≤9223372036854775807) (hd : -9223372036854775808≤d∧d≤9223372036854775807) (c0:w.cell? ⟨b,0,none⟩=some (.int .i64 now)) :
  Calls Tryz.prog 185 #[.pointer (some ⟨b,0,none⟩),.int .i64 d] w fun e w'=>e=.returned (.int .i64 (sumT now (max 0 d)))∧w'=w:=by
 have hs:=sum_any now (max 0 d) hn (by omega) w
 have HS:=Lib.hid hs
 clear hs
 go_enter Tryz.func185,Tryz.ntmps185
 go_wp2_with fail
 refine HS.out.mono ?_
 rintro e w1 ⟨rfl,rfl⟩
 go_wp2_with fail
 go_returns
 exact ⟨rfl,rfl⟩
theorem told_ok (h:SrcH S b B w P s hs hv wl hl) (ok:SrcOK s G) (hP:P≤64) :
  Calls Tryz.prog 149 #[.pointer (some ⟨b,0,none⟩),.int .i64 0] w fun e w'=>e=.returned (.tuple #[.bool s.due,.int .i64 0])∧Below w.heap.size w w':=by
 have hd:=sdue_any h ok hP
 have HD:=Lib.hid hd
 clear hd h ok
 go_enter Tryz.func149,Tryz.ntmps149
 go_wp2_with fail
 refine HD.out.mono ?_
 rintro e w1 ⟨rfl,b1⟩
 go_wp2_with fail
 go_returns
 exact ⟨rfl,b1⟩
theorem told_no (c:Int) (hc:c≠0) (w:World) :
  Calls Tryz.prog 149 #[.pointer (some ⟨b,0,none⟩),.int .i64 c] w fun e w'=>e=.returned (.tuple #[.bool false,.int .i64 c])∧w'=w:=by
 have hb:(c==0)=false:=by simpa using hc
 go_enter Tryz.func149,Tryz.ntmps149
 go_wp2_with fail
 go_returns
 exact ⟨rfl,rfl⟩
end
section
variable {S:Nat→Prop} {b P G:Nat} {B:SrcF} {w:World} {s:Src} {hs:Nat→List Ent} {hv:Nat→Value} {wl hl:List (Int × Value)}
theorem SrcH.below (h:SrcH S b B w P s hs hv wl hl) (hP:0<P) {w':World} (hb:Below w.heap.size w w'):SrcH S b B w' P s hs hv wl hl:=h.agree hP ⟨hb.size,fun x hx _=>hb.block x hx⟩ fun _ _ e=>e
theorem SrcH.lts (h:SrcH S b B w P s hs hv wl hl) (hP:0<P):b<w.heap.size∧B.tB<w.heap.size∧B.lB<w.heap.size∧B.pB<w.heap.size∧B.fB<w.heap.size∧B.wB<w.heap.size∧B.hB<w.heap.size :=
 ⟨World.block_lt_of_cell? w _ h.c0,World.block_lt_of_cell? w _ h.t0,World.block_lt_of_cell? w _ (h.l 0 hP),World.block_lt_of_cell? w _ h.p0,h.fds.lt,h.who.lt,h.has.lt⟩
theorem SrcH.rowne (h:SrcH S b B w P s hs hv wl hl) (k:Nat) (hk:k<P) {g:Nat} (hg:(hv k).ownBlock=some g):g≠b∧g≠B.tB∧g≠B.lB∧g≠B.pB∧g≠B.fB∧g≠B.wB∧g≠B.hB:=by
 have:=(h.apart k hk g hg).1
 simp only [List.mem_cons,List.not_mem_nil,or_false,not_or] at this
 exact this
theorem SrcH.own (h:SrcH S b B w P s hs hv wl hl) (hP:0<P) {s':Src} (o:Nat) (u:Value) (ho:o=0∨o=3) (e0:s'.tm=s.tm∧s'.order=s.order∧s'.fds=s.fds)
  (h0:(w.setCell ⟨b,o,none⟩ u).cell? ⟨b,0,none⟩=some (.int .i64 s'.now)) (h3:(w.setCell ⟨b,o,none⟩ u).cell? ⟨b,3,none⟩=some (.int .i64 (waitsN s':Nat))):SrcH S b B (w.setCell ⟨b,o,none⟩ u) P s' hs hv wl hl:=by
 have o1:(1:Nat)≠o:=by rcases ho with rfl | rfl <;> decide
 have o2:(2:Nat)≠o:=by rcases ho with rfl | rfl <;> decide
 obtain ⟨n1,n2,n3,n4,n5,n6,n7,n8,n9,n10,n11,n12,n13,n14,n15,n16,n17,n18,n19,n20,n21⟩:=h.nes
 obtain ⟨tm,ord,fds⟩:=e0
 have far:∀ x k,b≠x→(w.setCell ⟨b,o,none⟩ u).cell? ⟨x,k,none⟩=w.cell? ⟨x,k,none⟩:=fun x k hx=>World.cell?_setCell_far _ ⟨b,o,none⟩ ⟨x,k,none⟩ _ hx
 have blk:∀ x,b≠x→(w.setCell ⟨b,o,none⟩ u).heap[x]?=w.heap[x]?:=fun x hx=>Below.heap_setCell _ ⟨b,o,none⟩ _ x hx.symm
 have oth:∀ k,k≠o→(w.setCell ⟨b,o,none⟩ u).cell? ⟨b,k,none⟩=w.cell? ⟨b,k,none⟩:=fun k hk=>World.cell?_setCell_other _ ⟨b,o,none⟩ ⟨b,k,none⟩ _ (by intro e;injection e with _ e2 _;exact hk e2.symm)
 exact {
     inS:=h.inS,ne:=h.ne,c0:=h0,c1:=(oth 1 o1).trans h.c1,c2:=(oth 2 o2).trans h.c2,c3:=h3,
     t0:=(far _ _ n1).trans h.t0,t1:=by rw [ord];exact (far _ _ n1).trans h.t1,t2:=(far _ _ n1).trans h.t2,l:=fun k hk=>(far _ _ n2).trans (h.l k hk),
     p0:=(far _ _ n3).trans h.p0,p1:=(far _ _ n3).trans h.p1,fds:=by rw [fds];exact h.fds.congr (blk _ n4),who:=h.who.congr (blk _ n5),has:=h.has.congr (blk _ n6),
     rows:=fun k hk=>⟨own_heap (h.rows k hk).1 fun g _ hg=>blk g (h.rowne k hk hg).1.symm,(h.rows k hk).2⟩,apart:=h.apart,
     fr:=⟨fun o=>by rw [World.frozen?_setCell];exact h.fr.1 o,fun o=>by rw [World.frozen?_setCell];exact h.fr.2.1 o,fun o=>by rw [World.frozen?_setCell];exact h.fr.2.2.1 o,fun o=>by rw [World.frozen?_setCell];exact h.fr.2.2.2 o⟩,
     heap:=h.heap,perm:=by rw [tm];exact h.perm,whoN:=h.whoN,whoE:=by rw [fds];exact h.whoE,hasN:=h.hasN,hasE:=by rw [tm];exact h.hasE }
theorem stick_any (h:SrcH S b B w P s hs hv wl hl) (ok:SrcOK s G) (hP:0<P∧P≤64) (d:Int) (hd : -9223372036854775808≤d∧d≤9223372036854775807) (ok':SrcOK (s.tick d) G) :
  Calls Tryz.prog 109 #[.pointer (some ⟨b,0,none⟩),.int .i64 d] w fun e w'=>e=.returned (.bool (s.tick d).due)∧SrcH S b B w' P (s.tick d) hs hv wl hl∧Mod (·=b) w w':=by
 have c0:=h.c0
 have fb:=h.fr.1
 have ha:=after_any (b:=b) (w:=w) s.now d ok.now hd c0
 have h1:SrcH S b B (w.setCell ⟨b,0,none⟩ (.int .i64 (s.tick d).now)) P (s.tick d) hs hv wl hl :=
  h.own hP.1 0 _ (.inl rfl) ⟨rfl,rfl,rfl⟩ (World.cell?_setCell_same _ _ _ c0) ((World.cell?_setCell_other _ ⟨b,0,none⟩ ⟨b,3,none⟩ _ (by intro e;injection e with _ e2 _;omega)).trans h.c3)
 have hdue:=sdue_any h1 ok' hP.2
 have e:(s.tick d).now=sumT s.now (max 0 d):=rfl
 rw [e] at h1 hdue
 obtain ⟨t,ht⟩:∃ t,t=sumT s.now (max 0 d):=⟨_,rfl⟩
 rw [← ht] at ha h1 hdue
 have HA:=Lib.hid ha
 have HD:=Lib.hid hdue
 have H1:=Lib.hid h1
 clear h ha hdue h1 ht e ok ok'
 go_enter Tryz.func109,Tryz.ntmps109
 go_wp2_with (first | (go_at_call 185;refine HA.out.mono ?_;rintro e w1 ⟨rfl,hw⟩;have hw:=hw.symm;subst hw) | (go_at_call 148;go_in) | (go_at_call 55;refine HD.out.mono ?_;rintro e w2 ⟨rfl,b2⟩))
 go_returns
 exact ⟨rfl,H1.out.below hP.1 b2,((Mod.refl _ w).setB 0 _).trans1 (Mod.of_below b2 _)⟩
theorem sready_no (h:SrcH S b B w P s hs hv wl hl) (ok:SrcOK s G) (fd:Nat) (hf:s.full fd=true) :
  Calls Tryz.prog 110 #[.pointer (some ⟨b,0,none⟩),.int .u16 fd] w fun e w'=>e=.returned (.tuple #[.bool false,.int .i64 2])∧Below w.heap.size w w':=by
 have c2:=h.c2
 have hr:=pready_full h.poll (zbP ok.fd1) fd hf
 have hT:=fun w1=>told_no (b:=b) 2 (by decide) w1
 have HR:=Lib.hid hr
 have HT:=Lib.hid hT
 clear h ok hr hT hf
 go_enter Tryz.func110,Tryz.ntmps110
 go_wp2_with fail
 refine HR.out.mono ?_
 rintro e w1 ⟨rfl,b1⟩
 go_wp2_with fail
 refine (HT.out w1).mono ?_
 rintro e w2 ⟨rfl,rfl⟩
 go_wp2_with fail
 go_returns
 exact ⟨rfl,b1⟩
theorem SrcH.polledB (h:SrcH S b B w P s hs hv wl hl) (hP:0<P) {w':World} {l':List Hst.Fd} {wl':List (Int × Value)} (hp:PollH w' B.pB B.fB B.wB l' wl') (hm:Mod (fun x=>x=B.fB∨x=B.wB∨x=b) w w')
  (k0:w'.cell? ⟨b,0,none⟩=some (.int .i64 s.now)) (k1:w'.cell? ⟨b,1,none⟩=some (.pointer (some ⟨B.tB,0,none⟩))) (k2:w'.cell? ⟨b,2,none⟩=some (.pointer (some ⟨B.pB,0,none⟩))) (k3:w'.cell? ⟨b,3,none⟩=some (.int .i64 (waitsN { s with fds:=l' }:Nat))) (kf:∀ o,w'.frozen? ⟨b,o,none⟩=false)
  (hN:(wl'.map (·.1)).Nodup) (hE:∀ g v,(g,v)∈wl' ↔ ∃ x,x∈l'∧x.waits=true∧x.g=g∧v=.int .u16 (x.fd:Nat)):SrcH S b B w' P { s with fds:=l' } hs hv wl' hl:=by
 obtain ⟨n1,n2,n3,n4,n5,n6,n7,n8,n9,n10,n11,n12,n13,n14,n15,n16,n17,n18,n19,n20,n21⟩:=h.nes
 obtain ⟨l1,l2,l3,l4,l5,l6,l7⟩:=h.lts hP
 have nt:∀ x,x≠B.fB→x≠B.wB→x≠b→¬ (x=B.fB∨x=B.wB∨x=b):=fun x h1 h2 h3 e=>by rcases e with e | e | e;exact h1 e;exact h2 e;exact h3 e
 have keep:∀ x o v,x≠B.fB→x≠B.wB→x≠b→w.cell? ⟨x,o,none⟩=some v→w'.cell? ⟨x,o,none⟩=some v:=fun x o v h1 h2 h3 hc=>hm.cell (a:=⟨x,o,none⟩) (nt x h1 h2 h3) hc
 exact {
     inS:=h.inS,ne:=h.ne,c0:=k0,c1:=k1,c2:=k2,c3:=k3,
     t0:=keep _ _ _ n9 n10 n1.symm h.t0,t1:=keep _ _ _ n9 n10 n1.symm h.t1,t2:=keep _ _ _ n9 n10 n1.symm h.t2,l:=fun k hk=>keep _ _ _ n13 n14 n2.symm (h.l k hk),
     p0:=hp.p0,p1:=hp.p1,fds:=hp.fds,who:=hp.who,has:=h.has.congr (hm.block _ l7 (nt _ n20.symm n21.symm n6.symm)),
     rows:=fun k hk=>⟨own_heap (h.rows k hk).1 fun g hgl hg=>hm.block g hgl (nt _ (h.rowne k hk hg).2.2.2.2.1 (h.rowne k hk hg).2.2.2.2.2.1 (h.rowne k hk hg).1),(h.rows k hk).2⟩,apart:=h.apart,
     fr:=⟨kf,hm.frz l2 (nt _ n9 n10 n1.symm) h.fr.2.1,hm.frz l3 (nt _ n13 n14 n2.symm) h.fr.2.2.1,hm.frz l4 (nt _ n16 n17 n3.symm) h.fr.2.2.2⟩,
     heap:=h.heap,perm:=h.perm,whoN:=hN,whoE:=hE,hasN:=h.hasN,hasE:=h.hasE }
theorem SrcH.polled (h:SrcH S b B w P s hs hv wl hl) (hP:0<P) {w':World} {l':List Hst.Fd} {wl':List (Int × Value)} (hp:PollH w' B.pB B.fB B.wB l' wl') (hm:Mod (fun x=>x=B.fB∨x=B.wB) w w')
  (hw:waitsN { s with fds:=l' }=waitsN s) (hN:(wl'.map (·.1)).Nodup) (hE:∀ g v,(g,v)∈wl' ↔ ∃ x,x∈l'∧x.waits=true∧x.g=g∧v=.int .u16 (x.fd:Nat)):SrcH S b B w' P { s with fds:=l' } hs hv wl' hl:=by
 obtain ⟨n1,n2,n3,n4,n5,n6,n7,n8,n9,n10,n11,n12,n13,n14,n15,n16,n17,n18,n19,n20,n21⟩:=h.nes
 have nb:¬ (b=B.fB∨b=B.wB):=fun e=>by rcases e with e | e;exact n4 e;exact n5 e
 exact h.polledB hP hp (hm.mono fun x _ e=>e.imp id .inl) (hm.cell (a:=⟨b,0,none⟩) nb h.c0) (hm.cell (a:=⟨b,1,none⟩) nb h.c1) (hm.cell (a:=⟨b,2,none⟩) nb h.c2) (by rw [hw];exact hm.cell (a:=⟨b,3,none⟩) nb h.c3) (hm.frz (h.lts hP).1 nb h.fr.1) hN hE
theorem ready_eq (s:Src) (fd:Nat) (hf:s.full fd=false):s.ready fd=({ s with fds:=zeo s.fds { (s.fds.find? fun x=>x.fd==fd).getD fd0 with fd:=fd,ready:=true } },true):=by
 unfold Src.ready
 rw [if_neg (by rw [hf];decide)]
 unfold Src.fd?
 cases h:s.fds.find? fun x=>x.fd==fd with
 | none=>rfl
 | some x =>
  have h2:x.fd=fd:=by simpa using List.find?_some h
  subst h2
  rfl
theorem sready_ok (h:SrcH S b B w P s hs hv wl hl) (ok:SrcOK s G) (hP:0<P∧P≤64) (fd:Nat) (hf:s.full fd=false) (ok':SrcOK (s.ready fd).1 G) :
  Calls Tryz.prog 110 #[.pointer (some ⟨b,0,none⟩),.int .u16 fd] w fun e w'=>e=.returned (.tuple #[.bool (s.ready fd).1.due,.int .i64 0])∧SrcH S b B w' P (s.ready fd).1 hs hv wl hl∧Mod (·=B.fB) w w':=by
 have c2:=h.c2
 obtain ⟨n1,n2,n3,n4,n5,n6,n7,n8,n9,n10,n11,n12,n13,n14,n15,n16,n17,n18,n19,n20,n21⟩:=h.nes
 have hr:=pready_ok h.poll (zbP ok.fd1) fd hf ⟨n16.symm,n19⟩
 have hsrc:∀ w',PollH w' B.pB B.fB B.wB (zeo s.fds { (s.fds.find? fun x=>x.fd==fd).getD fd0 with fd:=fd,ready:=true }) wl→Mod (·=B.fB) w w'→SrcH S b B w' P (s.ready fd).1 hs hv wl hl:=fun w' hp hm=>by
  rw [ready_eq s fd hf]
  have hx:∀ y,y∈s.fds→y.fd=fd→(s.fds.find? fun x=>x.fd==fd)=some y:=fun y hy e=>by
   cases hq:s.fds.find? fun x=>x.fd==fd with
   | none =>
    have:=List.find?_eq_none.1 hq y hy
    simp [e] at this
   | some z =>
    have h2:=List.find?_some hq
    rw [zaS (ok.fd1 fd) (List.mem_of_find?_eq_some hq) hy h2 (by simp [e])]
  have hwr:=who_ready ok h.whoE (X:={ (s.fds.find? fun x=>x.fd==fd).getD fd0 with fd:=fd,ready:=true })
   (fun hw=>by
    cases hq:s.fds.find? fun x=>x.fd==fd with
    | none=>rw [hq] at hw;cases hw
    | some z =>
     rw [hq] at hw
     exact ⟨z,List.mem_of_find?_eq_some hq,by simpa using List.find?_some hq,hw,rfl⟩)
   (fun y hy e=>by rw [hx y hy e];exact ⟨rfl,fun _=>rfl⟩)
  exact h.polled hP.1 hp (hm.mono fun _ _ e=>.inl e) hwr.2 h.whoN hwr.1
 have hT:∀ w',SrcH S b B w' P (s.ready fd).1 hs hv wl hl→Calls Tryz.prog 149 #[.pointer (some ⟨b,0,none⟩),.int .i64 0] w' fun e w2=>e=.returned (.tuple #[.bool (s.ready fd).1.due,.int .i64 0])∧Below w'.heap.size w' w2:=fun w' hh=>told_ok hh ok' hP.2
 have HR:=Lib.hid hr
 have HS:=Lib.hid hsrc
 have HT:=Lib.hid hT
 generalize (s.ready fd).1=s' at *
 clear h ok ok' hr hsrc hT hf
 go_enter Tryz.func110,Tryz.ntmps110
 go_wp2_with fail
 refine HR.out.mono ?_
 rintro e w1 ⟨rfl,hp,hm⟩
 have h1:=Lib.hid (HS.out w1 hp hm)
 have HM:=Lib.hid hm
 clear hp hm
 go_wp2_with fail
 refine (HT.out w1 h1.out).mono ?_
 rintro e w2 ⟨rfl,b2⟩
 go_wp2_with fail
 go_returns
 exact ⟨rfl,h1.out.below hP.1 b2,HM.out.trans1 (Mod.of_below b2 _)⟩
end
section
variable {S:Nat→Prop} {b P G:Nat} {B:SrcF} {w:World} {s:Src} {hs:Nat→List Ent} {hv:Nat→Value} {wl hl:List (Int × Value)}
theorem wait_no {s:Src} {wl:List (Int × Value)} {fd:Nat} {g c:Int} (hW:(zen wl g).isSome=s.hasP g) (hf:zeH s.fds wl fd g=some c):s.wait fd g=(s,false)∧c≠0:=by
 unfold zeH at hf
 unfold Src.wait
 rw [hW] at hf
 unfold Src.full Src.fd?
 cases hq:s.fds.find? fun x=>x.fd==fd with
 | none =>
  rw [hq] at hf
  cases hp:s.hasP g
  ·rw [hp] at hf
   by_cases h3:1024≤s.fds.length
   ·simp [fd0,h3] at hf
    simp [h3,← hf]
   ·simp [fd0,h3] at hf
  ·rw [hp] at hf
   simp [fd0] at hf
   simp [← hf]
 | some x =>
  rw [hq] at hf
  cases hp:s.hasP g
  ·rw [hp] at hf
   cases hw:x.waits
   ·simp [hw] at hf
   ·simp [hw] at hf
    simp [hw,← hf]
  ·rw [hp] at hf
   simp at hf
   simp [← hf]
theorem zdE {s:Src} {wl:List (Int × Value)} {fd:Nat} {g:Int} (hW:(zen wl g).isSome=s.hasP g) (hT:s.hasT g=false) (hf:zeH s.fds wl fd g=none) :
  s.wait fd g=({ s with fds:=zeo s.fds ⟨fd,g,true,((s.fds.find? fun x=>x.fd==fd).getD fd0).ready⟩ },true)∧s.hasP g=false∧((s.fds.find? fun x=>x.fd==fd).getD fd0).waits=false:=by
 unfold zeH at hf
 unfold Src.wait
 rw [hW] at hf
 unfold Src.full Src.fd?
 cases hq:s.fds.find? fun x=>x.fd==fd with
 | none =>
  rw [hq] at hf
  cases hp:s.hasP g
  ·rw [hp] at hf
   by_cases h3:1024≤s.fds.length
   ·simp [fd0,h3] at hf
   ·simp [h3,hT,fd0]
  ·rw [hp] at hf
   simp [fd0] at hf
 | some x =>
  rw [hq] at hf
  cases hp:s.hasP g
  ·rw [hp] at hf
   cases hw:x.waits
   ·simp [hw,hT]
   ·simp [hw] at hf
  ·rw [hp] at hf
   simp at hf
theorem SrcH.hU (h:SrcH S b B w P s hs hv wl hl):∀ p,p∈hl→p.2=.agg #[]:=fun p hp=>((h.hasE p.1 p.2).1 hp).1
theorem swait_no (h:SrcH S b B w P s hs hv wl hl) (ok:SrcOK s G) (fd:Nat) (g c:Int) (hg:0≤g∧g<4096) (hT:s.hasT g=false) (hf:zeH s.fds wl fd g=some c) :
  Calls Tryz.prog 235 #[.pointer (some ⟨b,0,none⟩),.int .u16 fd,.int .i64 g] w fun e w'=>e=.returned (.tuple #[.bool false,.int .i64 c])∧Below w.heap.size w w':=by
 have lb:=World.block_lt_of_cell? w _ h.c1
 simp only at lb
 have c1:=h.c1
 have c2:=h.c2
 have hh:=thas_any h.t2 h.has h.hasN h.hU g
 rw [has_is h.hasN h.hasE g,hT] at hh
 have hr:=fun w1 hb=>pwait_no (h.poll.below (w':=w1) hb) (zbP ok.fd1) h.whoN fd g c hg hf
 have hc:=(wait_no (who_is h.whoN h.whoE g) hf).2
 have hTo:=fun w1=>told_no (b:=b) c hc w1
 have hcb:(c==0)=false:=by simpa using hc
 have HH:=Lib.hid hh
 have HR:=Lib.hid hr
 have HT:=Lib.hid hTo
 clear h ok hr hTo hf hh hT hc
 go_enter Tryz.func235,Tryz.ntmps235
 go_wp2_with fail
 refine HH.out.mono ?_
 rintro e w1 ⟨rfl,b1⟩
 have c21:=(below_cell (o:=2) b1 lb).trans c2
 go_wp2_with fail
 refine (HR.out w1 b1).mono ?_
 rintro e w2 ⟨rfl,b2⟩
 have K2:=b1.trans (b2.mono b1.size)
 clear b1 b2
 go_wp2_with fail
 refine (HT.out w2).mono ?_
 rintro e w3 ⟨rfl,rfl⟩
 go_wp2_with fail
 go_returns
 exact ⟨rfl,K2⟩
theorem swait_ok (h:SrcH S b B w P s hs hv wl hl) (ok:SrcOK s G) (hP:0<P∧P≤64) (fd:Nat) (g:Int) (hg:0≤g∧g<4096) (hT:s.hasT g=false) (hf:zeH s.fds wl fd g=none) (ok':SrcOK (s.wait fd g).1 G) :
  Calls Tryz.prog 235 #[.pointer (some ⟨b,0,none⟩),.int .u16 fd,.int .i64 g] w fun e w'=>e=.returned (.tuple #[.bool (s.wait fd g).1.due,.int .i64 0]) ∧
   (∃ wl',SrcH S b B w' P (s.wait fd g).1 hs hv wl' hl)∧Mod (fun x=>x=B.fB∨x=B.wB∨x=b) w w':=by
 have lb:=World.block_lt_of_cell? w _ h.c1
 simp only at lb
 have c1:=h.c1
 have c2:=h.c2
 have c3:=h.c3
 have fb:=h.fr.1
 obtain ⟨n1,n2,n3,n4,n5,n6,n7,n8,n9,n10,n11,n12,n13,n14,n15,n16,n17,n18,n19,n20,n21⟩:=h.nes
 have hh:=thas_any h.t2 h.has h.hasN h.hU g
 rw [has_is h.hasN h.hasE g,hT] at hh
 have hr:=fun w1 hb=>pwait_ok (h.poll.below (w':=w1) hb) (zbP ok.fd1) h.whoN fd g hg hf ⟨n16.symm,n19,n17.symm⟩
 obtain ⟨e1,hnP,hnw⟩:=zdE (who_is h.whoN h.whoE g) hT hf
 obtain ⟨x,hx⟩:∃ x:Hst.Fd,x=⟨fd,g,true,((s.fds.find? fun x=>x.fd==fd).getD fd0).ready⟩:=⟨_,rfl⟩
 have hold:∀ y,y∈s.fds→y.fd=x.fd→y.waits=false:=fun y hy e=>by
  have e2:y.fd=fd:=by rw [e,hx]
  cases hq:s.fds.find? fun x=>x.fd==fd with
  | none =>
   have:=List.find?_eq_none.1 hq y hy
   simp [e2] at this
  | some z =>
   have h2:=List.find?_some hq
   rw [hq] at hnw
   rw [zaS (ok.fd1 fd) hy (List.mem_of_find?_eq_some hq) (by simp [e2]) h2]
   exact hnw
 have hw1:=who_put h.whoE h.whoN (X:=x) (by rw [hx]) (by rw [hx];exact hnP) hold
 have hw2:=waits_put ok (X:=x) (by rw [hx]) hold
 rw [e1] at ok' ⊢
 rw [← hx] at ok' hr ⊢
 have hxg:x.g=g:=by rw [hx]
 have hxf:x.fd=fd:=by rw [hx]
 rw [hxg,hxf] at hw1
 have hwb:(waitsN s:Int)≤1024:=by
  have h1:=List.countP_le_length (p:=fun x:Hst.Fd=>x.waits) (l:=s.fds)
  have h2:=ok.few
  unfold waitsN
  omega
 have hsrc:∀ w1 w2,Below w.heap.size w w1→PollH w2 B.pB B.fB B.wB (zeo s.fds x) (zeB wl g (.int .u16 fd))→Mod (fun y=>y=B.fB∨y=B.wB) w1 w2 →
   SrcH S b B (w2.setCell ⟨b,3,none⟩ (.int .i64 ((waitsN s:Int)+1))) P { s with fds:=zeo s.fds x } hs hv (zeB wl g (.int .u16 fd)) hl∧w2.cell? ⟨b,3,none⟩=some (.int .i64 (waitsN s:Nat))∧(∀ o,w2.frozen? ⟨b,o,none⟩=false)∧w2.heap.size=w2.heap.size:=fun w1 w2 hb hp hm=>by
  have h1:=h.below hP.1 hb
  have nb:¬ (b=B.fB∨b=B.wB):=fun e=>by rcases e with e | e;exact n4 e;exact n5 e
  have k:∀ o v,w1.cell? ⟨b,o,none⟩=some v→w2.cell? ⟨b,o,none⟩=some v:=fun o v hc=>hm.cell (a:=⟨b,o,none⟩) nb hc
  have kf:=hm.frz (h1.lts hP.1).1 nb h1.fr.1
  have oth:∀ o,o≠3→(w2.setCell ⟨b,3,none⟩ (.int .i64 ((waitsN s:Int)+1))).cell? ⟨b,o,none⟩=w2.cell? ⟨b,o,none⟩:=fun o ho=>World.cell?_setCell_other _ ⟨b,3,none⟩ ⟨b,o,none⟩ _ (by intro e;injection e with _ e2 _;exact ho e2.symm)
  refine ⟨h1.polledB hP.1 ⟨(World.cell?_setCell_far _ ⟨b,3,none⟩ ⟨_,_,none⟩ _ n3).trans hp.p0,(World.cell?_setCell_far _ ⟨b,3,none⟩ ⟨_,_,none⟩ _ n3).trans hp.p1,hp.fds.congr (Below.heap_setCell _ ⟨b,3,none⟩ _ _ n4.symm),hp.who.congr (Below.heap_setCell _ ⟨b,3,none⟩ _ _ n5.symm)⟩
   ((hm.mono fun y _ e=>e.imp id .inl).setCell (.inl (.inr (.inr rfl))) _) ((oth 0 (by decide)).trans (k 0 _ h1.c0)) ((oth 1 (by decide)).trans (k 1 _ h1.c1)) ((oth 2 (by decide)).trans (k 2 _ h1.c2)) ?_ (fun o=>by rw [World.frozen?_setCell];exact kf o) hw1.1 hw1.2,k 3 _ h1.c3,kf,rfl⟩
  rw [hw2]
  exact World.cell?_setCell_same _ _ _ (k 3 _ h1.c3)
 have hTo:∀ w',SrcH S b B w' P { s with fds:=zeo s.fds x } hs hv (zeB wl g (.int .u16 fd)) hl→Calls Tryz.prog 149 #[.pointer (some ⟨b,0,none⟩),.int .i64 0] w' fun e w2=>e=.returned (.tuple #[.bool ({ s with fds:=zeo s.fds x }:Src).due,.int .i64 0])∧Below w'.heap.size w' w2:=fun w' hh=>told_ok hh ok' hP.2
 have HH:=Lib.hid hh
 have HR:=Lib.hid hr
 have HS:=Lib.hid hsrc
 have HT:=Lib.hid hTo
 obtain ⟨s',hs'⟩:∃ s':Src,s'={ s with fds:=zeo s.fds x }:=⟨_,rfl⟩
 rw [← hs'] at HS HT ⊢
 obtain ⟨nw,hnw2⟩:∃ nw:Int,nw=(waitsN s:Int):=⟨_,rfl⟩
 rw [← hnw2] at HS c3 hwb
 have w1o:IntKind.i64.wrap (nw+1)=nw+1:=IntWalk.i64_in _ (by omega)
 clear h ok ok' hr hsrc hTo hh hw1 hw2 hold hnw hnP e1 hf hT hs' hnw2 c3
 go_enter Tryz.func235,Tryz.ntmps235
 go_wp2_with fail
 refine HH.out.mono ?_
 rintro e w1 ⟨rfl,b1⟩
 have c21:=(below_cell (o:=2) b1 lb).trans c2
 have B1:=Lib.hid b1
 go_wp2_with fail
 refine (HR.out w1 b1).mono ?_
 rintro e w2 ⟨rfl,hp,hm⟩
 obtain ⟨h3,k3,kf,_⟩:=HS.out w1 w2 b1 hp hm
 have H3:=Lib.hid h3
 have HM:=Lib.hid hm
 clear b1 hp hm h3 fb
 go_wp2_with fail
 refine (HT.out _ H3.out).mono ?_
 rintro e w3 ⟨rfl,b3⟩
 go_wp2_with fail
 go_returns
 refine ⟨rfl,⟨_,H3.out.below hP.1 b3⟩,?_⟩
 exact ((((Mod.of_below B1.out _).trans1 (HM.out.mono fun y _ e=>e.imp id .inl)).setCell (.inl (.inr (.inr rfl))) _)).trans1 (Mod.of_below b3 _)
end
section
variable {S:Nat→Prop} {b P G:Nat} {B:SrcF} {w:World} {s:Src} {hs:Nat→List Ent} {hv:Nat→Value} {wl hl:List (Int × Value)}
theorem SrcH.timed (h:SrcH S b B w P s hs hv wl hl) (hP:0<P) {w':World} {q c n cap:Nat} {l':List Ent} {tm':List Ent} {ord':Nat} {hl':List (Int × Value)} (hq:q<P) (hbs:(hv q).ownBlock=some c∨w.heap.size≤c)
  (hcq:w'.cell? ⟨B.lB,q,none⟩=some (.slice (some ⟨c,0,none⟩) n cap)) (hrow:RowE w' c cap l') (hn:n=l'.length) (hoth:∀ o,o≠q→w'.cell? ⟨B.lB,o,none⟩=w.cell? ⟨B.lB,o,none⟩)
  (ht1:w'.cell? ⟨B.tB,1,none⟩=some (.int .u64 (ord':Nat))) (hto:∀ o,o≠1→w'.cell? ⟨B.tB,o,none⟩=w.cell? ⟨B.tB,o,none⟩) (hft:∀ o,w'.frozen? ⟨B.tB,o,none⟩=false) (hfl:∀ o,w'.frozen? ⟨B.lB,o,none⟩=false)
  (hm:IMap .i64 w' B.hB hl') (hmod:Mod (fun x=>(hv q).ownBlock=some x∨x=B.lB∨x=B.tB∨x=B.hB) w w')
  (hh:isHeap l') (hp:((List.range P).flatMap (updH hs q l')).Perm tm') (hN:(hl'.map (·.1)).Nodup) (hE:∀ g v,(g,v)∈hl' ↔ v=.agg #[]∧∃ e,e∈tm'∧e.g=g) :
  SrcH (fun x=>S x∨w.heap.size≤x) b B w' P { s with tm:=tm',order:=ord' } (updH hs q l') (fun k=>if k=q then .slice (some ⟨c,0,none⟩) n cap else hv k) wl hl':=by
 obtain ⟨n1,n2,n3,n4,n5,n6,n7,n8,n9,n10,n11,n12,n13,n14,n15,n16,n17,n18,n19,n20,n21⟩:=h.nes
 obtain ⟨l1,l2,l3,l4,l5,l6,l7⟩:=h.lts hP
 have hqn:∀ x,(hv q).ownBlock=some x→x≠b∧x≠B.tB∧x≠B.lB∧x≠B.pB∧x≠B.fB∧x≠B.wB∧x≠B.hB:=fun x hx=>h.rowne q hq hx
 have nt:∀ x,(hv q).ownBlock≠some x→x≠B.lB→x≠B.tB→x≠B.hB→¬ ((hv q).ownBlock=some x∨x=B.lB∨x=B.tB∨x=B.hB):=fun x h1 h2 h3 h4 e=>by rcases e with e | e | e | e;exact h1 e;exact h2 e;exact h3 e;exact h4 e
 have keep:∀ x o v,(hv q).ownBlock≠some x→x≠B.lB→x≠B.tB→x≠B.hB→w.cell? ⟨x,o,none⟩=some v→w'.cell? ⟨x,o,none⟩=some v:=fun x o v h1 h2 h3 h4 hc=>hmod.cell (a:=⟨x,o,none⟩) (nt x h1 h2 h3 h4) hc
 have qb:(hv q).ownBlock≠some b:=fun e=>(hqn b e).1 rfl
 have qp:(hv q).ownBlock≠some B.pB:=fun e=>(hqn _ e).2.2.2.1 rfl
 have qf:(hv q).ownBlock≠some B.fB:=fun e=>(hqn _ e).2.2.2.2.1 rfl
 have qw:(hv q).ownBlock≠some B.wB:=fun e=>(hqn _ e).2.2.2.2.2.1 rfl
 have cne:¬ c∈[b,B.tB,B.lB,B.pB,B.fB,B.wB,B.hB]:=by
  rcases hbs with e | e
  ·exact (h.apart q hq c e).1
  ·simp only [List.mem_cons,List.not_mem_nil,or_false,not_or]
   exact ⟨by omega,by omega,by omega,by omega,by omega,by omega,by omega⟩
 have cother:∀ k,k<P→k≠q→(hv k).ownBlock≠some c:=fun k hk hkq e=>by
  rcases hbs with e2 | e2
  ·exact (h.apart q hq c e2).2 k hk hkq e
  ·have:=((h.rows k hk).1.lt c e).2
   omega
 exact {
     inS:=⟨.inl h.inS.1,.inl h.inS.2.1,.inl h.inS.2.2.1,.inl h.inS.2.2.2.1,.inl h.inS.2.2.2.2.1,.inl h.inS.2.2.2.2.2.1,.inl h.inS.2.2.2.2.2.2⟩,ne:=h.ne,
     c0:=keep _ _ _ qb n2 n1 n6 h.c0,c1:=keep _ _ _ qb n2 n1 n6 h.c1,c2:=keep _ _ _ qb n2 n1 n6 h.c2,c3:=keep _ _ _ qb n2 n1 n6 h.c3,
     t0:=(hto 0 (by decide)).trans h.t0,t1:=ht1,t2:=(hto 2 (by decide)).trans h.t2,
     l:=fun k hk=>by
      by_cases e:k=q
      ·subst e;rw [if_pos rfl];exact hcq
      ·rw [if_neg e];exact (hoth k e).trans (h.l k hk),
     p0:=keep _ _ _ qp n12.symm n8.symm n18 h.p0,p1:=keep _ _ _ qp n12.symm n8.symm n18 h.p1,
     fds:=h.fds.congr (hmod.block _ l5 (nt _ qf n13.symm n9.symm n20)),who:=h.who.congr (hmod.block _ l6 (nt _ qw n14.symm n10.symm n21)),has:=hm,
     rows:=fun k hk=>by
      by_cases e:k=q
      ·subst e
       rw [if_pos rfl,updH_at,hn]
       refine ⟨hrow,fun g hg=>?_⟩
       have e2:g=c:=by simpa [Value.ownBlock] using hg.symm
       rw [e2]
       rcases hbs with e3 | e3
       ·exact .inl ((h.rows k hk).2 c e3)
       ·exact .inr e3
      ·rw [if_neg e,updH_ne _ _ e]
       refine ⟨own_heap (h.rows k hk).1 fun g hgl hg=>hmod.block g hgl (nt _ (fun e2=>(h.apart q hq g e2).2 k hk e hg) (h.rowne k hk hg).2.2.1 (h.rowne k hk hg).2.1 (h.rowne k hk hg).2.2.2.2.2.2),fun g hg=>.inl ((h.rows k hk).2 g hg)⟩,
     apart:=fun k hk g hg=>by
      by_cases e:k=q
      ·subst e
       rw [if_pos rfl] at hg
       have e2:g=c:=by simpa [Value.ownBlock] using hg.symm
       rw [e2]
       refine ⟨cne,fun j hj hjk=>?_⟩
       rw [if_neg hjk]
       exact cother j hj hjk
      ·rw [if_neg e] at hg
       refine ⟨(h.apart k hk g hg).1,fun j hj hjk=>?_⟩
       by_cases e2:j=q
       ·subst e2
        rw [if_pos rfl]
        intro e3
        have e4:c=g:=by simpa [Value.ownBlock] using e3
        exact cother k hk e (by rw [e4];exact hg)
       ·rw [if_neg e2]
        exact (h.apart k hk g hg).2 j hj hjk,
     fr:=⟨hmod.frz l1 (nt _ qb n2 n1 n6) h.fr.1,hft,hfl,hmod.frz l4 (nt _ qp n12.symm n8.symm n18) h.fr.2.2.2⟩,
     heap:=fun k hk=>by
      by_cases e:k=q
      ·subst e;rw [updH_at];exact hh
      ·rw [updH_ne _ _ e];exact h.heap k hk,
     perm:=hp,whoN:=h.whoN,whoE:=h.whoE,hasN:=hN,hasE:=hE }
theorem ssleep_ok (h:SrcH S b B w P s hs hv wl hl) (ok:SrcOK s G) (hP:0<P∧P≤64) (q:Nat) (g d:Int) (hq:q<P) (hg:0≤g∧g<4096) (hd : -9223372036854775808≤d∧d≤9223372036854775807) (hT:s.hasT g=false) (hPn:s.hasP g=false) (ok':SrcOK (s.sleep g d) G) :
  Calls Tryz.prog 236 #[.pointer (some ⟨b,0,none⟩),.int .i64 q,.int .i64 g,.int .i64 d] w fun e w'=>e=.returned (.tuple #[.bool (s.sleep g d).due,.int .i64 0]) ∧
   (∃ hs' hv' hl',SrcH (fun x=>S x∨w.heap.size≤x) b B w' P (s.sleep g d) hs' hv' wl hl')∧Mod S w w':=by
 have lb:=World.block_lt_of_cell? w _ h.c1
 simp only at lb
 have c1:=h.c1
 have c2:=h.c2
 obtain ⟨n1,n2,n3,n4,n5,n6,n7,n8,n9,n10,n11,n12,n13,n14,n15,n16,n17,n18,n19,n20,n21⟩:=h.nes
 have hh:=phas_any h.poll h.whoN g
 rw [who_is h.whoN h.whoE g,hPn] at hh
 have hno:zen hl g=none:=by
  have:=has_is h.hasN h.hasE g
  rw [hT] at this
  cases hx:zen hl g with
  | none=>rfl
  | some v=>rw [hx] at this;cases this
 have ha:=after_any (b:=b) (w:=w.drew) s.now d ok.now hd h.c0
 have hlen:=h.len ok q hq
 obtain ⟨t,ht⟩:∃ t,t=sumT s.now (max 0 d):=⟨_,rfl⟩
 have hst:s.sleep g d={ s with tm:=s.tm++[⟨t,s.order,g⟩],order:=s.order+1 }:=by rw [ht];rfl
 rw [← ht] at ha
 have h0:SrcH S b B w.drew P s hs hv wl hl:=h.agree hP.1 ⟨Nat.le_refl _,fun _ _ _=>rfl⟩ fun _ _ e=>e
 have hadd:=tadd_ok (h0.tim ok hP.2) s.order h0.t1 h0.t2 h0.has h0.hasN h0.hU ⟨h0.fr.2.1,h0.fr.2.2.1⟩ ⟨n7,n11.symm,n15.symm⟩
  (fun k hk=>⟨fun e=>(h0.rowne k hk e).2.1 rfl,fun e=>(h0.rowne k hk e).2.2.1 rfl,fun e=>(h0.rowne k hk e).2.2.2.2.2.2 rfl⟩) q g t hq hg ok.ord hno (by omega)
 have hput:=put_heap (hs q) ⟨t,s.order,g⟩ (h.heap q hq)
 have hpp:=perm_put hq h.perm hput.2
 obtain ⟨_,hN',hE'⟩:=has_put h.hasE (e:=⟨t,s.order,g⟩) hT h.hasN
 have hto:∀ w' S' hs' hv' hl',SrcH S' b B w' P (s.sleep g d) hs' hv' wl hl'→Calls Tryz.prog 149 #[.pointer (some ⟨b,0,none⟩),.int .i64 0] w' fun e w2=>e=.returned (.tuple #[.bool (s.sleep g d).due,.int .i64 0])∧Below w'.heap.size w' w2:=fun w' S' hs' hv' hl' hx=>told_ok hx ok' hP.2
 have hsrc:∀ w1 c cap,((hv q).ownBlock=some c∨w.heap.size≤c)→w1.cell? ⟨B.lB,q,none⟩=some (.slice (some ⟨c,0,none⟩) ((hs q).length+1) cap)→RowE w1 c cap (upE ((hs q).length+1) (hs q++[⟨t,s.order,g⟩]) (hs q).length) →
   (∀ o,o≠q→w1.cell? ⟨B.lB,o,none⟩=w.cell? ⟨B.lB,o,none⟩)→w1.cell? ⟨B.tB,1,none⟩=some (.int .u64 ((s.order+1:Nat):Int))→(∀ o,o≠1→w1.cell? ⟨B.tB,o,none⟩=w.cell? ⟨B.tB,o,none⟩)→((∀ o,w1.frozen? ⟨B.tB,o,none⟩=false)∧∀ o,w1.frozen? ⟨B.lB,o,none⟩=false) →
   IMap .i64 w1 B.hB (zeB hl g (.agg #[]))→Mod (fun x=>(hv q).ownBlock=some x∨x=B.lB∨x=B.tB∨x=B.hB) w w1→(∃ hs' hv' hl',SrcH (fun x=>S x∨w.heap.size≤x) b B w1 P (s.sleep g d) hs' hv' wl hl')∧Mod S w w1:=fun w1 c cap e1 e2 e3 e4 e5 e6 e7 e8 e9=>by
  have hx:=h.timed hP.1 hq e1 e2 e3 (by rw [upE_len];simp) e4 e5 e6 e7.1 e7.2 e8 e9 hput.1 hpp hN' hE'
  rw [← hst] at hx
  refine ⟨⟨_,_,_,hx⟩,e9.mono fun x _ e=>by rcases e with e | e | e | e;exact (h.rows q hq).2 x e;exact e ▸ h.inS.2.2.1;exact e ▸ h.inS.2.1;exact e ▸ h.inS.2.2.2.2.2.2⟩
 have HH:=Lib.hid hh
 have HA:=Lib.hid ha
 have HAD:=Lib.hid hadd
 have HS:=Lib.hid hsrc
 have HT:=Lib.hid hto
 generalize s.sleep g d=s' at *
 clear h ok ok' hh ha hadd hsrc hto hput hpp hN' hE' ht hst h0 hno hT hPn hlen
 go_enter Tryz.func236,Tryz.ntmps236
 go_wp2_with fail
 refine HH.out.mono ?_
 rintro e w1 ⟨rfl,hw⟩
 have hw:=hw.symm
 subst hw
 go_wp2_with fail
 go_region_held3 (fun w'=>w'.cell? ⟨b,1,none⟩=some (.pointer (some ⟨B.tB,0,none⟩)))
  (first | exact c1 | exact k1 | exact k2)
  (first
   | (go_at_call 185;refine HA.out.mono ?_;rintro e w2 ⟨rfl,hw⟩;have hw:=hw.symm;subst hw)
   | (go_at_call 248;refine HAD.out.mono ?_;rintro e w3 ⟨rfl,c,cap,hcl,hbs,hcq,hrow,hoth,ht1,hto,hfz,hm,hmod⟩;have hr:=HS.out w3 c cap hbs hcq hrow hoth ht1 hto hfz hm ((Mod.refl _ w).drew.trans1 hmod);obtain ⟨⟨hs',hv',hl',hsr⟩,hmd⟩:=hr;have k1:=hsr.c1;have HSR:=Lib.hid hsr;have HMD:=Lib.hid hmd;clear hcl hbs hcq hrow hoth ht1 hto hfz hm hmod hsr hmd)
   | (go_at_call 149;refine (HT.out w3 _ _ _ _ HSR.out).mono ?_;rintro e w4 ⟨rfl,b4⟩;have B4:=Lib.hid b4;have k2:=(below_cell (o:=1) b4 (World.block_lt_of_cell? w3 _ k1)).trans k1;clear b4))
 go_wp2_with fail
 go_returns
 exact ⟨rfl,⟨hs',hv',hl',HSR.out.below hP.1 B4.out⟩,HMD.out.trans1 (Mod.of_below B4.out _)⟩
end
end Go.Proofs.YtlmmjgekolpekaaGreatDoor
