/- Parts of the proof. -/
import Derived.Test.YtlmmjgekolpekaaGreatDoorMPk29
set_option linter.unusedVariables false
set_option linter.unusedSimpArgs false
set_option linter.unusedSectionVars false
set_option maxRecDepth 100000
set_option maxHeartbeats 6400000
namespace Go.Proofs.YtlmmjgekolpekaaGreatDoor
open Go Go.RowKit Hst Go.Proofs
def zeu:Array Oper:=#[{ dst:=some 10,op:=Op.load 42 (Operand.tmp 1),type:=42,pos := "world.go:80",after:=#[],guard:=none },
 { dst:=some 11,op:=Op.fieldAddr 42 (Operand.tmp 1) 0,type:=0,pos := "world.go:80",after:=#[],guard:=none },
 { dst:=some 12,op:=Op.load 3 (Operand.tmp 11),type:=3,pos := "world.go:80",after:=#[{ on:=1,ground:=Ground.data }],guard:=none },
 { dst:=some 13,op:=Op.binOp BinOp.add 3 (Operand.tmp 12) (Operand.const (Value.int IntKind.i64 2)) 3,type:=3,pos := "world.go:80",after:=#[{ on:=2,ground:=Ground.data }],guard:=none },
 { dst:=some 14,op:=Op.binOp BinOp.mul 3 (Operand.const (Value.int IntKind.i64 2)) (Operand.tmp 13) 3,type:=3,pos := "world.go:80",after:=#[{ on:=3,ground:=Ground.data }],guard:=none },
 { dst:=some 15,op:=Op.fieldAddr 42 (Operand.tmp 1) 0,type:=0,pos := "world.go:80",after:=#[],guard:=none },
 { dst:=some 16,op:=Op.load 3 (Operand.tmp 15),type:=3,pos := "world.go:80",after:=#[{ on:=5,ground:=Ground.data }],guard:=none },
 { dst:=some 17,op:=Op.makeSlice 45 (Operand.tmp 16) (Operand.tmp 16),type:=45,pos := "world.go:80",after:=#[{ on:=6,ground:=Ground.data },{ on:=6,ground:=Ground.data }],guard:=none },
 { dst:=some 18,op:=Op.fieldAddr 42 (Operand.tmp 1) 1,type:=0,pos := "world.go:80",after:=#[],guard:=none },
 { dst:=some 19,op:=Op.load 3 (Operand.tmp 18),type:=3,pos := "world.go:80",after:=#[{ on:=8,ground:=Ground.data }],guard:=none },
 { dst:=some 20,op:=Op.makeSlice 118 (Operand.tmp 19) (Operand.tmp 19),type:=118,pos := "world.go:80",after:=#[{ on:=9,ground:=Ground.data },{ on:=9,ground:=Ground.data }],guard:=none },
 { dst:=some 21,op:=Op.fieldAddr 42 (Operand.tmp 1) 0,type:=0,pos := "world.go:80",after:=#[],guard:=none },
 { dst:=some 22,op:=Op.load 3 (Operand.tmp 21),type:=3,pos := "world.go:80",after:=#[{ on:=11,ground:=Ground.data }],guard:=none },
 { dst:=some 23,op:=Op.call { callee:=Callee.value (Operand.func 119),args:=#[Operand.tmp 22],argTypes:=#[3] },type:=116,pos := "world.go:80",after:=#[{ on:=12,ground:=Ground.data }],guard:=none },
 { dst:=some 24,op:=Op.fieldAddr 42 (Operand.tmp 1) 0,type:=0,pos := "world.go:80",after:=#[],guard:=none },
 { dst:=some 25,op:=Op.load 3 (Operand.tmp 24),type:=3,pos := "world.go:80",after:=#[{ on:=14,ground:=Ground.data }],guard:=none },
 { dst:=some 26,op:=Op.call { callee:=Callee.value (Operand.func 120),args:=#[Operand.tmp 25],argTypes:=#[3] },type:=58,pos := "world.go:80",after:=#[{ on:=15,ground:=Ground.data },{ on:=13,ground:=Ground.chain }],guard:=none },
 { dst:=some 27,op:=Op.fieldAddr 42 (Operand.tmp 1) 0,type:=0,pos := "world.go:80",after:=#[],guard:=none },
 { dst:=some 28,op:=Op.load 3 (Operand.tmp 27),type:=3,pos := "world.go:80",after:=#[{ on:=17,ground:=Ground.data }],guard:=none },
 { dst:=some 29,op:=Op.fieldAddr 42 (Operand.tmp 1) 1,type:=0,pos := "world.go:80",after:=#[],guard:=none },
 { dst:=some 30,op:=Op.load 3 (Operand.tmp 29),type:=3,pos := "world.go:80",after:=#[{ on:=19,ground:=Ground.data }],guard:=none },
 { dst:=some 31,op:=Op.call { callee:=Callee.value (Operand.func 121),args:=#[Operand.tmp 28,Operand.tmp 30],argTypes:=#[3,3] },type:=100,pos := "world.go:80",after:=#[{ on:=18,ground:=Ground.data },{ on:=20,ground:=Ground.data },{ on:=16,ground:=Ground.chain }],guard:=none },
 { dst:=some 32,op:=Op.build 122 #[(0,Operand.tmp 10),(2,Operand.tmp 14),(6,Operand.tmp 17),(11,Operand.tmp 20),(7,Operand.tmp 23),(8,Operand.tmp 26),(9,Operand.tmp 31)],type:=122,pos := "world.go:80",after:=#[{ on:=0,ground:=Ground.data },{ on:=4,ground:=Ground.data },{ on:=7,ground:=Ground.data },{ on:=10,ground:=Ground.data },{ on:=13,ground:=Ground.data },{ on:=16,ground:=Ground.data },{ on:=21,ground:=Ground.data }],guard:=none },
 { dst:=some 33,op:=Op.box 122 (Operand.tmp 32),type:=24,pos := "world.go:80",after:=#[{ on:=22,ground:=Ground.data }],guard:=none },
 { dst:=some 4,op:=Op.assign (Operand.tmp 33),type:=24,pos := "world.go:80",after:=#[{ on:=23,ground:=Ground.data },{ on:=21,ground:=Ground.chain },{ on:=0,ground:=Ground.phase },{ on:=1,ground:=Ground.phase },{ on:=2,ground:=Ground.phase },{ on:=3,ground:=Ground.phase },{ on:=4,ground:=Ground.phase },{ on:=5,ground:=Ground.phase },{ on:=6,ground:=Ground.phase },{ on:=7,ground:=Ground.phase },{ on:=8,ground:=Ground.phase },{ on:=9,ground:=Ground.phase },{ on:=10,ground:=Ground.phase },{ on:=11,ground:=Ground.phase },{ on:=12,ground:=Ground.phase },{ on:=13,ground:=Ground.phase },{ on:=14,ground:=Ground.phase },{ on:=15,ground:=Ground.phase },{ on:=16,ground:=Ground.phase },{ on:=17,ground:=Ground.phase },{ on:=18,ground:=Ground.phase },{ on:=19,ground:=Ground.phase },{ on:=20,ground:=Ground.phase },{ on:=21,ground:=Ground.phase },{ on:=22,ground:=Ground.phase },{ on:=23,ground:=Ground.phase }],guard:=none }]
theorem Tryz.infoBool:(Tryz.prog.info? 4).map (fun i=>(i.zero,i.size,i.bytes))=some (some (.bool false),1,1):=by kernel_rfl
theorem zbH {R:Value→Prop}:Made none R:=fun _ e=>by cases e
def newS (b P M G:Nat):World→Prop:=(fun w'=>w'.cell? ⟨b,0,none⟩=some (.int .i64 P)∧w'.cell? ⟨b,1,none⟩=some (.int .i64 M)∧w'.cell? ⟨b,2,none⟩=some (.int .i64 G))
theorem zah {b P M G:Nat} {w w':World} (h:newS b P M G w) (hb:Below w.heap.size w w'):newS b P M G w':=by
 obtain ⟨h0,h1,h2⟩:=h
 have hl:=World.block_lt_of_cell? w _ h0
 exact ⟨(hb.cell (p:=⟨b,0,none⟩) hl).trans h0,(hb.cell (p:=⟨b,1,none⟩) hl).trans h1,(hb.cell (p:=⟨b,2,none⟩) hl).trans h2⟩
theorem makeT (P:Nat) (hP:P≤4096) (w:World):(Instr.makeSlice 45 (.int .i64 P) (.int .i64 P)).run Tryz.prog w=.ok (sli w.heap.size P P) (w.alloc (.cells (madeCells #[.int .i64 0] P) 3)):=by
 obtain ⟨i0,hi,hz0,hz1,hz2⟩:=info_parts Tryz.infoInt
 have h:=run_make (P:=Tryz.prog) w 45 3 i0 (.int .i64 0) Tryz.underlying45 hi hz0 .i64 .i64 P P (by omega) (Int.le_refl _) (by rw [hz2];omega) (by omega)
 simp only [Int.toNat_natCast,hz1,Nat.mul_one] at h
 exact h
theorem makeF (M:Nat) (hM:M≤4096) (w:World):(Instr.makeSlice 118 (.int .i64 M) (.int .i64 M)).run Tryz.prog w=.ok (sli w.heap.size M M) (w.alloc (.cells (madeCells #[.bool false] M) 4)):=by
 obtain ⟨i0,hi,hz0,hz1,hz2⟩:=info_parts Tryz.infoBool
 have h:=run_make (P:=Tryz.prog) w 118 4 i0 (.bool false) Tryz.underlying118 hi hz0 .i64 .i64 M M (by omega) (Int.le_refl _) (by rw [hz2];omega) (by omega)
 simp only [Int.toNat_natCast,hz1,Nat.mul_one] at h
 exact h
def NewQ (P M G b:Nat) (wb:World) (Q:Exit→Act→World→Prop):Prop:=(∀ c (a:Act) (d:Tmp) (v:Value) (w:World),Q (.panic c) (a.put (some d) v) w→Q (.panic c) a w)∧∀ (ow:Nat→Nat) (w:World) (v17 v20 v23 v26 v31:Value),NewInv wb P M ow w (some v17) (some v20) (some v23) (some v26) (some v31)→newS b P M G w →
 Q .normal ⟨#[.agg #[.int .i64 P,.int .i64 M,.int .i64 G],.pointer (some ⟨b,0,none⟩),.pointer none,.int .i64 0,.pointer (some ⟨w.heap.size,0,none⟩),undef,undef,.agg #[.int .i64 P,.int .i64 M,.int .i64 G],.bool true,.bool false,.agg #[.int .i64 P,.int .i64 M,.int .i64 G],.pointer (some ⟨b,0,none⟩),.int .i64 P,.int .i64 ((P:Int)+2),.int .i64 (2*((P:Int)+2)),.pointer (some ⟨b,0,none⟩),.int .i64 P,v17,.pointer (some ⟨b,1,none⟩),.int .i64 M,v20,.pointer (some ⟨b,0,none⟩),.int .i64 P,v23,.pointer (some ⟨b,0,none⟩),.int .i64 P,v26,.pointer (some ⟨b,0,none⟩),.int .i64 P,.pointer (some ⟨b,1,none⟩),.int .i64 M,v31,.agg #[.int .i64 P,.int .i64 M,.int .i64 G,.pointer none,.int .i64 (2*((P:Int)+2)),.int .i64 0,.int .i64 0,.int .i64 0,.slice none 0 0,v17,v23,v26,v31,.slice none 0 0,v20,.slice none 0 0],.pointer (some ⟨w.heap.size,0,none⟩),undef,undef,undef,undef,undef,undef,undef,undef,undef,undef,undef,undef,undef,undef,undef,undef,undef,undef,undef,undef,undef,undef,undef,undef,undef,undef,undef,undef,undef,undef,undef,undef,undef,undef,undef,undef,undef,undef,undef,undef,undef,undef,undef,undef,undef,undef,undef,undef,undef,undef,undef,undef,undef,undef,undef,undef,undef,undef,undef,undef,undef,undef,undef,undef,undef,undef,undef,undef,undef,undef,undef,undef,undef,undef,undef,undef,undef,undef,undef,undef,undef,undef,undef,undef,undef,undef,undef,undef,undef,undef,undef,undef,undef,undef,undef,undef,undef,undef,undef,undef,undef,undef,undef,undef,undef,undef,undef,undef,undef,undef,undef,undef,undef,undef],[]⟩ (w.alloc (.cells #[.int .i64 P,.int .i64 M,.int .i64 G,.pointer none,.int .i64 (2*((P:Int)+2)),.int .i64 0,.int .i64 0,.int .i64 0,.slice none 0 0,v17,v23,v26,v31,.slice none 0 0,v20,.slice none 0 0] 122))
theorem nr_01234 (P M G b:Nat) (hd:dims P M G) (wb:World) (Q:Exit→Act→World→Prop) (hQ:NewQ P M G b wb Q) (ow:Nat→Nat) (w:World) (v17 v20 v23 v26 v31:Value) (hI:NewInv wb P M ow w (some v17) (some v20) (some v23) (some v26) (some v31)) (hHeld:newS b P M G w) :
  wpAnyH Tryz.prog .any zeu Q (newS b P M G) 3 #[true,true,true,true,true,true,true,true,true,true,true,true,true,true,true,true,true,true,true,true,true,true,false,false,false] ⟨#[.agg #[.int .i64 P,.int .i64 M,.int .i64 G],.pointer (some ⟨b,0,none⟩),.pointer none,.int .i64 0,undef,undef,undef,.agg #[.int .i64 P,.int .i64 M,.int .i64 G],.bool true,.bool false,.agg #[.int .i64 P,.int .i64 M,.int .i64 G],.pointer (some ⟨b,0,none⟩),.int .i64 P,.int .i64 ((P:Int)+2),.int .i64 (2*((P:Int)+2)),.pointer (some ⟨b,0,none⟩),.int .i64 P,v17,.pointer (some ⟨b,1,none⟩),.int .i64 M,v20,.pointer (some ⟨b,0,none⟩),.int .i64 P,v23,.pointer (some ⟨b,0,none⟩),.int .i64 P,v26,.pointer (some ⟨b,0,none⟩),.int .i64 P,.pointer (some ⟨b,1,none⟩),.int .i64 M,v31,undef,undef,undef,undef,undef,undef,undef,undef,undef,undef,undef,undef,undef,undef,undef,undef,undef,undef,undef,undef,undef,undef,undef,undef,undef,undef,undef,undef,undef,undef,undef,undef,undef,undef,undef,undef,undef,undef,undef,undef,undef,undef,undef,undef,undef,undef,undef,undef,undef,undef,undef,undef,undef,undef,undef,undef,undef,undef,undef,undef,undef,undef,undef,undef,undef,undef,undef,undef,undef,undef,undef,undef,undef,undef,undef,undef,undef,undef,undef,undef,undef,undef,undef,undef,undef,undef,undef,undef,undef,undef,undef,undef,undef,undef,undef,undef,undef,undef,undef,undef,undef,undef,undef,undef,undef,undef,undef,undef,undef,undef,undef,undef,undef,undef,undef,undef],[]⟩ w:=by
 obtain ⟨x17,e17,_⟩:=hI.turns _ rfl
 obtain ⟨x20,e20,_⟩:=hI.flag _ rfl
 obtain ⟨x23,e23,_⟩:=hI.glob _ rfl
 obtain ⟨x26,e26,_⟩:=hI.src _ rfl
 obtain ⟨x31,e31,_⟩:=hI.idle _ rfl
 subst e17 e20 e23 e26 e31
 simp only [sli,ptr] at *
 refine wpAnyH_take (i:=22) (oi:={ dst:=some 32,op:=Op.build 122 #[(0,Operand.tmp 10),(2,Operand.tmp 14),(6,Operand.tmp 17),(11,Operand.tmp 20),(7,Operand.tmp 23),(8,Operand.tmp 26),(9,Operand.tmp 31)],type:=122,pos := "world.go:80",after:=#[{ on:=0,ground:=Ground.data },{ on:=4,ground:=Ground.data },{ on:=7,ground:=Ground.data },{ on:=10,ground:=Ground.data },{ on:=13,ground:=Ground.data },{ on:=16,ground:=Ground.data },{ on:=21,ground:=Ground.data }],guard:=none }) (v:=.agg #[.int .i64 P,.int .i64 M,.int .i64 G,.pointer none,.int .i64 (2*((P:Int)+2)),.int .i64 0,.int .i64 0,.int .i64 0,.slice none 0 0,.slice (some ⟨x17,0,none⟩) P P,.pointer (some ⟨x23,0,none⟩),.pointer (some ⟨x26,0,none⟩),.pointer (some ⟨x31,0,none⟩),.slice none 0 0,.slice (some ⟨x20,0,none⟩) M M,.slice none 0 0]) rfl (by kernel_rfl) (by kernel_rfl) (by kernel_rfl) (fun _ _ _ h=>hQ.1 _ _ _ _ _ h) (Or.inl ⟨by rfl,by intro w hSw;go_simp⟩) (by assumption) ?_
 simp only [Act.put,List.setIfInBounds_toArray,List.set_cons_zero,List.set_cons_succ]
 refine wpAnyH_ready (rs:=[23]) (by kernel_rfl) (by simp) (AllReadyH.cons (o:={ dst:=some 33,op:=Op.box 122 (Operand.tmp 32),type:=24,pos := "world.go:80",after:=#[{ on:=22,ground:=Ground.data }],guard:=none }) rfl (fun K hK=>?_) AllReadyH.nil)
 go_simp
 refine hK.out _ _ (zah hHeld (zab w _)) (fun hH2=>?_)
 simp only [Act.put,List.setIfInBounds_toArray,List.set_cons_zero,List.set_cons_succ]
 refine wpAnyH_take (i:=24) (oi:={ dst:=some 4,op:=Op.assign (Operand.tmp 33),type:=24,pos := "world.go:80",after:=#[{ on:=23,ground:=Ground.data },{ on:=21,ground:=Ground.chain },{ on:=0,ground:=Ground.phase },{ on:=1,ground:=Ground.phase },{ on:=2,ground:=Ground.phase },{ on:=3,ground:=Ground.phase },{ on:=4,ground:=Ground.phase },{ on:=5,ground:=Ground.phase },{ on:=6,ground:=Ground.phase },{ on:=7,ground:=Ground.phase },{ on:=8,ground:=Ground.phase },{ on:=9,ground:=Ground.phase },{ on:=10,ground:=Ground.phase },{ on:=11,ground:=Ground.phase },{ on:=12,ground:=Ground.phase },{ on:=13,ground:=Ground.phase },{ on:=14,ground:=Ground.phase },{ on:=15,ground:=Ground.phase },{ on:=16,ground:=Ground.phase },{ on:=17,ground:=Ground.phase },{ on:=18,ground:=Ground.phase },{ on:=19,ground:=Ground.phase },{ on:=20,ground:=Ground.phase },{ on:=21,ground:=Ground.phase },{ on:=22,ground:=Ground.phase },{ on:=23,ground:=Ground.phase }],guard:=none }) (v:=.pointer (some ⟨w.heap.size,0,none⟩)) rfl (by kernel_rfl) (by kernel_rfl) (by kernel_rfl) (fun _ _ _ h=>hQ.1 _ _ _ _ _ h) (Or.inl ⟨by rfl,by intro w hSw;go_simp⟩) (by assumption) ?_
 simp only [Act.put,List.setIfInBounds_toArray,List.set_cons_zero,List.set_cons_succ]
 exact wpAnyH_done (by kernel_rfl) (hQ.2 ow w _ _ _ _ _ hI hHeld) _
theorem nr_0123 (P M G b:Nat) (hd:dims P M G) (wb:World) (Q:Exit→Act→World→Prop) (hQ:NewQ P M G b wb Q) (ow:Nat→Nat) (w:World) (v17 v20 v23 v26:Value) (hI:NewInv wb P M ow w (some v17) (some v20) (some v23) (some v26) none) (hHeld:newS b P M G w) :
  wpAnyH Tryz.prog .any zeu Q (newS b P M G) 4 #[true,true,true,true,true,true,true,true,true,true,true,true,true,true,true,true,true,true,true,true,true,false,false,false,false] ⟨#[.agg #[.int .i64 P,.int .i64 M,.int .i64 G],.pointer (some ⟨b,0,none⟩),.pointer none,.int .i64 0,undef,undef,undef,.agg #[.int .i64 P,.int .i64 M,.int .i64 G],.bool true,.bool false,.agg #[.int .i64 P,.int .i64 M,.int .i64 G],.pointer (some ⟨b,0,none⟩),.int .i64 P,.int .i64 ((P:Int)+2),.int .i64 (2*((P:Int)+2)),.pointer (some ⟨b,0,none⟩),.int .i64 P,v17,.pointer (some ⟨b,1,none⟩),.int .i64 M,v20,.pointer (some ⟨b,0,none⟩),.int .i64 P,v23,.pointer (some ⟨b,0,none⟩),.int .i64 P,v26,.pointer (some ⟨b,0,none⟩),.int .i64 P,.pointer (some ⟨b,1,none⟩),.int .i64 M,undef,undef,undef,undef,undef,undef,undef,undef,undef,undef,undef,undef,undef,undef,undef,undef,undef,undef,undef,undef,undef,undef,undef,undef,undef,undef,undef,undef,undef,undef,undef,undef,undef,undef,undef,undef,undef,undef,undef,undef,undef,undef,undef,undef,undef,undef,undef,undef,undef,undef,undef,undef,undef,undef,undef,undef,undef,undef,undef,undef,undef,undef,undef,undef,undef,undef,undef,undef,undef,undef,undef,undef,undef,undef,undef,undef,undef,undef,undef,undef,undef,undef,undef,undef,undef,undef,undef,undef,undef,undef,undef,undef,undef,undef,undef,undef,undef,undef,undef,undef,undef,undef,undef,undef,undef,undef,undef,undef,undef,undef,undef,undef,undef,undef,undef,undef,undef],[]⟩ w:=by
 have hd2:=hd
 unfold dims at hd2
 refine wpAnyH_ready (rs:=[21]) (by kernel_rfl) (by simp) (AllReadyH.cons (o:={ dst:=some 31,op:=Op.call { callee:=Callee.value (Operand.func 121),args:=#[Operand.tmp 28,Operand.tmp 30],argTypes:=#[3,3] },type:=100,pos := "world.go:80",after:=#[{ on:=18,ground:=Ground.data },{ on:=20,ground:=Ground.data },{ on:=16,ground:=Ground.chain }],guard:=none }) rfl (fun K hK=>?_) AllReadyH.nil)
 ·go_simp
  go_at_call 121
  refine (zdb P M ⟨hd2.1,hd2.2.1⟩ ⟨by omega,by omega⟩ w).mono ?_
  rintro e w2 ⟨b2,rfl,hg,hb⟩
  have hS:=zah hHeld hb
  have hI2:=hI.mk31 (by omega) (by omega) hg hb
  refine hK.out _ _ hS (fun _=>?_)
  exact nr_01234 P M G b hd wb Q hQ _ _ v17 v20 v23 v26 _ hI2 hS
theorem nr_0234 (P M G b:Nat) (hd:dims P M G) (wb:World) (Q:Exit→Act→World→Prop) (hQ:NewQ P M G b wb Q) (ow:Nat→Nat) (w:World) (v17 v23 v26 v31:Value) (hI:NewInv wb P M ow w (some v17) none (some v23) (some v26) (some v31)) (hHeld:newS b P M G w) :
  wpAnyH Tryz.prog .any zeu Q (newS b P M G) 4 #[true,true,true,true,true,true,true,true,true,true,false,true,true,true,true,true,true,true,true,true,true,true,false,false,false] ⟨#[.agg #[.int .i64 P,.int .i64 M,.int .i64 G],.pointer (some ⟨b,0,none⟩),.pointer none,.int .i64 0,undef,undef,undef,.agg #[.int .i64 P,.int .i64 M,.int .i64 G],.bool true,.bool false,.agg #[.int .i64 P,.int .i64 M,.int .i64 G],.pointer (some ⟨b,0,none⟩),.int .i64 P,.int .i64 ((P:Int)+2),.int .i64 (2*((P:Int)+2)),.pointer (some ⟨b,0,none⟩),.int .i64 P,v17,.pointer (some ⟨b,1,none⟩),.int .i64 M,undef,.pointer (some ⟨b,0,none⟩),.int .i64 P,v23,.pointer (some ⟨b,0,none⟩),.int .i64 P,v26,.pointer (some ⟨b,0,none⟩),.int .i64 P,.pointer (some ⟨b,1,none⟩),.int .i64 M,v31,undef,undef,undef,undef,undef,undef,undef,undef,undef,undef,undef,undef,undef,undef,undef,undef,undef,undef,undef,undef,undef,undef,undef,undef,undef,undef,undef,undef,undef,undef,undef,undef,undef,undef,undef,undef,undef,undef,undef,undef,undef,undef,undef,undef,undef,undef,undef,undef,undef,undef,undef,undef,undef,undef,undef,undef,undef,undef,undef,undef,undef,undef,undef,undef,undef,undef,undef,undef,undef,undef,undef,undef,undef,undef,undef,undef,undef,undef,undef,undef,undef,undef,undef,undef,undef,undef,undef,undef,undef,undef,undef,undef,undef,undef,undef,undef,undef,undef,undef,undef,undef,undef,undef,undef,undef,undef,undef,undef,undef,undef,undef,undef,undef,undef,undef,undef],[]⟩ w:=by
 have hd2:=hd
 unfold dims at hd2
 refine wpAnyH_ready (rs:=[10]) (by kernel_rfl) (by simp) (AllReadyH.cons (o:={ dst:=some 20,op:=Op.makeSlice 118 (Operand.tmp 19) (Operand.tmp 19),type:=118,pos := "world.go:80",after:=#[{ on:=9,ground:=Ground.data },{ on:=9,ground:=Ground.data }],guard:=none }) rfl (fun K hK=>?_) AllReadyH.nil)
 ·have hmk:=makeF M (by omega) w
  have hS:=zah hHeld (zab w (.cells (madeCells #[.bool false] M) 4))
  have hI2:=hI.mk20 (by omega) (by omega) 4
  go_simp
  refine hK.out _ _ hS (fun _=>?_)
  exact nr_01234 P M G b hd wb Q hQ _ _ v17 _ v23 v26 v31 hI2 hS
theorem nr_1234 (P M G b:Nat) (hd:dims P M G) (wb:World) (Q:Exit→Act→World→Prop) (hQ:NewQ P M G b wb Q) (ow:Nat→Nat) (w:World) (v20 v23 v26 v31:Value) (hI:NewInv wb P M ow w none (some v20) (some v23) (some v26) (some v31)) (hHeld:newS b P M G w) :
  wpAnyH Tryz.prog .any zeu Q (newS b P M G) 4 #[true,true,true,true,true,true,true,false,true,true,true,true,true,true,true,true,true,true,true,true,true,true,false,false,false] ⟨#[.agg #[.int .i64 P,.int .i64 M,.int .i64 G],.pointer (some ⟨b,0,none⟩),.pointer none,.int .i64 0,undef,undef,undef,.agg #[.int .i64 P,.int .i64 M,.int .i64 G],.bool true,.bool false,.agg #[.int .i64 P,.int .i64 M,.int .i64 G],.pointer (some ⟨b,0,none⟩),.int .i64 P,.int .i64 ((P:Int)+2),.int .i64 (2*((P:Int)+2)),.pointer (some ⟨b,0,none⟩),.int .i64 P,undef,.pointer (some ⟨b,1,none⟩),.int .i64 M,v20,.pointer (some ⟨b,0,none⟩),.int .i64 P,v23,.pointer (some ⟨b,0,none⟩),.int .i64 P,v26,.pointer (some ⟨b,0,none⟩),.int .i64 P,.pointer (some ⟨b,1,none⟩),.int .i64 M,v31,undef,undef,undef,undef,undef,undef,undef,undef,undef,undef,undef,undef,undef,undef,undef,undef,undef,undef,undef,undef,undef,undef,undef,undef,undef,undef,undef,undef,undef,undef,undef,undef,undef,undef,undef,undef,undef,undef,undef,undef,undef,undef,undef,undef,undef,undef,undef,undef,undef,undef,undef,undef,undef,undef,undef,undef,undef,undef,undef,undef,undef,undef,undef,undef,undef,undef,undef,undef,undef,undef,undef,undef,undef,undef,undef,undef,undef,undef,undef,undef,undef,undef,undef,undef,undef,undef,undef,undef,undef,undef,undef,undef,undef,undef,undef,undef,undef,undef,undef,undef,undef,undef,undef,undef,undef,undef,undef,undef,undef,undef,undef,undef,undef,undef,undef,undef],[]⟩ w:=by
 have hd2:=hd
 unfold dims at hd2
 refine wpAnyH_ready (rs:=[7]) (by kernel_rfl) (by simp) (AllReadyH.cons (o:={ dst:=some 17,op:=Op.makeSlice 45 (Operand.tmp 16) (Operand.tmp 16),type:=45,pos := "world.go:80",after:=#[{ on:=6,ground:=Ground.data },{ on:=6,ground:=Ground.data }],guard:=none }) rfl (fun K hK=>?_) AllReadyH.nil)
 ·have hmk:=makeT P (by omega) w
  have hS:=zah hHeld (zab w (.cells (madeCells #[.int .i64 0] P) 3))
  have hI2:=hI.mk17 (by omega) (by omega) 3
  go_simp
  refine hK.out _ _ hS (fun _=>?_)
  exact nr_01234 P M G b hd wb Q hQ _ _ _ v20 v23 v26 v31 hI2 hS
theorem nr_012 (P M G b:Nat) (hd:dims P M G) (wb:World) (Q:Exit→Act→World→Prop) (hQ:NewQ P M G b wb Q) (ow:Nat→Nat) (w:World) (v17 v20 v23:Value) (hI:NewInv wb P M ow w (some v17) (some v20) (some v23) none none) (hHeld:newS b P M G w) :
  wpAnyH Tryz.prog .any zeu Q (newS b P M G) 5 #[true,true,true,true,true,true,true,true,true,true,true,true,true,true,true,true,false,true,true,true,true,false,false,false,false] ⟨#[.agg #[.int .i64 P,.int .i64 M,.int .i64 G],.pointer (some ⟨b,0,none⟩),.pointer none,.int .i64 0,undef,undef,undef,.agg #[.int .i64 P,.int .i64 M,.int .i64 G],.bool true,.bool false,.agg #[.int .i64 P,.int .i64 M,.int .i64 G],.pointer (some ⟨b,0,none⟩),.int .i64 P,.int .i64 ((P:Int)+2),.int .i64 (2*((P:Int)+2)),.pointer (some ⟨b,0,none⟩),.int .i64 P,v17,.pointer (some ⟨b,1,none⟩),.int .i64 M,v20,.pointer (some ⟨b,0,none⟩),.int .i64 P,v23,.pointer (some ⟨b,0,none⟩),.int .i64 P,undef,.pointer (some ⟨b,0,none⟩),.int .i64 P,.pointer (some ⟨b,1,none⟩),.int .i64 M,undef,undef,undef,undef,undef,undef,undef,undef,undef,undef,undef,undef,undef,undef,undef,undef,undef,undef,undef,undef,undef,undef,undef,undef,undef,undef,undef,undef,undef,undef,undef,undef,undef,undef,undef,undef,undef,undef,undef,undef,undef,undef,undef,undef,undef,undef,undef,undef,undef,undef,undef,undef,undef,undef,undef,undef,undef,undef,undef,undef,undef,undef,undef,undef,undef,undef,undef,undef,undef,undef,undef,undef,undef,undef,undef,undef,undef,undef,undef,undef,undef,undef,undef,undef,undef,undef,undef,undef,undef,undef,undef,undef,undef,undef,undef,undef,undef,undef,undef,undef,undef,undef,undef,undef,undef,undef,undef,undef,undef,undef,undef,undef,undef,undef,undef,undef,undef],[]⟩ w:=by
 have hd2:=hd
 unfold dims at hd2
 refine wpAnyH_ready (rs:=[16]) (by kernel_rfl) (by simp) (AllReadyH.cons (o:={ dst:=some 26,op:=Op.call { callee:=Callee.value (Operand.func 120),args:=#[Operand.tmp 25],argTypes:=#[3] },type:=58,pos := "world.go:80",after:=#[{ on:=15,ground:=Ground.data },{ on:=13,ground:=Ground.chain }],guard:=none }) rfl (fun K hK=>?_) AllReadyH.nil)
 ·go_simp
  go_at_call 120
  refine (zda P ⟨hd2.1,hd2.2.1⟩ w).mono ?_
  rintro e w2 ⟨b2,rfl,hg,hb⟩
  have hS:=zah hHeld hb
  have hI2:=hI.mk26 (by omega) (by omega) hg hb
  refine hK.out _ _ hS (fun _=>?_)
  exact nr_0123 P M G b hd wb Q hQ _ _ v17 v20 v23 _ hI2 hS
theorem nr_023 (P M G b:Nat) (hd:dims P M G) (wb:World) (Q:Exit→Act→World→Prop) (hQ:NewQ P M G b wb Q) (ow:Nat→Nat) (w:World) (v17 v23 v26:Value) (hI:NewInv wb P M ow w (some v17) none (some v23) (some v26) none) (hHeld:newS b P M G w) :
  wpAnyH Tryz.prog .any zeu Q (newS b P M G) 5 #[true,true,true,true,true,true,true,true,true,true,false,true,true,true,true,true,true,true,true,true,true,false,false,false,false] ⟨#[.agg #[.int .i64 P,.int .i64 M,.int .i64 G],.pointer (some ⟨b,0,none⟩),.pointer none,.int .i64 0,undef,undef,undef,.agg #[.int .i64 P,.int .i64 M,.int .i64 G],.bool true,.bool false,.agg #[.int .i64 P,.int .i64 M,.int .i64 G],.pointer (some ⟨b,0,none⟩),.int .i64 P,.int .i64 ((P:Int)+2),.int .i64 (2*((P:Int)+2)),.pointer (some ⟨b,0,none⟩),.int .i64 P,v17,.pointer (some ⟨b,1,none⟩),.int .i64 M,undef,.pointer (some ⟨b,0,none⟩),.int .i64 P,v23,.pointer (some ⟨b,0,none⟩),.int .i64 P,v26,.pointer (some ⟨b,0,none⟩),.int .i64 P,.pointer (some ⟨b,1,none⟩),.int .i64 M,undef,undef,undef,undef,undef,undef,undef,undef,undef,undef,undef,undef,undef,undef,undef,undef,undef,undef,undef,undef,undef,undef,undef,undef,undef,undef,undef,undef,undef,undef,undef,undef,undef,undef,undef,undef,undef,undef,undef,undef,undef,undef,undef,undef,undef,undef,undef,undef,undef,undef,undef,undef,undef,undef,undef,undef,undef,undef,undef,undef,undef,undef,undef,undef,undef,undef,undef,undef,undef,undef,undef,undef,undef,undef,undef,undef,undef,undef,undef,undef,undef,undef,undef,undef,undef,undef,undef,undef,undef,undef,undef,undef,undef,undef,undef,undef,undef,undef,undef,undef,undef,undef,undef,undef,undef,undef,undef,undef,undef,undef,undef,undef,undef,undef,undef,undef,undef],[]⟩ w:=by
 have hd2:=hd
 unfold dims at hd2
 refine wpAnyH_ready (rs:=[10,21]) (by kernel_rfl) (by simp) (AllReadyH.cons (o:={ dst:=some 20,op:=Op.makeSlice 118 (Operand.tmp 19) (Operand.tmp 19),type:=118,pos := "world.go:80",after:=#[{ on:=9,ground:=Ground.data },{ on:=9,ground:=Ground.data }],guard:=none }) rfl (fun K hK=>?_) (AllReadyH.cons (o:={ dst:=some 31,op:=Op.call { callee:=Callee.value (Operand.func 121),args:=#[Operand.tmp 28,Operand.tmp 30],argTypes:=#[3,3] },type:=100,pos := "world.go:80",after:=#[{ on:=18,ground:=Ground.data },{ on:=20,ground:=Ground.data },{ on:=16,ground:=Ground.chain }],guard:=none }) rfl (fun K hK=>?_) AllReadyH.nil))
 ·have hmk:=makeF M (by omega) w
  have hS:=zah hHeld (zab w (.cells (madeCells #[.bool false] M) 4))
  have hI2:=hI.mk20 (by omega) (by omega) 4
  go_simp
  refine hK.out _ _ hS (fun _=>?_)
  exact nr_0123 P M G b hd wb Q hQ _ _ v17 _ v23 v26 hI2 hS
 ·go_simp
  go_at_call 121
  refine (zdb P M ⟨hd2.1,hd2.2.1⟩ ⟨by omega,by omega⟩ w).mono ?_
  rintro e w2 ⟨b2,rfl,hg,hb⟩
  have hS:=zah hHeld hb
  have hI2:=hI.mk31 (by omega) (by omega) hg hb
  refine hK.out _ _ hS (fun _=>?_)
  exact nr_0234 P M G b hd wb Q hQ _ _ v17 v23 v26 _ hI2 hS
theorem nr_123 (P M G b:Nat) (hd:dims P M G) (wb:World) (Q:Exit→Act→World→Prop) (hQ:NewQ P M G b wb Q) (ow:Nat→Nat) (w:World) (v20 v23 v26:Value) (hI:NewInv wb P M ow w none (some v20) (some v23) (some v26) none) (hHeld:newS b P M G w) :
  wpAnyH Tryz.prog .any zeu Q (newS b P M G) 5 #[true,true,true,true,true,true,true,false,true,true,true,true,true,true,true,true,true,true,true,true,true,false,false,false,false] ⟨#[.agg #[.int .i64 P,.int .i64 M,.int .i64 G],.pointer (some ⟨b,0,none⟩),.pointer none,.int .i64 0,undef,undef,undef,.agg #[.int .i64 P,.int .i64 M,.int .i64 G],.bool true,.bool false,.agg #[.int .i64 P,.int .i64 M,.int .i64 G],.pointer (some ⟨b,0,none⟩),.int .i64 P,.int .i64 ((P:Int)+2),.int .i64 (2*((P:Int)+2)),.pointer (some ⟨b,0,none⟩),.int .i64 P,undef,.pointer (some ⟨b,1,none⟩),.int .i64 M,v20,.pointer (some ⟨b,0,none⟩),.int .i64 P,v23,.pointer (some ⟨b,0,none⟩),.int .i64 P,v26,.pointer (some ⟨b,0,none⟩),.int .i64 P,.pointer (some ⟨b,1,none⟩),.int .i64 M,undef,undef,undef,undef,undef,undef,undef,undef,undef,undef,undef,undef,undef,undef,undef,undef,undef,undef,undef,undef,undef,undef,undef,undef,undef,undef,undef,undef,undef,undef,undef,undef,undef,undef,undef,undef,undef,undef,undef,undef,undef,undef,undef,undef,undef,undef,undef,undef,undef,undef,undef,undef,undef,undef,undef,undef,undef,undef,undef,undef,undef,undef,undef,undef,undef,undef,undef,undef,undef,undef,undef,undef,undef,undef,undef,undef,undef,undef,undef,undef,undef,undef,undef,undef,undef,undef,undef,undef,undef,undef,undef,undef,undef,undef,undef,undef,undef,undef,undef,undef,undef,undef,undef,undef,undef,undef,undef,undef,undef,undef,undef,undef,undef,undef,undef,undef,undef],[]⟩ w:=by
 have hd2:=hd
 unfold dims at hd2
 refine wpAnyH_ready (rs:=[7,21]) (by kernel_rfl) (by simp) (AllReadyH.cons (o:={ dst:=some 17,op:=Op.makeSlice 45 (Operand.tmp 16) (Operand.tmp 16),type:=45,pos := "world.go:80",after:=#[{ on:=6,ground:=Ground.data },{ on:=6,ground:=Ground.data }],guard:=none }) rfl (fun K hK=>?_) (AllReadyH.cons (o:={ dst:=some 31,op:=Op.call { callee:=Callee.value (Operand.func 121),args:=#[Operand.tmp 28,Operand.tmp 30],argTypes:=#[3,3] },type:=100,pos := "world.go:80",after:=#[{ on:=18,ground:=Ground.data },{ on:=20,ground:=Ground.data },{ on:=16,ground:=Ground.chain }],guard:=none }) rfl (fun K hK=>?_) AllReadyH.nil))
 ·have hmk:=makeT P (by omega) w
  have hS:=zah hHeld (zab w (.cells (madeCells #[.int .i64 0] P) 3))
  have hI2:=hI.mk17 (by omega) (by omega) 3
  go_simp
  refine hK.out _ _ hS (fun _=>?_)
  exact nr_0123 P M G b hd wb Q hQ _ _ _ v20 v23 v26 hI2 hS
 ·go_simp
  go_at_call 121
  refine (zdb P M ⟨hd2.1,hd2.2.1⟩ ⟨by omega,by omega⟩ w).mono ?_
  rintro e w2 ⟨b2,rfl,hg,hb⟩
  have hS:=zah hHeld hb
  have hI2:=hI.mk31 (by omega) (by omega) hg hb
  refine hK.out _ _ hS (fun _=>?_)
  exact nr_1234 P M G b hd wb Q hQ _ _ v20 v23 v26 _ hI2 hS
theorem nr_234 (P M G b:Nat) (hd:dims P M G) (wb:World) (Q:Exit→Act→World→Prop) (hQ:NewQ P M G b wb Q) (ow:Nat→Nat) (w:World) (v23 v26 v31:Value) (hI:NewInv wb P M ow w none none (some v23) (some v26) (some v31)) (hHeld:newS b P M G w) :
  wpAnyH Tryz.prog .any zeu Q (newS b P M G) 5 #[true,true,true,true,true,true,true,false,true,true,false,true,true,true,true,true,true,true,true,true,true,true,false,false,false] ⟨#[.agg #[.int .i64 P,.int .i64 M,.int .i64 G],.pointer (some ⟨b,0,none⟩),.pointer none,.int .i64 0,undef,undef,undef,.agg #[.int .i64 P,.int .i64 M,.int .i64 G],.bool true,.bool false,.agg #[.int .i64 P,.int .i64 M,.int .i64 G],.pointer (some ⟨b,0,none⟩),.int .i64 P,.int .i64 ((P:Int)+2),.int .i64 (2*((P:Int)+2)),.pointer (some ⟨b,0,none⟩),.int .i64 P,undef,.pointer (some ⟨b,1,none⟩),.int .i64 M,undef,.pointer (some ⟨b,0,none⟩),.int .i64 P,v23,.pointer (some ⟨b,0,none⟩),.int .i64 P,v26,.pointer (some ⟨b,0,none⟩),.int .i64 P,.pointer (some ⟨b,1,none⟩),.int .i64 M,v31,undef,undef,undef,undef,undef,undef,undef,undef,undef,undef,undef,undef,undef,undef,undef,undef,undef,undef,undef,undef,undef,undef,undef,undef,undef,undef,undef,undef,undef,undef,undef,undef,undef,undef,undef,undef,undef,undef,undef,undef,undef,undef,undef,undef,undef,undef,undef,undef,undef,undef,undef,undef,undef,undef,undef,undef,undef,undef,undef,undef,undef,undef,undef,undef,undef,undef,undef,undef,undef,undef,undef,undef,undef,undef,undef,undef,undef,undef,undef,undef,undef,undef,undef,undef,undef,undef,undef,undef,undef,undef,undef,undef,undef,undef,undef,undef,undef,undef,undef,undef,undef,undef,undef,undef,undef,undef,undef,undef,undef,undef,undef,undef,undef,undef,undef,undef],[]⟩ w:=by
 have hd2:=hd
 unfold dims at hd2
 refine wpAnyH_ready (rs:=[7,10]) (by kernel_rfl) (by simp) (AllReadyH.cons (o:={ dst:=some 17,op:=Op.makeSlice 45 (Operand.tmp 16) (Operand.tmp 16),type:=45,pos := "world.go:80",after:=#[{ on:=6,ground:=Ground.data },{ on:=6,ground:=Ground.data }],guard:=none }) rfl (fun K hK=>?_) (AllReadyH.cons (o:={ dst:=some 20,op:=Op.makeSlice 118 (Operand.tmp 19) (Operand.tmp 19),type:=118,pos := "world.go:80",after:=#[{ on:=9,ground:=Ground.data },{ on:=9,ground:=Ground.data }],guard:=none }) rfl (fun K hK=>?_) AllReadyH.nil))
 ·have hmk:=makeT P (by omega) w
  have hS:=zah hHeld (zab w (.cells (madeCells #[.int .i64 0] P) 3))
  have hI2:=hI.mk17 (by omega) (by omega) 3
  go_simp
  refine hK.out _ _ hS (fun _=>?_)
  exact nr_0234 P M G b hd wb Q hQ _ _ _ v23 v26 v31 hI2 hS
 ·have hmk:=makeF M (by omega) w
  have hS:=zah hHeld (zab w (.cells (madeCells #[.bool false] M) 4))
  have hI2:=hI.mk20 (by omega) (by omega) 4
  go_simp
  refine hK.out _ _ hS (fun _=>?_)
  exact nr_1234 P M G b hd wb Q hQ _ _ _ v23 v26 v31 hI2 hS
theorem nr_01 (P M G b:Nat) (hd:dims P M G) (wb:World) (Q:Exit→Act→World→Prop) (hQ:NewQ P M G b wb Q) (ow:Nat→Nat) (w:World) (v17 v20:Value) (hI:NewInv wb P M ow w (some v17) (some v20) none none none) (hHeld:newS b P M G w) :
  wpAnyH Tryz.prog .any zeu Q (newS b P M G) 6 #[true,true,true,true,true,true,true,true,true,true,true,true,true,false,true,true,false,true,true,true,true,false,false,false,false] ⟨#[.agg #[.int .i64 P,.int .i64 M,.int .i64 G],.pointer (some ⟨b,0,none⟩),.pointer none,.int .i64 0,undef,undef,undef,.agg #[.int .i64 P,.int .i64 M,.int .i64 G],.bool true,.bool false,.agg #[.int .i64 P,.int .i64 M,.int .i64 G],.pointer (some ⟨b,0,none⟩),.int .i64 P,.int .i64 ((P:Int)+2),.int .i64 (2*((P:Int)+2)),.pointer (some ⟨b,0,none⟩),.int .i64 P,v17,.pointer (some ⟨b,1,none⟩),.int .i64 M,v20,.pointer (some ⟨b,0,none⟩),.int .i64 P,undef,.pointer (some ⟨b,0,none⟩),.int .i64 P,undef,.pointer (some ⟨b,0,none⟩),.int .i64 P,.pointer (some ⟨b,1,none⟩),.int .i64 M,undef,undef,undef,undef,undef,undef,undef,undef,undef,undef,undef,undef,undef,undef,undef,undef,undef,undef,undef,undef,undef,undef,undef,undef,undef,undef,undef,undef,undef,undef,undef,undef,undef,undef,undef,undef,undef,undef,undef,undef,undef,undef,undef,undef,undef,undef,undef,undef,undef,undef,undef,undef,undef,undef,undef,undef,undef,undef,undef,undef,undef,undef,undef,undef,undef,undef,undef,undef,undef,undef,undef,undef,undef,undef,undef,undef,undef,undef,undef,undef,undef,undef,undef,undef,undef,undef,undef,undef,undef,undef,undef,undef,undef,undef,undef,undef,undef,undef,undef,undef,undef,undef,undef,undef,undef,undef,undef,undef,undef,undef,undef,undef,undef,undef,undef,undef,undef],[]⟩ w:=by
 have hd2:=hd
 unfold dims at hd2
 refine wpAnyH_ready (rs:=[13]) (by kernel_rfl) (by simp) (AllReadyH.cons (o:={ dst:=some 23,op:=Op.call { callee:=Callee.value (Operand.func 119),args:=#[Operand.tmp 22],argTypes:=#[3] },type:=116,pos := "world.go:80",after:=#[{ on:=12,ground:=Ground.data }],guard:=none }) rfl (fun K hK=>?_) AllReadyH.nil)
 ·go_simp
  go_at_call 119
  refine (zc7 P ⟨hd2.1,hd2.2.1⟩ w).mono ?_
  rintro e w2 ⟨b2,rfl,hg,hb⟩
  have hS:=zah hHeld hb
  have hI2:=hI.mk23 (by omega) (by omega) hg hb
  refine hK.out _ _ hS (fun _=>?_)
  exact nr_012 P M G b hd wb Q hQ _ _ v17 v20 _ hI2 hS
theorem nr_02 (P M G b:Nat) (hd:dims P M G) (wb:World) (Q:Exit→Act→World→Prop) (hQ:NewQ P M G b wb Q) (ow:Nat→Nat) (w:World) (v17 v23:Value) (hI:NewInv wb P M ow w (some v17) none (some v23) none none) (hHeld:newS b P M G w) :
  wpAnyH Tryz.prog .any zeu Q (newS b P M G) 6 #[true,true,true,true,true,true,true,true,true,true,false,true,true,true,true,true,false,true,true,true,true,false,false,false,false] ⟨#[.agg #[.int .i64 P,.int .i64 M,.int .i64 G],.pointer (some ⟨b,0,none⟩),.pointer none,.int .i64 0,undef,undef,undef,.agg #[.int .i64 P,.int .i64 M,.int .i64 G],.bool true,.bool false,.agg #[.int .i64 P,.int .i64 M,.int .i64 G],.pointer (some ⟨b,0,none⟩),.int .i64 P,.int .i64 ((P:Int)+2),.int .i64 (2*((P:Int)+2)),.pointer (some ⟨b,0,none⟩),.int .i64 P,v17,.pointer (some ⟨b,1,none⟩),.int .i64 M,undef,.pointer (some ⟨b,0,none⟩),.int .i64 P,v23,.pointer (some ⟨b,0,none⟩),.int .i64 P,undef,.pointer (some ⟨b,0,none⟩),.int .i64 P,.pointer (some ⟨b,1,none⟩),.int .i64 M,undef,undef,undef,undef,undef,undef,undef,undef,undef,undef,undef,undef,undef,undef,undef,undef,undef,undef,undef,undef,undef,undef,undef,undef,undef,undef,undef,undef,undef,undef,undef,undef,undef,undef,undef,undef,undef,undef,undef,undef,undef,undef,undef,undef,undef,undef,undef,undef,undef,undef,undef,undef,undef,undef,undef,undef,undef,undef,undef,undef,undef,undef,undef,undef,undef,undef,undef,undef,undef,undef,undef,undef,undef,undef,undef,undef,undef,undef,undef,undef,undef,undef,undef,undef,undef,undef,undef,undef,undef,undef,undef,undef,undef,undef,undef,undef,undef,undef,undef,undef,undef,undef,undef,undef,undef,undef,undef,undef,undef,undef,undef,undef,undef,undef,undef,undef,undef],[]⟩ w:=by
 have hd2:=hd
 unfold dims at hd2
 refine wpAnyH_ready (rs:=[10,16]) (by kernel_rfl) (by simp) (AllReadyH.cons (o:={ dst:=some 20,op:=Op.makeSlice 118 (Operand.tmp 19) (Operand.tmp 19),type:=118,pos := "world.go:80",after:=#[{ on:=9,ground:=Ground.data },{ on:=9,ground:=Ground.data }],guard:=none }) rfl (fun K hK=>?_) (AllReadyH.cons (o:={ dst:=some 26,op:=Op.call { callee:=Callee.value (Operand.func 120),args:=#[Operand.tmp 25],argTypes:=#[3] },type:=58,pos := "world.go:80",after:=#[{ on:=15,ground:=Ground.data },{ on:=13,ground:=Ground.chain }],guard:=none }) rfl (fun K hK=>?_) AllReadyH.nil))
 ·have hmk:=makeF M (by omega) w
  have hS:=zah hHeld (zab w (.cells (madeCells #[.bool false] M) 4))
  have hI2:=hI.mk20 (by omega) (by omega) 4
  go_simp
  refine hK.out _ _ hS (fun _=>?_)
  exact nr_012 P M G b hd wb Q hQ _ _ v17 _ v23 hI2 hS
 ·go_simp
  go_at_call 120
  refine (zda P ⟨hd2.1,hd2.2.1⟩ w).mono ?_
  rintro e w2 ⟨b2,rfl,hg,hb⟩
  have hS:=zah hHeld hb
  have hI2:=hI.mk26 (by omega) (by omega) hg hb
  refine hK.out _ _ hS (fun _=>?_)
  exact nr_023 P M G b hd wb Q hQ _ _ v17 v23 _ hI2 hS
theorem nr_12 (P M G b:Nat) (hd:dims P M G) (wb:World) (Q:Exit→Act→World→Prop) (hQ:NewQ P M G b wb Q) (ow:Nat→Nat) (w:World) (v20 v23:Value) (hI:NewInv wb P M ow w none (some v20) (some v23) none none) (hHeld:newS b P M G w) :
  wpAnyH Tryz.prog .any zeu Q (newS b P M G) 6 #[true,true,true,true,true,true,true,false,true,true,true,true,true,true,true,true,false,true,true,true,true,false,false,false,false] ⟨#[.agg #[.int .i64 P,.int .i64 M,.int .i64 G],.pointer (some ⟨b,0,none⟩),.pointer none,.int .i64 0,undef,undef,undef,.agg #[.int .i64 P,.int .i64 M,.int .i64 G],.bool true,.bool false,.agg #[.int .i64 P,.int .i64 M,.int .i64 G],.pointer (some ⟨b,0,none⟩),.int .i64 P,.int .i64 ((P:Int)+2),.int .i64 (2*((P:Int)+2)),.pointer (some ⟨b,0,none⟩),.int .i64 P,undef,.pointer (some ⟨b,1,none⟩),.int .i64 M,v20,.pointer (some ⟨b,0,none⟩),.int .i64 P,v23,.pointer (some ⟨b,0,none⟩),.int .i64 P,undef,.pointer (some ⟨b,0,none⟩),.int .i64 P,.pointer (some ⟨b,1,none⟩),.int .i64 M,undef,undef,undef,undef,undef,undef,undef,undef,undef,undef,undef,undef,undef,undef,undef,undef,undef,undef,undef,undef,undef,undef,undef,undef,undef,undef,undef,undef,undef,undef,undef,undef,undef,undef,undef,undef,undef,undef,undef,undef,undef,undef,undef,undef,undef,undef,undef,undef,undef,undef,undef,undef,undef,undef,undef,undef,undef,undef,undef,undef,undef,undef,undef,undef,undef,undef,undef,undef,undef,undef,undef,undef,undef,undef,undef,undef,undef,undef,undef,undef,undef,undef,undef,undef,undef,undef,undef,undef,undef,undef,undef,undef,undef,undef,undef,undef,undef,undef,undef,undef,undef,undef,undef,undef,undef,undef,undef,undef,undef,undef,undef,undef,undef,undef,undef,undef,undef],[]⟩ w:=by
 have hd2:=hd
 unfold dims at hd2
 refine wpAnyH_ready (rs:=[7,16]) (by kernel_rfl) (by simp) (AllReadyH.cons (o:={ dst:=some 17,op:=Op.makeSlice 45 (Operand.tmp 16) (Operand.tmp 16),type:=45,pos := "world.go:80",after:=#[{ on:=6,ground:=Ground.data },{ on:=6,ground:=Ground.data }],guard:=none }) rfl (fun K hK=>?_) (AllReadyH.cons (o:={ dst:=some 26,op:=Op.call { callee:=Callee.value (Operand.func 120),args:=#[Operand.tmp 25],argTypes:=#[3] },type:=58,pos := "world.go:80",after:=#[{ on:=15,ground:=Ground.data },{ on:=13,ground:=Ground.chain }],guard:=none }) rfl (fun K hK=>?_) AllReadyH.nil))
 ·have hmk:=makeT P (by omega) w
  have hS:=zah hHeld (zab w (.cells (madeCells #[.int .i64 0] P) 3))
  have hI2:=hI.mk17 (by omega) (by omega) 3
  go_simp
  refine hK.out _ _ hS (fun _=>?_)
  exact nr_012 P M G b hd wb Q hQ _ _ _ v20 v23 hI2 hS
 ·go_simp
  go_at_call 120
  refine (zda P ⟨hd2.1,hd2.2.1⟩ w).mono ?_
  rintro e w2 ⟨b2,rfl,hg,hb⟩
  have hS:=zah hHeld hb
  have hI2:=hI.mk26 (by omega) (by omega) hg hb
  refine hK.out _ _ hS (fun _=>?_)
  exact nr_123 P M G b hd wb Q hQ _ _ v20 v23 _ hI2 hS
theorem nr_23 (P M G b:Nat) (hd:dims P M G) (wb:World) (Q:Exit→Act→World→Prop) (hQ:NewQ P M G b wb Q) (ow:Nat→Nat) (w:World) (v23 v26:Value) (hI:NewInv wb P M ow w none none (some v23) (some v26) none) (hHeld:newS b P M G w) :
  wpAnyH Tryz.prog .any zeu Q (newS b P M G) 6 #[true,true,true,true,true,true,true,false,true,true,false,true,true,true,true,true,true,true,true,true,true,false,false,false,false] ⟨#[.agg #[.int .i64 P,.int .i64 M,.int .i64 G],.pointer (some ⟨b,0,none⟩),.pointer none,.int .i64 0,undef,undef,undef,.agg #[.int .i64 P,.int .i64 M,.int .i64 G],.bool true,.bool false,.agg #[.int .i64 P,.int .i64 M,.int .i64 G],.pointer (some ⟨b,0,none⟩),.int .i64 P,.int .i64 ((P:Int)+2),.int .i64 (2*((P:Int)+2)),.pointer (some ⟨b,0,none⟩),.int .i64 P,undef,.pointer (some ⟨b,1,none⟩),.int .i64 M,undef,.pointer (some ⟨b,0,none⟩),.int .i64 P,v23,.pointer (some ⟨b,0,none⟩),.int .i64 P,v26,.pointer (some ⟨b,0,none⟩),.int .i64 P,.pointer (some ⟨b,1,none⟩),.int .i64 M,undef,undef,undef,undef,undef,undef,undef,undef,undef,undef,undef,undef,undef,undef,undef,undef,undef,undef,undef,undef,undef,undef,undef,undef,undef,undef,undef,undef,undef,undef,undef,undef,undef,undef,undef,undef,undef,undef,undef,undef,undef,undef,undef,undef,undef,undef,undef,undef,undef,undef,undef,undef,undef,undef,undef,undef,undef,undef,undef,undef,undef,undef,undef,undef,undef,undef,undef,undef,undef,undef,undef,undef,undef,undef,undef,undef,undef,undef,undef,undef,undef,undef,undef,undef,undef,undef,undef,undef,undef,undef,undef,undef,undef,undef,undef,undef,undef,undef,undef,undef,undef,undef,undef,undef,undef,undef,undef,undef,undef,undef,undef,undef,undef,undef,undef,undef,undef],[]⟩ w:=by
 have hd2:=hd
 unfold dims at hd2
 refine wpAnyH_ready (rs:=[7,10,21]) (by kernel_rfl) (by simp) (AllReadyH.cons (o:={ dst:=some 17,op:=Op.makeSlice 45 (Operand.tmp 16) (Operand.tmp 16),type:=45,pos := "world.go:80",after:=#[{ on:=6,ground:=Ground.data },{ on:=6,ground:=Ground.data }],guard:=none }) rfl (fun K hK=>?_) (AllReadyH.cons (o:={ dst:=some 20,op:=Op.makeSlice 118 (Operand.tmp 19) (Operand.tmp 19),type:=118,pos := "world.go:80",after:=#[{ on:=9,ground:=Ground.data },{ on:=9,ground:=Ground.data }],guard:=none }) rfl (fun K hK=>?_) (AllReadyH.cons (o:={ dst:=some 31,op:=Op.call { callee:=Callee.value (Operand.func 121),args:=#[Operand.tmp 28,Operand.tmp 30],argTypes:=#[3,3] },type:=100,pos := "world.go:80",after:=#[{ on:=18,ground:=Ground.data },{ on:=20,ground:=Ground.data },{ on:=16,ground:=Ground.chain }],guard:=none }) rfl (fun K hK=>?_) AllReadyH.nil)))
 ·have hmk:=makeT P (by omega) w
  have hS:=zah hHeld (zab w (.cells (madeCells #[.int .i64 0] P) 3))
  have hI2:=hI.mk17 (by omega) (by omega) 3
  go_simp
  refine hK.out _ _ hS (fun _=>?_)
  exact nr_023 P M G b hd wb Q hQ _ _ _ v23 v26 hI2 hS
 ·have hmk:=makeF M (by omega) w
  have hS:=zah hHeld (zab w (.cells (madeCells #[.bool false] M) 4))
  have hI2:=hI.mk20 (by omega) (by omega) 4
  go_simp
  refine hK.out _ _ hS (fun _=>?_)
  exact nr_123 P M G b hd wb Q hQ _ _ _ v23 v26 hI2 hS
 ·go_simp
  go_at_call 121
  refine (zdb P M ⟨hd2.1,hd2.2.1⟩ ⟨by omega,by omega⟩ w).mono ?_
  rintro e w2 ⟨b2,rfl,hg,hb⟩
  have hS:=zah hHeld hb
  have hI2:=hI.mk31 (by omega) (by omega) hg hb
  refine hK.out _ _ hS (fun _=>?_)
  exact nr_234 P M G b hd wb Q hQ _ _ v23 v26 _ hI2 hS
theorem nr_0 (P M G b:Nat) (hd:dims P M G) (wb:World) (Q:Exit→Act→World→Prop) (hQ:NewQ P M G b wb Q) (ow:Nat→Nat) (w:World) (v17:Value) (hI:NewInv wb P M ow w (some v17) none none none none) (hHeld:newS b P M G w) :
  wpAnyH Tryz.prog .any zeu Q (newS b P M G) 7 #[true,true,true,true,true,true,true,true,true,true,false,true,true,false,true,true,false,true,true,true,true,false,false,false,false] ⟨#[.agg #[.int .i64 P,.int .i64 M,.int .i64 G],.pointer (some ⟨b,0,none⟩),.pointer none,.int .i64 0,undef,undef,undef,.agg #[.int .i64 P,.int .i64 M,.int .i64 G],.bool true,.bool false,.agg #[.int .i64 P,.int .i64 M,.int .i64 G],.pointer (some ⟨b,0,none⟩),.int .i64 P,.int .i64 ((P:Int)+2),.int .i64 (2*((P:Int)+2)),.pointer (some ⟨b,0,none⟩),.int .i64 P,v17,.pointer (some ⟨b,1,none⟩),.int .i64 M,undef,.pointer (some ⟨b,0,none⟩),.int .i64 P,undef,.pointer (some ⟨b,0,none⟩),.int .i64 P,undef,.pointer (some ⟨b,0,none⟩),.int .i64 P,.pointer (some ⟨b,1,none⟩),.int .i64 M,undef,undef,undef,undef,undef,undef,undef,undef,undef,undef,undef,undef,undef,undef,undef,undef,undef,undef,undef,undef,undef,undef,undef,undef,undef,undef,undef,undef,undef,undef,undef,undef,undef,undef,undef,undef,undef,undef,undef,undef,undef,undef,undef,undef,undef,undef,undef,undef,undef,undef,undef,undef,undef,undef,undef,undef,undef,undef,undef,undef,undef,undef,undef,undef,undef,undef,undef,undef,undef,undef,undef,undef,undef,undef,undef,undef,undef,undef,undef,undef,undef,undef,undef,undef,undef,undef,undef,undef,undef,undef,undef,undef,undef,undef,undef,undef,undef,undef,undef,undef,undef,undef,undef,undef,undef,undef,undef,undef,undef,undef,undef,undef,undef,undef,undef,undef,undef],[]⟩ w:=by
 have hd2:=hd
 unfold dims at hd2
 refine wpAnyH_ready (rs:=[10,13]) (by kernel_rfl) (by simp) (AllReadyH.cons (o:={ dst:=some 20,op:=Op.makeSlice 118 (Operand.tmp 19) (Operand.tmp 19),type:=118,pos := "world.go:80",after:=#[{ on:=9,ground:=Ground.data },{ on:=9,ground:=Ground.data }],guard:=none }) rfl (fun K hK=>?_) (AllReadyH.cons (o:={ dst:=some 23,op:=Op.call { callee:=Callee.value (Operand.func 119),args:=#[Operand.tmp 22],argTypes:=#[3] },type:=116,pos := "world.go:80",after:=#[{ on:=12,ground:=Ground.data }],guard:=none }) rfl (fun K hK=>?_) AllReadyH.nil))
 ·have hmk:=makeF M (by omega) w
  have hS:=zah hHeld (zab w (.cells (madeCells #[.bool false] M) 4))
  have hI2:=hI.mk20 (by omega) (by omega) 4
  go_simp
  refine hK.out _ _ hS (fun _=>?_)
  exact nr_01 P M G b hd wb Q hQ _ _ v17 _ hI2 hS
 ·go_simp
  go_at_call 119
  refine (zc7 P ⟨hd2.1,hd2.2.1⟩ w).mono ?_
  rintro e w2 ⟨b2,rfl,hg,hb⟩
  have hS:=zah hHeld hb
  have hI2:=hI.mk23 (by omega) (by omega) hg hb
  refine hK.out _ _ hS (fun _=>?_)
  exact nr_02 P M G b hd wb Q hQ _ _ v17 _ hI2 hS
theorem nr_1 (P M G b:Nat) (hd:dims P M G) (wb:World) (Q:Exit→Act→World→Prop) (hQ:NewQ P M G b wb Q) (ow:Nat→Nat) (w:World) (v20:Value) (hI:NewInv wb P M ow w none (some v20) none none none) (hHeld:newS b P M G w) :
  wpAnyH Tryz.prog .any zeu Q (newS b P M G) 7 #[true,true,true,true,true,true,true,false,true,true,true,true,true,false,true,true,false,true,true,true,true,false,false,false,false] ⟨#[.agg #[.int .i64 P,.int .i64 M,.int .i64 G],.pointer (some ⟨b,0,none⟩),.pointer none,.int .i64 0,undef,undef,undef,.agg #[.int .i64 P,.int .i64 M,.int .i64 G],.bool true,.bool false,.agg #[.int .i64 P,.int .i64 M,.int .i64 G],.pointer (some ⟨b,0,none⟩),.int .i64 P,.int .i64 ((P:Int)+2),.int .i64 (2*((P:Int)+2)),.pointer (some ⟨b,0,none⟩),.int .i64 P,undef,.pointer (some ⟨b,1,none⟩),.int .i64 M,v20,.pointer (some ⟨b,0,none⟩),.int .i64 P,undef,.pointer (some ⟨b,0,none⟩),.int .i64 P,undef,.pointer (some ⟨b,0,none⟩),.int .i64 P,.pointer (some ⟨b,1,none⟩),.int .i64 M,undef,undef,undef,undef,undef,undef,undef,undef,undef,undef,undef,undef,undef,undef,undef,undef,undef,undef,undef,undef,undef,undef,undef,undef,undef,undef,undef,undef,undef,undef,undef,undef,undef,undef,undef,undef,undef,undef,undef,undef,undef,undef,undef,undef,undef,undef,undef,undef,undef,undef,undef,undef,undef,undef,undef,undef,undef,undef,undef,undef,undef,undef,undef,undef,undef,undef,undef,undef,undef,undef,undef,undef,undef,undef,undef,undef,undef,undef,undef,undef,undef,undef,undef,undef,undef,undef,undef,undef,undef,undef,undef,undef,undef,undef,undef,undef,undef,undef,undef,undef,undef,undef,undef,undef,undef,undef,undef,undef,undef,undef,undef,undef,undef,undef,undef,undef,undef],[]⟩ w:=by
 have hd2:=hd
 unfold dims at hd2
 refine wpAnyH_ready (rs:=[7,13]) (by kernel_rfl) (by simp) (AllReadyH.cons (o:={ dst:=some 17,op:=Op.makeSlice 45 (Operand.tmp 16) (Operand.tmp 16),type:=45,pos := "world.go:80",after:=#[{ on:=6,ground:=Ground.data },{ on:=6,ground:=Ground.data }],guard:=none }) rfl (fun K hK=>?_) (AllReadyH.cons (o:={ dst:=some 23,op:=Op.call { callee:=Callee.value (Operand.func 119),args:=#[Operand.tmp 22],argTypes:=#[3] },type:=116,pos := "world.go:80",after:=#[{ on:=12,ground:=Ground.data }],guard:=none }) rfl (fun K hK=>?_) AllReadyH.nil))
 ·have hmk:=makeT P (by omega) w
  have hS:=zah hHeld (zab w (.cells (madeCells #[.int .i64 0] P) 3))
  have hI2:=hI.mk17 (by omega) (by omega) 3
  go_simp
  refine hK.out _ _ hS (fun _=>?_)
  exact nr_01 P M G b hd wb Q hQ _ _ _ v20 hI2 hS
 ·go_simp
  go_at_call 119
  refine (zc7 P ⟨hd2.1,hd2.2.1⟩ w).mono ?_
  rintro e w2 ⟨b2,rfl,hg,hb⟩
  have hS:=zah hHeld hb
  have hI2:=hI.mk23 (by omega) (by omega) hg hb
  refine hK.out _ _ hS (fun _=>?_)
  exact nr_12 P M G b hd wb Q hQ _ _ v20 _ hI2 hS
theorem nr_2 (P M G b:Nat) (hd:dims P M G) (wb:World) (Q:Exit→Act→World→Prop) (hQ:NewQ P M G b wb Q) (ow:Nat→Nat) (w:World) (v23:Value) (hI:NewInv wb P M ow w none none (some v23) none none) (hHeld:newS b P M G w) :
  wpAnyH Tryz.prog .any zeu Q (newS b P M G) 7 #[true,true,true,true,true,true,true,false,true,true,false,true,true,true,true,true,false,true,true,true,true,false,false,false,false] ⟨#[.agg #[.int .i64 P,.int .i64 M,.int .i64 G],.pointer (some ⟨b,0,none⟩),.pointer none,.int .i64 0,undef,undef,undef,.agg #[.int .i64 P,.int .i64 M,.int .i64 G],.bool true,.bool false,.agg #[.int .i64 P,.int .i64 M,.int .i64 G],.pointer (some ⟨b,0,none⟩),.int .i64 P,.int .i64 ((P:Int)+2),.int .i64 (2*((P:Int)+2)),.pointer (some ⟨b,0,none⟩),.int .i64 P,undef,.pointer (some ⟨b,1,none⟩),.int .i64 M,undef,.pointer (some ⟨b,0,none⟩),.int .i64 P,v23,.pointer (some ⟨b,0,none⟩),.int .i64 P,undef,.pointer (some ⟨b,0,none⟩),.int .i64 P,.pointer (some ⟨b,1,none⟩),.int .i64 M,undef,undef,undef,undef,undef,undef,undef,undef,undef,undef,undef,undef,undef,undef,undef,undef,undef,undef,undef,undef,undef,undef,undef,undef,undef,undef,undef,undef,undef,undef,undef,undef,undef,undef,undef,undef,undef,undef,undef,undef,undef,undef,undef,undef,undef,undef,undef,undef,undef,undef,undef,undef,undef,undef,undef,undef,undef,undef,undef,undef,undef,undef,undef,undef,undef,undef,undef,undef,undef,undef,undef,undef,undef,undef,undef,undef,undef,undef,undef,undef,undef,undef,undef,undef,undef,undef,undef,undef,undef,undef,undef,undef,undef,undef,undef,undef,undef,undef,undef,undef,undef,undef,undef,undef,undef,undef,undef,undef,undef,undef,undef,undef,undef,undef,undef,undef,undef],[]⟩ w:=by
 have hd2:=hd
 unfold dims at hd2
 refine wpAnyH_ready (rs:=[7,10,16]) (by kernel_rfl) (by simp) (AllReadyH.cons (o:={ dst:=some 17,op:=Op.makeSlice 45 (Operand.tmp 16) (Operand.tmp 16),type:=45,pos := "world.go:80",after:=#[{ on:=6,ground:=Ground.data },{ on:=6,ground:=Ground.data }],guard:=none }) rfl (fun K hK=>?_) (AllReadyH.cons (o:={ dst:=some 20,op:=Op.makeSlice 118 (Operand.tmp 19) (Operand.tmp 19),type:=118,pos := "world.go:80",after:=#[{ on:=9,ground:=Ground.data },{ on:=9,ground:=Ground.data }],guard:=none }) rfl (fun K hK=>?_) (AllReadyH.cons (o:={ dst:=some 26,op:=Op.call { callee:=Callee.value (Operand.func 120),args:=#[Operand.tmp 25],argTypes:=#[3] },type:=58,pos := "world.go:80",after:=#[{ on:=15,ground:=Ground.data },{ on:=13,ground:=Ground.chain }],guard:=none }) rfl (fun K hK=>?_) AllReadyH.nil)))
 ·have hmk:=makeT P (by omega) w
  have hS:=zah hHeld (zab w (.cells (madeCells #[.int .i64 0] P) 3))
  have hI2:=hI.mk17 (by omega) (by omega) 3
  go_simp
  refine hK.out _ _ hS (fun _=>?_)
  exact nr_02 P M G b hd wb Q hQ _ _ _ v23 hI2 hS
 ·have hmk:=makeF M (by omega) w
  have hS:=zah hHeld (zab w (.cells (madeCells #[.bool false] M) 4))
  have hI2:=hI.mk20 (by omega) (by omega) 4
  go_simp
  refine hK.out _ _ hS (fun _=>?_)
  exact nr_12 P M G b hd wb Q hQ _ _ _ v23 hI2 hS
 ·go_simp
  go_at_call 120
  refine (zda P ⟨hd2.1,hd2.2.1⟩ w).mono ?_
  rintro e w2 ⟨b2,rfl,hg,hb⟩
  have hS:=zah hHeld hb
  have hI2:=hI.mk26 (by omega) (by omega) hg hb
  refine hK.out _ _ hS (fun _=>?_)
  exact nr_23 P M G b hd wb Q hQ _ _ v23 _ hI2 hS
theorem nr_e (P M G b:Nat) (hd:dims P M G) (wb:World) (Q:Exit→Act→World→Prop) (hQ:NewQ P M G b wb Q) (ow:Nat→Nat) (w:World) (hI:NewInv wb P M ow w none none none none none) (hHeld:newS b P M G w) :
  wpAnyH Tryz.prog .any zeu Q (newS b P M G) 8 #[true,true,true,true,true,true,true,false,true,true,false,true,true,false,true,true,false,true,true,true,true,false,false,false,false] ⟨#[.agg #[.int .i64 P,.int .i64 M,.int .i64 G],.pointer (some ⟨b,0,none⟩),.pointer none,.int .i64 0,undef,undef,undef,.agg #[.int .i64 P,.int .i64 M,.int .i64 G],.bool true,.bool false,.agg #[.int .i64 P,.int .i64 M,.int .i64 G],.pointer (some ⟨b,0,none⟩),.int .i64 P,.int .i64 ((P:Int)+2),.int .i64 (2*((P:Int)+2)),.pointer (some ⟨b,0,none⟩),.int .i64 P,undef,.pointer (some ⟨b,1,none⟩),.int .i64 M,undef,.pointer (some ⟨b,0,none⟩),.int .i64 P,undef,.pointer (some ⟨b,0,none⟩),.int .i64 P,undef,.pointer (some ⟨b,0,none⟩),.int .i64 P,.pointer (some ⟨b,1,none⟩),.int .i64 M,undef,undef,undef,undef,undef,undef,undef,undef,undef,undef,undef,undef,undef,undef,undef,undef,undef,undef,undef,undef,undef,undef,undef,undef,undef,undef,undef,undef,undef,undef,undef,undef,undef,undef,undef,undef,undef,undef,undef,undef,undef,undef,undef,undef,undef,undef,undef,undef,undef,undef,undef,undef,undef,undef,undef,undef,undef,undef,undef,undef,undef,undef,undef,undef,undef,undef,undef,undef,undef,undef,undef,undef,undef,undef,undef,undef,undef,undef,undef,undef,undef,undef,undef,undef,undef,undef,undef,undef,undef,undef,undef,undef,undef,undef,undef,undef,undef,undef,undef,undef,undef,undef,undef,undef,undef,undef,undef,undef,undef,undef,undef,undef,undef,undef,undef,undef,undef],[]⟩ w:=by
 have hd2:=hd
 unfold dims at hd2
 refine wpAnyH_ready (rs:=[7,10,13]) (by kernel_rfl) (by simp) (AllReadyH.cons (o:={ dst:=some 17,op:=Op.makeSlice 45 (Operand.tmp 16) (Operand.tmp 16),type:=45,pos := "world.go:80",after:=#[{ on:=6,ground:=Ground.data },{ on:=6,ground:=Ground.data }],guard:=none }) rfl (fun K hK=>?_) (AllReadyH.cons (o:={ dst:=some 20,op:=Op.makeSlice 118 (Operand.tmp 19) (Operand.tmp 19),type:=118,pos := "world.go:80",after:=#[{ on:=9,ground:=Ground.data },{ on:=9,ground:=Ground.data }],guard:=none }) rfl (fun K hK=>?_) (AllReadyH.cons (o:={ dst:=some 23,op:=Op.call { callee:=Callee.value (Operand.func 119),args:=#[Operand.tmp 22],argTypes:=#[3] },type:=116,pos := "world.go:80",after:=#[{ on:=12,ground:=Ground.data }],guard:=none }) rfl (fun K hK=>?_) AllReadyH.nil)))
 ·have hmk:=makeT P (by omega) w
  have hS:=zah hHeld (zab w (.cells (madeCells #[.int .i64 0] P) 3))
  have hI2:=hI.mk17 (by omega) (by omega) 3
  go_simp
  refine hK.out _ _ hS (fun _=>?_)
  exact nr_0 P M G b hd wb Q hQ _ _ _ hI2 hS
 ·have hmk:=makeF M (by omega) w
  have hS:=zah hHeld (zab w (.cells (madeCells #[.bool false] M) 4))
  have hI2:=hI.mk20 (by omega) (by omega) 4
  go_simp
  refine hK.out _ _ hS (fun _=>?_)
  exact nr_1 P M G b hd wb Q hQ _ _ _ hI2 hS
 ·go_simp
  go_at_call 119
  refine (zc7 P ⟨hd2.1,hd2.2.1⟩ w).mono ?_
  rintro e w2 ⟨b2,rfl,hg,hb⟩
  have hS:=zah hHeld hb
  have hI2:=hI.mk23 (by omega) (by omega) hg hb
  refine hK.out _ _ hS (fun _=>?_)
  exact nr_2 P M G b hd wb Q hQ _ _ _ hI2 hS
theorem new_region (P M G b:Nat) (hd:dims P M G) (wb:World) (Q:Exit→Act→World→Prop) (hQ:NewQ P M G b wb Q) (hS:newS b P M G wb) (ow0:Nat→Nat) (h0:∀ x,ow0 x=0) :
  (Code.region 3 zeu true).wp Tryz.prog Q ⟨#[.agg #[.int .i64 P,.int .i64 M,.int .i64 G],.pointer (some ⟨b,0,none⟩),.pointer none,.int .i64 0,undef,undef,undef,.agg #[.int .i64 P,.int .i64 M,.int .i64 G],.bool true,.bool false,undef,undef,undef,undef,undef,undef,undef,undef,undef,undef,undef,undef,undef,undef,undef,undef,undef,undef,undef,undef,undef,undef,undef,undef,undef,undef,undef,undef,undef,undef,undef,undef,undef,undef,undef,undef,undef,undef,undef,undef,undef,undef,undef,undef,undef,undef,undef,undef,undef,undef,undef,undef,undef,undef,undef,undef,undef,undef,undef,undef,undef,undef,undef,undef,undef,undef,undef,undef,undef,undef,undef,undef,undef,undef,undef,undef,undef,undef,undef,undef,undef,undef,undef,undef,undef,undef,undef,undef,undef,undef,undef,undef,undef,undef,undef,undef,undef,undef,undef,undef,undef,undef,undef,undef,undef,undef,undef,undef,undef,undef,undef,undef,undef,undef,undef,undef,undef,undef,undef,undef,undef,undef,undef,undef,undef,undef,undef,undef,undef,undef,undef,undef,undef,undef,undef,undef,undef,undef],[]⟩ wb:=by
 have hd2:=hd
 unfold dims at hd2
 have w1:IntKind.i64.wrap ((P:Int)+2)=(P:Int)+2:=IntWalk.i64_in _ (by omega)
 have w2:IntKind.i64.wrap (2*((P:Int)+2))=2*((P:Int)+2):=IntWalk.i64_in _ (by omega)
 refine wp_region_held_drew (S:=newS b P M G) (by kernel_rfl) ⟨hS.1,hS.2.1,hS.2.2⟩ (fun hHeld=>?_)
 change wpAnyH Tryz.prog .any zeu Q (newS b P M G) 25 #[false,false,false,false,false,false,false,false,false,false,false,false,false,false,false,false,false,false,false,false,false,false,false,false,false] _ _
 refine wpAnyH_take (i:=0) (oi:={ dst:=some 10,op:=Op.load 42 (Operand.tmp 1),type:=42,pos := "world.go:80",after:=#[],guard:=none }) (v:=.agg #[.int .i64 P,.int .i64 M,.int .i64 G]) rfl (by kernel_rfl) (by kernel_rfl) (by kernel_rfl) (fun _ _ _ h=>hQ.1 _ _ _ _ _ h) (Or.inl ⟨by rfl,by rintro w ⟨k0,k1,k2⟩;go_simp⟩) (by assumption) ?_
 simp only [Act.put,List.setIfInBounds_toArray,List.set_cons_zero,List.set_cons_succ]
 refine wpAnyH_take (i:=1) (oi:={ dst:=some 11,op:=Op.fieldAddr 42 (Operand.tmp 1) 0,type:=0,pos := "world.go:80",after:=#[],guard:=none }) (v:=.pointer (some ⟨b,0,none⟩)) rfl (by kernel_rfl) (by kernel_rfl) (by kernel_rfl) (fun _ _ _ h=>hQ.1 _ _ _ _ _ h) (Or.inl ⟨by rfl,by rintro w ⟨k0,k1,k2⟩;go_simp⟩) (by assumption) ?_
 simp only [Act.put,List.setIfInBounds_toArray,List.set_cons_zero,List.set_cons_succ]
 refine wpAnyH_take (i:=2) (oi:={ dst:=some 12,op:=Op.load 3 (Operand.tmp 11),type:=3,pos := "world.go:80",after:=#[{ on:=1,ground:=Ground.data }],guard:=none }) (v:=.int .i64 P) rfl (by kernel_rfl) (by kernel_rfl) (by kernel_rfl) (fun _ _ _ h=>hQ.1 _ _ _ _ _ h) (Or.inl ⟨by rfl,by rintro w ⟨k0,k1,k2⟩;go_simp⟩) (by assumption) ?_
 simp only [Act.put,List.setIfInBounds_toArray,List.set_cons_zero,List.set_cons_succ]
 refine wpAnyH_take (i:=3) (oi:={ dst:=some 13,op:=Op.binOp BinOp.add 3 (Operand.tmp 12) (Operand.const (Value.int IntKind.i64 2)) 3,type:=3,pos := "world.go:80",after:=#[{ on:=2,ground:=Ground.data }],guard:=none }) (v:=.int .i64 ((P:Int)+2)) rfl (by kernel_rfl) (by kernel_rfl) (by kernel_rfl) (fun _ _ _ h=>hQ.1 _ _ _ _ _ h) (Or.inl ⟨by rfl,by rintro w ⟨k0,k1,k2⟩;go_simp⟩) (by assumption) ?_
 simp only [Act.put,List.setIfInBounds_toArray,List.set_cons_zero,List.set_cons_succ]
 refine wpAnyH_take (i:=4) (oi:={ dst:=some 14,op:=Op.binOp BinOp.mul 3 (Operand.const (Value.int IntKind.i64 2)) (Operand.tmp 13) 3,type:=3,pos := "world.go:80",after:=#[{ on:=3,ground:=Ground.data }],guard:=none }) (v:=.int .i64 (2*((P:Int)+2))) rfl (by kernel_rfl) (by kernel_rfl) (by kernel_rfl) (fun _ _ _ h=>hQ.1 _ _ _ _ _ h) (Or.inl ⟨by rfl,by rintro w ⟨k0,k1,k2⟩;go_simp⟩) (by assumption) ?_
 simp only [Act.put,List.setIfInBounds_toArray,List.set_cons_zero,List.set_cons_succ]
 refine wpAnyH_take (i:=5) (oi:={ dst:=some 15,op:=Op.fieldAddr 42 (Operand.tmp 1) 0,type:=0,pos := "world.go:80",after:=#[],guard:=none }) (v:=.pointer (some ⟨b,0,none⟩)) rfl (by kernel_rfl) (by kernel_rfl) (by kernel_rfl) (fun _ _ _ h=>hQ.1 _ _ _ _ _ h) (Or.inl ⟨by rfl,by rintro w ⟨k0,k1,k2⟩;go_simp⟩) (by assumption) ?_
 simp only [Act.put,List.setIfInBounds_toArray,List.set_cons_zero,List.set_cons_succ]
 refine wpAnyH_take (i:=6) (oi:={ dst:=some 16,op:=Op.load 3 (Operand.tmp 15),type:=3,pos := "world.go:80",after:=#[{ on:=5,ground:=Ground.data }],guard:=none }) (v:=.int .i64 P) rfl (by kernel_rfl) (by kernel_rfl) (by kernel_rfl) (fun _ _ _ h=>hQ.1 _ _ _ _ _ h) (Or.inl ⟨by rfl,by rintro w ⟨k0,k1,k2⟩;go_simp⟩) (by assumption) ?_
 simp only [Act.put,List.setIfInBounds_toArray,List.set_cons_zero,List.set_cons_succ]
 refine wpAnyH_take (i:=8) (oi:={ dst:=some 18,op:=Op.fieldAddr 42 (Operand.tmp 1) 1,type:=0,pos := "world.go:80",after:=#[],guard:=none }) (v:=.pointer (some ⟨b,1,none⟩)) rfl (by kernel_rfl) (by kernel_rfl) (by kernel_rfl) (fun _ _ _ h=>hQ.1 _ _ _ _ _ h) (Or.inl ⟨by rfl,by rintro w ⟨k0,k1,k2⟩;go_simp⟩) (by assumption) ?_
 simp only [Act.put,List.setIfInBounds_toArray,List.set_cons_zero,List.set_cons_succ]
 refine wpAnyH_take (i:=9) (oi:={ dst:=some 19,op:=Op.load 3 (Operand.tmp 18),type:=3,pos := "world.go:80",after:=#[{ on:=8,ground:=Ground.data }],guard:=none }) (v:=.int .i64 M) rfl (by kernel_rfl) (by kernel_rfl) (by kernel_rfl) (fun _ _ _ h=>hQ.1 _ _ _ _ _ h) (Or.inl ⟨by rfl,by rintro w ⟨k0,k1,k2⟩;go_simp⟩) (by assumption) ?_
 simp only [Act.put,List.setIfInBounds_toArray,List.set_cons_zero,List.set_cons_succ]
 refine wpAnyH_take (i:=11) (oi:={ dst:=some 21,op:=Op.fieldAddr 42 (Operand.tmp 1) 0,type:=0,pos := "world.go:80",after:=#[],guard:=none }) (v:=.pointer (some ⟨b,0,none⟩)) rfl (by kernel_rfl) (by kernel_rfl) (by kernel_rfl) (fun _ _ _ h=>hQ.1 _ _ _ _ _ h) (Or.inl ⟨by rfl,by rintro w ⟨k0,k1,k2⟩;go_simp⟩) (by assumption) ?_
 simp only [Act.put,List.setIfInBounds_toArray,List.set_cons_zero,List.set_cons_succ]
 refine wpAnyH_take (i:=12) (oi:={ dst:=some 22,op:=Op.load 3 (Operand.tmp 21),type:=3,pos := "world.go:80",after:=#[{ on:=11,ground:=Ground.data }],guard:=none }) (v:=.int .i64 P) rfl (by kernel_rfl) (by kernel_rfl) (by kernel_rfl) (fun _ _ _ h=>hQ.1 _ _ _ _ _ h) (Or.inl ⟨by rfl,by rintro w ⟨k0,k1,k2⟩;go_simp⟩) (by assumption) ?_
 simp only [Act.put,List.setIfInBounds_toArray,List.set_cons_zero,List.set_cons_succ]
 refine wpAnyH_take (i:=14) (oi:={ dst:=some 24,op:=Op.fieldAddr 42 (Operand.tmp 1) 0,type:=0,pos := "world.go:80",after:=#[],guard:=none }) (v:=.pointer (some ⟨b,0,none⟩)) rfl (by kernel_rfl) (by kernel_rfl) (by kernel_rfl) (fun _ _ _ h=>hQ.1 _ _ _ _ _ h) (Or.inl ⟨by rfl,by rintro w ⟨k0,k1,k2⟩;go_simp⟩) (by assumption) ?_
 simp only [Act.put,List.setIfInBounds_toArray,List.set_cons_zero,List.set_cons_succ]
 refine wpAnyH_take (i:=15) (oi:={ dst:=some 25,op:=Op.load 3 (Operand.tmp 24),type:=3,pos := "world.go:80",after:=#[{ on:=14,ground:=Ground.data }],guard:=none }) (v:=.int .i64 P) rfl (by kernel_rfl) (by kernel_rfl) (by kernel_rfl) (fun _ _ _ h=>hQ.1 _ _ _ _ _ h) (Or.inl ⟨by rfl,by rintro w ⟨k0,k1,k2⟩;go_simp⟩) (by assumption) ?_
 simp only [Act.put,List.setIfInBounds_toArray,List.set_cons_zero,List.set_cons_succ]
 refine wpAnyH_take (i:=17) (oi:={ dst:=some 27,op:=Op.fieldAddr 42 (Operand.tmp 1) 0,type:=0,pos := "world.go:80",after:=#[],guard:=none }) (v:=.pointer (some ⟨b,0,none⟩)) rfl (by kernel_rfl) (by kernel_rfl) (by kernel_rfl) (fun _ _ _ h=>hQ.1 _ _ _ _ _ h) (Or.inl ⟨by rfl,by rintro w ⟨k0,k1,k2⟩;go_simp⟩) (by assumption) ?_
 simp only [Act.put,List.setIfInBounds_toArray,List.set_cons_zero,List.set_cons_succ]
 refine wpAnyH_take (i:=18) (oi:={ dst:=some 28,op:=Op.load 3 (Operand.tmp 27),type:=3,pos := "world.go:80",after:=#[{ on:=17,ground:=Ground.data }],guard:=none }) (v:=.int .i64 P) rfl (by kernel_rfl) (by kernel_rfl) (by kernel_rfl) (fun _ _ _ h=>hQ.1 _ _ _ _ _ h) (Or.inl ⟨by rfl,by rintro w ⟨k0,k1,k2⟩;go_simp⟩) (by assumption) ?_
 simp only [Act.put,List.setIfInBounds_toArray,List.set_cons_zero,List.set_cons_succ]
 refine wpAnyH_take (i:=19) (oi:={ dst:=some 29,op:=Op.fieldAddr 42 (Operand.tmp 1) 1,type:=0,pos := "world.go:80",after:=#[],guard:=none }) (v:=.pointer (some ⟨b,1,none⟩)) rfl (by kernel_rfl) (by kernel_rfl) (by kernel_rfl) (fun _ _ _ h=>hQ.1 _ _ _ _ _ h) (Or.inl ⟨by rfl,by rintro w ⟨k0,k1,k2⟩;go_simp⟩) (by assumption) ?_
 simp only [Act.put,List.setIfInBounds_toArray,List.set_cons_zero,List.set_cons_succ]
 refine wpAnyH_take (i:=20) (oi:={ dst:=some 30,op:=Op.load 3 (Operand.tmp 29),type:=3,pos := "world.go:80",after:=#[{ on:=19,ground:=Ground.data }],guard:=none }) (v:=.int .i64 M) rfl (by kernel_rfl) (by kernel_rfl) (by kernel_rfl) (fun _ _ _ h=>hQ.1 _ _ _ _ _ h) (Or.inl ⟨by rfl,by rintro w ⟨k0,k1,k2⟩;go_simp⟩) (by assumption) ?_
 simp only [Act.put,List.setIfInBounds_toArray,List.set_cons_zero,List.set_cons_succ]
 exact nr_e P M G b hd wb Q hQ ow0 wb.drew ⟨fun x _=>h0 x,(Below.refl _ _).drew,zbH,zbH,zbH,zbH,zbH⟩ hHeld
end Go.Proofs.YtlmmjgekolpekaaGreatDoor
