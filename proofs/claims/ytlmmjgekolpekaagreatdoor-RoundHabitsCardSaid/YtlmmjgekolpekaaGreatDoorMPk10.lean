/- Parts of the proof. -/
import Derived.Test.YtlmmjgekolpekaaGreatDoorMPk09
import Derived.WalkSmall
set_option linter.unusedVariables false
set_option linter.unusedSimpArgs false
set_option linter.unusedSectionVars false
set_option maxRecDepth 100000
set_option maxHeartbeats 6400000
namespace Go.Proofs.YtlmmjgekolpekaaGreatDoor
open Go Go.RowKit Hst Go.Proofs
theorem ret_bool {a b:Bool} (h:a=b):Ending.returned (.bool a)=Ending.returned (.bool b):=by rw [h]
theorem bit_test (x i:Nat) (hx:x<18446744073709551616):(bits .and .u64 ((x:Int) / 2^i) 1==1)=x.testBit i:=by
 have e:(x:Int) / 2^i=((x / 2^i:Nat):Int):=by rw [Int.natCast_ediv,Int.natCast_pow];rfl
 rw [e,and_one_u64 _ (Int.natCast_nonneg _) (by have:=Nat.div_le_self x (2^i);generalize x / 2^i=q at *;omega),Nat.testBit_eq_decide_div_mod_eq]
 rw [Bool.eq_iff_iff]
 simp
 omega
theorem xor_bit (x i:Nat) (hx:x<18446744073709551616) (hi:i<64):bits .xor .u64 (x:Int) (IntKind.u64.wrap (2^i))=((x^^^2^i:Nat):Int):=by
 have hp:2^i<18446744073709551616:=Nat.lt_of_lt_of_le (Nat.pow_lt_pow_right (by decide) hi) (by decide)
 have e:((2:Int)^i)=((2^i:Nat):Int):=by rw [Int.natCast_pow];rfl
 have e2:IntKind.u64.wrap ((2:Int)^i)=((2^i:Nat):Int):=by rw [e];generalize 2^i=q at *;rw [IntKind.wrap_u64];omega
 rw [e2]
 exact bits_xor_u64_nat x (2^i) hx hp
theorem lt_word (x n:Nat) (hn:n≤64) (hx:x<2^n):x<18446744073709551616:=Nat.lt_of_lt_of_le hx (Nat.pow_le_pow_right (by decide) hn)
theorem has_any (mk mw n i x:Nat) (w:World) (hn:n≤64) (hi:i<n) (hx:x<2^n) (c0:w.cell? ⟨mk,0,none⟩=some (.int .i64 n)) (c1:w.cell? ⟨mk,1,none⟩=some (.slice (some ⟨mw,0,none⟩) 1 1)) (cw:w.cell? ⟨mw,0,none⟩=some (.int .u64 x)) :
  Calls Tryz.prog 217 #[.pointer (some ⟨mk,0,none⟩),.int .i64 i] w fun e w'=>e=.returned (.bool (x.testBit i))∧w'=w:=by
 have e1:(i:Int) / 64=0:=by omega
 have e2:(i:Int) % 64=i:=by omega
 have e3:(i:Int).tdiv 64=0:=by rw [Int.tdiv_eq_ediv_of_nonneg (by omega)];exact e1
 have e4:(i:Int).tmod 64=i:=by rw [Int.tmod_eq_emod_of_nonneg (by omega)];exact e2
 have h64:(i:Int)<64:=by omega
 go_enter Tryz.func217,Tryz.ntmps217
 go_wp2
 go_ret
 exact ⟨ret_bool (bit_test x i (lt_word x n hn hx)),rfl⟩
theorem turn_yes (mk mw n i x:Nat) (was:Bool) (w:World) (hn:n≤64) (hi:i<n) (hx:x<2^n) (hne:mk≠mw) (c0:w.cell? ⟨mk,0,none⟩=some (.int .i64 n)) (c1:w.cell? ⟨mk,1,none⟩=some (.slice (some ⟨mw,0,none⟩) 1 1)) (cw:w.cell? ⟨mw,0,none⟩=some (.int .u64 x))
  (hf:w.frozen? ⟨mw,0,none⟩=false) (hb:x.testBit i=was) :
  Calls Tryz.prog 188 #[.pointer (some ⟨mk,0,none⟩),.int .i64 i,.bool was] w fun e w'=>e=.returned (.bool true)∧w'=(w.setCell ⟨mw,0,none⟩ (.int .u64 ((x^^^2^i:Nat):Int))).drew:=by
 have e1:(i:Int) / 64=0:=by omega
 have e2:(i:Int) % 64=i:=by omega
 have e3:(i:Int).tdiv 64=0:=by rw [Int.tdiv_eq_ediv_of_nonneg (by omega)];exact e1
 have e4:(i:Int).tmod 64=i:=by rw [Int.tmod_eq_emod_of_nonneg (by omega)];exact e2
 have h64:(i:Int)<64:=by omega
 have w1:IntKind.i64.wrap 0=0:=IntWalk.i64_in 0 (by omega)
 have hhas:=has_any mk mw n i x w hn hi hx c0 c1 cw
 rw [hb] at hhas
 have hbn:(was != was)=false:=by cases was <;> rfl
 go_enter Tryz.func188,Tryz.ntmps188
 go_wp2_with (go_at_call 217;refine hhas.mono ?_;rintro e w' ⟨rfl,rfl⟩)
 go_still_tail 13,(by kernel_rfl)
 change wpList _ _ _ _ _ w'.drew
 go_wp2
 go_ret
 exact ⟨rfl,by rw [xor_bit x i (lt_word x n hn hx) (by omega)]⟩
theorem zak (w:World) (cs:Array Value) (t:TypeId) (o:Nat):(w.alloc (.cells cs t)).cell? ⟨w.heap.size,o,none⟩=cs[o]?:=World.cell?_alloc_new w cs t o
theorem zcS (w:World) (cs:Array Value) (t:TypeId) (o:Nat):(w.alloc (.cells cs t)).frozen? ⟨w.heap.size,o,none⟩=false:=World.frozen?_alloc_new w cs t o
theorem zab (w:World) (o:Obj):Below w.heap.size w (w.alloc o):=(Below.refl _ w).alloc (Nat.le_refl _) o
theorem Tryz.infoU64:(Tryz.prog.info? 48).map (fun i=>(i.zero,i.size,i.bytes))=some (some (.int .u64 0),1,8):=by kernel_rfl
theorem Tryz.infoHeap:(Tryz.prog.info? 239).map (fun i=>(i.zero,i.size,i.bytes))=some (some (.agg #[.slice none 0 0]),1,24):=by kernel_rfl
theorem zc7 (n:Nat) (hn:1≤n∧n≤64) (w:World) :
  Calls Tryz.prog 119 #[.int .i64 n] w fun e w'=>∃ b,e=.returned (.pointer (some ⟨b,0,none⟩))∧GlobAt (fun x=>w.heap.size≤x) b w' n []∧Below w.heap.size w w':=by
 have e1:max (1:Int) (n:Int)=n:=by omega
 have e2:min (n:Int) 64=n:=by omega
 go_enter Tryz.func119,Tryz.ntmps119
 go_wp2
 go_ret
 exact ⟨_,rfl,⟨Nat.le_refl _,⟨.slice none 0 0,zak _ _ _ _,World.ownsRow_nil _ _ _ _,(fun x hx=>by cases hx),by simp [Value.ownBlock]⟩,zak _ _ _ _,fun o=>zcS _ _ _ _⟩,zab _ _⟩
theorem rnew_any (w:World) :
  Calls Tryz.prog 123 #[] w fun e w'=>∃ b,e=.returned (.pointer (some ⟨b,0,none⟩))∧w.heap.size≤b∧RingAt b w' Ring.new∧Below w.heap.size w w':=by
 go_enter Tryz.func123,Tryz.ntmps123
 go_wp2
 go_ret
 refine ⟨_,rfl,Nat.le_refl _,⟨0,?_⟩,zab _ _⟩
 have hz:Tryz.zeroCells224=Array.replicate 258 (.int .i64 0)++#[.bool false,.int .i64 0,.int .i64 0]:=by kernel_rfl
 rw [hz]
 have hc:∀ o,o<258→(w.alloc (.cells ((Array.replicate 258 (Value.int .i64 0)++#[Value.bool false,Value.int .i64 0,Value.int .i64 0]).setIfInBounds 259 (.int .i64 (-1))) 224)).cell? ⟨w.heap.size,o,none⟩=some (.int .i64 0):=fun o ho=>by
  rw [zak,Array.getElem?_setIfInBounds_ne (by omega),Array.getElem?_append_left (by simpa using ho)]
  simp [ho]
 refine ⟨by decide,by simp [Ring.new],fun k hk=>⟨0,?_⟩,fun k hk=>by simp [Ring.new] at hk,?_,?_,?_,?_,?_,fun o=>zcS _ _ _ _,by simp [Ring.new]⟩
 ·exact hc k (by omega)
 ·rw [hc 256 (by decide)];rfl
 ·rw [hc 257 (by decide)];rfl
 ·rw [zak];simp [Ring.new]
 ·rw [zak];simp [Ring.new]
 ·rw [zak];simp [Ring.new]
theorem cnew_any (n:Nat) (hn:n≤65536) (w:World) :
  Calls Tryz.prog 122 #[.int .i64 n] w fun e w'=>∃ b r,e=.returned (.pointer (some ⟨b,0,none⟩))∧w.heap.size≤b∧w.heap.size≤r∧b≠r ∧
   w'.cell? ⟨b,0,none⟩=some (.slice (some ⟨r,0,none⟩) n n)∧w'.cell? ⟨b,1,none⟩=some (.int .i64 0)∧(∀ a,a<n→w'.cell? ⟨r,a,none⟩=some (.int .u64 0))∧(∀ o,w'.frozen? ⟨b,o,none⟩=false)∧(∀ o,w'.frozen? ⟨r,o,none⟩=false)∧Below w.heap.size w w':=by
 have e1:max (0:Int) (n:Int)=n:=by omega
 have e2:min (n:Int) 65536=n:=by omega
 obtain ⟨i0,hi,hz0,hz1,hz2⟩:=info_parts Tryz.infoU64
 have hmk:=run_make (P:=Tryz.prog) w 164 48 i0 (.int .u64 0) Tryz.underlying164 hi hz0 .i64 .i64 n n (by omega) (Int.le_refl _) (by rw [hz2];omega) (by omega)
 simp only [Int.toNat_natCast,hz1,Nat.mul_one] at hmk
 go_enter Tryz.func122,Tryz.ntmps122
 go_wp2
 go_ret
 refine ⟨_,w.heap.size,rfl,by omega,Nat.le_refl _,by omega,?_,?_,?_,?_,?_,((zab _ _).trans ((zab _ _).mono (by simp)))⟩
 ·rw [World.cell?_alloc_at _ _ _ _ (by simp)];rfl
 ·rw [World.cell?_alloc_at _ _ _ _ (by simp)];rfl
 ·intro a ha
  rw [World.cell?_alloc_past _ _ _ (by simp),World.cell?_alloc_at _ _ _ _ rfl]
  simp [madeCells,ha,Nat.mod_one]
 ·intro o;exact World.frozen?_alloc_at _ _ _ _ (by simp)
 ·intro o;rw [World.frozen?_alloc_old _ _ _ (by simp)];exact zcS _ _ _ _
theorem mnew_any (n:Nat) (hn:1≤n∧n≤64) (w:World) :
  Calls Tryz.prog 158 #[.int .i64 n] w fun e w'=>∃ b r,e=.returned (.pointer (some ⟨b,0,none⟩))∧w.heap.size≤b∧w.heap.size≤r∧b≠r ∧
   w'.cell? ⟨b,0,none⟩=some (.int .i64 n)∧w'.cell? ⟨b,1,none⟩=some (.slice (some ⟨r,0,none⟩) 1 1)∧w'.cell? ⟨r,0,none⟩=some (.int .u64 0)∧(∀ o,w'.frozen? ⟨b,o,none⟩=false)∧(∀ o,w'.frozen? ⟨r,o,none⟩=false)∧Below w.heap.size w w':=by
 have e1:max (0:Int) (n:Int)=n:=by omega
 have e2:min (n:Int) 4096=n:=by omega
 have e3:((n:Int)+64 - 1) / 64=1:=by omega
 have e4:((n:Int)+63) / 64=1:=by omega
 obtain ⟨i0,hi,hz0,hz1,hz2⟩:=info_parts Tryz.infoU64
 have hmk:=run_make (P:=Tryz.prog) w 164 48 i0 (.int .u64 0) Tryz.underlying164 hi hz0 .i64 .i64 1 1 (by omega) (Int.le_refl _) (by rw [hz2];omega) (by omega)
 simp only [Int.toNat_one,hz1,Nat.mul_one] at hmk
 go_enter Tryz.func158,Tryz.ntmps158
 go_wp2
 go_ret
 refine ⟨_,w.heap.size,rfl,by omega,Nat.le_refl _,by omega,?_,?_,?_,?_,?_,((zab _ _).trans ((zab _ _).mono (by simp)))⟩
 ·rw [World.cell?_alloc_at _ _ _ _ (by simp)];rfl
 ·rw [World.cell?_alloc_at _ _ _ _ (by simp)];rfl
 ·rw [World.cell?_alloc_past _ _ _ (by simp),World.cell?_alloc_at _ _ _ _ rfl]
  simp [madeCells]
 ·intro o;exact World.frozen?_alloc_at _ _ _ _ (by simp)
 ·intro o;rw [World.frozen?_alloc_old _ _ _ (by simp)];exact zcS _ _ _ _
theorem zdb (n m:Nat) (hn:1≤n∧n≤64) (hm:1≤m∧m≤128) (w:World) :
  Calls Tryz.prog 121 #[.int .i64 n,.int .i64 m] w fun e w'=>∃ b,e=.returned (.pointer (some ⟨b,0,none⟩))∧IdleAt (fun x=>w.heap.size≤x) b w' n m { p:=0,pending:=[],m:=[],poller:=-1 }∧Below w.heap.size w w':=by
 have e1:max (1:Int) (n:Int)=n:=by omega
 have e2:min (n:Int) 64=n:=by omega
 have e3:max (1:Int) (m:Int)=m:=by omega
 have e4:min (m:Int) 128=m:=by omega
 go_enter Tryz.func121,Tryz.ntmps121
 go_wp2_with fail
 refine (mnew_any n hn w).mono ?_
 rintro e w1 ⟨mk,mw,rfl,h1,h2,h3,k0,k1,kw,f1,f2,hb⟩
 have l1:=World.block_lt_of_cell? w1 _ k0
 have l2:=World.block_lt_of_cell? w1 _ kw
 simp only at l1 l2
 go_wp2
 go_ret
 refine ⟨_,rfl,⟨mk,mw,⟨hb.size,h1,h2⟩,⟨by omega,by omega,h3⟩,zak _ _ _ _,⟨.slice none 0 0,.slice none 0 0,zak _ _ _ _,zak _ _ _ _,World.ownsRow_nil _ _ _ _,World.ownsRow_nil _ _ _ _,(fun x hx=>by cases hx),(fun x hx=>by cases hx),(fun x hx=>by cases hx),(fun x hx=>by cases hx)⟩,zak _ _ _ _,zak _ _ _ _,?_,?_,?_,⟨fun o=>zcS _ _ _ _,?_,?_⟩,Nat.two_pow_pos n,hn.2⟩,hb.trans ((zab _ _).mono hb.size)⟩
 ·rw [World.cell?_alloc_past _ _ _ l1];exact k0
 ·rw [World.cell?_alloc_past _ _ _ l1];exact k1
 ·rw [World.cell?_alloc_past _ _ _ l2];exact kw
 ·intro o;rw [World.frozen?_alloc_old _ _ _ (by simp;omega)];exact f1 o
 ·intro o;rw [World.frozen?_alloc_old _ _ _ (by simp;omega)];exact f2 o
theorem src_first (s n:Nat) (w:World) (t0 t2 t5 t6:TypeId)
  (h0:w.heap[s]?=some (.cells (madeCells #[.slice none 0 0] n) t0)) (h1:w.heap[s+1]?=some (.map #[] 0)) (h2:w.heap[s+2]?=some (.cells #[.slice (some ⟨s,0,none⟩) n n,.int .u64 0,.map (some (s+1))] t2))
  (h3:w.heap[s+3]?=some (.map #[] 0)) (h4:w.heap[s+4]?=some (.map #[] 0)) (h5:w.heap[s+5]?=some (.cells #[.map (some (s+3)),.map (some (s+4))] t5))
  (h6:w.heap[s+6]?=some (.cells #[.int .i64 0,.pointer (some ⟨s+2,0,none⟩),.pointer (some ⟨s+5,0,none⟩),.int .i64 0] t6)) :
  SrcH (fun x=>s≤x) (s+6) ⟨s+2,s,s+5,s+3,s+4,s+1⟩ w n Src.new (fun _=>[]) (fun _=>.slice none 0 0) [] []:=by
 have hne:[s+6,s+2,s,s+5,s+3,s+4,s+1].Nodup:=by simp
 refine ⟨⟨by omega,by dsimp only;omega,Nat.le_refl _,by dsimp only;omega,by dsimp only;omega,by dsimp only;omega,by dsimp only;omega⟩,hne,by simp [World.cell?,h6,Src.new],by simp [World.cell?,h6],by simp [World.cell?,h6],by simp [World.cell?,h6,waitsN,Src.new],by simp [World.cell?,h2],by simp [World.cell?,h2,Src.new],by simp [World.cell?,h2],
  (fun k hk=>by simp [World.cell?,h0,madeCells,hk,Nat.mod_one]),by simp [World.cell?,h5],by simp [World.cell?,h5],⟨#[],0,h3,rfl,List.nodup_nil,(fun x hx=>absurd hx (by simp))⟩,⟨#[],0,h4,rfl,List.nodup_nil,(fun x hx=>absurd hx (by simp))⟩,⟨#[],0,h1,rfl,List.nodup_nil,(fun x hx=>absurd hx (by simp))⟩,
  (fun k _=>⟨World.ownsRow_nil _ _ _ _,(fun x hx=>by cases hx)⟩),(fun k _ g hg=>by cases hg),⟨(fun o=>by simp [World.frozen?,h6]),(fun o=>by simp [World.frozen?,h2]),(fun o=>by simp [World.frozen?,h0]),(fun o=>by simp [World.frozen?,h5])⟩,
  (fun k _ i h1 h2=>absurd h2 (by simp)),by simp [Src.new],List.nodup_nil,(fun g v=>⟨(fun h=>by cases h),(fun ⟨x,h,_⟩=>by cases h)⟩),List.nodup_nil,(fun g v=>⟨(fun h=>by cases h),(fun ⟨_,x,h,_⟩=>by cases h)⟩)⟩
theorem zda (n:Nat) (hn:1≤n∧n≤64) (w:World) :
  Calls Tryz.prog 120 #[.int .i64 n] w fun e w'=>∃ b,e=.returned (.pointer (some ⟨b,0,none⟩))∧SrcAt (fun x=>w.heap.size≤x) b w' n Src.new∧Below w.heap.size w w':=by
 have e1:max (1:Int) (n:Int)=n:=by omega
 have e2:min (n:Int) 64=n:=by omega
 have hmm:=@run_makeMap Tryz.prog
 obtain ⟨i0,hi,hz0,hz1,hz2⟩:=info_parts Tryz.infoHeap
 have hmk:=run_make (P:=Tryz.prog) w 200 239 i0 (.agg #[.slice none 0 0]) Tryz.underlying200 hi hz0 .i64 .i64 n n (by omega) (Int.le_refl _) (by rw [hz2];omega) (by omega)
 simp only [Int.toNat_natCast,hz1,Nat.mul_one] at hmk
 go_enter Tryz.func120,Tryz.ntmps120
 go_wp2
 go_ret
 have hget:∀ (w1:World) (o:Obj) (k:Nat),k=w1.heap.size→(w1.alloc o).heap[k]?=some o:=fun w1 o k e=>by subst e;show (w1.heap.push o)[w1.heap.size]?=some o;simp
 refine ⟨w.heap.size+6,rfl,⟨⟨w.heap.size+2,w.heap.size,w.heap.size+5,w.heap.size+3,w.heap.size+4,w.heap.size+1⟩,fun _=>[],fun _=>.slice none 0 0,[],[],?_⟩,by repeat (first | exact Below.refl _ _ | refine Below.alloc ?_ (by simp <;> omega) _)⟩
 refine src_first w.heap.size n _ 239 203 208 134 ?_ ?_ ?_ ?_ ?_ ?_ ?_
 ·rw [Below.heap_alloc _ _ _ (by simp <;> omega),Below.heap_alloc _ _ _ (by simp <;> omega),Below.heap_alloc _ _ _ (by simp <;> omega),Below.heap_alloc _ _ _ (by simp <;> omega),Below.heap_alloc _ _ _ (by simp <;> omega),Below.heap_alloc _ _ _ (by simp <;> omega)];exact hget _ _ _ (by simp)
 ·rw [Below.heap_alloc _ _ _ (by simp <;> omega),Below.heap_alloc _ _ _ (by simp <;> omega),Below.heap_alloc _ _ _ (by simp <;> omega),Below.heap_alloc _ _ _ (by simp <;> omega),Below.heap_alloc _ _ _ (by simp <;> omega)];exact hget _ _ _ (by simp)
 ·rw [Below.heap_alloc _ _ _ (by simp <;> omega),Below.heap_alloc _ _ _ (by simp <;> omega),Below.heap_alloc _ _ _ (by simp <;> omega),Below.heap_alloc _ _ _ (by simp <;> omega)];exact hget _ _ _ (by simp)
 ·rw [Below.heap_alloc _ _ _ (by simp <;> omega),Below.heap_alloc _ _ _ (by simp <;> omega),Below.heap_alloc _ _ _ (by simp <;> omega)];exact hget _ _ _ (by simp)
 ·rw [Below.heap_alloc _ _ _ (by simp <;> omega),Below.heap_alloc _ _ _ (by simp <;> omega)];exact hget _ _ _ (by simp)
 ·rw [Below.heap_alloc _ _ _ (by simp <;> omega)];exact hget _ _ _ (by simp)
 ·exact hget _ _ _ (by simp)
def Agree (S:Nat→Prop) (w w':World):Prop:=w.heap.size≤w'.heap.size∧∀ b,b<w.heap.size→S b→w'.heap[b]?=w.heap[b]?
theorem Agree.mono {S T:Nat→Prop} {w w':World} (h:Agree S w w') (hs:∀ x,x<w.heap.size→T x→S x):Agree T w w':=⟨h.1,fun b hb ht=>h.2 b hb (hs b hb ht)⟩
theorem Agree.cell {S:Nat→Prop} {w w':World} (h:Agree S w w') {b o:Nat} {v:Value} (hs:S b) (hc:w.cell? ⟨b,o,none⟩=some v):w'.cell? ⟨b,o,none⟩=some v :=
 (World.cell?_of_block (w:=w) (a:=⟨b,o,none⟩) (h.2 b (World.block_lt_of_cell? w _ hc) hs)).trans hc
theorem Agree.fr {S:Nat→Prop} {w w':World} (h:Agree S w w') {b:Nat} (hs:S b) (hb:b<w.heap.size) (hf:∀ o,w.frozen? ⟨b,o,none⟩=false):∀ o,w'.frozen? ⟨b,o,none⟩=false:=fun o =>
 (World.frozen?_of_block (w:=w) (a:=⟨b,o,none⟩) (h.2 b hb hs)).trans (hf o)
theorem Agree.row {S:Nat→Prop} {w w':World} (h:Agree S w w') {e size n:Nat} {v:Value} {xs:List Value} (hs:RowIn S v) (ho:w.ownsRow 0 e size v n xs):w'.ownsRow 0 e size v n xs:=by
 refine ⟨ho.1,?_⟩
 rcases ho.2 with hn | ⟨g,cap,cur,rfl,hbg,hg,rest⟩
 ·exact .inl hn
 ·exact .inr ⟨g,cap,cur,rfl,hbg,by rw [h.2 g (Array.getElem?_eq_some_iff.1 hg).1 (hs g rfl)];exact hg,rest⟩
theorem RowIn.mono {S T:Nat→Prop} {w:World} {e size n:Nat} {v:Value} {xs:List Value} (h:RowIn S v) (ho:w.ownsRow 0 e size v n xs) (hs:∀ x,x<w.heap.size→S x→T x):RowIn T v:=fun g hg=>hs g (ho.lt g hg).2 (h g hg)
def Cells (b n:Nat) (f:Nat→Value) (w:World):Prop:=(∀ k,k<n→w.cell? ⟨b,k,none⟩=some (f k))∧∀ o,w.frozen? ⟨b,o,none⟩=false
theorem Cells.congr {S:Nat→Prop} {w w':World} {b n:Nat} {f:Nat→Value} (h:Cells b n f w) (a:Agree S w w') (hs:S b) (hb:b<w.heap.size):Cells b n f w':=⟨fun k hk=>a.cell hs (h.1 k hk),a.fr hs hb h.2⟩
theorem Cells.set {w:World} {b n:Nat} {f:Nat→Value} (h:Cells b n f w) (k:Nat) (hk:k<n) (v:Value):Cells b n (fun j=>if j=k then v else f j) (w.setCell ⟨b,k,none⟩ v) :=
 ⟨fun j hj=>by
  rw [zaf (h.1 k hk)]
  by_cases e:j=k
  ·subst e;simp
  ·simp only [e,if_false];exact h.1 j hj,fun o=>by rw [World.frozen?_setCell];exact h.2 o⟩
theorem Cells.ext {w:World} {b n:Nat} {f g:Nat→Value} (h:Cells b n f w) (e:∀ k,k<n→f k=g k):Cells b n g w:=⟨fun k hk=>by rw [h.1 k hk,e k hk],h.2⟩
def dims (P M G:Nat):Prop:=1≤P∧P≤64∧P≤M∧M≤128∧1≤G∧G≤4096
def ptr (b:Nat):Value:=.pointer (some ⟨b,0,none⟩)
def sli (b n c:Nat):Value:=.slice (some ⟨b,0,none⟩) n c
def wCells (F:Fix) (V:Vol) (P M G:Nat):Nat→Value
 | 0=>.int .i64 P
 | 1=>.int .i64 M
 | 2=>.int .i64 G
 | 3=>ptr F.mem
 | 4=>.int .i64 (2*(P+2):Nat)
 | 5=>.int .i64 (2*(P+2)+1:Nat)
 | 6=>.int .i64 (2*(P+2)+1+M:Nat)
 | 7=>.int .i64 G
 | 8=>sli F.rs P F.rsCap
 | 9=>sli F.turns P P
 | 10=>ptr F.glob
 | 11=>ptr F.src
 | 12=>ptr F.idle
 | 13=>sli F.all M F.allCap
 | 14=>sli F.flag M M
 | _=>V.logV
def nWords (P M G:Nat):Nat:=2*(P+2)+1+M+G
def memCells (F:Fix) (n:Nat) (cnt:Int):Nat→Value
 | 0=>sli F.ws n n
 | _=>.int .i64 cnt
def zeN (f:Nat→Mach) (r:Nat→Value) (k:Nat):Value:=(encM (f (k / 18)) (r (k / 18))).getD (k % 18) default
def Owns (F:Fix) (ow:Nat→Nat) (P:Nat):Prop :=
 ow F.W=1∧ow F.mem=2∧ow F.ws=3∧ow F.rs=4∧ow F.turns=5∧ow F.all=9∧ow F.flag=10∧∀ q,q<P→ow (F.ring q)=100+q
structure WAt (F:Fix) (V:Vol) (ow:Nat→Nat) (w:World) (p:Wd):Prop where
 dim:dims p.P p.M p.G
 lens:p.rings.length=p.P∧p.turns.length=p.P∧p.all.length=p.M∧p.flag.length=p.M∧p.ws.length=nWords p.P p.M p.G
 wsb:∀ a,p.ws.getD a 0<18446744073709551616
 own:Owns F ow p.P
 own_cap:p.P≤F.rsCap∧p.M≤F.allCap
 cw:Cells F.W 16 (wCells F V p.P p.M p.G) w
 cmem:Cells F.mem 2 (memCells F (nWords p.P p.M p.G) p.cnt) w
 cws:Cells F.ws (nWords p.P p.M p.G) (fun a=>.int .u64 (p.ws.getD a 0:Nat)) w
 crs:Cells F.rs p.P (fun q=>ptr (F.ring q)) w
 cring:∀ q,q<p.P→RingAt (F.ring q) w (p.ring q)
 cturns:Cells F.turns p.P (fun q=>.int .i64 (p.turns.getD q 0)) w
 cglob:GlobAt (ow ·=6) F.glob w p.P p.glob
 csrc:SrcAt (ow ·=7) F.src w p.P p.src
 cidle:IdleAt (ow ·=8) F.idle w p.P p.M p.idle
 call:Cells F.all (p.M*18) (zeN p.mach V.rest) w
 crest:∀ i,i<p.M→w.ownsRow 0 3 1 (V.rest i) (p.mach i).rest.length (ints (p.mach i).rest)∧RowIn (ow ·=1000+i) (V.rest i)
 cflag:Cells F.flag p.M (fun i=>.bool (p.fl i)) w
 clog:w.ownsRow 0 39 5 V.logV p.log.length (encEs p.log)∧RowIn (ow ·=11) V.logV
structure Stp (ow ow':Nat→Nat) (w w':World):Prop where
 os:w'.os=w.os
 tape:w'.tape=w.tape
 output:w'.output=w.output
 size:w.heap.size≤w'.heap.size
 own:∀ b,b<w.heap.size→ow' b=ow b
 block:∀ b,b<w.heap.size→ow b=0→w'.heap[b]?=w.heap[b]?
theorem Stp.refl (ow:Nat→Nat) (w:World):Stp ow ow w w:=⟨rfl,rfl,rfl,Nat.le_refl _,fun _ _=>rfl,fun _ _ _=>rfl⟩
theorem Stp.trans {ow ow1 ow2:Nat→Nat} {w w1 w2:World} (h:Stp ow ow1 w w1) (k:Stp ow1 ow2 w1 w2):Stp ow ow2 w w2 :=
 ⟨k.os.trans h.os,k.tape.trans h.tape,k.output.trans h.output,Nat.le_trans h.size k.size,fun b hb=>(k.own b (Nat.lt_of_lt_of_le hb h.size)).trans (h.own b hb),
  fun b hb e=>(k.block b (Nat.lt_of_lt_of_le hb h.size) ((h.own b hb).trans e)).trans (h.block b hb e)⟩
def grow (ow:Nat→Nat) (s k:Nat):Nat→Nat:=fun b=>if b<s then ow b else k
theorem grow_lt {ow:Nat→Nat} {s k b:Nat} (h:b<s):grow ow s k b=ow b:=if_pos h
theorem grow_ge {ow:Nat→Nat} {s k b:Nat} (h:s≤b):grow ow s k b=k:=if_neg (by omega)
theorem Cells.lt {w:World} {b n:Nat} {f:Nat→Value} (h:Cells b n f w) (hn:0<n):b<w.heap.size:=World.block_lt_of_cell? w _ (h.1 0 hn)
theorem RowAt.agree {S T:Nat→Prop} {b o:Nat} {w w':World} {l:List Int} (h:RowAt S b o w l) (a:Agree S w w') (hb:S b) (hs:∀ x,x<w.heap.size→S x→T x):RowAt T b o w' l:=by
 obtain ⟨v,h1,h2,h3,h4⟩:=h
 exact ⟨v,a.cell hb h1,a.row h3 h2,h3.mono h2 hs,h4⟩
theorem GlobAt.agree {S T:Nat→Prop} {b n:Nat} {w w':World} {l:List Int} (h:GlobAt S b w n l) (a:Agree S w w') (hs:∀ x,x<w.heap.size→S x→T x):GlobAt T b w' n l:=by
 have hb:=World.block_lt_of_cell? w _ h.cn
 exact ⟨hs b hb h.inS,h.row.agree a h.inS hs,a.cell h.inS h.cn,a.fr h.inS hb h.fr⟩
theorem IdleAt.agree {S T:Nat→Prop} {b n m:Nat} {w w':World} {x:Hst.Idle} (h:IdleAt S b w n m x) (a:Agree S w w') (hs:∀ x,x<w.heap.size→S x→T x):IdleAt T b w' n m x:=by
 obtain ⟨mk,mw,h⟩:=h
 have l0:=World.block_lt_of_cell? w _ h.c0
 have l1:=World.block_lt_of_cell? w _ h.k0
 have l2:=World.block_lt_of_cell? w _ h.kw
 obtain ⟨s0,s1,s2⟩:=h.inS
 obtain ⟨pv,mv,r1,r2,r3,r4,r5,r6,r7⟩:=h.rows
 exact ⟨mk,mw,⟨hs _ l0 s0,hs _ l1 s1,hs _ l2 s2⟩,h.ne,a.cell s0 h.c0,⟨pv,mv,a.cell s0 r1,a.cell s0 r2,a.row r5 r3,a.row r6 r4,r5.mono r3 hs,r6.mono r4 hs,r7⟩,a.cell s0 h.c3,a.cell s0 h.c4,a.cell s1 h.k0,a.cell s1 h.k1,a.cell s2 h.kw,
  ⟨a.fr s0 l0 h.fr.1,a.fr s1 l1 h.fr.2.1,a.fr s2 l2 h.fr.2.2⟩,h.bits,h.n_le⟩
theorem IMap.congr {K:IntKind} {w w':World} {r:Nat} {l:List (Int × Value)} (h:IMap K w r l) (e:w'.heap[r]?=w.heap[r]?):IMap K w' r l:=by
 obtain ⟨es,c,h1,h2⟩:=h
 exact ⟨es,c,e.trans h1,h2⟩
theorem IMap.lt {K:IntKind} {w:World} {r:Nat} {l:List (Int × Value)} (h:IMap K w r l):r<w.heap.size:=by
 obtain ⟨es,c,h1,h2⟩:=h
 exact (Array.getElem?_eq_some_iff.1 h1).1
theorem SrcH.agree {S T:Nat→Prop} {b P:Nat} {B:SrcF} {w w':World} {s:Hst.Src} {hs:Nat→List Ent} {hv:Nat→Value} {wl hl:List (Int × Value)} (hP:0<P) (h:SrcH S b B w P s hs hv wl hl) (a:Agree S w w') (hst:∀ x,x<w.heap.size→S x→T x):SrcH T b B w' P s hs hv wl hl:=by
 obtain ⟨s0,s1,s2,s3,s4,s5,s6⟩:=h.inS
 have l0:=World.block_lt_of_cell? w _ h.c0
 have l1:=World.block_lt_of_cell? w _ h.t0
 have l2:=World.block_lt_of_cell? w _ (h.l 0 hP)
 have l3:=World.block_lt_of_cell? w _ h.p0
 have l4:=h.fds.lt
 have l5:=h.who.lt
 have l6:=h.has.lt
 exact ⟨⟨hst _ l0 s0,hst _ l1 s1,hst _ l2 s2,hst _ l3 s3,hst _ l4 s4,hst _ l5 s5,hst _ l6 s6⟩,h.ne,a.cell s0 h.c0,a.cell s0 h.c1,a.cell s0 h.c2,a.cell s0 h.c3,a.cell s1 h.t0,a.cell s1 h.t1,a.cell s1 h.t2,fun k hk=>a.cell s2 (h.l k hk),a.cell s3 h.p0,a.cell s3 h.p1,
  h.fds.congr (a.2 _ l4 s4),h.who.congr (a.2 _ l5 s5),h.has.congr (a.2 _ l6 s6),fun k hk=>⟨a.row (h.rows k hk).2 (h.rows k hk).1,(h.rows k hk).2.mono (h.rows k hk).1 hst⟩,h.apart,
  ⟨a.fr s0 l0 h.fr.1,a.fr s1 l1 h.fr.2.1,a.fr s2 l2 h.fr.2.2.1,a.fr s3 l3 h.fr.2.2.2⟩,h.heap,h.perm,h.whoN,h.whoE,h.hasN,h.hasE⟩
theorem SrcAt.agree {S T:Nat→Prop} {b P:Nat} {w w':World} {s:Hst.Src} (hP:0<P) (h:SrcAt S b w P s) (a:Agree S w w') (hs:∀ x,x<w.heap.size→S x→T x):SrcAt T b w' P s:=by
 obtain ⟨B,hs',hv,wl,hl,h⟩:=h
 exact ⟨B,hs',hv,wl,hl,h.agree hP a hs⟩
theorem RingAt.lt {b:Nat} {w:World} {r:Hst.Ring} (h:RingAt b w r):b<w.heap.size:=by obtain ⟨hd,h⟩:=h;exact h.lt
theorem RingAt.agree {S:Nat→Prop} {b:Nat} {w w':World} {r:Hst.Ring} (h:RingAt b w r) (a:Agree S w w') (hs:S b):RingAt b w' r:=by
 obtain ⟨hd,h⟩:=h
 exact ⟨hd,h.congr (a.2 b h.lt hs)⟩
theorem WAt.upd {F:Fix} {V V':Vol} {ow ow':Nat→Nat} {w w':World} {p p':Wd} (h:WAt F V ow w p) (K:Nat→Prop) (hd:p'.P=p.P∧p'.M=p.M∧p'.G=p.G)
  (lens:p'.rings.length=p.P∧p'.turns.length=p.P∧p'.all.length=p.M∧p'.flag.length=p.M∧p'.ws.length=nWords p.P p.M p.G)
  (e:∀ b,b<w.heap.size→ow' b=ow b) (a:Agree (fun b=>ow b≠0∧¬ K (ow b)) w w')
  (cw:(¬ K 1∧V'.logV=V.logV)∨Cells F.W 16 (wCells F V' p.P p.M p.G) w')
  (cmem:(¬ K 2∧p'.cnt=p.cnt)∨Cells F.mem 2 (memCells F (nWords p.P p.M p.G) p'.cnt) w')
  (cws:(¬ K 3∧p'.ws=p.ws)∨(Cells F.ws (nWords p.P p.M p.G) (fun a=>.int .u64 (p'.ws.getD a 0:Nat)) w'∧∀ a,p'.ws.getD a 0<18446744073709551616))
  (crs:¬ K 4)
  (cring:∀ q,q<p.P→(¬ K (100+q)∧p'.ring q=p.ring q)∨RingAt (F.ring q) w' (p'.ring q))
  (cturns:(¬ K 5∧p'.turns=p.turns)∨Cells F.turns p.P (fun q=>.int .i64 (p'.turns.getD q 0)) w')
  (cglob:(¬ K 6∧p'.glob=p.glob)∨GlobAt (ow' ·=6) F.glob w' p.P p'.glob)
  (csrc:(¬ K 7∧p'.src=p.src)∨SrcAt (ow' ·=7) F.src w' p.P p'.src)
  (cidle:(¬ K 8∧p'.idle=p.idle)∨IdleAt (ow' ·=8) F.idle w' p.P p.M p'.idle)
  (call:(¬ K 9∧p'.mach=p.mach∧V'.rest=V.rest)∨Cells F.all (p.M*18) (zeN p'.mach V'.rest) w')
  (crest:∀ i,i<p.M→(¬ K (1000+i)∧(p'.mach i).rest=(p.mach i).rest∧V'.rest i=V.rest i)∨(w'.ownsRow 0 3 1 (V'.rest i) (p'.mach i).rest.length (ints (p'.mach i).rest)∧RowIn (ow' ·=1000+i) (V'.rest i)))
  (cflag:(¬ K 10∧p'.fl=p.fl)∨Cells F.flag p.M (fun i=>.bool (p'.fl i)) w')
  (clog:(¬ K 11∧p'.log=p.log∧V'.logV=V.logV)∨(w'.ownsRow 0 39 5 V'.logV p'.log.length (encEs p'.log)∧RowIn (ow' ·=11) V'.logV)) :
  WAt F V' ow' w' p':=by
 obtain ⟨hP,hM,hG⟩:=hd
 obtain ⟨o1,o2,o3,o4,o5,o9,o10,oq⟩:=h.own
 obtain ⟨d1,d2,d3,d4,d5,d6⟩:=h.dim
 have l1:=h.cw.lt (by decide)
 have l2:=h.cmem.lt (by decide)
 have l3:=h.cws.lt (by unfold nWords;omega)
 have l4:=h.crs.lt d1
 have l5:=h.cturns.lt d1
 have l9:=h.call.lt (by omega)
 have l10:=h.cflag.lt (by omega)
 have ag:∀ k,k≠0→¬ K k→Agree (ow ·=k) w w':=fun k hk hK=>a.mono fun x _ hx=>⟨by rw [hx];exact hk,by rw [hx];exact hK⟩
 have em:∀ k x,x<w.heap.size→ow x=k→ow' x=k:=fun k x hx hk=>(e x hx).trans hk
 refine ⟨by rw [hP,hM,hG];exact h.dim,by rw [hP,hM,hG];exact lens,?_,?_,by rw [hP,hM];exact h.own_cap,?_,?_,?_,?_,?_,?_,?_,?_,?_,?_,?_,?_,?_⟩
 ·rcases cws with ⟨_,hw⟩ | ⟨_,hw⟩
  ·rw [hw];exact h.wsb
  ·exact hw
 ·rw [hP]
  exact ⟨em _ _ l1 o1,em _ _ l2 o2,em _ _ l3 o3,em _ _ l4 o4,em _ _ l5 o5,em _ _ l9 o9,em _ _ l10 o10,fun q hq=>em _ _ (h.cring q hq).lt (oq q hq)⟩
 ·rw [hP,hM,hG]
  rcases cw with ⟨hk,hv⟩ | hc
  ·refine (h.cw.congr (ag 1 (by decide) hk) o1 l1).ext fun k _=>?_
   unfold wCells;rw [hv]
  ·exact hc
 ·rw [hP,hM,hG]
  rcases cmem with ⟨hk,hv⟩ | hc
  ·rw [hv];exact h.cmem.congr (ag 2 (by decide) hk) o2 l2
  ·exact hc
 ·rw [hP,hM,hG]
  rcases cws with ⟨hk,hv⟩ | ⟨hc,_⟩
  ·rw [hv];exact h.cws.congr (ag 3 (by decide) hk) o3 l3
  ·exact hc
 ·rw [hP];exact h.crs.congr (ag 4 (by decide) crs) o4 l4
 ·rw [hP];intro q hq
  rcases cring q hq with ⟨hk,hv⟩ | hc
  ·rw [hv];exact (h.cring q hq).agree (ag (100+q) (by omega) hk) (oq q hq)
  ·exact hc
 ·rw [hP]
  rcases cturns with ⟨hk,hv⟩ | hc
  ·rw [hv];exact h.cturns.congr (ag 5 (by decide) hk) o5 l5
  ·exact hc
 ·rw [hP]
  rcases cglob with ⟨hk,hv⟩ | hc
  ·rw [hv];exact h.cglob.agree (ag 6 (by decide) hk) (em 6)
  ·exact hc
 ·rw [hP]
  rcases csrc with ⟨hk,hv⟩ | hc
  ·rw [hv];exact h.csrc.agree d1 (ag 7 (by decide) hk) (em 7)
  ·exact hc
 ·rw [hP,hM]
  rcases cidle with ⟨hk,hv⟩ | hc
  ·rw [hv];exact h.cidle.agree (ag 8 (by decide) hk) (em 8)
  ·exact hc
 ·rw [hM]
  rcases call with ⟨hk,hv,hr⟩ | hc
  ·rw [hv,hr];exact h.call.congr (ag 9 (by decide) hk) o9 l9
  ·exact hc
 ·rw [hM];intro i hi
  rcases crest i hi with ⟨hk,hv,hr⟩ | hc
  ·rw [hv,hr]
   obtain ⟨c1,c2⟩:=h.crest i hi
   exact ⟨(ag (1000+i) (by omega) hk).row c2 c1,c2.mono c1 (em (1000+i))⟩
  ·exact hc
 ·rw [hM]
  rcases cflag with ⟨hk,hv⟩ | hc
  ·rw [hv];exact h.cflag.congr (ag 10 (by decide) hk) o10 l10
  ·exact hc
 ·rcases clog with ⟨hk,hv,hr⟩ | hc
  ·rw [hv,hr]
   exact ⟨(ag 11 (by decide) hk).row h.clog.2 h.clog.1,h.clog.2.mono h.clog.1 (em 11)⟩
  ·exact hc
theorem zbk {ow:Nat→Nat} {w:World} {b k:Nat} (hb:ow b=k) (o:Nat) (v:Value):Agree (fun x=>ow x≠0∧¬ ow x=k) w (w.setCell ⟨b,o,none⟩ v) :=
 ⟨by simp,fun x _ hx=>za5 (fun e=>hx.2 (by rw [e];exact hb)) v⟩
theorem zaz {ow:Nat→Nat} {w:World} {b k:Nat} (hb:ow b=k) (hk:k≠0) (o:Nat) (v:Value):Stp ow ow w (w.setCell ⟨b,o,none⟩ v) :=
 ⟨rfl,rfl,rfl,by simp,fun _ _=>rfl,fun x _ hx=>za5 (fun e=>hk (by rw [← hb,← e];exact hx)) v⟩
theorem zdI (p:Wd) (i j:Nat) (m:Mach) (hi:i<p.all.length):(p.setM i m).mach j=if j=i then m else p.mach j:=by
 unfold Wd.setM Wd.mach
 by_cases e:j=i
 ·subst e;simp [List.getD_eq_getElem?_getD,hi]
 ·rw [if_neg e];simp [List.getD_eq_getElem?_getD,List.getElem?_set_ne (Ne.symm e)]
theorem zao (p:Wd) (i:Nat) (m m':Mach):(p.setM i m).setM i m'=p.setM i m':=by simp [Wd.setM]
theorem fl_setF (p:Wd) (i j:Nat) (b:Bool) (hi:i<p.flag.length):(p.setF i b).fl j=if j=i then b else p.fl j:=by
 unfold Wd.setF Wd.fl
 by_cases e:j=i
 ·subst e;simp [List.getD_eq_getElem?_getD,hi]
 ·rw [if_neg e];simp [List.getD_eq_getElem?_getD,List.getElem?_set_ne (Ne.symm e)]
theorem zbw {α:Type} (l:List α) (i j:Nat) (v d:α) (hi:i<l.length):(l.set i v).getD j d=if j=i then v else l.getD j d:=by
 by_cases e:j=i
 ·subst e;simp [List.getD_eq_getElem?_getD,hi]
 ·rw [if_neg e];simp [List.getD_eq_getElem?_getD,List.getElem?_set_ne (Ne.symm e)]
section
variable {F:Fix} {V:Vol} {ow:Nat→Nat} {w:World} {p:Wd}
theorem WAt.cellA (h:WAt F V ow w p) {i k:Nat} (hi:i<p.M) (hk:k<18):w.cell? ⟨F.all,i*18+k,none⟩=some ((encM (p.mach i) (V.rest i)).getD k default):=by
 rw [h.call.1 (i*18+k) (by omega)]
 unfold zeN
 rw [show (i*18+k) / 18=i by omega,show (i*18+k) % 18=k by omega]
theorem WAt.setA (h:WAt F V ow w p) {i k:Nat} (hi:i<p.M) (hk:k<18) (x:Value) (m':Mach) (hr:m'.rest=(p.mach i).rest)
  (hm:∀ j,j<18→(encM m' (V.rest i)).getD j default=if j=k then x else (encM (p.mach i) (V.rest i)).getD j default) :
  WAt F V ow (w.setCell ⟨F.all,i*18+k,none⟩ x) (p.setM i m'):=by
 obtain ⟨o1,o2,o3,o4,o5,o9,o10,oq⟩:=h.own
 obtain ⟨l1,l2,l3,l4,l5⟩:=h.lens
 have hmach:∀ j,(p.setM i m').mach j=if j=i then m' else p.mach j:=fun j=>zdI p i j m' (by omega)
 refine h.upd (·=9) ⟨rfl,rfl,rfl⟩ ⟨l1,l2,by simpa [Wd.setM] using l3,l4,l5⟩ (fun _ _=>rfl) (zbk o9 _ _) (.inl ⟨by decide,rfl⟩) (.inl ⟨by decide,rfl⟩) (.inl ⟨by decide,rfl⟩) (by decide) (fun q _=>.inl ⟨by omega,rfl⟩)
  (.inl ⟨by decide,rfl⟩) (.inl ⟨by decide,rfl⟩) (.inl ⟨by decide,rfl⟩) (.inl ⟨by decide,rfl⟩) (.inr ?_) (fun j _=>.inl ⟨by omega,?_,rfl⟩) (.inl ⟨by decide,rfl⟩) (.inl ⟨by decide,rfl,rfl⟩)
 ·refine (h.call.set (i*18+k) (by omega) x).ext fun c hc=>?_
  unfold zeN
  rw [hmach]
  by_cases e:c / 18=i
  ·rw [if_pos e,e,hm (c % 18) (by omega)]
   by_cases e2:c % 18=k
   ·rw [if_pos (by omega),if_pos e2]
   ·rw [if_neg (by omega),if_neg e2]
  ·rw [if_neg (by omega),if_neg e]
 ·rw [hmach];split
  ·rename_i e;rw [e];exact hr
  ·rfl
theorem WAt.setFl (h:WAt F V ow w p) {i:Nat} (hi:i<p.M) (b:Bool):WAt F V ow (w.setCell ⟨F.flag,i,none⟩ (.bool b)) (p.setF i b):=by
 obtain ⟨o1,o2,o3,o4,o5,o9,o10,oq⟩:=h.own
 obtain ⟨l1,l2,l3,l4,l5⟩:=h.lens
 refine h.upd (·=10) ⟨rfl,rfl,rfl⟩ ⟨l1,l2,l3,by simpa [Wd.setF] using l4,l5⟩ (fun _ _=>rfl) (zbk o10 _ _) (.inl ⟨by decide,rfl⟩) (.inl ⟨by decide,rfl⟩) (.inl ⟨by decide,rfl⟩) (by decide) (fun q _=>.inl ⟨by omega,rfl⟩)
  (.inl ⟨by decide,rfl⟩) (.inl ⟨by decide,rfl⟩) (.inl ⟨by decide,rfl⟩) (.inl ⟨by decide,rfl⟩) (.inl ⟨by decide,rfl,rfl⟩) (fun j _=>.inl ⟨by omega,rfl,rfl⟩) (.inr ?_) (.inl ⟨by decide,rfl,rfl⟩)
 refine (h.cflag.set i hi (.bool b)).ext fun c _=>?_
 rw [fl_setF p i c b (by omega)];split <;> rfl
theorem WAt.setTurn (h:WAt F V ow w p) {q:Nat} (hq:q<p.P) (t:Int):WAt F V ow (w.setCell ⟨F.turns,q,none⟩ (.int .i64 t)) { p with turns:=p.turns.set q t }:=by
 obtain ⟨o1,o2,o3,o4,o5,o9,o10,oq⟩:=h.own
 obtain ⟨l1,l2,l3,l4,l5⟩:=h.lens
 refine h.upd (·=5) ⟨rfl,rfl,rfl⟩ ⟨l1,by simpa using l2,l3,l4,l5⟩ (fun _ _=>rfl) (zbk o5 _ _) (.inl ⟨by decide,rfl⟩) (.inl ⟨by decide,rfl⟩) (.inl ⟨by decide,rfl⟩) (by decide) (fun q _=>.inl ⟨by omega,rfl⟩)
  (.inr ?_) (.inl ⟨by decide,rfl⟩) (.inl ⟨by decide,rfl⟩) (.inl ⟨by decide,rfl⟩) (.inl ⟨by decide,rfl,rfl⟩) (fun j _=>.inl ⟨by omega,rfl,rfl⟩) (.inl ⟨by decide,rfl⟩) (.inl ⟨by decide,rfl,rfl⟩)
 refine (h.cturns.set q hq (.int .i64 t)).ext fun c _=>?_
 dsimp only
 rw [zbw _ _ _ _ _ (by omega)];split <;> rfl
theorem WAt.accd (h:WAt F V ow w p):WAt F V ow (w.setCell ⟨F.mem,1,none⟩ (.int .i64 (wrap64 (p.cnt+1)))) p.acc:=by
 obtain ⟨o1,o2,o3,o4,o5,o9,o10,oq⟩:=h.own
 obtain ⟨l1,l2,l3,l4,l5⟩:=h.lens
 refine h.upd (·=2) ⟨rfl,rfl,rfl⟩ ⟨l1,l2,l3,l4,l5⟩ (fun _ _=>rfl) (zbk o2 _ _) (.inl ⟨by decide,rfl⟩) (.inr ?_) (.inl ⟨by decide,rfl⟩) (by decide) (fun q _=>.inl ⟨by omega,rfl⟩)
  (.inl ⟨by decide,rfl⟩) (.inl ⟨by decide,rfl⟩) (.inl ⟨by decide,rfl⟩) (.inl ⟨by decide,rfl⟩) (.inl ⟨by decide,rfl,rfl⟩) (fun j _=>.inl ⟨by omega,rfl,rfl⟩) (.inl ⟨by decide,rfl⟩) (.inl ⟨by decide,rfl,rfl⟩)
 refine (h.cmem.set 1 (by decide) _).ext fun c hc=>?_
 rcases (show c=0∨c=1 by omega) with rfl | rfl
 ·rfl
 ·rfl
theorem WAt.word (h:WAt F V ow w p) {a:Nat} (ha:a<nWords p.P p.M p.G) (x:Nat) (hx:x<18446744073709551616):WAt F V ow (w.setCell ⟨F.ws,a,none⟩ (.int .u64 (x:Int))) { p with ws:=p.ws.set a x }:=by
 obtain ⟨o1,o2,o3,o4,o5,o9,o10,oq⟩:=h.own
 obtain ⟨l1,l2,l3,l4,l5⟩:=h.lens
 have hg:∀ c,(p.ws.set a x).getD c 0=if c=a then x else p.ws.getD c 0:=fun c=>zbw _ _ _ _ _ (by omega)
 refine h.upd (·=3) ⟨rfl,rfl,rfl⟩ ⟨l1,l2,l3,l4,by simpa using l5⟩ (fun _ _=>rfl) (zbk o3 _ _) (.inl ⟨by decide,rfl⟩) (.inl ⟨by decide,rfl⟩) (.inr ⟨?_,?_⟩) (by decide) (fun q _=>.inl ⟨by omega,rfl⟩)
  (.inl ⟨by decide,rfl⟩) (.inl ⟨by decide,rfl⟩) (.inl ⟨by decide,rfl⟩) (.inl ⟨by decide,rfl⟩) (.inl ⟨by decide,rfl,rfl⟩) (fun j _=>.inl ⟨by omega,rfl,rfl⟩) (.inl ⟨by decide,rfl⟩) (.inl ⟨by decide,rfl,rfl⟩)
 ·refine (h.cws.set a ha _).ext fun c _=>?_
  dsimp only
  rw [hg];split <;> rfl
 ·intro c;dsimp only;rw [hg];split
  ·exact hx
  ·exact h.wsb c
end
theorem lt18 {j:Nat} (h:j<18):j=0∨j=1∨j=2∨j=3∨j=4∨j=5∨j=6∨j=7∨j=8∨j=9∨j=10∨j=11∨j=12∨j=13∨j=14∨j=15∨j=16∨j=17:=by omega
section
variable {F:Fix} {V:Vol} {ow:Nat→Nat} {w:World} {p:Wd}
theorem WAt.cA_place (h:WAt F V ow w p) {i:Nat} (hi:i<p.M):w.cell? ⟨F.all,i*18,none⟩=some (.int .i64 ((p.mach i).place:Nat)):=by
 have e:=h.cellA hi (k:=0) (by decide)
 rw [Nat.add_zero] at e
 exact e
theorem WAt.sA_place (h:WAt F V ow w p) {i:Nat} (hi:i<p.M) (v:Nat):WAt F V ow (w.setCell ⟨F.all,i*18,none⟩ (.int .i64 (v:Nat))) (p.setM i { p.mach i with place:=v }):=by
 have e:=h.setA hi (k:=0) (by decide) (.int .i64 (v:Nat)) { p.mach i with place:=v } rfl (fun j hj=>by rcases lt18 hj with rfl | rfl | rfl | rfl | rfl | rfl | rfl | rfl | rfl | rfl | rfl | rfl | rfl | rfl | rfl | rfl | rfl | rfl <;> rfl)
 rw [Nat.add_zero] at e
 exact e
theorem WAt.cA_p (h:WAt F V ow w p) {i:Nat} (hi:i<p.M):w.cell? ⟨F.all,i*18+1,none⟩=some (.int .i64 (p.mach i).p):=h.cellA hi (k:=1) (by decide)
theorem WAt.sA_p (h:WAt F V ow w p) {i:Nat} (hi:i<p.M) (v:Int):WAt F V ow (w.setCell ⟨F.all,i*18+1,none⟩ (.int .i64 v)) (p.setM i { p.mach i with p:=v }) :=
 h.setA hi (k:=1) (by decide) _ _ rfl (fun j hj=>by rcases lt18 hj with rfl | rfl | rfl | rfl | rfl | rfl | rfl | rfl | rfl | rfl | rfl | rfl | rfl | rfl | rfl | rfl | rfl | rfl <;> rfl)
theorem WAt.cA_g (h:WAt F V ow w p) {i:Nat} (hi:i<p.M):w.cell? ⟨F.all,i*18+2,none⟩=some (.int .i64 (p.mach i).g):=h.cellA hi (k:=2) (by decide)
theorem WAt.sA_g (h:WAt F V ow w p) {i:Nat} (hi:i<p.M) (v:Int):WAt F V ow (w.setCell ⟨F.all,i*18+2,none⟩ (.int .i64 v)) (p.setM i { p.mach i with g:=v }) :=
 h.setA hi (k:=2) (by decide) _ _ rfl (fun j hj=>by rcases lt18 hj with rfl | rfl | rfl | rfl | rfl | rfl | rfl | rfl | rfl | rfl | rfl | rfl | rfl | rfl | rfl | rfl | rfl | rfl <;> rfl)
theorem WAt.cA_next (h:WAt F V ow w p) {i:Nat} (hi:i<p.M):w.cell? ⟨F.all,i*18+3,none⟩=some (.int .i64 (p.mach i).next):=h.cellA hi (k:=3) (by decide)
theorem WAt.sA_next (h:WAt F V ow w p) {i:Nat} (hi:i<p.M) (v:Int):WAt F V ow (w.setCell ⟨F.all,i*18+3,none⟩ (.int .i64 v)) (p.setM i { p.mach i with next:=v }) :=
 h.setA hi (k:=3) (by decide) _ _ rfl (fun j hj=>by rcases lt18 hj with rfl | rfl | rfl | rfl | rfl | rfl | rfl | rfl | rfl | rfl | rfl | rfl | rfl | rfl | rfl | rfl | rfl | rfl <;> rfl)
theorem WAt.cA_got (h:WAt F V ow w p) {i:Nat} (hi:i<p.M):w.cell? ⟨F.all,i*18+4,none⟩=some (.int .i64 (p.mach i).got):=h.cellA hi (k:=4) (by decide)
theorem WAt.sA_got (h:WAt F V ow w p) {i:Nat} (hi:i<p.M) (v:Int):WAt F V ow (w.setCell ⟨F.all,i*18+4,none⟩ (.int .i64 v)) (p.setM i { p.mach i with got:=v }) :=
 h.setA hi (k:=4) (by decide) _ _ rfl (fun j hj=>by rcases lt18 hj with rfl | rfl | rfl | rfl | rfl | rfl | rfl | rfl | rfl | rfl | rfl | rfl | rfl | rfl | rfl | rfl | rfl | rfl <;> rfl)
theorem WAt.cA_target (h:WAt F V ow w p) {i:Nat} (hi:i<p.M):w.cell? ⟨F.all,i*18+5,none⟩=some (.int .i64 (p.mach i).target):=h.cellA hi (k:=5) (by decide)
theorem WAt.sA_target (h:WAt F V ow w p) {i:Nat} (hi:i<p.M) (v:Int):WAt F V ow (w.setCell ⟨F.all,i*18+5,none⟩ (.int .i64 v)) (p.setM i { p.mach i with target:=v }) :=
 h.setA hi (k:=5) (by decide) _ _ rfl (fun j hj=>by rcases lt18 hj with rfl | rfl | rfl | rfl | rfl | rfl | rfl | rfl | rfl | rfl | rfl | rfl | rfl | rfl | rfl | rfl | rfl | rfl <;> rfl)
theorem WAt.cA_i (h:WAt F V ow w p) {i:Nat} (hi:i<p.M):w.cell? ⟨F.all,i*18+6,none⟩=some (.int .i64 (p.mach i).i):=h.cellA hi (k:=6) (by decide)
theorem WAt.sA_i (h:WAt F V ow w p) {i:Nat} (hi:i<p.M) (v:Int):WAt F V ow (w.setCell ⟨F.all,i*18+6,none⟩ (.int .i64 v)) (p.setM i { p.mach i with i:=v }) :=
 h.setA hi (k:=6) (by decide) _ _ rfl (fun j hj=>by rcases lt18 hj with rfl | rfl | rfl | rfl | rfl | rfl | rfl | rfl | rfl | rfl | rfl | rfl | rfl | rfl | rfl | rfl | rfl | rfl <;> rfl)
theorem WAt.cA_spin (h:WAt F V ow w p) {i:Nat} (hi:i<p.M):w.cell? ⟨F.all,i*18+7,none⟩=some (.bool (p.mach i).spin):=h.cellA hi (k:=7) (by decide)
theorem WAt.sA_spin (h:WAt F V ow w p) {i:Nat} (hi:i<p.M) (v:Bool):WAt F V ow (w.setCell ⟨F.all,i*18+7,none⟩ (.bool v)) (p.setM i { p.mach i with spin:=v }) :=
 h.setA hi (k:=7) (by decide) _ _ rfl (fun j hj=>by rcases lt18 hj with rfl | rfl | rfl | rfl | rfl | rfl | rfl | rfl | rfl | rfl | rfl | rfl | rfl | rfl | rfl | rfl | rfl | rfl <;> rfl)
theorem WAt.cA_inn (h:WAt F V ow w p) {i:Nat} (hi:i<p.M):w.cell? ⟨F.all,i*18+8,none⟩=some (.bool (p.mach i).inn):=h.cellA hi (k:=8) (by decide)
theorem WAt.sA_inn (h:WAt F V ow w p) {i:Nat} (hi:i<p.M) (v:Bool):WAt F V ow (w.setCell ⟨F.all,i*18+8,none⟩ (.bool v)) (p.setM i { p.mach i with inn:=v }) :=
 h.setA hi (k:=8) (by decide) _ _ rfl (fun j hj=>by rcases lt18 hj with rfl | rfl | rfl | rfl | rfl | rfl | rfl | rfl | rfl | rfl | rfl | rfl | rfl | rfl | rfl | rfl | rfl | rfl <;> rfl)
theorem WAt.cA_rest (h:WAt F V ow w p) {i:Nat} (hi:i<p.M):w.cell? ⟨F.all,i*18+9,none⟩=some (V.rest i):=h.cellA hi (k:=9) (by decide)
theorem WAt.cA_back (h:WAt F V ow w p) {i:Nat} (hi:i<p.M):w.cell? ⟨F.all,i*18+10,none⟩=some (.int .i64 ((p.mach i).back:Nat)):=h.cellA hi (k:=10) (by decide)
theorem WAt.sA_back (h:WAt F V ow w p) {i:Nat} (hi:i<p.M) (v:Nat):WAt F V ow (w.setCell ⟨F.all,i*18+10,none⟩ (.int .i64 (v:Nat))) (p.setM i { p.mach i with back:=v }) :=
 h.setA hi (k:=10) (by decide) _ _ rfl (fun j hj=>by rcases lt18 hj with rfl | rfl | rfl | rfl | rfl | rfl | rfl | rfl | rfl | rfl | rfl | rfl | rfl | rfl | rfl | rfl | rfl | rfl <;> rfl)
theorem WAt.cA_after (h:WAt F V ow w p) {i:Nat} (hi:i<p.M):w.cell? ⟨F.all,i*18+11,none⟩=some (.int .i64 ((p.mach i).after:Nat)):=h.cellA hi (k:=11) (by decide)
theorem WAt.sA_after (h:WAt F V ow w p) {i:Nat} (hi:i<p.M) (v:Nat):WAt F V ow (w.setCell ⟨F.all,i*18+11,none⟩ (.int .i64 (v:Nat))) (p.setM i { p.mach i with after:=v }) :=
 h.setA hi (k:=11) (by decide) _ _ rfl (fun j hj=>by rcases lt18 hj with rfl | rfl | rfl | rfl | rfl | rfl | rfl | rfl | rfl | rfl | rfl | rfl | rfl | rfl | rfl | rfl | rfl | rfl <;> rfl)
theorem WAt.cA_arg (h:WAt F V ow w p) {i:Nat} (hi:i<p.M):w.cell? ⟨F.all,i*18+12,none⟩=some (.int .i64 (p.mach i).arg):=h.cellA hi (k:=12) (by decide)
theorem WAt.sA_arg (h:WAt F V ow w p) {i:Nat} (hi:i<p.M) (v:Int):WAt F V ow (w.setCell ⟨F.all,i*18+12,none⟩ (.int .i64 v)) (p.setM i { p.mach i with arg:=v }) :=
 h.setA hi (k:=12) (by decide) _ _ rfl (fun j hj=>by rcases lt18 hj with rfl | rfl | rfl | rfl | rfl | rfl | rfl | rfl | rfl | rfl | rfl | rfl | rfl | rfl | rfl | rfl | rfl | rfl <;> rfl)
theorem WAt.cA_lkN (h:WAt F V ow w p) {i:Nat} (hi:i<p.M):w.cell? ⟨F.all,i*18+13,none⟩=some (.int .i64 (p.mach i).lkN):=h.cellA hi (k:=13) (by decide)
theorem WAt.sA_lkN (h:WAt F V ow w p) {i:Nat} (hi:i<p.M) (v:Int):WAt F V ow (w.setCell ⟨F.all,i*18+13,none⟩ (.int .i64 v)) (p.setM i { p.mach i with lkN:=v }) :=
 h.setA hi (k:=13) (by decide) _ _ rfl (fun j hj=>by rcases lt18 hj with rfl | rfl | rfl | rfl | rfl | rfl | rfl | rfl | rfl | rfl | rfl | rfl | rfl | rfl | rfl | rfl | rfl | rfl <;> rfl)
theorem WAt.cA_lkS (h:WAt F V ow w p) {i:Nat} (hi:i<p.M):w.cell? ⟨F.all,i*18+14,none⟩=some (.int .i64 (p.mach i).lkS):=h.cellA hi (k:=14) (by decide)
theorem WAt.sA_lkS (h:WAt F V ow w p) {i:Nat} (hi:i<p.M) (v:Int):WAt F V ow (w.setCell ⟨F.all,i*18+14,none⟩ (.int .i64 v)) (p.setM i { p.mach i with lkS:=v }) :=
 h.setA hi (k:=14) (by decide) _ _ rfl (fun j hj=>by rcases lt18 hj with rfl | rfl | rfl | rfl | rfl | rfl | rfl | rfl | rfl | rfl | rfl | rfl | rfl | rfl | rfl | rfl | rfl | rfl <;> rfl)
theorem WAt.cA_stage (h:WAt F V ow w p) {i:Nat} (hi:i<p.M):w.cell? ⟨F.all,i*18+15,none⟩=some (.int .i64 ((p.mach i).stage:Nat)):=h.cellA hi (k:=15) (by decide)
theorem WAt.sA_stage (h:WAt F V ow w p) {i:Nat} (hi:i<p.M) (v:Nat):WAt F V ow (w.setCell ⟨F.all,i*18+15,none⟩ (.int .i64 (v:Nat))) (p.setM i { p.mach i with stage:=v }) :=
 h.setA hi (k:=15) (by decide) _ _ rfl (fun j hj=>by rcases lt18 hj with rfl | rfl | rfl | rfl | rfl | rfl | rfl | rfl | rfl | rfl | rfl | rfl | rfl | rfl | rfl | rfl | rfl | rfl <;> rfl)
theorem WAt.cA_ticket (h:WAt F V ow w p) {i:Nat} (hi:i<p.M):w.cell? ⟨F.all,i*18+16,none⟩=some (.int .u64 ((p.mach i).ticket:Nat)):=h.cellA hi (k:=16) (by decide)
theorem WAt.sA_ticket (h:WAt F V ow w p) {i:Nat} (hi:i<p.M) (v:Nat):WAt F V ow (w.setCell ⟨F.all,i*18+16,none⟩ (.int .u64 (v:Nat))) (p.setM i { p.mach i with ticket:=v }) :=
 h.setA hi (k:=16) (by decide) _ _ rfl (fun j hj=>by rcases lt18 hj with rfl | rfl | rfl | rfl | rfl | rfl | rfl | rfl | rfl | rfl | rfl | rfl | rfl | rfl | rfl | rfl | rfl | rfl <;> rfl)
theorem WAt.cA_times (h:WAt F V ow w p) {i:Nat} (hi:i<p.M):w.cell? ⟨F.all,i*18+17,none⟩=some (.int .i64 (p.mach i).times):=h.cellA hi (k:=17) (by decide)
theorem WAt.sA_times (h:WAt F V ow w p) {i:Nat} (hi:i<p.M) (v:Int):WAt F V ow (w.setCell ⟨F.all,i*18+17,none⟩ (.int .i64 v)) (p.setM i { p.mach i with times:=v }) :=
 h.setA hi (k:=17) (by decide) _ _ rfl (fun j hj=>by rcases lt18 hj with rfl | rfl | rfl | rfl | rfl | rfl | rfl | rfl | rfl | rfl | rfl | rfl | rfl | rfl | rfl | rfl | rfl | rfl <;> rfl)
theorem WAt.cW_F_P (h:WAt F V ow w p):w.cell? ⟨F.W,0,none⟩=some (.int .i64 p.P):=h.cw.1 0 (by decide)
theorem WAt.cW_F_M (h:WAt F V ow w p):w.cell? ⟨F.W,1,none⟩=some (.int .i64 p.M):=h.cw.1 1 (by decide)
theorem WAt.cW_F_G (h:WAt F V ow w p):w.cell? ⟨F.W,2,none⟩=some (.int .i64 p.G):=h.cw.1 2 (by decide)
theorem WAt.cW_mem (h:WAt F V ow w p):w.cell? ⟨F.W,3,none⟩=some (.pointer (some ⟨F.mem,0,none⟩)):=h.cw.1 3 (by decide)
theorem WAt.cW_spin (h:WAt F V ow w p):w.cell? ⟨F.W,4,none⟩=some (.int .i64 ((2*(p.P+2):Nat):Int)):=h.cw.1 4 (by decide)
theorem WAt.cW_notes (h:WAt F V ow w p):w.cell? ⟨F.W,5,none⟩=some (.int .i64 ((2*(p.P+2)+1:Nat):Int)):=h.cw.1 5 (by decide)
theorem WAt.cW_from (h:WAt F V ow w p):w.cell? ⟨F.W,6,none⟩=some (.int .i64 ((2*(p.P+2)+1+p.M:Nat):Int)):=h.cw.1 6 (by decide)
theorem WAt.cW_n (h:WAt F V ow w p):w.cell? ⟨F.W,7,none⟩=some (.int .i64 p.G):=h.cw.1 7 (by decide)
theorem WAt.cW_rs (h:WAt F V ow w p):w.cell? ⟨F.W,8,none⟩=some (.slice (some ⟨F.rs,0,none⟩) p.P F.rsCap):=h.cw.1 8 (by decide)
theorem WAt.cW_turns (h:WAt F V ow w p):w.cell? ⟨F.W,9,none⟩=some (.slice (some ⟨F.turns,0,none⟩) p.P p.P):=h.cw.1 9 (by decide)
theorem WAt.cW_glob (h:WAt F V ow w p):w.cell? ⟨F.W,10,none⟩=some (.pointer (some ⟨F.glob,0,none⟩)):=h.cw.1 10 (by decide)
theorem WAt.cW_src (h:WAt F V ow w p):w.cell? ⟨F.W,11,none⟩=some (.pointer (some ⟨F.src,0,none⟩)):=h.cw.1 11 (by decide)
theorem WAt.cW_idle (h:WAt F V ow w p):w.cell? ⟨F.W,12,none⟩=some (.pointer (some ⟨F.idle,0,none⟩)):=h.cw.1 12 (by decide)
theorem WAt.cW_all (h:WAt F V ow w p):w.cell? ⟨F.W,13,none⟩=some (.slice (some ⟨F.all,0,none⟩) p.M F.allCap):=h.cw.1 13 (by decide)
theorem WAt.cW_flag (h:WAt F V ow w p):w.cell? ⟨F.W,14,none⟩=some (.slice (some ⟨F.flag,0,none⟩) p.M p.M):=h.cw.1 14 (by decide)
theorem WAt.cW_log (h:WAt F V ow w p):w.cell? ⟨F.W,15,none⟩=some (V.logV):=h.cw.1 15 (by decide)
theorem WAt.cM_ws (h:WAt F V ow w p):w.cell? ⟨F.mem,0,none⟩=some (.slice (some ⟨F.ws,0,none⟩) (nWords p.P p.M p.G) (nWords p.P p.M p.G)):=h.cmem.1 0 (by decide)
theorem WAt.cM_cnt (h:WAt F V ow w p):w.cell? ⟨F.mem,1,none⟩=some (.int .i64 p.cnt):=h.cmem.1 1 (by decide)
theorem WAt.cS (h:WAt F V ow w p) {a:Nat} (ha:a<nWords p.P p.M p.G):w.cell? ⟨F.ws,a,none⟩=some (.int .u64 (p.ld a:Nat)):=h.cws.1 a ha
theorem WAt.cT (h:WAt F V ow w p) {q:Nat} (hq:q<p.P):w.cell? ⟨F.turns,q,none⟩=some (.int .i64 (p.turns.getD q 0)):=h.cturns.1 q hq
theorem WAt.cR (h:WAt F V ow w p) {q:Nat} (hq:q<p.P):w.cell? ⟨F.rs,q,none⟩=some (.pointer (some ⟨F.ring q,0,none⟩)):=h.crs.1 q hq
theorem WAt.cF (h:WAt F V ow w p) {i:Nat} (hi:i<p.M):w.cell? ⟨F.flag,i,none⟩=some (.bool (p.fl i)):=h.cflag.1 i hi
theorem Owns.ne {ow:Nat→Nat} {P:Nat} (h:Owns F ow P):F.W≠F.mem∧F.W≠F.ws∧F.W≠F.rs∧F.W≠F.turns∧F.W≠F.all∧F.W≠F.flag∧F.mem≠F.ws∧F.mem≠F.all∧F.mem≠F.flag∧F.ws≠F.all∧F.ws≠F.flag∧F.turns≠F.all∧F.turns≠F.flag∧F.all≠F.flag∧F.turns≠F.mem∧F.turns≠F.ws∧F.rs≠F.all∧F.rs≠F.flag:=by
 obtain ⟨o1,o2,o3,o4,o5,o9,o10,_⟩:=h
 refine ⟨?_,?_,?_,?_,?_,?_,?_,?_,?_,?_,?_,?_,?_,?_,?_,?_,?_,?_⟩ <;> (intro e;have:=congrArg ow e;omega)
end
theorem zaj (p:Wd) (i:Nat) (m:Mach) (hi:i<p.all.length):(p.setM i m).mach i=m:=by rw [zdI p i i m hi,if_pos rfl]
structure On (F:Fix) (V:Vol) (ow0:Nat→Nat) (w0:World) (ow:Nat→Nat) (w:World) (p:Wd):Prop where
 at_:WAt F V ow w p
 st:Stp ow0 ow w0 w
theorem WAt.same {F:Fix} {V:Vol} {ow:Nat→Nat} {w w':World} {p:Wd} (h:WAt F V ow w p) (ow':Nat→Nat) (e:∀ b,b<w.heap.size→ow' b=ow b) (a:Agree (fun b=>ow b≠0) w w'):WAt F V ow' w' p:=by
 obtain ⟨l1,l2,l3,l4,l5⟩:=h.lens
 exact h.upd (fun _=>False) ⟨rfl,rfl,rfl⟩ ⟨l1,l2,l3,l4,l5⟩ e (a.mono fun x _ hx=>hx.1) (.inl ⟨id,rfl⟩) (.inl ⟨id,rfl⟩) (.inl ⟨id,rfl⟩) id (fun q _=>.inl ⟨id,rfl⟩)
  (.inl ⟨id,rfl⟩) (.inl ⟨id,rfl⟩) (.inl ⟨id,rfl⟩) (.inl ⟨id,rfl⟩) (.inl ⟨id,rfl,rfl⟩) (fun j _=>.inl ⟨id,rfl,rfl⟩) (.inl ⟨id,rfl⟩) (.inl ⟨id,rfl,rfl⟩)
section
variable {F:Fix} {V:Vol} {ow0 ow:Nat→Nat} {w0 w:World} {p:Wd}
theorem On.start (h:WAt F V ow w p):On F V ow w ow w p:=⟨h,Stp.refl _ _⟩
theorem On.drew (h:On F V ow0 w0 ow w p):On F V ow0 w0 ow w.drew p:=⟨h.at_.same ow (fun _ _=>rfl) ⟨Nat.le_refl _,fun _ _ _=>rfl⟩,⟨h.st.os,h.st.tape,h.st.output,h.st.size,h.st.own,h.st.block⟩⟩
theorem On.drewN (h:On F V ow0 w0 ow w p) (n:Nat):On F V ow0 w0 ow (w.drewN n) p:=⟨h.at_.same ow (fun _ _=>rfl) ⟨Nat.le_refl _,fun _ _ _=>rfl⟩,⟨h.st.os,h.st.tape,h.st.output,h.st.size,h.st.own,h.st.block⟩⟩
theorem On.below (h:On F V ow0 w0 ow w p) {w':World} (b:Below w.heap.size w w'):On F V ow0 w0 (grow ow w.heap.size 0) w' p :=
 ⟨h.at_.same _ (fun _ hb=>grow_lt hb) ⟨b.size,fun x hx _=>b.block x hx⟩,h.st.trans ⟨b.os,b.tape,b.output,b.size,fun _ hb=>grow_lt hb,fun x hx _=>b.block x hx⟩⟩
theorem On.alloc (h:On F V ow0 w0 ow w p) (o:Obj):On F V ow0 w0 (grow ow w.heap.size 0) (w.alloc o) p:=h.below (zab w o)
theorem On.other (h:On F V ow0 w0 ow w p) {a:Addr} (ha:w0.heap.size≤a.block) (ho:a.block<w.heap.size→ow a.block=0) (v:Value):On F V ow0 w0 ow (w.setCell a v) p:=by
 have hb:∀ b,b<w.heap.size→ow b≠0→(w.setCell a v).heap[b]?=w.heap[b]?:=fun b hb hx=>Below.heap_setCell w a v b (fun e=>hx (by rw [e];exact ho (e ▸ hb)))
 exact ⟨h.at_.same ow (fun _ _=>rfl) ⟨by simp,hb⟩,⟨h.st.os,h.st.tape,h.st.output,by simpa using h.st.size,h.st.own,fun b hb' hx=>(Below.heap_setCell w a v b (by omega)).trans (h.st.block b hb' hx)⟩⟩
theorem On.cast (h:On F V ow0 w0 ow w p) {p':Wd} (e:p=p'):On F V ow0 w0 ow w p':=e ▸ h
theorem On.s_place (h:On F V ow0 w0 ow w p) {i:Nat} (hi:i<p.M) (v:Nat):On F V ow0 w0 ow (w.setCell ⟨F.all,i*18,none⟩ (.int .i64 (v:Nat))) (p.setM i { p.mach i with place:=v }) :=
 ⟨h.at_.sA_place hi v,h.st.trans (zaz h.at_.own.2.2.2.2.2.1 (by decide) _ _)⟩
theorem On.s_p (h:On F V ow0 w0 ow w p) {i:Nat} (hi:i<p.M) (v:Int):On F V ow0 w0 ow (w.setCell ⟨F.all,i*18+1,none⟩ (.int .i64 v)) (p.setM i { p.mach i with p:=v }) :=
 ⟨h.at_.sA_p hi v,h.st.trans (zaz h.at_.own.2.2.2.2.2.1 (by decide) _ _)⟩
theorem On.s_g (h:On F V ow0 w0 ow w p) {i:Nat} (hi:i<p.M) (v:Int):On F V ow0 w0 ow (w.setCell ⟨F.all,i*18+2,none⟩ (.int .i64 v)) (p.setM i { p.mach i with g:=v }) :=
 ⟨h.at_.sA_g hi v,h.st.trans (zaz h.at_.own.2.2.2.2.2.1 (by decide) _ _)⟩
theorem On.s_next (h:On F V ow0 w0 ow w p) {i:Nat} (hi:i<p.M) (v:Int):On F V ow0 w0 ow (w.setCell ⟨F.all,i*18+3,none⟩ (.int .i64 v)) (p.setM i { p.mach i with next:=v }) :=
 ⟨h.at_.sA_next hi v,h.st.trans (zaz h.at_.own.2.2.2.2.2.1 (by decide) _ _)⟩
theorem On.s_got (h:On F V ow0 w0 ow w p) {i:Nat} (hi:i<p.M) (v:Int):On F V ow0 w0 ow (w.setCell ⟨F.all,i*18+4,none⟩ (.int .i64 v)) (p.setM i { p.mach i with got:=v }) :=
 ⟨h.at_.sA_got hi v,h.st.trans (zaz h.at_.own.2.2.2.2.2.1 (by decide) _ _)⟩
theorem On.s_target (h:On F V ow0 w0 ow w p) {i:Nat} (hi:i<p.M) (v:Int):On F V ow0 w0 ow (w.setCell ⟨F.all,i*18+5,none⟩ (.int .i64 v)) (p.setM i { p.mach i with target:=v }) :=
 ⟨h.at_.sA_target hi v,h.st.trans (zaz h.at_.own.2.2.2.2.2.1 (by decide) _ _)⟩
theorem On.s_i (h:On F V ow0 w0 ow w p) {i:Nat} (hi:i<p.M) (v:Int):On F V ow0 w0 ow (w.setCell ⟨F.all,i*18+6,none⟩ (.int .i64 v)) (p.setM i { p.mach i with i:=v }) :=
 ⟨h.at_.sA_i hi v,h.st.trans (zaz h.at_.own.2.2.2.2.2.1 (by decide) _ _)⟩
theorem On.s_spin (h:On F V ow0 w0 ow w p) {i:Nat} (hi:i<p.M) (v:Bool):On F V ow0 w0 ow (w.setCell ⟨F.all,i*18+7,none⟩ (.bool v)) (p.setM i { p.mach i with spin:=v }) :=
 ⟨h.at_.sA_spin hi v,h.st.trans (zaz h.at_.own.2.2.2.2.2.1 (by decide) _ _)⟩
theorem On.s_inn (h:On F V ow0 w0 ow w p) {i:Nat} (hi:i<p.M) (v:Bool):On F V ow0 w0 ow (w.setCell ⟨F.all,i*18+8,none⟩ (.bool v)) (p.setM i { p.mach i with inn:=v }) :=
 ⟨h.at_.sA_inn hi v,h.st.trans (zaz h.at_.own.2.2.2.2.2.1 (by decide) _ _)⟩
theorem On.s_back (h:On F V ow0 w0 ow w p) {i:Nat} (hi:i<p.M) (v:Nat):On F V ow0 w0 ow (w.setCell ⟨F.all,i*18+10,none⟩ (.int .i64 (v:Nat))) (p.setM i { p.mach i with back:=v }) :=
 ⟨h.at_.sA_back hi v,h.st.trans (zaz h.at_.own.2.2.2.2.2.1 (by decide) _ _)⟩
theorem On.s_after (h:On F V ow0 w0 ow w p) {i:Nat} (hi:i<p.M) (v:Nat):On F V ow0 w0 ow (w.setCell ⟨F.all,i*18+11,none⟩ (.int .i64 (v:Nat))) (p.setM i { p.mach i with after:=v }) :=
 ⟨h.at_.sA_after hi v,h.st.trans (zaz h.at_.own.2.2.2.2.2.1 (by decide) _ _)⟩
theorem On.s_arg (h:On F V ow0 w0 ow w p) {i:Nat} (hi:i<p.M) (v:Int):On F V ow0 w0 ow (w.setCell ⟨F.all,i*18+12,none⟩ (.int .i64 v)) (p.setM i { p.mach i with arg:=v }) :=
 ⟨h.at_.sA_arg hi v,h.st.trans (zaz h.at_.own.2.2.2.2.2.1 (by decide) _ _)⟩
theorem On.s_lkN (h:On F V ow0 w0 ow w p) {i:Nat} (hi:i<p.M) (v:Int):On F V ow0 w0 ow (w.setCell ⟨F.all,i*18+13,none⟩ (.int .i64 v)) (p.setM i { p.mach i with lkN:=v }) :=
 ⟨h.at_.sA_lkN hi v,h.st.trans (zaz h.at_.own.2.2.2.2.2.1 (by decide) _ _)⟩
theorem On.s_lkS (h:On F V ow0 w0 ow w p) {i:Nat} (hi:i<p.M) (v:Int):On F V ow0 w0 ow (w.setCell ⟨F.all,i*18+14,none⟩ (.int .i64 v)) (p.setM i { p.mach i with lkS:=v }) :=
 ⟨h.at_.sA_lkS hi v,h.st.trans (zaz h.at_.own.2.2.2.2.2.1 (by decide) _ _)⟩
theorem On.s_stage (h:On F V ow0 w0 ow w p) {i:Nat} (hi:i<p.M) (v:Nat):On F V ow0 w0 ow (w.setCell ⟨F.all,i*18+15,none⟩ (.int .i64 (v:Nat))) (p.setM i { p.mach i with stage:=v }) :=
 ⟨h.at_.sA_stage hi v,h.st.trans (zaz h.at_.own.2.2.2.2.2.1 (by decide) _ _)⟩
theorem On.s_ticket (h:On F V ow0 w0 ow w p) {i:Nat} (hi:i<p.M) (v:Nat):On F V ow0 w0 ow (w.setCell ⟨F.all,i*18+16,none⟩ (.int .u64 (v:Nat))) (p.setM i { p.mach i with ticket:=v }) :=
 ⟨h.at_.sA_ticket hi v,h.st.trans (zaz h.at_.own.2.2.2.2.2.1 (by decide) _ _)⟩
theorem On.s_times (h:On F V ow0 w0 ow w p) {i:Nat} (hi:i<p.M) (v:Int):On F V ow0 w0 ow (w.setCell ⟨F.all,i*18+17,none⟩ (.int .i64 v)) (p.setM i { p.mach i with times:=v }) :=
 ⟨h.at_.sA_times hi v,h.st.trans (zaz h.at_.own.2.2.2.2.2.1 (by decide) _ _)⟩
theorem On.s_flag (h:On F V ow0 w0 ow w p) {i:Nat} (hi:i<p.M) (v:Bool):On F V ow0 w0 ow (w.setCell ⟨F.flag,i,none⟩ (.bool v)) (p.setF i v) :=
 ⟨h.at_.setFl hi v,h.st.trans (zaz h.at_.own.2.2.2.2.2.2.1 (by decide) _ _)⟩
theorem On.s_turn (h:On F V ow0 w0 ow w p) {q:Nat} (hq:q<p.P) (t:Int):On F V ow0 w0 ow (w.setCell ⟨F.turns,q,none⟩ (.int .i64 t)) { p with turns:=p.turns.set q t } :=
 ⟨h.at_.setTurn hq t,h.st.trans (zaz h.at_.own.2.2.2.2.1 (by decide) _ _)⟩
theorem On.s_acc (h:On F V ow0 w0 ow w p):On F V ow0 w0 ow (w.setCell ⟨F.mem,1,none⟩ (.int .i64 (wrap64 (p.cnt+1)))) p.acc :=
 ⟨h.at_.accd,h.st.trans (zaz h.at_.own.2.1 (by decide) _ _)⟩
theorem On.s_word (h:On F V ow0 w0 ow w p) {a:Nat} (ha:a<nWords p.P p.M p.G) (v:Int) (x:Nat) (e:v=x) (hx:x<18446744073709551616):On F V ow0 w0 ow (w.setCell ⟨F.ws,a,none⟩ (.int .u64 v)) { p with ws:=p.ws.set a x }:=by
 subst e
 exact ⟨h.at_.word ha x hx,h.st.trans (zaz h.at_.own.2.2.1 (by decide) _ _)⟩
end
theorem setM_id (p:Wd) (i:Nat) (hi:i<p.all.length):p.setM i (p.mach i)=p:=by
 unfold Wd.setM Wd.mach
 have:p.all.set i (p.all.getD i Mach.fresh)=p.all:=by
  apply List.ext_getElem? ;intro j
  by_cases e:j=i
  ·subst e;simp [List.getD_eq_getElem?_getD,hi]
  ·rw [List.getElem?_set_ne (Ne.symm e)]
 rw [this]
structure OnM (F:Fix) (V:Vol) (ow0:Nat→Nat) (w0:World) (ow:Nat→Nat) (w:World) (p:Wd) (i:Nat) (m:Mach):Prop where
 on:On F V ow0 w0 ow w (p.setM i m)
 hi:i<p.M
section
variable {F:Fix} {V:Vol} {ow0 ow:Nat→Nat} {w0 w:World} {p:Wd} {i:Nat} {m:Mach}
theorem OnM.len (h:OnM F V ow0 w0 ow w p i m):i<p.all.length:=by
 have:=h.on.at_.lens.2.2.1
 have h2:=h.hi
 have h3:(p.setM i m).all.length=p.all.length:=by simp [Wd.setM]
 have h4:(p.setM i m).M=p.M:=rfl
 omega
theorem OnM.start (h:WAt F V ow w p) (hi:i<p.M):OnM F V ow w ow w p i (p.mach i):=⟨by rw [setM_id p i (by rw [h.lens.2.2.1];exact hi)];exact On.start h,hi⟩
theorem OnM.of_on (h:On F V ow0 w0 ow w p) (hi:i<p.M):OnM F V ow0 w0 ow w p i (p.mach i):=⟨by rw [setM_id p i (by rw [h.at_.lens.2.2.1];exact hi)];exact h,hi⟩
theorem OnM.drew (h:OnM F V ow0 w0 ow w p i m):OnM F V ow0 w0 ow w.drew p i m:=⟨h.on.drew,h.hi⟩
theorem OnM.drewN (h:OnM F V ow0 w0 ow w p i m) (n:Nat):OnM F V ow0 w0 ow (w.drewN n) p i m:=⟨h.on.drewN n,h.hi⟩
theorem OnM.below (h:OnM F V ow0 w0 ow w p i m) {w':World} (b:Below w.heap.size w w'):OnM F V ow0 w0 (grow ow w.heap.size 0) w' p i m:=⟨h.on.below b,h.hi⟩
theorem OnM.alloc (h:OnM F V ow0 w0 ow w p i m) (o:Obj):OnM F V ow0 w0 (grow ow w.heap.size 0) (w.alloc o) p i m:=⟨h.on.alloc o,h.hi⟩
theorem OnM.other (h:OnM F V ow0 w0 ow w p i m) {a:Addr} (ha:w0.heap.size≤a.block) (ho:a.block<w.heap.size→ow a.block=0) (v:Value):OnM F V ow0 w0 ow (w.setCell a v) p i m:=⟨h.on.other ha ho v,h.hi⟩
theorem OnM.fin (h:OnM F V ow0 w0 ow w p i m) {p':Wd} (e:p.setM i m=p'):On F V ow0 w0 ow w p':=e ▸ h.on
theorem OnM.s_place (h:OnM F V ow0 w0 ow w p i m) (v:Nat):OnM F V ow0 w0 ow (w.setCell ⟨F.all,i*18,none⟩ (.int .i64 (v:Nat))) p i { m with place:=v } :=
 ⟨(h.on.s_place h.hi v).cast (by rw [zaj p i m h.len,zao]),h.hi⟩
theorem OnM.s_p (h:OnM F V ow0 w0 ow w p i m) (v:Int):OnM F V ow0 w0 ow (w.setCell ⟨F.all,i*18+1,none⟩ (.int .i64 v)) p i { m with p:=v } :=
 ⟨(h.on.s_p h.hi v).cast (by rw [zaj p i m h.len,zao]),h.hi⟩
theorem OnM.s_g (h:OnM F V ow0 w0 ow w p i m) (v:Int):OnM F V ow0 w0 ow (w.setCell ⟨F.all,i*18+2,none⟩ (.int .i64 v)) p i { m with g:=v } :=
 ⟨(h.on.s_g h.hi v).cast (by rw [zaj p i m h.len,zao]),h.hi⟩
theorem OnM.s_next (h:OnM F V ow0 w0 ow w p i m) (v:Int):OnM F V ow0 w0 ow (w.setCell ⟨F.all,i*18+3,none⟩ (.int .i64 v)) p i { m with next:=v } :=
 ⟨(h.on.s_next h.hi v).cast (by rw [zaj p i m h.len,zao]),h.hi⟩
theorem OnM.s_got (h:OnM F V ow0 w0 ow w p i m) (v:Int):OnM F V ow0 w0 ow (w.setCell ⟨F.all,i*18+4,none⟩ (.int .i64 v)) p i { m with got:=v } :=
 ⟨(h.on.s_got h.hi v).cast (by rw [zaj p i m h.len,zao]),h.hi⟩
theorem OnM.s_target (h:OnM F V ow0 w0 ow w p i m) (v:Int):OnM F V ow0 w0 ow (w.setCell ⟨F.all,i*18+5,none⟩ (.int .i64 v)) p i { m with target:=v } :=
 ⟨(h.on.s_target h.hi v).cast (by rw [zaj p i m h.len,zao]),h.hi⟩
theorem OnM.s_i (h:OnM F V ow0 w0 ow w p i m) (v:Int):OnM F V ow0 w0 ow (w.setCell ⟨F.all,i*18+6,none⟩ (.int .i64 v)) p i { m with i:=v } :=
 ⟨(h.on.s_i h.hi v).cast (by rw [zaj p i m h.len,zao]),h.hi⟩
theorem OnM.s_spin (h:OnM F V ow0 w0 ow w p i m) (v:Bool):OnM F V ow0 w0 ow (w.setCell ⟨F.all,i*18+7,none⟩ (.bool v)) p i { m with spin:=v } :=
 ⟨(h.on.s_spin h.hi v).cast (by rw [zaj p i m h.len,zao]),h.hi⟩
theorem OnM.s_inn (h:OnM F V ow0 w0 ow w p i m) (v:Bool):OnM F V ow0 w0 ow (w.setCell ⟨F.all,i*18+8,none⟩ (.bool v)) p i { m with inn:=v } :=
 ⟨(h.on.s_inn h.hi v).cast (by rw [zaj p i m h.len,zao]),h.hi⟩
theorem OnM.s_back (h:OnM F V ow0 w0 ow w p i m) (v:Nat):OnM F V ow0 w0 ow (w.setCell ⟨F.all,i*18+10,none⟩ (.int .i64 (v:Nat))) p i { m with back:=v } :=
 ⟨(h.on.s_back h.hi v).cast (by rw [zaj p i m h.len,zao]),h.hi⟩
theorem OnM.s_after (h:OnM F V ow0 w0 ow w p i m) (v:Nat):OnM F V ow0 w0 ow (w.setCell ⟨F.all,i*18+11,none⟩ (.int .i64 (v:Nat))) p i { m with after:=v } :=
 ⟨(h.on.s_after h.hi v).cast (by rw [zaj p i m h.len,zao]),h.hi⟩
theorem OnM.s_arg (h:OnM F V ow0 w0 ow w p i m) (v:Int):OnM F V ow0 w0 ow (w.setCell ⟨F.all,i*18+12,none⟩ (.int .i64 v)) p i { m with arg:=v } :=
 ⟨(h.on.s_arg h.hi v).cast (by rw [zaj p i m h.len,zao]),h.hi⟩
theorem OnM.s_lkN (h:OnM F V ow0 w0 ow w p i m) (v:Int):OnM F V ow0 w0 ow (w.setCell ⟨F.all,i*18+13,none⟩ (.int .i64 v)) p i { m with lkN:=v } :=
 ⟨(h.on.s_lkN h.hi v).cast (by rw [zaj p i m h.len,zao]),h.hi⟩
theorem OnM.s_lkS (h:OnM F V ow0 w0 ow w p i m) (v:Int):OnM F V ow0 w0 ow (w.setCell ⟨F.all,i*18+14,none⟩ (.int .i64 v)) p i { m with lkS:=v } :=
 ⟨(h.on.s_lkS h.hi v).cast (by rw [zaj p i m h.len,zao]),h.hi⟩
theorem OnM.s_stage (h:OnM F V ow0 w0 ow w p i m) (v:Nat):OnM F V ow0 w0 ow (w.setCell ⟨F.all,i*18+15,none⟩ (.int .i64 (v:Nat))) p i { m with stage:=v } :=
 ⟨(h.on.s_stage h.hi v).cast (by rw [zaj p i m h.len,zao]),h.hi⟩
theorem OnM.s_ticket (h:OnM F V ow0 w0 ow w p i m) (v:Nat):OnM F V ow0 w0 ow (w.setCell ⟨F.all,i*18+16,none⟩ (.int .u64 (v:Nat))) p i { m with ticket:=v } :=
 ⟨(h.on.s_ticket h.hi v).cast (by rw [zaj p i m h.len,zao]),h.hi⟩
theorem OnM.s_times (h:OnM F V ow0 w0 ow w p i m) (v:Int):OnM F V ow0 w0 ow (w.setCell ⟨F.all,i*18+17,none⟩ (.int .i64 v)) p i { m with times:=v } :=
 ⟨(h.on.s_times h.hi v).cast (by rw [zaj p i m h.len,zao]),h.hi⟩
theorem OnM.s_flag (h:OnM F V ow0 w0 ow w p i m) {j:Nat} (hj:j<p.M) (v:Bool):OnM F V ow0 w0 ow (w.setCell ⟨F.flag,j,none⟩ (.bool v)) (p.setF j v) i m:=⟨h.on.s_flag hj v,h.hi⟩
theorem OnM.s_turn (h:OnM F V ow0 w0 ow w p i m) {q:Nat} (hq:q<p.P) (t:Int):OnM F V ow0 w0 ow (w.setCell ⟨F.turns,q,none⟩ (.int .i64 t)) { p with turns:=p.turns.set q t } i m:=⟨h.on.s_turn hq t,h.hi⟩
theorem OnM.s_acc (h:OnM F V ow0 w0 ow w p i m):OnM F V ow0 w0 ow (w.setCell ⟨F.mem,1,none⟩ (.int .i64 (wrap64 (p.cnt+1)))) p.acc i m:=⟨h.on.s_acc,h.hi⟩
theorem OnM.s_word (h:OnM F V ow0 w0 ow w p i m) {a:Nat} (ha:a<nWords p.P p.M p.G) (v:Int) (x:Nat) (e:v=x) (hx:x<18446744073709551616):OnM F V ow0 w0 ow (w.setCell ⟨F.ws,a,none⟩ (.int .u64 v)) { p with ws:=p.ws.set a x } i m:=⟨h.on.s_word ha v x e hx,h.hi⟩
end
end Go.Proofs.YtlmmjgekolpekaaGreatDoor
