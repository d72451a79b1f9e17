/- Parts of the proof. -/
import Derived.Test.YtlmmjgekolpekaaGreatDoorMPq10
set_option linter.unusedVariables false
set_option linter.unusedSimpArgs false
set_option linter.unusedSectionVars false
set_option maxRecDepth 100000
set_option maxHeartbeats 6400000
namespace Go.Proofs.YtlmmjgekolpekaaGreatDoor
open Go Go.RowKit Hst Go.Proofs
theorem ttake_no (tB lB P:Nat) (hs:Nat→List Ent) (hv:Nat→Value) (now:Int) (w:World) (h:TimH w tB lB P hs hv) (hd:dueB hs now (bestH hs P)=false) :
  Calls Tryz.prog 231 #[.pointer (some ⟨tB,0,none⟩),.int .i64 now] w fun e w'=>e=.returned (.tuple #[entV ent0,.bool false])∧Below w.heap.size w w':=by
 have hn:=fun o=>tdue_any tB lB P hs hv now (w.alloc o) (h.below (zab w o))
 rw [hd] at hn
 have HN:=Lib.hid hn
 clear hn h hd
 unfold entV ent0
 go_enter Tryz.func231,Tryz.ntmps231
 go_wp2_with fail
 refine (HN.out _).mono ?_
 rintro e w1 ⟨rfl,b1⟩
 have hx:=(b1.block w.heap.size (by simp)).trans (heap_alloc_new w _)
 have l0:=zaa hx 0
 have l1:=zaa hx 1
 have l2:=zaa hx 2
 simp at l0 l1 l2
 have fW:∀ o,w1.frozen? ⟨w.heap.size,o,none⟩=false:=fun o=>by simp [World.frozen?,hx]
 have K:=(zab w _).trans (b1.mono (by simp:w.heap.size≤_))
 have HX:=Lib.hid hx
 have HK:=Lib.hid K
 clear b1 hx K
 go_wp2_with fail
 refine zdl (fun W=>W.heap[w.heap.size]?=some (.cells #[.int .i64 0,.int .u64 0,.int .i64 0] 245 (0,0))∧Below w.heap.size w W) ?_ ?_
 ·have e1:=heap_setCell_same _ _ 0 _ _ (.int .i64 0) HX.out
  have e2:=heap_setCell_same _ _ 1 _ _ (.int .u64 0) e1
  have e3:=heap_setCell_same _ _ 2 _ _ (.int .i64 0) e2
  exact ⟨e3,(((HK.out).setCell (p:=⟨w.heap.size,0,none⟩) (Nat.le_refl _) _).setCell (p:=⟨w.heap.size,1,none⟩) (Nat.le_refl _) _).setCell (p:=⟨w.heap.size,2,none⟩) (Nat.le_refl _) _⟩
 rintro W ⟨g1,gK⟩
 have t0:=zaa g1 0
 have t1:=zaa g1 1
 have t2:=zaa g1 2
 simp at t0 t1 t2
 apply bodyPost_ret (v:=.tuple #[.agg #[.int .i64 0,.int .u64 0,.int .i64 0],.bool false])
 ·simp [results,Tryz.results231,go_sem,t0,t1,t2]
 ·rfl
 exact ⟨rfl,gK⟩
section
variable {w:World} {tB lB hB P:Nat} {hs:Nat→List Ent} {hv:Nat→Value} {hl:List (Int × Value)}
theorem thas_any (t2:w.cell? ⟨tB,2,none⟩=some (.map (some hB))) (hm:IMap .i64 w hB hl) (hN:(hl.map (·.1)).Nodup) (hU:∀ p,p∈hl→p.2=.agg #[]) (g:Int) :
  Calls Tryz.prog 92 #[.pointer (some ⟨tB,0,none⟩),.int .i64 g] w fun e w'=>e=.returned (.bool (zen hl g).isSome)∧Below w.heap.size w w':=by
 have hlk:=IMap.lookOk (P:=Tryz.prog) Tryz.underlying201 Tryz.underlying3 Tryz.zeroValue198 hm hN g
 have hv:(zen hl g).getD (.agg #[])=.agg #[]:=by
  cases h:zen hl g with
  | none=>rfl
  | some v=>exact hU _ (zcF h)
 rw [hv] at hlk
 generalize (zen hl g).isSome=b at hlk ⊢
 clear hm hN hU hv
 go_enter Tryz.func92,Tryz.ntmps92
 go_wp2
 go_returns
 exact ⟨rfl,by go_grown⟩
theorem tadd_ok (h:TimH w tB lB P hs hv) (order:Nat) (t1:w.cell? ⟨tB,1,none⟩=some (.int .u64 (order:Nat))) (t2:w.cell? ⟨tB,2,none⟩=some (.map (some hB))) (hm:IMap .i64 w hB hl) (hN:(hl.map (·.1)).Nodup) (hU:∀ p,p∈hl→p.2=.agg #[])
  (fr:(∀ o,w.frozen? ⟨tB,o,none⟩=false)∧∀ o,w.frozen? ⟨lB,o,none⟩=false) (hne:tB≠lB∧hB≠tB∧hB≠lB) (hap:∀ k,k<P→(hv k).ownBlock≠some tB∧(hv k).ownBlock≠some lB∧(hv k).ownBlock≠some hB)
  (q:Nat) (g t:Int) (hq:q<P) (hg:0≤g∧g<4096) (ho:order<9223372036854775808) (hno:zen hl g=none) (hbig:(hs q).length<65536) :
  Calls Tryz.prog 248 #[.pointer (some ⟨tB,0,none⟩),.int .i64 q,.int .i64 g,.int .i64 t] w fun e w'=>e=.returned (.int .i64 0) ∧
   ∃ b cap,b≠lB∧((hv q).ownBlock=some b∨w.heap.size≤b)∧w'.cell? ⟨lB,q,none⟩=some (.slice (some ⟨b,0,none⟩) ((hs q).length+1) cap)∧RowE w' b cap (upE ((hs q).length+1) (hs q++[⟨t,order,g⟩]) (hs q).length) ∧
    (∀ o,o≠q→w'.cell? ⟨lB,o,none⟩=w.cell? ⟨lB,o,none⟩)∧w'.cell? ⟨tB,1,none⟩=some (.int .u64 ((order+1:Nat):Int))∧(∀ o,o≠1→w'.cell? ⟨tB,o,none⟩=w.cell? ⟨tB,o,none⟩)∧((∀ o,w'.frozen? ⟨tB,o,none⟩=false)∧∀ o,w'.frozen? ⟨lB,o,none⟩=false)∧IMap .i64 w' hB (zeB hl g (.agg #[])) ∧
    Mod (fun x=>(hv q).ownBlock=some x∨x=lB∨x=tB∨x=hB) w w':=by
 have hHas:=thas_any t2 hm hN hU g
 rw [hno] at hHas
 have ltB:=World.block_lt_of_cell? w _ t2
 have llB:=World.block_lt_of_cell? w _ (h.l q hq)
 simp only at ltB llB
 have hput:=fun (w1:World) (hb:Below w.heap.size w w1)=>hput_any lB q (hv q) (hs q) ⟨t,order,g⟩ w1 hbig (fun o=>(World.frozen?_of_block (a:=⟨lB,o,none⟩) (hb.block lB llB)).trans (fr.2 o)) ((below_cell hb llB).trans (h.l q hq)) (za7 (h.rows q hq) hb) (hap q hq).2.1
 have t0:=h.t0
 have hP:=h.le
 have g0:¬ g<0:=by omega
 have g1:¬ 4096≤g:=by omega
 have q0:¬ (q:Int)<0:=by omega
 have q1:¬ (P:Int)≤(q:Int):=by omega
 have q2:(q:Int)<(P:Int):=by omega
 have HH:=Lib.hid hHas
 have HP:=Lib.hid hput
 have HM:=Lib.hid hm
 have HN:=Lib.hid hN
 have HNE:=Lib.hid hne
 have HAP:=Lib.hid (hap q hq)
 have FR:=Lib.hid fr
 clear hHas hput hm hN hne hap hU h fr
 unfold entV at HP
 go_enter Tryz.func248,Tryz.ntmps248
 go_wp2_with fail
 refine HH.out.mono ?_
 rintro e w1 ⟨rfl,b1⟩
 have t01:=(below_cell (o:=0) b1 ltB).trans t0
 have t11:=(below_cell (o:=1) b1 ltB).trans t1
 have t21:=(below_cell (o:=2) b1 ltB).trans t2
 have hm1:=HM.out.congr (zaJ b1 HM.out.lt)
 have B1:=Lib.hid b1
 have HM1:=Lib.hid hm1
 clear t0 t1 t2 b1 hm1
 go_wp2_with fail
 go_still_tail 13,(by kernel_rfl)
 change wpList _ _ _ _ _ w1.drew
 go_wp2_with fail
 refine (HP.out w1.drew ⟨B1.out.os,B1.out.tape,B1.out.output,B1.out.size,B1.out.block⟩).mono ?_
 rintro e w2 ⟨rfl,b,cap,hbl,hbs,hfz,hcb,hrow,hoth,hmod⟩
 have FZ:=Lib.hid hfz
 clear hfz
 have hbs:(hv q).ownBlock=some b∨w.heap.size≤b:=hbs.imp id fun e=>Nat.le_trans B1.out.size e
 have s1:w2.cell? ⟨tB,1,none⟩=some (.int .u64 (order:Nat)):=hmod.cell (a:=⟨tB,1,none⟩) (fun e=>by rcases e with e | e;exact HAP.out.1 e;exact HNE.out.1 e) t11
 have s2:w2.cell? ⟨tB,2,none⟩=some (.map (some hB)):=hmod.cell (a:=⟨tB,2,none⟩) (fun e=>by rcases e with e | e;exact HAP.out.1 e;exact HNE.out.1 e) t21
 have hm2:=(HM1.out.same (w':=w1.drew) rfl).congr (hmod.block hB HM1.out.lt (fun e=>by rcases e with e | e;exact HAP.out.2.2 e;exact HNE.out.2.2 e))
 have f2:∀ o,w2.frozen? ⟨tB,o,none⟩=false:=fun o=>(World.frozen?_of_block (w:=w1.drew) (a:=⟨tB,o,none⟩) (hmod.block tB (Nat.lt_of_lt_of_le ltB B1.out.size) (fun e=>by rcases e with e | e;exact HAP.out.1 e;exact HNE.out.1 e))).trans ((World.frozen?_of_block (w:=w) (a:=⟨tB,o,none⟩) (B1.out.block tB ltB)).trans (FR.out.1 o))
 obtain ⟨w3,hput,hm3,hmod3⟩:=IMap.put (P:=Tryz.prog) (mty:=201) (w:=w2.setCell ⟨tB,1,none⟩ (.int .u64 ((order:Int)+1))) Tryz.underlying201 Tryz.underlying3 (hm2.congr (Below.heap_setCell _ ⟨tB,1,none⟩ _ hB HNE.out.2.1)) HN.out g (.agg #[])
 have w1o:IntKind.u64.wrap ((order:Int)+1)=(order:Int)+1:=by rw [IntKind.wrap_u64];omega
 have X:=Lib.hid (And.intro hbl (And.intro hbs (And.intro hrow (And.intro hoth hmod))))
 have X3:=Lib.hid (And.intro hm3 hmod3)
 clear hbl hbs hrow hoth hmod hm2 hm3 hmod3
 go_wp2_with fail
 go_returns
 obtain ⟨hbl,hbs,hrow,hoth,hmod⟩:=X.out
 obtain ⟨hm3,hmod3⟩:=X3.out
 have lt2:tB<w2.heap.size:=Nat.lt_of_lt_of_le (Nat.lt_of_lt_of_le ltB B1.out.size) hmod.size
 have ll2:lB<w2.heap.size:=Nat.lt_of_lt_of_le (Nat.lt_of_lt_of_le llB B1.out.size) hmod.size
 have hb2:b<w2.heap.size:=by
  have:=(hrow.get 0 (by rw [upE_len];simp)).1
  exact World.block_lt_of_cell? _ _ this
 have hbt:b≠tB:=fun e=>by rcases hbs with h | h;exact HAP.out.1 (by rw [h,e]);omega
 have hbh:b≠hB:=fun e=>by rcases hbs with h | h;exact HAP.out.2.2 (by rw [h,e]);have:=HM.out.lt;omega
 have c3:∀ x,x≠hB→x≠tB→x<w2.heap.size→w3.heap[x]?=w2.heap[x]?:=fun x h1 h2 hl=>(hmod3.block x (by simpa using hl) h1).trans (Below.heap_setCell _ ⟨tB,1,none⟩ _ x h2)
 have t3:∀ o,w3.cell? ⟨tB,o,none⟩=(w2.setCell ⟨tB,1,none⟩ (.int .u64 ((order:Int)+1))).cell? ⟨tB,o,none⟩:=fun o=>zch (hmod3.block tB (by simpa using lt2) HNE.out.2.1.symm)
 have t2o:∀ o,w2.cell? ⟨tB,o,none⟩=w.cell? ⟨tB,o,none⟩:=fun o=>(zch (hmod.block tB (Nat.lt_of_lt_of_le ltB B1.out.size) (fun e=>by rcases e with e | e;exact HAP.out.1 e;exact HNE.out.1 e))).trans (below_cell B1.out ltB)
 refine ⟨rfl,b,cap,hbl,hbs,?_,hrow.same (c3 b hbh hbt hb2),fun o ho=>?_,?_,fun o ho=>?_,⟨fun o=>?_,fun o=>?_⟩,hm3,?_⟩
 ·exact (zch (c3 lB HNE.out.2.2.symm HNE.out.1.symm ll2)).trans hcb
 ·exact (zch (c3 lB HNE.out.2.2.symm HNE.out.1.symm ll2)).trans ((hoth o ho).trans (below_cell B1.out llB))
 ·rw [t3 1]
  exact World.cell?_setCell_same _ _ _ s1
 ·rw [t3 o]
  exact (World.cell?_setCell_other _ ⟨tB,1,none⟩ ⟨tB,o,none⟩ _ (by intro e;injection e with _ e2 _;exact ho e2.symm)).trans (t2o o)
 ·exact (zc6 (hmod3.block tB (by simpa using lt2) HNE.out.2.1.symm)).trans (by rw [World.frozen?_setCell];exact f2 o)
 ·exact (zc6 (c3 lB HNE.out.2.2.symm HNE.out.1.symm ll2)).trans (FZ.out o)
 ·have m1:Mod (fun x=>(hv q).ownBlock=some x∨x=lB∨x=tB∨x=hB) w w2:=(Mod.of_below B1.out _).trans1 ((Mod.refl _ w1).drew.trans1 (hmod.mono fun x _ e=>e.imp id .inl))
  exact (m1.setCell (.inl (.inr (.inr (.inl rfl)))) _).trans1 (hmod3.mono fun x _ e=>.inr (.inr (.inr e)))
end
section
variable {w:World} {tB lB hB P:Nat} {hs:Nat→List Ent} {hv:Nat→Value} {hl:List (Int × Value)}
theorem row_ent {w:World} {v:Value} {l:List Ent} (h:w.ownsRow 0 245 3 v l.length (zeg l)) (hl:¬ l.length=0):∃ g cap,v=.slice (some ⟨g,0,none⟩) l.length cap∧l.length≤cap∧v.ownBlock=some g:=by
 rcases h.2 with ⟨rfl,hz⟩ | ⟨g,cap,cur,hv,_,hg,hcap,hm,_⟩
 ·exact absurd hz hl
 ·exact ⟨g,cap,hv,hcap,by rw [hv];rfl⟩
theorem ttake_yes (h:TimH w tB lB P hs hv) (t2:w.cell? ⟨tB,2,none⟩=some (.map (some hB))) (hm:IMap .i64 w hB hl) (hN:(hl.map (·.1)).Nodup)
  (fr:∀ o,w.frozen? ⟨lB,o,none⟩=false) (hne:tB≠lB∧hB≠tB∧hB≠lB) (hap:∀ k,k<P→(hv k).ownBlock≠some tB∧(hv k).ownBlock≠some lB∧(hv k).ownBlock≠some hB)
  (q:Nat) (now:Int) (hq:bestH hs P=some q) (hd:(hdE (hs q)).whenT≤now) :
  Calls Tryz.prog 231 #[.pointer (some ⟨tB,0,none⟩),.int .i64 now] w fun e w'=>e=.returned (.tuple #[entV (hdE (hs q)),.bool true]) ∧
   ∃ b cap f,(hv q).ownBlock=some b∧(zep (hs q)).length≤f∧w'.cell? ⟨lB,q,none⟩=some (.slice (some ⟨b,0,none⟩) (zep (hs q)).length cap)∧RowE w' b cap (downE f (zep (hs q)) 0) ∧
    (∀ o,o≠q→w'.cell? ⟨lB,o,none⟩=w.cell? ⟨lB,o,none⟩)∧(∀ o,w'.frozen? ⟨lB,o,none⟩=false)∧IMap .i64 w' hB (hl.filter fun p=>decide (p.1≠(hdE (hs q)).g))∧Mod (fun x=>(hv q).ownBlock=some x∨x=lB∨x=hB) w w':=by
 have hqP:=zbR hs P q hq
 have hdue:=fun o=>tdue_any tB lB P hs hv now (w.alloc o) (h.below (zab w o))
 rw [hq,show dueB hs now (some q)=true from decide_eq_true hd] at hdue
 have hfst:=fun (w1:World) (hb:Below w.heap.size w w1)=>(let T:=h.below hb;zdV tB lB P hs hv w1 T.le T.t0 T.l T.rows T.big)
 rw [hq] at hfst
 simp only [bestV] at hfst
 obtain ⟨b,cap,hvq,hcap,hbo⟩:=row_ent (h.rows q hqP.1) hqP.2
 have hapq:=hap q hqP.1
 have llB:=World.block_lt_of_cell? w _ (h.l q hqP.1)
 have ltB:=World.block_lt_of_cell? w _ t2
 simp only at llB ltB
 have htk:=fun (w1:World) (hb:Below w.heap.size w w1)=>htake_yes lB q b cap (hs q) w1 (Nat.pos_of_ne_zero hqP.2) (h.big q hqP.1) hcap (fun e=>hapq.2.1 (by rw [hbo,e])) ((World.frozen?_of_block (a:=⟨lB,q,none⟩) (hb.block lB llB)).trans (fr q)) (by rw [← hvq];exact (below_cell hb llB).trans (h.l q hqP.1)) (by have:=za7 (h.rows q hqP.1) hb;rw [hvq] at this;exact this)
 have hbw:b<w.heap.size:=((h.rows q hqP.1).lt b hbo).2
 obtain ⟨x,hx⟩:∃ x,x=hdE (hs q):=⟨_,rfl⟩
 have hx2:(hs q).getD 0 ent0=x:=hx.symm
 rw [hx2] at htk
 rw [← hx]
 have HD:=Lib.hid hdue
 have HF:=Lib.hid hfst
 have HT:=Lib.hid htk
 have HM:=Lib.hid hm
 have HN:=Lib.hid hN
 have HNE:=Lib.hid hne
 have HAP:=Lib.hid hapq
 have HBO:=Lib.hid hbo
 have HQ:=Lib.hid hqP
 have FRZ:=Lib.hid fr
 clear hdue hfst htk hm hN hne hapq hap hbo hcap hvq hx hx2 hqP h hq hd fr
 unfold entV at HT ⊢
 go_enter Tryz.func231,Tryz.ntmps231
 go_wp2_with fail
 refine (HD.out _).mono ?_
 rintro e w1 ⟨rfl,b1⟩
 have K1:=Lib.hid ((zab w _).trans (b1.mono (by simp:w.heap.size≤_)))
 have rb:w1.heap[w.heap.size]?=some (.cells #[.int .i64 0,.int .u64 0,.int .i64 0] 245 (0,0)):=(b1.block w.heap.size (by simp)).trans (heap_alloc_new w _)
 have hs1:w.heap.size<w1.heap.size:=by have:=b1.size;simp at this;omega
 have RB:=Lib.hid rb
 clear b1 rb
 go_wp2_with fail
 refine (HF.out w1 K1.out).mono ?_
 rintro e w2 ⟨rfl,b2⟩
 have K2:=Lib.hid (K1.out.trans (b2.mono K1.out.size))
 have rb2:w2.heap[w.heap.size]?=some (.cells #[.int .i64 0,.int .u64 0,.int .i64 0] 245 (0,0)):=(b2.block w.heap.size hs1).trans RB.out
 have hs2:w.heap.size<w2.heap.size:=Nat.lt_of_lt_of_le hs1 b2.size
 have RB2:=Lib.hid rb2
 clear b2 rb2
 go_wp2_with fail
 refine (HT.out w2 K2.out).mono ?_
 rintro e w3 ⟨rfl,hcq,⟨f,hf,hrow⟩,hoth,hfz,hmod⟩
 have ltb2:tB<w2.heap.size:=Nat.lt_trans ltB hs2
 have hbt:b≠tB:=fun e=>HAP.out.1 (by rw [HBO.out,e])
 have hbh:b≠hB:=fun e=>HAP.out.2.2 (by rw [HBO.out,e])
 have s2:w3.cell? ⟨tB,2,none⟩=some (.map (some hB)):=hmod.cell (a:=⟨tB,2,none⟩) (fun e=>by rcases e with e | e;exact hbt e.symm;exact HNE.out.1 e) ((below_cell K2.out ltB).trans t2)
 have hm3:=(HM.out.congr (zaJ K2.out HM.out.lt)).congr (hmod.block hB (Nat.lt_trans HM.out.lt hs2) (fun e=>by rcases e with e | e;exact hbh e.symm;exact HNE.out.2.2 e))
 have rb3:w3.heap[w.heap.size]?=some (.cells #[.int .i64 0,.int .u64 0,.int .i64 0] 245 (0,0)):=(hmod.block w.heap.size hs2 (fun e=>by
  rcases e with e | e
  ·omega
  ·omega)).trans RB2.out
 have hs3:w.heap.size<w3.heap.size:=Nat.lt_of_lt_of_le hs2 hmod.size
 have hmw:Mod (fun y=>y=b∨y=lB) w w3:=(Mod.of_below K2.out _).trans1 hmod
 have hcqw:∀ o,o≠q→w3.cell? ⟨lB,o,none⟩=w.cell? ⟨lB,o,none⟩:=fun o ho=>(hoth o ho).trans (below_cell K2.out llB)
 have hfz3:∀ o,w3.frozen? ⟨lB,o,none⟩=false:=fun o=>(hfz o).trans ((World.frozen?_of_block (a:=⟨lB,o,none⟩) (K2.out.block lB llB)).trans (FRZ.out o))
 have FZ3:=Lib.hid hfz3
 clear hfz hfz3
 have hb3:b<w3.heap.size:=by omega
 have hl3:lB<w3.heap.size:=by omega
 have ht3:tB<w3.heap.size:=by omega
 have hB3:=hm3.lt
 have X:=Lib.hid (And.intro hcq (And.intro hf (And.intro hrow (And.intro hcqw hmw))))
 have M3:=Lib.hid hm3
 have RB3:=Lib.hid rb3
 clear hcq hf hrow hoth hmod hmw hcqw hm3 rb3
 go_wp2_with fail
 refine zaT (fun W=>Below w3.heap.size w3 W∧W.heap[w3.heap.size]?=some (.cells #[.int .i64 x.whenT,.int .u64 (x.order:Nat),.int .i64 x.g] 245 (0,0))) ⟨zab w3 _,heap_alloc_new w3 _⟩ ?_
 rintro W ⟨gB,gx⟩
 have y0:=zaa gx 0
 have y1:=zaa gx 1
 have y2:=zaa gx 2
 simp at y0 y1 y2
 have s2W:=(below_cell (o:=2) gB ht3).trans s2
 obtain ⟨w4,hdel,hm4,hmod4⟩:=IMap.delete (P:=Tryz.prog) (ty:=0) (mty:=201) (w:=W.drew) Tryz.underlying201 Tryz.underlying3 ((M3.out.congr (zaJ gB hB3)).same (w':=W.drew) rfl) HN.out x.g
 have zx:w4.heap[w3.heap.size]?=some (.cells #[.int .i64 x.whenT,.int .u64 (x.order:Nat),.int .i64 x.g] 245 (0,0)):=(hmod4.block w3.heap.size (zaB gx) (by show ¬ w3.heap.size=hB;omega)).trans gx
 have zb:w4.heap[w.heap.size]?=some (.cells #[.int .i64 0,.int .u64 0,.int .i64 0] 245 (0,0)):=(hmod4.block w.heap.size (Nat.lt_of_lt_of_le hs3 gB.size) (by have:=HM.out.lt;show ¬ w.heap.size=hB;omega)).trans ((gB.block w.heap.size hs3).trans RB3.out)
 have u0:=zaa zb 0
 have u1:=zaa zb 1
 have u2:=zaa zb 2
 have v0:=zaa zx 0
 have v1:=zaa zx 1
 have v2:=zaa zx 2
 simp at u0 u1 u2 v0 v1 v2
 have uf:∀ o,w4.frozen? ⟨w.heap.size,o,none⟩=false:=fun o=>by simp [World.frozen?,zb]
 have GB:=Lib.hid gB
 have M4:=Lib.hid (And.intro hm4 hmod4)
 have ZB:=Lib.hid zb
 clear gB gx hm4 hmod4 zx zb
 go_region
 go_wp2_with fail
 refine zdl (fun W5=>W5.heap[w.heap.size]?=some (.cells #[.int .i64 x.whenT,.int .u64 (x.order:Nat),.int .i64 x.g] 245 (0,0))∧Below w.heap.size w4 W5) ?_ ?_
 ·have e1:=heap_setCell_same _ _ 0 _ _ (.int .i64 x.whenT) ZB.out
  have e2:=heap_setCell_same _ _ 1 _ _ (.int .u64 (x.order:Nat)) e1
  have e3:=heap_setCell_same _ _ 2 _ _ (.int .i64 x.g) e2
  exact ⟨e3,(((Below.refl w.heap.size w4).setCell (p:=⟨w.heap.size,0,none⟩) (Nat.le_refl _) _).setCell (p:=⟨w.heap.size,1,none⟩) (Nat.le_refl _) _).setCell (p:=⟨w.heap.size,2,none⟩) (Nat.le_refl _) _⟩
 rintro W5 ⟨b5,K5⟩
 have r0:=zaa b5 0
 have r1:=zaa b5 1
 have r2:=zaa b5 2
 simp at r0 r1 r2
 have K5:=Lib.hid K5
 clear b5 u0 u1 u2 v0 v1 v2
 apply bodyPost_ret (v:=.tuple #[.agg #[.int .i64 x.whenT,.int .u64 (x.order:Nat),.int .i64 x.g],.bool true])
 ·simp [results,Tryz.results231,go_sem,r0,r1,r2]
 ·rfl
 obtain ⟨hcq,hf,hrow,hcqw,hmw⟩:=X.out
 obtain ⟨hm4,hmod4⟩:=M4.out
 have hB0:=HM.out.lt
 have c5:∀ y,y<w.heap.size→y≠hB→W5.heap[y]?=w3.heap[y]?:=fun y hy hne=>(K5.out.block y hy).trans ((hmod4.block y (Nat.lt_of_lt_of_le (Nat.lt_trans hy hs3) GB.out.size) hne).trans (GB.out.block y (Nat.lt_trans hy hs3)))
 refine ⟨rfl,b,cap,f,HBO.out,hf,(zch (c5 lB llB HNE.out.2.2.symm)).trans hcq,hrow.same (c5 b hbw hbh),fun o ho=>(zch (c5 lB llB HNE.out.2.2.symm)).trans (hcqw o ho),fun o=>(zc6 (c5 lB llB HNE.out.2.2.symm)).trans (FZ3.out o),hm4.congr (K5.out.block hB hB0),?_⟩
 have e4:=hmod4.size
 have e5:=K5.out.size
 have e6:=GB.out.size
 have e7:=hmw.size
 simp at e4
 refine ⟨K5.out.os.trans (hmod4.os.trans (GB.out.os.trans hmw.os)),K5.out.tape.trans (hmod4.tape.trans (GB.out.tape.trans hmw.tape)),K5.out.output.trans (hmod4.output.trans (GB.out.output.trans hmw.output)),by omega,fun y hy hs=>?_⟩
 exact (c5 y hy (fun e=>hs (.inr (.inr e)))).trans (hmw.block y hy (fun e=>by rcases e with e | e;exact hs (.inl (by rw [HBO.out,e]));exact hs (.inr (.inl e))))
end
end Go.Proofs.YtlmmjgekolpekaaGreatDoor
