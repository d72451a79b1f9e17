/- Parts of the proof. -/
import Derived.Test.YtlmmjgekolpekaaGreatDoorMPq17
set_option linter.unusedVariables false
set_option linter.unusedSimpArgs false
set_option linter.unusedSectionVars false
set_option maxRecDepth 100000
set_option maxHeartbeats 6400000
namespace Go.Proofs.YtlmmjgekolpekaaGreatDoor
open Go Go.RowKit Hst Go.Proofs
section
variable {S:Nat→Prop} {b P G:Nat} {B:SrcF} {w:World} {s:Src} {hs:Nat→List Ent} {hv:Nat→Value} {wl hl:List (Int × Value)}
theorem zd1 {l:List (Int × Value)} (h:(l.map (·.1)).Nodup) (p:Int × Value→Bool):((l.filter p).map (·.1)).Nodup:=h.sublist (List.Sublist.map _ List.filter_sublist)
theorem SrcH.boxed {n m:Nat} {w3 wf:World} (h:SrcH (fun y=>(S y∧y<n)∨m≤y) b B w3 P s hs hv wl hl) (hP:0<P) (hn:n≤m) (hsz:w3.heap.size≤wf.heap.size) (hk:∀ y,y<w3.heap.size→(y<n∨m≤y)→wf.heap[y]?=w3.heap[y]?):SrcH (fun y=>S y∨n≤y) b B wf P s hs hv wl hl :=
 h.agree hP ⟨hsz,fun y hy e=>hk y hy (e.imp And.right id)⟩ fun y _ e=>e.imp And.left fun e=>Nat.le_trans hn e
theorem ttake_src (h:SrcH S b B w P s hs hv wl hl) (ok:SrcOK s G) (hP:0<P∧P≤64) (q:Nat) (hq:bestH hs P=some q) (hd:(hdE (hs q)).whenT≤s.now) (W:World) (hb:Below w.heap.size w W) :
  Calls Tryz.prog 231 #[.pointer (some ⟨B.tB,0,none⟩),.int .i64 s.now] W fun e w'=>e=.returned (.tuple #[entV (hdE (hs q)),.bool true]) ∧
   (∃ hs' hv' hl',SrcH (fun y=>(S y∧y<w.heap.size)∨W.heap.size≤y) b B w' P { s with tm:=s.tm.filter fun y=>y.order != (hdE (hs q)).order } hs' hv' wl hl')∧Mod (fun y=>S y∧y<w.heap.size) W w'∧w'.cell? ⟨b,1,none⟩=some (.pointer (some ⟨B.tB,0,none⟩)):=by
 obtain ⟨n1,n2,n3,n4,n5,n6,n7,n8,n9,n10,n11,n12,n13,n14,n15,n16,n17,n18,n19,n20,n21⟩:=h.nes
 have hqP:=zbR hs P q hq
 have h1:SrcH (fun y=>S y∧y<w.heap.size) b B W P s hs hv wl hl:=h.agree hP.1 ⟨hb.size,fun x hx _=>hb.block x hx⟩ fun x hx e=>⟨e,hx⟩
 have lts:=h1.lts hP.1
 refine (ttake_yes (h1.tim ok hP.2) h1.t2 h1.has h1.hasN h1.fr.2.2.1 ⟨n7,n11.symm,n15.symm⟩
  (fun k hk=>⟨fun e=>(h1.rowne k hk e).2.1 rfl,fun e=>(h1.rowne k hk e).2.2.1 rfl,fun e=>(h1.rowne k hk e).2.2.2.2.2.2 rfl⟩) q s.now hq hd).mono ?_
 rintro e w1 ⟨rfl,c,cap,f,e1,e2,e3,e4,e5,e6,e7,e8⟩
 have nt:¬ ((hv q).ownBlock=some B.tB∨B.tB=B.lB∨B.tB=B.hB):=fun e=>by
  rcases e with e | e | e
  ·exact (h1.rowne q hqP.1 e).2.1 rfl
  ·exact n7 e
  ·exact n11 e
 have nb:¬ ((hv q).ownBlock=some b∨b=B.lB∨b=B.hB):=fun e=>by
  rcases e with e | e | e
  ·exact (h1.rowne q hqP.1 e).1 rfl
  ·exact n2 e
  ·exact n6 e
 have hxm:hdE (hs q)∈s.tm:=h.perm.mem_iff.1 (best_mem hq)
 have hl0:hs q≠[]:=fun e=>hqP.2 (by rw [e];rfl)
 have hpm:(downE f (zep (hs q)) 0++[hdE (hs q)]).Perm (hs q):=((zcM f (zep (hs q)) 0).append_right [hdE (hs q)]).trans (restE_perm (hs q) hl0)
 have hr:=h1.timed hP.1 hqP.1 (.inl e1) e3 e4 (by rw [(zcM f (zep (hs q)) 0).length_eq]) e5 (hmod:=e8.mono fun y _ e=>by rcases e with e | e | e;exact .inl e;exact .inr (.inl e);exact .inr (.inr (.inr e)))
  (e8.cell (a:=⟨B.tB,1,none⟩) nt h1.t1) (fun o _=>zch (e8.block _ lts.2.1 nt)) (e8.frz lts.2.1 nt h1.fr.2.1) e6 e7
  (zd7 f (zep (hs q)) 0 (by omega) (restE_down (hs q) (h.heap q hqP.1))) (perm_take hqP.1 h.perm hpm (ok.ords _)) (zd1 h.hasN _) (has_take ok h.hasE hxm)
 exact ⟨rfl,⟨_,_,_,hr⟩,e8.mono fun y _ e=>by rcases e with e | e | e;exact (h1.rows q hqP.1).2 y e;exact e ▸ h1.inS.2.2.1;exact e ▸ h1.inS.2.2.2.2.2.2,e8.cell (a:=⟨b,1,none⟩) nb h1.c1⟩
theorem Mod.trans1' {S:Nat→Prop} {w W w3:World} (h:Mod S w W) (k:Mod (fun y=>S y∧y<w.heap.size) W w3):Mod S w w3:=h.trans1 (k.mono fun y _ e=>e.1)
theorem stake_tm (h:SrcH S b B w P s hs hv wl hl) (ok:SrcOK s G) (hP:0<P∧P≤64) (q:Nat) (hq:bestH hs P=some q) (hd:(hdE (hs q)).whenT≤s.now) :
  Calls Tryz.prog 210 #[.pointer (some ⟨b,0,none⟩)] w fun e w'=>e=.returned (.tuple #[.int .i64 s.take.2.1,.bool s.take.2.2]) ∧
   (∃ hs' hv' wl' hl',SrcH (fun x=>S x∨w.heap.size≤x) b B w' P s.take.1 hs' hv' wl' hl')∧Mod S w w':=by
 have lb:=World.block_lt_of_cell? w _ h.c1
 simp only at lb
 have c1:=h.c1
 obtain ⟨x,hx⟩:∃ x,x=hdE (hs q):=⟨_,rfl⟩
 have hleast:=due_least s.now h.heap h.perm hq hd
 rw [← hx] at hleast
 have htk:s.take=({ s with tm:=s.tm.filter fun y=>y.order != x.order },x.g,true):=by
  unfold Src.take
  rw [hleast]
 rw [htk]
 dsimp only
 have hnow:∀ W,Below w.heap.size w W→Calls Tryz.prog 31 #[.pointer (some ⟨b,0,none⟩)] W fun e w'=>e=.returned (.int .i64 s.now)∧w'=W:=fun W hb=>zc4 s.now ((below_cell hb lb).trans h.c0)
 have htt:=ttake_src h ok hP q hq hd
 rw [← hx] at htt
 generalize ({ s with tm:=s.tm.filter fun y=>y.order != x.order }:Src)=s' at htt ⊢
 unfold entV at htt
 have HN:=Lib.hid hnow
 have HT:=Lib.hid htt
 have B0:=Lib.hid (show Below w.heap.size w w.drew from ⟨rfl,rfl,rfl,Nat.le_refl _,fun _ _=>rfl⟩)
 have B1:=Lib.hid (show ∀ o,Below w.heap.size w (w.alloc o).drew from fun o=>(⟨rfl,rfl,rfl,(zab w o).size,fun k hk=>(zab w o).block k hk⟩:Below w.heap.size w (w.alloc o).drew))
 have k0:=fun o=>(below_cell (o:=1) (zab w o) lb).trans c1
 have K0:=Lib.hid (show ∀ o,(w.alloc o).drew.cell? ⟨b,1,none⟩=some (.pointer (some ⟨B.tB,0,none⟩)) from k0)
 clear h ok hnow htt hleast htk hq hd hx k0
 go_enter Tryz.func210,Tryz.ntmps210
 go_wp2_with fail
 refine wp_region_held_drew (S:=fun w'=>w'.cell? ⟨b,1,none⟩=some (.pointer (some ⟨B.tB,0,none⟩))) (by kernel_rfl) c1 (fun hHeld=>?_)
 refine wpAnyH_take (i:=0) (oi:={ dst:=some 10,op:=Op.move (Operand.tmp 0),type:=58,pos := "source.go:65",after:=#[],guard:=none }) (v:=.pointer (some ⟨b,0,none⟩)) rfl (by kernel_rfl) (by kernel_rfl) (by kernel_rfl) (fun _ _ _ h=>h) (Or.inl ⟨by rfl,by intro w hSw;go_simp⟩) (by assumption) ?_;simp only [Act.put,List.setIfInBounds_toArray,List.set_cons_zero,List.set_cons_succ]
 refine wpAnyH_take (i:=1) (oi:={ dst:=some 11,op:=Op.nilCheck (Operand.tmp 10),type:=0,pos := "source.go:65",after:=#[{ on:=0,ground:=Ground.data }],guard:=none }) (v:=.pointer (some ⟨b,0,none⟩)) rfl (by kernel_rfl) (by kernel_rfl) (by kernel_rfl) (fun _ _ _ h=>h) (Or.inl ⟨by rfl,by intro w hSw;go_simp⟩) (by assumption) ?_;simp only [Act.put,List.setIfInBounds_toArray,List.set_cons_zero,List.set_cons_succ]
 refine wpAnyH_take (i:=2) (oi:={ dst:=some 12,op:=Op.fieldAddr 134 (Operand.tmp 11) 1,type:=0,pos := "source.go:65",after:=#[{ on:=1,ground:=Ground.data }],guard:=none }) (v:=.pointer (some ⟨b,1,none⟩)) rfl (by kernel_rfl) (by kernel_rfl) (by kernel_rfl) (fun _ _ _ h=>h) (Or.inl ⟨by rfl,by intro w hSw;go_simp⟩) (by assumption) ?_;simp only [Act.put,List.setIfInBounds_toArray,List.set_cons_zero,List.set_cons_succ]
 refine wpAnyH_take (i:=3) (oi:={ dst:=some 13,op:=Op.load 131 (Operand.tmp 12),type:=131,pos := "source.go:65",after:=#[{ on:=2,ground:=Ground.data }],guard:=none }) (v:=.pointer (some ⟨B.tB,0,none⟩)) rfl (by kernel_rfl) (by kernel_rfl) (by kernel_rfl) (fun _ _ _ h=>h) (Or.inl ⟨by rfl,by intro w hSw;go_simp⟩) (by assumption) ?_;simp only [Act.put,List.setIfInBounds_toArray,List.set_cons_zero,List.set_cons_succ]
 refine wpAnyH_take (i:=4) (oi:={ dst:=some 14,op:=Op.move (Operand.tmp 0),type:=58,pos := "source.go:65",after:=#[],guard:=none }) (v:=.pointer (some ⟨b,0,none⟩)) rfl (by kernel_rfl) (by kernel_rfl) (by kernel_rfl) (fun _ _ _ h=>h) (Or.inl ⟨by rfl,by intro w hSw;go_simp⟩) (by assumption) ?_;simp only [Act.put,List.setIfInBounds_toArray,List.set_cons_zero,List.set_cons_succ]
 refine wpAnyH_ready (rs:=[5,10]) (by kernel_rfl) (by simp) (AllReadyH.cons (o:={ dst:=some 15,op:=Op.call { callee:=Callee.value (Operand.func 31),args:=#[Operand.tmp 14],argTypes:=#[58] },type:=2,pos := "source.go:65",after:=#[{ on:=4,ground:=Ground.data }],guard:=none }) rfl (fun _ hK=>?_) (AllReadyH.cons (o:={ dst:=some 4,op:=Op.alloc 245,type:=0,pos := "source.go:65",after:=#[],guard:=none }) rfl (fun _ hK=>?_) AllReadyH.nil))
 ·go_simp
  go_at_call 31
  refine (HN.out _ B0.out).mono ?_
  rintro e w2 ⟨rfl,hw⟩
  have hw:=hw.symm
  subst hw
  refine hK.out _ _ hHeld (fun hHeld=>?_)
  refine wpAnyH_ready (rs:=[6,10]) (by kernel_rfl) (by simp) (AllReadyH.cons (o:={ dst:=some 16,op:=Op.call { callee:=Callee.value (Operand.func 231),args:=#[Operand.tmp 13,Operand.tmp 15],argTypes:=#[131,2] },type:=246,pos := "source.go:65",after:=#[{ on:=3,ground:=Ground.data },{ on:=5,ground:=Ground.data },{ on:=5,ground:=Ground.chain }],guard:=none }) rfl (fun _ hK=>?_) (AllReadyH.cons (o:={ dst:=some 4,op:=Op.alloc 245,type:=0,pos := "source.go:65",after:=#[],guard:=none }) rfl (fun _ hK=>?_) AllReadyH.nil))
  ·go_simp
   go_at_call 231
   refine (HT.out _ B0.out).mono ?_
   rintro e w3 ⟨rfl,⟨hs',hv',hl',hsr⟩,hmd,k1⟩
   refine hK.out _ _ k1 (fun hHeld=>?_)
   refine wpAnyH_take (i:=7) (oi:={ dst:=some 9,op:=Op.move (Operand.tmp 16),type:=246,pos := "source.go:65",after:=#[{ on:=6,ground:=Ground.data }],guard:=none }) (v:=.tuple #[.agg #[.int .i64 x.whenT,.int .u64 (x.order:Nat),.int .i64 x.g],.bool true]) rfl (by kernel_rfl) (by kernel_rfl) (by kernel_rfl) (fun _ _ _ h=>h) (Or.inl ⟨by rfl,by intro w hSw;go_simp⟩) (by assumption) ?_;simp only [Act.put,List.setIfInBounds_toArray,List.set_cons_zero,List.set_cons_succ]
   refine wpAnyH_take (i:=8) (oi:={ dst:=some 17,op:=Op.extract (Operand.tmp 9) 0,type:=245,pos := "source.go:65",after:=#[{ on:=7,ground:=Ground.data }],guard:=none }) (v:=.agg #[.int .i64 x.whenT,.int .u64 (x.order:Nat),.int .i64 x.g]) rfl (by kernel_rfl) (by kernel_rfl) (by kernel_rfl) (fun _ _ _ h=>h) (Or.inl ⟨by rfl,by intro w hSw;go_simp⟩) (by assumption) ?_;simp only [Act.put,List.setIfInBounds_toArray,List.set_cons_zero,List.set_cons_succ]
   refine wpAnyH_take (i:=9) (oi:={ dst:=some 18,op:=Op.extract (Operand.tmp 9) 1,type:=4,pos := "source.go:65",after:=#[{ on:=7,ground:=Ground.data },{ on:=11,ground:=Ground.gcOnly Departure.lateStores }],guard:=none }) (v:=.bool true) rfl (by kernel_rfl) (by kernel_rfl) (by kernel_rfl) (fun _ _ _ h=>h) (Or.inl ⟨by rfl,by intro w hSw;go_simp⟩) (by assumption) ?_;simp only [Act.put,List.setIfInBounds_toArray,List.set_cons_zero,List.set_cons_succ]
   refine wpAnyH_ready (rs:=[10]) (by kernel_rfl) (by simp) (AllReadyH.cons (o:={ dst:=some 4,op:=Op.alloc 245,type:=0,pos := "source.go:65",after:=#[],guard:=none }) rfl (fun _ hK=>?_) AllReadyH.nil)
   go_simp
   refine hK.out _ _ ((below_cell (o:=1) (zab w3 _) (World.block_lt_of_cell? w3 _ k1)).trans k1) (fun hHeld=>?_)
   refine wpAnyH_ready (rs:=[11]) (by kernel_rfl) (by simp) (AllReadyH.cons (o:={ dst:=none,op:=Op.store 245 (Operand.tmp 4) (Operand.tmp 17),type:=0,pos := "source.go:65",after:=#[{ on:=10,ground:=Ground.data },{ on:=8,ground:=Ground.data },{ on:=6,ground:=Ground.chain },{ on:=0,ground:=Ground.phase },{ on:=1,ground:=Ground.phase },{ on:=2,ground:=Ground.phase },{ on:=3,ground:=Ground.phase },{ on:=4,ground:=Ground.phase },{ on:=5,ground:=Ground.phase },{ on:=6,ground:=Ground.phase },{ on:=7,ground:=Ground.phase },{ on:=8,ground:=Ground.phase },{ on:=9,ground:=Ground.textOnly Departure.lateStores },{ on:=10,ground:=Ground.phase }],guard:=none }) rfl (fun _ hK=>?_) AllReadyH.nil)
   go_simp
   refine hK.out _ _ ((below_cell (o:=1) (zab w3 _) (World.block_lt_of_cell? w3 _ k1)).trans k1) (fun hHeld=>?_)
   refine wpAnyH_take (i:=12) (oi:={ dst:=some 5,op:=Op.assign (Operand.tmp 18),type:=4,pos := "source.go:65",after:=#[{ on:=9,ground:=Ground.data },{ on:=11,ground:=Ground.chain },{ on:=0,ground:=Ground.phase },{ on:=1,ground:=Ground.phase },{ on:=2,ground:=Ground.phase },{ on:=3,ground:=Ground.phase },{ on:=4,ground:=Ground.phase },{ on:=5,ground:=Ground.phase },{ on:=6,ground:=Ground.phase },{ on:=7,ground:=Ground.phase },{ on:=8,ground:=Ground.phase },{ on:=9,ground:=Ground.phase },{ on:=10,ground:=Ground.phase },{ on:=11,ground:=Ground.phase }],guard:=none }) (v:=.bool true) rfl (by kernel_rfl) (by kernel_rfl) (by kernel_rfl) (fun _ _ _ h=>h) (Or.inl ⟨by rfl,by intro w hSw;go_simp⟩) (by assumption) ?_;simp only [Act.put,List.setIfInBounds_toArray,List.set_cons_zero,List.set_cons_succ]
   refine wpAnyH_done (by kernel_rfl) ?_ _
   have HSR:=Lib.hid hsr
   have HMD:=Lib.hid hmd
   clear hsr hmd
   go_wp2_with fail
   go_returns
   exact ⟨rfl,⟨hs',hv',wl,hl',HSR.out.boxed hP.1 (Nat.le_refl _) (zab w3 _).size fun y hy _=>(zab w3 _).block y hy⟩,((Mod.refl _ w).drew.trans1 (HMD.out.mono fun y _ e=>e.1)).alloc _⟩
  ·go_simp
   refine hK.out _ _ (K0.out _) (fun hHeld=>?_)
   refine wpAnyH_ready (rs:=[6]) (by kernel_rfl) (by simp) (AllReadyH.cons (o:={ dst:=some 16,op:=Op.call { callee:=Callee.value (Operand.func 231),args:=#[Operand.tmp 13,Operand.tmp 15],argTypes:=#[131,2] },type:=246,pos := "source.go:65",after:=#[{ on:=3,ground:=Ground.data },{ on:=5,ground:=Ground.data },{ on:=5,ground:=Ground.chain }],guard:=none }) rfl (fun _ hK=>?_) AllReadyH.nil)
   go_simp
   go_at_call 231
   refine (HT.out _ (B1.out _)).mono ?_
   rintro e w3 ⟨rfl,⟨hs',hv',hl',hsr⟩,hmd,k1⟩
   refine hK.out _ _ k1 (fun hHeld=>?_)
   refine wpAnyH_take (i:=7) (oi:={ dst:=some 9,op:=Op.move (Operand.tmp 16),type:=246,pos := "source.go:65",after:=#[{ on:=6,ground:=Ground.data }],guard:=none }) (v:=.tuple #[.agg #[.int .i64 x.whenT,.int .u64 (x.order:Nat),.int .i64 x.g],.bool true]) rfl (by kernel_rfl) (by kernel_rfl) (by kernel_rfl) (fun _ _ _ h=>h) (Or.inl ⟨by rfl,by intro w hSw;go_simp⟩) (by assumption) ?_;simp only [Act.put,List.setIfInBounds_toArray,List.set_cons_zero,List.set_cons_succ]
   refine wpAnyH_take (i:=8) (oi:={ dst:=some 17,op:=Op.extract (Operand.tmp 9) 0,type:=245,pos := "source.go:65",after:=#[{ on:=7,ground:=Ground.data }],guard:=none }) (v:=.agg #[.int .i64 x.whenT,.int .u64 (x.order:Nat),.int .i64 x.g]) rfl (by kernel_rfl) (by kernel_rfl) (by kernel_rfl) (fun _ _ _ h=>h) (Or.inl ⟨by rfl,by intro w hSw;go_simp⟩) (by assumption) ?_;simp only [Act.put,List.setIfInBounds_toArray,List.set_cons_zero,List.set_cons_succ]
   refine wpAnyH_take (i:=9) (oi:={ dst:=some 18,op:=Op.extract (Operand.tmp 9) 1,type:=4,pos := "source.go:65",after:=#[{ on:=7,ground:=Ground.data },{ on:=11,ground:=Ground.gcOnly Departure.lateStores }],guard:=none }) (v:=.bool true) rfl (by kernel_rfl) (by kernel_rfl) (by kernel_rfl) (fun _ _ _ h=>h) (Or.inl ⟨by rfl,by intro w hSw;go_simp⟩) (by assumption) ?_;simp only [Act.put,List.setIfInBounds_toArray,List.set_cons_zero,List.set_cons_succ]
   have bx:=(hmd.block w.heap.size (by simp) (by simp)).trans (heap_alloc_new w _)
   have u0:=zaa bx 0
   have u1:=zaa bx 1
   have u2:=zaa bx 2
   have uf:∀ o,w3.frozen? ⟨w.heap.size,o,none⟩=false:=fun o=>by simp [World.frozen?,bx]
   simp at u0 u1 u2
   have hbn:w.heap.size≠b:=by omega
   have hmsz:=hmd.size
   clear bx
   refine wpAnyH_ready (rs:=[11]) (by kernel_rfl) (by simp) (AllReadyH.cons (o:={ dst:=none,op:=Op.store 245 (Operand.tmp 4) (Operand.tmp 17),type:=0,pos := "source.go:65",after:=#[{ on:=10,ground:=Ground.data },{ on:=8,ground:=Ground.data },{ on:=6,ground:=Ground.chain },{ on:=0,ground:=Ground.phase },{ on:=1,ground:=Ground.phase },{ on:=2,ground:=Ground.phase },{ on:=3,ground:=Ground.phase },{ on:=4,ground:=Ground.phase },{ on:=5,ground:=Ground.phase },{ on:=6,ground:=Ground.phase },{ on:=7,ground:=Ground.phase },{ on:=8,ground:=Ground.phase },{ on:=9,ground:=Ground.textOnly Departure.lateStores },{ on:=10,ground:=Ground.phase }],guard:=none }) rfl (fun _ hK=>?_) AllReadyH.nil)
   go_simp
   refine hK.out _ _ ((World.cell?_setCell_far _ ⟨w.heap.size,2,none⟩ ⟨b,1,none⟩ _ hbn).trans ((World.cell?_setCell_far _ ⟨w.heap.size,1,none⟩ ⟨b,1,none⟩ _ hbn).trans ((World.cell?_setCell_far _ ⟨w.heap.size,0,none⟩ ⟨b,1,none⟩ _ hbn).trans k1))) (fun hHeld=>?_)
   refine wpAnyH_take (i:=12) (oi:={ dst:=some 5,op:=Op.assign (Operand.tmp 18),type:=4,pos := "source.go:65",after:=#[{ on:=9,ground:=Ground.data },{ on:=11,ground:=Ground.chain },{ on:=0,ground:=Ground.phase },{ on:=1,ground:=Ground.phase },{ on:=2,ground:=Ground.phase },{ on:=3,ground:=Ground.phase },{ on:=4,ground:=Ground.phase },{ on:=5,ground:=Ground.phase },{ on:=6,ground:=Ground.phase },{ on:=7,ground:=Ground.phase },{ on:=8,ground:=Ground.phase },{ on:=9,ground:=Ground.phase },{ on:=10,ground:=Ground.phase },{ on:=11,ground:=Ground.phase }],guard:=none }) (v:=.bool true) rfl (by kernel_rfl) (by kernel_rfl) (by kernel_rfl) (fun _ _ _ h=>h) (Or.inl ⟨by rfl,by intro w hSw;go_simp⟩) (by assumption) ?_;simp only [Act.put,List.setIfInBounds_toArray,List.set_cons_zero,List.set_cons_succ]
   refine wpAnyH_done (by kernel_rfl) ?_ _
   have HSR:=Lib.hid hsr
   have HMD:=Lib.hid hmd
   clear hsr hmd
   go_wp2_with fail
   go_returns
   refine ⟨rfl,⟨hs',hv',wl,hl',HSR.out.boxed hP.1 (by simp) (by simp) fun y hy hyn=>?_⟩,((((((Mod.refl _ w).alloc _).drew.trans1' (HMD.out)).setCell (.inr (Nat.le_refl _)) _).setCell (.inr (Nat.le_refl _)) _).setCell (.inr (Nat.le_refl _)) _)⟩
   have hyb:y≠w.heap.size:=by simp at hyn;omega
   exact (Below.heap_setCell _ ⟨w.heap.size,2,none⟩ _ y hyb).trans ((Below.heap_setCell _ ⟨w.heap.size,1,none⟩ _ y hyb).trans (Below.heap_setCell _ ⟨w.heap.size,0,none⟩ _ y hyb))
 ·go_simp
  refine hK.out _ _ (K0.out _) (fun hHeld=>?_)
  refine wpAnyH_ready (rs:=[5]) (by kernel_rfl) (by simp) (AllReadyH.cons (o:={ dst:=some 15,op:=Op.call { callee:=Callee.value (Operand.func 31),args:=#[Operand.tmp 14],argTypes:=#[58] },type:=2,pos := "source.go:65",after:=#[{ on:=4,ground:=Ground.data }],guard:=none }) rfl (fun _ hK=>?_) AllReadyH.nil)
  go_simp
  go_at_call 31
  refine (HN.out _ (B1.out _)).mono ?_
  rintro e w2 ⟨rfl,hw⟩
  have hw:=hw.symm
  subst hw
  refine hK.out _ _ hHeld (fun hHeld=>?_)
  refine wpAnyH_ready (rs:=[6]) (by kernel_rfl) (by simp) (AllReadyH.cons (o:={ dst:=some 16,op:=Op.call { callee:=Callee.value (Operand.func 231),args:=#[Operand.tmp 13,Operand.tmp 15],argTypes:=#[131,2] },type:=246,pos := "source.go:65",after:=#[{ on:=3,ground:=Ground.data },{ on:=5,ground:=Ground.data },{ on:=5,ground:=Ground.chain }],guard:=none }) rfl (fun _ hK=>?_) AllReadyH.nil)
  go_simp
  go_at_call 231
  refine (HT.out _ (B1.out _)).mono ?_
  rintro e w3 ⟨rfl,⟨hs',hv',hl',hsr⟩,hmd,k1⟩
  refine hK.out _ _ k1 (fun hHeld=>?_)
  refine wpAnyH_take (i:=7) (oi:={ dst:=some 9,op:=Op.move (Operand.tmp 16),type:=246,pos := "source.go:65",after:=#[{ on:=6,ground:=Ground.data }],guard:=none }) (v:=.tuple #[.agg #[.int .i64 x.whenT,.int .u64 (x.order:Nat),.int .i64 x.g],.bool true]) rfl (by kernel_rfl) (by kernel_rfl) (by kernel_rfl) (fun _ _ _ h=>h) (Or.inl ⟨by rfl,by intro w hSw;go_simp⟩) (by assumption) ?_;simp only [Act.put,List.setIfInBounds_toArray,List.set_cons_zero,List.set_cons_succ]
  refine wpAnyH_take (i:=8) (oi:={ dst:=some 17,op:=Op.extract (Operand.tmp 9) 0,type:=245,pos := "source.go:65",after:=#[{ on:=7,ground:=Ground.data }],guard:=none }) (v:=.agg #[.int .i64 x.whenT,.int .u64 (x.order:Nat),.int .i64 x.g]) rfl (by kernel_rfl) (by kernel_rfl) (by kernel_rfl) (fun _ _ _ h=>h) (Or.inl ⟨by rfl,by intro w hSw;go_simp⟩) (by assumption) ?_;simp only [Act.put,List.setIfInBounds_toArray,List.set_cons_zero,List.set_cons_succ]
  refine wpAnyH_take (i:=9) (oi:={ dst:=some 18,op:=Op.extract (Operand.tmp 9) 1,type:=4,pos := "source.go:65",after:=#[{ on:=7,ground:=Ground.data },{ on:=11,ground:=Ground.gcOnly Departure.lateStores }],guard:=none }) (v:=.bool true) rfl (by kernel_rfl) (by kernel_rfl) (by kernel_rfl) (fun _ _ _ h=>h) (Or.inl ⟨by rfl,by intro w hSw;go_simp⟩) (by assumption) ?_;simp only [Act.put,List.setIfInBounds_toArray,List.set_cons_zero,List.set_cons_succ]
  have bx:=(hmd.block w.heap.size (by simp) (by simp)).trans (heap_alloc_new w _)
  have u0:=zaa bx 0
  have u1:=zaa bx 1
  have u2:=zaa bx 2
  have uf:∀ o,w3.frozen? ⟨w.heap.size,o,none⟩=false:=fun o=>by simp [World.frozen?,bx]
  simp at u0 u1 u2
  have hbn:w.heap.size≠b:=by omega
  have hmsz:=hmd.size
  clear bx
  refine wpAnyH_ready (rs:=[11]) (by kernel_rfl) (by simp) (AllReadyH.cons (o:={ dst:=none,op:=Op.store 245 (Operand.tmp 4) (Operand.tmp 17),type:=0,pos := "source.go:65",after:=#[{ on:=10,ground:=Ground.data },{ on:=8,ground:=Ground.data },{ on:=6,ground:=Ground.chain },{ on:=0,ground:=Ground.phase },{ on:=1,ground:=Ground.phase },{ on:=2,ground:=Ground.phase },{ on:=3,ground:=Ground.phase },{ on:=4,ground:=Ground.phase },{ on:=5,ground:=Ground.phase },{ on:=6,ground:=Ground.phase },{ on:=7,ground:=Ground.phase },{ on:=8,ground:=Ground.phase },{ on:=9,ground:=Ground.textOnly Departure.lateStores },{ on:=10,ground:=Ground.phase }],guard:=none }) rfl (fun _ hK=>?_) AllReadyH.nil)
  go_simp
  refine hK.out _ _ ((World.cell?_setCell_far _ ⟨w.heap.size,2,none⟩ ⟨b,1,none⟩ _ hbn).trans ((World.cell?_setCell_far _ ⟨w.heap.size,1,none⟩ ⟨b,1,none⟩ _ hbn).trans ((World.cell?_setCell_far _ ⟨w.heap.size,0,none⟩ ⟨b,1,none⟩ _ hbn).trans k1))) (fun hHeld=>?_)
  refine wpAnyH_take (i:=12) (oi:={ dst:=some 5,op:=Op.assign (Operand.tmp 18),type:=4,pos := "source.go:65",after:=#[{ on:=9,ground:=Ground.data },{ on:=11,ground:=Ground.chain },{ on:=0,ground:=Ground.phase },{ on:=1,ground:=Ground.phase },{ on:=2,ground:=Ground.phase },{ on:=3,ground:=Ground.phase },{ on:=4,ground:=Ground.phase },{ on:=5,ground:=Ground.phase },{ on:=6,ground:=Ground.phase },{ on:=7,ground:=Ground.phase },{ on:=8,ground:=Ground.phase },{ on:=9,ground:=Ground.phase },{ on:=10,ground:=Ground.phase },{ on:=11,ground:=Ground.phase }],guard:=none }) (v:=.bool true) rfl (by kernel_rfl) (by kernel_rfl) (by kernel_rfl) (fun _ _ _ h=>h) (Or.inl ⟨by rfl,by intro w hSw;go_simp⟩) (by assumption) ?_;simp only [Act.put,List.setIfInBounds_toArray,List.set_cons_zero,List.set_cons_succ]
  refine wpAnyH_done (by kernel_rfl) ?_ _
  have HSR:=Lib.hid hsr
  have HMD:=Lib.hid hmd
  clear hsr hmd
  go_wp2_with fail
  go_returns
  refine ⟨rfl,⟨hs',hv',wl,hl',HSR.out.boxed hP.1 (by simp) (by simp) fun y hy hyn=>?_⟩,((((((Mod.refl _ w).alloc _).drew.trans1' (HMD.out)).setCell (.inr (Nat.le_refl _)) _).setCell (.inr (Nat.le_refl _)) _).setCell (.inr (Nat.le_refl _)) _)⟩
  have hyb:y≠w.heap.size:=by simp at hyn;omega
  exact (Below.heap_setCell _ ⟨w.heap.size,2,none⟩ _ y hyb).trans ((Below.heap_setCell _ ⟨w.heap.size,1,none⟩ _ y hyb).trans (Below.heap_setCell _ ⟨w.heap.size,0,none⟩ _ y hyb))
end
end Go.Proofs.YtlmmjgekolpekaaGreatDoor
