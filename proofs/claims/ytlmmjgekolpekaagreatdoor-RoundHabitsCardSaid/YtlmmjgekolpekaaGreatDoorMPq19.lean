/- Parts of the proof. -/
import Derived.Test.YtlmmjgekolpekaaGreatDoorMPq18
import Derived.Test.YtlmmjgekolpekaaGreatDoorMPq13
set_option linter.unusedVariables false
set_option linter.unusedSimpArgs false
set_option linter.unusedSectionVars false
set_option maxRecDepth 100000
set_option maxHeartbeats 6400000
namespace Go.Proofs.YtlmmjgekolpekaaGreatDoor
open Go Go.RowKit Hst Go.Proofs
section
variable {S:Nat→Prop} {b P G:Nat} {B:SrcF} {w:World} {s:Src} {hs:Nat→List Ent} {hv:Nat→Value} {wl hl:List (Int × Value)}
theorem any_gen {Q:Exit→Act→World→Prop} {e:Exit} {a:Act} {w:World} (R:World→Prop) (h:R w) (k:∀ w2,R w2→Q e a w2):Q e a w:=k w h
theorem take_none {s:Src} (hT:s.timerDue=false):s.take=match zej s.fds with
  | some x=>({ s with fds:=s.fds.filter fun y=>y.fd != x.fd },x.g,true)
  | none=>(s,0,false):=by
 have e:(s.tm.filter fun e=>decide (e.whenT≤s.now))=[]:=List.filter_eq_nil_iff.2 fun e he=>by
  have:=List.any_eq_false.1 hT e he
  simpa using this
 unfold Src.take
 rw [e]
 rfl
theorem ptake_src (h:SrcH S b B w P s hs hv wl hl) (ok:SrcOK s G) (hP:0<P∧P≤64) (W:World) (hb:Below w.heap.size w W) :
  Calls Tryz.prog 232 #[.pointer (some ⟨B.pB,0,none⟩)] W fun e w' =>
   (zej s.fds=none∧e=.returned (.tuple #[.int .u16 0,.int .i64 0,.bool false])∧Below W.heap.size W w') ∨
   ∃ x wl',zej s.fds=some x∧e=.returned (.tuple #[.int .u16 x.fd,.int .i64 x.g,.bool true])∧SrcH S b B (w'.setCell ⟨b,3,none⟩ (.int .i64 ((waitsN s:Int) - 1))) P { s with fds:=s.fds.filter fun y=>y.fd != x.fd } hs hv wl' hl ∧
    w'.cell? ⟨b,3,none⟩=some (.int .i64 (waitsN s:Nat))∧(∀ o,w'.frozen? ⟨b,o,none⟩=false)∧Mod (fun y=>y=B.fB∨y=B.wB) W w'∧1≤waitsN s:=by
 obtain ⟨n1,n2,n3,n4,n5,n6,n7,n8,n9,n10,n11,n12,n13,n14,n15,n16,n17,n18,n19,n20,n21⟩:=h.nes
 have h1:=h.below hP.1 hb
 refine (ptake_any ok h1.poll h1.whoN ⟨n16.symm,n19,n17.symm⟩).mono ?_
 rintro e w2 (⟨hl,he,hbl⟩ | ⟨x,hl,he,hp,hm⟩)
 ·exact .inl ⟨hl,he,hbl⟩
 ·right
  obtain ⟨hxm,hxb⟩:x∈s.fds∧(x.waits && x.ready)=true:=by
   rcases zbd s.fds with ⟨h2,_⟩ | ⟨z,h2,h3,h4,_⟩
   ·rw [hl] at h2;cases h2
   ·rw [hl] at h2
    obtain rfl:=Option.some.inj h2
    exact ⟨h3,h4⟩
  have hxw:x.waits=true:=by simp only [Bool.and_eq_true] at hxb;exact hxb.1
  have hw:=who_take ok h.whoE hxm hxw
  have nb:¬ (b=B.fB∨b=B.wB):=fun e=>by rcases e with e | e;exact n4 e;exact n5 e
  have k:∀ o v,W.cell? ⟨b,o,none⟩=some v→w2.cell? ⟨b,o,none⟩=some v:=fun o v hc=>hm.cell (a:=⟨b,o,none⟩) nb hc
  have kf:=hm.frz (h1.lts hP.1).1 nb h1.fr.1
  have oth:∀ o,o≠3→(w2.setCell ⟨b,3,none⟩ (.int .i64 ((waitsN s:Int) - 1))).cell? ⟨b,o,none⟩=w2.cell? ⟨b,o,none⟩:=fun o ho=>World.cell?_setCell_other _ ⟨b,3,none⟩ ⟨b,o,none⟩ _ (by intro e;injection e with _ e2 _;exact ho e2.symm)
  have hw2:=hw.2
  refine ⟨x,_,hl,he,h1.polledB hP.1 ⟨(World.cell?_setCell_far _ ⟨b,3,none⟩ ⟨_,_,none⟩ _ n3).trans hp.p0,(World.cell?_setCell_far _ ⟨b,3,none⟩ ⟨_,_,none⟩ _ n3).trans hp.p1,hp.fds.congr (Below.heap_setCell _ ⟨b,3,none⟩ _ _ n4.symm),hp.who.congr (Below.heap_setCell _ ⟨b,3,none⟩ _ _ n5.symm)⟩
   ((hm.mono fun y _ e=>e.imp id .inl).setCell (.inl (.inr (.inr rfl))) _) ((oth 0 (by decide)).trans (k 0 _ h1.c0)) ((oth 1 (by decide)).trans (k 1 _ h1.c1)) ((oth 2 (by decide)).trans (k 2 _ h1.c2)) ?_ (fun o=>by rw [World.frozen?_setCell];exact kf o) (zd1 h.whoN _) hw.1,k 3 _ h1.c3,kf,hm,by omega⟩
  rw [World.cell?_setCell_same _ _ _ (k 3 _ h1.c3)]
  congr 2
  omega
theorem stake_fd (h:SrcH S b B w P s hs hv wl hl) (ok:SrcOK s G) (hP:0<P∧P≤64) (hT:s.timerDue=false) :
  Calls Tryz.prog 210 #[.pointer (some ⟨b,0,none⟩)] w fun e w'=>e=.returned (.tuple #[.int .i64 s.take.2.1,.bool s.take.2.2]) ∧
   (∃ hs' hv' wl' hl',SrcH (fun x=>S x∨w.heap.size≤x) b B w' P s.take.1 hs' hv' wl' hl')∧Mod S w w':=by
 have lb:=World.block_lt_of_cell? w _ h.c1
 simp only at lb
 have c1:=h.c1
 have HTN:=Lib.hid (take_none hT)
 have hnow:∀ W,Below w.heap.size w W→Calls Tryz.prog 31 #[.pointer (some ⟨b,0,none⟩)] W fun e w'=>e=.returned (.int .i64 s.now)∧w'=W:=fun W hb=>zc4 s.now ((below_cell hb lb).trans h.c0)
 have htt:∀ W,Below w.heap.size w W→Calls Tryz.prog 231 #[.pointer (some ⟨B.tB,0,none⟩),.int .i64 s.now] W fun e w'=>e=.returned (.tuple #[entV ent0,.bool false])∧Below W.heap.size W w':=fun W hb=>ttake_no B.tB B.lB P hs hv s.now W ((h.tim ok hP.2).below hb) (by
  rw [due_law s.now h.heap h.perm]
  exact hT)
 unfold entV ent0 at htt
 have hpt:=ptake_src h ok hP
 have hc2:∀ W,Below w.heap.size w W→W.cell? ⟨b,2,none⟩=some (.pointer (some ⟨B.pB,0,none⟩)):=fun W hb=>(below_cell hb lb).trans h.c2
 have hwb:(waitsN s:Int)≤1024:=by
  have h1:=List.countP_le_length (p:=fun x:Hst.Fd=>x.waits) (l:=s.fds)
  have h2:=ok.few
  unfold waitsN
  omega
 have HN:=Lib.hid hnow
 have HT:=Lib.hid htt
 have HP:=Lib.hid hpt
 have HC2:=Lib.hid hc2
 have H:=Lib.hid h
 have B0:=Lib.hid (show Below w.heap.size w w.drew from ⟨rfl,rfl,rfl,Nat.le_refl _,fun _ _=>rfl⟩)
 have B1:=Lib.hid (show ∀ o,Below w.heap.size w (w.alloc o).drew from fun o=>(⟨rfl,rfl,rfl,(zab w o).size,fun k hk=>(zab w o).block k hk⟩:Below w.heap.size w (w.alloc o).drew))
 have k0:=fun o=>(below_cell (o:=1) (zab w o) lb).trans c1
 have K0:=Lib.hid (show ∀ o,(w.alloc o).drew.cell? ⟨b,1,none⟩=some (.pointer (some ⟨B.tB,0,none⟩)) from k0)
 clear h ok hnow htt hpt hc2 k0 hT
 go_enter Tryz.func210,Tryz.ntmps210
 go_wp2_with fail
 refine wp_region_held_drew (S:=fun w'=>w'.cell? ⟨b,1,none⟩=some (.pointer (some ⟨B.tB,0,none⟩))) (by kernel_rfl) c1 (fun hHeld=>?_)
 refine wpAnyH_take (i:=0) (oi:={ dst:=some 10,op:=Op.move (Operand.tmp 0),type:=58,pos := "source.go:65",after:=#[],guard:=none }) (v:=.pointer (some ⟨b,0,none⟩)) rfl (by kernel_rfl) (by kernel_rfl) (by kernel_rfl) (fun _ _ _ h=>h) (Or.inl ⟨by rfl,by intro w hSw;go_simp⟩) (by assumption) ?_;simp only [Act.put,List.setIfInBounds_toArray,List.set_cons_zero,List.set_cons_succ]
 refine wpAnyH_take (i:=1) (oi:={ dst:=some 11,op:=Op.nilCheck (Operand.tmp 10),type:=0,pos := "source.go:65",after:=#[{ on:=0,ground:=Ground.data }],guard:=none }) (v:=.pointer (some ⟨b,0,none⟩)) rfl (by kernel_rfl) (by kernel_rfl) (by kernel_rfl) (fun _ _ _ h=>h) (Or.inl ⟨by rfl,by intro w hSw;go_simp⟩) (by assumption) ?_;simp only [Act.put,List.setIfInBounds_toArray,List.set_cons_zero,List.set_cons_succ]
 refine wpAnyH_take (i:=2) (oi:={ dst:=some 12,op:=Op.fieldAddr 134 (Operand.tmp 11) 1,type:=0,pos := "source.go:65",after:=#[{ on:=1,ground:=Ground.data }],guard:=none }) (v:=.pointer (some ⟨b,1,none⟩)) rfl (by kernel_rfl) (by kernel_rfl) (by kernel_rfl) (fun _ _ _ h=>h) (Or.inl ⟨by rfl,by intro w hSw;go_simp⟩) (by assumption) ?_;simp only [Act.put,List.setIfInBounds_toArray,List.set_cons_zero,List.set_cons_succ]
 refine wpAnyH_take (i:=3) (oi:={ dst:=some 13,op:=Op.load 131 (Operand.tmp 12),type:=131,pos := "source.go:65",after:=#[{ on:=2,ground:=Ground.data }],guard:=none }) (v:=.pointer (some ⟨B.tB,0,none⟩)) rfl (by kernel_rfl) (by kernel_rfl) (by kernel_rfl) (fun _ _ _ h=>h) (Or.inl ⟨by rfl,by intro w hSw;go_simp⟩) (by assumption) ?_;simp only [Act.put,List.setIfInBounds_toArray,List.set_cons_zero,List.set_cons_succ]
 refine wpAnyH_take (i:=4) (oi:={ dst:=some 14,op:=Op.move (Operand.tmp 0),type:=58,pos := "source.go:65",after:=#[],guard:=none }) (v:=.pointer (some ⟨b,0,none⟩)) rfl (by kernel_rfl) (by kernel_rfl) (by kernel_rfl) (fun _ _ _ h=>h) (Or.inl ⟨by rfl,by intro w hSw;go_simp⟩) (by assumption) ?_;simp only [Act.put,List.setIfInBounds_toArray,List.set_cons_zero,List.set_cons_succ]
 refine wpAnyH_ready (rs:=[5,10]) (by kernel_rfl) (by simp) (AllReadyH.cons (o:={ dst:=some 15,op:=Op.call { callee:=Callee.value (Operand.func 31),args:=#[Operand.tmp 14],argTypes:=#[58] },type:=2,pos := "source.go:65",after:=#[{ on:=4,ground:=Ground.data }],guard:=none }) rfl (fun _ hK=>?_) (AllReadyH.cons (o:={ dst:=some 4,op:=Op.alloc 245,type:=0,pos := "source.go:65",after:=#[],guard:=none }) rfl (fun _ hK=>?_) AllReadyH.nil))
 ·go_simp
  go_at_call 31
  refine (HN.out _ B0.out).mono ?_
  rintro e w2 ⟨rfl,hw⟩
  have hw:=hw.symm
  subst hw
  refine hK.out _ _ hHeld (fun hHeld=>?_)
  refine wpAnyH_ready (rs:=[6,10]) (by kernel_rfl) (by simp) (AllReadyH.cons (o:={ dst:=some 16,op:=Op.call { callee:=Callee.value (Operand.func 231),args:=#[Operand.tmp 13,Operand.tmp 15],argTypes:=#[131,2] },type:=246,pos := "source.go:65",after:=#[{ on:=3,ground:=Ground.data },{ on:=5,ground:=Ground.data },{ on:=5,ground:=Ground.chain }],guard:=none }) rfl (fun _ hK=>?_) (AllReadyH.cons (o:={ dst:=some 4,op:=Op.alloc 245,type:=0,pos := "source.go:65",after:=#[],guard:=none }) rfl (fun _ hK=>?_) AllReadyH.nil))
  ·go_simp
   go_at_call 231
   refine (HT.out _ B0.out).mono ?_
   rintro e w3 ⟨rfl,b3⟩
   have K3:=B0.out.trans (b3.mono B0.out.size)
   have k1:=(below_cell (o:=1) K3 lb).trans c1
   clear b3
   refine hK.out _ _ k1 (fun hHeld=>?_)
   refine wpAnyH_take (i:=7) (oi:={ dst:=some 9,op:=Op.move (Operand.tmp 16),type:=246,pos := "source.go:65",after:=#[{ on:=6,ground:=Ground.data }],guard:=none }) (v:=.tuple #[.agg #[.int .i64 0,.int .u64 0,.int .i64 0],.bool false]) rfl (by kernel_rfl) (by kernel_rfl) (by kernel_rfl) (fun _ _ _ h=>h) (Or.inl ⟨by rfl,by intro w hSw;go_simp⟩) (by assumption) ?_;simp only [Act.put,List.setIfInBounds_toArray,List.set_cons_zero,List.set_cons_succ]
   refine wpAnyH_take (i:=8) (oi:={ dst:=some 17,op:=Op.extract (Operand.tmp 9) 0,type:=245,pos := "source.go:65",after:=#[{ on:=7,ground:=Ground.data }],guard:=none }) (v:=.agg #[.int .i64 0,.int .u64 0,.int .i64 0]) rfl (by kernel_rfl) (by kernel_rfl) (by kernel_rfl) (fun _ _ _ h=>h) (Or.inl ⟨by rfl,by intro w hSw;go_simp⟩) (by assumption) ?_;simp only [Act.put,List.setIfInBounds_toArray,List.set_cons_zero,List.set_cons_succ]
   refine wpAnyH_take (i:=9) (oi:={ dst:=some 18,op:=Op.extract (Operand.tmp 9) 1,type:=4,pos := "source.go:65",after:=#[{ on:=7,ground:=Ground.data },{ on:=11,ground:=Ground.gcOnly Departure.lateStores }],guard:=none }) (v:=.bool false) rfl (by kernel_rfl) (by kernel_rfl) (by kernel_rfl) (fun _ _ _ h=>h) (Or.inl ⟨by rfl,by intro w hSw;go_simp⟩) (by assumption) ?_;simp only [Act.put,List.setIfInBounds_toArray,List.set_cons_zero,List.set_cons_succ]
   refine wpAnyH_ready (rs:=[10]) (by kernel_rfl) (by simp) (AllReadyH.cons (o:={ dst:=some 4,op:=Op.alloc 245,type:=0,pos := "source.go:65",after:=#[],guard:=none }) rfl (fun _ hK=>?_) AllReadyH.nil)
   go_simp
   refine hK.out _ _ ((below_cell (o:=1) (K3.trans ((zab w3 _).mono K3.size)) lb).trans c1) (fun hHeld=>?_)
   refine wpAnyH_ready (rs:=[11]) (by kernel_rfl) (by simp) (AllReadyH.cons (o:={ dst:=none,op:=Op.store 245 (Operand.tmp 4) (Operand.tmp 17),type:=0,pos := "source.go:65",after:=#[{ on:=10,ground:=Ground.data },{ on:=8,ground:=Ground.data },{ on:=6,ground:=Ground.chain },{ on:=0,ground:=Ground.phase },{ on:=1,ground:=Ground.phase },{ on:=2,ground:=Ground.phase },{ on:=3,ground:=Ground.phase },{ on:=4,ground:=Ground.phase },{ on:=5,ground:=Ground.phase },{ on:=6,ground:=Ground.phase },{ on:=7,ground:=Ground.phase },{ on:=8,ground:=Ground.phase },{ on:=9,ground:=Ground.textOnly Departure.lateStores },{ on:=10,ground:=Ground.phase }],guard:=none }) rfl (fun _ hK=>?_) AllReadyH.nil)
   go_simp
   refine hK.out _ _ ((below_cell (o:=1) (K3.trans ((zab w3 _).mono K3.size)) lb).trans c1) (fun hHeld=>?_)
   have KF:=K3.trans ((zab w3 (.cells #[.int .i64 0,.int .u64 0,.int .i64 0] 245)).mono K3.size)
   clear K3 k1
   refine wpAnyH_take (i:=12) (oi:={ dst:=some 5,op:=Op.assign (Operand.tmp 18),type:=4,pos := "source.go:65",after:=#[{ on:=9,ground:=Ground.data },{ on:=11,ground:=Ground.chain },{ on:=0,ground:=Ground.phase },{ on:=1,ground:=Ground.phase },{ on:=2,ground:=Ground.phase },{ on:=3,ground:=Ground.phase },{ on:=4,ground:=Ground.phase },{ on:=5,ground:=Ground.phase },{ on:=6,ground:=Ground.phase },{ on:=7,ground:=Ground.phase },{ on:=8,ground:=Ground.phase },{ on:=9,ground:=Ground.phase },{ on:=10,ground:=Ground.phase },{ on:=11,ground:=Ground.phase }],guard:=none }) (v:=.bool false) rfl (by kernel_rfl) (by kernel_rfl) (by kernel_rfl) (fun _ _ _ h=>h) (Or.inl ⟨by rfl,by intro w hSw;go_simp⟩) (by assumption) ?_;simp only [Act.put,List.setIfInBounds_toArray,List.set_cons_zero,List.set_cons_succ]
   refine wpAnyH_done (by kernel_rfl) ?_ _
   refine any_gen (fun W=>Below w.heap.size w W) KF ?_
   rintro W KW
   have c2W:=HC2.out W KW
   have HKW:=Lib.hid KW
   clear KF KW
   go_wp2_with fail
   refine (HP.out W HKW.out).mono ?_
   rintro e w5 (⟨hl,rfl,b5⟩ | ⟨y,wl',hl,rfl,hsr,k3,kf,hm,h1⟩)
   ·have K5:=Lib.hid (HKW.out.trans (b5.mono HKW.out.size))
    have HL:=Lib.hid hl
    clear hl b5
    go_wp2_with fail
    go_returns
    rw [show s.take=(s,0,false) by rw [HTN.out,HL.out]]
    exact ⟨rfl,⟨hs,hv,wl,_,(H.out.below hP.1 K5.out).agree hP.1 ⟨Nat.le_refl _,fun _ _ _=>rfl⟩ fun _ _ e=>.inl e⟩,Mod.of_below K5.out _⟩
   ·have HL:=Lib.hid hl
    have HSR:=Lib.hid hsr
    have HM:=Lib.hid hm
    obtain ⟨nw,hnw2⟩:∃ nw:Int,nw=(waitsN s:Int):=⟨_,rfl⟩
    rw [← hnw2] at HSR k3 hwb
    have w1o:IntKind.i64.wrap (nw - 1)=nw - 1:=IntWalk.i64_in _ (by omega)
    clear hl hsr hm hnw2 h1
    go_wp2_with fail
    go_returns
    rw [show s.take=({ s with fds:=s.fds.filter fun z=>z.fd != y.fd },y.g,true) by rw [HTN.out,HL.out]]
    refine ⟨rfl,⟨hs,hv,wl',_,HSR.out.agree hP.1 ⟨Nat.le_refl _,fun _ _ _=>rfl⟩ fun _ _ e=>.inl e⟩,?_⟩
    exact ((Mod.of_below HKW.out _).trans1 (HM.out.mono fun y _ e=>by rcases e with e | e;exact e ▸ H.out.inS.2.2.2.2.1;exact e ▸ H.out.inS.2.2.2.2.2.1)).setCell (.inl H.out.inS.1) _
  ·go_simp
   refine hK.out _ _ (K0.out _) (fun hHeld=>?_)
   refine wpAnyH_ready (rs:=[6]) (by kernel_rfl) (by simp) (AllReadyH.cons (o:={ dst:=some 16,op:=Op.call { callee:=Callee.value (Operand.func 231),args:=#[Operand.tmp 13,Operand.tmp 15],argTypes:=#[131,2] },type:=246,pos := "source.go:65",after:=#[{ on:=3,ground:=Ground.data },{ on:=5,ground:=Ground.data },{ on:=5,ground:=Ground.chain }],guard:=none }) rfl (fun _ hK=>?_) AllReadyH.nil)
   go_simp
   go_at_call 231
   refine (HT.out _ (B1.out _)).mono ?_
   rintro e w3 ⟨rfl,b3⟩
   have bx:=(b3.block w.heap.size (by simp)).trans (heap_alloc_new w _)
   have K3:=(B1.out _).trans (b3.mono (B1.out _).size)
   have k1:=(below_cell (o:=1) K3 lb).trans c1
   have u0:=zaa bx 0
   have u1:=zaa bx 1
   have u2:=zaa bx 2
   have uf:∀ o,w3.frozen? ⟨w.heap.size,o,none⟩=false:=fun o=>by simp [World.frozen?,bx]
   simp at u0 u1 u2
   have hbn:w.heap.size≠b:=by omega
   clear bx b3
   refine hK.out _ _ k1 (fun hHeld=>?_)
   refine wpAnyH_take (i:=7) (oi:={ dst:=some 9,op:=Op.move (Operand.tmp 16),type:=246,pos := "source.go:65",after:=#[{ on:=6,ground:=Ground.data }],guard:=none }) (v:=.tuple #[.agg #[.int .i64 0,.int .u64 0,.int .i64 0],.bool false]) rfl (by kernel_rfl) (by kernel_rfl) (by kernel_rfl) (fun _ _ _ h=>h) (Or.inl ⟨by rfl,by intro w hSw;go_simp⟩) (by assumption) ?_;simp only [Act.put,List.setIfInBounds_toArray,List.set_cons_zero,List.set_cons_succ]
   refine wpAnyH_take (i:=8) (oi:={ dst:=some 17,op:=Op.extract (Operand.tmp 9) 0,type:=245,pos := "source.go:65",after:=#[{ on:=7,ground:=Ground.data }],guard:=none }) (v:=.agg #[.int .i64 0,.int .u64 0,.int .i64 0]) rfl (by kernel_rfl) (by kernel_rfl) (by kernel_rfl) (fun _ _ _ h=>h) (Or.inl ⟨by rfl,by intro w hSw;go_simp⟩) (by assumption) ?_;simp only [Act.put,List.setIfInBounds_toArray,List.set_cons_zero,List.set_cons_succ]
   refine wpAnyH_take (i:=9) (oi:={ dst:=some 18,op:=Op.extract (Operand.tmp 9) 1,type:=4,pos := "source.go:65",after:=#[{ on:=7,ground:=Ground.data },{ on:=11,ground:=Ground.gcOnly Departure.lateStores }],guard:=none }) (v:=.bool false) rfl (by kernel_rfl) (by kernel_rfl) (by kernel_rfl) (fun _ _ _ h=>h) (Or.inl ⟨by rfl,by intro w hSw;go_simp⟩) (by assumption) ?_;simp only [Act.put,List.setIfInBounds_toArray,List.set_cons_zero,List.set_cons_succ]
   refine wpAnyH_ready (rs:=[11]) (by kernel_rfl) (by simp) (AllReadyH.cons (o:={ dst:=none,op:=Op.store 245 (Operand.tmp 4) (Operand.tmp 17),type:=0,pos := "source.go:65",after:=#[{ on:=10,ground:=Ground.data },{ on:=8,ground:=Ground.data },{ on:=6,ground:=Ground.chain },{ on:=0,ground:=Ground.phase },{ on:=1,ground:=Ground.phase },{ on:=2,ground:=Ground.phase },{ on:=3,ground:=Ground.phase },{ on:=4,ground:=Ground.phase },{ on:=5,ground:=Ground.phase },{ on:=6,ground:=Ground.phase },{ on:=7,ground:=Ground.phase },{ on:=8,ground:=Ground.phase },{ on:=9,ground:=Ground.textOnly Departure.lateStores },{ on:=10,ground:=Ground.phase }],guard:=none }) rfl (fun _ hK=>?_) AllReadyH.nil)
   go_simp
   have KF:=((K3.setCell (p:=⟨w.heap.size,0,none⟩) (Nat.le_refl _) (.int .i64 0)).setCell (p:=⟨w.heap.size,1,none⟩) (Nat.le_refl _) (.int .u64 0)).setCell (p:=⟨w.heap.size,2,none⟩) (Nat.le_refl _) (.int .i64 0)
   refine hK.out _ _ ((below_cell (o:=1) KF lb).trans c1) (fun hHeld=>?_)
   clear K3 k1 u0 u1 u2 uf
   refine wpAnyH_take (i:=12) (oi:={ dst:=some 5,op:=Op.assign (Operand.tmp 18),type:=4,pos := "source.go:65",after:=#[{ on:=9,ground:=Ground.data },{ on:=11,ground:=Ground.chain },{ on:=0,ground:=Ground.phase },{ on:=1,ground:=Ground.phase },{ on:=2,ground:=Ground.phase },{ on:=3,ground:=Ground.phase },{ on:=4,ground:=Ground.phase },{ on:=5,ground:=Ground.phase },{ on:=6,ground:=Ground.phase },{ on:=7,ground:=Ground.phase },{ on:=8,ground:=Ground.phase },{ on:=9,ground:=Ground.phase },{ on:=10,ground:=Ground.phase },{ on:=11,ground:=Ground.phase }],guard:=none }) (v:=.bool false) rfl (by kernel_rfl) (by kernel_rfl) (by kernel_rfl) (fun _ _ _ h=>h) (Or.inl ⟨by rfl,by intro w hSw;go_simp⟩) (by assumption) ?_;simp only [Act.put,List.setIfInBounds_toArray,List.set_cons_zero,List.set_cons_succ]
   refine wpAnyH_done (by kernel_rfl) ?_ _
   refine any_gen (fun W=>Below w.heap.size w W) KF ?_
   rintro W KW
   have c2W:=HC2.out W KW
   have HKW:=Lib.hid KW
   clear KF KW
   go_wp2_with fail
   refine (HP.out W HKW.out).mono ?_
   rintro e w5 (⟨hl,rfl,b5⟩ | ⟨y,wl',hl,rfl,hsr,k3,kf,hm,h1⟩)
   ·have K5:=Lib.hid (HKW.out.trans (b5.mono HKW.out.size))
    have HL:=Lib.hid hl
    clear hl b5
    go_wp2_with fail
    go_returns
    rw [show s.take=(s,0,false) by rw [HTN.out,HL.out]]
    exact ⟨rfl,⟨hs,hv,wl,_,(H.out.below hP.1 K5.out).agree hP.1 ⟨Nat.le_refl _,fun _ _ _=>rfl⟩ fun _ _ e=>.inl e⟩,Mod.of_below K5.out _⟩
   ·have HL:=Lib.hid hl
    have HSR:=Lib.hid hsr
    have HM:=Lib.hid hm
    obtain ⟨nw,hnw2⟩:∃ nw:Int,nw=(waitsN s:Int):=⟨_,rfl⟩
    rw [← hnw2] at HSR k3 hwb
    have w1o:IntKind.i64.wrap (nw - 1)=nw - 1:=IntWalk.i64_in _ (by omega)
    clear hl hsr hm hnw2 h1
    go_wp2_with fail
    go_returns
    rw [show s.take=({ s with fds:=s.fds.filter fun z=>z.fd != y.fd },y.g,true) by rw [HTN.out,HL.out]]
    refine ⟨rfl,⟨hs,hv,wl',_,HSR.out.agree hP.1 ⟨Nat.le_refl _,fun _ _ _=>rfl⟩ fun _ _ e=>.inl e⟩,?_⟩
    exact ((Mod.of_below HKW.out _).trans1 (HM.out.mono fun y _ e=>by rcases e with e | e;exact e ▸ H.out.inS.2.2.2.2.1;exact e ▸ H.out.inS.2.2.2.2.2.1)).setCell (.inl H.out.inS.1) _
 ·go_simp
  refine hK.out _ _ (K0.out _) (fun hHeld=>?_)
  refine wpAnyH_ready (rs:=[5]) (by kernel_rfl) (by simp) (AllReadyH.cons (o:={ dst:=some 15,op:=Op.call { callee:=Callee.value (Operand.func 31),args:=#[Operand.tmp 14],argTypes:=#[58] },type:=2,pos := "source.go:65",after:=#[{ on:=4,ground:=Ground.data }],guard:=none }) rfl (fun _ hK=>?_) AllReadyH.nil)
  go_simp
  go_at_call 31
  refine (HN.out _ (B1.out _)).mono ?_
  rintro e w2 ⟨rfl,hw⟩
  have hw:=hw.symm
  subst hw
  refine hK.out _ _ hHeld (fun hHeld=>?_)
  refine wpAnyH_ready (rs:=[6]) (by kernel_rfl) (by simp) (AllReadyH.cons (o:={ dst:=some 16,op:=Op.call { callee:=Callee.value (Operand.func 231),args:=#[Operand.tmp 13,Operand.tmp 15],argTypes:=#[131,2] },type:=246,pos := "source.go:65",after:=#[{ on:=3,ground:=Ground.data },{ on:=5,ground:=Ground.data },{ on:=5,ground:=Ground.chain }],guard:=none }) rfl (fun _ hK=>?_) AllReadyH.nil)
  go_simp
  go_at_call 231
  refine (HT.out _ (B1.out _)).mono ?_
  rintro e w3 ⟨rfl,b3⟩
  have bx:=(b3.block w.heap.size (by simp)).trans (heap_alloc_new w _)
  have K3:=(B1.out _).trans (b3.mono (B1.out _).size)
  have k1:=(below_cell (o:=1) K3 lb).trans c1
  have u0:=zaa bx 0
  have u1:=zaa bx 1
  have u2:=zaa bx 2
  have uf:∀ o,w3.frozen? ⟨w.heap.size,o,none⟩=false:=fun o=>by simp [World.frozen?,bx]
  simp at u0 u1 u2
  have hbn:w.heap.size≠b:=by omega
  clear bx b3
  refine hK.out _ _ k1 (fun hHeld=>?_)
  refine wpAnyH_take (i:=7) (oi:={ dst:=some 9,op:=Op.move (Operand.tmp 16),type:=246,pos := "source.go:65",after:=#[{ on:=6,ground:=Ground.data }],guard:=none }) (v:=.tuple #[.agg #[.int .i64 0,.int .u64 0,.int .i64 0],.bool false]) rfl (by kernel_rfl) (by kernel_rfl) (by kernel_rfl) (fun _ _ _ h=>h) (Or.inl ⟨by rfl,by intro w hSw;go_simp⟩) (by assumption) ?_;simp only [Act.put,List.setIfInBounds_toArray,List.set_cons_zero,List.set_cons_succ]
  refine wpAnyH_take (i:=8) (oi:={ dst:=some 17,op:=Op.extract (Operand.tmp 9) 0,type:=245,pos := "source.go:65",after:=#[{ on:=7,ground:=Ground.data }],guard:=none }) (v:=.agg #[.int .i64 0,.int .u64 0,.int .i64 0]) rfl (by kernel_rfl) (by kernel_rfl) (by kernel_rfl) (fun _ _ _ h=>h) (Or.inl ⟨by rfl,by intro w hSw;go_simp⟩) (by assumption) ?_;simp only [Act.put,List.setIfInBounds_toArray,List.set_cons_zero,List.set_cons_succ]
  refine wpAnyH_take (i:=9) (oi:={ dst:=some 18,op:=Op.extract (Operand.tmp 9) 1,type:=4,pos := "source.go:65",after:=#[{ on:=7,ground:=Ground.data },{ on:=11,ground:=Ground.gcOnly Departure.lateStores }],guard:=none }) (v:=.bool false) rfl (by kernel_rfl) (by kernel_rfl) (by kernel_rfl) (fun _ _ _ h=>h) (Or.inl ⟨by rfl,by intro w hSw;go_simp⟩) (by assumption) ?_;simp only [Act.put,List.setIfInBounds_toArray,List.set_cons_zero,List.set_cons_succ]
  refine wpAnyH_ready (rs:=[11]) (by kernel_rfl) (by simp) (AllReadyH.cons (o:={ dst:=none,op:=Op.store 245 (Operand.tmp 4) (Operand.tmp 17),type:=0,pos := "source.go:65",after:=#[{ on:=10,ground:=Ground.data },{ on:=8,ground:=Ground.data },{ on:=6,ground:=Ground.chain },{ on:=0,ground:=Ground.phase },{ on:=1,ground:=Ground.phase },{ on:=2,ground:=Ground.phase },{ on:=3,ground:=Ground.phase },{ on:=4,ground:=Ground.phase },{ on:=5,ground:=Ground.phase },{ on:=6,ground:=Ground.phase },{ on:=7,ground:=Ground.phase },{ on:=8,ground:=Ground.phase },{ on:=9,ground:=Ground.textOnly Departure.lateStores },{ on:=10,ground:=Ground.phase }],guard:=none }) rfl (fun _ hK=>?_) AllReadyH.nil)
  go_simp
  have KF:=((K3.setCell (p:=⟨w.heap.size,0,none⟩) (Nat.le_refl _) (.int .i64 0)).setCell (p:=⟨w.heap.size,1,none⟩) (Nat.le_refl _) (.int .u64 0)).setCell (p:=⟨w.heap.size,2,none⟩) (Nat.le_refl _) (.int .i64 0)
  refine hK.out _ _ ((below_cell (o:=1) KF lb).trans c1) (fun hHeld=>?_)
  clear K3 k1 u0 u1 u2 uf
  refine wpAnyH_take (i:=12) (oi:={ dst:=some 5,op:=Op.assign (Operand.tmp 18),type:=4,pos := "source.go:65",after:=#[{ on:=9,ground:=Ground.data },{ on:=11,ground:=Ground.chain },{ on:=0,ground:=Ground.phase },{ on:=1,ground:=Ground.phase },{ on:=2,ground:=Ground.phase },{ on:=3,ground:=Ground.phase },{ on:=4,ground:=Ground.phase },{ on:=5,ground:=Ground.phase },{ on:=6,ground:=Ground.phase },{ on:=7,ground:=Ground.phase },{ on:=8,ground:=Ground.phase },{ on:=9,ground:=Ground.phase },{ on:=10,ground:=Ground.phase },{ on:=11,ground:=Ground.phase }],guard:=none }) (v:=.bool false) rfl (by kernel_rfl) (by kernel_rfl) (by kernel_rfl) (fun _ _ _ h=>h) (Or.inl ⟨by rfl,by intro w hSw;go_simp⟩) (by assumption) ?_;simp only [Act.put,List.setIfInBounds_toArray,List.set_cons_zero,List.set_cons_succ]
  refine wpAnyH_done (by kernel_rfl) ?_ _
  refine any_gen (fun W=>Below w.heap.size w W) KF ?_
  rintro W KW
  have c2W:=HC2.out W KW
  have HKW:=Lib.hid KW
  clear KF KW
  go_wp2_with fail
  refine (HP.out W HKW.out).mono ?_
  rintro e w5 (⟨hl,rfl,b5⟩ | ⟨y,wl',hl,rfl,hsr,k3,kf,hm,h1⟩)
  ·have K5:=Lib.hid (HKW.out.trans (b5.mono HKW.out.size))
   have HL:=Lib.hid hl
   clear hl b5
   go_wp2_with fail
   go_returns
   rw [show s.take=(s,0,false) by rw [HTN.out,HL.out]]
   exact ⟨rfl,⟨hs,hv,wl,_,(H.out.below hP.1 K5.out).agree hP.1 ⟨Nat.le_refl _,fun _ _ _=>rfl⟩ fun _ _ e=>.inl e⟩,Mod.of_below K5.out _⟩
  ·have HL:=Lib.hid hl
   have HSR:=Lib.hid hsr
   have HM:=Lib.hid hm
   obtain ⟨nw,hnw2⟩:∃ nw:Int,nw=(waitsN s:Int):=⟨_,rfl⟩
   rw [← hnw2] at HSR k3 hwb
   have w1o:IntKind.i64.wrap (nw - 1)=nw - 1:=IntWalk.i64_in _ (by omega)
   clear hl hsr hm hnw2 h1
   go_wp2_with fail
   go_returns
   rw [show s.take=({ s with fds:=s.fds.filter fun z=>z.fd != y.fd },y.g,true) by rw [HTN.out,HL.out]]
   refine ⟨rfl,⟨hs,hv,wl',_,HSR.out.agree hP.1 ⟨Nat.le_refl _,fun _ _ _=>rfl⟩ fun _ _ e=>.inl e⟩,?_⟩
   exact ((Mod.of_below HKW.out _).trans1 (HM.out.mono fun y _ e=>by rcases e with e | e;exact e ▸ H.out.inS.2.2.2.2.1;exact e ▸ H.out.inS.2.2.2.2.2.1)).setCell (.inl H.out.inS.1) _
end
section
variable {F:Fix} {V:Vol} {ow0 ow:Nat→Nat} {w0 w:World} {p:Wd}
theorem On.srcMod (h:On F V ow0 w0 ow w p) {w':World} {s':Hst.Src} (hx:SrcAt (grow ow w.heap.size 7 ·=7) F.src w' p.P s') (hm:Mod (fun y=>ow y=7∧y<w.heap.size) w w'):On F V ow0 w0 (grow ow w.heap.size 7) w' { p with src:=s' }:=by
 obtain ⟨ha,hst⟩:=h
 obtain ⟨l1,l2,l3,l4,l5⟩:=ha.lens
 have hs:∀ x,x<w.heap.size→(ow x=7∧x<w.heap.size)→ow x=7:=fun _ _ e=>e.1
 exact ⟨ha.upd (·=7) ⟨rfl,rfl,rfl⟩ ⟨l1,l2,l3,l4,l5⟩ (fun b hb=>grow_lt hb) (hm.agree hs)
  (.inl ⟨by omega,rfl⟩) (.inl ⟨by omega,rfl⟩) (.inl ⟨by omega,rfl⟩) (by omega) (fun q hq=>.inl ⟨by omega,rfl⟩)
  (.inl ⟨by omega,rfl⟩) (.inl ⟨by omega,rfl⟩) (.inr hx) (.inl ⟨by omega,rfl⟩) (.inl ⟨by omega,rfl,rfl⟩) (fun j hj=>.inl ⟨by omega,rfl,rfl⟩) (.inl ⟨by omega,rfl⟩) (.inl ⟨by omega,rfl,rfl⟩),hst.trans (hm.stp hs (by omega) 7)⟩
theorem WAt.src7 (h:WAt F V ow w p):∃ B hs hv wl hl,SrcH (fun x=>ow x=7∧x<w.heap.size) F.src B w p.P p.src hs hv wl hl:=by
 obtain ⟨B,hs,hv,wl,hl,hh⟩:=h.csrc
 exact ⟨B,hs,hv,wl,hl,hh.agree h.dim.1 ⟨Nat.le_refl _,fun _ _ _=>rfl⟩ fun x hx e=>⟨e,hx⟩⟩
theorem On.srcH (h:On F V ow0 w0 ow w p) {B:SrcF} {hs:Nat→List Ent} {hv:Nat→Value} {wl hl:List (Int × Value)} {w':World} {s':Hst.Src} (hx:SrcH (fun x=>(ow x=7∧x<w.heap.size)∨w.heap.size≤x) F.src B w' p.P s' hs hv wl hl) (hm:Mod (fun y=>ow y=7∧y<w.heap.size) w w'):On F V ow0 w0 (grow ow w.heap.size 7) w' { p with src:=s' } :=
 h.srcMod ⟨B,hs,hv,wl,hl,hx.agree h.at_.dim.1 ⟨Nat.le_refl _,fun _ _ _=>rfl⟩ fun y _ e=>by rcases e with e | e;exact (grow_lt e.2).trans e.1;exact grow_ge e⟩ hm
end
theorem do_14 (N:Nat) (p:Wd) (i:Nat) (t:Int) (hi:i<p.M) (ok:SrcOK p.src p.G) (hpl:(p.mach i).place=14):DoOK N p i t (p.doIt i t).1 (p.doIt i t).2:=by
 intro F V ow w h E
 have e:p.doIt i t=(p.setF i p.src.due,false):=by
  unfold Wd.doIt;simp only [hpl]
 rw [e]
 have c13:=h.cW_all
 have c14:=h.cW_flag
 have c11:=h.cW_src
 have c0:=h.cA_place hi
 have hM:=h.dim
 have hcap:=h.own_cap
 rw [hpl] at c0
 unfold dims at hM
 obtain ⟨B,hs,hv,wl,hl,h7⟩:=(On.start h).drew.at_.src7
 have ht:=sdue_any h7 ok hM.2.1
 have H:=Lib.hid h
 have HO:=Lib.hid ht
 obtain ⟨nf1,nf2,nf3,na1,na2,na3⟩:=h.own.nf
 clear h E e ht h7 hpl
 go_enter Tryz.func178,Tryz.ntmps178
 go_wp2
 go_region_held3 (fun w'=>w'.cell? ⟨F.W,11,none⟩=some (.pointer (some ⟨F.src,0,none⟩))∧w'.cell? ⟨F.W,14,none⟩=some (.slice (some ⟨F.flag,0,none⟩) p.M p.M))
  (first | exact ⟨c11,c14⟩ | exact ⟨k11,k14⟩ | exact ⟨(cell_far nf1 _).trans k11,(cell_far nf1 _).trans k14⟩)
  (first | (go_at_call 55;refine HO.out.mono ?_;rintro e w1 ⟨rfl,hb⟩;have h1:=(On.start H.out).drew.belowK hb 7;have k11:w1.cell? ⟨F.W,11,none⟩=some (.pointer (some ⟨F.src,0,none⟩)):=h1.at_.cW_src;have k14:w1.cell? ⟨F.W,14,none⟩=some (.slice (some ⟨F.flag,0,none⟩) p.M p.M):=h1.at_.cW_flag;have kf:=h1.at_.cF hi;have kF:=h1.at_.cflag.2;have H1:=Lib.hid h1;clear h1 hb))
 go_wp2
 go_returns
 exact ⟨rfl,V,_,H1.out.s_flag hi _⟩
theorem do_25 (N:Nat) (p:Wd) (i:Nat) (t:Int) (hi:i<p.M) (ok:SrcOK p.src p.G) (hpl:(p.mach i).place=25):DoOK N p i t (p.doIt i t).1 (p.doIt i t).2:=by
 intro F V ow w h E
 have e:p.doIt i t=(({ p with src:=p.src.take.1 }:Wd).one i p.src.take.2.1 p.src.take.2.2,false):=by
  unfold Wd.doIt;simp only [hpl]
 rw [e]
 have c13:=h.cW_all
 have c11:=h.cW_src
 have c0:=h.cA_place hi
 have hM:=h.dim
 have hcap:=h.own_cap
 rw [hpl] at c0
 unfold dims at hM
 obtain ⟨B,hs,hv,wl,hl,h7⟩:=h.src7
 have ht:Calls Tryz.prog 210 #[.pointer (some ⟨F.src,0,none⟩)] w fun e w'=>e=.returned (.tuple #[.int .i64 p.src.take.2.1,.bool p.src.take.2.2]) ∧
   (∃ hs' hv' wl' hl',SrcH (fun x=>(ow x=7∧x<w.heap.size)∨w.heap.size≤x) F.src B w' p.P p.src.take.1 hs' hv' wl' hl')∧Mod (fun y=>ow y=7∧y<w.heap.size) w w':=by
  cases hd:p.src.timerDue
  ·exact stake_fd h7 ok ⟨hM.1,hM.2.1⟩ hd
  ·have hl:=due_law p.src.now h7.heap h7.perm
   rw [show (p.src.tm.any fun e=>decide (e.whenT≤p.src.now))=p.src.timerDue from rfl,hd] at hl
   cases hb:bestH hs p.P with
   | none=>rw [hb] at hl;exact absurd hl (by simp [dueB])
   | some q =>
    rw [hb] at hl
    exact stake_tm h7 ok ⟨hM.1,hM.2.1⟩ q hb (by simpa [dueB] using hl)
 have H:=Lib.hid h
 have HO:=Lib.hid ht
 clear h E e ht h7 hpl
 go_enter Tryz.func178,Tryz.ntmps178
 go_wp2_with fail
 refine HO.out.mono ?_
 rintro e w1 ⟨rfl,⟨hs',hv',wl',hl',hx⟩,hm⟩
 have h1:=(On.start H.out).srcH hx hm
 have H1:=Lib.hid h1
 clear h1 hx hm HO
 go_wp2_with fail
 refine (one_on H1.out.at_ i hi _ _).mono ?_
 rintro e w2 ⟨rfl,V2,ow2,_,h2⟩
 go_wp2
 go_returns
 exact ⟨rfl,_,_,H1.out.then_ h2⟩
end Go.Proofs.YtlmmjgekolpekaaGreatDoor
