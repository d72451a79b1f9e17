/- Parts of the proof. -/
import Derived.Test.YtlmmjgekolpekaaGreatDoorMPq15
import Derived.Test.YtlmmjgekolpekaaGreatDoorMPq05
set_option linter.unusedVariables false
set_option linter.unusedSimpArgs false
set_option linter.unusedSectionVars false
set_option maxRecDepth 100000
set_option maxHeartbeats 6400000
namespace Go.Proofs.YtlmmjgekolpekaaGreatDoor
open Go Go.RowKit Hst Go.Proofs Go.Sort Go.Shelf
theorem sortsU (m:Nat):v_SortsIn Fence.wide m :=
 ⟨fun blk off cap ss W hH hblk hsz=>callsIn_wide.2 (u_slices_Sort blk off cap ss W hH hblk hsz),fun p cap W=>callsIn_wide.2 (u_Sort_nil p cap W)⟩
theorem row_u16 {w:World} {base:Nat} {v:Value} {ks:List Int} (h:w.ownsRow base 171 1 v ks.length (ks.map encU)) :
  ∃ a c,v=.slice a ks.length c∧(ks=[]∨∃ b,a=some ⟨b,0,none⟩∧b<w.heap.size∧∀ j,j<ks.length→w.cell? ⟨b,j,none⟩=some (.int .u16 (ks.getD j 0))):=by
 rcases Nat.eq_zero_or_pos ks.length with h0 | h0
 ·have hl:ks=[]:=List.eq_nil_of_length_eq_zero h0
  subst hl
  obtain ⟨a,c,rfl⟩:=zac h
  exact ⟨a,c,rfl,.inl rfl⟩
 ·obtain ⟨g,cap,rfl,hg,hb,_⟩:=zar h h0
  have hc:∀ j,j<ks.length→w.cell? ⟨g,j,none⟩=some (.int .u16 (ks.getD j 0)):=fun j hj=>by
   rw [h.cellAt j (by simpa using hj)]
   simp [encU,List.getD_eq_getElem?_getD,List.getElem?_eq_getElem hj]
  exact ⟨_,cap,rfl,.inr ⟨g,rfl,World.block_lt_of_cell? w _ (hc 0 h0),hc⟩⟩
section
variable {w:World} {pB fB wB:Nat} {l:List Hst.Fd} {wl:List (Int × Value)}
theorem skeys_call (fB:Nat) (w:World):Calls Tryz.prog 245 #[.map (some fB)] w fun e w' =>
  e=.returned (.func (.func 256) #[] #[.pointer (some ⟨w.heap.size,0,none⟩)])∧w'=w.alloc (.cells #[.map (some fB)] 205) :=
 (callsIn_wide (n:=5)).1 (v_keys_in Fence.wide 5 trivial rfl (some fB) w)
theorem sorted_call {w1:World} (hf:IMap .u16 w1 fB (l.map fdV)) (hN:((l.map fdV).map (·.1)).Nodup) (hb:∀ x,x∈l→x.fd<65536) (hl:l.length≤1024) (Bm:Nat) (hBm:w1.cell? ⟨Bm,0,none⟩=some (.map (some fB))) :
  Calls Tryz.prog 244 #[.func (.func 256) #[] #[.pointer (some ⟨Bm,0,none⟩)]] w1 fun e w' =>
   ∃ (v:Value) (ks:List Int),e=.returned v∧ks.Perm (l.map fun x=>(x.fd:Int))∧ks.Pairwise (·≤·)∧w'.ownsRow w1.heap.size 171 1 v ks.length (ks.map encU)∧Below w1.heap.size w1 w':=by
 have hown:=imap_owns hf hN hb hl
 have hsz:Maps.size (fdsD l)=l.length:=fdsD_size l
 have hseq:=v_keys_gives Fence.wide (6 - 1 - 1 - 1) trivial rfl (by omega) Bm fB 1024 (fdsD l) w1 (World.block_lt_of_cell? w1 _ hBm) hBm hown
 have cS:=v_sorted_in Fence.wide 6 trivial trivial trivial trivial rfl (by omega) (sortsU _) (enters_of Tryz.func255 (by kernel_rfl) rfl) 256 #[.pointer (some ⟨Bm,0,none⟩)] trivial
  (enters_of Tryz.func256 (by kernel_rfl) rfl) _ _ (by rw [hsz];unfold maxLen;omega) (by rw [hsz];omega) w1 hseq
 refine ((callsIn_wide (n:=6)).1 cS).mono ?_
 rintro e w' ⟨v,ss,he,hp,hrow,_,hbl⟩
 have hlen:(ss.mergeSort (fun x y=>decide (x≤y))).length=ss.length:=List.length_mergeSort ss
 refine ⟨v,ss.mergeSort (fun x y=>decide (x≤y)),he,((List.mergeSort_perm ss _).trans hp).trans (fdsD_keys l),?_,by rw [hlen];exact hrow,hbl⟩
 have:=List.pairwise_mergeSort (le:=fun x y:Int=>decide (x≤y)) (fun a b c h1 h2=>by simp only [decide_eq_true_eq] at *;omega) (fun a b=>by simp only [Bool.or_eq_true,decide_eq_true_eq];omega) ss
 exact this.imp fun {a b} h=>by simpa using h
theorem ptake_any {s:Src} {G:Nat} (ok:SrcOK s G) (h:PollH w pB fB wB s.fds wl) (hW:(wl.map (·.1)).Nodup) (hne:fB≠pB∧fB≠wB∧wB≠pB) :
  Calls Tryz.prog 232 #[.pointer (some ⟨pB,0,none⟩)] w fun e w' =>
   (zej s.fds=none∧e=.returned (.tuple #[.int .u16 0,.int .i64 0,.bool false])∧Below w.heap.size w w') ∨
   ∃ x,zej s.fds=some x∧e=.returned (.tuple #[.int .u16 x.fd,.int .i64 x.g,.bool true])∧PollH w' pB fB wB (s.fds.filter fun y=>y.fd != x.fd) (wl.filter fun p=>decide (p.1≠x.g))∧Mod (fun b=>b=fB∨b=wB) w w':=by
 have hN:=zbP ok.fd1
 have lp:=World.block_lt_of_cell? w _ h.p0
 simp only at lp
 have p0:=h.p0
 have cK:=skeys_call fB
 have hb0:Below w.heap.size w (w.alloc (.cells #[.map (some fB)] 205)):=zab w _
 have cS:=sorted_call (h.below hb0).fds hN ok.fd ok.few w.heap.size (zaa (heap_alloc_new w _) 0)
 have H:=Lib.hid h
 have HN:=Lib.hid hN
 have OK:=Lib.hid ok
 have HW:=Lib.hid hW
 have HE:=Lib.hid hne
 have CK:=Lib.hid cK
 have CS:=Lib.hid cS
 clear h hN hW hne ok cK cS hb0
 go_enter Tryz.func232,Tryz.ntmps232
 go_wp2_with fail
 refine (CK.out w).mono ?_
 rintro e w1 ⟨rfl,rfl⟩
 go_wp2_with fail
 refine CS.out.mono ?_
 rintro e w1 ⟨v,ks,rfl,hp,hs,hrow,hb1⟩
 obtain ⟨va,vc,rfl,hvc⟩:=row_u16 hrow
 have B1:Below w.heap.size w w1:=(zab w _).trans (hb1.mono (by simp))
 have hlen:ks.length≤1024:=by
  have:=hp.length_eq
  rw [List.length_map] at this
  have:=OK.out.few
  omega
 have HP:=Lib.hid hp
 have HS:=Lib.hid hs
 have HB1:=Lib.hid B1
 have HVC:=Lib.hid hvc
 clear hp hs hrow hb1 hvc B1 CK CS
 go_wp2_with fail
 go_loopw [15] (fun i wr=>∃ j:Nat,i=.int .i64 (j:Int)∧j≤ks.length∧(∀ y,y∈s.fds→∀ i,i<j→ks[i]?=some (y.fd:Int)→(y.waits && y.ready)=false)∧Below w.heap.size w wr∧Below w1.heap.size w1 wr) (fun i _=>ks.length - (intOf i).toNat)
 case atStart=>exact ⟨0,rfl,Nat.zero_le _,(fun y _ i hi=>absurd hi (Nat.not_lt_zero i)),HB1.out,Below.refl _ _⟩
 case round =>
  obtain ⟨j,rfl,hj,hbef,K,K1⟩:=hrel
  have HBEF:=Lib.hid hbef
  clear hbef
  by_cases hjl:j<ks.length
  ·have hji:(j:Int)<(ks.length:Int):=by omega
   rcases HVC.out with rfl | ⟨b,rfl,hbl,hc⟩
   ·simp at hjl
   have hkm:ks[j]∈s.fds.map fun x=>(x.fd:Int):=HP.out.mem_iff.1 (List.getElem_mem hjl)
   obtain ⟨x,hx,hxk⟩:=List.mem_map.1 hkm
   have hkj:ks[j]?=some (x.fd:Int):=by rw [List.getElem?_eq_getElem hjl,← hxk]
   have hcj:wr.cell? ⟨b,j,none⟩=some (.int .u16 (x.fd:Int)):=by
    rw [below_cell K1 hbl,hc j hjl,List.getD_eq_getElem?_getD,hkj]
    rfl
   have h1:=H.out.below K
   have p0:=h1.p0
   have hlk:=h1.look HN.out x.fd
   have hfind:(s.fds.find? fun y=>y.fd==x.fd).getD fd0=x:=by
    cases hf:s.fds.find? fun y=>y.fd==x.fd with
    | none =>
     have:=List.find?_eq_none.1 hf x hx
     simp at this
    | some z =>
     have h2:=List.find?_some hf
     exact zaS (OK.out.fd1 x.fd) (List.mem_of_find?_eq_some hf) hx h2 (by simp)
   rw [hfind] at hlk
   have HX:=Lib.hid (And.intro hx hkj)
   have H1:=Lib.hid h1
   have HK:=Lib.hid K
   have HK1:=Lib.hid K1
   have hblr:b<wr.heap.size:=Nat.lt_of_lt_of_le hbl K1.size
   have hpr:pB<wr.heap.size:=Nat.lt_of_lt_of_le lp K.size
   clear hkm hxk hkj hx hfind h1 K K1 hc
   obtain ⟨xf,xg,xw,xr⟩:=x
   unfold fdC at hlk
   dsimp only at hlk hcj HX ⊢
   have hnext:(xw && xr)=false→∀ y,y∈s.fds→∀ i,i<j+1→ks[i]?=some (y.fd:Int)→(y.waits && y.ready)=false:=by
    intro hf y hy i hi hk
    rcases Nat.lt_succ_iff_lt_or_eq.1 hi with h2 | rfl
    ·exact HBEF.out y hy i h2 hk
    ·have e:y.fd=xf:=by
      have:=hk.symm.trans HX.out.2
      exact Int.ofNat.inj (Option.some.inj this)
     have:=zaS (OK.out.fd1 xf) hy HX.out.1 (by simpa using e) (by simp)
     rw [this]
     exact hf
   have HNX:=Lib.hid hnext
   clear hnext
   by_cases hd:xw=true∧xr=true
   ·obtain ⟨rfl,rfl⟩:=hd
    have h2:=H1.out.below (zab wr (.cells #[.int .i64 xg,.bool true,.bool true] 212))
    obtain ⟨w2,hdel,hm2,hmod2⟩:=IMap.delete (P:=Tryz.prog) (ty:=0) Tryz.underlying205 Tryz.underlying171 h2.fds HN.out (xf:Int)
    rw [del_fd] at hm2
    have q1:w2.cell? ⟨pB,1,none⟩=some (.map (some wB)):=hmod2.cell (a:=⟨pB,1,none⟩) (fun e=>HE.out.1 e.symm) h2.p1
    have q0:w2.cell? ⟨pB,0,none⟩=some (.map (some fB)):=hmod2.cell (a:=⟨pB,0,none⟩) (fun e=>HE.out.1 e.symm) h2.p0
    have hw2:=h2.who.congr (hmod2.block wB h2.who.lt (fun e=>HE.out.2.1 e.symm))
    have bx:w2.heap[wr.heap.size]?=some (.cells #[.int .i64 xg,.bool true,.bool true] 212 (0,0)):=(hmod2.block wr.heap.size (by simp) (by have:=H1.out.fds.lt;show ¬ wr.heap.size=fB;omega)).trans (heap_alloc_new wr _)
    have x0:=zaa bx 0
    simp at x0
    obtain ⟨w3,hdel2,hm3,hmod3⟩:=IMap.delete (P:=Tryz.prog) (ty:=0) (w:=w2.drew) Tryz.underlying206 Tryz.underlying3 (hw2.same (w':=w2.drew) rfl) HW.out xg
    have bx3:w3.heap[wr.heap.size]?=some (.cells #[.int .i64 xg,.bool true,.bool true] 212 (0,0)):=(hmod3.block wr.heap.size (zaB bx) (by have:=H1.out.who.lt;show ¬ wr.heap.size=wB;omega)).trans bx
    have y0:=zaa bx3 0
    simp at y0
    have HM2:=Lib.hid hm2
    have HM3:=Lib.hid hm3
    have HD2:=Lib.hid hmod2
    have HD3:=Lib.hid hmod3
    have Q0:=Lib.hid q0
    have Q1:=Lib.hid q1
    clear hm2 hm3 hmod2 hmod3 q0 bx bx3 hw2 h2
    go_wp2_with fail
    go_region
    go_wp2_with fail
    go_quiet (fail)
    go_wp2_with fail
    go_returns
    have hleast:zej s.fds=some ⟨xf,xg,true,true⟩:=least_first OK.out HP.out HS.out HX.out.2 HX.out.1 rfl HBEF.out
    have lf:fB<w3.heap.size:=by have h5:=HM2.out.lt;have h6:=HD3.out.size;simp at h6;omega
    have hm4:Mod (fun b=>b=fB∨b=wB) w w3:=(Mod.of_below (HK.out.trans ((zab wr _).mono HK.out.size)) _).trans1 ((HD2.out.mono fun _ _ e=>.inl e).trans1 ((Mod.refl _ w2).drew.trans1 (HD3.out.mono fun _ _ e=>.inr e)))
    refine .inr ⟨_,hleast,rfl,PollH.same (w:=w3) ⟨?_,?_,?_,HM3.out⟩ rfl,hm4.drewN _⟩
    ·exact HD3.out.cell (a:=⟨pB,0,none⟩) (fun e=>HE.out.2.2 e.symm) Q0.out
    ·exact HD3.out.cell (a:=⟨pB,1,none⟩) (fun e=>HE.out.2.2 e.symm) Q1.out
    ·exact HM2.out.congr (HD3.out.block fB HM2.out.lt HE.out.2.1)
   ·have hdf:(xw && xr)=false:=by cases xw <;> cases xr <;> simp_all
    have HNF:=Lib.hid (HNX.out hdf)
    cases xw with
    | true =>
     cases xr with
     | true=>exact absurd ⟨rfl,rfl⟩ hd
     | false =>
      clear hd hdf
      go_wp2_with fail
      go_roundw
      case rel=>exact ⟨j+1,by go_num,hjl,HNF.out,HK.out.trans ((zab wr _).mono HK.out.size),HK1.out.trans ((zab wr _).mono HK1.out.size)⟩
      case measure=>simp [intOf];omega
    | false =>
     clear hd hdf
     go_wp2_with fail
     go_roundw
     case rel=>exact ⟨j+1,by go_num,hjl,HNF.out,HK.out.trans ((zab wr _).mono HK.out.size),HK1.out.trans ((zab wr _).mono HK1.out.size)⟩
     case measure=>simp [intOf];omega
  ·obtain rfl:j=ks.length:=by omega
   have hji:¬ (ks.length:Int)<(ks.length:Int):=by omega
   have hnone:zej s.fds=none:=least_none fun y hy=>by
    have hm:(y.fd:Int)∈ks:=HP.out.mem_iff.2 (List.mem_map.2 ⟨y,hy,rfl⟩)
    obtain ⟨i,hi⟩:=List.getElem?_of_mem hm
    exact HBEF.out y hy i (List.getElem?_eq_some_iff.1 hi).1 hi
   have HNN:=Lib.hid hnone
   clear hnone
   go_wp2_with fail
   go_returns
   exact .inl ⟨HNN.out,rfl,K⟩
end
end Go.Proofs.YtlmmjgekolpekaaGreatDoor
