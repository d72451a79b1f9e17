/- Parts of the proof. -/
import Derived.Test.YtlmmjgekolpekaaGreatDoorMPq10
import Derived.Lib.SlMapEqual
import Derived.Lib.SlKeysI
import Derived.Maps.RangeWalk
set_option linter.unusedVariables false
set_option linter.unusedSimpArgs false
set_option linter.unusedSectionVars false
set_option maxRecDepth 100000
set_option maxHeartbeats 6400000
namespace Go.Proofs.YtlmmjgekolpekaaGreatDoor
open Go Go.RowKit Hst Go.Proofs
structure PollH (w:World) (pB fB wB:Nat) (l:List Hst.Fd) (wl:List (Int × Value)):Prop where
 p0:w.cell? ⟨pB,0,none⟩=some (.map (some fB))
 p1:w.cell? ⟨pB,1,none⟩=some (.map (some wB))
 fds:IMap .u16 w fB (l.map fdV)
 who:IMap .i64 w wB wl
section
variable {w:World} {pB fB wB:Nat} {l:List Hst.Fd} {wl:List (Int × Value)}
theorem PollH.below (h:PollH w pB fB wB l wl) {w':World} (hb:Below w.heap.size w w'):PollH w' pB fB wB l wl :=
 ⟨(below_cell hb (World.block_lt_of_cell? w _ h.p0)).trans h.p0,(below_cell hb (World.block_lt_of_cell? w _ h.p1)).trans h.p1,h.fds.congr (zaJ hb h.fds.lt),h.who.congr (zaJ hb h.who.lt)⟩
theorem PollH.same (h:PollH w pB fB wB l wl) {w':World} (e:w'.heap=w.heap):PollH w' pB fB wB l wl :=
 ⟨(zch (by rw [e])).trans h.p0,(zch (by rw [e])).trans h.p1,h.fds.same e,h.who.same e⟩
theorem zeroFd (w:World):(zeroValue 212).run Tryz.prog w=.ok (fdC fd0) w:=Tryz.zeroValue212 w
theorem PollH.look (h:PollH w pB fB wB l wl) (hN:((l.map fdV).map (·.1)).Nodup) (fd:Nat) :
  (Instr.lookup 205 (.map (some fB)) (.int .u16 fd) false).run Tryz.prog w=.ok (fdC ((l.find? fun x=>x.fd==fd).getD fd0)) w:=by
 have:=IMap.look (P:=Tryz.prog) Tryz.underlying205 Tryz.underlying171 zeroFd h.fds hN (fd:Int)
 rw [get_fd] at this
 rw [this]
 cases l.find? fun x=>x.fd==fd <;> rfl
theorem PollH.lookOk (h:PollH w pB fB wB l wl) (hN:((l.map fdV).map (·.1)).Nodup) (fd:Nat) :
  (Instr.lookup 205 (.map (some fB)) (.int .u16 fd) true).run Tryz.prog w=.ok (.tuple #[fdC ((l.find? fun x=>x.fd==fd).getD fd0),.bool (l.find? fun x=>x.fd==fd).isSome]) w:=by
 have:=IMap.lookOk (P:=Tryz.prog) Tryz.underlying205 Tryz.underlying171 zeroFd h.fds hN (fd:Int)
 rw [get_fd] at this
 rw [this]
 cases l.find? fun x=>x.fd==fd <;> rfl
theorem phas_any (h:PollH w pB fB wB l wl) (hN:(wl.map (·.1)).Nodup) (g:Int) :
  Calls Tryz.prog 93 #[.pointer (some ⟨pB,0,none⟩),.int .i64 g] w fun e w'=>e=.returned (.bool (zen wl g).isSome)∧w'=w:=by
 have p1:=h.p1
 have hlk:=IMap.lookOk (P:=Tryz.prog) Tryz.underlying206 Tryz.underlying3 Tryz.zeroValue171 h.who hN g
 generalize (zen wl g).isSome=b at hlk ⊢
 generalize (zen wl g).getD _=v at hlk
 clear h hN
 go_enter Tryz.func93,Tryz.ntmps93
 go_wp2
 go_returns
 exact ⟨rfl,rfl⟩
theorem zcw (h:PollH w pB fB wB l wl) (hN:((l.map fdV).map (·.1)).Nodup) (fd:Nat) :
  Calls Tryz.prog 186 #[.pointer (some ⟨pB,0,none⟩),.int .u16 fd] w fun e w'=>e=.returned (.bool ((l.find? fun x=>x.fd==fd).isNone && decide (1024≤l.length)))∧Below w.heap.size w w':=by
 have p0:=h.p0
 have lp:=World.block_lt_of_cell? w _ p0
 simp only at lp
 have hlk:=h.lookOk hN fd
 have hln:∀ o,(Builtin.len_ #[205] 3 #[.map (some fB)]).run Tryz.prog (w.alloc o)=.ok (.int .i64 l.length) (w.alloc o):=fun o=>by
  have:=IMap.len (P:=Tryz.prog) (ty:=3) Tryz.underlying205 ((h.below (zab w o)).fds)
  rwa [List.length_map] at this
 have e:(l.find? fun x=>x.fd==fd).isNone=!(l.find? fun x=>x.fd==fd).isSome:=by cases l.find? fun x=>x.fd==fd <;> rfl
 rw [e]
 generalize (l.find? fun x=>x.fd==fd).isSome=b at hlk ⊢
 generalize (l.find? fun x=>x.fd==fd).getD _=v at hlk
 obtain ⟨vf,vg,vw,vr⟩:=v
 unfold fdC at hlk
 dsimp only at hlk
 have e2:decide (1024≤l.length)=decide ((1024:Int)≤(l.length:Int)):=decide_eq_decide.2 (by omega)
 rw [e2]
 clear h hN e e2
 cases b
 all_goals
  go_enter Tryz.func186,Tryz.ntmps186
  go_wp2
  go_returns
  exact ⟨rfl,by go_grown⟩
theorem pready_full (h:PollH w pB fB wB l wl) (hN:((l.map fdV).map (·.1)).Nodup) (fd:Nat) (hf:((l.find? fun x=>x.fd==fd).isNone && decide (1024≤l.length))=true) :
  Calls Tryz.prog 150 #[.pointer (some ⟨pB,0,none⟩),.int .u16 fd] w fun e w'=>e=.returned (.int .i64 2)∧Below w.heap.size w w':=by
 have hfl:=zcw h hN fd
 rw [hf] at hfl
 have HF:=Lib.hid hfl
 clear h hN hf hfl
 go_enter Tryz.func150,Tryz.ntmps150
 go_wp2_with fail
 refine HF.out.mono ?_
 rintro e w1 ⟨rfl,b1⟩
 go_wp2_with fail
 go_returns
 exact ⟨rfl,b1⟩
theorem pready_ok (h:PollH w pB fB wB l wl) (hN:((l.map fdV).map (·.1)).Nodup) (fd:Nat) (hf:((l.find? fun x=>x.fd==fd).isNone && decide (1024≤l.length))=false) (hne:fB≠pB∧fB≠wB) :
  Calls Tryz.prog 150 #[.pointer (some ⟨pB,0,none⟩),.int .u16 fd] w fun e w'=>e=.returned (.int .i64 0) ∧
   PollH w' pB fB wB (zeo l { (l.find? fun x=>x.fd==fd).getD fd0 with fd:=fd,ready:=true }) wl∧Mod (·=fB) w w':=by
 have hfl:=zcw h hN fd
 rw [hf] at hfl
 have lp:=World.block_lt_of_cell? w _ h.p0
 simp only at lp
 have H:=Lib.hid h
 have HN:=Lib.hid hN
 have HF:=Lib.hid hfl
 have HE:=Lib.hid hne
 clear h hN hf hfl hne
 obtain ⟨x,hx⟩:∃ x,x=(l.find? fun x=>x.fd==fd).getD fd0:=⟨_,rfl⟩
 rw [← hx]
 have HX:=Lib.hid hx
 clear hx
 go_enter Tryz.func150,Tryz.ntmps150
 go_wp2_with fail
 refine HF.out.mono ?_
 rintro e w1 ⟨rfl,b1⟩
 have h1:=H.out.below b1
 have p0:=h1.p0
 have lp1:pB<w1.heap.size:=Nat.lt_of_lt_of_le lp b1.size
 have hlk:=h1.look HN.out fd
 rw [← HX.out] at hlk
 unfold fdC at hlk
 have B1:=Lib.hid b1
 have H1:=Lib.hid h1
 clear b1 h1
 go_wp2_with fail
 refine zaT (fun W=>W.heap[w1.heap.size]?=some (.cells #[.int .i64 x.g,.bool x.waits,.bool true] 212 (0,0))∧Below w1.heap.size w1 W) ⟨?_,?_⟩ ?_
 ·exact heap_alloc_new w1 _
 ·exact zab w1 _
 rintro W ⟨g1,gB⟩
 have x0:=zaa g1 0
 have x1:=zaa g1 1
 have x2:=zaa g1 2
 simp at x0 x1 x2
 have h2:=(H1.out.below gB).same (w':=W.drew) rfl
 have pW:=(H1.out.below gB).p0
 obtain ⟨w3,hput,hmap,hmod⟩:=IMap.put (P:=Tryz.prog) (mty:=205) Tryz.underlying205 Tryz.underlying171 h2.fds HN.out (fd:Int) (.agg #[.int .i64 x.g,.bool x.waits,.bool true])
 have HM:=Lib.hid hmap
 have HMM:=Lib.hid hmod
 have GB:=Lib.hid gB
 have H2:=Lib.hid h2
 clear hlk p0 g1 gB hmap hmod h2
 go_region
 go_wp2_with fail
 go_returns
 have hm3:Mod (·=fB) w w3:=(Mod.of_below (B1.out.trans (GB.out.mono B1.out.size)) _).trans1 ((Mod.refl (·=fB) W).drew.trans1 HMM.out)
 have lw:=H2.out.who.lt
 have lpB:=World.block_lt_of_cell? _ _ H2.out.p0
 refine ⟨rfl,⟨?_,?_,?_,?_⟩,hm3⟩
 ·exact HMM.out.cell (a:=⟨pB,0,none⟩) (fun e=>HE.out.1 e.symm) H2.out.p0
 ·exact HMM.out.cell (a:=⟨pB,1,none⟩) (fun e=>HE.out.1 e.symm) H2.out.p1
 ·have:=put_fd l { x with fd:=fd,ready:=true }
  unfold fdC at this
  rw [← this]
  exact HM.out
 ·exact H2.out.who.congr (HMM.out.block wB lw (fun e=>HE.out.2 e.symm))
end
section
variable {w:World} {pB fB wB:Nat} {l:List Hst.Fd} {wl:List (Int × Value)}
def zeH (l:List Hst.Fd) (wl:List (Int × Value)) (fd:Nat) (g:Int):Option Int :=
 if ((l.find? fun x=>x.fd==fd).getD fd0).waits then some 8 else if (zen wl g).isSome then some 8
 else if ((l.find? fun x=>x.fd==fd).isNone && decide (1024≤l.length))=true then some 2 else none
theorem pwait_no (h:PollH w pB fB wB l wl) (hN:((l.map fdV).map (·.1)).Nodup) (hW:(wl.map (·.1)).Nodup) (fd:Nat) (g c:Int) (hg:0≤g∧g<4096) (hf:zeH l wl fd g=some c) :
  Calls Tryz.prog 247 #[.pointer (some ⟨pB,0,none⟩),.int .u16 fd,.int .i64 g] w fun e w'=>e=.returned (.int .i64 c)∧Below w.heap.size w w':=by
 have lp:=World.block_lt_of_cell? w _ h.p0
 simp only at lp
 have p0:=h.p0
 have hlk:=h.look hN fd
 have g0:¬ g<0:=by omega
 have g1:¬ 4096≤g:=by omega
 have hHas:=fun o=>phas_any (h.below (zab w o)) hW g
 have hFull:=fun o=>zcw (h.below (zab w o)) hN fd
 unfold zeH at hf
 obtain ⟨x,hx⟩:∃ x,x=(l.find? fun x=>x.fd==fd).getD fd0:=⟨_,rfl⟩
 rw [← hx] at hlk hf
 obtain ⟨xf,xg,xw,xr⟩:=x
 unfold fdC at hlk
 dsimp only at hlk hf
 generalize (zen wl g).isSome=b at hHas hf
 generalize ((l.find? fun x=>x.fd==fd).isNone && decide (1024≤l.length))=c2 at hFull hf
 have HH:=Lib.hid hHas
 have HF:=Lib.hid hFull
 clear h hN hW hx hHas hFull
 cases xw with
 | true =>
  obtain rfl:(8:Int)=c:=by simpa using hf
  clear hf
  go_enter Tryz.func247,Tryz.ntmps247
  go_wp2
  go_returns
  exact ⟨rfl,by go_grown⟩
 | false =>
  cases b with
  | true =>
   obtain rfl:(8:Int)=c:=by simpa using hf
   clear hf
   go_enter Tryz.func247,Tryz.ntmps247
   go_wp2_with (go_at_call 93;refine (HH.out _).mono ?_;rintro e w1 ⟨rfl,rfl⟩)
   go_returns
   exact ⟨rfl,by go_grown⟩
  | false =>
   cases c2 with
   | false=>simp at hf
   | true =>
    obtain rfl:(2:Int)=c:=by simpa using hf
    clear hf
    go_enter Tryz.func247,Tryz.ntmps247
    go_wp2_with (first | (go_at_call 93;refine (HH.out _).mono ?_;rintro e w1 ⟨rfl,rfl⟩) | (go_at_call 186;refine (HF.out _).mono ?_;rintro e w1 ⟨rfl,b1⟩))
    go_returns
    exact ⟨rfl,(zab w _).trans (b1.mono (by simp))⟩
theorem pwait_ok (h:PollH w pB fB wB l wl) (hN:((l.map fdV).map (·.1)).Nodup) (hW:(wl.map (·.1)).Nodup) (fd:Nat) (g:Int) (hg:0≤g∧g<4096) (hf:zeH l wl fd g=none) (hne:fB≠pB∧fB≠wB∧wB≠pB) :
  Calls Tryz.prog 247 #[.pointer (some ⟨pB,0,none⟩),.int .u16 fd,.int .i64 g] w fun e w'=>e=.returned (.int .i64 0) ∧
   PollH w' pB fB wB (zeo l ⟨fd,g,true,((l.find? fun x=>x.fd==fd).getD fd0).ready⟩) (zeB wl g (.int .u16 fd))∧Mod (fun b=>b=fB∨b=wB) w w':=by
 have lp:=World.block_lt_of_cell? w _ h.p0
 simp only at lp
 have p0:=h.p0
 have hlk:=h.look hN fd
 have g0:¬ g<0:=by omega
 have g1:¬ 4096≤g:=by omega
 have hHas:=fun o=>phas_any (h.below (zab w o)) hW g
 have hFull:=fun o=>zcw (h.below (zab w o)) hN fd
 unfold zeH at hf
 obtain ⟨x,hx⟩:∃ x,x=(l.find? fun x=>x.fd==fd).getD fd0:=⟨_,rfl⟩
 rw [← hx] at hlk hf ⊢
 obtain ⟨xf,xg,xw,xr⟩:=x
 unfold fdC at hlk
 dsimp only at hlk hf ⊢
 generalize (zen wl g).isSome=b at hHas hf
 generalize ((l.find? fun x=>x.fd==fd).isNone && decide (1024≤l.length))=c2 at hFull hf
 have HH:=Lib.hid hHas
 have HF:=Lib.hid hFull
 have H:=Lib.hid h
 have HN:=Lib.hid hN
 have HW:=Lib.hid hW
 have HE:=Lib.hid hne
 clear h hN hW hx hHas hFull hne
 cases xw with
 | true=>simp at hf
 | false =>
 cases b with
 | true=>simp at hf
 | false =>
 cases c2 with
 | true=>simp at hf
 | false =>
 clear hf
 go_enter Tryz.func247,Tryz.ntmps247
 go_wp2_with (first | (go_at_call 93;refine (HH.out _).mono ?_;rintro e w1 ⟨rfl,rfl⟩) | (go_at_call 186;refine (HF.out _).mono ?_;rintro e w1 ⟨rfl,b1⟩))
 have bx:w1.heap[w.heap.size]?=some (.cells #[.int .i64 xg,.bool false,.bool xr] 212 (0,0)):=(b1.block w.heap.size (by simp)).trans (heap_alloc_new w _)
 have B1:=Lib.hid ((zab w _).trans (b1.mono (by simp:w.heap.size≤_)))
 have x0:=zaa bx 0
 have x1:=zaa bx 1
 have x2:=zaa bx 2
 simp at x0 x1 x2
 have h2:=(H.out.below B1.out).same (w':=w1.drew) rfl
 have pW:=(H.out.below B1.out).p0
 obtain ⟨w3,hput,hmap,hmod⟩:=IMap.put (P:=Tryz.prog) (mty:=205) Tryz.underlying205 Tryz.underlying171 h2.fds HN.out (fd:Int) (.agg #[.int .i64 g,.bool true,.bool xr])
 have p1:w3.cell? ⟨pB,1,none⟩=some (.map (some wB)):=hmod.cell (a:=⟨pB,1,none⟩) (fun e=>HE.out.1 e.symm) h2.p1
 have p03:w3.cell? ⟨pB,0,none⟩=some (.map (some fB)):=hmod.cell (a:=⟨pB,0,none⟩) (fun e=>HE.out.1 e.symm) h2.p0
 have hw3:=h2.who.congr (hmod.block wB h2.who.lt (fun e=>HE.out.2.1 e.symm))
 obtain ⟨w4,hput2,hmap2,hmod2⟩:=IMap.put (P:=Tryz.prog) (mty:=206) Tryz.underlying206 Tryz.underlying3 hw3 HW.out g (.int .u16 fd)
 have P0:=Lib.hid p03
 have HM:=Lib.hid hmap
 have HM2:=Lib.hid hmap2
 have HX:=Lib.hid hmod
 have HX2:=Lib.hid hmod2
 clear hlk p0 bx b1 hmap hmap2 hmod hmod2 hw3 h2 p03
 go_region
 go_wp2_with fail
 go_returns
 have hm3:Mod (fun b=>b=fB∨b=wB) w w3:=(Mod.of_below B1.out _).trans1 ((Mod.refl _ w1).drew.trans1 (HX.out.mono fun _ _ e=>.inl e))
 have lf:=HM.out.lt
 refine ⟨rfl,⟨?_,?_,?_,HM2.out⟩,hm3.trans1 (HX2.out.mono fun _ _ e=>.inr e)⟩
 ·exact HX2.out.cell (a:=⟨pB,0,none⟩) (fun e=>HE.out.2.2 e.symm) P0.out
 ·exact HX2.out.cell (a:=⟨pB,1,none⟩) (fun e=>HE.out.2.2 e.symm) p1
 ·have:=put_fd l ⟨fd,g,true,xr⟩
  unfold fdC at this
  dsimp only at this
  rw [← this]
  exact HM.out.congr (HX2.out.block fB lf HE.out.2.1)
end
end Go.Proofs.YtlmmjgekolpekaaGreatDoor
namespace Go.Proofs.YtlmmjgekolpekaaGreatDoor
open Go Go.RowKit Hst Go.Proofs Go.MapKept
def fdR (v:Value):Option (DataW Unit × List MemPlace) :=
 match v with
 | .agg cs=>(match cs.toList with
  | [.int .i64 g,.bool a,.bool b]=>some (.agg [.lit (.int .i64 g),.lit (.bool a),.lit (.bool b)],[])
  | _=>none)
 | _=>none
theorem fdR_shape {v:Value} {y:DataW Unit × List MemPlace} (h:fdR v=some y):∃ g a b,v=.agg #[.int .i64 g,.bool a,.bool b]∧y=(.agg [.lit (.int .i64 g),.lit (.bool a),.lit (.bool b)],[]):=by
 unfold fdR at h
 split at h
 ·rename_i cs
  split at h
  ·rename_i g a b hc
   refine ⟨g,a,b,?_,(Option.some.inj h).symm⟩
   obtain ⟨l⟩:=cs
   simp only at hc
   rw [hc]
  ·cases h
 ·cases h
def fdD (x:Hst.Fd):Lit × DataW Unit:=(.int .u16 (x.fd:Int),.agg [.lit (.int .i64 x.g),.lit (.bool x.waits),.lit (.bool x.ready)])
def fdsD (l:List Hst.Fd):DataW Unit:=.map ((l.map fdD).foldr DataW.insert [])
theorem fdR_inv {v:Value} {x:Hst.Fd} {ps:List MemPlace} (h:fdR v=some ((fdD x).2,ps)):v=fdC x:=by
 obtain ⟨g,a,b,rfl,hy⟩:=fdR_shape h
 simp only [fdD,Prod.mk.injEq,DataW.agg.injEq,List.cons.injEq,DataW.lit.injEq,Lit.int.injEq,Lit.bool.injEq,and_true,true_and] at hy
 obtain ⟨⟨h1,h2,h3⟩,_⟩:=hy
 rw [← h1,← h2,← h3]
 rfl
theorem imap_owns {w:World} {r:Nat} {l:List Hst.Fd} (h:IMap .u16 w r (l.map fdV)) (hN:((l.map fdV).map (·.1)).Nodup) (hb:∀ x,x∈l→x.fd<65536) (hl:l.length≤1024):w.ownsMap Tryz.prog 171 fdR r 1024 (fdsD l):=by
 obtain ⟨es,clock,hr,he,hnd,hlt⟩:=h
 have hlen:es.size=l.length:=by simpa using congrArg List.length he
 have hat:∀ (j:Nat),(es.toList[j]?).map (fun e=>(e.key,e.val))=(l[j]?).map (fun y=>(Value.int .u16 (y.fd:Int),fdC y)):=by
  intro j
  have h1:(es.toList.map (fun e=>(e.key,e.val)))[j]?=((l.map fdV).map (fun p=>(Value.int .u16 p.1,p.2)))[j]?:=by rw [he]
  rw [List.getElem?_map,List.getElem?_map,List.getElem?_map,Option.map_map] at h1
  exact h1
 have hrd:∀ (x:MapEntry) (y:Hst.Fd),y∈l→(x.key,x.val)=(Value.int .u16 (y.fd:Int),fdC y)→Go.WideElems.rd Tryz.prog 171 fdR x=some (fdD y):=by
  intro x y hy hxy
  have h1:x.key=Value.int .u16 (y.fd:Int):=congrArg Prod.fst hxy
  have h2:x.val=fdC y:=congrArg Prod.snd hxy
  have hw:(Lit.int .u16 (y.fd:Int)).wf=true:=by
   have:=hb y hy
   have e1:IntKind.u16.min=0:=rfl
   have e2:IntKind.u16.max=65535:=by decide
   simp [Lit.wf,e1,e2]
   omega
  unfold Go.WideElems.rd
  rw [h1,h2,Maps.keyOf_int_mk Tryz.underlying171 hw]
  rfl
 have hx:∀ (j:Nat) (x:MapEntry),es.toList[j]?=some x→∃ y,l[j]?=some y∧(x.key,x.val)=(Value.int .u16 (y.fd:Int),fdC y):=by
  intro j x hj
  have:=hat j
  rw [hj] at this
  obtain ⟨y,hy,hv⟩:=Option.map_eq_some_iff.1 this.symm
  exact ⟨y,hy,hv.symm⟩
 refine ⟨es,clock,hr,⟨by unfold maxLen;omega,(stamped_iff es clock).2 ⟨hlt,hnd,?_⟩,?_⟩,by omega,?_⟩
 ·have e:es.toList.map (·.key)=(l.map fdV).map (fun p=>Value.int .u16 p.1):=by
   have:=congrArg (List.map Prod.fst) he
   simpa [List.map_map,Function.comp_def] using this
  have h2:(es.toList.map (·.key)).Pairwise (·≠·):=by
   rw [e]
   have h3:((l.map fdV).map (·.1)).Pairwise (·≠·):=hN
   rw [List.pairwise_map] at h3 ⊢
   exact h3.imp fun {a b} hne e=>hne (by injection e)
  rw [List.pairwise_map] at h2
  exact h2
 ·intro x hxm
  obtain ⟨j,hj⟩:=List.getElem?_of_mem hxm
  obtain ⟨y,hy,hv⟩:=hx j x hj
  exact ⟨_,hrd x y (List.mem_of_getElem? hy) hv⟩
 ·unfold fdsD
  congr 1
  congr 1
  apply List.ext_getElem?
  intro j
  rw [List.getElem?_map,List.getElem?_map]
  cases hj:es.toList[j]? with
  | none =>
   have:=hat j
   rw [hj] at this
   rw [Option.map_eq_none_iff.1 this.symm]
   rfl
  | some x =>
   obtain ⟨y,hy,hv⟩:=hx j x hj
   rw [hy]
   simp only [Option.map_some,Option.some.injEq]
   unfold Go.WideElems.rg
   rw [hrd x y (List.mem_of_getElem? hy) hv]
   rfl
theorem fdsD_keys (l:List Hst.Fd):(intKeys (fdsD l)).Perm (l.map fun x=>(x.fd:Int)):=by
 have h:=(WideShapes.sorted_perm (l.map fdD)).map (fun p=>Go.intOf p.1)
 rw [List.map_map] at h
 exact h
theorem fdsD_size (l:List Hst.Fd):Maps.size (fdsD l)=l.length:=by
 unfold fdsD
 simp [Maps.size,length_sorted]
theorem fdsD_came {l:List Hst.Fd} (hN:((l.map fdV).map (·.1)).Nodup) {kl:Lit} {d:DataW Unit} (hat:∀ zd,(fdsD l).atKey kl zd=d):∃ x,x∈l∧kl=.int .u16 (x.fd:Int)∧d=(fdD x).2:=by
 have hp:=WideShapes.sorted_perm (l.map fdD)
 have hap:((l.map fdD).foldr DataW.insert []).Pairwise (fun p q=>p.1≠q.1):=by
  refine (hp.pairwise_iff (fun {_ _} hne=>Ne.symm hne)).2 ?_
  have h3:((l.map fdV).map (·.1)).Pairwise (·≠·):=hN
  rw [List.pairwise_map,List.pairwise_map] at h3
  rw [List.pairwise_map]
  exact h3.imp fun {a b} hne e=>hne (by simp only [fdD,Lit.int.injEq,true_and] at e;exact e)
 have hk:∀ p,p∈(l.map fdD).foldr DataW.insert []→WideAt.IsKeyLit p.1:=fun p hpm=>by
  obtain ⟨x,_,rfl⟩:=List.mem_map.1 (hp.mem_iff.1 hpm)
  trivial
 have hm:=Maps.came_mem hap hk hat
 obtain ⟨x,hx,he⟩:=List.mem_map.1 (hp.mem_iff.1 hm)
 injection he with h1 h2
 exact ⟨x,hx,h1.symm,h2.symm⟩
theorem fdsD_has {l:List Hst.Fd} {x:Hst.Fd} (hx:x∈l):Maps.has (fdsD l) (.int .u16 (x.fd:Int))=true:=by
 unfold fdsD
 rw [Maps.has_eq,List.any_eq_true]
 exact ⟨fdD x,(WideShapes.sorted_perm (l.map fdD)).mem_iff.2 (List.mem_map.2 ⟨x,hx,rfl⟩),by simp [fdD,Lit.sameKey]⟩
end Go.Proofs.YtlmmjgekolpekaaGreatDoor
namespace Go.Proofs.YtlmmjgekolpekaaGreatDoor
open Go Go.RowKit Hst Go.Proofs Go.Maps
theorem fdR_mk {v:Value} {y:DataW Unit × List MemPlace} (h:fdR v=some y):∃ c:Hst.Fd,v=fdC c:=by
 obtain ⟨g,a,b,rfl,_⟩:=fdR_shape h
 exact ⟨⟨0,g,a,b⟩,rfl⟩
theorem key_u16 {P:Program} {k:TypeId} (hk:P.underlying k=some (.int .u16)) {key:Value} {kl:Lit} (h:keyOf P k key=some kl):∃ x:Int,key=Value.int .u16 x:=by
 obtain ⟨x,hx,_⟩:=Maps.keyOf_int_inv hk h
 exact ⟨x,hx⟩
section
variable {w:World} {pB fB wB:Nat} {l:List Hst.Fd} {wl:List (Int × Value)}
theorem pdue_any (h:PollH w pB fB wB l wl) (hf1:∀ o,(l.countP fun x=>x.fd==o)≤1) (hb:∀ x,x∈l→x.fd<65536) (hl:l.length≤1024) :
  Calls Tryz.prog 102 #[.pointer (some ⟨pB,0,none⟩)] w fun e w'=>e=.returned (.bool (l.any fun x=>x.waits && x.ready))∧Below w.heap.size w w':=by
 have p0:=h.p0
 have hN:=zbP hf1
 have hown:=imap_owns h.fds hN hb hl
 have HN:=Lib.hid hN
 have HF1:=Lib.hid hf1
 clear h hb hl hN hf1
 go_enter Tryz.func102,Tryz.ntmps102
 go_wp2_with (first | (at_range;refine wpList_range_own _ rfl _ 205 rfl 171 212 (Maps.int_keyed Tryz.underlying171) Tryz.underlying205 fdR fB 1024 (fdsD l) rfl hown ?_;intro w0 hrg0 hg0 hs0))
 go_frame
 go_loopw [4] (fun _ wr=>∃ (left:Lit→Bool) (cnt:Nat),wr.ranges Tryz.prog 171 fdR fB w.heap.size 1024 (fdsD l) left cnt∧(∀ x,x∈l→left (.int .u16 (x.fd:Int))=false→(x.waits && x.ready)=false)∧Below w.heap.size w wr) (fun _ wr=>wr.rangeLeft fB w.heap.size)
 case atStart =>
  exact ⟨_,_,hrg0,(fun x hx hlf=>by rw [fdsD_has hx] at hlf;cases hlf),(Below.refl _ w).grown hg0 (Nat.le_refl _) (fun k e=>by cases e)⟩
 case round =>
  obtain ⟨left,cnt,hrg,hC,K⟩:=hrel
  have HC:=Lib.hid hC
  have HK:=Lib.hid K
  clear hC K
  go_wp2_with (first
   | (at_next;refine wpList_next_ranges _ rfl _ rfl 171 (Maps.int_keyed Tryz.underlying171) fdR (Value.int .u16) fdC (fun key kl hk=>key_u16 Tryz.underlying171 hk) (fun v y hv=>fdR_mk hv) fB w.heap.size 1024 _ _ _ rfl hrg ?_ ?_))
  ·intro hc0 hl0
   have e:(l.any fun x=>x.waits && x.ready)=false:=List.any_eq_false.2 fun x hx=>by rw [HC.out x hx (hl0 _)];decide
   have E:=Lib.hid e
   clear e hl0 hc0
   go_wp2
   go_returns
   exact ⟨by rw [E.out];rfl,HK.out⟩
  ·intro x c kl ya yb w1 cnt1 hkey hlk hv hat hrg1 hlt hg1 hs1 hen
   obtain ⟨cf,cg,cw,cr⟩:=c
   obtain ⟨z,hz,hkl,hy⟩:=fdsD_came HN.out hat
   have hvc:fdC ⟨cf,cg,cw,cr⟩=fdC z:=fdR_inv (ps:=yb) (by rw [hv,← hy])
   have hzc:z.waits=cw∧z.ready=cr:=by
    unfold fdC at hvc
    simp only [Value.agg.injEq,Array.mk.injEq,List.cons.injEq,Value.int.injEq,Value.bool.injEq,and_true,true_and] at hvc
    exact ⟨hvc.2.1.symm,hvc.2.2.symm⟩
   have K1:Below w.heap.size w w1:=HK.out.grown hg1 HK.out.size (fun k e=>by cases e;exact Nat.le_refl _)
   have HK1:=Lib.hid K1
   have HZ:=Lib.hid hzc
   have HZ2:=Lib.hid (And.intro hz hkl)
   have HR:=Lib.hid hrg
   have HR1:=Lib.hid hrg1
   have HLT:=Lib.hid hlt
   unfold fdC at hen ⊢
   dsimp only at hen ⊢
   clear hkey hlk hv hat hg1 hs1 hvc hzc hz hkl hy K1 hrg hlt hown hrg0 hg0 hs0
   have hrg1:=HR1.out
   have hother:(cw && cr)=false→∀ x,x∈l→(left (.int .u16 (x.fd:Int)) && !(Lit.int .u16 (x.fd:Int)).sameKey kl)=false→(x.waits && x.ready)=false:=by
    intro hf x hx hlf
    by_cases e:x.fd=z.fd
    ·have:x=z:=zaS (HF1.out z.fd) hx HZ2.out.1 (by simpa using e) (by simp)
     rw [this,HZ.out.1,HZ.out.2]
     exact hf
    ·have hk:(Lit.int .u16 (x.fd:Int)).sameKey kl=false:=by
      rw [HZ2.out.2]
      simp [Lit.sameKey]
      omega
     rw [hk] at hlf
     exact HC.out x hx (by simpa using hlf)
   have HO:=Lib.hid hother
   clear hother
   cases cw with
   | true =>
    cases cr with
    | true =>
     have e:(l.any fun x=>x.waits && x.ready)=true:=List.any_eq_true.2 ⟨z,HZ2.out.1,by rw [HZ.out.1,HZ.out.2];rfl⟩
     have E:=Lib.hid e
     clear e
     go_wp2
     go_returns
     exact ⟨by rw [E.out];rfl,HK1.out.alloc HK1.out.size _⟩
    | false =>
     go_wp2
     go_roundw
     case rel=>exact ⟨_,_,hrg1.alloc _,HO.out rfl,HK1.out.alloc HK1.out.size _⟩
     case measure=>rw [(hrg1.alloc _).left_eq,HR.out.left_eq];exact HLT.out
   | false =>
    go_wp2
    go_roundw
    case rel=>exact ⟨_,_,hrg1.alloc _,HO.out rfl,HK1.out.alloc HK1.out.size _⟩
    case measure=>rw [(hrg1.alloc _).left_eq,HR.out.left_eq];exact HLT.out
end
end Go.Proofs.YtlmmjgekolpekaaGreatDoor
