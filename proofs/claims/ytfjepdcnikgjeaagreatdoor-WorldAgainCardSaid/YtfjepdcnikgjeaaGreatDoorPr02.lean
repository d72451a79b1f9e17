/-
  hostler/hostlerlaw20.WorldAgain: for every input the law returns true, and its arguments read as they did.
  Conditions: what the row lists (tables of the program's text, tied by the card).
-/
import Derived.ChangeMaps5
import Derived.Test.YtfjepdcnikgjeaaGreatDoorPq31
import Derived.Test.YtfjepdcnikgjeaaGreatDoorPr01
set_option linter.unusedVariables false
set_option linter.unusedSimpArgs false
set_option linter.unusedSectionVars false
set_option maxRecDepth 100000
set_option maxHeartbeats 40000000
namespace Go.Proofs.YtfjepdcnikgjeaaGreatDoor.worldAgain
open Go Go.ChangeShapes Go.WideShapes Go.ChangeAt Go.RowKit Go.Proofs
theorem contract (H:Type) (enc:TypeId × Value→H) (W:World) (base:Nat) (args:Array Value) (ds gs:List (DataW H)) (before:List MemPlace)
  (hval:∀ (j:Nat) t v,Tryz.f7.params[j]?=some t→args[j]?=some v→Value.okWide Tryz.prog W .any base t v)
  (hW:DataW.Whole enc Tryz.prog Tryz.f7.params.toList Rows.worldAgainSpec.vars false W args.toList ds gs before) (hL:laidMetH Tryz.prog Rows.worldAgainRow.laid W) :
  Calls Tryz.prog 7 args W fun e W'=>∃ v,e=.returned v∧Rows.worldAgainSpec.post enc Tryz.prog Tryz.f7 false true false false W args v W':=by
 have hW':=hW
 obtain ⟨p,q,hA0,hV,rfl,hfz,hnd⟩:=hW
 have hA:DataW.TrodAll enc Tryz.prog W 0 (fun _=>true) true Tryz.f7.params.toList args.toList ds p:=hA0
 rw [Tryz.params7] at hA hval
 obtain ⟨v0,vs0,d0,ds0,p0,q0,hargs,rfl,rfl,t0,r0⟩:=trodAll_cons hA
 obtain ⟨v1,vs1,d1,ds1,p1,q1,rfl,rfl,rfl,t1,r1⟩:=trodAll_cons r0
 obtain ⟨v2,vs2,d2,ds2,p2,q2,rfl,rfl,rfl,t2,r2⟩:=trodAll_cons r1
 obtain ⟨v3,vs3,d3,ds3,p3,q3,rfl,rfl,rfl,t3,r3⟩:=trodAll_cons r2
 obtain ⟨rfl,rfl,rfl⟩:=trodAll_nil r3
 obtain rfl:args=#[v0,v1,v2,v3]:=by cases args;simp_all
 obtain ⟨rfl,rfl⟩:=trodVars_none hV
 obtain ⟨a0,rfl,rfl,rfl,h0⟩:=open_int Tryz.underlying5 (hval 0 5 v0 rfl rfl) t0
 obtain ⟨a1,rfl,rfl,rfl,h1⟩:=open_int Tryz.underlying5 (hval 1 5 v1 rfl rfl) t1
 obtain ⟨a2,rfl,rfl,rfl,h2⟩:=open_int Tryz.underlying5 (hval 2 5 v2 rfl rfl) t2
 obtain ⟨pa3,ca3,l3,rfl,hE3,hv3⟩:=open_sts (hval 3 56 v3 rfl rfl) t3
 clear hA0
 simp only [List.append_nil,List.nil_append] at hW' hA
 refine (againI_any W.heap.size a0 a1 a2 (u8_of h0) (u8_of h1) (u8_of h2) l3 hv3 (.slice pa3 l3.length ca3) W (tabs_of (l:=Rows.worldAgainRow.laid) hL (by simp [Rows.worldAgainRow]) (by simp [Rows.worldAgainRow]) (by simp [Rows.worldAgainRow]) (by simp [Rows.worldAgainRow])) hE3).mono fun e W' ⟨he,hg⟩=>?_
 subst he
 exact ⟨_,rfl,post_kept (pa:=p3) (pv:=[]) hW' (fun _ _ _=>trodAll_cons_mk (shut_bool Tryz.underlying4 _) trodAll_mk0)
  (fun sp hs=>DataW.TrodAll.respare kids full (by decide) (trodAll_carry hA fun x hx=>hg.same (hW'.lt x (by simpa using hx))) fun x hx=>hs x (by simpa using hx)) (fun _ _=>rfl) (by simp) (hg.frame _)⟩
theorem laid_met (os:Os):laidMet Tryz.prog Rows.worldAgainRow.laid ((laidWorld os).forCall (fun _ _=>0) ⟨#[],#[.int .u8 0,.int .u8 0,.int .u8 0,.slice none 0 0],[]⟩).memory :=
 laidMet_of_run' 8 (by kernel_rfl) (by kernel_rfl)
theorem reads (os:Os) {H:Type} (enc:TypeId × Value→H):∃ places,DataW.whole enc Tryz.prog ((laidWorld os).forCall (fun _ _=>0) ⟨#[],#[.int .u8 0,.int .u8 0,.int .u8 0,.slice none 0 0],[]⟩).memory Tryz.f7.params.toList Rows.worldAgainSpec.vars false #[Value.int .u8 0,Value.int .u8 0,Value.int .u8 0,Value.slice none 0 0].toList 8=some ([.lit (.int .u8 0),.lit (.int .u8 0),.lit (.int .u8 0),.nil],[],places) :=
 ⟨[],by kernel_rfl⟩
theorem lifted (os:Os) (started:os.Started) (H:Type) (enc:TypeId × Value→H) (F:Stop.Interp) :
  ReturnsInHanded {} Tryz.checked os 7 .any ((OpenSpec.ofChange Rows.worldAgainSpec).preRow enc Tryz.prog Tryz.f7 Rows.worldAgainRow.domain false Rows.worldAgainRow.laid) (((OpenSpec.ofChange Rows.worldAgainSpec).at F).post enc Tryz.prog Tryz.f7 false true false false):=by
 obtain ⟨places,hx⟩:=reads os enc
 refine returnsInHanded_of_row (C:=Tryz.checked) (s:=OpenSpec.ofChange Rows.worldAgainSpec) own started (by kernel_rfl) Tryz.func7
  (witness_row_atRef (enc:=enc) (C:=Tryz.checked) false (laidWorld os) #[.int .u8 0,.int .u8 0,.int .u8 0,.slice none 0 0] rfl (by kernel_rfl) (by kernel_rfl) (by kernel_rfl)
   (OpenSpec.preRow_of_cond 8 hx (by kernel_rfl) (fun k hk=>by cases hk) (by kernel_rfl) (laid_met os))) ?_
 intro W base args ds gs before hval hW _ _ _ hL _ _
 exact contract H enc W base args ds gs before hval hW hL
end Go.Proofs.YtfjepdcnikgjeaaGreatDoor.worldAgain
