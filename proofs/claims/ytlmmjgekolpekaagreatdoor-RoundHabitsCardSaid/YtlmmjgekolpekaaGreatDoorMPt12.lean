/- Parts of the proof. -/
import Derived.Test.YtlmmjgekolpekaaGreatDoorMPq12
set_option linter.unusedVariables false
set_option linter.unusedSimpArgs false
set_option linter.unusedSectionVars false
set_option maxRecDepth 100000
set_option maxHeartbeats 6400000
namespace Go.Proofs.YtlmmjgekolpekaaGreatDoor
open Go Go.RowKit Hst Go.Proofs
theorem do_28 (N:Nat) (p:Wd) (i q:Nat) (t:Int) (hi:i<p.M) (hq:q<p.P) (hp:(p.mach i).p=(q:Int)) (hpl:(p.mach i).place=28):DoOK N p i t (p.doIt i t).1 (p.doIt i t).2:=by
 intro F V ow w h E
 have e:p.doIt i t=((p.setR q ((p.ring q).ready (p.mach i).got).1).setM i { p.mach i with rest:=((p.ring q).ready (p.mach i).got).2,got:=-1 },false):=by
  unfold Wd.doIt;simp only [hpl,hp,Int.toNat_natCast]
 rw [e]
 have c13:=h.cW_all
 have c8:=h.cW_rs
 have c0:=h.cA_place hi
 have c1:=h.cA_p hi
 have c4:=h.cA_got hi
 have cr:=h.cR hq
 have hM:=h.dim
 have hcap:=h.own_cap
 rw [hpl] at c0
 rw [hp] at c1
 unfold dims at hM
 have hput:=ready_any (F.ring q) (p.ring q) (p.mach i).got w.drew ((On.start h).drew.at_.cring q hq)
 have H:=Lib.hid h
 have HO:=Lib.hid hput
 clear h E e hput hpl hp
 go_enter Tryz.func178,Tryz.ntmps178
 go_wp2
 go_region_with (first | (go_at_call 209;refine HO.out.mono ?_;rintro e w1 ⟨v1,rfl,hown,hr,hm⟩;obtain ⟨va,vc,rfl⟩:=zac hown;have h1:=(On.start H.out).drew.ringModK hq (1000+i) hr hm;have k9:=h1.at_.cA_rest (i:=i) hi;have k13:=h1.at_.cA_got (i:=i) hi;have kf:=h1.at_.call.2;have H1:=Lib.hid h1;clear h1 hr hm))
 all_goals go_wp2
 all_goals go_returns
 all_goals exact ⟨rfl,_,_,(((OnM.of_on H1.out hi).s_rest _ _ (zaZ hown (Nat.zero_le _)) (zbQ hown (Nat.le_refl _))).s_got (-1)).fin rfl⟩
end Go.Proofs.YtlmmjgekolpekaaGreatDoor
