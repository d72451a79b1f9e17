/- Parts of the proof. -/
import Derived.Test.YtlmmjgekolpekaaGreatDoorMPk13
set_option linter.unusedVariables false
set_option linter.unusedSimpArgs false
set_option linter.unusedSectionVars false
set_option maxRecDepth 100000
set_option maxHeartbeats 6400000
namespace Go.Proofs.YtlmmjgekolpekaaGreatDoor
open Go Go.RowKit Hst Go.Proofs
theorem zay {is:Bool} (hb:is=true) (a b:Int) (w:World) :
  Calls Tryz.prog 183 #[.bool is,.int .i64 a,.int .i64 b] w fun e w'=>e=.returned (.int .i64 a)∧w'=w:=by
 subst hb
 go_enter Tryz.func183,Tryz.ntmps183
 go_wp2
 go_returns
 exact ⟨rfl,rfl⟩
theorem zax {is:Bool} (hb:is=false) (a b:Int) (w:World) :
  Calls Tryz.prog 183 #[.bool is,.int .i64 a,.int .i64 b] w fun e w'=>e=.returned (.int .i64 b)∧w'=w:=by
 subst hb
 go_enter Tryz.func183,Tryz.ntmps183
 go_wp2
 go_returns
 exact ⟨rfl,rfl⟩
theorem then_10t (N:Nat) (p:Wd) (i:Nat) (hi:i<p.M) (hpl:(p.mach i).place=10) (hf:p.fl i=true):ThenOK N p i (p.andThen i):=by
 intro F V ow w h E
 have e:p.andThen i=p.go i 11:=by unfold Wd.andThen;simp only [hpl,hf];rfl
 rw [e]
 have c14:=h.cW_flag
 have cf:=h.cF hi
 have c13:=h.cW_all
 have c0:=h.cA_place hi
 have c2:=h.cA_g hi
 have c5:=h.cA_target hi
 have c6:=h.cA_i hi
 have c7:=h.cA_spin hi
 have c10:=h.cA_back hi
 have c11:=h.cA_after hi
 have cP:=h.cW_F_P
 have fA:=h.call.2
 have hM:=h.dim
 have hcap:=h.own_cap.2
 have nWA:=h.own.ne.2.2.2.2.1
 have HP:=Lib.hid hpl
 have H:=Lib.hid h
 unfold dims at hM
 rw [hpl] at c0
 rw [hf] at cf
 clear h hpl E e hf
 go_enter Tryz.func179,Tryz.ntmps179
 go_wp2
 go_returns
 exact ⟨rfl,V,_,((OnM.start H.out hi).s_place 11).fin rfl⟩
theorem then_10f (N:Nat) (p:Wd) (i:Nat) (hi:i<p.M) (hpl:(p.mach i).place=10) (hf:p.fl i=false):ThenOK N p i (p.andThen i):=by
 intro F V ow w h E
 have e:p.andThen i=p.go i 13:=by unfold Wd.andThen;simp only [hpl,hf];rfl
 rw [e]
 have c14:=h.cW_flag
 have cf:=h.cF hi
 have c13:=h.cW_all
 have c0:=h.cA_place hi
 have c2:=h.cA_g hi
 have c5:=h.cA_target hi
 have c6:=h.cA_i hi
 have c7:=h.cA_spin hi
 have c10:=h.cA_back hi
 have c11:=h.cA_after hi
 have cP:=h.cW_F_P
 have fA:=h.call.2
 have hM:=h.dim
 have hcap:=h.own_cap.2
 have nWA:=h.own.ne.2.2.2.2.1
 have HP:=Lib.hid hpl
 have H:=Lib.hid h
 unfold dims at hM
 rw [hpl] at c0
 rw [hf] at cf
 clear h hpl E e hf
 go_enter Tryz.func179,Tryz.ntmps179
 go_wp2
 go_returns
 exact ⟨rfl,V,_,((OnM.start H.out hi).s_place 13).fin rfl⟩
theorem then_11t (N:Nat) (p:Wd) (i:Nat) (hi:i<p.M) (hpl:(p.mach i).place=11) (hf:p.fl i=true):ThenOK N p i (p.andThen i):=by
 intro F V ow w h E
 have e:p.andThen i=p.go i 12:=by unfold Wd.andThen;simp only [hpl,hf];rfl
 rw [e]
 have c14:=h.cW_flag
 have cf:=h.cF hi
 have c13:=h.cW_all
 have c0:=h.cA_place hi
 have c2:=h.cA_g hi
 have c5:=h.cA_target hi
 have c6:=h.cA_i hi
 have c7:=h.cA_spin hi
 have c10:=h.cA_back hi
 have c11:=h.cA_after hi
 have cP:=h.cW_F_P
 have fA:=h.call.2
 have hM:=h.dim
 have hcap:=h.own_cap.2
 have nWA:=h.own.ne.2.2.2.2.1
 have HP:=Lib.hid hpl
 have H:=Lib.hid h
 unfold dims at hM
 rw [hpl] at c0
 rw [hf] at cf
 clear h hpl E e hf
 go_enter Tryz.func179,Tryz.ntmps179
 go_wp2
 go_returns
 exact ⟨rfl,V,_,((OnM.start H.out hi).s_place 12).fin rfl⟩
theorem then_11f (N:Nat) (p:Wd) (i:Nat) (hi:i<p.M) (hpl:(p.mach i).place=11) (hf:p.fl i=false):ThenOK N p i (p.andThen i):=by
 intro F V ow w h E
 have e:p.andThen i=p.go i 13:=by unfold Wd.andThen;simp only [hpl,hf];rfl
 rw [e]
 have c14:=h.cW_flag
 have cf:=h.cF hi
 have c13:=h.cW_all
 have c0:=h.cA_place hi
 have c2:=h.cA_g hi
 have c5:=h.cA_target hi
 have c6:=h.cA_i hi
 have c7:=h.cA_spin hi
 have c10:=h.cA_back hi
 have c11:=h.cA_after hi
 have cP:=h.cW_F_P
 have fA:=h.call.2
 have hM:=h.dim
 have hcap:=h.own_cap.2
 have nWA:=h.own.ne.2.2.2.2.1
 have HP:=Lib.hid hpl
 have H:=Lib.hid h
 unfold dims at hM
 rw [hpl] at c0
 rw [hf] at cf
 clear h hpl E e hf
 go_enter Tryz.func179,Tryz.ntmps179
 go_wp2
 go_returns
 exact ⟨rfl,V,_,((OnM.start H.out hi).s_place 13).fin rfl⟩
theorem then_14t (N:Nat) (p:Wd) (i:Nat) (hi:i<p.M) (hpl:(p.mach i).place=14) (hf:p.fl i=true):ThenOK N p i (p.andThen i):=by
 intro F V ow w h E
 have e:p.andThen i=p.go i 15:=by unfold Wd.andThen;simp only [hpl,hf];rfl
 rw [e]
 have c14:=h.cW_flag
 have cf:=h.cF hi
 have c13:=h.cW_all
 have c0:=h.cA_place hi
 have c2:=h.cA_g hi
 have c5:=h.cA_target hi
 have c6:=h.cA_i hi
 have c7:=h.cA_spin hi
 have c10:=h.cA_back hi
 have c11:=h.cA_after hi
 have cP:=h.cW_F_P
 have fA:=h.call.2
 have hM:=h.dim
 have hcap:=h.own_cap.2
 have nWA:=h.own.ne.2.2.2.2.1
 have HP:=Lib.hid hpl
 have H:=Lib.hid h
 unfold dims at hM
 rw [hpl] at c0
 rw [hf] at cf
 clear h hpl E e hf
 go_enter Tryz.func179,Tryz.ntmps179
 go_wp2
 go_returns
 exact ⟨rfl,V,_,((OnM.start H.out hi).s_place 15).fin rfl⟩
theorem then_14f (N:Nat) (p:Wd) (i:Nat) (hi:i<p.M) (hpl:(p.mach i).place=14) (hf:p.fl i=false):ThenOK N p i (p.andThen i):=by
 intro F V ow w h E
 have e:p.andThen i=p.go i 16:=by unfold Wd.andThen;simp only [hpl,hf];rfl
 rw [e]
 have c14:=h.cW_flag
 have cf:=h.cF hi
 have c13:=h.cW_all
 have c0:=h.cA_place hi
 have c2:=h.cA_g hi
 have c5:=h.cA_target hi
 have c6:=h.cA_i hi
 have c7:=h.cA_spin hi
 have c10:=h.cA_back hi
 have c11:=h.cA_after hi
 have cP:=h.cW_F_P
 have fA:=h.call.2
 have hM:=h.dim
 have hcap:=h.own_cap.2
 have nWA:=h.own.ne.2.2.2.2.1
 have HP:=Lib.hid hpl
 have H:=Lib.hid h
 unfold dims at hM
 rw [hpl] at c0
 rw [hf] at cf
 clear h hpl E e hf
 go_enter Tryz.func179,Tryz.ntmps179
 go_wp2
 go_returns
 exact ⟨rfl,V,_,((OnM.start H.out hi).s_place 16).fin rfl⟩
theorem then_25t (N:Nat) (p:Wd) (i:Nat) (hi:i<p.M) (hpl:(p.mach i).place=25) (hf:p.fl i=true):ThenOK N p i (p.andThen i):=by
 intro F V ow w h E
 have e:p.andThen i=p.go i 26:=by unfold Wd.andThen;simp only [hpl,hf];rfl
 rw [e]
 have c14:=h.cW_flag
 have cf:=h.cF hi
 have c13:=h.cW_all
 have c0:=h.cA_place hi
 have c2:=h.cA_g hi
 have c5:=h.cA_target hi
 have c6:=h.cA_i hi
 have c7:=h.cA_spin hi
 have c10:=h.cA_back hi
 have c11:=h.cA_after hi
 have cP:=h.cW_F_P
 have fA:=h.call.2
 have hM:=h.dim
 have hcap:=h.own_cap.2
 have nWA:=h.own.ne.2.2.2.2.1
 have HP:=Lib.hid hpl
 have H:=Lib.hid h
 unfold dims at hM
 rw [hpl] at c0
 rw [hf] at cf
 clear h hpl E e hf
 go_enter Tryz.func179,Tryz.ntmps179
 go_wp2
 go_returns
 exact ⟨rfl,V,_,((OnM.start H.out hi).s_place 26).fin rfl⟩
theorem then_25f (N:Nat) (p:Wd) (i:Nat) (hi:i<p.M) (hpl:(p.mach i).place=25) (hf:p.fl i=false):ThenOK N p i (p.andThen i):=by
 intro F V ow w h E
 have e:p.andThen i=p.go i (p.mach i).after:=by unfold Wd.andThen;simp only [hpl,hf];rfl
 rw [e]
 have c14:=h.cW_flag
 have cf:=h.cF hi
 have c13:=h.cW_all
 have c0:=h.cA_place hi
 have c2:=h.cA_g hi
 have c5:=h.cA_target hi
 have c6:=h.cA_i hi
 have c7:=h.cA_spin hi
 have c10:=h.cA_back hi
 have c11:=h.cA_after hi
 have cP:=h.cW_F_P
 have fA:=h.call.2
 have hM:=h.dim
 have hcap:=h.own_cap.2
 have nWA:=h.own.ne.2.2.2.2.1
 have HP:=Lib.hid hpl
 have H:=Lib.hid h
 unfold dims at hM
 rw [hpl] at c0
 rw [hf] at cf
 clear h hpl E e hf
 go_enter Tryz.func179,Tryz.ntmps179
 go_wp2
 go_returns
 exact ⟨rfl,V,_,((OnM.start H.out hi).s_place _).fin rfl⟩
theorem then_27 (N:Nat) (p:Wd) (i:Nat) (hi:i<p.M) (hpl:(p.mach i).place=27):ThenOK N p i (p.andThen i):=by
 intro F V ow w h E
 have e:p.andThen i=p.go i 21:=by unfold Wd.andThen;simp only [hpl]
 rw [e]
 have c14:=h.cW_flag
 have cf:=h.cF hi
 have c13:=h.cW_all
 have c0:=h.cA_place hi
 have c2:=h.cA_g hi
 have c5:=h.cA_target hi
 have c6:=h.cA_i hi
 have c7:=h.cA_spin hi
 have c10:=h.cA_back hi
 have c11:=h.cA_after hi
 have cP:=h.cW_F_P
 have fA:=h.call.2
 have hM:=h.dim
 have hcap:=h.own_cap.2
 have nWA:=h.own.ne.2.2.2.2.1
 have HP:=Lib.hid hpl
 have H:=Lib.hid h
 unfold dims at hM
 rw [hpl] at c0
 clear h hpl E e
 go_enter Tryz.func179,Tryz.ntmps179
 go_wp2
 go_returns
 exact ⟨rfl,V,_,((OnM.start H.out hi).s_place 21).fin rfl⟩
theorem then_17 (N:Nat) (p:Wd) (i:Nat) (hi:i<p.M) (hpl:(p.mach i).place=17):ThenOK N p i (p.andThen i):=by
 intro F V ow w h E
 have e:p.andThen i=p.settle i:=by unfold Wd.andThen;simp only [hpl]
 rw [e]
 have c14:=h.cW_flag
 have cf:=h.cF hi
 have c13:=h.cW_all
 have c0:=h.cA_place hi
 have c2:=h.cA_g hi
 have c5:=h.cA_target hi
 have c6:=h.cA_i hi
 have c7:=h.cA_spin hi
 have c10:=h.cA_back hi
 have c11:=h.cA_after hi
 have cP:=h.cW_F_P
 have fA:=h.call.2
 have hM:=h.dim
 have hcap:=h.own_cap.2
 have nWA:=h.own.ne.2.2.2.2.1
 have HP:=Lib.hid hpl
 have H:=Lib.hid h
 unfold dims at hM
 rw [hpl] at c0
 have ht:=zdj h i hi
 have HT:=Lib.hid ht
 clear h hpl E e ht
 go_enter Tryz.func179,Tryz.ntmps179
 go_wp2_with fail
 refine HT.out.mono ?_
 rintro e w1 ⟨rfl,ow1,h1⟩
 go_wp2
 go_returns
 exact ⟨rfl,V,_,h1⟩
theorem then_18 (N:Nat) (p:Wd) (i:Nat) (hi:i<p.M) (hpl:(p.mach i).place=18):ThenOK N p i (p.andThen i):=by
 intro F V ow w h E
 have e:p.andThen i=p.settle i:=by unfold Wd.andThen;simp only [hpl]
 rw [e]
 have c14:=h.cW_flag
 have cf:=h.cF hi
 have c13:=h.cW_all
 have c0:=h.cA_place hi
 have c2:=h.cA_g hi
 have c5:=h.cA_target hi
 have c6:=h.cA_i hi
 have c7:=h.cA_spin hi
 have c10:=h.cA_back hi
 have c11:=h.cA_after hi
 have cP:=h.cW_F_P
 have fA:=h.call.2
 have hM:=h.dim
 have hcap:=h.own_cap.2
 have nWA:=h.own.ne.2.2.2.2.1
 have HP:=Lib.hid hpl
 have H:=Lib.hid h
 unfold dims at hM
 rw [hpl] at c0
 have ht:=zdj h i hi
 have HT:=Lib.hid ht
 clear h hpl E e ht
 go_enter Tryz.func179,Tryz.ntmps179
 go_wp2_with fail
 refine HT.out.mono ?_
 rintro e w1 ⟨rfl,ow1,h1⟩
 go_wp2
 go_returns
 exact ⟨rfl,V,_,h1⟩
theorem then_28 (N:Nat) (p:Wd) (i:Nat) (hi:i<p.M) (hpl:(p.mach i).place=28):ThenOK N p i (p.andThen i):=by
 intro F V ow w h E
 have e:p.andThen i=(p.setM i { p.mach i with back:=0 }).settle i:=by unfold Wd.andThen;simp only [hpl]
 rw [e]
 have c14:=h.cW_flag
 have cf:=h.cF hi
 have c13:=h.cW_all
 have c0:=h.cA_place hi
 have c2:=h.cA_g hi
 have c5:=h.cA_target hi
 have c6:=h.cA_i hi
 have c7:=h.cA_spin hi
 have c10:=h.cA_back hi
 have c11:=h.cA_after hi
 have cP:=h.cW_F_P
 have fA:=h.call.2
 have hM:=h.dim
 have hcap:=h.own_cap.2
 have nWA:=h.own.ne.2.2.2.2.1
 have HP:=Lib.hid hpl
 have H:=Lib.hid h
 unfold dims at hM
 rw [hpl] at c0
 clear h hpl E e
 go_enter Tryz.func179,Tryz.ntmps179
 go_wp2_with fail
 have h1:=(OnM.start H.out hi).s_back 0
 refine (zdj h1.on.at_ i hi).mono ?_
 rintro e w1 ⟨rfl,ow1,h2⟩
 go_wp2
 go_returns
 exact ⟨rfl,V,_,(h1.fin rfl).then_ h2⟩
theorem then_15t (N:Nat) (p:Wd) (i:Nat) (hi:i<p.M) (hpl:(p.mach i).place=15) (hf:p.fl i=true):ThenOK N p i (p.andThen i):=by
 intro F V ow w h E
 have e:p.andThen i=p.deliver i 13:=by unfold Wd.andThen;simp only [hpl,hf];rfl
 rw [e]
 have c14:=h.cW_flag
 have cf:=h.cF hi
 have c13:=h.cW_all
 have c0:=h.cA_place hi
 have c2:=h.cA_g hi
 have c5:=h.cA_target hi
 have c6:=h.cA_i hi
 have c7:=h.cA_spin hi
 have c10:=h.cA_back hi
 have c11:=h.cA_after hi
 have cP:=h.cW_F_P
 have fA:=h.call.2
 have hM:=h.dim
 have hcap:=h.own_cap.2
 have nWA:=h.own.ne.2.2.2.2.1
 have HP:=Lib.hid hpl
 have H:=Lib.hid h
 unfold dims at hM
 rw [hpl] at c0
 rw [hf] at cf
 clear h hpl E e hf
 go_enter Tryz.func179,Tryz.ntmps179
 go_wp2_with fail
 have h1:=(OnM.start H.out hi).s_place 16
 refine (zbl h1.on.at_ i hi 13).mono ?_
 rintro e w1 ⟨rfl,ow1,h2⟩
 go_wp2
 go_returns
 have hl:i<p.all.length:=by rw [H.out.lens.2.2.1];exact hi
 exact ⟨rfl,V,_,(h1.on.then_ h2).cast (by unfold Wd.deliver;rw [zaj p i _ hl,zao])⟩
theorem then_15f (N:Nat) (p:Wd) (i:Nat) (hi:i<p.M) (hpl:(p.mach i).place=15) (hf:p.fl i=false):ThenOK N p i (p.andThen i):=by
 intro F V ow w h E
 have e:p.andThen i=p.go i 16:=by unfold Wd.andThen;simp only [hpl,hf];rfl
 rw [e]
 have c14:=h.cW_flag
 have cf:=h.cF hi
 have c13:=h.cW_all
 have c0:=h.cA_place hi
 have c2:=h.cA_g hi
 have c5:=h.cA_target hi
 have c6:=h.cA_i hi
 have c7:=h.cA_spin hi
 have c10:=h.cA_back hi
 have c11:=h.cA_after hi
 have cP:=h.cW_F_P
 have fA:=h.call.2
 have hM:=h.dim
 have hcap:=h.own_cap.2
 have nWA:=h.own.ne.2.2.2.2.1
 have HP:=Lib.hid hpl
 have H:=Lib.hid h
 unfold dims at hM
 rw [hpl] at c0
 rw [hf] at cf
 clear h hpl E e hf
 go_enter Tryz.func179,Tryz.ntmps179
 go_wp2
 go_returns
 exact ⟨rfl,V,_,((OnM.start H.out hi).s_place 16).fin rfl⟩
theorem then_13sst (N:Nat) (p:Wd) (i:Nat) (hi:i<p.M) (hpl:(p.mach i).place=13) (hs:(p.mach i).spin=true) (hf:p.fl i=true):ThenOK N p i (p.andThen i):=by
 intro F V ow w h E
 have e:p.andThen i=p.go i 4:=by unfold Wd.andThen;simp only [hpl,hs,hf];first | done | rfl
 rw [e]
 have c14:=h.cW_flag
 have cf:=h.cF hi
 have c13:=h.cW_all
 have c0:=h.cA_place hi
 have c2:=h.cA_g hi
 have c5:=h.cA_target hi
 have c6:=h.cA_i hi
 have c7:=h.cA_spin hi
 have c10:=h.cA_back hi
 have c11:=h.cA_after hi
 have cP:=h.cW_F_P
 have fA:=h.call.2
 have hM:=h.dim
 have hcap:=h.own_cap.2
 have nWA:=h.own.ne.2.2.2.2.1
 have HP:=Lib.hid hpl
 have H:=Lib.hid h
 unfold dims at hM
 rw [hpl] at c0
 rw [hs] at c7
 rw [hf] at cf
 clear h hpl E e hs hf
 go_enter Tryz.func179,Tryz.ntmps179
 go_wp2
 go_region_held3 (fun w'=>w'.cell? ⟨F.all,i*18+7,none⟩=some (.bool true))
  (first | exact c7 | exact ((zaf c0 ..).trans ((if_neg (by omega)).trans c7)))
  (first | (go_at_call 183;refine (zay (by with_reducible rfl) _ _ _).mono ?_;rintro e w1 ⟨rfl,hw⟩;have hw:=hw.symm;subst hw) | (go_at_call 183;refine (zax (by with_reducible rfl) _ _ _).mono ?_;rintro e w1 ⟨rfl,hw⟩;have hw:=hw.symm;subst hw))
 go_wp2
 go_returns
 exact ⟨rfl,V,_,((OnM.start H.out hi).drew.s_place 4).fin rfl⟩
theorem then_13ssf (N:Nat) (p:Wd) (i:Nat) (hi:i<p.M) (hpl:(p.mach i).place=13) (hs:(p.mach i).spin=true) (hf:p.fl i=false):ThenOK N p i (p.andThen i):=by
 intro F V ow w h E
 have e:p.andThen i=p.go i 4:=by unfold Wd.andThen;simp only [hpl,hs,hf];first | done | rfl
 rw [e]
 have c14:=h.cW_flag
 have cf:=h.cF hi
 have c13:=h.cW_all
 have c0:=h.cA_place hi
 have c2:=h.cA_g hi
 have c5:=h.cA_target hi
 have c6:=h.cA_i hi
 have c7:=h.cA_spin hi
 have c10:=h.cA_back hi
 have c11:=h.cA_after hi
 have cP:=h.cW_F_P
 have fA:=h.call.2
 have hM:=h.dim
 have hcap:=h.own_cap.2
 have nWA:=h.own.ne.2.2.2.2.1
 have HP:=Lib.hid hpl
 have H:=Lib.hid h
 unfold dims at hM
 rw [hpl] at c0
 rw [hs] at c7
 rw [hf] at cf
 clear h hpl E e hs hf
 go_enter Tryz.func179,Tryz.ntmps179
 go_wp2
 go_region_held3 (fun w'=>w'.cell? ⟨F.all,i*18+7,none⟩=some (.bool true))
  (first | exact c7 | exact ((zaf c0 ..).trans ((if_neg (by omega)).trans c7)))
  (first | (go_at_call 183;refine (zay (by with_reducible rfl) _ _ _).mono ?_;rintro e w1 ⟨rfl,hw⟩;have hw:=hw.symm;subst hw) | (go_at_call 183;refine (zax (by with_reducible rfl) _ _ _).mono ?_;rintro e w1 ⟨rfl,hw⟩;have hw:=hw.symm;subst hw))
 go_wp2
 go_returns
 exact ⟨rfl,V,_,((OnM.start H.out hi).drew.s_place 4).fin rfl⟩
theorem then_13nt (N:Nat) (p:Wd) (i:Nat) (hi:i<p.M) (hpl:(p.mach i).place=13) (hs:(p.mach i).spin=false) (hf:p.fl i=true):ThenOK N p i (p.andThen i):=by
 intro F V ow w h E
 have e:p.andThen i=p.go i 14:=by unfold Wd.andThen;simp only [hpl,hs,hf];first | done | rfl
 rw [e]
 have c14:=h.cW_flag
 have cf:=h.cF hi
 have c13:=h.cW_all
 have c0:=h.cA_place hi
 have c2:=h.cA_g hi
 have c5:=h.cA_target hi
 have c6:=h.cA_i hi
 have c7:=h.cA_spin hi
 have c10:=h.cA_back hi
 have c11:=h.cA_after hi
 have cP:=h.cW_F_P
 have fA:=h.call.2
 have hM:=h.dim
 have hcap:=h.own_cap.2
 have nWA:=h.own.ne.2.2.2.2.1
 have HP:=Lib.hid hpl
 have H:=Lib.hid h
 unfold dims at hM
 rw [hpl] at c0
 rw [hs] at c7
 rw [hf] at cf
 clear h hpl E e hs hf
 go_enter Tryz.func179,Tryz.ntmps179
 go_wp2
 go_region_held3 (fun w'=>w'.cell? ⟨F.all,i*18+7,none⟩=some (.bool false))
  (first | exact c7 | exact ((zaf c0 ..).trans ((if_neg (by omega)).trans c7)))
  (first | (go_at_call 183;refine (zay (by with_reducible rfl) _ _ _).mono ?_;rintro e w1 ⟨rfl,hw⟩;have hw:=hw.symm;subst hw) | (go_at_call 183;refine (zax (by with_reducible rfl) _ _ _).mono ?_;rintro e w1 ⟨rfl,hw⟩;have hw:=hw.symm;subst hw))
 go_wp2
 go_returns
 exact ⟨rfl,V,_,((OnM.start H.out hi).drew.s_place 14).fin rfl⟩
theorem then_13nf (N:Nat) (p:Wd) (i:Nat) (hi:i<p.M) (hpl:(p.mach i).place=13) (hs:(p.mach i).spin=false) (hf:p.fl i=false):ThenOK N p i (p.andThen i):=by
 intro F V ow w h E
 have e:p.andThen i=p.go i 16:=by unfold Wd.andThen;simp only [hpl,hs,hf];first | done | rfl
 rw [e]
 have c14:=h.cW_flag
 have cf:=h.cF hi
 have c13:=h.cW_all
 have c0:=h.cA_place hi
 have c2:=h.cA_g hi
 have c5:=h.cA_target hi
 have c6:=h.cA_i hi
 have c7:=h.cA_spin hi
 have c10:=h.cA_back hi
 have c11:=h.cA_after hi
 have cP:=h.cW_F_P
 have fA:=h.call.2
 have hM:=h.dim
 have hcap:=h.own_cap.2
 have nWA:=h.own.ne.2.2.2.2.1
 have HP:=Lib.hid hpl
 have H:=Lib.hid h
 unfold dims at hM
 rw [hpl] at c0
 rw [hs] at c7
 rw [hf] at cf
 clear h hpl E e hs hf
 go_enter Tryz.func179,Tryz.ntmps179
 go_wp2
 go_region_held3 (fun w'=>w'.cell? ⟨F.all,i*18+7,none⟩=some (.bool false))
  (first | exact c7 | exact ((zaf c0 ..).trans ((if_neg (by omega)).trans c7)))
  (first | (go_at_call 183;refine (zay (by with_reducible rfl) _ _ _).mono ?_;rintro e w1 ⟨rfl,hw⟩;have hw:=hw.symm;subst hw) | (go_at_call 183;refine (zax (by with_reducible rfl) _ _ _).mono ?_;rintro e w1 ⟨rfl,hw⟩;have hw:=hw.symm;subst hw))
 go_wp2
 go_returns
 exact ⟨rfl,V,_,((OnM.start H.out hi).drew.s_place 16).fin rfl⟩
theorem then_23t (N:Nat) (p:Wd) (i:Nat) (hi:i<p.M) (hpl:(p.mach i).place=23) (ht:0≤(p.mach i).target):ThenOK N p i (p.andThen i):=by
 intro F V ow w h E
 have e:p.andThen i=p.go i 24:=by unfold Wd.andThen;simp only [hpl,ge_iff_le];rw [if_pos ht]
 rw [e]
 have c14:=h.cW_flag
 have cf:=h.cF hi
 have c13:=h.cW_all
 have c0:=h.cA_place hi
 have c2:=h.cA_g hi
 have c5:=h.cA_target hi
 have c6:=h.cA_i hi
 have c7:=h.cA_spin hi
 have c10:=h.cA_back hi
 have c11:=h.cA_after hi
 have cP:=h.cW_F_P
 have fA:=h.call.2
 have hM:=h.dim
 have hcap:=h.own_cap.2
 have nWA:=h.own.ne.2.2.2.2.1
 have HP:=Lib.hid hpl
 have H:=Lib.hid h
 unfold dims at hM
 rw [hpl] at c0
 clear h hpl E e
 go_enter Tryz.func179,Tryz.ntmps179
 go_wp2
 go_region_held3 (fun w'=>w'.cell? ⟨F.all,i*18+5,none⟩=some (.int .i64 (p.mach i).target)∧w'.cell? ⟨F.all,i*18+10,none⟩=some (.int .i64 (p.mach i).back))
  (first | exact ⟨c5,c10⟩ | exact ⟨((zaf c0 ..).trans ((if_neg (by omega)).trans c5)),((zaf c0 ..).trans ((if_neg (by omega)).trans c10))⟩)
  (first | (go_at_call 183;refine (zay (by first | with_reducible rfl | with_reducible exact decide_eq_true ht) _ _ _).mono ?_;rintro e w1 ⟨rfl,hw⟩;have hw:=hw.symm;subst hw) | (go_at_call 183;refine (zax (by with_reducible rfl) _ _ _).mono ?_;rintro e w1 ⟨rfl,hw⟩;have hw:=hw.symm;subst hw))
 go_wp2
 go_returns
 exact ⟨rfl,V,_,((OnM.start H.out hi).drew.s_place 24).fin rfl⟩
theorem then_23f (N:Nat) (p:Wd) (i:Nat) (hi:i<p.M) (hpl:(p.mach i).place=23) (ht:¬ 0≤(p.mach i).target):ThenOK N p i (p.andThen i):=by
 intro F V ow w h E
 have e:p.andThen i=p.go i (p.mach i).back:=by unfold Wd.andThen;simp only [hpl,ge_iff_le];rw [if_neg ht]
 rw [e]
 have c14:=h.cW_flag
 have cf:=h.cF hi
 have c13:=h.cW_all
 have c0:=h.cA_place hi
 have c2:=h.cA_g hi
 have c5:=h.cA_target hi
 have c6:=h.cA_i hi
 have c7:=h.cA_spin hi
 have c10:=h.cA_back hi
 have c11:=h.cA_after hi
 have cP:=h.cW_F_P
 have fA:=h.call.2
 have hM:=h.dim
 have hcap:=h.own_cap.2
 have nWA:=h.own.ne.2.2.2.2.1
 have HP:=Lib.hid hpl
 have H:=Lib.hid h
 unfold dims at hM
 rw [hpl] at c0
 clear h hpl E e
 go_enter Tryz.func179,Tryz.ntmps179
 go_wp2
 go_region_held3 (fun w'=>w'.cell? ⟨F.all,i*18+5,none⟩=some (.int .i64 (p.mach i).target)∧w'.cell? ⟨F.all,i*18+10,none⟩=some (.int .i64 (p.mach i).back))
  (first | exact ⟨c5,c10⟩ | exact ⟨((zaf c0 ..).trans ((if_neg (by omega)).trans c5)),((zaf c0 ..).trans ((if_neg (by omega)).trans c10))⟩)
  (first | (go_at_call 183;refine (zay (by with_reducible rfl) _ _ _).mono ?_;rintro e w1 ⟨rfl,hw⟩;have hw:=hw.symm;subst hw) | (go_at_call 183;refine (zax (by first | with_reducible rfl | with_reducible exact decide_eq_false (Int.not_le.2 ht)) _ _ _).mono ?_;rintro e w1 ⟨rfl,hw⟩;have hw:=hw.symm;subst hw))
 go_wp2
 go_returns
 exact ⟨rfl,V,_,((OnM.start H.out hi).drew.s_place _).fin rfl⟩
theorem then_9tl (N:Nat) (p:Wd) (i:Nat) (hi:i<p.M) (hpl:(p.mach i).place=9) (hb:0≤(p.mach i).i∧(p.mach i).i≤4096) (hf:p.fl i=true) (hl:(p.mach i).i+1<p.P):ThenOK N p i (p.andThen i):=by
 intro F V ow w h E
 have e:p.andThen i=p.setM i { p.mach i with i:=(p.mach i).i+1,place:=11 }:=by unfold Wd.andThen;simp only [hpl,hf];rfl
 rw [e]
 have c14:=h.cW_flag
 have cf:=h.cF hi
 have c13:=h.cW_all
 have c0:=h.cA_place hi
 have c2:=h.cA_g hi
 have c5:=h.cA_target hi
 have c6:=h.cA_i hi
 have c7:=h.cA_spin hi
 have c10:=h.cA_back hi
 have c11:=h.cA_after hi
 have cP:=h.cW_F_P
 have fA:=h.call.2
 have hM:=h.dim
 have hcap:=h.own_cap.2
 have nWA:=h.own.ne.2.2.2.2.1
 have HP:=Lib.hid hpl
 have H:=Lib.hid h
 unfold dims at hM
 rw [hpl] at c0
 rw [hf] at cf
 clear h hpl E e hf
 go_enter Tryz.func179,Tryz.ntmps179
 have ew:IntKind.i64.wrap ((p.mach i).i+1)=(p.mach i).i+1:=IntWalk.i64_in _ (by omega)
 go_wp2
 have h1:=(OnM.start H.out hi).s_i ((p.mach i).i+1)
 have HP2:=h1.on.at_.cW_F_P
 have d00:(w.setCell ⟨F.all,i*18+6,none⟩ (.int .i64 ((p.mach i).i+1))).cell? ⟨F.W,0,none⟩=some (.int .i64 p.P):=HP2
 have d6:(w.setCell ⟨F.all,i*18+6,none⟩ (.int .i64 ((p.mach i).i+1))).cell? ⟨F.all,i*18+6,none⟩=some (.int .i64 ((p.mach i).i+1)):=by rw [zaf c6,if_pos rfl]
 have d0:(w.setCell ⟨F.all,i*18+6,none⟩ (.int .i64 ((p.mach i).i+1))).cell? ⟨F.all,i*18,none⟩=some (.int .i64 9):=by rw [zaf c6,if_neg (by omega)];exact c0
 have fA2:=h1.on.at_.call.2
 generalize w.setCell ⟨F.all,i*18+6,none⟩ (.int .i64 ((p.mach i).i+1))=w2 at *
 go_region_held3 (fun w'=>w'.cell? ⟨F.all,i*18+6,none⟩=some (.int .i64 ((p.mach i).i+1))∧w'.cell? ⟨F.W,0,none⟩=some (.int .i64 p.P))
  (first | exact ⟨d6,d00⟩ | exact ⟨((zaf d0 ..).trans ((if_neg (by omega)).trans d6)),((cell_far nWA.symm _).trans d00)⟩)
  (first | (go_at_call 183;refine (zay (by first | with_reducible rfl | with_reducible exact decide_eq_true hl) _ _ _).mono ?_;rintro e w1 ⟨rfl,hw⟩;have hw:=hw.symm;subst hw) | (go_at_call 183;refine (zax (by with_reducible rfl) _ _ _).mono ?_;rintro e w1 ⟨rfl,hw⟩;have hw:=hw.symm;subst hw))
 go_wp2
 go_returns
 exact ⟨rfl,V,_,(h1.drew.s_place 11).fin rfl⟩
theorem then_9tg (N:Nat) (p:Wd) (i:Nat) (hi:i<p.M) (hpl:(p.mach i).place=9) (hb:0≤(p.mach i).i∧(p.mach i).i≤4096) (hf:p.fl i=true) (hl:¬ (p.mach i).i+1<p.P):ThenOK N p i (p.andThen i):=by
 intro F V ow w h E
 have e:p.andThen i=p.setM i { p.mach i with i:=(p.mach i).i+1,place:=11 }:=by unfold Wd.andThen;simp only [hpl,hf];rfl
 rw [e]
 have c14:=h.cW_flag
 have cf:=h.cF hi
 have c13:=h.cW_all
 have c0:=h.cA_place hi
 have c2:=h.cA_g hi
 have c5:=h.cA_target hi
 have c6:=h.cA_i hi
 have c7:=h.cA_spin hi
 have c10:=h.cA_back hi
 have c11:=h.cA_after hi
 have cP:=h.cW_F_P
 have fA:=h.call.2
 have hM:=h.dim
 have hcap:=h.own_cap.2
 have nWA:=h.own.ne.2.2.2.2.1
 have HP:=Lib.hid hpl
 have H:=Lib.hid h
 unfold dims at hM
 rw [hpl] at c0
 rw [hf] at cf
 clear h hpl E e hf
 go_enter Tryz.func179,Tryz.ntmps179
 have ew:IntKind.i64.wrap ((p.mach i).i+1)=(p.mach i).i+1:=IntWalk.i64_in _ (by omega)
 go_wp2
 have h1:=(OnM.start H.out hi).s_i ((p.mach i).i+1)
 have HP2:=h1.on.at_.cW_F_P
 have d00:(w.setCell ⟨F.all,i*18+6,none⟩ (.int .i64 ((p.mach i).i+1))).cell? ⟨F.W,0,none⟩=some (.int .i64 p.P):=HP2
 have d6:(w.setCell ⟨F.all,i*18+6,none⟩ (.int .i64 ((p.mach i).i+1))).cell? ⟨F.all,i*18+6,none⟩=some (.int .i64 ((p.mach i).i+1)):=by rw [zaf c6,if_pos rfl]
 have d0:(w.setCell ⟨F.all,i*18+6,none⟩ (.int .i64 ((p.mach i).i+1))).cell? ⟨F.all,i*18,none⟩=some (.int .i64 9):=by rw [zaf c6,if_neg (by omega)];exact c0
 have fA2:=h1.on.at_.call.2
 generalize w.setCell ⟨F.all,i*18+6,none⟩ (.int .i64 ((p.mach i).i+1))=w2 at *
 go_region_held3 (fun w'=>w'.cell? ⟨F.all,i*18+6,none⟩=some (.int .i64 ((p.mach i).i+1))∧w'.cell? ⟨F.W,0,none⟩=some (.int .i64 p.P))
  (first | exact ⟨d6,d00⟩ | exact ⟨((zaf d0 ..).trans ((if_neg (by omega)).trans d6)),((cell_far nWA.symm _).trans d00)⟩)
  (first | (go_at_call 183;refine (zay (by with_reducible rfl) _ _ _).mono ?_;rintro e w1 ⟨rfl,hw⟩;have hw:=hw.symm;subst hw) | (go_at_call 183;refine (zax (by first | with_reducible rfl | with_reducible exact decide_eq_false (Int.not_lt.2 hl)) _ _ _).mono ?_;rintro e w1 ⟨rfl,hw⟩;have hw:=hw.symm;subst hw))
 go_wp2
 go_returns
 exact ⟨rfl,V,_,(h1.drew.s_place 11).fin rfl⟩
theorem then_9l (N:Nat) (p:Wd) (i:Nat) (hi:i<p.M) (hpl:(p.mach i).place=9) (hb:0≤(p.mach i).i∧(p.mach i).i≤4096) (hf:p.fl i=false) (hl:(p.mach i).i+1<p.P):ThenOK N p i (p.andThen i):=by
 intro F V ow w h E
 have e:p.andThen i=p.setM i { p.mach i with i:=(p.mach i).i+1,place:=9 }:=by unfold Wd.andThen;simp only [hpl,hf];rw [if_neg (by decide),if_pos hl]
 rw [e]
 have c14:=h.cW_flag
 have cf:=h.cF hi
 have c13:=h.cW_all
 have c0:=h.cA_place hi
 have c2:=h.cA_g hi
 have c5:=h.cA_target hi
 have c6:=h.cA_i hi
 have c7:=h.cA_spin hi
 have c10:=h.cA_back hi
 have c11:=h.cA_after hi
 have cP:=h.cW_F_P
 have fA:=h.call.2
 have hM:=h.dim
 have hcap:=h.own_cap.2
 have nWA:=h.own.ne.2.2.2.2.1
 have HP:=Lib.hid hpl
 have H:=Lib.hid h
 unfold dims at hM
 rw [hpl] at c0
 rw [hf] at cf
 clear h hpl E e hf
 go_enter Tryz.func179,Tryz.ntmps179
 have ew:IntKind.i64.wrap ((p.mach i).i+1)=(p.mach i).i+1:=IntWalk.i64_in _ (by omega)
 go_wp2
 have h1:=(OnM.start H.out hi).s_i ((p.mach i).i+1)
 have HP2:=h1.on.at_.cW_F_P
 have d00:(w.setCell ⟨F.all,i*18+6,none⟩ (.int .i64 ((p.mach i).i+1))).cell? ⟨F.W,0,none⟩=some (.int .i64 p.P):=HP2
 have d6:(w.setCell ⟨F.all,i*18+6,none⟩ (.int .i64 ((p.mach i).i+1))).cell? ⟨F.all,i*18+6,none⟩=some (.int .i64 ((p.mach i).i+1)):=by rw [zaf c6,if_pos rfl]
 have d0:(w.setCell ⟨F.all,i*18+6,none⟩ (.int .i64 ((p.mach i).i+1))).cell? ⟨F.all,i*18,none⟩=some (.int .i64 9):=by rw [zaf c6,if_neg (by omega)];exact c0
 have fA2:=h1.on.at_.call.2
 generalize w.setCell ⟨F.all,i*18+6,none⟩ (.int .i64 ((p.mach i).i+1))=w2 at *
 go_region_held3 (fun w'=>w'.cell? ⟨F.all,i*18+6,none⟩=some (.int .i64 ((p.mach i).i+1))∧w'.cell? ⟨F.W,0,none⟩=some (.int .i64 p.P))
  (first | exact ⟨d6,d00⟩ | exact ⟨((zaf d0 ..).trans ((if_neg (by omega)).trans d6)),((cell_far nWA.symm _).trans d00)⟩)
  (first | (go_at_call 183;refine (zay (by first | with_reducible rfl | with_reducible exact decide_eq_true hl) _ _ _).mono ?_;rintro e w1 ⟨rfl,hw⟩;have hw:=hw.symm;subst hw) | (go_at_call 183;refine (zax (by with_reducible rfl) _ _ _).mono ?_;rintro e w1 ⟨rfl,hw⟩;have hw:=hw.symm;subst hw))
 go_wp2
 go_returns
 exact ⟨rfl,V,_,(h1.drew.s_place 9).fin rfl⟩
theorem then_9g (N:Nat) (p:Wd) (i:Nat) (hi:i<p.M) (hpl:(p.mach i).place=9) (hb:0≤(p.mach i).i∧(p.mach i).i≤4096) (hf:p.fl i=false) (hl:¬ (p.mach i).i+1<p.P):ThenOK N p i (p.andThen i):=by
 intro F V ow w h E
 have e:p.andThen i=p.setM i { p.mach i with i:=(p.mach i).i+1,place:=10 }:=by unfold Wd.andThen;simp only [hpl,hf];rw [if_neg (by decide),if_neg hl]
 rw [e]
 have c14:=h.cW_flag
 have cf:=h.cF hi
 have c13:=h.cW_all
 have c0:=h.cA_place hi
 have c2:=h.cA_g hi
 have c5:=h.cA_target hi
 have c6:=h.cA_i hi
 have c7:=h.cA_spin hi
 have c10:=h.cA_back hi
 have c11:=h.cA_after hi
 have cP:=h.cW_F_P
 have fA:=h.call.2
 have hM:=h.dim
 have hcap:=h.own_cap.2
 have nWA:=h.own.ne.2.2.2.2.1
 have HP:=Lib.hid hpl
 have H:=Lib.hid h
 unfold dims at hM
 rw [hpl] at c0
 rw [hf] at cf
 clear h hpl E e hf
 go_enter Tryz.func179,Tryz.ntmps179
 have ew:IntKind.i64.wrap ((p.mach i).i+1)=(p.mach i).i+1:=IntWalk.i64_in _ (by omega)
 go_wp2
 have h1:=(OnM.start H.out hi).s_i ((p.mach i).i+1)
 have HP2:=h1.on.at_.cW_F_P
 have d00:(w.setCell ⟨F.all,i*18+6,none⟩ (.int .i64 ((p.mach i).i+1))).cell? ⟨F.W,0,none⟩=some (.int .i64 p.P):=HP2
 have d6:(w.setCell ⟨F.all,i*18+6,none⟩ (.int .i64 ((p.mach i).i+1))).cell? ⟨F.all,i*18+6,none⟩=some (.int .i64 ((p.mach i).i+1)):=by rw [zaf c6,if_pos rfl]
 have d0:(w.setCell ⟨F.all,i*18+6,none⟩ (.int .i64 ((p.mach i).i+1))).cell? ⟨F.all,i*18,none⟩=some (.int .i64 9):=by rw [zaf c6,if_neg (by omega)];exact c0
 have fA2:=h1.on.at_.call.2
 generalize w.setCell ⟨F.all,i*18+6,none⟩ (.int .i64 ((p.mach i).i+1))=w2 at *
 go_region_held3 (fun w'=>w'.cell? ⟨F.all,i*18+6,none⟩=some (.int .i64 ((p.mach i).i+1))∧w'.cell? ⟨F.W,0,none⟩=some (.int .i64 p.P))
  (first | exact ⟨d6,d00⟩ | exact ⟨((zaf d0 ..).trans ((if_neg (by omega)).trans d6)),((cell_far nWA.symm _).trans d00)⟩)
  (first | (go_at_call 183;refine (zay (by with_reducible rfl) _ _ _).mono ?_;rintro e w1 ⟨rfl,hw⟩;have hw:=hw.symm;subst hw) | (go_at_call 183;refine (zax (by first | with_reducible rfl | with_reducible exact decide_eq_false (Int.not_lt.2 hl)) _ _ _).mono ?_;rintro e w1 ⟨rfl,hw⟩;have hw:=hw.symm;subst hw))
 go_wp2
 go_returns
 exact ⟨rfl,V,_,(h1.drew.s_place 10).fin rfl⟩
theorem then_29g (N:Nat) (p:Wd) (i:Nat) (hi:i<p.M) (hpl:(p.mach i).place=29) (hg:0≤(p.mach i).g):ThenOK N p i (p.andThen i):=by
 intro F V ow w h E
 have e:p.andThen i=p.go i 0:=by unfold Wd.andThen;simp only [hpl,ge_iff_le];rw [if_pos hg]
 rw [e]
 have c14:=h.cW_flag
 have cf:=h.cF hi
 have c13:=h.cW_all
 have c0:=h.cA_place hi
 have c2:=h.cA_g hi
 have c5:=h.cA_target hi
 have c6:=h.cA_i hi
 have c7:=h.cA_spin hi
 have c10:=h.cA_back hi
 have c11:=h.cA_after hi
 have cP:=h.cW_F_P
 have fA:=h.call.2
 have hM:=h.dim
 have hcap:=h.own_cap.2
 have nWA:=h.own.ne.2.2.2.2.1
 have HP:=Lib.hid hpl
 have H:=Lib.hid h
 unfold dims at hM
 rw [hpl] at c0
 clear h hpl E e
 go_enter Tryz.func179,Tryz.ntmps179
 have hg2:¬ (p.mach i).g<0:=by omega
 go_wp2
 have d2:(w.setCell ⟨F.all,i*18,none⟩ (.int .i64 0)).cell? ⟨F.all,i*18+2,none⟩=some (.int .i64 (p.mach i).g):=by rw [zaf c0,if_neg (by omega)];exact c2
 go_wp2
 go_returns
 exact ⟨rfl,V,_,((OnM.start H.out hi).s_place 0).fin rfl⟩
theorem then_29t (N:Nat) (p:Wd) (i:Nat) (hi:i<p.M) (hpl:(p.mach i).place=29) (hg:¬ 0≤(p.mach i).g) (hf:p.fl i=true):ThenOK N p i (p.andThen i):=by
 intro F V ow w h E
 have e:p.andThen i=p.deliver i 1:=by unfold Wd.andThen;simp only [hpl,ge_iff_le,hf];rw [if_neg hg];rfl
 rw [e]
 have c14:=h.cW_flag
 have cf:=h.cF hi
 have c13:=h.cW_all
 have c0:=h.cA_place hi
 have c2:=h.cA_g hi
 have c5:=h.cA_target hi
 have c6:=h.cA_i hi
 have c7:=h.cA_spin hi
 have c10:=h.cA_back hi
 have c11:=h.cA_after hi
 have cP:=h.cW_F_P
 have fA:=h.call.2
 have hM:=h.dim
 have hcap:=h.own_cap.2
 have nWA:=h.own.ne.2.2.2.2.1
 have HP:=Lib.hid hpl
 have H:=Lib.hid h
 unfold dims at hM
 rw [hpl] at c0
 rw [hf] at cf
 clear h hpl E e hf
 go_enter Tryz.func179,Tryz.ntmps179
 have hg2:(p.mach i).g<0:=by omega
 have d2:(w.setCell ⟨F.all,i*18,none⟩ (.int .i64 1)).cell? ⟨F.all,i*18+2,none⟩=some (.int .i64 (p.mach i).g):=by rw [zaf c0,if_neg (by omega)];exact c2
 go_wp2_with (first | (go_at_call 183;refine (zay (by with_reducible rfl) _ _ _).mono ?_;rintro e w1 ⟨rfl,hw⟩;have hw:=hw.symm;subst hw) | (go_at_call 183;refine (zax (by with_reducible rfl) _ _ _).mono ?_;rintro e w1 ⟨rfl,hw⟩;have hw:=hw.symm;subst hw))
 have h1:=(OnM.start H.out hi).s_place 1
 refine (zbl h1.on.at_ i hi 1).mono ?_
 rintro e w1 ⟨rfl,ow1,h2⟩
 go_wp2
 go_returns
 have hl:i<p.all.length:=by rw [H.out.lens.2.2.1];exact hi
 exact ⟨rfl,V,_,(h1.on.then_ h2).cast (by unfold Wd.deliver;rw [zaj p i _ hl,zao])⟩
theorem then_29f (N:Nat) (p:Wd) (i:Nat) (hi:i<p.M) (hpl:(p.mach i).place=29) (hg:¬ 0≤(p.mach i).g) (hf:p.fl i=false):ThenOK N p i (p.andThen i):=by
 intro F V ow w h E
 have e:p.andThen i=p.go i 1:=by unfold Wd.andThen;simp only [hpl,ge_iff_le,hf];rw [if_neg hg];rfl
 rw [e]
 have c14:=h.cW_flag
 have cf:=h.cF hi
 have c13:=h.cW_all
 have c0:=h.cA_place hi
 have c2:=h.cA_g hi
 have c5:=h.cA_target hi
 have c6:=h.cA_i hi
 have c7:=h.cA_spin hi
 have c10:=h.cA_back hi
 have c11:=h.cA_after hi
 have cP:=h.cW_F_P
 have fA:=h.call.2
 have hM:=h.dim
 have hcap:=h.own_cap.2
 have nWA:=h.own.ne.2.2.2.2.1
 have HP:=Lib.hid hpl
 have H:=Lib.hid h
 unfold dims at hM
 rw [hpl] at c0
 rw [hf] at cf
 clear h hpl E e hf
 go_enter Tryz.func179,Tryz.ntmps179
 have hg2:(p.mach i).g<0:=by omega
 have d2:(w.setCell ⟨F.all,i*18,none⟩ (.int .i64 1)).cell? ⟨F.all,i*18+2,none⟩=some (.int .i64 (p.mach i).g):=by rw [zaf c0,if_neg (by omega)];exact c2
 go_wp2_with (first | (go_at_call 183;refine (zay (by with_reducible rfl) _ _ _).mono ?_;rintro e w1 ⟨rfl,hw⟩;have hw:=hw.symm;subst hw) | (go_at_call 183;refine (zax (by with_reducible rfl) _ _ _).mono ?_;rintro e w1 ⟨rfl,hw⟩;have hw:=hw.symm;subst hw))
 go_returns
 exact ⟨rfl,V,_,((OnM.start H.out hi).s_place 1).fin rfl⟩
theorem then_30g (N:Nat) (p:Wd) (i:Nat) (hi:i<p.M) (hpl:(p.mach i).place=30) (hg:0≤(p.mach i).g):ThenOK N p i (p.andThen i):=by
 intro F V ow w h E
 have e:p.andThen i=p.go i 0:=by unfold Wd.andThen;simp only [hpl,ge_iff_le];rw [if_pos hg]
 rw [e]
 have c14:=h.cW_flag
 have cf:=h.cF hi
 have c13:=h.cW_all
 have c0:=h.cA_place hi
 have c2:=h.cA_g hi
 have c5:=h.cA_target hi
 have c6:=h.cA_i hi
 have c7:=h.cA_spin hi
 have c10:=h.cA_back hi
 have c11:=h.cA_after hi
 have cP:=h.cW_F_P
 have fA:=h.call.2
 have hM:=h.dim
 have hcap:=h.own_cap.2
 have nWA:=h.own.ne.2.2.2.2.1
 have HP:=Lib.hid hpl
 have H:=Lib.hid h
 unfold dims at hM
 rw [hpl] at c0
 clear h hpl E e
 go_enter Tryz.func179,Tryz.ntmps179
 have hg2:¬ (p.mach i).g<0:=by omega
 go_wp2
 have d2:(w.setCell ⟨F.all,i*18,none⟩ (.int .i64 0)).cell? ⟨F.all,i*18+2,none⟩=some (.int .i64 (p.mach i).g):=by rw [zaf c0,if_neg (by omega)];exact c2
 go_wp2
 go_returns
 exact ⟨rfl,V,_,((OnM.start H.out hi).s_place 0).fin rfl⟩
theorem then_30t (N:Nat) (p:Wd) (i:Nat) (hi:i<p.M) (hpl:(p.mach i).place=30) (hg:¬ 0≤(p.mach i).g) (hf:p.fl i=true):ThenOK N p i (p.andThen i):=by
 intro F V ow w h E
 have e:p.andThen i=p.deliver i 1:=by unfold Wd.andThen;simp only [hpl,ge_iff_le,hf];rw [if_neg hg];rfl
 rw [e]
 have c14:=h.cW_flag
 have cf:=h.cF hi
 have c13:=h.cW_all
 have c0:=h.cA_place hi
 have c2:=h.cA_g hi
 have c5:=h.cA_target hi
 have c6:=h.cA_i hi
 have c7:=h.cA_spin hi
 have c10:=h.cA_back hi
 have c11:=h.cA_after hi
 have cP:=h.cW_F_P
 have fA:=h.call.2
 have hM:=h.dim
 have hcap:=h.own_cap.2
 have nWA:=h.own.ne.2.2.2.2.1
 have HP:=Lib.hid hpl
 have H:=Lib.hid h
 unfold dims at hM
 rw [hpl] at c0
 rw [hf] at cf
 clear h hpl E e hf
 go_enter Tryz.func179,Tryz.ntmps179
 have hg2:(p.mach i).g<0:=by omega
 have d2:(w.setCell ⟨F.all,i*18,none⟩ (.int .i64 1)).cell? ⟨F.all,i*18+2,none⟩=some (.int .i64 (p.mach i).g):=by rw [zaf c0,if_neg (by omega)];exact c2
 go_wp2_with (first | (go_at_call 183;refine (zay (by with_reducible rfl) _ _ _).mono ?_;rintro e w1 ⟨rfl,hw⟩;have hw:=hw.symm;subst hw) | (go_at_call 183;refine (zax (by with_reducible rfl) _ _ _).mono ?_;rintro e w1 ⟨rfl,hw⟩;have hw:=hw.symm;subst hw))
 have h1:=(OnM.start H.out hi).s_place 1
 refine (zbl h1.on.at_ i hi 1).mono ?_
 rintro e w1 ⟨rfl,ow1,h2⟩
 go_wp2
 go_returns
 have hl:i<p.all.length:=by rw [H.out.lens.2.2.1];exact hi
 exact ⟨rfl,V,_,(h1.on.then_ h2).cast (by unfold Wd.deliver;rw [zaj p i _ hl,zao])⟩
theorem then_30f (N:Nat) (p:Wd) (i:Nat) (hi:i<p.M) (hpl:(p.mach i).place=30) (hg:¬ 0≤(p.mach i).g) (hf:p.fl i=false):ThenOK N p i (p.andThen i):=by
 intro F V ow w h E
 have e:p.andThen i=p.go i 1:=by unfold Wd.andThen;simp only [hpl,ge_iff_le,hf];rw [if_neg hg];rfl
 rw [e]
 have c14:=h.cW_flag
 have cf:=h.cF hi
 have c13:=h.cW_all
 have c0:=h.cA_place hi
 have c2:=h.cA_g hi
 have c5:=h.cA_target hi
 have c6:=h.cA_i hi
 have c7:=h.cA_spin hi
 have c10:=h.cA_back hi
 have c11:=h.cA_after hi
 have cP:=h.cW_F_P
 have fA:=h.call.2
 have hM:=h.dim
 have hcap:=h.own_cap.2
 have nWA:=h.own.ne.2.2.2.2.1
 have HP:=Lib.hid hpl
 have H:=Lib.hid h
 unfold dims at hM
 rw [hpl] at c0
 rw [hf] at cf
 clear h hpl E e hf
 go_enter Tryz.func179,Tryz.ntmps179
 have hg2:(p.mach i).g<0:=by omega
 have d2:(w.setCell ⟨F.all,i*18,none⟩ (.int .i64 1)).cell? ⟨F.all,i*18+2,none⟩=some (.int .i64 (p.mach i).g):=by rw [zaf c0,if_neg (by omega)];exact c2
 go_wp2_with (first | (go_at_call 183;refine (zay (by with_reducible rfl) _ _ _).mono ?_;rintro e w1 ⟨rfl,hw⟩;have hw:=hw.symm;subst hw) | (go_at_call 183;refine (zax (by with_reducible rfl) _ _ _).mono ?_;rintro e w1 ⟨rfl,hw⟩;have hw:=hw.symm;subst hw))
 go_returns
 exact ⟨rfl,V,_,((OnM.start H.out hi).s_place 1).fin rfl⟩
end Go.Proofs.YtlmmjgekolpekaaGreatDoor
