/- Parts of the proof. -/
import Derived.Test.YtlmmjgekolpekaaGreatDoorMPk28
set_option linter.unusedVariables false
set_option linter.unusedSimpArgs false
set_option linter.unusedSectionVars false
set_option maxRecDepth 100000
set_option maxHeartbeats 6400000
namespace Go.Proofs.YtlmmjgekolpekaaGreatDoor
open Go Go.RowKit Hst Go.Proofs
section
variable {F:Fix} {V:Vol} {ow:Nat→Nat} {w:World} {p:Wd}
theorem wake_on (h:WAt F V ow w p) (a:Nat) (ha:a<nWords p.P p.M p.G) :
  Calls Tryz.prog 147 #[.pointer (some ⟨F.mem,0,none⟩),.int .i64 a] w fun e w'=>e=.returned (.bool (p.ld a==0))∧On F V ow w ow w' (p.swap a 0 1):=by
 have hs:=zcO h a ha 0 1 (by decide)
 have HS:=Lib.hid hs
 clear hs h
 go_enter Tryz.func147,Tryz.ntmps147
 go_wp2_with fail
 refine HS.out.mono ?_
 rintro e w1 ⟨rfl,h1⟩
 go_wp2
 go_returns
 exact ⟨rfl,h1⟩
theorem set_on (h:WAt F V ow w p) (n b:Nat) (hn:n<p.G) (hb:b<7) :
  Calls Tryz.prog 184 #[.agg #[.int .i64 ((2*(p.P+2)+1+p.M:Nat):Int),.int .i64 p.G],.pointer (some ⟨F.mem,0,none⟩),.int .i64 n,.int .u64 b] w fun e w' =>
   e=.returned (.bool true)∧∃ ow',On F V ow w ow' w' (p.st (p.statW n) b):=by
 have hd:=h.dim
 have hw:p.statW n<nWords p.P p.M p.G:=by unfold Wd.statW nWords;omega
 have e3:((2*(p.P+2)+1+p.M:Nat):Int)+(n:Int)=((p.statW n:Nat):Int):=by unfold Wd.statW;omega
 have H:=Lib.hid h
 clear h
 obtain ⟨s,hs⟩:∃ s,s=p.statW n:=⟨_,rfl⟩
 rw [← hs] at hw e3 ⊢
 obtain ⟨q,hq⟩:∃ q:Nat,q=2*(p.P+2)+1+p.M:=⟨_,rfl⟩
 rw [← hq] at e3 ⊢
 clear hs hd hq
 have hsum:IntKind.i64.wrap ((q:Int)+(n:Int))=(s:Int):=by rw [e3];exact IntWalk.i64_in _ (by have:=H.out.nw;omega)
 have hb2:(b:Int)<7:=by omega
 have hbw:IntKind.u64.wrap (b:Int)=b:=by rw [IntKind.wrap_u64];omega
 have hgi:(n:Int)<(p.G:Int):=by omega
 clear e3
 go_enter Tryz.func184,Tryz.ntmps184
 go_wp2_with (first | (go_at_call 136;go_in) | fail)
 refine (store_on (((On.start H.out).alloc _).alloc _).at_ s hw b (by omega)).mono ?_
 rintro e w1 ⟨rfl,h1⟩
 go_wp2
 go_returns
 exact ⟨rfl,_,(((On.start H.out).alloc _).alloc _).then_ h1⟩
end
theorem bare_12 (N:Nat) (p:Wd) (i:Nat) (hi:i<p.M) (hpl:(p.mach i).place=12):BareOK N p i (p.bare i):=by
 intro F V ow w h E
 have e:p.bare i=(p.more p.spinW).setM i { p.mach i with spin:=true,place:=4 }:=by unfold Wd.bare;simp only [hpl]
 rw [e]
 have c13:=h.cW_all
 have c3:=h.cW_mem
 have c4:=h.cW_spin
 have c5:=h.cW_notes
 have c6:=h.cW_from
 have c7:=h.cW_n
 have c0:=h.cA_place hi
 have ct:=h.cA_target hi
 have cb:=h.cA_back hi
 have cg:=h.cA_got hi
 have hM:=h.dim
 have hcap:=h.own_cap
 have nWA:=h.own.ne.2.2.2.2.1
 rw [hpl] at c0
 unfold dims at hM
 have hl:=more_on (On.start h).drew.at_ p.spinW (by unfold Wd.spinW nWords;omega)
 obtain ⟨sp,hsp⟩:∃ sp:Int,sp=((2*(p.P+2):Nat):Int):=⟨_,rfl⟩
 have hsp2:((p.spinW:Nat):Int)=sp:=hsp.symm
 rw [← hsp] at c4
 rw [hsp2] at hl
 clear hsp hsp2
 have HL:=Lib.hid hl
 clear hl
 have H:=Lib.hid h
 clear h hpl e E
 go_enter Tryz.func145,Tryz.ntmps145
 go_wp2
 go_still_tail 8,(by kernel_rfl)
 change wpList _ _ _ _ _ w.drew
 go_wp2_with fail
 refine HL.out.mono ?_
 rintro e w1 ⟨rfl,h1⟩
 have c13:=h1.at_.cW_all
 have d0:=h1.at_.cA_place (i:=i) hi
 have d6:=h1.at_.cA_i (i:=i) hi
 have d7:=h1.at_.cA_spin (i:=i) hi
 have fA:=h1.at_.call.2
 have H1:=Lib.hid ((On.start H.out).drew.then_ h1)
 clear h1
 go_wp2
 go_returns
 exact ⟨rfl,V,_,(((OnM.of_on H1.out hi).s_spin true).s_place 4).fin rfl⟩
theorem bare_8 (N:Nat) (p:Wd) (i:Nat) (hi:i<p.M) (hpl:(p.mach i).place=8):BareOK N p i (p.bare i):=by
 intro F V ow w h E
 have e:p.bare i=(p.less p.spinW).setM i { p.mach i with spin:=false,i:=0,place:=9 }:=by unfold Wd.bare;simp only [hpl]
 rw [e]
 have c13:=h.cW_all
 have c3:=h.cW_mem
 have c4:=h.cW_spin
 have c5:=h.cW_notes
 have c6:=h.cW_from
 have c7:=h.cW_n
 have c0:=h.cA_place hi
 have ct:=h.cA_target hi
 have cb:=h.cA_back hi
 have cg:=h.cA_got hi
 have hM:=h.dim
 have hcap:=h.own_cap
 have nWA:=h.own.ne.2.2.2.2.1
 rw [hpl] at c0
 unfold dims at hM
 have hl:=less_on (On.start h).drew.at_ p.spinW (by unfold Wd.spinW nWords;omega)
 obtain ⟨sp,hsp⟩:∃ sp:Int,sp=((2*(p.P+2):Nat):Int):=⟨_,rfl⟩
 have hsp2:((p.spinW:Nat):Int)=sp:=hsp.symm
 rw [← hsp] at c4
 rw [hsp2] at hl
 clear hsp hsp2
 have HL:=Lib.hid hl
 clear hl
 have H:=Lib.hid h
 clear h hpl e E
 go_enter Tryz.func145,Tryz.ntmps145
 go_wp2
 go_still_tail 8,(by kernel_rfl)
 change wpList _ _ _ _ _ w.drew
 go_wp2_with fail
 refine HL.out.mono ?_
 rintro e w1 ⟨v,rfl,h1⟩
 have c13:=h1.at_.cW_all
 have d0:=h1.at_.cA_place (i:=i) hi
 have d6:=h1.at_.cA_i (i:=i) hi
 have d7:=h1.at_.cA_spin (i:=i) hi
 have fA:=h1.at_.call.2
 have H1:=Lib.hid ((On.start H.out).drew.then_ h1)
 clear h1
 go_wp2
 go_returns
 exact ⟨rfl,V,_,((((OnM.of_on H1.out hi).s_spin false).s_i 0).s_place 9).fin rfl⟩
theorem bare_19 (N:Nat) (p:Wd) (i:Nat) (hi:i<p.M) (hpl:(p.mach i).place=19):BareOK N p i (p.bare i):=by
 intro F V ow w h E
 have e:p.bare i=(p.less p.spinW).setM i { p.mach i with spin:=false,place:=21 }:=by unfold Wd.bare;simp only [hpl]
 rw [e]
 have c13:=h.cW_all
 have c3:=h.cW_mem
 have c4:=h.cW_spin
 have c5:=h.cW_notes
 have c6:=h.cW_from
 have c7:=h.cW_n
 have c0:=h.cA_place hi
 have ct:=h.cA_target hi
 have cb:=h.cA_back hi
 have cg:=h.cA_got hi
 have hM:=h.dim
 have hcap:=h.own_cap
 have nWA:=h.own.ne.2.2.2.2.1
 rw [hpl] at c0
 unfold dims at hM
 have hl:=less_on (On.start h).drew.at_ p.spinW (by unfold Wd.spinW nWords;omega)
 obtain ⟨sp,hsp⟩:∃ sp:Int,sp=((2*(p.P+2):Nat):Int):=⟨_,rfl⟩
 have hsp2:((p.spinW:Nat):Int)=sp:=hsp.symm
 rw [← hsp] at c4
 rw [hsp2] at hl
 clear hsp hsp2
 have HL:=Lib.hid hl
 clear hl
 have H:=Lib.hid h
 clear h hpl e E
 go_enter Tryz.func145,Tryz.ntmps145
 go_wp2
 go_still_tail 8,(by kernel_rfl)
 change wpList _ _ _ _ _ w.drew
 go_wp2_with fail
 refine HL.out.mono ?_
 rintro e w1 ⟨v,rfl,h1⟩
 have c13:=h1.at_.cW_all
 have d0:=h1.at_.cA_place (i:=i) hi
 have d6:=h1.at_.cA_i (i:=i) hi
 have d7:=h1.at_.cA_spin (i:=i) hi
 have fA:=h1.at_.call.2
 have H1:=Lib.hid ((On.start H.out).drew.then_ h1)
 clear h1
 go_wp2
 go_returns
 exact ⟨rfl,V,_,(((OnM.of_on H1.out hi).s_spin false).s_place 21).fin rfl⟩
theorem bare_5 (N:Nat) (p:Wd) (i:Nat) (hi:i<p.M) (hpl:(p.mach i).place=5):BareOK N p i (p.bare i):=by
 intro F V ow w h E
 have e:p.bare i=((p.more p.spinW).setM i { p.mach i with spin:=true }).steal i 1:=by unfold Wd.bare;simp only [hpl]
 rw [e]
 have c13:=h.cW_all
 have c3:=h.cW_mem
 have c4:=h.cW_spin
 have c5:=h.cW_notes
 have c6:=h.cW_from
 have c7:=h.cW_n
 have c0:=h.cA_place hi
 have ct:=h.cA_target hi
 have cb:=h.cA_back hi
 have cg:=h.cA_got hi
 have hM:=h.dim
 have hcap:=h.own_cap
 have nWA:=h.own.ne.2.2.2.2.1
 rw [hpl] at c0
 unfold dims at hM
 have hl:=more_on (On.start h).drew.at_ p.spinW (by unfold Wd.spinW nWords;omega)
 obtain ⟨sp,hsp⟩:∃ sp:Int,sp=((2*(p.P+2):Nat):Int):=⟨_,rfl⟩
 have hsp2:((p.spinW:Nat):Int)=sp:=hsp.symm
 rw [← hsp] at c4
 rw [hsp2] at hl
 clear hsp hsp2
 have HL:=Lib.hid hl
 clear hl
 have H:=Lib.hid h
 clear h hpl e E
 go_enter Tryz.func145,Tryz.ntmps145
 go_wp2
 go_still_tail 8,(by kernel_rfl)
 change wpList _ _ _ _ _ w.drew
 go_wp2_with fail
 refine HL.out.mono ?_
 rintro e w1 ⟨rfl,h1⟩
 have c13:=h1.at_.cW_all
 have d0:=h1.at_.cA_place (i:=i) hi
 have d6:=h1.at_.cA_i (i:=i) hi
 have d7:=h1.at_.cA_spin (i:=i) hi
 have fA:=h1.at_.call.2
 have H1:=Lib.hid ((On.start H.out).drew.then_ h1)
 clear h1
 go_wp2_with fail
 have h2:=(OnM.of_on H1.out hi).s_spin true
 refine (steal_to h2.on.at_ i hi 1).mono ?_
 rintro e w3 ⟨rfl,ow3,h3⟩
 go_wp2
 go_returns
 exact ⟨rfl,V,_,(h2.fin rfl).then_ h3⟩
theorem bare_21z (N:Nat) (p:Wd) (i:Nat) (hi:i<p.M) (hpl:(p.mach i).place=21) (hz:p.ld p.spinW=0):BareOK N p i (p.bare i):=by
 intro F V ow w h E
 have e:p.bare i=p.acc.go i 22:=by unfold Wd.bare;simp only [hpl];rw [if_pos hz]
 rw [e]
 have c13:=h.cW_all
 have c3:=h.cW_mem
 have c4:=h.cW_spin
 have c5:=h.cW_notes
 have c6:=h.cW_from
 have c7:=h.cW_n
 have c0:=h.cA_place hi
 have ct:=h.cA_target hi
 have cb:=h.cA_back hi
 have cg:=h.cA_got hi
 have hM:=h.dim
 have hcap:=h.own_cap
 have nWA:=h.own.ne.2.2.2.2.1
 rw [hpl] at c0
 unfold dims at hM
 have hl:=load_on (On.start h).drew.at_ p.spinW (by unfold Wd.spinW nWords;omega)
 obtain ⟨sp,hsp⟩:∃ sp:Int,sp=((2*(p.P+2):Nat):Int):=⟨_,rfl⟩
 have hsp2:((p.spinW:Nat):Int)=sp:=hsp.symm
 rw [← hsp] at c4
 rw [hsp2] at hl
 have hsq:((2*(p.P+2):Nat):Int)=sp:=hsp.symm
 clear hsp hsp2
 rw [hz] at hl
 have hsh:∃ ws cnt,p.acc={ p with ws:=ws,cnt:=cnt }:=by first | exact ⟨_,_,rfl⟩ | (unfold Wd.swap;split;exact ⟨_,_,rfl⟩;exact ⟨_,_,rfl⟩)
 obtain ⟨ws,cnt,hsh⟩:=hsh
 rw [hsh] at hl
 rw [hsh]
 have HL:=Lib.hid hl
 clear hl hsh hz
 have H:=Lib.hid h
 clear h hpl e E
 go_enter Tryz.func145,Tryz.ntmps145
 go_wp2
 go_region_held3 (fun w'=>w'.cell? ⟨F.W,3,none⟩=some (.pointer (some ⟨F.mem,0,none⟩))∧w'.cell? ⟨F.W,4,none⟩=some (.int .i64 sp)∧w'.cell? ⟨F.all,i*18+10,none⟩=some (.int .i64 (p.mach i).back))
  (first | exact ⟨c3,c4,cb⟩ | exact ⟨k3,k4,kb⟩ | exact ⟨((cell_far nWA.symm _).trans k3),((cell_far nWA.symm _).trans k4),((zaf k0 ..).trans ((if_neg (by omega)).trans kb))⟩)
  (first | (go_at_call 81;refine HL.out.mono ?_;rintro e w1 ⟨rfl,h1⟩;have k3:w1.cell? ⟨F.W,3,none⟩=some (.pointer (some ⟨F.mem,0,none⟩)):=h1.at_.cW_mem;have k4:w1.cell? ⟨F.W,4,none⟩=some (.int .i64 sp):=h1.at_.cW_spin.trans (by rw [hsq]);have kb:w1.cell? ⟨F.all,i*18+10,none⟩=some (.int .i64 (p.mach i).back):=h1.at_.cA_back (i:=i) hi;have k0:=h1.at_.cA_place (i:=i) hi;have kf:=h1.at_.call.2;have H1:=Lib.hid h1;clear h1) | (go_at_call 183;refine (zay (by with_reducible rfl) _ _ _).mono ?_;rintro e w2 ⟨rfl,hw⟩;have hw:=hw.symm;subst hw) | (go_at_call 183;refine (zax (by with_reducible rfl) _ _ _).mono ?_;rintro e w2 ⟨rfl,hw⟩;have hw:=hw.symm;subst hw))
 go_wp2
 go_returns
 exact ⟨rfl,V,_,((On.start H.out).drew.then_ H1.out).s_place (i:=i) hi _⟩
theorem bare_21n (N:Nat) (p:Wd) (i:Nat) (hi:i<p.M) (hpl:(p.mach i).place=21) (hz:¬ p.ld p.spinW=0):BareOK N p i (p.bare i):=by
 intro F V ow w h E
 have e:p.bare i=p.acc.go i (p.mach i).back:=by unfold Wd.bare;simp only [hpl];rw [if_neg hz]
 rw [e]
 have c13:=h.cW_all
 have c3:=h.cW_mem
 have c4:=h.cW_spin
 have c5:=h.cW_notes
 have c6:=h.cW_from
 have c7:=h.cW_n
 have c0:=h.cA_place hi
 have ct:=h.cA_target hi
 have cb:=h.cA_back hi
 have cg:=h.cA_got hi
 have hM:=h.dim
 have hcap:=h.own_cap
 have nWA:=h.own.ne.2.2.2.2.1
 rw [hpl] at c0
 unfold dims at hM
 have hl:=load_on (On.start h).drew.at_ p.spinW (by unfold Wd.spinW nWords;omega)
 obtain ⟨sp,hsp⟩:∃ sp:Int,sp=((2*(p.P+2):Nat):Int):=⟨_,rfl⟩
 have hsp2:((p.spinW:Nat):Int)=sp:=hsp.symm
 rw [← hsp] at c4
 rw [hsp2] at hl
 have hsq:((2*(p.P+2):Nat):Int)=sp:=hsp.symm
 clear hsp hsp2
 have hz0:(((p.ld p.spinW:Nat):Int)==0)=false:=by rw [beq_eq_false_iff_ne];omega
 have hsh:∃ ws cnt,p.acc={ p with ws:=ws,cnt:=cnt }:=by first | exact ⟨_,_,rfl⟩ | (unfold Wd.swap;split;exact ⟨_,_,rfl⟩;exact ⟨_,_,rfl⟩)
 obtain ⟨ws,cnt,hsh⟩:=hsh
 rw [hsh] at hl
 rw [hsh]
 have HL:=Lib.hid hl
 clear hl hsh hz
 have H:=Lib.hid h
 clear h hpl e E
 go_enter Tryz.func145,Tryz.ntmps145
 go_wp2
 go_region_held3 (fun w'=>w'.cell? ⟨F.W,3,none⟩=some (.pointer (some ⟨F.mem,0,none⟩))∧w'.cell? ⟨F.W,4,none⟩=some (.int .i64 sp)∧w'.cell? ⟨F.all,i*18+10,none⟩=some (.int .i64 (p.mach i).back))
  (first | exact ⟨c3,c4,cb⟩ | exact ⟨k3,k4,kb⟩ | exact ⟨((cell_far nWA.symm _).trans k3),((cell_far nWA.symm _).trans k4),((zaf k0 ..).trans ((if_neg (by omega)).trans kb))⟩)
  (first | (go_at_call 81;refine HL.out.mono ?_;rintro e w1 ⟨rfl,h1⟩;have k3:w1.cell? ⟨F.W,3,none⟩=some (.pointer (some ⟨F.mem,0,none⟩)):=h1.at_.cW_mem;have k4:w1.cell? ⟨F.W,4,none⟩=some (.int .i64 sp):=h1.at_.cW_spin.trans (by rw [hsq]);have kb:w1.cell? ⟨F.all,i*18+10,none⟩=some (.int .i64 (p.mach i).back):=h1.at_.cA_back (i:=i) hi;have k0:=h1.at_.cA_place (i:=i) hi;have kf:=h1.at_.call.2;have H1:=Lib.hid h1;clear h1) | (go_at_call 183;refine (zay (by with_reducible rfl) _ _ _).mono ?_;rintro e w2 ⟨rfl,hw⟩;have hw:=hw.symm;subst hw) | (go_at_call 183;refine (zax (by first | with_reducible rfl | with_reducible exact hz0) _ _ _).mono ?_;rintro e w2 ⟨rfl,hw⟩;have hw:=hw.symm;subst hw))
 go_wp2
 go_returns
 exact ⟨rfl,V,_,((On.start H.out).drew.then_ H1.out).s_place (i:=i) hi _⟩
theorem bare_22z (N:Nat) (p:Wd) (i:Nat) (hi:i<p.M) (hpl:(p.mach i).place=22) (hz:p.ld p.spinW=0):BareOK N p i (p.bare i):=by
 intro F V ow w h E
 have e:p.bare i=(p.swap p.spinW 0 1).go i 23:=by unfold Wd.bare;simp only [hpl];rw [if_pos hz]
 rw [e]
 have c13:=h.cW_all
 have c3:=h.cW_mem
 have c4:=h.cW_spin
 have c5:=h.cW_notes
 have c6:=h.cW_from
 have c7:=h.cW_n
 have c0:=h.cA_place hi
 have ct:=h.cA_target hi
 have cb:=h.cA_back hi
 have cg:=h.cA_got hi
 have hM:=h.dim
 have hcap:=h.own_cap
 have nWA:=h.own.ne.2.2.2.2.1
 rw [hpl] at c0
 unfold dims at hM
 have hl:=zcO (On.start h).drew.at_ p.spinW (by unfold Wd.spinW nWords;omega) 0 1 (by decide)
 obtain ⟨sp,hsp⟩:∃ sp:Int,sp=((2*(p.P+2):Nat):Int):=⟨_,rfl⟩
 have hsp2:((p.spinW:Nat):Int)=sp:=hsp.symm
 rw [← hsp] at c4
 rw [hsp2] at hl
 have hsq:((2*(p.P+2):Nat):Int)=sp:=hsp.symm
 clear hsp hsp2
 rw [show (p.ld p.spinW==0)=true by rw [hz];rfl] at hl
 have hsh:∃ ws cnt,(p.swap p.spinW 0 1)={ p with ws:=ws,cnt:=cnt }:=by first | exact ⟨_,_,rfl⟩ | (unfold Wd.swap;split;exact ⟨_,_,rfl⟩;exact ⟨_,_,rfl⟩)
 obtain ⟨ws,cnt,hsh⟩:=hsh
 rw [hsh] at hl
 rw [hsh]
 have HL:=Lib.hid hl
 clear hl hsh hz
 have H:=Lib.hid h
 clear h hpl e E
 go_enter Tryz.func145,Tryz.ntmps145
 go_wp2
 go_region_held3 (fun w'=>w'.cell? ⟨F.W,3,none⟩=some (.pointer (some ⟨F.mem,0,none⟩))∧w'.cell? ⟨F.W,4,none⟩=some (.int .i64 sp)∧w'.cell? ⟨F.all,i*18+10,none⟩=some (.int .i64 (p.mach i).back))
  (first | exact ⟨c3,c4,cb⟩ | exact ⟨k3,k4,kb⟩ | exact ⟨((cell_far nWA.symm _).trans k3),((cell_far nWA.symm _).trans k4),((zaf k0 ..).trans ((if_neg (by omega)).trans kb))⟩)
  (first | (go_at_call 161;refine HL.out.mono ?_;rintro e w1 ⟨rfl,h1⟩;have k3:w1.cell? ⟨F.W,3,none⟩=some (.pointer (some ⟨F.mem,0,none⟩)):=h1.at_.cW_mem;have k4:w1.cell? ⟨F.W,4,none⟩=some (.int .i64 sp):=h1.at_.cW_spin.trans (by rw [hsq]);have kb:w1.cell? ⟨F.all,i*18+10,none⟩=some (.int .i64 (p.mach i).back):=h1.at_.cA_back (i:=i) hi;have k0:=h1.at_.cA_place (i:=i) hi;have kf:=h1.at_.call.2;have H1:=Lib.hid h1;clear h1) | (go_at_call 183;refine (zay (by with_reducible rfl) _ _ _).mono ?_;rintro e w2 ⟨rfl,hw⟩;have hw:=hw.symm;subst hw) | (go_at_call 183;refine (zax (by with_reducible rfl) _ _ _).mono ?_;rintro e w2 ⟨rfl,hw⟩;have hw:=hw.symm;subst hw))
 go_wp2
 go_returns
 exact ⟨rfl,V,_,((On.start H.out).drew.then_ H1.out).s_place (i:=i) hi _⟩
theorem bare_22n (N:Nat) (p:Wd) (i:Nat) (hi:i<p.M) (hpl:(p.mach i).place=22) (hz:¬ p.ld p.spinW=0):BareOK N p i (p.bare i):=by
 intro F V ow w h E
 have e:p.bare i=(p.swap p.spinW 0 1).go i (p.mach i).back:=by unfold Wd.bare;simp only [hpl];rw [if_neg hz]
 rw [e]
 have c13:=h.cW_all
 have c3:=h.cW_mem
 have c4:=h.cW_spin
 have c5:=h.cW_notes
 have c6:=h.cW_from
 have c7:=h.cW_n
 have c0:=h.cA_place hi
 have ct:=h.cA_target hi
 have cb:=h.cA_back hi
 have cg:=h.cA_got hi
 have hM:=h.dim
 have hcap:=h.own_cap
 have nWA:=h.own.ne.2.2.2.2.1
 rw [hpl] at c0
 unfold dims at hM
 have hl:=zcO (On.start h).drew.at_ p.spinW (by unfold Wd.spinW nWords;omega) 0 1 (by decide)
 obtain ⟨sp,hsp⟩:∃ sp:Int,sp=((2*(p.P+2):Nat):Int):=⟨_,rfl⟩
 have hsp2:((p.spinW:Nat):Int)=sp:=hsp.symm
 rw [← hsp] at c4
 rw [hsp2] at hl
 have hsq:((2*(p.P+2):Nat):Int)=sp:=hsp.symm
 clear hsp hsp2
 rw [show (p.ld p.spinW==0)=false by rw [beq_eq_false_iff_ne];exact hz] at hl
 have hsh:∃ ws cnt,(p.swap p.spinW 0 1)={ p with ws:=ws,cnt:=cnt }:=by first | exact ⟨_,_,rfl⟩ | (unfold Wd.swap;split;exact ⟨_,_,rfl⟩;exact ⟨_,_,rfl⟩)
 obtain ⟨ws,cnt,hsh⟩:=hsh
 rw [hsh] at hl
 rw [hsh]
 have HL:=Lib.hid hl
 clear hl hsh hz
 have H:=Lib.hid h
 clear h hpl e E
 go_enter Tryz.func145,Tryz.ntmps145
 go_wp2
 go_region_held3 (fun w'=>w'.cell? ⟨F.W,3,none⟩=some (.pointer (some ⟨F.mem,0,none⟩))∧w'.cell? ⟨F.W,4,none⟩=some (.int .i64 sp)∧w'.cell? ⟨F.all,i*18+10,none⟩=some (.int .i64 (p.mach i).back))
  (first | exact ⟨c3,c4,cb⟩ | exact ⟨k3,k4,kb⟩ | exact ⟨((cell_far nWA.symm _).trans k3),((cell_far nWA.symm _).trans k4),((zaf k0 ..).trans ((if_neg (by omega)).trans kb))⟩)
  (first | (go_at_call 161;refine HL.out.mono ?_;rintro e w1 ⟨rfl,h1⟩;have k3:w1.cell? ⟨F.W,3,none⟩=some (.pointer (some ⟨F.mem,0,none⟩)):=h1.at_.cW_mem;have k4:w1.cell? ⟨F.W,4,none⟩=some (.int .i64 sp):=h1.at_.cW_spin.trans (by rw [hsq]);have kb:w1.cell? ⟨F.all,i*18+10,none⟩=some (.int .i64 (p.mach i).back):=h1.at_.cA_back (i:=i) hi;have k0:=h1.at_.cA_place (i:=i) hi;have kf:=h1.at_.call.2;have H1:=Lib.hid h1;clear h1) | (go_at_call 183;refine (zay (by with_reducible rfl) _ _ _).mono ?_;rintro e w2 ⟨rfl,hw⟩;have hw:=hw.symm;subst hw) | (go_at_call 183;refine (zax (by with_reducible rfl) _ _ _).mono ?_;rintro e w2 ⟨rfl,hw⟩;have hw:=hw.symm;subst hw))
 go_wp2
 go_returns
 exact ⟨rfl,V,_,((On.start H.out).drew.then_ H1.out).s_place (i:=i) hi _⟩
theorem bare_24 (N:Nat) (p:Wd) (i:Nat) (hi:i<p.M) (hpl:(p.mach i).place=24) (k:Nat) (hk:(p.mach i).target=(k:Int)) (hkM:k<p.M):BareOK N p i (p.bare i):=by
 intro F V ow w h E
 have e:p.bare i=(p.swap (p.noteW k) 0 1).setM i { p.mach i with target:=-1,place:=(p.mach i).back }:=by unfold Wd.bare;simp only [hpl,hk,Int.toNat_natCast]
 rw [e]
 have c13:=h.cW_all
 have c3:=h.cW_mem
 have c4:=h.cW_spin
 have c5:=h.cW_notes
 have c6:=h.cW_from
 have c7:=h.cW_n
 have c0:=h.cA_place hi
 have ct:=h.cA_target hi
 have cb:=h.cA_back hi
 have cg:=h.cA_got hi
 have hM:=h.dim
 have hcap:=h.own_cap
 have nWA:=h.own.ne.2.2.2.2.1
 rw [hpl] at c0
 unfold dims at hM
 have hl:=wake_on (On.start h).drew.at_ (p.noteW k) (by unfold Wd.noteW nWords;omega)
 rw [hk] at ct
 obtain ⟨sp,hsp⟩:∃ sp:Int,sp=((2*(p.P+2)+1:Nat):Int):=⟨_,rfl⟩
 have hsp2:((p.noteW k:Nat):Int)=sp+(k:Int):=by rw [hsp];unfold Wd.noteW;push_cast;omega
 have hsw:IntKind.i64.wrap (sp+(k:Int))=sp+(k:Int):=IntWalk.i64_in _ (by omega)
 rw [← hsp] at c5
 rw [hsp2] at hl
 clear hsp hsp2
 have hsh:∃ ws cnt,p.swap (p.noteW k) 0 1={ p with ws:=ws,cnt:=cnt }:=by unfold Wd.swap;split;exact ⟨_,_,rfl⟩;exact ⟨_,_,rfl⟩
 obtain ⟨ws,cnt,hsh⟩:=hsh
 rw [hsh] at hl
 rw [hsh]
 have HL:=Lib.hid hl
 clear hl hsh hk
 have H:=Lib.hid h
 clear h hpl e E
 go_enter Tryz.func145,Tryz.ntmps145
 go_wp2
 go_still_tail 13,(by kernel_rfl)
 change wpList _ _ _ _ _ w.drew
 go_wp2_with fail
 refine HL.out.mono ?_
 rintro e w1 ⟨rfl,h1⟩
 have c13:=h1.at_.cW_all
 have d0:w1.cell? ⟨F.all,i*18,none⟩=some (.int .i64 (p.mach i).place):=h1.at_.cA_place (i:=i) hi
 have d5:w1.cell? ⟨F.all,i*18+5,none⟩=some (.int .i64 (p.mach i).target):=h1.at_.cA_target (i:=i) hi
 have d10:w1.cell? ⟨F.all,i*18+10,none⟩=some (.int .i64 (p.mach i).back):=h1.at_.cA_back (i:=i) hi
 have fA:=h1.at_.call.2
 have H1:=Lib.hid ((On.start H.out).drew.then_ h1)
 clear h1
 go_wp2
 go_returns
 exact ⟨rfl,V,_,(((OnM.of_on H1.out hi).s_target (-1)).s_place _).fin rfl⟩
theorem bare_26 (N:Nat) (p:Wd) (i:Nat) (hi:i<p.M) (hpl:(p.mach i).place=26) (k:Nat) (hk:(p.mach i).got=(k:Int)) (hkG:k<p.G) (hr:zeh ⟨1,(p.mach i).got,i,(p.mach i).p,0⟩=true) (hbig:p.log.length<4294967296):BareOK N p i (p.bare i):=by
 intro F V ow w h E
 have e:p.bare i=((p.st (p.statW k) 1).add i 1 (p.mach i).got 0).setM i { p.mach i with back:=25,place:=27 }:=by unfold Wd.bare;simp only [hpl,hk,Int.toNat_natCast]
 rw [e]
 have c13:=h.cW_all
 have c3:=h.cW_mem
 have c4:=h.cW_spin
 have c5:=h.cW_notes
 have c6:=h.cW_from
 have c7:=h.cW_n
 have c0:=h.cA_place hi
 have ct:=h.cA_target hi
 have cb:=h.cA_back hi
 have cg:=h.cA_got hi
 have hM:=h.dim
 have hcap:=h.own_cap
 have nWA:=h.own.ne.2.2.2.2.1
 rw [hpl] at c0
 unfold dims at hM
 have hl:=set_on (On.start h).drew.at_ k 1 hkG (by decide)
 have HE:=Lib.hid E
 have cg2:=cg
 rw [hk] at cg2
 obtain ⟨fr,hfr⟩:∃ fr:Int,fr=((2*(p.P+2)+1+p.M:Nat):Int):=⟨_,rfl⟩
 rw [← hfr] at c6 hl
 have HL:=Lib.hid hl
 have HR:=Lib.hid hr
 have HK:=Lib.hid hk
 clear hl hfr hk hr cg
 have H:=Lib.hid h
 clear h hpl e E
 go_enter Tryz.func145,Tryz.ntmps145
 go_wp2
 go_still_tail 12,(by kernel_rfl)
 change wpList _ _ _ _ _ w.drew
 go_wp2_with fail
 refine HL.out.mono ?_
 rintro e w1 ⟨rfl,ow1,h1⟩
 have d4:w1.cell? ⟨F.all,i*18+4,none⟩=some (.int .i64 (p.mach i).got):=h1.at_.cA_got hi
 have H1:=Lib.hid ((On.start H.out).drew.then_ h1)
 have had:=zdS h1.at_ ((HE.out.on (On.start H.out).drew).on h1) i hi 1 (p.mach i).got 0 HR.out hbig
 have HA:=Lib.hid had
 clear had h1 c13 c3 c6 c7 c0 cg2
 go_wp2_with fail
 refine HA.out.mono ?_
 rintro e w2 ⟨rfl,V2,ow2,_,h2⟩
 have d0:w2.cell? ⟨F.all,i*18,none⟩=some (.int .i64 (p.mach i).place):=h2.at_.cA_place (i:=i) hi
 have d10:w2.cell? ⟨F.all,i*18+10,none⟩=some (.int .i64 (p.mach i).back):=h2.at_.cA_back (i:=i) hi
 have fA:=h2.at_.call.2
 have H2:=Lib.hid (H1.out.then_ h2)
 clear h2 d4
 go_wp2
 go_returns
 exact ⟨rfl,V2,_,(((OnM.of_on H2.out hi).s_back 25).s_place 27).fin rfl⟩
end Go.Proofs.YtlmmjgekolpekaaGreatDoor
