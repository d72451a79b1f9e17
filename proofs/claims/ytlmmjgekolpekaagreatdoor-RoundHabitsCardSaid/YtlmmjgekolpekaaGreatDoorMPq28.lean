/- Parts of the proof. -/
import Derived.Test.YtlmmjgekolpekaaGreatDoorMPq27
import Derived.Test.YtlmmjgekolpekaaGreatDoorMPk14
set_option linter.unusedVariables false
set_option linter.unusedSimpArgs false
set_option linter.unusedSectionVars false
set_option maxRecDepth 100000
set_option maxHeartbeats 6400000
namespace Go.Proofs.YtlmmjgekolpekaaGreatDoor
open Go Go.RowKit Hst Go.Proofs
theorem zdY (p:Wd) (a o x:Nat):∃ ws cnt,p.swap a o x={ p with ws:=ws,cnt:=cnt }:=by
 unfold Wd.swap;split
 ·exact ⟨_,_,rfl⟩
 ·exact ⟨_,_,rfl⟩
section
variable {F:Fix} {V:Vol} {ow:Nat→Nat} {w:World} {p:Wd}
theorem zdm (h:WAt F V ow w p) (a:Nat) (ha:a<nWords p.P p.M p.G) (h1:p.ld a=1) :
  Calls Tryz.prog 171 #[.agg #[.int .i64 a,.int .i64 9223372036854775807],.pointer (some ⟨F.mem,0,none⟩),.int .i64 0] w fun e w'=>e=.returned (.int .i64 1)∧∃ ow',On F V ow w ow' w' (p.swap a 1 0):=by
 have hs:=fun o=>zcO ((On.start h).alloc o).at_ a ha 1 0 (by decide)
 rw [show (p.ld a==1)=true by rw [h1];rfl] at hs
 have HS:=Lib.hid hs
 have H:=Lib.hid h
 clear hs h h1
 go_enter Tryz.func171,Tryz.ntmps171
 go_wp2_with fail
 refine (HS.out _).mono ?_
 rintro e w1 ⟨rfl,k⟩
 go_wp2
 go_returns
 exact ⟨rfl,_,((On.start H.out).alloc _).then_ k⟩
theorem sleeper_no (h:WAt F V ow w p) (a:Nat) (ha:a<nWords p.P p.M p.G) (h1:¬ p.ld a=1) :
  Calls Tryz.prog 171 #[.agg #[.int .i64 a,.int .i64 9223372036854775807],.pointer (some ⟨F.mem,0,none⟩),.int .i64 0] w fun e w'=>e=.returned (.int .i64 0)∧∃ ow',On F V ow w ow' w' p.acc:=by
 have hs:=fun o=>zcO ((On.start h).alloc o).at_ a ha 1 0 (by decide)
 rw [show (p.ld a==1)=false by rw [beq_eq_false_iff_ne];exact h1,show p.swap a 1 0=p.acc by unfold Wd.swap;rw [if_neg h1]] at hs
 have HS:=Lib.hid hs
 have H:=Lib.hid h
 clear hs h h1
 go_enter Tryz.func171,Tryz.ntmps171
 go_wp2_with fail
 refine (HS.out _).mono ?_
 rintro e w1 ⟨rfl,k⟩
 have b0:w1.heap[w.heap.size]?=some (.cells #[.int .i64 a,.int .i64 9223372036854775807] 252 (0,0)) :=
  (k.st.block w.heap.size (by simp) (zaG _ _ _)).trans (heap_alloc_new w _)
 have b1:w1.cell? ⟨w.heap.size,0,none⟩=some (.int .i64 a):=zaa b0 0
 have b2:w1.cell? ⟨w.heap.size,1,none⟩=some (.int .i64 9223372036854775807):=zaa b0 1
 have K:=Lib.hid k
 clear k
 go_wp2
 all_goals go_returns
 all_goals first | exact ⟨rfl,_,(((On.start H.out).alloc _).then_ K.out).alloc _⟩ | exact ⟨rfl,_,((((On.start H.out).alloc _).then_ K.out).alloc _).drew⟩ | exact ⟨rfl,_,((((On.start H.out).alloc _).then_ K.out).alloc _).drewN _⟩
end
theorem woken_no {F:Fix} {V:Vol} {ow:Nat→Nat} {w:World} {p:Wd} (h:WAt F V ow w p) (i:Nat) (hi:i<p.M) (h1:¬ p.ld (p.noteW i)=1) :
  Calls Tryz.prog 142 #[.pointer (some ⟨F.W,0,none⟩),.int .i64 i] w fun e w'=>e=.returned (.bool (p.woken i).2)∧∃ ow',On F V ow w ow' w' (p.woken i).1:=by
 have e:p.woken i=(p.acc,false):=by unfold Wd.woken;dsimp only;rw [if_neg h1]
 rw [e]
 have c13:=h.cW_all
 have c3:=h.cW_mem
 have c5:=h.cW_notes
 have c6:=h.cW_from
 have c7:=h.cW_n
 have c0:=h.cA_place hi
 have cg:=h.cA_g hi
 have cn:=h.cA_next hi
 have hM:=h.dim
 have hcap:=h.own_cap
 unfold dims at hM
 have hl:=sleeper_no (On.start h).drew.at_ (p.noteW i) (by unfold Wd.noteW nWords;omega) h1
 obtain ⟨sp,hsp⟩:∃ sp:Int,sp=((2*(p.P+2)+1:Nat):Int):=⟨_,rfl⟩
 have hsp2:((p.noteW i:Nat):Int)=sp+(i:Int):=by rw [hsp];unfold Wd.noteW;push_cast;omega
 have hsw:IntKind.i64.wrap (sp+(i:Int))=sp+(i:Int):=IntWalk.i64_in _ (by omega)
 rw [← hsp] at c5
 rw [hsp2] at hl
 clear hsp hsp2
 have HL:=Lib.hid hl
 have H:=Lib.hid h
 clear hl h e h1
 go_enter Tryz.func142,Tryz.ntmps142
 go_wp2
 go_still_tail 11,(by kernel_rfl)
 change wpList _ _ _ _ _ w.drew
 go_wp2_with fail
 refine HL.out.mono ?_
 rintro e w1 ⟨rfl,ow1,h1⟩
 have H1:=Lib.hid ((On.start H.out).drew.then_ h1)
 clear h1
 go_wp2
 go_returns
 exact ⟨rfl,_,H1.out⟩
theorem woken_any {F:Fix} {V:Vol} {ow:Nat→Nat} {w:World} {p:Wd} (h:WAt F V ow w p) (i:Nat) (hi:i<p.M) (h1:p.ld (p.noteW i)=1) (hn:(p.mach i).next<0) :
  Calls Tryz.prog 142 #[.pointer (some ⟨F.W,0,none⟩),.int .i64 i] w fun e w'=>e=.returned (.bool (p.woken i).2)∧∃ ow',On F V ow w ow' w' (p.woken i).1:=by
 have e:p.woken i=((p.swap (p.noteW i) 1 0).deliver i 13,true):=by unfold Wd.woken;dsimp only;rw [if_pos h1,if_pos hn]
 rw [e]
 have c13:=h.cW_all
 have c3:=h.cW_mem
 have c5:=h.cW_notes
 have c6:=h.cW_from
 have c7:=h.cW_n
 have c0:=h.cA_place hi
 have cg:=h.cA_g hi
 have cn:=h.cA_next hi
 have hM:=h.dim
 have hcap:=h.own_cap
 unfold dims at hM
 have hl:=zdm (On.start h).drew.at_ (p.noteW i) (by unfold Wd.noteW nWords;omega) h1
 obtain ⟨sp,hsp⟩:∃ sp:Int,sp=((2*(p.P+2)+1:Nat):Int):=⟨_,rfl⟩
 have hsp2:((p.noteW i:Nat):Int)=sp+(i:Int):=by rw [hsp];unfold Wd.noteW;push_cast;omega
 have hsw:IntKind.i64.wrap (sp+(i:Int))=sp+(i:Int):=IntWalk.i64_in _ (by omega)
 rw [← hsp] at c5
 rw [hsp2] at hl
 clear hsp hsp2
 obtain ⟨ws,cnt,hsh⟩:=zdY p (p.noteW i) 1 0
 rw [hsh] at hl
 rw [hsh]
 clear hsh
 have HL:=Lib.hid hl
 have H:=Lib.hid h
 clear hl h e h1
 go_enter Tryz.func142,Tryz.ntmps142
 go_wp2
 go_still_tail 11,(by kernel_rfl)
 change wpList _ _ _ _ _ w.drew
 go_wp2_with fail
 refine HL.out.mono ?_
 rintro e w1 ⟨rfl,ow1,h1⟩
 have c13:=h1.at_.cW_all
 have d0:w1.cell? ⟨F.all,i*18,none⟩=some (.int .i64 (p.mach i).place):=h1.at_.cA_place (i:=i) hi
 have d1:w1.cell? ⟨F.all,i*18+1,none⟩=some (.int .i64 (p.mach i).p):=h1.at_.cA_p (i:=i) hi
 have d3:w1.cell? ⟨F.all,i*18+3,none⟩=some (.int .i64 (p.mach i).next):=h1.at_.cA_next (i:=i) hi
 have d7:w1.cell? ⟨F.all,i*18+7,none⟩=some (.bool (p.mach i).spin):=h1.at_.cA_spin (i:=i) hi
 have fA:=h1.at_.call.2
 have H1:=Lib.hid ((On.start H.out).drew.then_ h1)
 clear h1
 go_wp2_with fail
 refine (zbl H1.out.at_ i hi 13).mono ?_
 rintro e w2 ⟨rfl,ow2,h2⟩
 go_wp2
 go_returns
 exact ⟨rfl,_,H1.out.then_ h2⟩
theorem woken_next {F:Fix} {V:Vol} {ow:Nat→Nat} {w:World} {p:Wd} (h:WAt F V ow w p) (i:Nat) (hi:i<p.M) (h1:p.ld (p.noteW i)=1) (hn:¬ (p.mach i).next<0) :
  Calls Tryz.prog 142 #[.pointer (some ⟨F.W,0,none⟩),.int .i64 i] w fun e w'=>e=.returned (.bool (p.woken i).2)∧∃ ow',On F V ow w ow' w' (p.woken i).1:=by
 have e:p.woken i=((p.swap (p.noteW i) 1 0).setM i { p.mach i with p:=(p.mach i).next,next:=-1,spin:=true,place:=4 },true):=by unfold Wd.woken;dsimp only;rw [if_pos h1,if_neg hn]
 rw [e]
 have c13:=h.cW_all
 have c3:=h.cW_mem
 have c5:=h.cW_notes
 have c6:=h.cW_from
 have c7:=h.cW_n
 have c0:=h.cA_place hi
 have cg:=h.cA_g hi
 have cn:=h.cA_next hi
 have hM:=h.dim
 have hcap:=h.own_cap
 unfold dims at hM
 have hl:=zdm (On.start h).drew.at_ (p.noteW i) (by unfold Wd.noteW nWords;omega) h1
 obtain ⟨sp,hsp⟩:∃ sp:Int,sp=((2*(p.P+2)+1:Nat):Int):=⟨_,rfl⟩
 have hsp2:((p.noteW i:Nat):Int)=sp+(i:Int):=by rw [hsp];unfold Wd.noteW;push_cast;omega
 have hsw:IntKind.i64.wrap (sp+(i:Int))=sp+(i:Int):=IntWalk.i64_in _ (by omega)
 rw [← hsp] at c5
 rw [hsp2] at hl
 clear hsp hsp2
 obtain ⟨ws,cnt,hsh⟩:=zdY p (p.noteW i) 1 0
 rw [hsh] at hl
 rw [hsh]
 clear hsh
 have HL:=Lib.hid hl
 have H:=Lib.hid h
 clear hl h e h1
 go_enter Tryz.func142,Tryz.ntmps142
 go_wp2
 go_still_tail 11,(by kernel_rfl)
 change wpList _ _ _ _ _ w.drew
 go_wp2_with fail
 refine HL.out.mono ?_
 rintro e w1 ⟨rfl,ow1,h1⟩
 have c13:=h1.at_.cW_all
 have d0:w1.cell? ⟨F.all,i*18,none⟩=some (.int .i64 (p.mach i).place):=h1.at_.cA_place (i:=i) hi
 have d1:w1.cell? ⟨F.all,i*18+1,none⟩=some (.int .i64 (p.mach i).p):=h1.at_.cA_p (i:=i) hi
 have d3:w1.cell? ⟨F.all,i*18+3,none⟩=some (.int .i64 (p.mach i).next):=h1.at_.cA_next (i:=i) hi
 have d7:w1.cell? ⟨F.all,i*18+7,none⟩=some (.bool (p.mach i).spin):=h1.at_.cA_spin (i:=i) hi
 have fA:=h1.at_.call.2
 have H1:=Lib.hid ((On.start H.out).drew.then_ h1)
 clear h1
 go_wp2
 go_returns
 exact ⟨rfl,_,(((((OnM.of_on H1.out hi).s_p _).s_next (-1)).s_spin true).s_place 4).fin rfl⟩
theorem leave_on {N:Nat} {F:Fix} {V:Vol} {ow:Nat→Nat} {w:World} {p:Wd} (h:WAt F V ow w p) (E:Env N ow w) (i:Nat) (hi:i<p.M) (to:Nat) (k:Int) (ht:to∈zex 2) (ht7:to<7) (hr:zeh ⟨k,(p.mach i).g,i,(p.mach i).p,0⟩=true) (hbig:p.log.length<4294967296) :
  Calls Tryz.prog 169 #[.pointer (some ⟨F.W,0,none⟩),.int .i64 i,.int .u64 to,.int .i64 k] w fun e w'=>e=.returned (.tuple #[])∧∃ V' ow',On F V' ow w ow' w' (p.leave i to k):=by
 obtain ⟨ws,cnt,hsh⟩:=zaU p (p.mach i).g 2 to
 have e:p.leave i to k=(({ p with ws:=ws,cnt:=cnt }:Wd).add i k (p.mach i).g 0).setM i { p.mach i with got:=-1,g:=-1,place:=1 }:=by
  unfold Wd.leave;dsimp only;rw [hsh]
 rw [e]
 have c13:=h.cW_all
 have c3:=h.cW_mem
 have c5:=h.cW_notes
 have c6:=h.cW_from
 have c7:=h.cW_n
 have c0:=h.cA_place hi
 have cg:=h.cA_g hi
 have cn:=h.cA_next hi
 have hM:=h.dim
 have hcap:=h.own_cap
 unfold dims at hM
 have hmv:=zbZ ((On.start h).drew).at_ (E.on (On.start h).drew) (p.mach i).g 2 to ht (by decide) ht7
 obtain ⟨fr,hfr⟩:∃ fr:Int,fr=((2*(p.P+2)+1+p.M:Nat):Int):=⟨_,rfl⟩
 rw [← hfr] at c6 hmv
 rw [hsh] at hmv
 have HM:=Lib.hid hmv
 have H:=Lib.hid h
 have HE:=Lib.hid E
 have HR:=Lib.hid hr
 clear h E e hmv hfr hr hsh ht
 go_enter Tryz.func169,Tryz.ntmps169
 go_wp2
 go_still_tail 13,(by kernel_rfl)
 change wpList _ _ _ _ _ w.drew
 go_wp2_with fail
 refine HM.out.mono ?_
 rintro e w1 ⟨rfl,ow1,h1⟩
 have d4:w1.cell? ⟨F.all,i*18+2,none⟩=some (.int .i64 (p.mach i).g):=h1.at_.cA_g hi
 have H1:=Lib.hid ((On.start H.out).drew.then_ h1)
 have had:=zdS h1.at_ ((HE.out.on (On.start H.out).drew).on h1) i hi k (p.mach i).g 0 HR.out hbig
 have HA:=Lib.hid had
 clear had h1 c13 c3 c6 c7 c0 cg
 go_wp2_with fail
 refine HA.out.mono ?_
 rintro e w2 ⟨rfl,V2,ow2,_,h2⟩
 have d4':w2.cell? ⟨F.all,i*18+4,none⟩=some (.int .i64 (p.mach i).got):=h2.at_.cA_got hi
 have d2:w2.cell? ⟨F.all,i*18+2,none⟩=some (.int .i64 (p.mach i).g):=h2.at_.cA_g hi
 have d0:w2.cell? ⟨F.all,i*18,none⟩=some (.int .i64 (p.mach i).place):=h2.at_.cA_place hi
 have fA:=h2.at_.call.2
 have H2:=Lib.hid (H1.out.then_ h2)
 clear h2 d4
 go_wp2
 go_returns
 exact ⟨rfl,V2,_,((((OnM.of_on H2.out hi).s_got (-1)).s_g (-1)).s_place 1).fin rfl⟩
theorem rouse_no {N:Nat} {F:Fix} {V:Vol} {ow:Nat→Nat} {w:World} {p:Wd} (h:WAt F V ow w p) (E:Env N ow w) (i:Nat) (hi:i<p.M) (g:Int) (fr:Nat) (k:Int) (ht:1∈zex fr) (ht7:fr<6) (hm:p.moved g fr=false) :
  Calls Tryz.prog 170 #[.pointer (some ⟨F.W,0,none⟩),.int .i64 i,.int .i64 g,.int .u64 fr,.int .i64 k] w fun e w'=>e=.returned (.bool (p.rouse i g fr k).2)∧∃ V' ow',On F V' ow w ow' w' (p.rouse i g fr k).1:=by
 have e:p.rouse i g fr k=(p.move g fr 1,false):=by unfold Wd.rouse;rw [if_neg (by rw [hm];decide)]
 rw [e]
 have c13:=h.cW_all
 have c3:=h.cW_mem
 have c5:=h.cW_notes
 have c6:=h.cW_from
 have c7:=h.cW_n
 have c0:=h.cA_place hi
 have cg:=h.cA_g hi
 have cn:=h.cA_next hi
 have hM:=h.dim
 have hcap:=h.own_cap
 unfold dims at hM
 have hmv:=zbZ ((On.start h).drew).at_ (E.on (On.start h).drew) g fr 1 ht ht7 (by decide)
 rw [hm] at hmv
 obtain ⟨tb,hfr⟩:∃ tb:Int,tb=((2*(p.P+2)+1+p.M:Nat):Int):=⟨_,rfl⟩
 rw [← hfr] at c6 hmv
 have HM:=Lib.hid hmv
 have H:=Lib.hid h
 clear h E e hmv hfr ht hm
 go_enter Tryz.func170,Tryz.ntmps170
 go_wp2
 go_still_tail 10,(by kernel_rfl)
 change wpList _ _ _ _ _ w.drew
 go_wp2_with fail
 refine HM.out.mono ?_
 rintro e w1 ⟨rfl,ow1,h1⟩
 have H1:=Lib.hid ((On.start H.out).drew.then_ h1)
 clear h1
 go_wp2
 go_returns
 exact ⟨rfl,V,_,H1.out⟩
theorem rouse_yes {N:Nat} {F:Fix} {V:Vol} {ow:Nat→Nat} {w:World} {p:Wd} (h:WAt F V ow w p) (E:Env N ow w) (i:Nat) (hi:i<p.M) (g:Int) (fr:Nat) (k:Int) (ht:1∈zex fr) (ht7:fr<6) (hm:p.moved g fr=true) (hr:zeh ⟨k,g,i,(p.mach i).p,0⟩=true) (hbig:p.log.length<4294967296) :
  Calls Tryz.prog 170 #[.pointer (some ⟨F.W,0,none⟩),.int .i64 i,.int .i64 g,.int .u64 fr,.int .i64 k] w fun e w'=>e=.returned (.bool (p.rouse i g fr k).2)∧∃ V' ow',On F V' ow w ow' w' (p.rouse i g fr k).1:=by
 obtain ⟨ws,cnt,hsh⟩:=zaU p g fr 1
 have e:p.rouse i g fr k=((({ p with ws:=ws,cnt:=cnt }:Wd).add i k g 0).setM i { p.mach i with got:=g,place:=28 },true):=by unfold Wd.rouse;rw [if_pos hm,hsh]
 rw [e]
 have c13:=h.cW_all
 have c3:=h.cW_mem
 have c5:=h.cW_notes
 have c6:=h.cW_from
 have c7:=h.cW_n
 have c0:=h.cA_place hi
 have cg:=h.cA_g hi
 have cn:=h.cA_next hi
 have hM:=h.dim
 have hcap:=h.own_cap
 unfold dims at hM
 have hmv:=zbZ ((On.start h).drew).at_ (E.on (On.start h).drew) g fr 1 ht ht7 (by decide)
 rw [hm,hsh] at hmv
 obtain ⟨tb,hfr⟩:∃ tb:Int,tb=((2*(p.P+2)+1+p.M:Nat):Int):=⟨_,rfl⟩
 rw [← hfr] at c6 hmv
 have HM:=Lib.hid hmv
 have H:=Lib.hid h
 have HE:=Lib.hid E
 have HR:=Lib.hid hr
 clear h E e hmv hfr ht hm hr hsh
 go_enter Tryz.func170,Tryz.ntmps170
 go_wp2
 go_still_tail 10,(by kernel_rfl)
 change wpList _ _ _ _ _ w.drew
 go_wp2_with fail
 refine HM.out.mono ?_
 rintro e w1 ⟨rfl,ow1,h1⟩
 have H1:=Lib.hid ((On.start H.out).drew.then_ h1)
 have had:=zdS h1.at_ ((HE.out.on (On.start H.out).drew).on h1) i hi k g 0 HR.out hbig
 have HA:=Lib.hid had
 clear had h1 c13 c3 c6 c7 c0 cg
 go_wp2_with fail
 refine HA.out.mono ?_
 rintro e w2 ⟨rfl,V2,ow2,_,h2⟩
 have d4':w2.cell? ⟨F.all,i*18+4,none⟩=some (.int .i64 (p.mach i).got):=h2.at_.cA_got hi
 have d0:w2.cell? ⟨F.all,i*18,none⟩=some (.int .i64 (p.mach i).place):=h2.at_.cA_place hi
 have fA:=h2.at_.call.2
 have H2:=Lib.hid (H1.out.then_ h2)
 clear h2
 go_wp2
 go_returns
 exact ⟨rfl,V2,_,(((OnM.of_on H2.out hi).s_got g).s_place 28).fin rfl⟩
def ExecOK (N:Nat) (p:Wd) (i:Nat) (s:Hst.Stp) (r:Wd × Bool):Prop:=∀ (F:Fix) (V:Vol) (ow:Nat→Nat) (w:World) (kind:Int),WAt F V ow w p→Env N ow w →
 Calls Tryz.prog 141 #[.pointer (some ⟨F.W,0,none⟩),.int .i64 i,zeD kind s.act s.a s.x s.d] w fun e w'=>e=.returned (.bool r.2)∧∃ V' ow',On F V' ow w ow' w' r.1
theorem leave_M (p:Wd) (i to:Nat) (k:Int):(p.leave i to k).M=p.M:=by
 obtain ⟨ws,cnt,hsh⟩:=zaU p (p.mach i).g 2 to
 unfold Wd.leave;dsimp only;rw [hsh];rfl
theorem exec_0 (N:Nat) (p:Wd) (i:Nat) (s:Hst.Stp) (hi:i<p.M) (hs:s.act=0):ExecOK N p i s (p.exec i s):=by
 intro F V ow w kind h E
 have e:p.exec i s=(p,true):=by unfold Wd.exec;simp only [hs]
 rw [e]
 have c13:=h.cW_all
 have c0:=h.cA_place hi
 have cg:=h.cA_g hi
 have ca:=h.cA_arg hi
 have fA:=h.call.2
 have lA:=h.call.lt (by have:=h.dim;unfold dims at this;show 0<p.M*18;omega)
 have lW:=World.block_lt_of_cell? w _ c13
 simp only at lW
 have hM:=h.dim
 have hcap:=h.own_cap
 unfold dims at hM
 have h1:∀ o,On F V ow w (grow ow w.heap.size 0) (w.alloc o) p:=fun o=>(On.start h).alloc o
 have HA:=Lib.hid h1
 have H:=Lib.hid h
 have HE:=Lib.hid E
 rw [hs]
 clear h E e hs h1
 unfold zeD
 go_enter Tryz.func141,Tryz.ntmps141
 go_wp2
 go_returns
 exact ⟨rfl,V,_,HA.out _⟩
theorem exec_1 (N:Nat) (p:Wd) (i:Nat) (s:Hst.Stp) (hi:i<p.M) (hs:s.act=1) (hr:zeh ⟨3,(p.mach i).g,i,(p.mach i).p,0⟩=true) (hbig:p.log.length<4294967296):ExecOK N p i s (p.exec i s):=by
 intro F V ow w kind h E
 have e:p.exec i s=(((p.leave i 1 3).setM i { (p.leave i 1 3).mach i with got:=(p.mach i).g,back:=1,place:=27 }),true):=by unfold Wd.exec;simp only [hs]
 rw [e]
 have c13:=h.cW_all
 have c0:=h.cA_place hi
 have cg:=h.cA_g hi
 have ca:=h.cA_arg hi
 have fA:=h.call.2
 have lA:=h.call.lt (by have:=h.dim;unfold dims at this;show 0<p.M*18;omega)
 have lW:=World.block_lt_of_cell? w _ c13
 simp only at lW
 have hM:=h.dim
 have hcap:=h.own_cap
 unfold dims at hM
 have h1:∀ o,On F V ow w (grow ow w.heap.size 0) (w.alloc o) p:=fun o=>(On.start h).alloc o
 have HA:=Lib.hid h1
 have H:=Lib.hid h
 have HE:=Lib.hid E
 have hl:=fun o=>leave_on (h1 o).at_ (E.on (h1 o)) i hi 1 3 (by decide) (by decide) hr hbig
 have HL:=Lib.hid hl
 rw [hs]
 clear h E e hs h1 hr hl
 unfold zeD
 go_enter Tryz.func141,Tryz.ntmps141
 go_wp2_with fail
 refine (HL.out _).mono ?_
 rintro e w1 ⟨rfl,V1,ow1,k⟩
 have hi2:i<(p.leave i 1 3).M:=by have e:(p.leave i 1 3).M=p.M:=(leave_M p i 1 3);rw [e];exact hi
 have c13:=k.at_.cW_all
 have d0:=k.at_.cA_place (i:=i) hi2
 have d4:=k.at_.cA_got (i:=i) hi2
 have d10:=k.at_.cA_back (i:=i) hi2
 have fA:=k.at_.call.2
 have eM:(p.leave i 1 3).M=p.M:=leave_M p i 1 3
 rw [eM] at c13
 have K:=Lib.hid k
 clear k eM
 go_wp2
 go_returns
 exact ⟨rfl,V1,_,(((((OnM.of_on ((HA.out _).then_ K.out) hi2).s_got _).s_back 1).s_place 27).fin rfl)⟩
theorem exec_2 (N:Nat) (p:Wd) (i:Nat) (s:Hst.Stp) (hi:i<p.M) (hs:s.act=2) (hr:zeh ⟨4,(p.mach i).g,i,(p.mach i).p,0⟩=true) (hbig:p.log.length<4294967296):ExecOK N p i s (p.exec i s):=by
 intro F V ow w kind h E
 have e:p.exec i s=(p.leave i 3 4,true):=by unfold Wd.exec;simp only [hs]
 rw [e]
 have c13:=h.cW_all
 have c0:=h.cA_place hi
 have cg:=h.cA_g hi
 have ca:=h.cA_arg hi
 have fA:=h.call.2
 have lA:=h.call.lt (by have:=h.dim;unfold dims at this;show 0<p.M*18;omega)
 have lW:=World.block_lt_of_cell? w _ c13
 simp only at lW
 have hM:=h.dim
 have hcap:=h.own_cap
 unfold dims at hM
 have h1:∀ o,On F V ow w (grow ow w.heap.size 0) (w.alloc o) p:=fun o=>(On.start h).alloc o
 have HA:=Lib.hid h1
 have H:=Lib.hid h
 have HE:=Lib.hid E
 have hl:=fun o=>leave_on (h1 o).at_ (E.on (h1 o)) i hi 3 4 (by decide) (by decide) hr hbig
 have HL:=Lib.hid hl
 rw [hs]
 clear h E e hs h1 hr hl
 unfold zeD
 go_enter Tryz.func141,Tryz.ntmps141
 go_wp2_with fail
 refine (HL.out _).mono ?_
 rintro e w1 ⟨rfl,V1,ow1,k⟩
 go_wp2
 go_returns
 exact ⟨rfl,V1,_,(HA.out _).then_ k⟩
theorem exec_3 (N:Nat) (p:Wd) (i:Nat) (s:Hst.Stp) (hi:i<p.M) (hs:s.act=3) (hr:zeh ⟨7,(p.mach i).g,i,(p.mach i).p,0⟩=true) (hbig:p.log.length<4294967296):ExecOK N p i s (p.exec i s):=by
 intro F V ow w kind h E
 have e:p.exec i s=(p.leave i 6 7,true):=by unfold Wd.exec;simp only [hs]
 rw [e]
 have c13:=h.cW_all
 have c0:=h.cA_place hi
 have cg:=h.cA_g hi
 have ca:=h.cA_arg hi
 have fA:=h.call.2
 have lA:=h.call.lt (by have:=h.dim;unfold dims at this;show 0<p.M*18;omega)
 have lW:=World.block_lt_of_cell? w _ c13
 simp only at lW
 have hM:=h.dim
 have hcap:=h.own_cap
 unfold dims at hM
 have h1:∀ o,On F V ow w (grow ow w.heap.size 0) (w.alloc o) p:=fun o=>(On.start h).alloc o
 have HA:=Lib.hid h1
 have H:=Lib.hid h
 have HE:=Lib.hid E
 have hl:=fun o=>leave_on (h1 o).at_ (E.on (h1 o)) i hi 6 7 (by decide) (by decide) hr hbig
 have HL:=Lib.hid hl
 rw [hs]
 clear h E e hs h1 hr hl
 unfold zeD
 go_enter Tryz.func141,Tryz.ntmps141
 go_wp2_with fail
 refine (HL.out _).mono ?_
 rintro e w1 ⟨rfl,V1,ow1,k⟩
 go_wp2
 go_returns
 exact ⟨rfl,V1,_,(HA.out _).then_ k⟩
theorem exec_4n (N:Nat) (p:Wd) (i:Nat) (s:Hst.Stp) (hi:i<p.M) (hs:s.act=4) (hm:p.moved s.x 0=false):ExecOK N p i s (p.exec i s):=by
 intro F V ow w kind h E
 have e:p.exec i s=p.rouse i s.x 0 0:=by unfold Wd.exec;simp only [hs]
 rw [e]
 have c13:=h.cW_all
 have c0:=h.cA_place hi
 have cg:=h.cA_g hi
 have ca:=h.cA_arg hi
 have fA:=h.call.2
 have lA:=h.call.lt (by have:=h.dim;unfold dims at this;show 0<p.M*18;omega)
 have lW:=World.block_lt_of_cell? w _ c13
 simp only at lW
 have hM:=h.dim
 have hcap:=h.own_cap
 unfold dims at hM
 have h1:∀ o,On F V ow w (grow ow w.heap.size 0) (w.alloc o) p:=fun o=>(On.start h).alloc o
 have HA:=Lib.hid h1
 have H:=Lib.hid h
 have HE:=Lib.hid E
 have hl:=fun o=>rouse_no (h1 o).at_ (E.on (h1 o)) i hi s.x 0 0 (by decide) (by decide) hm
 have HL:=Lib.hid hl
 rw [hs]
 clear h E e hs h1 hl hm
 unfold zeD
 go_enter Tryz.func141,Tryz.ntmps141
 go_wp2_with fail
 refine (HL.out _).mono ?_
 rintro e w1 ⟨rfl,V1,ow1,k⟩
 go_wp2
 go_returns
 exact ⟨rfl,V1,_,(HA.out _).then_ k⟩
theorem exec_4y (N:Nat) (p:Wd) (i:Nat) (s:Hst.Stp) (hi:i<p.M) (hs:s.act=4) (hm:p.moved s.x 0=true) (hr:zeh ⟨0,s.x,i,(p.mach i).p,0⟩=true) (hbig:p.log.length<4294967296):ExecOK N p i s (p.exec i s):=by
 intro F V ow w kind h E
 have e:p.exec i s=p.rouse i s.x 0 0:=by unfold Wd.exec;simp only [hs]
 rw [e]
 have c13:=h.cW_all
 have c0:=h.cA_place hi
 have cg:=h.cA_g hi
 have ca:=h.cA_arg hi
 have fA:=h.call.2
 have lA:=h.call.lt (by have:=h.dim;unfold dims at this;show 0<p.M*18;omega)
 have lW:=World.block_lt_of_cell? w _ c13
 simp only at lW
 have hM:=h.dim
 have hcap:=h.own_cap
 unfold dims at hM
 have h1:∀ o,On F V ow w (grow ow w.heap.size 0) (w.alloc o) p:=fun o=>(On.start h).alloc o
 have HA:=Lib.hid h1
 have H:=Lib.hid h
 have HE:=Lib.hid E
 have hl:=fun o=>rouse_yes (h1 o).at_ (E.on (h1 o)) i hi s.x 0 0 (by decide) (by decide) hm hr hbig
 have HL:=Lib.hid hl
 rw [hs]
 clear h E e hs h1 hl hm hr
 unfold zeD
 go_enter Tryz.func141,Tryz.ntmps141
 go_wp2_with fail
 refine (HL.out _).mono ?_
 rintro e w1 ⟨rfl,V1,ow1,k⟩
 go_wp2
 go_returns
 exact ⟨rfl,V1,_,(HA.out _).then_ k⟩
theorem exec_5n (N:Nat) (p:Wd) (i:Nat) (s:Hst.Stp) (hi:i<p.M) (hs:s.act=5) (hm:p.moved s.x 3=false):ExecOK N p i s (p.exec i s):=by
 intro F V ow w kind h E
 have e:p.exec i s=p.rouse i s.x 3 1:=by unfold Wd.exec;simp only [hs]
 rw [e]
 have c13:=h.cW_all
 have c0:=h.cA_place hi
 have cg:=h.cA_g hi
 have ca:=h.cA_arg hi
 have fA:=h.call.2
 have lA:=h.call.lt (by have:=h.dim;unfold dims at this;show 0<p.M*18;omega)
 have lW:=World.block_lt_of_cell? w _ c13
 simp only at lW
 have hM:=h.dim
 have hcap:=h.own_cap
 unfold dims at hM
 have h1:∀ o,On F V ow w (grow ow w.heap.size 0) (w.alloc o) p:=fun o=>(On.start h).alloc o
 have HA:=Lib.hid h1
 have H:=Lib.hid h
 have HE:=Lib.hid E
 have hl:=fun o=>rouse_no (h1 o).at_ (E.on (h1 o)) i hi s.x 3 1 (by decide) (by decide) hm
 have HL:=Lib.hid hl
 rw [hs]
 clear h E e hs h1 hl hm
 unfold zeD
 go_enter Tryz.func141,Tryz.ntmps141
 go_wp2_with fail
 refine (HL.out _).mono ?_
 rintro e w1 ⟨rfl,V1,ow1,k⟩
 go_wp2
 go_returns
 exact ⟨rfl,V1,_,(HA.out _).then_ k⟩
theorem exec_5y (N:Nat) (p:Wd) (i:Nat) (s:Hst.Stp) (hi:i<p.M) (hs:s.act=5) (hm:p.moved s.x 3=true) (hr:zeh ⟨1,s.x,i,(p.mach i).p,0⟩=true) (hbig:p.log.length<4294967296):ExecOK N p i s (p.exec i s):=by
 intro F V ow w kind h E
 have e:p.exec i s=p.rouse i s.x 3 1:=by unfold Wd.exec;simp only [hs]
 rw [e]
 have c13:=h.cW_all
 have c0:=h.cA_place hi
 have cg:=h.cA_g hi
 have ca:=h.cA_arg hi
 have fA:=h.call.2
 have lA:=h.call.lt (by have:=h.dim;unfold dims at this;show 0<p.M*18;omega)
 have lW:=World.block_lt_of_cell? w _ c13
 simp only at lW
 have hM:=h.dim
 have hcap:=h.own_cap
 unfold dims at hM
 have h1:∀ o,On F V ow w (grow ow w.heap.size 0) (w.alloc o) p:=fun o=>(On.start h).alloc o
 have HA:=Lib.hid h1
 have H:=Lib.hid h
 have HE:=Lib.hid E
 have hl:=fun o=>rouse_yes (h1 o).at_ (E.on (h1 o)) i hi s.x 3 1 (by decide) (by decide) hm hr hbig
 have HL:=Lib.hid hl
 rw [hs]
 clear h E e hs h1 hl hm hr
 unfold zeD
 go_enter Tryz.func141,Tryz.ntmps141
 go_wp2_with fail
 refine (HL.out _).mono ?_
 rintro e w1 ⟨rfl,V1,ow1,k⟩
 go_wp2
 go_returns
 exact ⟨rfl,V1,_,(HA.out _).then_ k⟩
theorem exec_6 (N:Nat) (p:Wd) (i:Nat) (s:Hst.Stp) (hi:i<p.M) (hs:s.act=6):ExecOK N p i s (p.exec i s):=by
 intro F V ow w kind h E
 have e:p.exec i s=(p.setM i { p.mach i with arg:=s.d,place:=29 },true):=by unfold Wd.exec;simp only [hs]
 rw [e]
 have c13:=h.cW_all
 have c0:=h.cA_place hi
 have cg:=h.cA_g hi
 have ca:=h.cA_arg hi
 have fA:=h.call.2
 have lA:=h.call.lt (by have:=h.dim;unfold dims at this;show 0<p.M*18;omega)
 have lW:=World.block_lt_of_cell? w _ c13
 simp only at lW
 have hM:=h.dim
 have hcap:=h.own_cap
 unfold dims at hM
 have h1:∀ o,On F V ow w (grow ow w.heap.size 0) (w.alloc o) p:=fun o=>(On.start h).alloc o
 have HA:=Lib.hid h1
 have H:=Lib.hid h
 have HE:=Lib.hid E
 rw [hs]
 clear h E e hs h1
 unfold zeD
 go_enter Tryz.func141,Tryz.ntmps141
 go_wp2
 go_returns
 exact ⟨rfl,V,_,((((OnM.start H.out hi).s_arg s.d).s_place 29).fin rfl).alloc _⟩
theorem exec_7n (N:Nat) (p:Wd) (i:Nat) (s:Hst.Stp) (hi:i<p.M) (hs:s.act=7) (hx:s.x<0):ExecOK N p i s (p.exec i s):=by
 intro F V ow w kind h E
 have e:p.exec i s=(p,false):=by unfold Wd.exec;simp only [hs];rw [if_pos (.inl hx)]
 rw [e]
 have c13:=h.cW_all
 have c0:=h.cA_place hi
 have cg:=h.cA_g hi
 have ca:=h.cA_arg hi
 have fA:=h.call.2
 have lA:=h.call.lt (by have:=h.dim;unfold dims at this;show 0<p.M*18;omega)
 have lW:=World.block_lt_of_cell? w _ c13
 simp only at lW
 have hM:=h.dim
 have hcap:=h.own_cap
 unfold dims at hM
 have h1:∀ o,On F V ow w (grow ow w.heap.size 0) (w.alloc o) p:=fun o=>(On.start h).alloc o
 have HA:=Lib.hid h1
 have H:=Lib.hid h
 have HE:=Lib.hid E
 rw [hs]
 clear h E e hs h1
 unfold zeD
 go_enter Tryz.func141,Tryz.ntmps141
 go_wp2
 go_returns
 exact ⟨rfl,V,_,HA.out _⟩
theorem exec_7m (N:Nat) (p:Wd) (i:Nat) (s:Hst.Stp) (hi:i<p.M) (hs:s.act=7) (h0:¬ s.x<0) (hx:65536≤s.x):ExecOK N p i s (p.exec i s):=by
 intro F V ow w kind h E
 have e:p.exec i s=(p,false):=by unfold Wd.exec;simp only [hs];rw [if_pos (.inr hx)]
 rw [e]
 have c13:=h.cW_all
 have c0:=h.cA_place hi
 have cg:=h.cA_g hi
 have ca:=h.cA_arg hi
 have fA:=h.call.2
 have lA:=h.call.lt (by have:=h.dim;unfold dims at this;show 0<p.M*18;omega)
 have lW:=World.block_lt_of_cell? w _ c13
 simp only at lW
 have hM:=h.dim
 have hcap:=h.own_cap
 unfold dims at hM
 have h1:∀ o,On F V ow w (grow ow w.heap.size 0) (w.alloc o) p:=fun o=>(On.start h).alloc o
 have HA:=Lib.hid h1
 have H:=Lib.hid h
 have HE:=Lib.hid E
 rw [hs]
 clear h E e hs h1
 unfold zeD
 go_enter Tryz.func141,Tryz.ntmps141
 go_wp2
 go_returns
 exact ⟨rfl,V,_,HA.out _⟩
theorem exec_7 (N:Nat) (p:Wd) (i:Nat) (s:Hst.Stp) (hi:i<p.M) (hs:s.act=7) (h0:¬ s.x<0) (hx:¬ 65536≤s.x):ExecOK N p i s (p.exec i s):=by
 intro F V ow w kind h E
 have e:p.exec i s=(p.setM i { p.mach i with arg:=s.x,place:=30 },true):=by unfold Wd.exec;simp only [hs];rw [if_neg (by omega)]
 rw [e]
 have c13:=h.cW_all
 have c0:=h.cA_place hi
 have cg:=h.cA_g hi
 have ca:=h.cA_arg hi
 have fA:=h.call.2
 have lA:=h.call.lt (by have:=h.dim;unfold dims at this;show 0<p.M*18;omega)
 have lW:=World.block_lt_of_cell? w _ c13
 simp only at lW
 have hM:=h.dim
 have hcap:=h.own_cap
 unfold dims at hM
 have h1:∀ o,On F V ow w (grow ow w.heap.size 0) (w.alloc o) p:=fun o=>(On.start h).alloc o
 have HA:=Lib.hid h1
 have H:=Lib.hid h
 have HE:=Lib.hid E
 rw [hs]
 clear h E e hs h1
 unfold zeD
 go_enter Tryz.func141,Tryz.ntmps141
 go_wp2
 go_returns
 exact ⟨rfl,V,_,((((OnM.start H.out hi).s_arg s.x).s_place 30).fin rfl).alloc _⟩
theorem exec_else (p:Wd) (i:Nat) (s:Hst.Stp) (h:8≤s.act):p.exec i s=(p,false):=by
 unfold Wd.exec
 dsimp only
 split <;> first | rfl | omega
theorem exec_8 (N:Nat) (p:Wd) (i:Nat) (s:Hst.Stp) (hi:i<p.M) (hs:8≤s.act):ExecOK N p i s (p.exec i s):=by
 intro F V ow w kind h E
 rw [exec_else p i s hs]
 have c13:=h.cW_all
 have c0:=h.cA_place hi
 have cg:=h.cA_g hi
 have ca:=h.cA_arg hi
 have fA:=h.call.2
 have lA:=h.call.lt (by have:=h.dim;unfold dims at this;show 0<p.M*18;omega)
 have lW:=World.block_lt_of_cell? w _ c13
 simp only at lW
 have hM:=h.dim
 have hcap:=h.own_cap
 unfold dims at hM
 have h1:∀ o,On F V ow w (grow ow w.heap.size 0) (w.alloc o) p:=fun o=>(On.start h).alloc o
 have HA:=Lib.hid h1
 have H:=Lib.hid h
 have HE:=Lib.hid E
 obtain ⟨n,hn⟩:∃ n:Int,n=((s.act:Nat):Int):=⟨_,rfl⟩
 rw [← hn]
 have b0:(n==0)=false:=by rw [beq_eq_false_iff_ne];omega
 have b1:(n==1)=false:=by rw [beq_eq_false_iff_ne];omega
 have b2:(n==2)=false:=by rw [beq_eq_false_iff_ne];omega
 have b3:(n==3)=false:=by rw [beq_eq_false_iff_ne];omega
 have b4:(n==4)=false:=by rw [beq_eq_false_iff_ne];omega
 have b5:(n==5)=false:=by rw [beq_eq_false_iff_ne];omega
 have b6:(n==6)=false:=by rw [beq_eq_false_iff_ne];omega
 have b7:(n==7)=false:=by rw [beq_eq_false_iff_ne];omega
 clear h E hs h1 hn
 unfold zeD
 go_enter Tryz.func141,Tryz.ntmps141
 go_wp2
 go_returns
 exact ⟨rfl,V,_,HA.out _⟩
end Go.Proofs.YtlmmjgekolpekaaGreatDoor
