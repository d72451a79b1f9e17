/- Parts of the proof. -/
import Derived.Test.YtlmmjgekolpekaaGreatDoorMPq28
import Derived.Test.YtlmmjgekolpekaaGreatDoorMPq11
set_option linter.unusedVariables false
set_option linter.unusedSimpArgs false
set_option linter.unusedSectionVars false
set_option maxRecDepth 100000
set_option maxHeartbeats 6400000
namespace Go.Proofs.YtlmmjgekolpekaaGreatDoor
open Go Go.RowKit Hst Go.Proofs
theorem lock_3 (m:Mach) (r:Value) (P q k:Nat) (hP:1≤P∧P≤64) (hpl:m.place=6) (hq:q<P) (hqp:m.p=(q:Int)) (hik:m.i=(k:Int)) (hkb:k≤4096) (N:Nat) (w:World) (T:Tabs N w) :
  Calls Tryz.prog 143 #[.agg (encM m r).toArray,.int .i64 P] w fun e w'=>e=.returned (.int .i64 (lockI P m))∧Below w.heap.size w w':=by
 obtain ⟨place,mp,mg,mnext,mgot,mtarget,mi,mspin,minn,mrest,mback,mafter,marg,mlkN,mlkS,mstage,mticket,mtimes⟩:=m
 dsimp only at hpl hqp hik
 subst hpl hqp hik
 simp only [encM] at *
 have ho:=fun w T=>zaV 6 (by decide) N w T
 simp only [show lockK 6=3 from rfl] at ho
 have HO:=Lib.hid ho
 have hT:=Lib.hid T
 obtain ⟨r1,hr1⟩:∃ r1,r1=k % P:=⟨_,rfl⟩
 have hr1l:r1<P:=by rw [hr1];exact Nat.mod_lt _ (by omega)
 obtain ⟨s1,hs1⟩:∃ s1,s1=(q+r1) % P:=⟨_,rfl⟩
 have hs1l:s1<P:=by rw [hs1];exact Nat.mod_lt _ (by omega)
 have t1:(k:Int) % (P:Int)=(r1:Int):=by rw [hr1];push_cast;rfl
 have t2:((q:Int)+(r1:Int)) % (P:Int)=(s1:Int):=by rw [hs1];push_cast;rfl
 have el:lockI P ⟨6,q,mg,mnext,mgot,mtarget,k,mspin,minn,mrest,mback,mafter,marg,mlkN,mlkS,mstage,mticket,mtimes⟩=(s1:Int)+1:=by
  unfold lockI
  show (if 0≤(k:Int)∧0≤(q:Int)∧(q:Int)<P then ((q:Int)+(k:Int) % P) % P+1 else -1)=_
  rw [if_pos ⟨by omega,by omega,by omega⟩,t1,t2]
 rw [el]
 clear ho T el
 have e0:((P:Int)==0)=false:=by simp;omega
 have h0:¬ P=0:=by omega
 have u1:(k:Int).tmod (P:Int)=(r1:Int):=by rw [Int.tmod_eq_emod_of_nonneg (by omega)];exact t1
 have u2:((q:Int)+(r1:Int)).tmod (P:Int)=(s1:Int):=by rw [Int.tmod_eq_emod_of_nonneg (by omega)];exact t2
 have w1:IntKind.i64.wrap ((k:Int).tmod (P:Int))=(r1:Int):=by rw [u1];exact IntWalk.i64_in _ (by omega)
 have w2:IntKind.i64.wrap (r1:Int)=(r1:Int):=IntWalk.i64_in _ (by omega)
 have w3:IntKind.i64.wrap ((q:Int)+(r1:Int))=(q:Int)+(r1:Int):=IntWalk.i64_in _ (by omega)
 have w4:IntKind.i64.wrap (((q:Int)+(r1:Int)).tmod (P:Int))=(s1:Int):=by rw [u2];exact IntWalk.i64_in _ (by omega)
 have w5:IntKind.i64.wrap (s1:Int)=(s1:Int):=IntWalk.i64_in _ (by omega)
 have w6:IntKind.i64.wrap ((s1:Int)+1)=(s1:Int)+1:=IntWalk.i64_in _ (by omega)
 have hr:=fun w=>zdF P hP.2 q w
 rw [show ringI P (q:Int)=(q:Int)+1 by unfold ringI;rw [if_pos ⟨by omega,by omega⟩]] at hr
 have HR:=Lib.hid hr
 clear hr hr1 hs1
 obtain ⟨hP1,hP2⟩:=hP
 have hq1:(0:Int)<(q:Int)+1:=by omega
 go_enter Tryz.func143,Tryz.ntmps143
 go_wp2_with fail
 refine (HO.out _ (hT.out.alloc _)).mono ?_
 rintro e w1 ⟨⟨s,rfl⟩,hb⟩
 have hx:=zaL hb
 have hb0:Below w.heap.size w w1:=((Below.refl _ w).alloc (Nat.le_refl _) _).trans (hb.mono (by simp))
 have hlt:=zaB hx
 have c1:=zaa hx 1
 have c6:=zaa hx 6
 simp only [List.getElem?_toArray,List.getElem?_cons_zero,List.getElem?_cons_succ] at c1 c6
 clear hx hb HO
 go_wp2_with fail
 refine (HR.out _).mono ?_
 rintro e w2 ⟨rfl,rfl⟩
 go_wp2
 go_quiet (fail)
 go_wp2
 go_returns
 exact ⟨rfl,(hb0.alloc (by omega) _).trans ⟨rfl,rfl,rfl,Nat.le_refl _,fun _ _=>rfl⟩⟩
theorem pick_steal (N:Nat) {F:Fix} {V:Vol} {ow:Nat→Nat} {w:World} {p p':Wd} (h:WAt F V ow w p) (E:Env N ow w) (i:Nat) (hi:i<p.M) (hpl:(p.mach i).place=6) (q k:Nat) (hq:q<p.P) (hqp:(p.mach i).p=(q:Int)) (hik:(p.mach i).i=(k:Int)) (hkb:k≤4096)
  (hk:(∃ k:Nat,lockI p.P (p.mach i)=k∧LockedOK N p i k p')∨(lockI p.P (p.mach i)<0∧BareOK N p i p')) (kind act x d:Int) :
  Calls Tryz.prog 107 #[.pointer (some ⟨F.W,0,none⟩),.agg #[.int .u8 kind,.int .u8 act,.int .i64 i,.int .i64 x,.int .i64 d]] w fun e w'=>e=.returned (.bool true)∧∃ V' ow',On F V' ow w ow' w' p':=by
 have hM:=h.dim
 have hcap:=h.own_cap.2
 unfold dims at hM
 have hi0:¬ (i:Int)<0:=by omega
 have hi1:¬ (p.M:Int)≤(i:Int):=by omega
 have hd0:decide ((i:Int)<0)=false:=by simp
 have hd1:decide ((p.M:Int)≤(i:Int))=false:=by simp;omega
 have h0':(((p.mach i).place:Int)==0)=false:=by rw [beq_eq_false_iff_ne];omega
 have h16':(((p.mach i).place:Int)==16)=false:=by rw [beq_eq_false_iff_ne];omega
 have hlock:=fun w T=>lock_3 (p.mach i) (V.rest i) p.P q k ⟨hM.1,hM.2.1⟩ hpl hq hqp hik hkb N w T
 simp only [encM] at hlock
 have HL:=Lib.hid hlock
 have H:=Lib.hid h
 have HE:=Lib.hid E
 have HK:=Lib.hid hk
 clear h E hk hlock hpl hqp hik
 go_enter Tryz.func107,Tryz.ntmps107
 go_wp2
 refine zaT (fun wb=>On F V ow w (grow ow w.heap.size 0) wb p∧wb.cell? ⟨w.heap.size,0,none⟩=some (.int .u8 kind)∧wb.cell? ⟨w.heap.size,1,none⟩=some (.int .u8 act)∧wb.cell? ⟨w.heap.size,2,none⟩=some (.int .i64 i)∧wb.cell? ⟨w.heap.size,3,none⟩=some (.int .i64 x)∧wb.cell? ⟨w.heap.size,4,none⟩=some (.int .i64 d))
  ⟨(On.start H.out).alloc _,by rw [zak];rfl,by rw [zak];rfl,by rw [zak];rfl,by rw [zak];rfl,by rw [zak];rfl⟩ ?_
 rintro wb ⟨h1,b0,b1,b2,b3,b4⟩
 have cM:=h1.at_.cW_F_M
 have cP:=h1.at_.cW_F_P
 have c13:=h1.at_.cW_all
 have a0:=h1.at_.cA_place hi
 have a1:=h1.at_.cA_p hi
 have a2:=h1.at_.cA_g hi
 have a3:=h1.at_.cA_next hi
 have a4:=h1.at_.cA_got hi
 have a5:=h1.at_.cA_target hi
 have a6:=h1.at_.cA_i hi
 have a7:=h1.at_.cA_spin hi
 have a8:=h1.at_.cA_inn hi
 have a9:=h1.at_.cA_rest hi
 have a10:=h1.at_.cA_back hi
 have a11:=h1.at_.cA_after hi
 have a12:=h1.at_.cA_arg hi
 have a13:=h1.at_.cA_lkN hi
 have a14:=h1.at_.cA_lkS hi
 have a15:=h1.at_.cA_stage hi
 have a16:=h1.at_.cA_ticket hi
 have a17:=h1.at_.cA_times hi
 have H1:=Lib.hid h1
 clear h1
 go_quiet (fail)
 go_wp2
 go_quiet (fail)
 go_wp2
 refine zaT (fun w2=>On F V ow w (grow ow w.heap.size 0) w2 p∧w2.cell? ⟨w.heap.size,2,none⟩=some (.int .i64 i)) ⟨H1.out.drewN _,b2⟩ ?_
 rintro w2 ⟨h2,d2⟩
 clear cM cP c13 b0 b1 b2 b3 b4 a0 a1 a2 a3 a4 a5 a6 a7 a8 a9 a10 a11 a12 a13 a14 a15 a16 a17
 have cP:=h2.at_.cW_F_P
 have a0:=h2.at_.cA_place hi
 have a1:=h2.at_.cA_p hi
 have a2:=h2.at_.cA_g hi
 have a3:=h2.at_.cA_next hi
 have a4:=h2.at_.cA_got hi
 have a5:=h2.at_.cA_target hi
 have a6:=h2.at_.cA_i hi
 have a7:=h2.at_.cA_spin hi
 have a8:=h2.at_.cA_inn hi
 have a9:=h2.at_.cA_rest hi
 have a10:=h2.at_.cA_back hi
 have a11:=h2.at_.cA_after hi
 have a12:=h2.at_.cA_arg hi
 have a13:=h2.at_.cA_lkN hi
 have a14:=h2.at_.cA_lkS hi
 have a15:=h2.at_.cA_stage hi
 have a16:=h2.at_.cA_ticket hi
 have a17:=h2.at_.cA_times hi
 have H2:=Lib.hid h2
 clear h2 H1 wb
 go_still_tail 8,(by kernel_rfl)
 change wpList _ _ _ _ _ w2.drew
 go_wp2_with fail
 refine (HL.out _ ((HE.out.on H2.out).on (On.start H2.out.at_).drew).tabs).mono ?_
 rintro e w3 ⟨rfl,hb⟩
 have d3:w3.cell? ⟨w.heap.size,2,none⟩=some (.int .i64 i):=(hb.cell (p:=⟨w.heap.size,2,none⟩) (World.block_lt_of_cell? w2 _ d2)).trans d2
 have h3:=H2.out.drew.below hb
 have H3:=Lib.hid h3
 clear h3 hb HL
 rcases HK.out with ⟨k,hk,hok⟩ | ⟨hk,hok⟩
 ·rw [hk]
  have HOK:=Lib.hid hok
  clear hk HK hok
  go_wp2_with fail
  refine (HOK.out _ _ _ _ H3.out.at_ (HE.out.on H3.out)).mono ?_
  rintro e w4 ⟨rfl,V4,ow4,h4⟩
  go_wp2
  go_returns
  exact ⟨rfl,_,_,H3.out.then_ h4⟩
 ·have HOK:=Lib.hid hok
  clear HK hok
  generalize lockI p.P (p.mach i)=lk at *
  go_wp2_with fail
  refine (HOK.out _ _ _ _ H3.out.at_ (HE.out.on H3.out)).mono ?_
  rintro e w4 ⟨rfl,V4,ow4,h4⟩
  go_wp2
  go_returns
  exact ⟨rfl,_,_,H3.out.then_ h4⟩
theorem pick_out {F:Fix} {V:Vol} {ow:Nat→Nat} {w:World} {p:Wd} (h:WAt F V ow w p) (act a x d:Int) (ha:a<0∨(p.M:Int)≤a) :
  Calls Tryz.prog 107 #[.pointer (some ⟨F.W,0,none⟩),.agg #[.int .u8 0,.int .u8 act,.int .i64 a,.int .i64 x,.int .i64 d]] w fun e w'=>e=.returned (.bool false)∧∃ V' ow',On F V' ow w ow' w' p:=by
 have cM:∀ o,(w.alloc o).cell? ⟨F.W,1,none⟩=some (.int .i64 p.M):=fun o=>((On.start h).alloc o).at_.cW_F_M
 have lW:=World.block_lt_of_cell? w _ h.cW_F_M
 have cM0:=h.cW_F_M
 simp only at lW
 have H:=Lib.hid h
 clear h
 by_cases h0:a<0
 ·have hd0:decide (a<0)=true:=by simpa using h0
  go_enter Tryz.func107,Tryz.ntmps107
  go_wp2
  go_quiet (fail)
  go_wp2
  go_returns
  exact ⟨rfl,V,_,((On.start H.out).alloc _).drewN _⟩
 ·have h1:(p.M:Int)≤a:=by omega
  have hd0:decide (a<0)=false:=by simpa using h0
  have hd1:decide ((p.M:Int)≤a)=true:=by simpa using h1
  go_enter Tryz.func107,Tryz.ntmps107
  go_wp2
  go_quiet (fail)
  go_wp2
  go_returns
  exact ⟨rfl,V,_,((On.start H.out).alloc _).drewN _⟩
theorem pick_exec (N:Nat) {F:Fix} {V:Vol} {ow:Nat→Nat} {w:World} {p:Wd} (h:WAt F V ow w p) (E:Env N ow w) (i:Nat) (s:Hst.Stp) (r:Wd × Bool) (hi:i<p.M) (hpl:(p.mach i).place=0) (ha:s.a=(i:Int)) (hx:ExecOK N p i s r) :
  Calls Tryz.prog 107 #[.pointer (some ⟨F.W,0,none⟩),.agg #[.int .u8 0,.int .u8 s.act,.int .i64 i,.int .i64 s.x,.int .i64 s.d]] w fun e w'=>e=.returned (.bool r.2)∧∃ V' ow',On F V' ow w ow' w' r.1:=by
 have hM:=h.dim
 have hcap:=h.own_cap.2
 unfold dims at hM
 have hi0:¬ (i:Int)<0:=by omega
 have hi1:¬ (p.M:Int)≤(i:Int):=by omega
 have hd0:decide ((i:Int)<0)=false:=by simp
 have hd1:decide ((p.M:Int)≤(i:Int))=false:=by simp;omega
 have hxc:∀ ow1 w1,WAt F V ow1 w1 p→Env N ow1 w1→Calls Tryz.prog 141 #[.pointer (some ⟨F.W,0,none⟩),.int .i64 i,.agg #[.int .u8 0,.int .u8 s.act,.int .i64 i,.int .i64 s.x,.int .i64 s.d]] w1 fun e w'=>e=.returned (.bool r.2)∧∃ V' ow',On F V' ow1 w1 ow' w' r.1:=fun ow1 w1 h E=>by
  have:=hx F V ow1 w1 0 h E
  unfold zeD at this
  rw [ha] at this
  exact this
 have H:=Lib.hid h
 have HE:=Lib.hid E
 have HX:=Lib.hid hxc
 have HPL:=Lib.hid hpl
 clear h E hx hxc hpl ha
 go_enter Tryz.func107,Tryz.ntmps107
 go_wp2
 refine zaT (fun wb=>On F V ow w (grow ow w.heap.size 0) wb p∧wb.heap[w.heap.size]?=some (.cells #[.int .u8 0,.int .u8 s.act,.int .i64 i,.int .i64 s.x,.int .i64 s.d] 94 (0,0)))
  ⟨(On.start H.out).alloc _,heap_alloc_new w _⟩ ?_
 rintro wb ⟨h1,bx⟩
 have b0:wb.cell? ⟨w.heap.size,0,none⟩=some (.int .u8 0):=zaa bx 0
 have b1:wb.cell? ⟨w.heap.size,1,none⟩=some (.int .u8 s.act):=zaa bx 1
 have b2:wb.cell? ⟨w.heap.size,2,none⟩=some (.int .i64 i):=zaa bx 2
 have b3:wb.cell? ⟨w.heap.size,3,none⟩=some (.int .i64 s.x):=zaa bx 3
 have b4:wb.cell? ⟨w.heap.size,4,none⟩=some (.int .i64 s.d):=zaa bx 4
 have cM:=h1.at_.cW_F_M
 have cP:=h1.at_.cW_F_P
 have c13:=h1.at_.cW_all
 have a0:=h1.at_.cA_place hi
 rw [HPL.out] at a0
 have H1:=Lib.hid h1
 clear h1 bx
 go_quiet (fail)
 go_wp2
 go_quiet (fail)
 go_wp2_with fail
 refine (HX.out _ _ (H1.out.drewN _).at_ (HE.out.on (H1.out.drewN _))).mono ?_
 rintro e w3 ⟨rfl,V3,ow3,h3⟩
 go_wp2
 go_returns
 exact ⟨rfl,_,_,(H1.out.drewN _).then_ h3⟩
theorem pick_sleep (N:Nat) {F:Fix} {V:Vol} {ow:Nat→Nat} {w:World} {p:Wd} (h:WAt F V ow w p) (E:Env N ow w) (i:Nat) (s:Hst.Stp) (r:Wd × Bool) (hi:i<p.M) (hpl:(p.mach i).place=16) (ha:s.a=(i:Int))
  (hx:∀ ow1 w1,WAt F V ow1 w1 p→Calls Tryz.prog 142 #[.pointer (some ⟨F.W,0,none⟩),.int .i64 i] w1 fun e w'=>e=.returned (.bool r.2)∧∃ ow',On F V ow1 w1 ow' w' r.1) :
  Calls Tryz.prog 107 #[.pointer (some ⟨F.W,0,none⟩),.agg #[.int .u8 0,.int .u8 s.act,.int .i64 i,.int .i64 s.x,.int .i64 s.d]] w fun e w'=>e=.returned (.bool r.2)∧∃ V' ow',On F V' ow w ow' w' r.1:=by
 have hM:=h.dim
 have hcap:=h.own_cap.2
 unfold dims at hM
 have hi0:¬ (i:Int)<0:=by omega
 have hi1:¬ (p.M:Int)≤(i:Int):=by omega
 have hd0:decide ((i:Int)<0)=false:=by simp
 have hd1:decide ((p.M:Int)≤(i:Int))=false:=by simp;omega
 have H:=Lib.hid h
 have HE:=Lib.hid E
 have HX:=Lib.hid hx
 have HPL:=Lib.hid hpl
 clear h E hx hpl ha
 go_enter Tryz.func107,Tryz.ntmps107
 go_wp2
 refine zaT (fun wb=>On F V ow w (grow ow w.heap.size 0) wb p∧wb.heap[w.heap.size]?=some (.cells #[.int .u8 0,.int .u8 s.act,.int .i64 i,.int .i64 s.x,.int .i64 s.d] 94 (0,0)))
  ⟨(On.start H.out).alloc _,heap_alloc_new w _⟩ ?_
 rintro wb ⟨h1,bx⟩
 have b2:wb.cell? ⟨w.heap.size,2,none⟩=some (.int .i64 i):=zaa bx 2
 have cM:=h1.at_.cW_F_M
 have cP:=h1.at_.cW_F_P
 have c13:=h1.at_.cW_all
 have a0:=h1.at_.cA_place hi
 rw [HPL.out] at a0
 have H1:=Lib.hid h1
 clear h1 bx
 go_quiet (fail)
 go_wp2
 go_quiet (fail)
 go_wp2_with fail
 refine (HX.out _ _ (H1.out.drewN _).at_).mono ?_
 rintro e w3 ⟨rfl,ow3,h3⟩
 go_wp2
 go_returns
 exact ⟨rfl,_,_,(H1.out.drewN _).then_ h3⟩
theorem tell_no {F:Fix} {V:Vol} {ow:Nat→Nat} {w:World} {p:Wd} (h:WAt F V ow w p) (due:Bool) (hn:¬ (p.idle.poller ≠ -1∧due=true)) :
  Calls Tryz.prog 108 #[.pointer (some ⟨F.W,0,none⟩),.bool due] w fun e w'=>e=.returned (.tuple #[])∧∃ ow',On F V ow w ow' w' (p.tell due):=by
 have e:p.tell due=p:=by unfold Wd.tell;rw [if_neg hn]
 rw [e]
 have c12:=h.cW_idle
 obtain ⟨mk,mw,h8⟩:=h.idle8
 have hp:=zcB h8
 have H:=Lib.hid h
 by_cases hq:p.idle.poller = -1
 ·rw [show (p.idle.poller != -1)=false by rw [hq];rfl] at hp
  have HP:=Lib.hid hp
  clear h h8 hp hn hq e
  go_enter Tryz.func108,Tryz.ntmps108
  go_wp2_with fail
  refine HP.out.mono ?_
  rintro e w1 ⟨rfl,k,rfl⟩
  go_wp2
  all_goals go_returns
  all_goals exact ⟨rfl,_,(On.start H.out).drewN _⟩
 ·rw [show (p.idle.poller != -1)=true by simp [hq]] at hp
  have hd:due=false:=by cases due <;> simp_all
  subst hd
  have HP:=Lib.hid hp
  clear h h8 hp hn hq e
  go_enter Tryz.func108,Tryz.ntmps108
  go_wp2_with fail
  refine HP.out.mono ?_
  rintro e w1 ⟨rfl,k,rfl⟩
  go_wp2
  all_goals go_returns
  all_goals exact ⟨rfl,_,(On.start H.out).drewN _⟩
theorem tell_yes {F:Fix} {V:Vol} {ow:Nat→Nat} {w:World} {p:Wd} (h:WAt F V ow w p) (k:Nat) (hk:p.idle.poller=(k:Int)) (hkM:k<p.M) :
  Calls Tryz.prog 108 #[.pointer (some ⟨F.W,0,none⟩),.bool true] w fun e w'=>e=.returned (.tuple #[])∧∃ ow',On F V ow w ow' w' (p.tell true):=by
 have e:p.tell true=({ p with idle:=(p.idle.leave k).1 }:Wd).swap (p.noteW k) 0 1:=by
  unfold Wd.tell;rw [if_pos ⟨by omega,rfl⟩,hk];rfl
 rw [e]
 have c12:=h.cW_idle
 have hM:=h.dim
 have hcap:=h.own_cap.2
 unfold dims at hM
 obtain ⟨mk,mw,h8⟩:=h.idle8
 have hp:=zcB h8
 rw [show (p.idle.poller != -1)=true by rw [hk,bne_iff_ne];omega,hk,show max (0:Int) (k:Int)=(k:Int) by omega] at hp
 have hl:=fun n=>leave_any k (((h8.drewN n)))
 have H:=Lib.hid h
 have HP:=Lib.hid hp
 have HL:=Lib.hid hl
 obtain ⟨sp,hsp⟩:∃ sp:Int,sp=((2*(p.P+2)+1:Nat):Int):=⟨_,rfl⟩
 have hsp2:((p.noteW k:Nat):Int)=sp+(k:Int):=by rw [hsp];unfold Wd.noteW;push_cast;omega
 have hsw:IntKind.i64.wrap (sp+(k:Int))=sp+(k:Int):=IntWalk.i64_in _ (by omega)
 have S1:=Lib.hid hsp
 have S2:=Lib.hid hsp2
 clear h h8 hp e hl hsp hsp2 hk
 go_enter Tryz.func108,Tryz.ntmps108
 go_wp2_with fail
 refine HP.out.mono ?_
 rintro e w1 ⟨rfl,n,rfl⟩
 go_wp2_with fail
 refine (HL.out n).mono ?_
 rintro e w1 ⟨rfl,hg,hm⟩
 have h1:=((On.start H.out).drewN n).idleH hg hm
 have c3:=h1.at_.cW_mem
 have c5:w1.cell? ⟨F.W,5,none⟩=some (.int .i64 sp):=h1.at_.cW_notes.trans (by rw [S1.out])
 have hw:=wake_on h1.drew.at_ (p.noteW k) (by show p.noteW k<nWords p.P p.M p.G;unfold Wd.noteW nWords;omega)
 rw [S2.out] at hw
 have HW:=Lib.hid hw
 have H1:=Lib.hid h1
 clear h1 hw hg hm
 go_wp2
 go_still_tail 10,(by kernel_rfl)
 change wpList _ _ _ _ _ w1.drew
 go_wp2_with fail
 refine HW.out.mono ?_
 rintro e w2 ⟨rfl,h2⟩
 go_wp2
 go_returns
 exact ⟨rfl,_,H1.out.drew.then_ h2⟩
end Go.Proofs.YtlmmjgekolpekaaGreatDoor
