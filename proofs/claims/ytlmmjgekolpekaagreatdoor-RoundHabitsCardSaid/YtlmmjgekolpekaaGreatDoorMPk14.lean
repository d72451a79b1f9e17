/- Parts of the proof. -/
import Derived.Test.YtlmmjgekolpekaaGreatDoorMPk13
set_option linter.unusedVariables false
set_option linter.unusedSimpArgs false
set_option linter.unusedSectionVars false
set_option maxRecDepth 100000
set_option maxHeartbeats 6400000
namespace Go.Proofs.YtlmmjgekolpekaaGreatDoor
open Go Go.RowKit Hst Go.Proofs
theorem zaV (k:Nat) (hk:k<31) (N:Nat) (w:World) (T:Tabs N w) :
  Calls Tryz.prog 173 #[.int .i64 k] w fun r w'=>(∃ s,r=.returned (.tuple #[.agg #[.string s,.int .i64 (lockK k:Nat)],.bool true]))∧Below w.heap.size w w':=by
 obtain ⟨s,c0,c1⟩:=T.places k hk
 have hlt:2<w.heap.size:=by have h1:=T.lt;have h2:=T.tzlt;have h3:=T.le;omega
 clear T
 go_enter Tryz.func173,Tryz.ntmps173
 go_wp2
 go_returns
 exact ⟨⟨s,rfl⟩,by go_grown⟩
def ringI (P:Nat) (q:Int):Int:=if 0≤q∧q<P then q+1 else -1
def lockI (P:Nat) (m:Mach):Int :=
 match lockK m.place with
 | 1=>0
 | 5=>(P:Int)+1
 | 2=>ringI P m.p
 | 4=>ringI P m.i
 | 3=>if 0≤m.i∧0≤m.p∧m.p<P then (m.p+m.i % P) % P+1 else -1
 | _=>-1
theorem zdF (P:Nat) (hP:P≤64) (q:Int) (w:World) :
  Calls Tryz.prog 174 #[.int .i64 q,.int .i64 P] w fun r w'=>r=.returned (.int .i64 (ringI P q))∧w'=w:=by
 by_cases h:0≤q∧q<P
 ·have e:ringI P q=q+1:=if_pos h
  rw [e]
  obtain ⟨h1,h2⟩:=h
  clear e
  go_enter Tryz.func174,Tryz.ntmps174
  go_wp2
  go_returns
  exact ⟨rfl,rfl⟩
 ·have e:ringI P q = -1:=if_neg h
  rw [e]
  clear e
  by_cases h0:q<0
  ·clear h
   go_enter Tryz.func174,Tryz.ntmps174
   go_wp2
   go_returns
   exact ⟨rfl,rfl⟩
  ·have h1:(P:Int)≤q:=by omega
   clear h
   go_enter Tryz.func174,Tryz.ntmps174
   go_wp2
   go_returns
   exact ⟨rfl,rfl⟩
theorem lockK_le (k:Nat):lockK k=0∨lockK k=1∨lockK k=2∨lockK k=3∨lockK k=4∨lockK k=5:=by
 unfold lockK;split <;> simp
theorem lock_0 (m:Mach) (r:Value) (P:Nat) (hP:1≤P∧P≤64) (hpl:m.place<31) (hk:lockK m.place=0) (N:Nat) (w:World) (T:Tabs N w) :
  Calls Tryz.prog 143 #[.agg (encM m r).toArray,.int .i64 P] w fun e w'=>e=.returned (.int .i64 (lockI P m))∧Below w.heap.size w w':=by
 obtain ⟨place,mp,mg,mnext,mgot,mtarget,mi,mspin,minn,mrest,mback,mafter,marg,mlkN,mlkS,mstage,mticket,mtimes⟩:=m
 simp only [encM] at *
 have ho:=fun w T=>zaV place hpl N w T
 simp only [hk] at ho
 have HO:=Lib.hid ho
 have hT:=Lib.hid T
 have el:lockI P ⟨place,mp,mg,mnext,mgot,mtarget,mi,mspin,minn,mrest,mback,mafter,marg,mlkN,mlkS,mstage,mticket,mtimes⟩ = -1:=by unfold lockI;simp only [hk]
 rw [el]
 clear ho T hk el
 obtain ⟨hP1,hP2⟩:=hP
 go_enter Tryz.func143,Tryz.ntmps143
 go_wp2_with fail
 refine (HO.out _ (hT.out.alloc _)).mono ?_
 rintro e w1 ⟨⟨s,rfl⟩,hb⟩
 have hx:=zaL hb
 have hb0:Below w.heap.size w w1:=((Below.refl _ w).alloc (Nat.le_refl _) _).trans (hb.mono (by simp))
 have hlt:=zaB hx
 clear hx hb HO
 go_wp2
 go_returns
 exact ⟨rfl,hb0.alloc (by omega) _⟩
theorem lock_1 (m:Mach) (r:Value) (P:Nat) (hP:1≤P∧P≤64) (hpl:m.place<31) (hk:lockK m.place=1) (N:Nat) (w:World) (T:Tabs N w) :
  Calls Tryz.prog 143 #[.agg (encM m r).toArray,.int .i64 P] w fun e w'=>e=.returned (.int .i64 (lockI P m))∧Below w.heap.size w w':=by
 obtain ⟨place,mp,mg,mnext,mgot,mtarget,mi,mspin,minn,mrest,mback,mafter,marg,mlkN,mlkS,mstage,mticket,mtimes⟩:=m
 simp only [encM] at *
 have ho:=fun w T=>zaV place hpl N w T
 simp only [hk] at ho
 have HO:=Lib.hid ho
 have hT:=Lib.hid T
 have el:lockI P ⟨place,mp,mg,mnext,mgot,mtarget,mi,mspin,minn,mrest,mback,mafter,marg,mlkN,mlkS,mstage,mticket,mtimes⟩=0:=by unfold lockI;simp only [hk]
 rw [el]
 clear ho T hk el
 obtain ⟨hP1,hP2⟩:=hP
 go_enter Tryz.func143,Tryz.ntmps143
 go_wp2_with fail
 refine (HO.out _ (hT.out.alloc _)).mono ?_
 rintro e w1 ⟨⟨s,rfl⟩,hb⟩
 have hx:=zaL hb
 have hb0:Below w.heap.size w w1:=((Below.refl _ w).alloc (Nat.le_refl _) _).trans (hb.mono (by simp))
 have hlt:=zaB hx
 clear hx hb HO
 go_wp2
 go_returns
 exact ⟨rfl,hb0.alloc (by omega) _⟩
theorem lock_5 (m:Mach) (r:Value) (P:Nat) (hP:1≤P∧P≤64) (hpl:m.place<31) (hk:lockK m.place=5) (N:Nat) (w:World) (T:Tabs N w) :
  Calls Tryz.prog 143 #[.agg (encM m r).toArray,.int .i64 P] w fun e w'=>e=.returned (.int .i64 (lockI P m))∧Below w.heap.size w w':=by
 obtain ⟨place,mp,mg,mnext,mgot,mtarget,mi,mspin,minn,mrest,mback,mafter,marg,mlkN,mlkS,mstage,mticket,mtimes⟩:=m
 simp only [encM] at *
 have ho:=fun w T=>zaV place hpl N w T
 simp only [hk] at ho
 have HO:=Lib.hid ho
 have hT:=Lib.hid T
 have el:lockI P ⟨place,mp,mg,mnext,mgot,mtarget,mi,mspin,minn,mrest,mback,mafter,marg,mlkN,mlkS,mstage,mticket,mtimes⟩=(P:Int)+1:=by unfold lockI;simp only [hk]
 rw [el]
 clear ho T hk el
 obtain ⟨hP1,hP2⟩:=hP
 go_enter Tryz.func143,Tryz.ntmps143
 go_wp2_with fail
 refine (HO.out _ (hT.out.alloc _)).mono ?_
 rintro e w1 ⟨⟨s,rfl⟩,hb⟩
 have hx:=zaL hb
 have hb0:Below w.heap.size w w1:=((Below.refl _ w).alloc (Nat.le_refl _) _).trans (hb.mono (by simp))
 have hlt:=zaB hx
 clear hx hb HO
 go_wp2
 go_returns
 exact ⟨rfl,hb0.alloc (by omega) _⟩
theorem lock_2 (m:Mach) (r:Value) (P:Nat) (hP:1≤P∧P≤64) (hpl:m.place<31) (hk:lockK m.place=2) (N:Nat) (w:World) (T:Tabs N w) :
  Calls Tryz.prog 143 #[.agg (encM m r).toArray,.int .i64 P] w fun e w'=>e=.returned (.int .i64 (lockI P m))∧Below w.heap.size w w':=by
 obtain ⟨place,mp,mg,mnext,mgot,mtarget,mi,mspin,minn,mrest,mback,mafter,marg,mlkN,mlkS,mstage,mticket,mtimes⟩:=m
 simp only [encM] at *
 have ho:=fun w T=>zaV place hpl N w T
 simp only [hk] at ho
 have HO:=Lib.hid ho
 have hT:=Lib.hid T
 have el:lockI P ⟨place,mp,mg,mnext,mgot,mtarget,mi,mspin,minn,mrest,mback,mafter,marg,mlkN,mlkS,mstage,mticket,mtimes⟩=ringI P mp:=by unfold lockI;simp only [hk]
 rw [el]
 clear ho T hk el
 have hr:=fun w=>zdF P hP.2 mp w
 have HR:=Lib.hid hr
 clear hr
 obtain ⟨hP1,hP2⟩:=hP
 go_enter Tryz.func143,Tryz.ntmps143
 go_wp2_with fail
 refine (HO.out _ (hT.out.alloc _)).mono ?_
 rintro e w1 ⟨⟨s,rfl⟩,hb⟩
 have hx:=zaL hb
 have hb0:Below w.heap.size w w1:=((Below.refl _ w).alloc (Nat.le_refl _) _).trans (hb.mono (by simp))
 have hlt:=zaB hx
 have c1:=zaa hx 1
 simp only [List.getElem?_toArray,List.getElem?_cons_zero,List.getElem?_cons_succ] at c1
 clear hx hb HO
 go_wp2_with fail
 refine (HR.out _).mono ?_
 rintro e w2 ⟨rfl,rfl⟩
 go_wp2
 go_returns
 exact ⟨rfl,hb0.alloc (by omega) _⟩
theorem lock_4 (m:Mach) (r:Value) (P:Nat) (hP:1≤P∧P≤64) (hpl:m.place<31) (hk:lockK m.place=4) (N:Nat) (w:World) (T:Tabs N w) :
  Calls Tryz.prog 143 #[.agg (encM m r).toArray,.int .i64 P] w fun e w'=>e=.returned (.int .i64 (lockI P m))∧Below w.heap.size w w':=by
 obtain ⟨place,mp,mg,mnext,mgot,mtarget,mi,mspin,minn,mrest,mback,mafter,marg,mlkN,mlkS,mstage,mticket,mtimes⟩:=m
 simp only [encM] at *
 have ho:=fun w T=>zaV place hpl N w T
 simp only [hk] at ho
 have HO:=Lib.hid ho
 have hT:=Lib.hid T
 have el:lockI P ⟨place,mp,mg,mnext,mgot,mtarget,mi,mspin,minn,mrest,mback,mafter,marg,mlkN,mlkS,mstage,mticket,mtimes⟩=ringI P mi:=by unfold lockI;simp only [hk]
 rw [el]
 clear ho T hk el
 have hr:=fun w=>zdF P hP.2 mi w
 have HR:=Lib.hid hr
 clear hr
 obtain ⟨hP1,hP2⟩:=hP
 go_enter Tryz.func143,Tryz.ntmps143
 go_wp2_with fail
 refine (HO.out _ (hT.out.alloc _)).mono ?_
 rintro e w1 ⟨⟨s,rfl⟩,hb⟩
 have hx:=zaL hb
 have hb0:Below w.heap.size w w1:=((Below.refl _ w).alloc (Nat.le_refl _) _).trans (hb.mono (by simp))
 have hlt:=zaB hx
 have c6:=zaa hx 6
 simp only [List.getElem?_toArray,List.getElem?_cons_zero,List.getElem?_cons_succ] at c6
 clear hx hb HO
 go_wp2_with fail
 refine (HR.out _).mono ?_
 rintro e w2 ⟨rfl,rfl⟩
 go_wp2
 go_returns
 exact ⟨rfl,hb0.alloc (by omega) _⟩
theorem lock_any (m:Mach) (r:Value) (P:Nat) (hP:1≤P∧P≤64) (hpl:m.place<31) (hne:lockK m.place≠3) (N:Nat) (w:World) (T:Tabs N w) :
  Calls Tryz.prog 143 #[.agg (encM m r).toArray,.int .i64 P] w fun e w'=>e=.returned (.int .i64 (lockI P m))∧Below w.heap.size w w':=by
 rcases lockK_le m.place with e | e | e | e | e | e
 ·exact lock_0 m r P hP hpl e N w T
 ·exact lock_1 m r P hP hpl e N w T
 ·exact lock_2 m r P hP hpl e N w T
 ·exact absurd e hne
 ·exact lock_4 m r P hP hpl e N w T
 ·exact lock_5 m r P hP hpl e N w T
def LockedOK (N:Nat) (p:Wd) (i k:Nat) (p':Wd):Prop:=∀ (F:Fix) (V:Vol) (ow:Nat→Nat) (w:World),WAt F V ow w p→Env N ow w →
 Calls Tryz.prog 144 #[.pointer (some ⟨F.W,0,none⟩),.int .i64 i,.int .i64 k] w fun e w'=>e=.returned (.tuple #[])∧∃ V' ow',On F V' ow w ow' w' p'
def zeD (kind act a x d:Int):Value:=.agg #[.int .u8 kind,.int .u8 act,.int .i64 a,.int .i64 x,.int .i64 d]
theorem zdf (N:Nat) {F:Fix} {V:Vol} {ow:Nat→Nat} {w:World} {p p':Wd} (h:WAt F V ow w p) (E:Env N ow w) (i:Nat) (hi:i<p.M) (hpl:(p.mach i).place<31) (h0:(p.mach i).place≠0) (h16:(p.mach i).place≠16) (hne:lockK (p.mach i).place≠3)
  (hk:(∃ k:Nat,lockI p.P (p.mach i)=k∧LockedOK N p i k p')∨(lockI p.P (p.mach i)<0∧BareOK N p i p')) (kind act x d:Int) :
  Calls Tryz.prog 107 #[.pointer (some ⟨F.W,0,none⟩),.agg #[.int .u8 kind,.int .u8 act,.int .i64 i,.int .i64 x,.int .i64 d]] w fun e w'=>e=.returned (.bool true)∧∃ V' ow',On F V' ow w ow' w' p':=by
 have hM:=h.dim
 have hcap:=h.own_cap.2
 unfold dims at hM
 have hi0:¬ (i:Int)<0:=by omega
 have hi1:¬ (p.M:Int)≤(i:Int):=by omega
 have hd0:decide ((i:Int)<0)=false:=by simp
 have hd1:decide ((p.M:Int)≤(i:Int))=false:=by simp;omega
 have h0':(((p.mach i).place:Int)==0)=false:=by rw [beq_eq_false_iff_ne];omega
 have h16':(((p.mach i).place:Int)==16)=false:=by rw [beq_eq_false_iff_ne];omega
 have hlock:=fun w T=>lock_any (p.mach i) (V.rest i) p.P ⟨hM.1,hM.2.1⟩ hpl hne N w T
 simp only [encM] at hlock
 have HL:=Lib.hid hlock
 have H:=Lib.hid h
 have HE:=Lib.hid E
 have HK:=Lib.hid hk
 clear h E hk hlock h0 h16 hne hpl
 go_enter Tryz.func107,Tryz.ntmps107
 go_wp2
 refine zaT (fun wb=>On F V ow w (grow ow w.heap.size 0) wb p∧wb.cell? ⟨w.heap.size,0,none⟩=some (.int .u8 kind)∧wb.cell? ⟨w.heap.size,1,none⟩=some (.int .u8 act)∧wb.cell? ⟨w.heap.size,2,none⟩=some (.int .i64 i)∧wb.cell? ⟨w.heap.size,3,none⟩=some (.int .i64 x)∧wb.cell? ⟨w.heap.size,4,none⟩=some (.int .i64 d))
  ⟨(On.start H.out).alloc _,by rw [zak];rfl,by rw [zak];rfl,by rw [zak];rfl,by rw [zak];rfl,by rw [zak];rfl⟩ ?_
 rintro wb ⟨h1,b0,b1,b2,b3,b4⟩
 have cM:=h1.at_.cW_F_M
 have cP:=h1.at_.cW_F_P
 have c13:=h1.at_.cW_all
 have a0:=h1.at_.cA_place hi
 have a1:=h1.at_.cA_p hi
 have a2:=h1.at_.cA_g hi
 have a3:=h1.at_.cA_next hi
 have a4:=h1.at_.cA_got hi
 have a5:=h1.at_.cA_target hi
 have a6:=h1.at_.cA_i hi
 have a7:=h1.at_.cA_spin hi
 have a8:=h1.at_.cA_inn hi
 have a9:=h1.at_.cA_rest hi
 have a10:=h1.at_.cA_back hi
 have a11:=h1.at_.cA_after hi
 have a12:=h1.at_.cA_arg hi
 have a13:=h1.at_.cA_lkN hi
 have a14:=h1.at_.cA_lkS hi
 have a15:=h1.at_.cA_stage hi
 have a16:=h1.at_.cA_ticket hi
 have a17:=h1.at_.cA_times hi
 have H1:=Lib.hid h1
 clear h1
 go_quiet (fail)
 go_wp2
 go_quiet (fail)
 go_wp2
 refine zaT (fun w2=>On F V ow w (grow ow w.heap.size 0) w2 p∧w2.cell? ⟨w.heap.size,2,none⟩=some (.int .i64 i)) ⟨H1.out.drewN _,b2⟩ ?_
 rintro w2 ⟨h2,d2⟩
 clear cM cP c13 b0 b1 b2 b3 b4 a0 a1 a2 a3 a4 a5 a6 a7 a8 a9 a10 a11 a12 a13 a14 a15 a16 a17
 have cP:=h2.at_.cW_F_P
 have a0:=h2.at_.cA_place hi
 have a1:=h2.at_.cA_p hi
 have a2:=h2.at_.cA_g hi
 have a3:=h2.at_.cA_next hi
 have a4:=h2.at_.cA_got hi
 have a5:=h2.at_.cA_target hi
 have a6:=h2.at_.cA_i hi
 have a7:=h2.at_.cA_spin hi
 have a8:=h2.at_.cA_inn hi
 have a9:=h2.at_.cA_rest hi
 have a10:=h2.at_.cA_back hi
 have a11:=h2.at_.cA_after hi
 have a12:=h2.at_.cA_arg hi
 have a13:=h2.at_.cA_lkN hi
 have a14:=h2.at_.cA_lkS hi
 have a15:=h2.at_.cA_stage hi
 have a16:=h2.at_.cA_ticket hi
 have a17:=h2.at_.cA_times hi
 have H2:=Lib.hid h2
 clear h2 H1 wb
 go_still_tail 8,(by kernel_rfl)
 change wpList _ _ _ _ _ w2.drew
 go_wp2_with fail
 refine (HL.out _ ((HE.out.on H2.out).on (On.start H2.out.at_).drew).tabs).mono ?_
 rintro e w3 ⟨rfl,hb⟩
 have d3:w3.cell? ⟨w.heap.size,2,none⟩=some (.int .i64 i):=(hb.cell (p:=⟨w.heap.size,2,none⟩) (World.block_lt_of_cell? w2 _ d2)).trans d2
 have h3:=H2.out.drew.below hb
 have H3:=Lib.hid h3
 clear h3 hb HL
 rcases HK.out with ⟨k,hk,hok⟩ | ⟨hk,hok⟩
 ·rw [hk]
  have HOK:=Lib.hid hok
  clear hk HK hok
  go_wp2_with fail
  refine (HOK.out _ _ _ _ H3.out.at_ (HE.out.on H3.out)).mono ?_
  rintro e w4 ⟨rfl,V4,ow4,h4⟩
  go_wp2
  go_returns
  exact ⟨rfl,_,_,H3.out.then_ h4⟩
 ·have HOK:=Lib.hid hok
  clear HK hok
  generalize lockI p.P (p.mach i)=lk at *
  go_wp2_with fail
  refine (HOK.out _ _ _ _ H3.out.at_ (HE.out.on H3.out)).mono ?_
  rintro e w4 ⟨rfl,V4,ow4,h4⟩
  go_wp2
  go_returns
  exact ⟨rfl,_,_,H3.out.then_ h4⟩
theorem step_pick {F:Fix} {V:Vol} {ow:Nat→Nat} {w:World} {p p':Wd} (h:WAt F V ow w p) (act a x d:Int) (ok:Bool)
  (hp:∀ w1 ow1,WAt F V ow1 w1 p→(∀ b,b<w.heap.size→ow1 b=ow b)→Agree (fun b=>ow b=0) w w1→Calls Tryz.prog 107 #[.pointer (some ⟨F.W,0,none⟩),.agg #[.int .u8 0,.int .u8 act,.int .i64 a,.int .i64 x,.int .i64 d]] w1 fun e w'=>e=.returned (.bool ok)∧∃ V' ow',On F V' ow1 w1 ow' w' p') :
  Calls Tryz.prog 59 #[.pointer (some ⟨F.W,0,none⟩),.agg #[.int .u8 0,.int .u8 act,.int .i64 a,.int .i64 x,.int .i64 d]] w fun e w'=>e=.returned (.bool ok)∧∃ V' ow',On F V' ow w ow' w' p':=by
 have h1:=(On.start h).alloc (.cells #[.int .u8 0,.int .u8 act,.int .i64 a,.int .i64 x,.int .i64 d] 94)
 have hq:=hp _ _ h1.at_ h1.st.own ⟨h1.st.size,h1.st.block⟩
 have HQ:=Lib.hid hq
 have H1:=Lib.hid h1
 clear h h1 hp hq
 go_enter Tryz.func59,Tryz.ntmps59
 go_wp2_with fail
 refine HQ.out.mono ?_
 rintro e w1 ⟨rfl,V1,ow1,h2⟩
 go_wp2
 go_returns
 exact ⟨rfl,_,_,H1.out.then_ h2⟩
def entV (e:Ent):Value:=.agg #[.int .i64 e.whenT,.int .u64 (e.order:Nat),.int .i64 e.g]
theorem cmp64_any (x y:Int) (w:World) :
  Calls Tryz.prog 239 #[.int .i64 x,.int .i64 y] w fun e w'=>e=.returned (.int .i64 (Lib.compareInt x y))∧w'=w:=by
 unfold Lib.compareInt
 go_enter Tryz.func239,Tryz.ntmps239
 go_wp2
 all_goals go_returns
 all_goals exact ⟨rfl,rfl⟩
theorem cmpU_any (x y:Nat) (w:World) :
  Calls Tryz.prog 240 #[.int .u64 x,.int .u64 y] w fun e w'=>e=.returned (.int .i64 (Lib.compareInt x y))∧w'=w:=by
 unfold Lib.compareInt
 go_enter Tryz.func240,Tryz.ntmps240
 go_wp2
 all_goals go_returns
 all_goals exact ⟨rfl,rfl⟩
def or3 (x y z:Int):Int:=if x=0 then (if y=0 then z else y) else x
theorem or3_any (g:Nat) (x y z:Int) (w:World) (c0:w.cell? ⟨g,0,none⟩=some (.int .i64 x)) (c1:w.cell? ⟨g,1,none⟩=some (.int .i64 y)) (c2:w.cell? ⟨g,2,none⟩=some (.int .i64 z)) :
  Calls Tryz.prog 238 #[.slice (some ⟨g,0,none⟩) 3 3] w fun e w'=>e=.returned (.int .i64 (or3 x y z))∧w'=w:=by
 by_cases hx:x=0
 ·subst hx
  by_cases hy:y=0
  ·subst hy
   by_cases hz:z=0
   ·subst hz
    go_enter Tryz.func238,Tryz.ntmps238
    go_wp2
    go_rounds 6
    all_goals go_returns
    all_goals exact ⟨rfl,rfl⟩
   ·have hz2:(z != 0)=true:=by simpa using hz
    go_enter Tryz.func238,Tryz.ntmps238
    go_wp2
    go_rounds 6
    all_goals go_returns
    all_goals exact ⟨rfl,rfl⟩
  ·have hy2:(y != 0)=true:=by simpa using hy
   have e:or3 0 y z=y:=by unfold or3;rw [if_pos rfl,if_neg hy]
   rw [e]
   clear e
   go_enter Tryz.func238,Tryz.ntmps238
   go_wp2
   go_rounds 6
   all_goals go_returns
   all_goals exact ⟨rfl,rfl⟩
 ·have hx2:(x != 0)=true:=by simpa using hx
  have e:or3 x y z=x:=by unfold or3;rw [if_neg hx]
  rw [e]
  clear e
  go_enter Tryz.func238,Tryz.ntmps238
  go_wp2
  go_rounds 6
  all_goals go_returns
  all_goals exact ⟨rfl,rfl⟩
def ordN (a b:Ent):Int:=or3 (Lib.compareInt a.whenT b.whenT) (Lib.compareInt (a.order:Nat) (b.order:Nat)) (Lib.compareInt a.g b.g)
theorem ordN_lt (a b:Ent):decide (ordN a b<0)=a.ahead b:=by
 rw [Bool.eq_iff_iff]
 unfold ordN or3 Lib.compareInt Ent.ahead
 simp only [decide_eq_true_eq,Bool.or_eq_true,Bool.and_eq_true,beq_iff_eq]
 rcases Int.lt_trichotomy a.whenT b.whenT with h | h | h <;> rcases Nat.lt_trichotomy a.order b.order with h2 | h2 | h2 <;> rcases Int.lt_trichotomy a.g b.g with h3 | h3 | h3 <;>
  (repeat rw [if_pos (by omega)]) <;> (repeat rw [if_neg (by omega)]) <;> grind
theorem order_ent (a b:Ent) (w:World) :
  Calls Tryz.prog 218 #[entV a,entV b] w fun e w'=>e=.returned (.int .i64 (ordN a b))∧Below w.heap.size w w':=by
 unfold entV ordN
 obtain ⟨x1,hx1⟩:∃ x,x=Lib.compareInt a.whenT b.whenT:=⟨_,rfl⟩
 obtain ⟨x2,hx2⟩:∃ x,x=Lib.compareInt (a.order:Nat) (b.order:Nat):=⟨_,rfl⟩
 obtain ⟨x3,hx3⟩:∃ x,x=Lib.compareInt a.g b.g:=⟨_,rfl⟩
 have h1:=fun w=>cmp64_any a.whenT b.whenT w
 have h2:=fun w=>cmpU_any a.order b.order w
 have h3:=fun w=>Tryz.cmp_Compare_int a.g b.g w
 rw [← hx1] at h1 ⊢
 rw [← hx2] at h2 ⊢
 rw [← hx3] at h3 ⊢
 have H1:=Lib.hid h1
 have H2:=Lib.hid h2
 have H3:=Lib.hid h3
 clear h1 h2 h3 hx1 hx2 hx3
 go_enter Tryz.func218,Tryz.ntmps218
 go_wp2
 refine zaT (fun wb=>Below w.heap.size w wb∧wb.heap.size=w.heap.size+2∧wb.heap[w.heap.size]?=some (.cells #[.int .i64 a.whenT,.int .u64 (a.order:Nat),.int .i64 a.g] 245 (0,0))∧wb.heap[w.heap.size+1]?=some (.cells #[.int .i64 b.whenT,.int .u64 (b.order:Nat),.int .i64 b.g] 245 (0,0)))
  ⟨((Below.refl _ w).alloc (Nat.le_refl _) _).alloc (by simp) _,by simp,(Below.heap_alloc _ _ _ (by simp)).trans (heap_alloc_new w _),by have:=heap_alloc_new (w.alloc (.cells #[.int .i64 a.whenT,.int .u64 (a.order:Nat),.int .i64 a.g] 245)) (.cells #[.int .i64 b.whenT,.int .u64 (b.order:Nat),.int .i64 b.g] 245);simpa using this⟩ ?_
 rintro wb ⟨hb,hsz,k1,k2⟩
 have k1:wb.drew.heap[w.heap.size]?=_:=k1
 have k2:wb.drew.heap[w.heap.size+1]?=_:=k2
 have hsz:wb.drew.heap.size=w.heap.size+2:=hsz
 have a0:wb.drew.cell? ⟨w.heap.size,0,none⟩=some (.int .i64 a.whenT):=zaa k1 0
 have a1:wb.drew.cell? ⟨w.heap.size,1,none⟩=some (.int .u64 (a.order:Nat)):=zaa k1 1
 have a2:wb.drew.cell? ⟨w.heap.size,2,none⟩=some (.int .i64 a.g):=zaa k1 2
 have b0:wb.drew.cell? ⟨w.heap.size+1,0,none⟩=some (.int .i64 b.whenT):=zaa k2 0
 have b1:wb.drew.cell? ⟨w.heap.size+1,1,none⟩=some (.int .u64 (b.order:Nat)):=zaa k2 1
 have b2:wb.drew.cell? ⟨w.heap.size+1,2,none⟩=some (.int .i64 b.g):=zaa k2 2
 have kA:∀ (o:Obj) (c:Nat) (k:Nat) (v:Value),c<wb.drew.heap.size→wb.drew.cell? ⟨c,k,none⟩=some v→(wb.alloc o).drew.cell? ⟨c,k,none⟩=some v:=fun o c k v hc e=>(World.cell?_of_block (a:=⟨c,k,none⟩) (Below.heap_alloc wb o c hc)).trans e
 have HA:=Lib.hid kA
 have kP:∀ T,Calls Tryz.prog 238 #[.slice (some ⟨w.heap.size+2,0,none⟩) 3 3] (wb.alloc (.cells #[.int .i64 x1,.int .i64 x2,.int .i64 x3] T)).drew fun e w'=>e=.returned (.int .i64 (or3 x1 x2 x3))∧w'=(wb.alloc (.cells #[.int .i64 x1,.int .i64 x2,.int .i64 x3] T)).drew:=fun T=>by
  have hz:wb.heap.size=w.heap.size+2:=hsz
  rw [← hz]
  exact or3_any wb.heap.size x1 x2 x3 _ (zak wb _ T 0) (zak wb _ T 1) (zak wb _ T 2)
 have HO:=Lib.hid kP
 have HB:=Lib.hid hb
 clear hb k1 k2 kA kP
 go_region_held3 (fun w'=>w'.cell? ⟨w.heap.size,0,none⟩=some (.int .i64 a.whenT)∧w'.cell? ⟨w.heap.size,1,none⟩=some (.int .u64 (a.order:Nat))∧w'.cell? ⟨w.heap.size,2,none⟩=some (.int .i64 a.g)∧w'.cell? ⟨w.heap.size+1,0,none⟩=some (.int .i64 b.whenT)∧w'.cell? ⟨w.heap.size+1,1,none⟩=some (.int .u64 (b.order:Nat))∧w'.cell? ⟨w.heap.size+1,2,none⟩=some (.int .i64 b.g))
  (first | with_reducible exact ⟨a0,a1,a2,b0,b1,b2⟩ | with_reducible exact ⟨HA.out _ _ _ _ (by omega) a0,HA.out _ _ _ _ (by omega) a1,HA.out _ _ _ _ (by omega) a2,HA.out _ _ _ _ (by omega) b0,HA.out _ _ _ _ (by omega) b1,HA.out _ _ _ _ (by omega) b2⟩)
  (first | (go_at_call 239;refine (H1.out _).mono ?_;rintro e w1 ⟨rfl,hw⟩;have hw:=hw.symm;subst hw) | (go_at_call 240;refine (H2.out _).mono ?_;rintro e w1 ⟨rfl,hw⟩;have hw:=hw.symm;subst hw) | (go_at_call 241;refine (H3.out _).mono ?_;rintro e w1 ⟨rfl,hw⟩;have hw:=hw.symm;subst hw) | (go_at_call 238;refine (HO.out _).mono ?_;rintro e w1 ⟨rfl,hw⟩;have hw:=hw.symm;subst hw))
 all_goals go_wp2
 all_goals go_returns
 all_goals exact ⟨rfl,(HB.out.alloc (by have:=HB.out.size;exact this) _).drew⟩
theorem zco (a b:Ent) (w:World) :
  Calls Tryz.prog 192 #[entV a,entV b] w fun e w'=>e=.returned (.bool (a.ahead b))∧Below w.heap.size w w':=by
 have h:=fun w=>order_ent a b w
 have HO:=Lib.hid h
 rw [← ordN_lt]
 unfold entV at *
 obtain ⟨n,hn⟩:∃ n,n=ordN a b:=⟨_,rfl⟩
 rw [← hn] at h ⊢
 have HO:=Lib.hid h
 clear h hn
 go_enter Tryz.func192,Tryz.ntmps192
 go_wp2_with fail
 refine (HO.out _).mono ?_
 rintro e w1 ⟨rfl,hb⟩
 go_wp2
 all_goals go_returns
 all_goals exact ⟨by first | rfl | simp_all,(((Below.refl _ w).alloc (Nat.le_refl _) _).alloc (by simp) _).trans (hb.mono (by simp;omega))⟩
theorem zaP (e:Ent) (t:List Ent):zeg (e :: t)=zeI e++zeg t:=rfl
theorem zb2 (l:List Ent) (j k:Nat) (hj:j<l.length) (hk:k<3):(zeg l)[j*3+k]?=(zeI (l.getD j ent0))[k]?:=by
 induction l generalizing j with
 | nil=>simp at hj
 | cons e t ih =>
  rw [zaP]
  cases j with
  | zero=>rw [List.getElem?_append_left (by simp [zeI];omega)];simp
  | succ j =>
   rw [List.getElem?_append_right (by simp [zeI];omega)]
   have:(j+1)*3+k - (zeI e).length=j*3+k:=by simp [zeI];omega
   rw [this,ih j (by simpa using hj)];simp
theorem encEnts_set (l:List Ent) (j:Nat) (x:Ent) (hj:j<l.length):zeg (l.set j x)=(((zeg l).set (j*3) (.int .i64 x.whenT)).set (j*3+1) (.int .u64 (x.order:Nat))).set (j*3+2) (.int .i64 x.g):=by
 induction l generalizing j with
 | nil=>simp at hj
 | cons e t ih =>
  cases j with
  | zero=>simp [zaP,zeI]
  | succ j =>
   rw [List.set_cons_succ,zaP,zaP,ih j (by simpa using hj)]
   have e1:(j+1)*3=3+j*3:=by omega
   rw [e1]
   simp only [zeI,List.cons_append,List.nil_append,show 3+j*3+1=(j*3+1)+3 by omega,show 3+j*3+2=(j*3+2)+3 by omega,show 3+j*3=j*3+3 by omega,List.set_cons_succ]
def RowE (w:World) (g cap:Nat) (l:List Ent):Prop:=w.ownsRow 0 245 3 (.slice (some ⟨g,0,none⟩) l.length cap) l.length (zeg l)
theorem RowE.get {w:World} {g cap:Nat} {l:List Ent} (h:RowE w g cap l) (j:Nat) (hj:j<l.length) :
  w.cell? ⟨g,j*3,none⟩=some (.int .i64 (l.getD j ent0).whenT)∧w.cell? ⟨g,j*3+1,none⟩=some (.int .u64 ((l.getD j ent0).order:Nat))∧w.cell? ⟨g,j*3+2,none⟩=some (.int .i64 (l.getD j ent0).g):=by
 unfold RowE at h
 refine ⟨?_,?_,?_⟩
 ·rw [h.cellAt (j*3) (by omega)];exact zb2 l j 0 hj (by decide)
 ·rw [h.cellAt (j*3+1) (by omega)];exact zb2 l j 1 hj (by decide)
 ·rw [h.cellAt (j*3+2) (by omega)];exact zb2 l j 2 hj (by decide)
theorem RowE.fr {w:World} {g cap:Nat} {l:List Ent} (h:RowE w g cap l) (o:Nat):w.frozen? ⟨g,o,none⟩=false:=World.ownsRow.frozenAt h o
theorem RowE.set {w:World} {g cap:Nat} {l:List Ent} (h:RowE w g cap l) (j:Nat) (hj:j<l.length) (x:Ent) :
  RowE (((w.setCell ⟨g,j*3,none⟩ (.int .i64 x.whenT)).setCell ⟨g,j*3+1,none⟩ (.int .u64 (x.order:Nat))).setCell ⟨g,j*3+2,none⟩ (.int .i64 x.g)) g cap (l.set j x):=by
 unfold RowE at *
 have h1:=(World.ownsRow.stored (World.ownsRow.stored (World.ownsRow.stored h (j*3) (.int .i64 x.whenT)).1 (j*3+1) (.int .u64 (x.order:Nat))).1 (j*3+2) (.int .i64 x.g)).1
 rw [List.length_set,encEnts_set l j x hj]
 exact h1
def upE:Nat→List Ent→Nat→List Ent
 | 0,l,_=>l
 | f+1,l,i=>if i=0 then l else if (l.getD i ent0).ahead (l.getD ((i - 1) / 4) ent0) then upE f ((l.set i (l.getD ((i - 1) / 4) ent0)).set ((i - 1) / 4) (l.getD i ent0)) ((i - 1) / 4) else l
theorem upE_fuel:∀ (f:Nat) (l:List Ent) (i:Nat),i+1≤f→upE f l i=upE (i+1) l i
 | 0,_,_,h=>by omega
 | f+1,l,i,h=>by
  show (if i=0 then l else _)=(if i=0 then l else _)
  by_cases hi:i=0
  ·rw [if_pos hi,if_pos hi]
  ·rw [if_neg hi,if_neg hi]
   by_cases ha:(l.getD i ent0).ahead (l.getD ((i - 1) / 4) ent0)=true
   ·rw [if_pos ha,if_pos ha,upE_fuel f _ _ (by omega),← upE_fuel i _ ((i - 1) / 4) (by omega)]
   ·rw [if_neg ha,if_neg ha]
theorem RowE.same {w w':World} {g cap:Nat} {l:List Ent} (h:RowE w g cap l) (e:w'.heap[g]?=w.heap[g]?):RowE w' g cap l:=by
 unfold RowE World.ownsRow at *
 refine ⟨h.1,?_⟩
 rcases h.2 with h2 | ⟨g',c,cur,a1,a2,a3,a4⟩
 ·exact .inl h2
 ·have e2:g=g':=by
   simp only [Value.slice.injEq,Option.some.injEq,Addr.mk.injEq] at a1;exact a1.1.1
  subst e2
  exact .inr ⟨g,c,cur,a1,a2,e.trans a3,a4⟩
theorem RowE.drew {w:World} {g cap:Nat} {l:List Ent} (h:RowE w g cap l):RowE w.drew g cap l:=h.same rfl
theorem Mod.then_below {S:Nat→Prop} {w w1 w2:World} (h:Mod S w w1) {n:Nat} (hb:Below n w1 w2) (hn:w1.heap.size≤n):Mod S w w2 :=
 ⟨hb.os.trans h.os,hb.tape.trans h.tape,hb.output.trans h.output,Nat.le_trans h.size hb.size,fun x hx hs=>(hb.block x (by have:=h.size;omega)).trans (h.block x hx hs)⟩
theorem up_any (b k g cap i:Nat) (l:List Ent) (w:World) (hi:i<l.length) (hbig:l.length≤65536) (hg:g≠b)
  (c0:w.cell? ⟨b,k,none⟩=some (.slice (some ⟨g,0,none⟩) l.length cap)) (h:RowE w g cap l) :
  Calls Tryz.prog 262 #[.pointer (some ⟨b,k,none⟩),.int .i64 i] w fun e w'=>e=.returned (.tuple #[])∧RowE w' g cap (upE (i+1) l i)∧Mod (·=g) w w':=by
 obtain ⟨R,hR⟩:∃ R,R=upE (i+1) l i:=⟨_,rfl⟩
 rw [← hR]
 obtain ⟨n,hn⟩:∃ n,n=l.length:=⟨_,rfl⟩
 rw [← hn] at c0 hi hbig
 have HR:=Lib.hid hR
 have HN:=Lib.hid hn
 have H:=Lib.hid h
 have lb:=World.block_lt_of_cell? w _ c0
 simp only at lb
 clear h hR hn
 go_enter Tryz.func262,Tryz.ntmps262
 go_wp2
 go_loopw [1,4] (fun iv pv wr=>∃ (j:Nat) (l':List Ent),iv=.int .i64 j∧j<n∧l'.length=n∧R=upE (j+1) l' j∧RowE wr g cap l'∧Mod (·=g) w wr) (fun iv _ _=>(intOf iv).toNat)
 case atStart=>exact ⟨i,l,rfl,hi,HN.out.symm,HR.out,H.out,Mod.refl _ _⟩
 case round =>
  obtain ⟨j,l',rfl,hj,hl',hr,hrow,hmod⟩:=hrel
  have d0:wr.cell? ⟨b,k,none⟩=some (.slice (some ⟨g,0,none⟩) n cap):=(World.cell?_of_block (a:=⟨b,k,none⟩) (hmod.block b lb (Ne.symm hg))).trans c0
  have ldb:b<wr.heap.size:=Nat.lt_of_lt_of_le lb hmod.size
  by_cases hj0:j=0
  ·subst hj0
   have e:R=l':=hr
   subst e
   have HRow:=Lib.hid hrow
   have HMod:=Lib.hid hmod
   clear hrow hmod hr
   go_wp2
   go_returns
   exact ⟨rfl,HRow.out,HMod.out⟩
  ·obtain ⟨q,hq⟩:∃ q,q=(j - 1) / 4:=⟨_,rfl⟩
   have hqj:q<j:=by omega
   have hpos:(0:Int)<(j:Int):=by omega
   have t1:IntKind.i64.wrap ((j:Int) - 1)=(j:Int) - 1:=IntWalk.i64_in _ (by omega)
   have t2:((j:Int) - 1).tdiv 4=(q:Int):=by rw [Int.tdiv_eq_ediv_of_nonneg (by omega)];omega
   have t2':((j:Int) - 1) / 4=(q:Int):=by omega
   have t3:IntKind.i64.wrap (((j:Int) - 1).tdiv 4)=(q:Int):=by rw [t2];exact IntWalk.i64_in _ (by omega)
   have t4:IntKind.i64.wrap (q:Int)=(q:Int):=IntWalk.i64_in _ (by omega)
   have hjn:(j:Int)<(n:Int):=by omega
   have hqn:(q:Int)<(n:Int):=by omega
   rw [← hl'] at hj
   obtain ⟨x0,x1,x2⟩:=hrow.get j hj
   obtain ⟨y0,y1,y2⟩:=hrow.get q (by omega)
   have fg:=hrow.fr
   rw [hl'] at hj
   have lg:=World.block_lt_of_cell? wr _ x0
   simp only at lg
   have hr2:R=if (l'.getD j ent0).ahead (l'.getD q ent0) then upE j ((l'.set j (l'.getD q ent0)).set q (l'.getD j ent0)) q else l':=by
    rw [hr,hq];show (if j=0 then _ else _)=_;rw [if_neg hj0]
   have hA:=fun w=>zco (l'.getD j ent0) (l'.getD q ent0) w
   generalize l'.getD j ent0=ej at *
   generalize l'.getD q ent0=eq at *
   have HA:=Lib.hid hA
   have HRow:=Lib.hid hrow
   have HMod:=Lib.hid hmod
   have HR2:=Lib.hid hr2
   have HQ:=Lib.hid hq
   have HL:=Lib.hid hl'
   clear hA hrow hmod hr2 hr hq hl' hj0
   unfold entV at HA
   cases hah:ej.ahead eq
   ·rw [hah] at HA
    go_wp2
    go_region_held3 (fun w'=>w'.cell? ⟨b,k,none⟩=some (.slice (some ⟨g,0,none⟩) n cap)∧w'.cell? ⟨g,j*3,none⟩=some (.int .i64 ej.whenT)∧w'.cell? ⟨g,j*3+1,none⟩=some (.int .u64 (ej.order:Nat))∧w'.cell? ⟨g,j*3+2,none⟩=some (.int .i64 ej.g)∧w'.cell? ⟨g,q*3,none⟩=some (.int .i64 eq.whenT)∧w'.cell? ⟨g,q*3+1,none⟩=some (.int .u64 (eq.order:Nat))∧w'.cell? ⟨g,q*3+2,none⟩=some (.int .i64 eq.g))
     (first | exact ⟨d0,x0,x1,x2,y0,y1,y2⟩ | exact ⟨z,z0,z1,z2,z3,z4,z5⟩)
     (first | (go_at_call 192;refine (HA.out _).mono ?_;rintro e w1 ⟨rfl,hb⟩;have z:=(hb.cell (p:=⟨b,k,none⟩) ldb).trans d0;have z0:=(hb.cell (p:=⟨g,j*3,none⟩) lg).trans x0;have z1:=(hb.cell (p:=⟨g,j*3+1,none⟩) lg).trans x1;have z2:=(hb.cell (p:=⟨g,j*3+2,none⟩) lg).trans x2;have z3:=(hb.cell (p:=⟨g,q*3,none⟩) lg).trans y0;have z4:=(hb.cell (p:=⟨g,q*3+1,none⟩) lg).trans y1;have z5:=(hb.cell (p:=⟨g,q*3+2,none⟩) lg).trans y2))
    go_wp2
    go_returns
    have hlb:=hb
    have hRR:=HR2.out
    rw [hah,if_neg (by decide)] at hRR
    rw [hRR]
    exact ⟨rfl,HRow.out.same (hb.block g lg),HMod.out.drew.then_below hb (Nat.le_refl _)⟩
   ·rw [hah] at HA
    go_wp2
    go_region_held3 (fun w'=>w'.cell? ⟨b,k,none⟩=some (.slice (some ⟨g,0,none⟩) n cap)∧w'.cell? ⟨g,j*3,none⟩=some (.int .i64 ej.whenT)∧w'.cell? ⟨g,j*3+1,none⟩=some (.int .u64 (ej.order:Nat))∧w'.cell? ⟨g,j*3+2,none⟩=some (.int .i64 ej.g)∧w'.cell? ⟨g,q*3,none⟩=some (.int .i64 eq.whenT)∧w'.cell? ⟨g,q*3+1,none⟩=some (.int .u64 (eq.order:Nat))∧w'.cell? ⟨g,q*3+2,none⟩=some (.int .i64 eq.g))
     (first | exact ⟨d0,x0,x1,x2,y0,y1,y2⟩ | exact ⟨z,z0,z1,z2,z3,z4,z5⟩)
     (first | (go_at_call 192;refine (HA.out _).mono ?_;rintro e w1 ⟨rfl,hb⟩;have z:=(hb.cell (p:=⟨b,k,none⟩) ldb).trans d0;have z0:=(hb.cell (p:=⟨g,j*3,none⟩) lg).trans x0;have z1:=(hb.cell (p:=⟨g,j*3+1,none⟩) lg).trans x1;have z2:=(hb.cell (p:=⟨g,j*3+2,none⟩) lg).trans x2;have z3:=(hb.cell (p:=⟨g,q*3,none⟩) lg).trans y0;have z4:=(hb.cell (p:=⟨g,q*3+1,none⟩) lg).trans y1;have z5:=(hb.cell (p:=⟨g,q*3+2,none⟩) lg).trans y2))
    have hrow2:=HRow.out.same (hb.block g lg)
    have hmod2:=HMod.out.drew.then_below hb (Nat.le_refl _)
    have fg2:=hrow2.fr
    have HRow2:=Lib.hid hrow2
    have HMod2:=Lib.hid hmod2
    clear HRow HMod hb d0 x0 x1 x2 y0 y1 y2 fg hrow2 hmod2
    go_wp2
    go_region
    go_wp2
    have hRR:=HR2.out
    rw [hah,if_pos rfl] at hRR
    have hR3:R=upE (q+1) ((l'.set j eq).set q ej) q:=by rw [hRR,upE_fuel j ((l'.set j eq).set q ej) q hqj]
    have hlen:((l'.set j eq).set q ej).length=n:=by rw [List.length_set,List.length_set];exact HL.out
    have hq2:q<n:=by omega
    have hm:(intOf (.int .i64 (q:Int))).toNat<(intOf (.int .i64 (j:Int))).toNat:=by show (q:Int).toNat<(j:Int).toNat;rw [Int.toNat_natCast,Int.toNat_natCast];exact hqj
    have h2:=((HRow2.out.set j (by rw [HL.out];exact hj) eq).set q (by rw [List.length_set,HL.out];omega) ej)
    refine ⟨⟨q,(l'.set j eq).set q ej,rfl,hq2,hlen,hR3,h2.drew,?_⟩,hm⟩
    exact ((((((HMod2.out.setCell (.inl rfl) _).setCell (.inl rfl) _).setCell (.inl rfl) _).setCell (.inl rfl) _).setCell (.inl rfl) _).setCell (.inl rfl) _).drew
def bestE (l:List Ent):Nat→Nat→Nat→Nat
 | 0,_,best=>best
 | f+1,k,best=>bestE l f (k+1) (if (l.getD k ent0).ahead (l.getD best ent0) then k else best)
theorem bestE_lt (l:List Ent) (m:Nat):∀ (f k best:Nat),k+f≤m→best<m→bestE l f k best<m
 | 0,_,_,_,h=>h
 | f+1,k,best,hk,h=>by
  show bestE l f (k+1) _<m
  refine bestE_lt l m f (k+1) _ (by omega) ?_
  split <;> omega
theorem least_any (b kk g cap i:Nat) (l:List Ent) (w:World) (hi:4*i+1<l.length) (hbig:l.length≤65536)
  (c0:w.cell? ⟨b,kk,none⟩=some (.slice (some ⟨g,0,none⟩) l.length cap)) (h:RowE w g cap l) :
  Calls Tryz.prog 258 #[.pointer (some ⟨b,kk,none⟩),.int .i64 i] w fun e w'=>e=.returned (.int .i64 (bestE l (min (4*i+5) l.length - (4*i+1)) (4*i+1) (4*i+1):Nat))∧Below w.heap.size w w':=by
 obtain ⟨n,hn⟩:∃ n,n=l.length:=⟨_,rfl⟩
 rw [← hn] at c0 hi hbig ⊢
 obtain ⟨m,hm⟩:∃ m,m=min (4*i+5) n:=⟨_,rfl⟩
 rw [← hm]
 obtain ⟨f,hf⟩:∃ f,f=4*i+1:=⟨_,rfl⟩
 rw [← hf] at hi ⊢
 obtain ⟨R,hR⟩:∃ R,R=bestE l (m - f) f f:=⟨_,rfl⟩
 rw [← hR]
 have hmn:m≤n:=by omega
 have hfm:f<m:=by omega
 have t1:IntKind.i64.wrap (4*(i:Int))=4*(i:Int):=IntWalk.i64_in _ (by omega)
 have t2:IntKind.i64.wrap (4*(i:Int)+1)=(f:Int):=by rw [show 4*(i:Int)+1=(f:Int) by omega];exact IntWalk.i64_in _ (by omega)
 have t3:IntKind.i64.wrap ((f:Int)+4)=(f:Int)+4:=IntWalk.i64_in _ (by omega)
 have t4:min ((f:Int)+4) (n:Int)=(m:Int):=by omega
 have hrow:∀ j,j<n→w.cell? ⟨g,j*3,none⟩=some (.int .i64 (l.getD j ent0).whenT)∧w.cell? ⟨g,j*3+1,none⟩=some (.int .u64 ((l.getD j ent0).order:Nat))∧w.cell? ⟨g,j*3+2,none⟩=some (.int .i64 (l.getD j ent0).g):=fun j hj=>h.get j (by omega)
 have lb:=World.block_lt_of_cell? w _ c0
 have lg:=World.block_lt_of_cell? w _ (hrow f (by omega)).1
 simp only at lb lg
 have HRow:=Lib.hid hrow
 have HR:=Lib.hid hR
 have HN:=Lib.hid hn
 have HM:=Lib.hid hm
 have HF:=Lib.hid hf
 clear hrow hR hn h hm hf
 go_enter Tryz.func258,Tryz.ntmps258
 go_wp2
 go_loopw [6,7] (fun bv kv wr=>∃ (k best:Nat),kv=.int .i64 k∧bv=.int .i64 best∧k≤m∧best<m∧R=bestE l (m - k) k best∧Below w.heap.size w wr) (fun _ kv _=>m - (intOf kv).toNat)
 case atStart=>exact ⟨f,f,rfl,rfl,by omega,hfm,HR.out,Below.refl _ _⟩
 case round =>
  obtain ⟨k,best,rfl,rfl,hk,hbest,hr,hb⟩:=hrel
  have d0:wr.cell? ⟨b,kk,none⟩=some (.slice (some ⟨g,0,none⟩) n cap):=(hb.cell (p:=⟨b,kk,none⟩) lb).trans c0
  have ldb:b<wr.heap.size:=Nat.lt_of_lt_of_le lb hb.size
  have ldg:g<wr.heap.size:=Nat.lt_of_lt_of_le lg hb.size
  by_cases hkm:k<m
  ·have hkI:(k:Int)<(m:Int):=by omega
   have hkn:(k:Int)<(n:Int):=by omega
   have hbn:(best:Int)<(n:Int):=by omega
   have t5:IntKind.i64.wrap ((k:Int)+1)=((k+1:Nat):Int):=by rw [show (k:Int)+1=((k+1:Nat):Int) by omega];exact IntWalk.i64_in _ (by omega)
   obtain ⟨x0',x1',x2'⟩:=HRow.out k (by omega)
   obtain ⟨y0',y1',y2'⟩:=HRow.out best (by omega)
   have x0:=(hb.cell (p:=⟨g,k*3,none⟩) lg).trans x0'
   have x1:=(hb.cell (p:=⟨g,k*3+1,none⟩) lg).trans x1'
   have x2:=(hb.cell (p:=⟨g,k*3+2,none⟩) lg).trans x2'
   have y0:=(hb.cell (p:=⟨g,best*3,none⟩) lg).trans y0'
   have y1:=(hb.cell (p:=⟨g,best*3+1,none⟩) lg).trans y1'
   have y2:=(hb.cell (p:=⟨g,best*3+2,none⟩) lg).trans y2'
   have hr2:R=bestE l (m - (k+1)) (k+1) (if (l.getD k ent0).ahead (l.getD best ent0) then k else best):=by
    rw [hr,show m - k=(m - (k+1))+1 by omega];rfl
   have hA:=fun w=>zco (l.getD k ent0) (l.getD best ent0) w
   clear x0' x1' x2' y0' y1' y2' hr
   generalize l.getD k ent0=ej at *
   generalize l.getD best ent0=eq at *
   have HA:=Lib.hid hA
   have HR2:=Lib.hid hr2
   have HB:=Lib.hid hb
   clear hA hr2 hb
   unfold entV at HA
   cases hah:ej.ahead eq
   ·rw [hah] at HA
    go_wp2
    go_region_held3 (fun w'=>w'.cell? ⟨b,kk,none⟩=some (.slice (some ⟨g,0,none⟩) n cap)∧w'.cell? ⟨g,k*3,none⟩=some (.int .i64 ej.whenT)∧w'.cell? ⟨g,k*3+1,none⟩=some (.int .u64 (ej.order:Nat))∧w'.cell? ⟨g,k*3+2,none⟩=some (.int .i64 ej.g)∧w'.cell? ⟨g,best*3,none⟩=some (.int .i64 eq.whenT)∧w'.cell? ⟨g,best*3+1,none⟩=some (.int .u64 (eq.order:Nat))∧w'.cell? ⟨g,best*3+2,none⟩=some (.int .i64 eq.g))
     (first | exact ⟨d0,x0,x1,x2,y0,y1,y2⟩ | exact ⟨z,z0,z1,z2,z3,z4,z5⟩)
     (first | (go_at_call 192;refine (HA.out _).mono ?_;rintro e w1 ⟨rfl,hb⟩;have z:=(hb.cell (p:=⟨b,kk,none⟩) ldb).trans d0;have z0:=(hb.cell (p:=⟨g,k*3,none⟩) ldg).trans x0;have z1:=(hb.cell (p:=⟨g,k*3+1,none⟩) ldg).trans x1;have z2:=(hb.cell (p:=⟨g,k*3+2,none⟩) ldg).trans x2;have z3:=(hb.cell (p:=⟨g,best*3,none⟩) ldg).trans y0;have z4:=(hb.cell (p:=⟨g,best*3+1,none⟩) ldg).trans y1;have z5:=(hb.cell (p:=⟨g,best*3+2,none⟩) ldg).trans y2))
    go_wp2
    have hRR:=HR2.out
    rw [hah,if_neg (by decide)] at hRR
    refine ⟨⟨k+1,best,rfl,rfl,by omega,hbest,hRR,HB.out.drew.trans (hb.mono HB.out.drew.size)⟩,?_⟩
    show m - ((k+1:Nat):Int).toNat<m - (k:Int).toNat
    rw [Int.toNat_natCast,Int.toNat_natCast];omega
   ·rw [hah] at HA
    go_wp2
    go_region_held3 (fun w'=>w'.cell? ⟨b,kk,none⟩=some (.slice (some ⟨g,0,none⟩) n cap)∧w'.cell? ⟨g,k*3,none⟩=some (.int .i64 ej.whenT)∧w'.cell? ⟨g,k*3+1,none⟩=some (.int .u64 (ej.order:Nat))∧w'.cell? ⟨g,k*3+2,none⟩=some (.int .i64 ej.g)∧w'.cell? ⟨g,best*3,none⟩=some (.int .i64 eq.whenT)∧w'.cell? ⟨g,best*3+1,none⟩=some (.int .u64 (eq.order:Nat))∧w'.cell? ⟨g,best*3+2,none⟩=some (.int .i64 eq.g))
     (first | exact ⟨d0,x0,x1,x2,y0,y1,y2⟩ | exact ⟨z,z0,z1,z2,z3,z4,z5⟩)
     (first | (go_at_call 192;refine (HA.out _).mono ?_;rintro e w1 ⟨rfl,hb⟩;have z:=(hb.cell (p:=⟨b,kk,none⟩) ldb).trans d0;have z0:=(hb.cell (p:=⟨g,k*3,none⟩) ldg).trans x0;have z1:=(hb.cell (p:=⟨g,k*3+1,none⟩) ldg).trans x1;have z2:=(hb.cell (p:=⟨g,k*3+2,none⟩) ldg).trans x2;have z3:=(hb.cell (p:=⟨g,best*3,none⟩) ldg).trans y0;have z4:=(hb.cell (p:=⟨g,best*3+1,none⟩) ldg).trans y1;have z5:=(hb.cell (p:=⟨g,best*3+2,none⟩) ldg).trans y2))
    go_wp2
    have hRR:=HR2.out
    rw [hah,if_pos rfl] at hRR
    refine ⟨⟨k+1,k,rfl,rfl,by omega,hkm,hRR,HB.out.drew.trans (hb.mono HB.out.drew.size)⟩,?_⟩
    show m - ((k+1:Nat):Int).toNat<m - (k:Int).toNat
    rw [Int.toNat_natCast,Int.toNat_natCast];omega
  ·have hkI:¬ (k:Int)<(m:Int):=by omega
   have e:R=best:=by rw [hr,show m - k=0 by omega];rfl
   subst e
   have HB:=Lib.hid hb
   clear hb hr
   go_wp2
   go_returns
   exact ⟨rfl,HB.out⟩
end Go.Proofs.YtlmmjgekolpekaaGreatDoor
