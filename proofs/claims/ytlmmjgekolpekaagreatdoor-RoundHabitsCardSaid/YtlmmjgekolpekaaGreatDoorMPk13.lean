/- Parts of the proof. -/
import Derived.Test.YtlmmjgekolpekaaGreatDoorMPk12
import Derived.BigRegion
set_option linter.unusedVariables false
set_option linter.unusedSimpArgs false
set_option linter.unusedSectionVars false
set_option maxRecDepth 100000
set_option maxHeartbeats 6400000
namespace Go.Proofs.YtlmmjgekolpekaaGreatDoor
open Go Go.RowKit Hst Go.Proofs
def ThenOK (N:Nat) (p:Wd) (i:Nat) (p':Wd):Prop:=∀ (F:Fix) (V:Vol) (ow:Nat→Nat) (w:World),WAt F V ow w p→Env N ow w →
 Calls Tryz.prog 179 #[.pointer (some ⟨F.W,0,none⟩),.int .i64 i] w fun e w'=>e=.returned (.tuple #[])∧∃ V' ow',On F V' ow w ow' w' p'
theorem zaT {P:Program} {c:Code} {Q:Exit→Act→World→Prop} {a:Act} {w:World} (R:World→Prop) (h:R w) (k:∀ w2,R w2→Code.wp P c Q a w2):Code.wp P c Q a w:=k w h
theorem zcc {ow:Nat→Nat} {b:Nat} (s:Nat) (h:ow b=0):grow ow s 0 b=0:=by
 unfold grow;split
 ·exact h
 ·rfl
def StepOK (N:Nat) (p:Wd) (i:Nat) (p':Wd) (over:Bool):Prop:=∀ (F:Fix) (V:Vol) (ow:Nat→Nat) (w:World) (bw bi:Nat),WAt F V ow w p→Env N ow w →
 w.cell? ⟨bw,0,none⟩=some (.pointer (some ⟨F.W,0,none⟩))→w.cell? ⟨bi,0,none⟩=some (.int .i64 i) →
 Calls Tryz.prog 176 #[.pointer (some ⟨F.all,i*18+13,none⟩),.pointer (some ⟨F.mem,0,none⟩),.func (.func 177) #[] #[.pointer (some ⟨bw,0,none⟩),.pointer (some ⟨bi,0,none⟩)]] w fun e w' =>
  e=.returned (.bool over)∧∃ V' ow',On F V' ow w ow' w' p'
theorem step_take (N:Nat) (p:Wd) (i a:Nat) (hi:i<p.M) (hs:(p.mach i).stage=0) (hk:(p.mach i).lkN=(a:Int)) (ha:a<nWords p.P p.M p.G):StepOK N p i ((p.more a).setM i { p.mach i with ticket:=p.ld a,stage:=1 }) false :=
 fun F V ow w _ _ h _ _ _=>(sec_take F V ow w p h i a hi hs hk ha _).mono fun _ _ ⟨e,o,k⟩=>⟨e,V,o,k⟩
theorem step_wait (N:Nat) (p:Wd) (i a:Nat) (hi:i<p.M) (hs:(p.mach i).stage=1) (hk:(p.mach i).lkS=(a:Int)) (ha:a<nWords p.P p.M p.G) (ht:(p.mach i).ticket<18446744073709551616) :
  StepOK N p i (if p.ld a=(p.mach i).ticket then p.acc.setM i { p.mach i with stage:=2 } else p.acc) false :=
 fun F V ow w _ _ h _ _ _=>(sec_wait F V ow w p h i a hi hs hk ha ht _).mono fun _ _ ⟨e,o,k⟩=>⟨e,V,o,k⟩
theorem step_do (N:Nat) (p p':Wd) (i:Nat) (more:Bool) (hi:i<p.M) (hs:(p.mach i).stage=2) (hd:DoOK N p i (p.mach i).times p' more) (hi':i<p'.M) (hs':(p'.mach i).stage=2) :
  StepOK N p i (p'.setM i { p'.mach i with times:=wrap64 ((p'.mach i).times+1),stage:=if more then 2 else 3 }) false :=
 fun F V ow w bw bi h E b0 b1=>sec_do N F V ow w p p' h E i bw bi more hi hs hd hi' hs' b0 b1
theorem step_free (N:Nat) (p:Wd) (i a:Nat) (hi:i<p.M) (hs:(p.mach i).stage=3) (hk:(p.mach i).lkS=(a:Int)) (ha:a<nWords p.P p.M p.G) (ht:(p.mach i).ticket<18446744073709551616) (he:p.ld a=(p.mach i).ticket) :
  StepOK N p i ((p.acc.st a (((p.mach i).ticket+1) % 2^64)).setM i { p.mach i with stage:=4 }) true :=
 fun F V ow w _ _ h _ _ _=>(sec_free F V ow w p h i a hi hs hk ha ht he _).mono fun _ _ ⟨e,o,k⟩=>⟨e,V,o,k⟩
theorem begin_any (a b:Int) (w:World) :
  Calls Tryz.prog 175 #[.agg #[.int .i64 a,.int .i64 b]] w fun e w'=>e=.returned (.agg #[.int .i64 a,.int .i64 b,.int .i64 0,.int .u64 0,.int .i64 0])∧Below w.heap.size w w':=by
 go_enter Tryz.func175,Tryz.ntmps175
 go_wp2
 go_returns
 exact ⟨rfl,by go_grown⟩
theorem zdh (N:Nat) (F:Fix) (V:Vol) (ow:Nat→Nat) (w:World) (p p' p3:Wd) (h:WAt F V ow w p) (E:Env N ow w) (i lock:Nat) (over:Bool) (hi:i<p.M) (hi':i<p'.M) (hn:(p.mach i).inn=true) (hstep:StepOK N p i p' over) (hthen:over=true→ThenOK N (p'.setM i { p'.mach i with inn:=false }) i p3) :
  Calls Tryz.prog 144 #[.pointer (some ⟨F.W,0,none⟩),.int .i64 i,.int .i64 lock] w fun e w'=>e=.returned (.tuple #[])∧∃ V' ow',On F V' ow w ow' w' (if over then p3 else p'):=by
 have hb:=((On.start h).alloc (.cells #[.pointer (some ⟨F.W,0,none⟩)] 24)).alloc (.cells #[.int .i64 i] 3)
 obtain ⟨wb,hwb⟩:∃ wb,wb=(w.alloc (.cells #[.pointer (some ⟨F.W,0,none⟩)] 24)).alloc (.cells #[.int .i64 i] 3):=⟨_,rfl⟩
 have b0:wb.cell? ⟨w.heap.size,0,none⟩=some (.pointer (some ⟨F.W,0,none⟩)):=by rw [hwb,World.cell?_alloc_past _ _ _ (by simp),zak];rfl
 have b1:wb.cell? ⟨w.heap.size+1,0,none⟩=some (.int .i64 i):=by rw [hwb,World.cell?_alloc_at _ _ _ _ (by simp)];rfl
 have hM:=h.dim
 have hcap:=h.own_cap.2
 rw [← hwb] at hb
 have c13:=hb.at_.cW_all
 have c14:=hb.at_.cW_flag
 have c8:=hb.at_.cA_inn hi
 rw [hn] at c8
 have HB:=Lib.hid hb
 have H:=Lib.hid h
 have HN:=Lib.hid hn
 unfold dims at hM
 have lA:=h.call.lt (by show 0<p.M*18;omega)
 have lF:=h.cflag.lt (by omega)
 have HST:=Lib.hid hstep
 have HTH:=Lib.hid hthen
 have HE:=Lib.hid E
 clear h hb hn hstep hthen E
 go_enter Tryz.func144,Tryz.ntmps144
 go_wp2
 rw [← hwb]
 clear hwb
 go_quiet (fail)
 go_wp2
 refine zaT (fun w3=>On F V ow w _ w3 p∧w3.cell? ⟨w.heap.size,0,none⟩=some (.pointer (some ⟨F.W,0,none⟩))∧w3.cell? ⟨w.heap.size+1,0,none⟩=some (.int .i64 i))
  ⟨HB.out.drewN nq,b0,b1⟩ ?_
 rintro w3 ⟨h3,e0,e1⟩
 have z0:grow (grow ow w.heap.size 0) (w.alloc (.cells #[.pointer (some ⟨F.W,0,none⟩)] 24)).heap.size 0 w.heap.size=0:=zcc _ (zaG _ _ _)
 have z1:grow (grow ow w.heap.size 0) (w.alloc (.cells #[.pointer (some ⟨F.W,0,none⟩)] 24)).heap.size 0 (w.heap.size+1)=0:=by simp [grow]
 clear b0 b1 c13 c14 c8
 have c3:w3.cell? ⟨F.W,3,none⟩=some (.pointer (some ⟨F.mem,0,none⟩)):=h3.at_.cW_mem
 have H3:=Lib.hid h3
 have hmf:∀ (fn:Fn) (first cap:Array Value) (w:World),(Instr.makeFunc fn first cap).run Tryz.prog w=.ok (.func fn first cap) w:=fun _ _ _ _=>rfl
 have hsec:=HST.out F V _ w3.drew w.heap.size (w.heap.size+1) h3.drew.at_ (HE.out.on h3.drew) e0 e1
 have HS:=Lib.hid hsec
 clear hsec h3
 go_region_held3 (fun w'=>w'.cell? ⟨F.W,3,none⟩=some (.pointer (some ⟨F.mem,0,none⟩))∧w'.cell? ⟨w.heap.size,0,none⟩=some (.pointer (some ⟨F.W,0,none⟩)))
  (first | exact ⟨c3,e0⟩ | exact ⟨c3',e0'⟩) (first | (go_at_call 176;refine HS.out.mono ?_;rintro e w4 ⟨rfl,V4,ow4,h4⟩;have c3':w4.cell? ⟨F.W,3,none⟩=some (.pointer (some ⟨F.mem,0,none⟩)):=h4.at_.cW_mem;have e0':=h4.keeps z0 e0;have e1':=h4.keeps z1 e1;have H4:=Lib.hid (H3.out.drew.then_ h4);clear h4))
 cases over
 ·go_wp2
  go_returns
  exact ⟨rfl,_,_,H4.out⟩
 ·have HT:=Lib.hid (HTH.out rfl)
  have k8:w4.cell? ⟨F.all,i*18+8,none⟩=some (.bool (p'.mach i).inn):=H4.out.at_.cA_inn hi'
  have kf:=H4.out.at_.call.2
  have q0:F.all≠w.heap.size:=by omega
  have q1:F.all≠w.heap.size+1:=by omega
  clear hmf c3 c3' e0 e1
  go_wp2_with fail
  have h5:=H4.out.s_inn hi' false
  refine (HT.out F _ _ _ h5.at_ (HE.out.on h5)).mono ?_
  rintro e w5 ⟨rfl,V5,ow5,h6⟩
  go_wp2
  go_returns
  exact ⟨rfl,_,_,h5.then_ h6⟩
theorem locked_new (N:Nat) (F:Fix) (V:Vol) (ow:Nat→Nat) (w:World) (p p' p3:Wd) (h:WAt F V ow w p) (E:Env N ow w) (i lock:Nat) (over:Bool) (hi:i<p.M) (hi':i<p'.M) (hl:lock≤p.P+1) (hn:(p.mach i).inn=false) (hstep:StepOK N (p.begin_ i lock) i p' over) (hthen:over=true→ThenOK N (p'.setM i { p'.mach i with inn:=false }) i p3) :
  Calls Tryz.prog 144 #[.pointer (some ⟨F.W,0,none⟩),.int .i64 i,.int .i64 lock] w fun e w'=>e=.returned (.tuple #[])∧∃ V' ow',On F V' ow w ow' w' (if over then p3 else p'):=by
 have hb:=((On.start h).alloc (.cells #[.pointer (some ⟨F.W,0,none⟩)] 24)).alloc (.cells #[.int .i64 i] 3)
 obtain ⟨wb,hwb⟩:∃ wb,wb=(w.alloc (.cells #[.pointer (some ⟨F.W,0,none⟩)] 24)).alloc (.cells #[.int .i64 i] 3):=⟨_,rfl⟩
 have b0:wb.cell? ⟨w.heap.size,0,none⟩=some (.pointer (some ⟨F.W,0,none⟩)):=by rw [hwb,World.cell?_alloc_past _ _ _ (by simp),zak];rfl
 have b1:wb.cell? ⟨w.heap.size+1,0,none⟩=some (.int .i64 i):=by rw [hwb,World.cell?_alloc_at _ _ _ _ (by simp)];rfl
 have hM:=h.dim
 have hcap:=h.own_cap.2
 rw [← hwb] at hb
 have c13:=hb.at_.cW_all
 have c14:=hb.at_.cW_flag
 have c8:=hb.at_.cA_inn hi
 rw [hn] at c8
 have HB:=Lib.hid hb
 have H:=Lib.hid h
 have HN:=Lib.hid hn
 unfold dims at hM
 have lA:=h.call.lt (by show 0<p.M*18;omega)
 have lF:=h.cflag.lt (by omega)
 have HST:=Lib.hid hstep
 have HTH:=Lib.hid hthen
 have HE:=Lib.hid E
 clear h hb hn hstep hthen E
 go_enter Tryz.func144,Tryz.ntmps144
 go_wp2
 rw [← hwb]
 clear hwb
 go_quiet (fail)
 go_wp2_with fail
 refine (begin_any _ _ _).mono ?_
 rintro e w1 ⟨rfl,hb1⟩
 have h1:=(HB.out.drewN nq).below hb1
 have lb0:=World.block_lt_of_cell? wb _ b0
 have lb1:=World.block_lt_of_cell? wb _ b1
 have b0':w1.cell? ⟨w.heap.size,0,none⟩=some (.pointer (some ⟨F.W,0,none⟩)):=(hb1.cell (p:=⟨w.heap.size,0,none⟩) lb0).trans b0
 have b1':w1.cell? ⟨w.heap.size+1,0,none⟩=some (.int .i64 i):=(hb1.cell (p:=⟨w.heap.size+1,0,none⟩) lb1).trans b1
 clear b0 b1 lb0 lb1 hb1 c13 c14 c8
 have c14:=h1.at_.cW_flag
 have c8:=h1.at_.cA_inn hi
 have k13:=h1.at_.cA_lkN hi
 have k14:=h1.at_.cA_lkS hi
 have k15:=h1.at_.cA_stage hi
 have k16:=h1.at_.cA_ticket hi
 have k17:=h1.at_.cA_times hi
 have fA:=h1.at_.call.2
 have H1:=Lib.hid h1
 clear h1
 go_wp2
 have q0:F.all≠w.heap.size:=by omega
 have q1:F.all≠w.heap.size+1:=by omega
 have q2:F.flag≠w.heap.size:=by omega
 have q3:F.flag≠w.heap.size+1:=by omega
 refine zaT (fun w2=>OnM F V ow w _ w2 p i _∧w2.cell? ⟨w.heap.size,0,none⟩=some (.pointer (some ⟨F.W,0,none⟩))∧w2.cell? ⟨w.heap.size+1,0,none⟩=some (.int .i64 i))
  ⟨((((((OnM.of_on H1.out hi).s_lkN (2*lock)).s_lkS (2*lock+1)).s_stage 0).s_ticket 0).s_times 0).s_inn true,by simp only [cell_far q0];exact b0',by simp only [cell_far q1];exact b1'⟩ ?_
 rintro w2 ⟨h2,d0,d1⟩
 clear b0' b1' c14 c8 k13 k14 k15 k16 k17 fA
 have c14:w2.cell? ⟨F.W,14,none⟩=some (.slice (some ⟨F.flag,0,none⟩) p.M p.M):=h2.on.at_.cW_flag
 have cf:w2.cell? ⟨F.flag,i,none⟩=some (.bool (p.fl i)):=h2.on.at_.cF hi
 have fF:=h2.on.at_.cflag.2
 have H2:=Lib.hid h2
 clear h2
 go_region
 go_wp2
 refine zaT (fun w3=>∃ ow3,On F V ow w ow3 w3 (p.begin_ i lock)∧w3.cell? ⟨w.heap.size,0,none⟩=some (.pointer (some ⟨F.W,0,none⟩))∧w3.cell? ⟨w.heap.size+1,0,none⟩=some (.int .i64 i)∧ow3 w.heap.size=0∧ow3 (w.heap.size+1)=0)
  ⟨_,(H2.out.drew.s_flag hi false).fin (by unfold Wd.begin_;rw [HN.out];rfl),by show (World.setCell _ _ _).cell? _=_;rw [cell_far q2];exact d0,by show (World.setCell _ _ _).cell? _=_;rw [cell_far q3];exact d1,zcc _ (zcc _ (zaG _ _ _)),zcc _ (by simp [grow])⟩ ?_
 rintro w3 ⟨ow3,h3,e0,e1,z0,z1⟩
 clear d0 d1 c14 cf fF q0 q1 q2 q3
 have c3:w3.cell? ⟨F.W,3,none⟩=some (.pointer (some ⟨F.mem,0,none⟩)):=h3.at_.cW_mem
 have H3:=Lib.hid h3
 have hmf:∀ (fn:Fn) (first cap:Array Value) (w:World),(Instr.makeFunc fn first cap).run Tryz.prog w=.ok (.func fn first cap) w:=fun _ _ _ _=>rfl
 have hsec:=HST.out F V _ w3.drew w.heap.size (w.heap.size+1) h3.drew.at_ (HE.out.on h3.drew) e0 e1
 have HS:=Lib.hid hsec
 clear hsec h3
 go_region_held3 (fun w'=>w'.cell? ⟨F.W,3,none⟩=some (.pointer (some ⟨F.mem,0,none⟩))∧w'.cell? ⟨w.heap.size,0,none⟩=some (.pointer (some ⟨F.W,0,none⟩)))
  (first | exact ⟨c3,e0⟩ | exact ⟨c3',e0'⟩) (first | (go_at_call 176;refine HS.out.mono ?_;rintro e w4 ⟨rfl,V4,ow4,h4⟩;have c3':w4.cell? ⟨F.W,3,none⟩=some (.pointer (some ⟨F.mem,0,none⟩)):=h4.at_.cW_mem;have e0':=h4.keeps z0 e0;have e1':=h4.keeps z1 e1;have H4:=Lib.hid (H3.out.drew.then_ h4);clear h4))
 cases over
 ·go_wp2
  go_returns
  exact ⟨rfl,_,_,H4.out⟩
 ·have HT:=Lib.hid (HTH.out rfl)
  have k8:w4.cell? ⟨F.all,i*18+8,none⟩=some (.bool (p'.mach i).inn):=H4.out.at_.cA_inn hi'
  have kf:=H4.out.at_.call.2
  have q0:F.all≠w.heap.size:=by omega
  have q1:F.all≠w.heap.size+1:=by omega
  clear hmf c3 c3' e0 e1
  go_wp2_with fail
  have h5:=H4.out.s_inn hi' false
  refine (HT.out F _ _ _ h5.at_ (HE.out.on h5)).mono ?_
  rintro e w5 ⟨rfl,V5,ow5,h6⟩
  go_wp2
  go_returns
  exact ⟨rfl,_,_,h5.then_ h6⟩
section
variable {F:Fix} {V:Vol} {ow0 ow:Nat→Nat} {w0 w:World} {p:Wd}
theorem Mod.agree {S:Nat→Prop} {w w':World} (h:Mod S w w') {k:Nat} {ow:Nat→Nat} (hs:∀ x,x<w.heap.size→S x→ow x=k):Agree (fun b=>ow b≠0∧¬ ow b=k) w w' :=
 ⟨h.size,fun b hb hx=>h.block b hb (fun e=>hx.2 (hs b hb e))⟩
theorem Mod.stp {S:Nat→Prop} {w w':World} (h:Mod S w w') {k:Nat} {ow:Nat→Nat} (hs:∀ x,x<w.heap.size→S x→ow x=k) (hk:k≠0) (n:Nat):Stp ow (grow ow w.heap.size n) w w' :=
 ⟨h.os,h.tape,h.output,h.size,fun b hb=>grow_lt hb,fun b hb e=>h.block b hb (fun e2=>by have:=hs b hb e2;omega)⟩
theorem On.ringMod (h:On F V ow0 w0 ow w p) {q:Nat} (hq:q<p.P) {w':World} {r':Hst.Ring} (hr:RingAt (F.ring q) w' r') (hm:Mod (·=F.ring q) w w'):On F V ow0 w0 (grow ow w.heap.size 0) w' (p.setR q r'):=by
 obtain ⟨ha,hst⟩:=h
 obtain ⟨o1,o2,o3,o4,o5,o9,o10,oq⟩:=ha.own
 obtain ⟨l1,l2,l3,l4,l5⟩:=ha.lens
 have hs:∀ x,x<w.heap.size→x=F.ring q→ow x=100+q:=fun x _ e=>by rw [e];exact oq q hq
 have hd:=ha.dim
 unfold dims at hd
 refine ⟨ha.upd (·=100+q) ⟨rfl,rfl,rfl⟩ ⟨by simpa [Wd.setR] using l1,l2,l3,l4,l5⟩ (fun b hb=>grow_lt hb) (hm.agree hs)
  (.inl ⟨by omega,rfl⟩) (.inl ⟨by omega,rfl⟩) (.inl ⟨by omega,rfl⟩) (by omega) (fun k hk=>?_)
  (.inl ⟨by omega,rfl⟩) (.inl ⟨by omega,rfl⟩) (.inl ⟨by omega,rfl⟩) (.inl ⟨by omega,rfl⟩) (.inl ⟨by omega,rfl,rfl⟩) (fun j hj=>.inl ⟨by omega,rfl,rfl⟩) (.inl ⟨by omega,rfl⟩) (.inl ⟨by omega,rfl,rfl⟩),hst.trans (hm.stp hs (by omega) 0)⟩
 by_cases e:k=q
 ·subst e
  refine .inr ?_
  have e2:(p.setR k r').ring k=r':=by unfold Wd.setR Wd.ring;rw [zbw _ _ _ _ _ (by omega),if_pos rfl]
  rw [e2];exact hr
 ·refine .inl ⟨by omega,?_⟩
  unfold Wd.setR Wd.ring;rw [zbw _ _ _ _ _ (by omega),if_neg e]
theorem On.globMod (h:On F V ow0 w0 ow w p) (k:Nat) {w':World} {l':List Int} (hg:GlobAt (grow ow w.heap.size k ·=6) F.glob w' p.P l') (hm:Mod (fun x=>ow x=6∧x<w.heap.size) w w'):On F V ow0 w0 (grow ow w.heap.size k) w' { p with glob:=l' }:=by
 obtain ⟨ha,hst⟩:=h
 obtain ⟨l1,l2,l3,l4,l5⟩:=ha.lens
 have hs:∀ x,x<w.heap.size→(ow x=6∧x<w.heap.size)→ow x=6:=fun _ _ e=>e.1
 exact ⟨ha.upd (·=6) ⟨rfl,rfl,rfl⟩ ⟨l1,l2,l3,l4,l5⟩ (fun b hb=>grow_lt hb) (hm.agree hs)
  (.inl ⟨by omega,rfl⟩) (.inl ⟨by omega,rfl⟩) (.inl ⟨by omega,rfl⟩) (by omega) (fun q hq=>.inl ⟨by omega,rfl⟩)
  (.inl ⟨by omega,rfl⟩) (.inr hg) (.inl ⟨by omega,rfl⟩) (.inl ⟨by omega,rfl⟩) (.inl ⟨by omega,rfl,rfl⟩) (fun j hj=>.inl ⟨by omega,rfl,rfl⟩) (.inl ⟨by omega,rfl⟩) (.inl ⟨by omega,rfl,rfl⟩),hst.trans (hm.stp hs (by omega) k)⟩
theorem GlobAt.mono {S T:Nat→Prop} {b n:Nat} {w:World} {l:List Int} (h:GlobAt S b w n l) (hs:∀ x,x<w.heap.size→S x→T x):GlobAt T b w n l:=h.agree ⟨Nat.le_refl _,fun _ _ _=>rfl⟩ hs
theorem WAt.glob6 (h:WAt F V ow w p):GlobAt (fun x=>ow x=6∧x<w.heap.size) F.glob w p.P p.glob:=h.cglob.mono fun x hx e=>⟨e,hx⟩
end
theorem do_local (N:Nat) (p:Wd) (i q:Nat) (t:Int) (hi:i<p.M) (hq:q<p.P) (hp:(p.mach i).p=(q:Int)) (hpl:(p.mach i).place=3):DoOK N p i t (p.doIt i t).1 (p.doIt i t).2:=by
 intro F V ow w h E
 have e:p.doIt i t=((p.setR q (p.ring q).get.1).one i (p.ring q).get.2.1 (p.ring q).get.2.2,false):=by
  unfold Wd.doIt;simp only [hpl,hp,Int.toNat_natCast]
 rw [e]
 have c13:=h.cW_all
 have c8:=h.cW_rs
 have c0:=h.cA_place hi
 have c1:=h.cA_p hi
 have cr:=h.cR hq
 have hM:=h.dim
 have hcap:=h.own_cap
 rw [hpl] at c0
 rw [hp] at c1
 unfold dims at hM
 have H:=Lib.hid h
 have HP:=Lib.hid hp
 clear h E e hp
 go_enter Tryz.func178,Tryz.ntmps178
 go_wp2
 go_region_held3 (fun w'=>w'.cell? ⟨F.W,8,none⟩=some (.slice (some ⟨F.rs,0,none⟩) p.P F.rsCap)∧w'.cell? ⟨F.all,i*18+1,none⟩=some (.int .i64 q)∧w'.cell? ⟨F.rs,q,none⟩=some (.pointer (some ⟨F.ring q,0,none⟩)))
  (first | exact ⟨c8,c1,cr⟩ | exact ⟨c8',c1',cr'⟩)
  (first | (go_at_call 199;refine (get_any (F.ring q) (p.ring q) w.drew ((On.start H.out).drew.at_.cring q hq)).mono ?_;rintro e w1 ⟨rfl,hr,hm⟩;have h1:=(On.start H.out).drew.ringMod hq hr hm;have c8':w1.cell? ⟨F.W,8,none⟩=some (.slice (some ⟨F.rs,0,none⟩) p.P F.rsCap):=h1.at_.cW_rs;have c1':w1.cell? ⟨F.all,i*18+1,none⟩=some (.int .i64 q):=(h1.at_.cA_p hi).trans (by show some (Value.int .i64 (p.mach i).p)=_;rw [HP.out]);have cr':w1.cell? ⟨F.rs,q,none⟩=some (.pointer (some ⟨F.ring q,0,none⟩)):=h1.at_.cR hq;have H1:=Lib.hid h1;clear h1 hr hm))
 go_wp2_with fail
 refine (one_on H1.out.at_ i hi _ _).mono ?_
 rintro e w2 ⟨rfl,V2,ow2,_,h2⟩
 go_wp2
 go_returns
 exact ⟨rfl,_,_,H1.out.then_ h2⟩
theorem do_one (N:Nat) (p:Wd) (i:Nat) (t:Int) (hi:i<p.M) (hpl:(p.mach i).place=2) (hbig:p.glob.length≤4294967296):DoOK N p i t (p.doIt i t).1 (p.doIt i t).2:=by
 intro F V ow w h E
 have e:p.doIt i t=(({ p with glob:=p.glob.tail }:Wd).one i (p.glob.headD 0) (!p.glob.isEmpty),false):=by
  unfold Wd.doIt;simp only [hpl]
 rw [e]
 have c13:=h.cW_all
 have c10:=h.cW_glob
 have c0:=h.cA_place hi
 have hM:=h.dim
 have hcap:=h.own_cap
 rw [hpl] at c0
 unfold dims at hM
 have hone:=gone_any _ F.glob p.P p.glob w h.glob6 hbig
 have H:=Lib.hid h
 have HO:=Lib.hid hone
 clear h E e hone
 go_enter Tryz.func178,Tryz.ntmps178
 go_wp2_with fail
 refine HO.out.mono ?_
 rintro e w1 ⟨rfl,hg,hm⟩
 have h1:=(On.start H.out).globMod 0 (hg.mono fun x _ e=>by rw [grow_lt e.2];exact e.1) hm
 have H1:=Lib.hid h1
 clear h1 hg hm HO
 go_wp2_with fail
 refine (one_on H1.out.at_ i hi _ _).mono ?_
 rintro e w2 ⟨rfl,V2,ow2,_,h2⟩
 have e3:p.glob.head?.getD 0=p.glob.headD 0:=by cases p.glob <;> rfl
 rw [e3] at h2
 go_wp2
 go_returns
 exact ⟨rfl,_,_,H1.out.then_ h2⟩
theorem do_global (N:Nat) (p:Wd) (i:Nat) (t:Int) (hi:i<p.M) (hpl:(p.mach i).place=4) (hbig:p.glob.length≤4294967296):DoOK N p i t (p.doIt i t).1 (p.doIt i t).2:=by
 intro F V ow w h E
 have e:p.doIt i t=(p.takeShare.1.found i p.takeShare.2,false):=by
  unfold Wd.doIt;simp only [hpl]
 rw [e]
 have c13:=h.cW_all
 have c10:=h.cW_glob
 have c0:=h.cA_place hi
 have hM:=h.dim
 have hcap:=h.own_cap
 rw [hpl] at c0
 unfold dims at hM
 have hone:=gtake_any _ F.glob p.P p.glob w h.glob6 hM.1 (by omega) hbig p.share rfl
 have hsl:p.share≤p.glob.length:=by unfold Wd.share;omega
 have hlen:(p.glob.take p.share).length=p.share:=by simp;omega
 have H:=Lib.hid h
 have HO:=Lib.hid hone
 have HL:=Lib.hid hlen
 clear h E e hone hlen hsl
 go_enter Tryz.func178,Tryz.ntmps178
 go_wp2_with fail
 refine HO.out.mono ?_
 rintro e w1 ⟨v,rfl,hown,hg,hm⟩
 have h1:=(On.start H.out).globMod 0 (hg.mono fun x _ e=>by rw [grow_lt e.2];exact e.1) hm
 have hown2:w1.ownsRow w.heap.size 3 1 v p.takeShare.2.length (ints p.takeShare.2):=by
  show w1.ownsRow w.heap.size 3 1 v (p.glob.take p.share).length (ints (p.glob.take p.share))
  rw [HL.out];exact hown
 have H1:=Lib.hid h1
 have HW:=Lib.hid hown2
 clear h1 hg hm HO hown hown2
 go_wp2_with fail
 refine (zcp H1.out.at_ i w.heap.size hi v p.takeShare.2 HW.out (by have:=HL.out;show (p.glob.take p.share).length≤_;unfold Wd.share at this ⊢;omega) (fun g hg=>by have:=HW.out.lt g hg;rw [grow_ge this.1];decide)).mono ?_
 rintro e w2 ⟨rfl,V2,ow2,_,h2⟩
 go_wp2
 go_returns
 exact ⟨rfl,_,_,H1.out.then_ h2⟩
theorem take_to {F:Fix} {V:Vol} {ow:Nat→Nat} {w:World} {p:Wd} (h:WAt F V ow w p) (i:Nat) (hi:i<p.M) :
  Calls Tryz.prog 237 #[.pointer (some ⟨F.W,0,none⟩),.int .i64 i] w fun e w'=>e=.returned (.tuple #[])∧∃ ow',On F V ow w ow' w' (p.take i):=by
 have c13:=h.cW_all
 have c0:=h.cA_place hi
 have c1:=h.cA_p hi
 have c6:=h.cA_i hi
 have c7:=h.cA_spin hi
 have c10:=h.cA_back hi
 have c11:=h.cA_after hi
 have cP:=h.cW_F_P
 obtain ⟨ra,rc,hrv⟩:=zac (h.crest i hi).1
 have c9:=h.cA_rest hi
 rw [hrv] at c9
 have fA:=h.call.2
 have hM:=h.dim
 have hcap:=h.own_cap.2
 have nWA:=h.own.ne.2.2.2.2.1
 have H:=Lib.hid h
 unfold dims at hM
 clear h hrv
 by_cases hr:(p.mach i).rest.length=0
 ·have hr0:(p.mach i).rest=[]:=List.eq_nil_of_length_eq_zero hr
  rw [hr] at c9
  have Hr:=Lib.hid hr0
  clear hr hr0
  cases hs:(p.mach i).spin
  ·rw [hs] at c7
   have Hs:=Lib.hid hs
   clear hs
   go_enter Tryz.func237,Tryz.ntmps237
   go_wp2
   go_returns
   exact ⟨rfl,_,(((OnM.start H.out hi).s_back 20).s_place 20).fin (by unfold Wd.take;simp only [Hr.out,Hs.out];rfl)⟩
  ·rw [hs] at c7
   have Hs:=Lib.hid hs
   clear hs
   go_enter Tryz.func237,Tryz.ntmps237
   go_wp2
   go_returns
   exact ⟨rfl,_,(((OnM.start H.out hi).s_back 20).s_place 19).fin (by unfold Wd.take;simp only [Hr.out,Hs.out];rfl)⟩
 ·have hr0:(p.mach i).rest≠[]:=fun e=>hr (by rw [e];rfl)
  have hr1:(0:Int)<((p.mach i).rest.length:Int):=by omega
  have Hr:=Lib.hid hr0
  clear hr hr0
  go_enter Tryz.func237,Tryz.ntmps237
  go_wp2
  go_returns
  exact ⟨rfl,_,(((OnM.start H.out hi).s_back 20).s_place 17).fin (by unfold Wd.take;simp only [if_pos Hr.out])⟩
theorem zdj {F:Fix} {V:Vol} {ow:Nat→Nat} {w:World} {p:Wd} (h:WAt F V ow w p) (i:Nat) (hi:i<p.M) :
  Calls Tryz.prog 214 #[.pointer (some ⟨F.W,0,none⟩),.int .i64 i] w fun e w'=>e=.returned (.tuple #[])∧∃ ow',On F V ow w ow' w' (p.settle i):=by
 have c13:=h.cW_all
 have c0:=h.cA_place hi
 have c1:=h.cA_p hi
 have c6:=h.cA_i hi
 have c7:=h.cA_spin hi
 have c10:=h.cA_back hi
 have c11:=h.cA_after hi
 have cP:=h.cW_F_P
 obtain ⟨ra,rc,hrv⟩:=zac (h.crest i hi).1
 have c9:=h.cA_rest hi
 rw [hrv] at c9
 have fA:=h.call.2
 have hM:=h.dim
 have hcap:=h.own_cap.2
 have nWA:=h.own.ne.2.2.2.2.1
 have H:=Lib.hid h
 unfold dims at hM
 clear h hrv
 by_cases hr:(p.mach i).rest.length=0
 ·have hr0:(p.mach i).rest=[]:=List.eq_nil_of_length_eq_zero hr
  rw [hr] at c9
  have Hr:=Lib.hid hr0
  clear hr hr0
  cases hs:(p.mach i).spin
  ·rw [hs] at c7
   have Hs:=Lib.hid hs
   clear hs
   go_enter Tryz.func214,Tryz.ntmps214
   go_wp2
   go_returns
   exact ⟨rfl,_,((OnM.start H.out hi).s_place 21).fin (by unfold Wd.settle;simp only [Hr.out,Hs.out];rfl)⟩
  ·rw [hs] at c7
   have Hs:=Lib.hid hs
   clear hs
   go_enter Tryz.func214,Tryz.ntmps214
   go_wp2
   go_returns
   exact ⟨rfl,_,((OnM.start H.out hi).s_place 19).fin (by unfold Wd.settle;simp only [Hr.out,Hs.out];rfl)⟩
 ·have hr0:(p.mach i).rest≠[]:=fun e=>hr (by rw [e];rfl)
  have hr1:(0:Int)<((p.mach i).rest.length:Int):=by omega
  have Hr:=Lib.hid hr0
  clear hr hr0
  go_enter Tryz.func214,Tryz.ntmps214
  go_wp2
  go_returns
  exact ⟨rfl,_,((OnM.start H.out hi).s_place 18).fin (by unfold Wd.settle;simp only [if_pos Hr.out])⟩
theorem steal_to {F:Fix} {V:Vol} {ow:Nat→Nat} {w:World} {p:Wd} (h:WAt F V ow w p) (i:Nat) (hi:i<p.M) (f:Int) :
  Calls Tryz.prog 181 #[.pointer (some ⟨F.W,0,none⟩),.int .i64 i,.int .i64 f] w fun e w'=>e=.returned (.tuple #[])∧∃ ow',On F V ow w ow' w' (p.steal i f):=by
 have c13:=h.cW_all
 have c0:=h.cA_place hi
 have c1:=h.cA_p hi
 have c6:=h.cA_i hi
 have c7:=h.cA_spin hi
 have c10:=h.cA_back hi
 have c11:=h.cA_after hi
 have cP:=h.cW_F_P
 obtain ⟨ra,rc,hrv⟩:=zac (h.crest i hi).1
 have c9:=h.cA_rest hi
 rw [hrv] at c9
 have fA:=h.call.2
 have hM:=h.dim
 have hcap:=h.own_cap.2
 have nWA:=h.own.ne.2.2.2.2.1
 have H:=Lib.hid h
 unfold dims at hM
 clear h hrv
 by_cases hf:(p.P:Int)≤f
 ·have Hf:=Lib.hid hf
  go_enter Tryz.func181,Tryz.ntmps181
  go_wp2
  go_returns
  exact ⟨rfl,_,(((OnM.start H.out hi).s_i f).s_place 6 |>.s_place 7).fin (by unfold Wd.steal;rw [if_pos (show f ≥ (p.P:Int) from Hf.out)])⟩
 ·have Hf:=Lib.hid hf
  go_enter Tryz.func181,Tryz.ntmps181
  go_wp2
  go_returns
  exact ⟨rfl,_,(((OnM.start H.out hi).s_i f).s_place 6).fin (by unfold Wd.steal;rw [if_neg (show ¬ f ≥ (p.P:Int) from by have:=Hf.out;omega)])⟩
theorem zbl {F:Fix} {V:Vol} {ow:Nat→Nat} {w:World} {p:Wd} (h:WAt F V ow w p) (i:Nat) (hi:i<p.M) (a:Nat) :
  Calls Tryz.prog 172 #[.pointer (some ⟨F.W,0,none⟩),.int .i64 i,.int .i64 a] w fun e w'=>e=.returned (.tuple #[])∧∃ ow',On F V ow w ow' w' (p.deliver i a):=by
 have c13:=h.cW_all
 have c0:=h.cA_place hi
 have c1:=h.cA_p hi
 have c6:=h.cA_i hi
 have c7:=h.cA_spin hi
 have c10:=h.cA_back hi
 have c11:=h.cA_after hi
 have cP:=h.cW_F_P
 obtain ⟨ra,rc,hrv⟩:=zac (h.crest i hi).1
 have c9:=h.cA_rest hi
 rw [hrv] at c9
 have fA:=h.call.2
 have hM:=h.dim
 have hcap:=h.own_cap.2
 have nWA:=h.own.ne.2.2.2.2.1
 have H:=Lib.hid h
 unfold dims at hM
 clear h hrv
 go_enter Tryz.func172,Tryz.ntmps172
 go_wp2
 go_region
 go_wp2
 go_returns
 exact ⟨rfl,_,(((OnM.start H.out hi).s_after a).s_place 25).drew.fin rfl⟩
theorem searched_yes {F:Fix} {V:Vol} {ow:Nat→Nat} {w:World} {p:Wd} (h:WAt F V ow w p) (i:Nat) (hi:i<p.M) :
  Calls Tryz.prog 213 #[.pointer (some ⟨F.W,0,none⟩),.int .i64 i,.bool true] w fun e w'=>e=.returned (.tuple #[])∧∃ ow',On F V ow w ow' w' (p.searched i true):=by
 have ht:=take_to h i hi
 have HT:=Lib.hid ht
 have c13:=h.cW_all
 have c0:=h.cA_place hi
 have c1:=h.cA_p hi
 have c6:=h.cA_i hi
 have c7:=h.cA_spin hi
 have c10:=h.cA_back hi
 have c11:=h.cA_after hi
 have cP:=h.cW_F_P
 obtain ⟨ra,rc,hrv⟩:=zac (h.crest i hi).1
 have c9:=h.cA_rest hi
 rw [hrv] at c9
 have fA:=h.call.2
 have hM:=h.dim
 have hcap:=h.own_cap.2
 have nWA:=h.own.ne.2.2.2.2.1
 have H:=Lib.hid h
 unfold dims at hM
 clear h hrv ht
 go_enter Tryz.func213,Tryz.ntmps213
 go_wp2_with fail
 refine HT.out.mono ?_
 rintro e w1 ⟨rfl,ow1,h1⟩
 go_wp2
 go_returns
 exact ⟨rfl,_,h1⟩
theorem searched_no2 {F:Fix} {V:Vol} {ow:Nat→Nat} {w:World} {p:Wd} (h:WAt F V ow w p) (i:Nat) (hi:i<p.M) (hpl:(p.mach i).place=2) :
  Calls Tryz.prog 213 #[.pointer (some ⟨F.W,0,none⟩),.int .i64 i,.bool false] w fun e w'=>e=.returned (.tuple #[])∧∃ ow',On F V ow w ow' w' (p.searched i false):=by
 have c13:=h.cW_all
 have c0:=h.cA_place hi
 have c1:=h.cA_p hi
 have c6:=h.cA_i hi
 have c7:=h.cA_spin hi
 have c10:=h.cA_back hi
 have c11:=h.cA_after hi
 have cP:=h.cW_F_P
 obtain ⟨ra,rc,hrv⟩:=zac (h.crest i hi).1
 have c9:=h.cA_rest hi
 rw [hrv] at c9
 have fA:=h.call.2
 have hM:=h.dim
 have hcap:=h.own_cap.2
 have nWA:=h.own.ne.2.2.2.2.1
 have H:=Lib.hid h
 unfold dims at hM
 have HP:=Lib.hid hpl
 rw [hpl] at c0
 clear h hrv hpl
 go_enter Tryz.func213,Tryz.ntmps213
 go_wp2
 go_returns
 exact ⟨rfl,_,((OnM.start H.out hi).s_place 3).fin (by unfold Wd.searched;simp only [HP.out];rfl)⟩
theorem searched_no3 {F:Fix} {V:Vol} {ow:Nat→Nat} {w:World} {p:Wd} (h:WAt F V ow w p) (i:Nat) (hi:i<p.M) (hpl:(p.mach i).place=3) :
  Calls Tryz.prog 213 #[.pointer (some ⟨F.W,0,none⟩),.int .i64 i,.bool false] w fun e w'=>e=.returned (.tuple #[])∧∃ ow',On F V ow w ow' w' (p.searched i false):=by
 have c13:=h.cW_all
 have c0:=h.cA_place hi
 have c1:=h.cA_p hi
 have c6:=h.cA_i hi
 have c7:=h.cA_spin hi
 have c10:=h.cA_back hi
 have c11:=h.cA_after hi
 have cP:=h.cW_F_P
 obtain ⟨ra,rc,hrv⟩:=zac (h.crest i hi).1
 have c9:=h.cA_rest hi
 rw [hrv] at c9
 have fA:=h.call.2
 have hM:=h.dim
 have hcap:=h.own_cap.2
 have nWA:=h.own.ne.2.2.2.2.1
 have H:=Lib.hid h
 unfold dims at hM
 have HP:=Lib.hid hpl
 rw [hpl] at c0
 clear h hrv hpl
 go_enter Tryz.func213,Tryz.ntmps213
 go_wp2
 go_returns
 exact ⟨rfl,_,((OnM.start H.out hi).s_place 4).fin (by unfold Wd.searched;simp only [HP.out];rfl)⟩
theorem searched_no7 {F:Fix} {V:Vol} {ow:Nat→Nat} {w:World} {p:Wd} (h:WAt F V ow w p) (i:Nat) (hi:i<p.M) (hpl:(p.mach i).place=7) :
  Calls Tryz.prog 213 #[.pointer (some ⟨F.W,0,none⟩),.int .i64 i,.bool false] w fun e w'=>e=.returned (.tuple #[])∧∃ ow',On F V ow w ow' w' (p.searched i false):=by
 have c13:=h.cW_all
 have c0:=h.cA_place hi
 have c1:=h.cA_p hi
 have c6:=h.cA_i hi
 have c7:=h.cA_spin hi
 have c10:=h.cA_back hi
 have c11:=h.cA_after hi
 have cP:=h.cW_F_P
 obtain ⟨ra,rc,hrv⟩:=zac (h.crest i hi).1
 have c9:=h.cA_rest hi
 rw [hrv] at c9
 have fA:=h.call.2
 have hM:=h.dim
 have hcap:=h.own_cap.2
 have nWA:=h.own.ne.2.2.2.2.1
 have H:=Lib.hid h
 unfold dims at hM
 have HP:=Lib.hid hpl
 rw [hpl] at c0
 clear h hrv hpl
 go_enter Tryz.func213,Tryz.ntmps213
 go_wp2
 go_returns
 exact ⟨rfl,_,((OnM.start H.out hi).s_place 8).fin (by unfold Wd.searched;simp only [HP.out];rfl)⟩
theorem searched_no6 {F:Fix} {V:Vol} {ow:Nat→Nat} {w:World} {p:Wd} (h:WAt F V ow w p) (i:Nat) (hi:i<p.M) (hpl:(p.mach i).place=6) (hb : -1≤(p.mach i).i∧(p.mach i).i≤4096) :
  Calls Tryz.prog 213 #[.pointer (some ⟨F.W,0,none⟩),.int .i64 i,.bool false] w fun e w'=>e=.returned (.tuple #[])∧∃ ow',On F V ow w ow' w' (p.searched i false):=by
 have ht:=steal_to h i hi ((p.mach i).i+1)
 have HT:=Lib.hid ht
 have c13:=h.cW_all
 have c0:=h.cA_place hi
 have c1:=h.cA_p hi
 have c6:=h.cA_i hi
 have c7:=h.cA_spin hi
 have c10:=h.cA_back hi
 have c11:=h.cA_after hi
 have cP:=h.cW_F_P
 obtain ⟨ra,rc,hrv⟩:=zac (h.crest i hi).1
 have c9:=h.cA_rest hi
 rw [hrv] at c9
 have fA:=h.call.2
 have hM:=h.dim
 have hcap:=h.own_cap.2
 have nWA:=h.own.ne.2.2.2.2.1
 have H:=Lib.hid h
 unfold dims at hM
 have HP:=Lib.hid hpl
 rw [hpl] at c0
 obtain ⟨hb1,hb2⟩:=hb
 clear h hrv hpl ht
 go_enter Tryz.func213,Tryz.ntmps213
 go_wp2_with fail
 refine HT.out.mono ?_
 rintro e w1 ⟨rfl,ow1,h1⟩
 go_wp2
 go_returns
 exact ⟨rfl,_,by unfold Wd.searched;simp only [HP.out];exact h1⟩
theorem searched_no4 {F:Fix} {V:Vol} {ow:Nat→Nat} {w:World} {p:Wd} (h:WAt F V ow w p) (i:Nat) (hi:i<p.M) (hpl:(p.mach i).place=4) :
  Calls Tryz.prog 213 #[.pointer (some ⟨F.W,0,none⟩),.int .i64 i,.bool false] w fun e w'=>e=.returned (.tuple #[])∧∃ ow',On F V ow w ow' w' (p.searched i false):=by
 have ht:=steal_to h i hi 1
 have HT:=Lib.hid ht
 have c13:=h.cW_all
 have c0:=h.cA_place hi
 have c1:=h.cA_p hi
 have c6:=h.cA_i hi
 have c7:=h.cA_spin hi
 have c10:=h.cA_back hi
 have c11:=h.cA_after hi
 have cP:=h.cW_F_P
 obtain ⟨ra,rc,hrv⟩:=zac (h.crest i hi).1
 have c9:=h.cA_rest hi
 rw [hrv] at c9
 have fA:=h.call.2
 have hM:=h.dim
 have hcap:=h.own_cap.2
 have nWA:=h.own.ne.2.2.2.2.1
 have H:=Lib.hid h
 unfold dims at hM
 have HP:=Lib.hid hpl
 rw [hpl] at c0
 clear h hrv hpl ht
 cases hs:(p.mach i).spin
 ·rw [hs] at c7
  have Hs:=Lib.hid hs
  clear hs
  go_enter Tryz.func213,Tryz.ntmps213
  go_wp2
  go_returns
  exact ⟨rfl,_,((OnM.start H.out hi).s_place 5).fin (by unfold Wd.searched;simp [HP.out,Hs.out,Wd.go])⟩
 ·rw [hs] at c7
  have Hs:=Lib.hid hs
  clear hs
  go_enter Tryz.func213,Tryz.ntmps213
  go_wp2_with fail
  refine HT.out.mono ?_
  rintro e w1 ⟨rfl,ow1,h1⟩
  go_wp2
  go_returns
  exact ⟨rfl,_,by unfold Wd.searched;simp only [HP.out,Hs.out];exact h1⟩
theorem zaY {F:Fix} {V:Vol} {ow:Nat→Nat} {w:World} {p:Wd} (h:WAt F V ow w p) (i:Nat) (hi:i<p.M) (is:Bool) (hpl:(p.mach i).place=2∨(p.mach i).place=3∨(p.mach i).place=4∨(p.mach i).place=6∨(p.mach i).place=7) (hb : -1≤(p.mach i).i∧(p.mach i).i≤4096) :
  Calls Tryz.prog 213 #[.pointer (some ⟨F.W,0,none⟩),.int .i64 i,.bool is] w fun e w'=>e=.returned (.tuple #[])∧∃ ow',On F V ow w ow' w' (p.searched i is):=by
 cases is
 ·rcases hpl with e | e | e | e | e
  ·exact searched_no2 h i hi e
  ·exact searched_no3 h i hi e
  ·exact searched_no4 h i hi e
  ·exact searched_no6 h i hi e hb
  ·exact searched_no7 h i hi e
 ·exact searched_yes h i hi
theorem then_2 (N:Nat) (p:Wd) (i:Nat) (hi:i<p.M) (hpl:(p.mach i).place=2) (hb : -1≤(p.mach i).i∧(p.mach i).i≤4096):ThenOK N p i (p.andThen i):=by
 intro F V ow w h E
 have e:p.andThen i=p.searched i (p.fl i):=by unfold Wd.andThen;simp only [hpl]
 rw [e]
 have ht:=zaY h i hi (p.fl i) (by omega) hb
 have HT:=Lib.hid ht
 have c14:=h.cW_flag
 have cf:=h.cF hi
 have c13:=h.cW_all
 have c0:=h.cA_place hi
 have c1:=h.cA_p hi
 have c6:=h.cA_i hi
 have c7:=h.cA_spin hi
 have c10:=h.cA_back hi
 have c11:=h.cA_after hi
 have cP:=h.cW_F_P
 obtain ⟨ra,rc,hrv⟩:=zac (h.crest i hi).1
 have c9:=h.cA_rest hi
 rw [hrv] at c9
 have fA:=h.call.2
 have hM:=h.dim
 have hcap:=h.own_cap.2
 have nWA:=h.own.ne.2.2.2.2.1
 have H:=Lib.hid h
 unfold dims at hM
 rw [hpl] at c0
 clear h hrv hpl ht hb E e
 go_enter Tryz.func179,Tryz.ntmps179
 go_wp2_with fail
 refine HT.out.mono ?_
 rintro e w1 ⟨rfl,ow1,h1⟩
 go_wp2
 go_returns
 exact ⟨rfl,V,_,h1⟩
theorem then_3 (N:Nat) (p:Wd) (i:Nat) (hi:i<p.M) (hpl:(p.mach i).place=3) (hb : -1≤(p.mach i).i∧(p.mach i).i≤4096):ThenOK N p i (p.andThen i):=by
 intro F V ow w h E
 have e:p.andThen i=p.searched i (p.fl i):=by unfold Wd.andThen;simp only [hpl]
 rw [e]
 have ht:=zaY h i hi (p.fl i) (by omega) hb
 have HT:=Lib.hid ht
 have c14:=h.cW_flag
 have cf:=h.cF hi
 have c13:=h.cW_all
 have c0:=h.cA_place hi
 have c1:=h.cA_p hi
 have c6:=h.cA_i hi
 have c7:=h.cA_spin hi
 have c10:=h.cA_back hi
 have c11:=h.cA_after hi
 have cP:=h.cW_F_P
 obtain ⟨ra,rc,hrv⟩:=zac (h.crest i hi).1
 have c9:=h.cA_rest hi
 rw [hrv] at c9
 have fA:=h.call.2
 have hM:=h.dim
 have hcap:=h.own_cap.2
 have nWA:=h.own.ne.2.2.2.2.1
 have H:=Lib.hid h
 unfold dims at hM
 rw [hpl] at c0
 clear h hrv hpl ht hb E e
 go_enter Tryz.func179,Tryz.ntmps179
 go_wp2_with fail
 refine HT.out.mono ?_
 rintro e w1 ⟨rfl,ow1,h1⟩
 go_wp2
 go_returns
 exact ⟨rfl,V,_,h1⟩
theorem then_4 (N:Nat) (p:Wd) (i:Nat) (hi:i<p.M) (hpl:(p.mach i).place=4) (hb : -1≤(p.mach i).i∧(p.mach i).i≤4096):ThenOK N p i (p.andThen i):=by
 intro F V ow w h E
 have e:p.andThen i=p.searched i (p.fl i):=by unfold Wd.andThen;simp only [hpl]
 rw [e]
 have ht:=zaY h i hi (p.fl i) (by omega) hb
 have HT:=Lib.hid ht
 have c14:=h.cW_flag
 have cf:=h.cF hi
 have c13:=h.cW_all
 have c0:=h.cA_place hi
 have c1:=h.cA_p hi
 have c6:=h.cA_i hi
 have c7:=h.cA_spin hi
 have c10:=h.cA_back hi
 have c11:=h.cA_after hi
 have cP:=h.cW_F_P
 obtain ⟨ra,rc,hrv⟩:=zac (h.crest i hi).1
 have c9:=h.cA_rest hi
 rw [hrv] at c9
 have fA:=h.call.2
 have hM:=h.dim
 have hcap:=h.own_cap.2
 have nWA:=h.own.ne.2.2.2.2.1
 have H:=Lib.hid h
 unfold dims at hM
 rw [hpl] at c0
 clear h hrv hpl ht hb E e
 go_enter Tryz.func179,Tryz.ntmps179
 go_wp2_with fail
 refine HT.out.mono ?_
 rintro e w1 ⟨rfl,ow1,h1⟩
 go_wp2
 go_returns
 exact ⟨rfl,V,_,h1⟩
theorem then_6 (N:Nat) (p:Wd) (i:Nat) (hi:i<p.M) (hpl:(p.mach i).place=6) (hb : -1≤(p.mach i).i∧(p.mach i).i≤4096):ThenOK N p i (p.andThen i):=by
 intro F V ow w h E
 have e:p.andThen i=p.searched i (p.fl i):=by unfold Wd.andThen;simp only [hpl]
 rw [e]
 have ht:=zaY h i hi (p.fl i) (by omega) hb
 have HT:=Lib.hid ht
 have c14:=h.cW_flag
 have cf:=h.cF hi
 have c13:=h.cW_all
 have c0:=h.cA_place hi
 have c1:=h.cA_p hi
 have c6:=h.cA_i hi
 have c7:=h.cA_spin hi
 have c10:=h.cA_back hi
 have c11:=h.cA_after hi
 have cP:=h.cW_F_P
 obtain ⟨ra,rc,hrv⟩:=zac (h.crest i hi).1
 have c9:=h.cA_rest hi
 rw [hrv] at c9
 have fA:=h.call.2
 have hM:=h.dim
 have hcap:=h.own_cap.2
 have nWA:=h.own.ne.2.2.2.2.1
 have H:=Lib.hid h
 unfold dims at hM
 rw [hpl] at c0
 clear h hrv hpl ht hb E e
 go_enter Tryz.func179,Tryz.ntmps179
 go_wp2_with fail
 refine HT.out.mono ?_
 rintro e w1 ⟨rfl,ow1,h1⟩
 go_wp2
 go_returns
 exact ⟨rfl,V,_,h1⟩
theorem then_7 (N:Nat) (p:Wd) (i:Nat) (hi:i<p.M) (hpl:(p.mach i).place=7) (hb : -1≤(p.mach i).i∧(p.mach i).i≤4096):ThenOK N p i (p.andThen i):=by
 intro F V ow w h E
 have e:p.andThen i=p.searched i (p.fl i):=by unfold Wd.andThen;simp only [hpl]
 rw [e]
 have ht:=zaY h i hi (p.fl i) (by omega) hb
 have HT:=Lib.hid ht
 have c14:=h.cW_flag
 have cf:=h.cF hi
 have c13:=h.cW_all
 have c0:=h.cA_place hi
 have c1:=h.cA_p hi
 have c6:=h.cA_i hi
 have c7:=h.cA_spin hi
 have c10:=h.cA_back hi
 have c11:=h.cA_after hi
 have cP:=h.cW_F_P
 obtain ⟨ra,rc,hrv⟩:=zac (h.crest i hi).1
 have c9:=h.cA_rest hi
 rw [hrv] at c9
 have fA:=h.call.2
 have hM:=h.dim
 have hcap:=h.own_cap.2
 have nWA:=h.own.ne.2.2.2.2.1
 have H:=Lib.hid h
 unfold dims at hM
 rw [hpl] at c0
 clear h hrv hpl ht hb E e
 go_enter Tryz.func179,Tryz.ntmps179
 go_wp2_with fail
 refine HT.out.mono ?_
 rintro e w1 ⟨rfl,ow1,h1⟩
 go_wp2
 go_returns
 exact ⟨rfl,V,_,h1⟩
theorem zaU (p:Wd) (g:Int) (a b:Nat):∃ ws cnt,p.move g a b={ p with ws:=ws,cnt:=cnt }:=by
 unfold Wd.move Wd.swap Wd.st Wd.acc
 split
 ·split <;> exact ⟨_,_,rfl⟩
 ·exact ⟨_,_,rfl⟩
def BareOK (N:Nat) (p:Wd) (i:Nat) (p':Wd):Prop:=∀ (F:Fix) (V:Vol) (ow:Nat→Nat) (w:World),WAt F V ow w p→Env N ow w →
 Calls Tryz.prog 145 #[.pointer (some ⟨F.W,0,none⟩),.int .i64 i] w fun e w'=>e=.returned (.tuple #[])∧∃ V' ow',On F V' ow w ow' w' p'
theorem bare_1 (N:Nat) (p:Wd) (i q:Nat) (hi:i<p.M) (hq:q<p.P) (hp:(p.mach i).p=(q:Int)) (hpl:(p.mach i).place=1):BareOK N p i (p.bare i):=by
 intro F V ow w h E
 obtain ⟨t,ht⟩:∃ t,t=wrap64 (p.turns.getD q 0+1):=⟨_,rfl⟩
 have e:p.bare i=(if t.tmod 61=0 then ({ p with turns:=p.turns.set q t }:Wd).deliver i 2 else ({ p with turns:=p.turns.set q t }:Wd).go i 3):=by
  unfold Wd.bare;simp only [hpl,hp,Int.toNat_natCast,← ht]
 rw [e]
 have c13:=h.cW_all
 have c9:=h.cW_turns
 have c0:=h.cA_place hi
 have c1:=h.cA_p hi
 have ct:=h.cT hq
 have fA:=h.call.2
 have fT:=h.cturns.2
 have hM:=h.dim
 have hcap:=h.own_cap
 have n1:=h.own.ne.2.2.2.2.2.2.2.2.2.2.2.1
 have n2:=h.own.ne.2.2.2.1
 have n3:=h.own.ne.2.2.2.2.1
 rw [hpl] at c0
 rw [hp] at c1
 unfold dims at hM
 have H:=Lib.hid h
 have HPq:=Lib.hid hp
 clear h E e hpl hp
 have HT:=Lib.hid ht
 clear ht
 go_enter Tryz.func145,Tryz.ntmps145
 go_wp2
 go_region
 go_wp2
 refine zaT (fun w2=>OnM F V ow w ow w2 ({ p with turns:=p.turns.set q t }:Wd) i { p.mach i with place:=3 })
  (by
   have h1:=(On.start H.out).s_turn hq (wrap64 (p.turns.getD q 0+1))
   rw [← HT.out] at h1
   have h2:=((OnM.of_on h1 hi).drew).s_place 3
   rw [HT.out] at h2 ⊢
   exact h2) ?_
 intro w2 h2
 have c9':w2.cell? ⟨F.W,9,none⟩=some (.slice (some ⟨F.turns,0,none⟩) p.P p.P):=h2.on.at_.cW_turns
 have c1':w2.cell? ⟨F.all,i*18+1,none⟩=some (.int .i64 q):=(h2.on.at_.cA_p hi).trans (by rw [zaj _ _ _ h2.len];exact congrArg (fun x=>some (Value.int .i64 x)) HPq.out)
 have ct':w2.cell? ⟨F.turns,q,none⟩=some (.int .i64 t):=(h2.on.at_.cT hq).trans (by show some (Value.int .i64 ((p.turns.set q t).getD q 0))=_;rw [zbw _ _ _ _ _ (by have:=H.out.lens.2.1;omega),if_pos rfl])
 have H2:=Lib.hid h2
 clear h2 c13 c9 c0 c1 ct fA fT n1 n2 n3
 by_cases hm:t.tmod 61=0
 ·have HM:=Lib.hid hm
  go_quiet (fail)
  go_wp2_with fail
  refine (zbl (H2.out.on.drewN nq).at_ i hi 2).mono ?_
  rintro e w3 ⟨rfl,ow3,h3⟩
  go_wp2
  go_returns
  exact ⟨rfl,V,_,((H2.out.on.drewN nq).then_ h3).cast (by unfold Wd.deliver;rw [zaj _ _ _ H2.out.len,zao];rfl)⟩
 ·have HM:=Lib.hid hm
  have hm2:(t.tmod 61==0)=false:=by rw [beq_eq_false_iff_ne];exact hm
  clear hm
  go_quiet (fail)
  go_wp2
  go_returns
  exact ⟨rfl,V,_,(H2.out.drewN nq).on⟩
theorem bare_20 (N:Nat) (p:Wd) (i:Nat) (hi:i<p.M) (hpl:(p.mach i).place=20) (hr:zeh ⟨2,(p.mach i).got,i,(p.mach i).p,0⟩=true) (hbig:p.log.length<4294967296):BareOK N p i (p.bare i):=by
 intro F V ow w h E
 obtain ⟨ws,cnt,hsh⟩:=zaU p (p.mach i).got 1 2
 have e:p.bare i=(({ p with ws:=ws,cnt:=cnt }:Wd).add i 2 (p.mach i).got 0).setM i { p.mach i with g:=(p.mach i).got,got:=-1,place:=0 }:=by
  unfold Wd.bare;simp only [hpl];rw [hsh]
 rw [e]
 have c13:=h.cW_all
 have c3:=h.cW_mem
 have c6:=h.cW_from
 have c7:=h.cW_n
 have c0:=h.cA_place hi
 have c4:=h.cA_got hi
 have hM:=h.dim
 have hcap:=h.own_cap
 rw [hpl] at c0
 unfold dims at hM
 have hmv:=zbZ ((On.start h).drew).at_ (E.on (On.start h).drew) (p.mach i).got 1 2 (by decide) (by decide) (by decide)
 obtain ⟨fr,hfr⟩:∃ fr:Int,fr=((2*(p.P+2)+1+p.M:Nat):Int):=⟨_,rfl⟩
 rw [← hfr] at c6 hmv
 rw [hsh] at hmv
 have HM:=Lib.hid hmv
 have H:=Lib.hid h
 have HE:=Lib.hid E
 have HR:=Lib.hid hr
 clear h E e hpl hmv hfr hr hsh
 go_enter Tryz.func145,Tryz.ntmps145
 go_wp2
 go_still_tail 12,(by kernel_rfl)
 change wpList _ _ _ _ _ w.drew
 go_wp2_with fail
 refine HM.out.mono ?_
 rintro e w1 ⟨rfl,ow1,h1⟩
 have d4:w1.cell? ⟨F.all,i*18+4,none⟩=some (.int .i64 (p.mach i).got):=h1.at_.cA_got hi
 have H1:=Lib.hid ((On.start H.out).drew.then_ h1)
 have had:=zdS h1.at_ ((HE.out.on (On.start H.out).drew).on h1) i hi 2 (p.mach i).got 0 HR.out hbig
 have HA:=Lib.hid had
 clear had h1 c13 c3 c6 c7 c0 c4
 go_wp2_with fail
 refine HA.out.mono ?_
 rintro e w2 ⟨rfl,V2,ow2,_,h2⟩
 have d4':w2.cell? ⟨F.all,i*18+4,none⟩=some (.int .i64 (p.mach i).got):=h2.at_.cA_got hi
 have d2:w2.cell? ⟨F.all,i*18+2,none⟩=some (.int .i64 (p.mach i).g):=h2.at_.cA_g hi
 have d0:w2.cell? ⟨F.all,i*18,none⟩=some (.int .i64 (p.mach i).place):=h2.at_.cA_place hi
 have fA:=h2.at_.call.2
 have H2:=Lib.hid (H1.out.then_ h2)
 clear h2 d4
 go_wp2
 go_returns
 exact ⟨rfl,V2,_,((((OnM.of_on H2.out hi).s_g _).s_got (-1)).s_place 0).fin rfl⟩
end Go.Proofs.YtlmmjgekolpekaaGreatDoor
