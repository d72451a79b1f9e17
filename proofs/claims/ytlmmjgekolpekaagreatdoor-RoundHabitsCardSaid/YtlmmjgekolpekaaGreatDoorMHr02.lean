/- Parts of the proof. -/
import Derived.Test.YtlmmjgekolpekaaGreatDoorMHr01
import Derived.Deep.Slices
import Derived.Deep.Fields
import Derived.ReadAgain
import Derived.ChangeMaps5
set_option linter.unusedVariables false
set_option linter.unusedSimpArgs false
set_option linter.unusedSectionVars false
set_option maxRecDepth 100000
set_option maxHeartbeats 6400000
namespace Go.Proofs.YtlmmjgekolpekaaGreatDoor
open Go Go.RowKit Hst Go.Proofs
def mayK (kd:Nat) (e:Hst.Ev):Prop:=e.kind=1∨e.kind=2∨e.kind=5∨e.kind=6∨(e.kind=3∧kd=1)∨(e.kind=4∧kd=2)∨(e.kind=7∧kd=3)
def tellsK (kd c:Nat) (p q:Wd):Prop:=∃ l,q.log=p.log++l∧l.length≤c∧∀ e∈l,mayK kd e
theorem tellsK_refl (kd:Nat) (p:Wd):tellsK kd 0 p p:=⟨[],by simp,Nat.le_refl _,by simp⟩
theorem tellsK_same {kd:Nat} {p q:Wd} (h:q.log=p.log):tellsK kd 1 p q:=⟨[],by simpa using h,Nat.zero_le _,by simp⟩
theorem tellsK_one {kd:Nat} {p q:Wd} {e:Hst.Ev} (h:q.log=p.log++[e]) (k:mayK kd e):tellsK kd 1 p q:=⟨[e],h,Nat.le_refl _,by simpa using k⟩
theorem tellsK.trans {kd c d:Nat} {p q r:Wd} (h:tellsK kd c p q) (k:tellsK kd d q r):tellsK kd (c+d) p r:=by
 obtain ⟨l,e1,c1,h1⟩:=h
 obtain ⟨m,e2,c2,h2⟩:=k
 refine ⟨l++m,by rw [e2,e1,List.append_assoc],by rw [List.length_append];omega,fun e he=>?_⟩
 rcases List.mem_append.1 he with x | x
 ·exact h1 e x
 ·exact h2 e x
theorem log_leave (p:Wd) (i to:Nat) (k:Int):∃ e,(p.leave i to k).log=p.log++[e]∧e.kind=k:=by
 unfold Wd.leave Wd.add Wd.setM
 have:(p.move (p.mach i).g 2 to).log=p.log:=by
  unfold Wd.move Wd.swap Wd.st
  (repeat' split) <;> rfl
 exact ⟨_,by dsimp only;rw [this],rfl⟩
theorem tr_tells {p p':Wd} {i:Nat} (h0:(p.mach i).place≠0) (kd:Nat) (t:Tr p i p'):tellsK kd 1 p p':=by
 cases t
 case outOf g to k v c h1 hp hg hg2 hs hv =>
  rcases hp with ⟨hp,rfl,rfl⟩ | ⟨hp,rfl,rfl⟩
  ·exact tellsK_one rfl (.inr (.inr (.inl rfl)))
  ·exact tellsK_one rfl (.inr (.inr (.inr (.inl rfl))))
 case dispatch=>exact tellsK_one rfl (.inr (.inl rfl))
 case mark=>exact tellsK_one rfl (.inl rfl)
 case yield g c hpl hg hg2 hs=>exact absurd hpl h0
 case leave g to k c hpl hk hg hg2 hs=>exact absurd hpl h0
 case rouse g fr k c hpl hk hg2 hs=>exact absurd hpl h0
 all_goals exact tellsK_same rfl
theorem step_tells {n:Nat} {p:Wd} (h:Inv n p) (a i:Nat) (ha:a≤3) (h0:(p.mach i).place=0∨a=0):tellsK a 1 p (p.step (actS a i)).1:=by
 by_cases hz:(p.mach i).place=0
 ·show tellsK a 1 p (p.pick (actS a i)).1
  unfold Wd.pick
  split
  ·exact tellsK_same rfl
  ·have ei:(actS a i).a.toNat=i:=by show ((i:Int)).toNat=i;omega
   rw [ei]
   dsimp only
   rw [if_pos hz]
   have hcase:a=0∨a=1∨a=2∨a=3:=by omega
   rcases hcase with rfl | rfl | rfl | rfl
   ·exact tellsK_same rfl
   ·obtain ⟨e,h1,h2⟩:=log_leave p i 1 3
    exact tellsK_one (e:=e) h1 (by unfold mayK;omega)
   ·obtain ⟨e,h1,h2⟩:=log_leave p i 3 4
    exact tellsK_one (e:=e) h1 (by unfold mayK;omega)
   ·obtain ⟨e,h1,h2⟩:=log_leave p i 6 7
    exact tellsK_one (e:=e) h1 (by unfold mayK;omega)
 ·show tellsK a 1 p (p.pick (actS a i)).1
  rcases pick_tr h (actS a i) ⟨by show _≤(0:Int);omega,by show (0:Int)≤_;omega⟩ with e | ⟨j,hj,ej,t⟩
  ·exact tellsK_same (by rw [e])
  ·have:j=i:=by have h2:(i:Int)=(j:Int):=ej;omega
   subst this
   exact tr_tells hz a t
theorem tellsK_zero {kd c:Nat} {p q:Wd} (h:tellsK 0 c p q):tellsK kd c p q:=by
 obtain ⟨l,e,hc,k⟩:=h
 exact ⟨l,e,hc,fun x hx=>by have:=k x hx;unfold mayK at *;omega⟩
theorem roundTo_tells {n:Nat} {p:Wd} (x:Drv) (h:Inv n p) (c:Int) (hc:∀ i,0≤x.counts.getD i 0∧x.counts.getD i 0≤c):∀ j,n+2*j<2^61→tellsK x.kind j p (roundTo p x j).1
 | 0,_=>tellsK_refl _ _
 | j+1,hn=>by
  have h1:=roundTo_tells x h c hc j (by omega)
  obtain ⟨h2,_⟩:=roundTo_inv x h j (by omega)
  have hk:=(roundTo_keep p x c hc j).1
  refine h1.trans ?_
  show tellsK x.kind 1 (roundTo p x j).1 ((roundTo p x j).1.step (actS (actOf (roundTo p x j).1 (roundTo p x j).2 j).2 j)).1
  generalize roundTo p x j=r at *
  unfold actOf
  split
  ·rename_i hz
   dsimp only
   split
   ·rename_i hh
    have:=step_tells h2 r.2.kind j (by omega) (.inl hz)
    rw [hk] at this ⊢
    exact this
   ·exact tellsK_zero (step_tells h2 0 j (by omega) (.inl hz))
  ·exact tellsK_zero (step_tells h2 0 j (by omega) (.inr rfl))
theorem rP_tells {n:Nat} {p:Wd} (x:Drv) (h:Inv n p) (c:Int) (hc:∀ i,0≤x.counts.getD i 0∧x.counts.getD i 0≤c):∀ j,n+2*p.M*j<2^61→tellsK x.kind (p.M*j) p (rP p x j).1
 | 0,_=>tellsK_refl _ _
 | j+1,hn=>by
  have hm:2*p.M*(j+1)=2*p.M*j+2*p.M:=by rw [Nat.mul_add,Nat.mul_one]
  have h1:=rP_tells x h c hc j (by omega)
  obtain ⟨k1,k2,k3,k4,k5,k6⟩:=rP_keep x c h hc j (by omega)
  rw [Nat.mul_add p.M j 1,Nat.mul_one]
  refine h1.trans ?_
  have:=roundTo_tells (rP p x j).2 k1 (c+j) k6 (rP p x j).1.M (by rw [k2];omega)
  rw [k3] at this
  rw [k2] at this
  show tellsK x.kind p.M (rP p x j).1 (roundTo (rP p x j).1 (rP p x j).2 (rP p x j).1.M).1
  rw [k2]
  exact this
theorem first_so (f:Nat→Bool):∀ m,∃ K,K≤m∧(∀ j,j<K→f j=false)∧(K<m→f K=true)
 | 0=>⟨0,Nat.le_refl _,fun j hj=>by omega,fun h=>by omega⟩
 | m+1=>by
  obtain ⟨K,h1,h2,h3⟩:=first_so f m
  by_cases hK:K<m
  ·exact ⟨K,by omega,h2,fun _=>h3 hK⟩
  ·obtain rfl:K=m:=by omega
   cases e:f K with
   | true=>exact ⟨K,by omega,h2,fun _=>e⟩
   | false=>exact ⟨K+1,Nat.le_refl _,fun j hj=>by by_cases hjK:j=K;rw [hjK];exact e;exact h2 j (by omega),fun h=>by omega⟩
theorem EvCells.mod {w w':World} {b o:Nat} {l:List Hst.Ev} {S:Nat→Prop} (h:EvCells w b o l) (m:Mod S w w') (hs:¬ S b):EvCells w' b o l :=
 ⟨Nat.lt_of_lt_of_le h.lt m.size,fun j e he=>m.cell hs (h.ck j e he),fun j e he=>m.cell hs (h.cg j e he),fun j e he=>m.cell hs (h.cm j e he),fun j e he=>m.cell hs (h.cp j e he),fun j e he=>m.cell hs (h.cv j e he)⟩
theorem own_evs {w:World} {B:Nat} {l:List Hst.Ev} {v:Value} (h:w.ownsRow B 39 5 v l.length (encEs l)) (h0:0<l.length):∃ g cap,v=.slice (some ⟨g,0,none⟩) l.length cap∧B≤g∧l.length≤cap∧EvCells w g 0 l:=by
 have hq:=own_arg h
 rcases h.2 with ⟨_,e⟩ | ⟨g,cap,cur,rfl,hB,_,hc,_,_⟩
 ·omega
 ·refine ⟨g,cap,rfl,hB,hc,?_⟩
  rcases hq with ⟨e,_⟩ | ⟨a,c,e,e2⟩ | ⟨b,o,c,e,hE⟩
  ·cases e
  ·rw [e2] at h0;simp at h0
  ·injection e with e1 _ _
   injection e1 with e1
   injection e1 with e1 e3 _
   rw [e1,e3];exact hE
theorem EvCells.tail {w:World} {b:Nat} {l1 l2:List Hst.Ev} (h:EvCells w b 0 (l1++l2)):EvCells w b (l1.length*5) l2:=by
 have hg:∀ j e,l2[j]?=some e→(l1++l2)[l1.length+j]?=some e:=fun j e he=>by rw [List.getElem?_append_right (by omega)];rw [show l1.length+j - l1.length=j from by omega];exact he
 have ho:∀ j,0+(l1.length+j)*5=l1.length*5+j*5:=fun j=>by omega
 refine ⟨h.lt,fun j e he=>?_,fun j e he=>?_,fun j e he=>?_,fun j e he=>?_,fun j e he=>?_⟩
 ·have:=h.ck _ e (hg j e he);rw [ho] at this;exact this
 ·have:=h.cg _ e (hg j e he);rw [ho] at this;exact this
 ·have:=h.cm _ e (hg j e he);rw [ho] at this;exact this
 ·have:=h.cp _ e (hg j e he);rw [ho] at this;exact this
 ·have:=h.cv _ e (hg j e he);rw [ho] at this;exact this
theorem rhabits_any (N p m g kd:Nat) (hp:p<256) (hm:m<256) (hg:g<256) (hkd:kd<256) (ev:Int) (hev : -9223372036854775808≤ev∧ev≤9223372036854775807) (l:List Hst.Stp) (hin:inSt l) (v:Value) (w:World) (T:Tabs N w) (hA:StArg w v l) :
  Calls Tryz.prog 4 #[.int .u8 p,.int .u8 m,.int .u8 g,v,.agg #[.int .u8 kd,.int .i64 ev]] w fun e w'=>e=.returned (.bool true)∧Below w.heap.size w w':=by
 have hB0:=zab w (.cells #[.int .u8 (kd:Nat),.int .i64 ev] 30)
 have hu:=heap_alloc_new w (.cells #[.int .u8 (kd:Nat),.int .i64 ev] 30)
 have ct:=zaa hu 0
 have ce:=zaa hu 1
 simp only [List.getElem?_toArray,List.getElem?_cons_zero,List.getElem?_cons_succ] at ct ce
 have hpl:∀ a n c,v=.slice (some a) n c→l≠[]→a.block<w.heap.size:=by
  intro a n c e hne
  rcases hA with ⟨e1,e2⟩ | ⟨a1,c1,e1,e2⟩ | ⟨b,o,c1,e1,h⟩
  ·exact absurd e2 hne
  ·exact absurd e2 hne
  ·rw [e1] at e
   cases e
   exact h.lt
 obtain ⟨a,c,hve,hE⟩:=zdc hA
 have hA0:=hA.below hB0
 have T0:=T.below (fun b hb=>hB0.block b (Nat.lt_of_lt_of_le hb T.le)) (Nat.le_trans T.le hB0.size)
 have hNw:=T.le
 obtain ⟨bt,hbt⟩:∃ bt,bt=w.heap.size:=⟨_,rfl⟩
 rw [← hbt] at ct ce
 have hW0s:bt<(w.alloc (.cells #[.int .u8 (kd:Nat),.int .i64 ev] 30)).heap.size:=by rw [hbt];simp
 have HA:=Lib.hid hA0
 have HP:=Lib.hid hpl
 have HB0:=Lib.hid hB0
 have HT:=Lib.hid T0
 have hNb:N≤bt:=by omega
 have hbw:bt=w.heap.size:=hbt
 have HBt:=Lib.hid hbw
 clear hbw
 subst hve
 clear hA hA0 hpl hB0 T T0 hE hu
 go_enter Tryz.func4,Tryz.ntmps4
 go_wp2_with fail
 rw [← hbt]
 clear hbt
 have hWw:Below w.heap.size w (w.alloc (.cells #[.int .u8 (kd:Nat),.int .i64 ev] 30)):=HB0.out
 have HWw:=Lib.hid hWw
 clear hWw HB0
 generalize w.alloc (.cells #[.int .u8 (kd:Nat),.int .i64 ev] 30)=W at *
 have hL:=lives22r_any N W HT.out
 have hwW:=HWw.out.size
 refine hL.mono ?_
 rintro e w1 ⟨rfl,b1⟩
 have T1:=Lib.hid (HT.out.below (fun b hb=>b1.block b (Nat.lt_of_lt_of_le hb HT.out.le)) (Nat.le_trans HT.out.le b1.size))
 clear hL
 by_cases hlen:(150:Int)<l.length
 ·go_wp2_with fail
  refine (lives22r_any N w1 T1.out).mono ?_
  rintro e w2 ⟨rfl,b2⟩
  go_wp2_with fail
  go_returns
  exact ⟨rfl,HWw.out.trans ((b1.trans (b2.mono b1.size)).mono hwW)⟩
 ·have HB1:=Lib.hid b1
  have ct1:=(b1.cell (p:=⟨bt,0,none⟩) hW0s).trans ct
  have ce1:=(b1.cell (p:=⟨bt,1,none⟩) hW0s).trans ce
  have hl1:bt<w1.heap.size:=Nat.lt_of_lt_of_le hW0s b1.size
  clear b1 ct ce
  go_wp2_with fail
  refine (beginW_any N p m g hp hm hg w1 T1.out).mono ?_
  rintro e w2 ⟨F,V,ow,rfl,hx,hx0,b2⟩
  have K2:=HB1.out.trans (b2.mono HB1.out.size)
  have ct2:=(b2.cell (p:=⟨bt,0,none⟩) hl1).trans ct1
  have ce2:=(b2.cell (p:=⟨bt,1,none⟩) hl1).trans ce1
  have hlow:∀ b,b<W.heap.size→ow b=0:=fun b hb=>hx0 b (Nat.lt_of_lt_of_le hb HB1.out.size)
  have hlen4:l.length≤150:=by omega
  have hds:=s_dims p m g
  have hI0:Inv 0 (Wd.new (sP p) (sM p m) (sG g)):=new_inv p m g
  have hIq:=run_inv hI0 l (by omega) hin
  have hlg:=run_log p m g l (by omega) hin
  have hrn:=run_any N 0 hI0 l (by omega) hin hx (Env.low_of HT.out K2 hlow) (.slice a l.length c) (HA.out.below K2) (fun a1 n1 c1 e1 hne=>hlow _ (Nat.lt_of_lt_of_le (HP.out a1 n1 c1 e1 hne) hwW))
  unfold dims at hds
  generalize sP p=pP at *
  generalize sM p m=pM at *
  generalize sG g=pG at *
  generalize ((Wd.new pP pM pG).run l).1=q at *
  generalize ((Wd.new pP pM pG).run l).2=nq at *
  have HR:=Lib.hid hrn
  have HK2:=Lib.hid K2
  have HLo:=Lib.hid hlow
  have HI:=Lib.hid hIq
  have HG:=Lib.hid hlg
  clear hrn K2 hlow hIq hx hx0 b2 hI0 T1 ct1 ce1 hlg
  go_wp2_with fail
  refine HR.out.mono ?_
  rintro x w3 ⟨rfl,V',ow',h4⟩
  have K3:=HK2.out.trans (h4.st.below HK2.out.size fun b hb=>HLo.out b hb)
  have hs2:=HK2.out.size
  have hdm:=h4.at_.dim
  have hnw:=dnew_any h4.at_ (kd:Nat) ev (by omega) hev
  have hsz:=K3.size
  have hlow3:∀ b,b<W.heap.size→ow' b=0:=fun b hb=>(h4.st.own b (Nat.lt_of_lt_of_le hb HK2.out.size)).trans (HLo.out b hb)
  have ct3:=(zam (o:=0) (h4.st.block bt (by omega) (HLo.out bt hW0s))).trans ct2
  have ce3:=(zam (o:=1) (h4.st.block bt (by omega) (HLo.out bt hW0s))).trans ce2
  have HN:=Lib.hid hnw
  have HK3:=Lib.hid K3
  have HL3:=Lib.hid hlow3
  clear hnw h4 K3 hlow3 HR HK2 HLo ct2 ce2
  unfold dims at hdm
  have hdm2:0<q.M∧q.M≤128:=by omega
  clear hdm
  go_wp2_with (first | (go_at_call 18;refine HN.out.mono ?_;rintro e w4 ⟨d,gc,ow4,rfl,hd,hg,on4,dr4⟩))
  have hs4:=on4.st.size
  have hs3:=hsz
  have K4:=HK3.out.trans (on4.st.below HK3.out.size fun b hb=>HL3.out b hb)
  have ct4:=(zam (o:=0) (on4.st.block bt (by omega) (HL3.out bt hW0s))).trans ct3
  have ce4:=(zam (o:=1) (on4.st.block bt (by omega) (HL3.out bt hW0s))).trans ce3
  have o4:∀ b,b<W.heap.size→ow4 b=0:=fun b hb=>(on4.st.own b (by omega)).trans (HL3.out b hb)
  have lds:=World.block_lt_of_cell? w4 _ dr4.c0
  have lgs:=World.block_lt_of_cell? w4 _ (dr4.cs 0 hdm2.1)
  simp only at lds lgs
  obtain ⟨x,hx⟩:∃ x:Drv,x={ kind:=(kd:Int).toNat,every:=(max 1 ev).toNat,counts:=List.replicate q.M 0,rounds:=0 }:=⟨_,rfl⟩
  have hx1:x.kind=kd∧(1≤x.every∧(x.every:Int)≤9223372036854775807)∧x.rounds=0:=by rw [hx];exact ⟨Int.toNat_natCast _,by dsimp only;omega,rfl⟩
  have hx2:∀ i,x.counts.getD i 0=0:=fun i=>by
   rw [hx]
   show (List.replicate q.M (0:Int)).getD i 0=0
   rw [List.getD_eq_getElem?_getD]
   by_cases hi:i<q.M
   ·rw [List.getElem?_replicate,if_pos hi];rfl
   ·rw [List.getElem?_replicate,if_neg hi];rfl
  rw [← hx] at dr4
  have E4:Env N ow4 w4:=Env.low_of HT.out K4 o4
  obtain ⟨K,hK1,hK2,hK3⟩:=first_so (fun j=>quietB (rP q x j).1) 60
  have hmu:∀ y,y≤128→2*q.M*y≤2*128*128:=fun y hy=>Nat.mul_le_mul (by omega) hy
  have hmu1:=hmu K (by omega)
  have hkeep:=rP_keep x 0 HI.out (fun i=>by rw [hx2 i];omega) K (by omega)
  have htl:=rP_tells x HI.out 0 (fun i=>by rw [hx2 i];omega) K (by omega)
  have hu:=until_any N (0+2*l.length) K 0 60 (by omega) (.func (.func 22) #[] #[]) (.inr ⟨_,_,rfl⟩) (quietB (rP q x K).1) (fun _=>False) (fun _ _=>True) HI.out (by omega) on4.at_ dr4 E4 (by omega) (by omega)
   (fun i=>by rw [hx2 i];omega) (by omega) hx1.2.1 (by rw [hx1.1];omega) (by rw [hx1.2.2];omega) (by omega) (fun h=>hK3 (by omega)) (fun b hb=>hb.elim) trivial (fun _ _ _ _ _=>trivial)
   (fun j Wa V' ow' hj hW _ ci cd c0=>by
    have hqq:=quiet_on (On.start hW).drew.at_
    refine (so_quiet (F:=F) (d:=d) (w4.heap.size+1) w4.heap.size (quietB (rP q x j).1) ci cd c0 hqq).mono ?_
    rintro e Wb ⟨rfl,b⟩
    refine ⟨?_,Mod.of_below b _,trivial⟩
    by_cases e:j=K
    ·rw [if_pos e,e]
    ·rw [if_neg e,hK2 j (by omega)])
  rw [hx1.2.2] at hkeep
  rw [hx1.1] at hkeep
  rw [hx1.1] at htl
  have hx3:=hx1.2.1
  have HU:=Lib.hid hu
  have HKp:=Lib.hid hkeep
  have HTl:=Lib.hid htl
  have HK4:=Lib.hid K4
  have HO4:=Lib.hid o4
  have HE4:=Lib.hid E4
  clear hu hkeep htl K4 o4 E4 on4 dr4 HN HK3 HL3 hx1 hx2 hx HI ct3 ce3 hK2 hK3
  generalize rP q x K=r at *
  generalize quietB r.1=bq at *
  go_wp2_with fail
  refine HU.out.mono ?_
  rintro e w6 ⟨rfl,V6,ow6,on6,dr6,_⟩
  have on6:=on6.wide (D':=fun b=>b=d∨b=gc) (fun b hb=>by rcases hb with e | e | e;exact .inl e;exact .inr e;exact e.elim)
  obtain ⟨l1,e1,c1,_⟩:=HTl.out
  have hg1:=HG.out
  have hl6:0<r.1.log.length∧r.1.log.length≤20000:=by
   have hqm:q.M*K≤128*60:=Nat.mul_le_mul hdm2.2 hK1
   rw [e1,List.length_append];omega
  have hev6:=zdK on6.at_ hl6.1 (by omega)
  have HEv:=Lib.hid hev6
  have HO6:=Lib.hid (And.intro on6 dr6)
  have hs6:=on6.st.size
  clear on6 dr6 HU HTl e1 c1 hev6 HG
  go_wp2_with (first | (go_at_call 23;refine HEv.out.mono ?_;rintro e w7 ⟨v1,rfl,hown1,b7⟩;obtain ⟨a1,c1,rfl⟩:=zac hown1;clear hown1))
  have on7:=HO6.out.1.below b7
  have d7:=HO6.out.2.below hdm2.1 b7
  have s7:=b7.size
  have HO7:=Lib.hid (And.intro on7 d7)
  clear on7 d7 b7 HEv HO6
  generalize grow ow6 w6.heap.size 0=ow7 at *
  go_loopw [43] (fun i wr=>∃ (j:Nat) (V':Vol) (ow':Nat→Nat),i=.int .i64 (j:Int)∧j≤40∧OnX (fun b=>b=d∨b=gc) F V' ow4 w4 ow' wr (rP r.1 r.2 j).1∧DrvAt F ow' wr d gc q.M (rP r.1 r.2 j).2) (fun i _=>40 - (intOf i).toNat)
  case atStart=>exact ⟨0,V6,_,rfl,by omega,HO7.out.1,HO7.out.2⟩
  case round =>
   clear HO7
   obtain ⟨j,V8,ow8,rfl,hj,on8,dr8⟩:=hrel
   by_cases hpj:j<40
   ·have hpi:(j:Int)<40:=by omega
    obtain ⟨k1,k2,k3,k4,k5,k6⟩:=HKp.out
    have hmj:=hmu j (by omega)
    obtain ⟨t1,t2,t3,t4,t5,t6⟩:=rP_keep r.2 K k1 (fun i=>by have:=k6 i;omega) j (by rw [k2];omega)
    have E8:=HE4.out.onX on8 (fun b hb=>by rcases hb with e | e <;> omega)
    have hrd:=round_any N (0+2*l.length+2*q.M*K+2*r.1.M*j) t1 (by rw [t2,k2];omega) on8.at_ (by rw [t2,k2];exact dr8) E8 (by omega) (by omega) (fun i=>by have:=t6 i;omega) (by rw [t4,k4];exact hx3) (by rw [t3,k3];omega) (by rw [t5,k5];omega)
    rw [t2,k2] at hrd
    have hnx:rP r.1 r.2 (j+1)=roundP (rP r.1 r.2 j).1 (rP r.1 r.2 j).2:=rfl
    have HRd:=Lib.hid hrd
    have HNx:=Lib.hid hnx
    have HO8:=Lib.hid on8
    clear hrd hnx on8 dr8 E8 k1 k2 k3 k4 k5 k6 t1 t2 t3 t4 t5 t6
    go_wp2_with fail
    refine HRd.out.mono ?_
    rintro e w9 ⟨rfl,V9,ow9,on9,dr9⟩
    have HO9:=Lib.hid (And.intro (HO8.out.then_ on9) dr9)
    clear on9 dr9 HRd HO8
    go_wp2_with fail
    go_roundw
    case rel=>exact ⟨j+1,V9,ow9,by go_num,hpj,by rw [HNx.out];exact HO9.out.1,by rw [HNx.out];exact HO9.out.2⟩
    case measure=>simp [intOf];omega
   ·obtain rfl:j=40:=by omega
    have hpi:¬ ((40:Nat):Int)<40:=by omega
    obtain ⟨k1,k2,k3,k4,k5,k6⟩:=HKp.out
    have hm40:=hmu 40 (by omega)
    have hkr:=rP_keep r.2 K k1 (fun i=>by have:=k6 i;omega) 40 (by rw [k2];omega)
    have htr:=rP_tells r.2 k1 K (fun i=>by have:=k6 i;omega) 40 (by rw [k2];omega)
    rw [k2,k3] at htr
    have hro:(rP r.1 r.2 40).2.rounds=(K:Int)+40:=by rw [hkr.2.2.2.2.1,k5];omega
    clear hkr k1 k2 k3 k4 k5 k6 hm40
    obtain ⟨r2,hr2⟩:∃ r2,r2=rP r.1 r.2 40:=⟨_,rfl⟩
    rw [← hr2] at on8 dr8 htr hro
    clear hr2 HKp
    obtain ⟨l2,e2,c2,hmay⟩:=htr
    have hl8:r2.1.log.length=r.1.log.length+l2.length∧l2.length≤6000:=by
     have hqm:q.M*40≤128*40:=Nat.mul_le_mul hdm2.2 (Nat.le_refl _)
     rw [e2,List.length_append];omega
    have hev8:=zdK on8.at_ (by omega) (by omega)
    have ct8:=(zam (o:=0) (on8.st.block bt (by omega) (HO4.out bt hW0s) (fun e=>by rcases e with e | e <;> omega))).trans ct4
    have l8:=World.block_lt_of_cell? _ _ ct8
    simp only at l8
    have s8:=on8.st.size
    have HEv:=Lib.hid hev8
    have HO8:=Lib.hid (And.intro on8 dr8)
    have HMay:=Lib.hid hmay
    clear on8 dr8 hev8 hmay ct4
    have HE2:=Lib.hid e2
    clear e2
    have hln:r.1.log.length≤r2.1.log.length:=by omega
    go_wp2_with (first | (go_at_call 23;refine HEv.out.mono ?_;rintro e wE ⟨vE,rfl,hownE,bE⟩;obtain ⟨gE,capE,rfl,hgE,hcE,hE⟩:=own_evs hownE (by omega);have hE2:=HE2.out ▸ hE;have HEc:=Lib.hid hE2.tail;clear hownE hE hE2;rw [hl8.1] at hcE ⊢;by_cases hc1:capE=r.1.log.length))
    all_goals (
     have ctE:=(bE.cell (p:=⟨bt,0,none⟩) l8).trans ct8
     have onE:=HO8.out.1.below bE
     have drE:=HO8.out.2.below hdm2.1 bE
     have HOE:=Lib.hid (And.intro onE drE)
     clear bE onE drE HO8 ct8 HEv
     obtain ⟨wA,rfl⟩:∃ x,x=wr:=⟨wr,rfl⟩
     generalize grow ow8 wA.heap.size 0=owE at *
     go_loopw [53] (fun i wx_=>∃ j:Nat,i=.int .i64 (j:Int)∧j≤l2.length∧Below wE.heap.size wE wx_) (fun i _=>l2.length - (intOf i).toNat)
     case atStart=>exact ⟨0,rfl,by omega,Below.refl _ _⟩
     case round =>
      obtain ⟨j,rfl,hj,Kx⟩:=hrel
      by_cases hpj:j<l2.length
      ·first
       | exact absurd hc1 (by omega)
       | (
       have hpi2:(j:Int)<l2.length:=by omega
       have hE:=HEc.out.below HEc.out.lt Kx
       obtain ⟨e,he⟩:∃ e,l2[j]?=some e:=⟨_,List.getElem?_eq_getElem hpj⟩
       have hme:=HMay.out e (List.mem_of_getElem? he)
       have c0:=hE.ck j e he
       have c1:=hE.cg j e he
       have c2:=hE.cm j e he
       have c3:=hE.cp j e he
       have c4:=hE.cv j e he
       have hlt:=hE.lt
       have ctx:=(Kx.cell (p:=⟨bt,0,none⟩) (World.block_lt_of_cell? _ _ ctE)).trans ctE
       obtain ⟨ek,eg,ei,ep,ev2⟩:=e
       dsimp only at c0 c1 c2 c3 c4
       have HKx:=Lib.hid Kx
       clear Kx hE he
       unfold mayK at hme
       dsimp only at hme
       have B2:=zab wr (.cells #[.int .i64 ek,.int .i64 eg,.int .i64 ei,.int .i64 ep,.int .i64 ev2] 39)
       have ctx2:=(B2.cell (p:=⟨bt,0,none⟩) (World.block_lt_of_cell? _ _ ctx)).trans ctx
       have HK2:=Lib.hid (HKx.out.trans (B2.mono HKx.out.size))
       clear B2
       have hkk:(kd:Int)=1∨(kd:Int)=2∨(kd:Int)=3∨((kd:Int)≠1∧(kd:Int)≠2∧(kd:Int)≠3):=by omega
       have hek:ek=1∨ek=2∨ek=5∨ek=6∨(ek=3∧(kd:Int)=1)∨(ek=4∧(kd:Int)=2)∨(ek=7∧(kd:Int)=3):=by omega
       clear hme
       rcases hkk with hk1 | hk1 | hk1 | ⟨hk1,hk2,hk3⟩ <;> rcases hek with h | h | h | h | ⟨h,h'⟩ | ⟨h,h'⟩ | ⟨h,h'⟩ <;> first
       | (exfalso;omega)
       | (
        subst h
        go_wp2_with fail
        go_roundw
        case rel=>exact ⟨j+1,by go_num,hpj,HK2.out⟩
        case measure=>simp [intOf];omega))
      ·obtain rfl:j=l2.length:=by omega
       have hpi2:¬ (l2.length:Int)<l2.length:=by omega
       have HKx:=Lib.hid Kx
       clear Kx
       have hrd:∀ W',Below wE.heap.size wE W'→Calls Tryz.prog 21 #[.pointer (some ⟨d,0,none⟩)] W' fun e w'=>e=.returned (.int .i64 ((K:Int)+40))∧Below W'.heap.size W' w':=fun W' kk=>by
        have:=rounds_any (p:=q) (x:=r2.2) (HOE.out.2.below hdm2.1 kk) hdm2.1
        rw [hro] at this
        exact this
       have HRd:=Lib.hid hrd
       clear hrd hro
       go_wp2_with (first | (go_at_call 21;first | (refine (HRd.out _ Kz.out).mono ?_;rintro e w10 ⟨rfl,b10⟩) | (refine (HRd.out _ HKx.out).mono ?_;rintro e w9 ⟨rfl,b9⟩;have Kz:=Lib.hid (HKx.out.trans (b9.mono HKx.out.size));have HB9:=Lib.hid b9;clear b9)))
       go_returns
       refine ⟨by rw [decide_eq_true (by omega)];rfl,?_⟩
       have s0:=HOE.out.1.st
       have b49:=HWw.out.trans (HK4.out.mono hwW)
       have hbw:=HBt.out
       have s5:=HK4.out.size
       have k10:=Kz.out.trans (b10.mono Kz.out.size)
       exact (show Below w.heap.size w wE from ⟨s0.os.trans b49.os,s0.tape.trans b49.tape,s0.output.trans b49.output,Nat.le_trans b49.size s0.size,fun b hb=>(s0.block b (by omega) (HO4.out b (by omega)) (fun e=>by rcases e with e | e <;> omega)).trans (b49.block b hb)⟩).trans (k10.mono (Nat.le_trans b49.size s0.size)))
theorem rhabitsI_any (N:Nat) (a b c e:Int) (ha:0≤a∧a≤255) (hb:0≤b∧b≤255) (hc:0≤c∧c≤255) (he:0≤e∧e≤255) (ev:Int) (hev : -9223372036854775808≤ev∧ev≤9223372036854775807) (l:List Hst.Stp) (hin:inSt l) (v:Value) (w:World) (T:Tabs N w) (hA:StArg w v l) :
  Calls Tryz.prog 4 #[.int .u8 a,.int .u8 b,.int .u8 c,v,.agg #[.int .u8 e,.int .i64 ev]] w fun e w'=>e=.returned (.bool true)∧Below w.heap.size w w':=by
 obtain ⟨p,rfl⟩:∃ p:Nat,a=p:=⟨a.toNat,by omega⟩
 obtain ⟨m,rfl⟩:∃ m:Nat,b=m:=⟨b.toNat,by omega⟩
 obtain ⟨g,rfl⟩:∃ g:Nat,c=g:=⟨c.toNat,by omega⟩
 obtain ⟨t,rfl⟩:∃ t:Nat,e=t:=⟨e.toNat,by omega⟩
 exact rhabits_any N p m g t (by omega) (by omega) (by omega) (by omega) ev hev l hin v w T hA
end Go.Proofs.YtlmmjgekolpekaaGreatDoor
namespace Go.Proofs.YtlmmjgekolpekaaGreatDoor
open Go Go.RowKit Hst Go.Proofs Go.WideShapes Go.Deep
structure Hab where
 k:Int
 e:Int
def habC (c:Hab):Array Value:=#[.int .u8 c.k,.int .i64 c.e]
def hab64 (c:Hab):Prop:=(0≤c.k∧c.k≤255)∧(-9223372036854775808≤c.e∧c.e≤9223372036854775807)
theorem open_hab1 {H:Type} {enc:TypeId × Value→H} {W:World} {fuel:Nat} {cs:List Value} {x:DataW H × List MemPlace} (h:DataW.trod enc Tryz.prog W 0 (fun _=>true) true fuel 30 cs=some x) :
  ∃ c:Hab,cs=(habC c).toList∧hab64 c:=by
 have k1:Tryz.prog.cellsOf 30=2:=by kernel_rfl
 have k3:Tryz.prog.cellsOf 5=1:=by kernel_rfl
 have k4:Tryz.prog.cellsOf 3=1:=by kernel_rfl
 obtain ⟨z0,z1,m,_,hl2,g0,g1⟩:=Go.ChangeShapes.trod_struct2 Tryz.underlying30 h
 rw [k1] at hl2
 obtain ⟨p,f0,_,hp⟩:=DataW.trod_int (k:=.u8) (by kernel_rfl) g0
 obtain ⟨q,f1,_,hq⟩:=DataW.trod_int (k:=.i64) (by kernel_rfl) g1
 dsimp only at f0 f1
 rw [k3] at f0
 rw [k4] at f1
 exact ⟨⟨p,q⟩,two hl2 f0 f1,u8_of hp,zcR hq⟩
theorem open_hab {H:Type} {enc:TypeId × Value→H} {W:World} {base:Nat} {v:Value} {d:DataW H} {p:List MemPlace} (hval:Value.okWide Tryz.prog W .any base 30 v)
  (h:DataW.Trod enc Tryz.prog W 0 (fun _=>true) true 30 v d p):∃ c:Hab,v=.agg (habC c)∧hab64 c:=by
 obtain ⟨cs,rfl,_⟩:=WideShapes.okWide_struct Tryz.underlying30 hval
 obtain ⟨fuel,hf⟩:=h
 obtain ⟨r,he,hn⟩:=open_hab1 hf
 refine ⟨r,?_,hn⟩
 have:cs.toList=(habC r).toList:=he
 rw [Array.toList_inj.1 this]
end Go.Proofs.YtlmmjgekolpekaaGreatDoor
namespace Go.Proofs.YtlmmjgekolpekaaGreatDoor.roundHabits
open Go Go.ChangeShapes Go.WideShapes Go.ChangeAt Go.RowKit Go.Proofs
theorem contract (H:Type) (enc:TypeId × Value→H) (W:World) (base:Nat) (args:Array Value) (ds gs:List (DataW H)) (before:List MemPlace)
  (hval:∀ (j:Nat) t v,Tryz.f4.params[j]?=some t→args[j]?=some v→Value.okWide Tryz.prog W .any base t v)
  (hW:DataW.Whole enc Tryz.prog Tryz.f4.params.toList Rows.roundHabitsSpec.vars false W args.toList ds gs before) (hL:laidMetH Tryz.prog Rows.roundHabitsRow.laid W) :
  Calls Tryz.prog 4 args W fun e W'=>∃ v,e=.returned v∧Rows.roundHabitsSpec.post enc Tryz.prog Tryz.f4 false true false false W args v W':=by
 have hW':=hW
 obtain ⟨p,q,hA0,hV,rfl,hfz,hnd⟩:=hW
 have hA:DataW.TrodAll enc Tryz.prog W 0 (fun _=>true) true Tryz.f4.params.toList args.toList ds p:=hA0
 rw [Tryz.params4] at hA hval
 obtain ⟨v0,vs0,d0,ds0,p0,q0,hargs,rfl,rfl,t0,r0⟩:=trodAll_cons hA
 obtain ⟨v1,vs1,d1,ds1,p1,q1,rfl,rfl,rfl,t1,r1⟩:=trodAll_cons r0
 obtain ⟨v2,vs2,d2,ds2,p2,q2,rfl,rfl,rfl,t2,r2⟩:=trodAll_cons r1
 obtain ⟨v3,vs3,d3,ds3,p3,q3,rfl,rfl,rfl,t3,r3⟩:=trodAll_cons r2
 obtain ⟨v4,vs4,d4,ds4,p4,q4,rfl,rfl,rfl,t4,r4⟩:=trodAll_cons r3
 obtain ⟨rfl,rfl,rfl⟩:=trodAll_nil r4
 obtain rfl:args=#[v0,v1,v2,v3,v4]:=by cases args;simp_all
 obtain ⟨rfl,rfl⟩:=trodVars_none hV
 obtain ⟨a0,rfl,rfl,rfl,h0⟩:=open_int Tryz.underlying5 (hval 0 5 v0 rfl rfl) t0
 obtain ⟨a1,rfl,rfl,rfl,h1⟩:=open_int Tryz.underlying5 (hval 1 5 v1 rfl rfl) t1
 obtain ⟨a2,rfl,rfl,rfl,h2⟩:=open_int Tryz.underlying5 (hval 2 5 v2 rfl rfl) t2
 obtain ⟨pa3,ca3,l3,rfl,hE3,hv3⟩:=open_sts (hval 3 22 v3 rfl rfl) t3
 obtain ⟨a4,rfl,hE4⟩:=open_hab (hval 4 30 v4 rfl rfl) t4
 clear hA0
 simp only [List.append_nil,List.nil_append] at hW' hA
 refine (rhabitsI_any W.heap.size a0 a1 a2 a4.k (u8_of h0) (u8_of h1) (u8_of h2) hE4.1 a4.e hE4.2 l3 hv3 (.slice pa3 l3.length ca3) W (tabs_of (l:=Rows.roundHabitsRow.laid) hL (by simp [Rows.roundHabitsRow]) (by simp [Rows.roundHabitsRow]) (by simp [Rows.roundHabitsRow]) (by simp [Rows.roundHabitsRow])) hE3).mono fun e W' ⟨he,hg⟩=>?_
 subst he
 exact ⟨_,rfl,post_kept (pa:=p3++p4) (pv:=[]) hW' (fun _ _ _=>trodAll_cons_mk (shut_bool Tryz.underlying4 _) trodAll_mk0)
  (fun sp hs=>DataW.TrodAll.respare kids full (by decide) (zcu hA fun x hx=>hg.same (hW'.lt x (by simpa using hx))) fun x hx=>hs x (by simpa using hx)) (fun _ _=>rfl) (by simp) (hg.frame _)⟩
theorem laid_met (os:Os):laidMet Tryz.prog Rows.roundHabitsRow.laid ((zeQ os).forCall (fun _ _=>0) ⟨#[],#[.int .u8 0,.int .u8 0,.int .u8 0,.slice none 0 0,.agg #[.int .u8 0,.int .i64 0]],[]⟩).memory :=
 laidMet_of_run' 8 (by kernel_rfl) (by kernel_rfl)
theorem reads (os:Os) {H:Type} (enc:TypeId × Value→H):∃ places,DataW.whole enc Tryz.prog ((zeQ os).forCall (fun _ _=>0) ⟨#[],#[.int .u8 0,.int .u8 0,.int .u8 0,.slice none 0 0,.agg #[.int .u8 0,.int .i64 0]],[]⟩).memory Tryz.f4.params.toList Rows.roundHabitsSpec.vars false #[Value.int .u8 0,Value.int .u8 0,Value.int .u8 0,Value.slice none 0 0,Value.agg #[.int .u8 0,.int .i64 0]].toList 8=some ([.lit (.int .u8 0),.lit (.int .u8 0),.lit (.int .u8 0),.nil,.agg [.lit (.int .u8 0),.lit (.int .i64 0)]],[],places) :=
 ⟨[],by kernel_rfl⟩
theorem lifted (os:Os) (started:os.Started) (H:Type) (enc:TypeId × Value→H) (F:Stop.Interp) :
  ReturnsInHanded {} Tryz.checked os 4 .any ((OpenSpec.ofChange Rows.roundHabitsSpec).preRow enc Tryz.prog Tryz.f4 Rows.roundHabitsRow.domain false Rows.roundHabitsRow.laid) (((OpenSpec.ofChange Rows.roundHabitsSpec).at F).post enc Tryz.prog Tryz.f4 false true false false):=by
 obtain ⟨places,hx⟩:=reads os enc
 refine returnsInHanded_of_row (C:=Tryz.checked) (s:=OpenSpec.ofChange Rows.roundHabitsSpec) own started (by kernel_rfl) Tryz.func4
  (witness_row_atRef (enc:=enc) (C:=Tryz.checked) false (zeQ os) #[.int .u8 0,.int .u8 0,.int .u8 0,.slice none 0 0,.agg #[.int .u8 0,.int .i64 0]] rfl (by kernel_rfl) (by kernel_rfl) (by kernel_rfl)
   (OpenSpec.preRow_of_cond 8 hx (by kernel_rfl) (fun k hk=>by cases hk) (by kernel_rfl) (laid_met os))) ?_
 intro W base args ds gs before hval hW _ _ _ hL _ _
 exact contract H enc W base args ds gs before hval hW hL
end Go.Proofs.YtlmmjgekolpekaaGreatDoor.roundHabits
