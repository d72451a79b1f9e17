/- Parts of the proof. -/
import Derived.Test.YtlmmjgekolpekaaGreatDoorMPq25
set_option linter.unusedVariables false
set_option linter.unusedSimpArgs false
set_option linter.unusedSectionVars false
set_option maxRecDepth 100000
set_option maxHeartbeats 6400000
namespace Go.Proofs.YtlmmjgekolpekaaGreatDoor
open Go Go.RowKit Hst Go.Proofs
theorem begin_mach (p:Wd) (i k:Nat) (hi:i<p.all.length) (hn:(p.mach i).inn=false):(p.begin_ i k).mach i={ p.mach i with inn:=true,lkN:=2*(k:Int),lkS:=2*(k:Int)+1,stage:=0,ticket:=0,times:=0 }:=by
 unfold Wd.begin_
 rw [hn,if_neg (by decide)]
 exact zaj p i _ hi
theorem zcA (p:Wd) (i k:Nat) (hn:(p.mach i).inn=true):p.begin_ i k=p:=by unfold Wd.begin_;rw [hn,if_pos rfl]
theorem begin_M (p:Wd) (i k:Nat):(p.begin_ i k).M=p.M∧(p.begin_ i k).P=p.P∧(p.begin_ i k).G=p.G:=by
 unfold Wd.begin_;split <;> exact ⟨rfl,rfl,rfl⟩
theorem zb7 (N:Nat) (p:Wd) (i k:Nat) (hi:i<p.M) (hk:k≤p.P+1) (hn:(p.mach i).inn=false):LockedOK N p i k (p.locked i k):=by
 intro F V ow w h E
 have hall:i<p.all.length:=by rw [h.lens.2.2.1];exact hi
 have e:=begin_mach p i k hall hn
 obtain ⟨eM,eP,eG⟩:=begin_M p i k
 have hs:((p.begin_ i k).mach i).stage=0:=by rw [e]
 have hl:((p.begin_ i k).mach i).lkN=((2*k:Nat):Int):=by rw [e];simp
 have er:p.locked i k=((p.begin_ i k).more (2*k)).setM i { (p.begin_ i k).mach i with ticket:=(p.begin_ i k).ld (2*k),stage:=1 }:=by
  unfold Wd.locked
  simp only [hs,hl,Int.toNat_natCast]
 rw [er]
 have:=locked_new N F V ow w p _ p h E i k false hi (by show i<(p.begin_ i k).M;omega) hk hn (step_take N (p.begin_ i k) i (2*k) (by omega) hs hl (by unfold nWords;omega)) (fun h=>by cases h)
 simpa using this
theorem zb5 (N:Nat) (p:Wd) (i k:Nat) (hi:i<p.M) (hk:k≤p.P+1) (hn:(p.mach i).inn=true) (hs:(p.mach i).stage=1) (hl:(p.mach i).lkS=((2*k+1:Nat):Int)) (ht:(p.mach i).ticket<18446744073709551616):LockedOK N p i k (p.locked i k):=by
 intro F V ow w h E
 have er:p.locked i k=if p.ld (2*k+1)=(p.mach i).ticket then p.acc.setM i { p.mach i with stage:=2 } else p.acc:=by
  unfold Wd.locked
  rw [zcA p i k hn]
  simp only [hs,hl,Int.toNat_natCast]
 rw [er]
 have:=zdh N F V ow w p _ p h E i k false hi (by split <;> exact hi) hn (step_wait N p i (2*k+1) hi hs hl (by unfold nWords;omega) ht) (fun h=>by cases h)
 simpa using this
theorem zds (N:Nat) (p:Wd) (i k:Nat) (hi:i<p.M) (hn:(p.mach i).inn=true) (hs:(p.mach i).stage=2)
  (hd:DoOK N p i (p.mach i).times (p.doIt i (p.mach i).times).1 (p.doIt i (p.mach i).times).2) (hi':i<(p.doIt i (p.mach i).times).1.M) (hs':((p.doIt i (p.mach i).times).1.mach i).stage=2):LockedOK N p i k (p.locked i k):=by
 intro F V ow w h E
 have er:p.locked i k=(p.doIt i (p.mach i).times).1.setM i { (p.doIt i (p.mach i).times).1.mach i with times:=wrap64 (((p.doIt i (p.mach i).times).1.mach i).times+1),stage:=if (p.doIt i (p.mach i).times).2 then 2 else 3 }:=by
  unfold Wd.locked
  rw [zcA p i k hn]
  simp only [hs]
 rw [er]
 have:=zdh N F V ow w p _ p h E i k false hi (by exact hi') hn (step_do N p _ i _ hi hs hd hi' hs') (fun h=>by cases h)
 simpa using this
theorem zb8 (N:Nat) (p:Wd) (i k:Nat) (hi:i<p.M) (hk:k≤p.P+1) (hn:(p.mach i).inn=true) (hs:(p.mach i).stage=3) (hl:(p.mach i).lkS=((2*k+1:Nat):Int)) (ht:(p.mach i).ticket<18446744073709551616) (he:p.ld (2*k+1)=(p.mach i).ticket)
  (hthen:ThenOK N ((p.acc.st (2*k+1) (((p.mach i).ticket+1) % 2^64)).setM i { p.mach i with stage:=4,inn:=false }) i (((p.acc.st (2*k+1) (((p.mach i).ticket+1) % 2^64)).setM i { p.mach i with stage:=4,inn:=false }).andThen i)):LockedOK N p i k (p.locked i k):=by
 intro F V ow w h E
 have hall:i<p.all.length:=by rw [h.lens.2.2.1];exact hi
 have er:p.locked i k=(((p.acc.st (2*k+1) (((p.mach i).ticket+1) % 2^64)).setM i { p.mach i with stage:=4,inn:=false }).andThen i):=by
  unfold Wd.locked
  rw [zcA p i k hn]
  simp only [hs,hl,Int.toNat_natCast]
 rw [er]
 have:=zdh N F V ow w p _ _ h E i k true hi (by exact hi) hn (step_free N p i (2*k+1) hi hs hl (by unfold nWords;omega) ht he) (fun _=>by
  rw [zaj _ _ _ (by exact hall),zao];exact hthen)
 simpa using this
def StepsTo (N:Nat) (p p':Wd):Prop:=∀ (F:Fix) (V:Vol) (ow:Nat→Nat) (w:World),WAt F V ow w p→Env N ow w →
 Calls Tryz.prog 59 #[.pointer (some ⟨F.W,0,none⟩),.agg #[.int .u8 0,.int .u8 0,.int .i64 0,.int .i64 0,.int .i64 0]] w fun e w'=>e=.returned (.bool true)∧∃ V' ow',On F V' ow w ow' w' p'
theorem zbf (N:Nat) (p p':Wd) (hi:0<p.M) (hpl:(p.mach 0).place<31) (h0:(p.mach 0).place≠0) (h16:(p.mach 0).place≠16) (hne:lockK (p.mach 0).place≠3)
  (hk:(∃ k:Nat,lockI p.P (p.mach 0)=k∧LockedOK N p 0 k p')∨(lockI p.P (p.mach 0)<0∧BareOK N p 0 p')):StepsTo N p p':=fun _ _ _ _ h E =>
 step_pick h 0 0 0 0 true fun _ _ h1 e a =>
  zdf N h1 ⟨E.tabs.below (fun b hb=>a.2 b (Nat.lt_of_lt_of_le hb E.tabs.le) (E.low b hb)) (Nat.le_trans E.tabs.le a.1),fun b hb=>(e b (Nat.lt_of_lt_of_le hb E.tabs.le)).trans (E.low b hb)⟩ 0 hi hpl h0 h16 hne hk 0 0 0 0
def l0:Wd:=Wd.new 1 1 1
def l1:Wd:=l0.bare 0
def l2:Wd:=l1.locked 0 1
def l3:Wd:=l2.locked 0 1
def l4:Wd:=l3.locked 0 1
def l5:Wd:=l4.locked 0 1
def l6:Wd:=l5.locked 0 0
def l7:Wd:=l6.locked 0 0
def l8:Wd:=l7.locked 0 0
def l9:Wd:=l8.locked 0 0
def l10:Wd:=l9.bare 0
theorem go1 (N:Nat):StepsTo N l0 l1 :=
 zbf N l0 l1 (by decide) (by decide +kernel) (by decide +kernel) (by decide +kernel) (by decide +kernel) (.inr ⟨by decide +kernel,bare_1 N l0 0 0 (by decide +kernel) (by decide +kernel) (by kernel_rfl) (by kernel_rfl)⟩)
theorem go2 (N:Nat):StepsTo N l1 l2 :=
 zbf N l1 l2 (by decide +kernel) (by decide +kernel) (by decide +kernel) (by decide +kernel) (by decide +kernel) (.inl ⟨1,by kernel_rfl,zb7 N l1 0 1 (by decide +kernel) (by decide +kernel) (by kernel_rfl)⟩)
theorem go3 (N:Nat):StepsTo N l2 l3 :=
 zbf N l2 l3 (by decide +kernel) (by decide +kernel) (by decide +kernel) (by decide +kernel) (by decide +kernel) (.inl ⟨1,by kernel_rfl,zb5 N l2 0 1 (by decide +kernel) (by decide +kernel) (by kernel_rfl) (by kernel_rfl) (by kernel_rfl) (by decide +kernel)⟩)
theorem go4 (N:Nat):StepsTo N l3 l4 :=
 zbf N l3 l4 (by decide +kernel) (by decide +kernel) (by decide +kernel) (by decide +kernel) (by decide +kernel) (.inl ⟨1,by kernel_rfl,zds N l3 0 1 (by decide +kernel) (by kernel_rfl) (by kernel_rfl) (do_local N l3 0 0 _ (by decide +kernel) (by decide +kernel) (by kernel_rfl) (by kernel_rfl)) (by decide +kernel) (by kernel_rfl)⟩)
theorem go5 (N:Nat):StepsTo N l4 l5 :=
 zbf N l4 l5 (by decide +kernel) (by decide +kernel) (by decide +kernel) (by decide +kernel) (by decide +kernel) (.inl ⟨1,by kernel_rfl,zb8 N l4 0 1 (by decide +kernel) (by decide +kernel) (by kernel_rfl) (by kernel_rfl) (by kernel_rfl) (by decide +kernel) (by kernel_rfl) (then_3 N _ 0 (by decide +kernel) (by kernel_rfl) (by decide +kernel))⟩)
theorem go6 (N:Nat):StepsTo N l5 l6 :=
 zbf N l5 l6 (by decide +kernel) (by decide +kernel) (by decide +kernel) (by decide +kernel) (by decide +kernel) (.inl ⟨0,by kernel_rfl,zb7 N l5 0 0 (by decide +kernel) (by decide +kernel) (by kernel_rfl)⟩)
theorem go7 (N:Nat):StepsTo N l6 l7 :=
 zbf N l6 l7 (by decide +kernel) (by decide +kernel) (by decide +kernel) (by decide +kernel) (by decide +kernel) (.inl ⟨0,by kernel_rfl,zb5 N l6 0 0 (by decide +kernel) (by decide +kernel) (by kernel_rfl) (by kernel_rfl) (by kernel_rfl) (by decide +kernel)⟩)
theorem go8 (N:Nat):StepsTo N l7 l8 :=
 zbf N l7 l8 (by decide +kernel) (by decide +kernel) (by decide +kernel) (by decide +kernel) (by decide +kernel) (.inl ⟨0,by kernel_rfl,zds N l7 0 0 (by decide +kernel) (by kernel_rfl) (by kernel_rfl) (do_global N l7 0 _ (by decide +kernel) (by kernel_rfl) (by decide +kernel)) (by decide +kernel) (by kernel_rfl)⟩)
theorem go9 (N:Nat):StepsTo N l8 l9 :=
 zbf N l8 l9 (by decide +kernel) (by decide +kernel) (by decide +kernel) (by decide +kernel) (by decide +kernel) (.inl ⟨0,by kernel_rfl,zb8 N l8 0 0 (by decide +kernel) (by decide +kernel) (by kernel_rfl) (by kernel_rfl) (by kernel_rfl) (by decide +kernel) (by kernel_rfl) (then_4 N _ 0 (by decide +kernel) (by kernel_rfl) (by decide +kernel))⟩)
theorem go10 (N:Nat):StepsTo N l9 l10 :=
 zbf N l9 l10 (by decide +kernel) (by decide +kernel) (by decide +kernel) (by decide +kernel) (by decide +kernel) (.inr ⟨by decide +kernel,bare_20 N l9 0 (by decide +kernel) (by kernel_rfl) (by kernel_rfl) (by decide +kernel)⟩)
def lk:Nat→Wd
 | 0=>l0 | 1=>l1 | 2=>l2 | 3=>l3 | 4=>l4 | 5=>l5 | 6=>l6 | 7=>l7 | 8=>l8 | 9=>l9 | _=>l10
theorem go_k (N:Nat):∀ k,k<10→StepsTo N (lk k) (lk (k+1))
 | 0,_=>go1 N | 1,_=>go2 N | 2,_=>go3 N | 3,_=>go4 N | 4,_=>go5 N | 5,_=>go6 N | 6,_=>go7 N | 7,_=>go8 N | 8,_=>go9 N | 9,_=>go10 N
 | k+10,h=>absurd h (by omega)
theorem l10_facts:(l10.mach 0).g=0∧(l10.mach 0).place=0∧l10.stat 0=2∧l10.log.length=2∧(l10.mach 0).rest.length=0:=⟨by kernel_rfl,by kernel_rfl,by kernel_rfl,by kernel_rfl,by kernel_rfl⟩
theorem lives_any (N:Nat) (w:World) (T:Tabs N w):Calls Tryz.prog 41 #[] w fun e w'=>e=.returned (.bool true)∧Below w.heap.size w w':=by
 have hn:Calls Tryz.prog 67 #[.agg #[.int .i64 1,.int .i64 1,.int .i64 1]] w _:=new_ok 1 1 1 N (by unfold dims;decide) w T
 have HN:=Lib.hid hn
 have HT:=Lib.hid T
 clear hn T
 go_enter Tryz.func41,Tryz.ntmps41
 go_wp2_with fail
 refine HN.out.mono ?_
 rintro e w1 ⟨F,V,ow,rfl,hA,hlow,hb⟩
 have hE:Env N ow w1:=⟨HT.out.of_below hb HT.out.le,fun b hlt=>hlow b (Nat.lt_of_lt_of_le hlt HT.out.le)⟩
 have H0:=Lib.hid (show ∃ V ow,WAt F V ow w1 (lk 0)∧Env N ow w1∧(∀ b,b<w.heap.size→ow b=0)∧Below w.heap.size w w1 from ⟨V,ow,hA,hE,hlow,hb⟩)
 clear hA hE hlow hb HN HT
 go_wp2
 go_loopw [14] (fun i wr=>∃ k:Nat,k≤10∧i=.int .i64 k∧∃ V ow,WAt F V ow wr (lk k)∧Env N ow wr∧(∀ b,b<w.heap.size→ow b=0)∧Below w.heap.size w wr) (fun i _=>10 - (intOf i).toNat)
 case atStart=>exact ⟨0,Nat.zero_le _,rfl,H0.out⟩
 case round =>
  obtain ⟨k,hk,rfl,V,ow,hA,hE,hlow,hb⟩:=hrel
  by_cases hlt:k<10
  ·have hg:=go_k N k hlt F V ow wr hA hE
   have HG:=Lib.hid hg
   have HL:=Lib.hid hlow
   have HB:=Lib.hid hb
   have HE:=Lib.hid hE
   clear hg hA hE hlow hb
   go_wp2_with fail
   refine HG.out.mono ?_
   rintro e w2 ⟨rfl,V2,ow2,h2⟩
   have hR:∃ V ow,WAt F V ow w2 (lk (k+1))∧Env N ow w2∧(∀ b,b<w.heap.size→ow b=0)∧Below w.heap.size w w2 :=
    ⟨V2,ow2,h2.at_,HE.out.on h2,fun b hb=>(h2.st.own b (Nat.lt_of_lt_of_le hb HB.out.size)).trans (HL.out b hb),HB.out.trans (h2.st.below HB.out.size HL.out)⟩
   have HR:=Lib.hid hR
   clear hR h2
   go_wp2
   go_roundw
   case rel=>exact ⟨k+1,by omega,by go_num,HR.out⟩
   case measure=>simp [intOf];omega
  ·obtain rfl:k=10:=by omega
   obtain ⟨f1,f2,f3,f4,f5⟩:=l10_facts
   have hm:=fun (w2:World) (h2:Below wr.heap.size wr w2)=>zdZ ((On.start hA).below h2).at_ 0 (by decide +kernel) (by show (l10.mach 0).rest.length≤_;rw [f5];decide)
   have hs:=fun (w2:World) (h2:Below wr.heap.size wr w2)=>status_on ((On.start hA).below h2).at_ 0 (by decide)
   have he:=fun (w2:World) (h2:Below wr.heap.size wr w2)=>zdK ((On.start hA).below h2).at_ (by show 0<l10.log.length;rw [f4];decide) (by show l10.log.length≤_;rw [f4];decide)
   have g1:((lk 10).mach 0).g=0:=f1
   have g2:((lk 10).mach 0).place=0:=f2
   have g3:(lk 10).stat 0=2:=f3
   have g4:(lk 10).log.length=2:=f4
   simp only [encM,g1,g2,g3,g4] at hm hs he
   generalize (lk 10).mach 0=m at hm
   generalize (lk 10).log=lg at he
   have hf2:∀ (a:Option Addr) (n c:Nat) (w:World),(Instr.field 52 (.agg #[.int .i64 0,.int .i64 m.p,.int .i64 0,.int .i64 m.next,.int .i64 m.got,.int .i64 m.target,.int .i64 m.i,.bool m.spin,.bool m.inn,.slice a n c,.int .i64 m.back,.int .i64 m.after,.int .i64 m.arg,.int .i64 m.lkN,.int .i64 m.lkS,.int .i64 m.stage,.int .u64 m.ticket,.int .i64 m.times]) 2).run Tryz.prog w=.ok (.int .i64 0) w:=by intros;kernel_rfl
   have hf0:∀ (a:Option Addr) (n c:Nat) (w:World),(Instr.field 52 (.agg #[.int .i64 0,.int .i64 m.p,.int .i64 0,.int .i64 m.next,.int .i64 m.got,.int .i64 m.target,.int .i64 m.i,.bool m.spin,.bool m.inn,.slice a n c,.int .i64 m.back,.int .i64 m.after,.int .i64 m.arg,.int .i64 m.lkN,.int .i64 m.lkS,.int .i64 m.stage,.int .u64 m.ticket,.int .i64 m.times]) 0).run Tryz.prog w=.ok (.int .i64 0) w:=by intros;kernel_rfl
   have HM:=Lib.hid hm
   have HS:=Lib.hid hs
   have HV:=Lib.hid he
   have HB:=Lib.hid hb
   clear hm hs he hA hE hlow hb f1 f2 f3 f4 f5 g1 g2 g3 g4 hlt hk
   go_wp2_with fail
   refine (HM.out wr (Below.refl _ wr)).mono ?_
   rintro e w2 ⟨v2,rfl,o2,b2⟩
   obtain ⟨a2,c2,rfl⟩:=zac o2
   clear o2
   go_wp2_with fail
   refine (HM.out w2 b2).mono ?_
   rintro e w3 ⟨v3,rfl,o3,b3⟩
   obtain ⟨a3,c3,rfl⟩:=zac o3
   clear o3
   have hb3:=b2.trans (b3.mono b2.size)
   have B3:=Lib.hid hb3
   clear b2 b3 hb3
   go_wp2_with fail
   refine (HS.out w3 B3.out).mono ?_
   rintro e w4 ⟨rfl,b4⟩
   have hb4:=B3.out.trans (b4.mono B3.out.size)
   have B4:=Lib.hid hb4
   clear b4 hb4 B3
   go_wp2_with fail
   refine (HV.out w4 B4.out).mono ?_
   rintro e w5 ⟨v5,rfl,o5,b5⟩
   obtain ⟨a5,c5,rfl⟩:=zac o5
   clear o5
   have B5:=Lib.hid (HB.out.trans ((B4.out.trans (b5.mono B4.out.size)).mono HB.out.size))
   clear b5 B4
   go_wp2
   go_returns
   exact ⟨rfl,B5.out⟩
end Go.Proofs.YtlmmjgekolpekaaGreatDoor
