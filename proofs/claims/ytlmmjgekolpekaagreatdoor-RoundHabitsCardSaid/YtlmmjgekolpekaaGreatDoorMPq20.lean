/- Parts of the proof. -/
import Derived.Test.YtlmmjgekolpekaaGreatDoorMPq19
set_option linter.unusedVariables false
set_option linter.unusedSimpArgs false
set_option linter.unusedSectionVars false
set_option maxRecDepth 100000
set_option maxHeartbeats 6400000
namespace Go.Proofs.YtlmmjgekolpekaaGreatDoor
open Go Go.RowKit Hst Go.Proofs
section
variable {F:Fix} {V:Vol} {ow:Nat→Nat} {w:World} {p:Wd}
theorem out_gone29 {N:Nat} (h:WAt F V ow w p) (E:Env N ow w) (i:Nat) (t:Int) (hi:i<p.M) (ht:¬ t=0) (hpl:(p.mach i).place=29) (hr:zeh ⟨5,(p.mach i).g,i,(p.mach i).p,(p.mach i).arg⟩=true) (hbig:p.log.length<4294967296) :
  Calls Tryz.prog 212 #[.pointer (some ⟨F.W,0,none⟩),.int .i64 i,.int .i64 t] w fun e w'=>e=.returned (.bool (p.out i t).2)∧∃ V' ow',On F V' ow w ow' w' (p.out i t).1:=by
 obtain ⟨ws,cnt,hsh⟩:=zaU p (p.mach i).g 2 4
 have e:p.out i t=((({ p with ws:=ws,cnt:=cnt }:Wd).add i 5 (p.mach i).g (p.mach i).arg).setM i { p.mach i with g:=-1 },false):=by
  unfold Wd.out;dsimp only;rw [if_neg (by rw [hpl];decide),if_neg ht,hsh];rfl
 rw [e]
 have c13:=h.cW_all
 have c3:=h.cW_mem
 have c6:=h.cW_from
 have c7:=h.cW_n
 have c0:=h.cA_place hi
 have c2:=h.cA_g hi
 have hM:=h.dim
 have hcap:=h.own_cap
 rw [hpl] at c0
 unfold dims at hM
 have hmv:=zbZ ((On.start h).drew).at_ (E.on (On.start h).drew) (p.mach i).g 2 4 (by decide) (by decide) (by decide)
 obtain ⟨fr,hfr⟩:∃ fr:Int,fr=((2*(p.P+2)+1+p.M:Nat):Int):=⟨_,rfl⟩
 rw [← hfr] at c6 hmv
 rw [hsh] at hmv
 have HM:=Lib.hid hmv
 have H:=Lib.hid h
 have HE:=Lib.hid E
 have HR:=Lib.hid hr
 clear h E e hpl hmv hfr hr hsh
 go_enter Tryz.func212,Tryz.ntmps212
 go_wp2
 go_still_tail 9,(by kernel_rfl)
 change wpList _ _ _ _ _ w.drew
 go_wp2_with fail
 refine HM.out.mono ?_
 rintro e w1 ⟨rfl,ow1,h1⟩
 have d4:w1.cell? ⟨F.all,i*18+12,none⟩=some (.int .i64 (p.mach i).arg):=h1.at_.cA_arg hi
 have H1:=Lib.hid ((On.start H.out).drew.then_ h1)
 have had:=zdS h1.at_ ((HE.out.on (On.start H.out).drew).on h1) i hi 5 (p.mach i).g (p.mach i).arg HR.out hbig
 have HA:=Lib.hid had
 clear had h1 c13 c3 c6 c7 c0 c2
 go_wp2_with fail
 refine HA.out.mono ?_
 rintro e w2 ⟨rfl,V2,ow2,_,h2⟩
 have d2:w2.cell? ⟨F.all,i*18+2,none⟩=some (.int .i64 (p.mach i).g):=h2.at_.cA_g hi
 have fA:=h2.at_.call.2
 have H2:=Lib.hid (H1.out.then_ h2)
 clear h2 d4
 go_wp2
 go_returns
 exact ⟨rfl,V2,_,((OnM.of_on H2.out hi).s_g _).fin rfl⟩
theorem out_gone30 {N:Nat} (h:WAt F V ow w p) (E:Env N ow w) (i:Nat) (t:Int) (hi:i<p.M) (ht:¬ t=0) (hpl:(p.mach i).place=30) (hr:zeh ⟨6,(p.mach i).g,i,(p.mach i).p,(p.mach i).arg⟩=true) (hbig:p.log.length<4294967296) :
  Calls Tryz.prog 212 #[.pointer (some ⟨F.W,0,none⟩),.int .i64 i,.int .i64 t] w fun e w'=>e=.returned (.bool (p.out i t).2)∧∃ V' ow',On F V' ow w ow' w' (p.out i t).1:=by
 obtain ⟨ws,cnt,hsh⟩:=zaU p (p.mach i).g 2 5
 have e:p.out i t=((({ p with ws:=ws,cnt:=cnt }:Wd).add i 6 (p.mach i).g (p.mach i).arg).setM i { p.mach i with g:=-1 },false):=by
  unfold Wd.out;dsimp only;rw [if_pos hpl,if_neg ht,hsh];rfl
 rw [e]
 have c13:=h.cW_all
 have c3:=h.cW_mem
 have c6:=h.cW_from
 have c7:=h.cW_n
 have c0:=h.cA_place hi
 have c2:=h.cA_g hi
 have hM:=h.dim
 have hcap:=h.own_cap
 rw [hpl] at c0
 unfold dims at hM
 have hmv:=zbZ ((On.start h).drew).at_ (E.on (On.start h).drew) (p.mach i).g 2 5 (by decide) (by decide) (by decide)
 obtain ⟨fr,hfr⟩:∃ fr:Int,fr=((2*(p.P+2)+1+p.M:Nat):Int):=⟨_,rfl⟩
 rw [← hfr] at c6 hmv
 rw [hsh] at hmv
 have HM:=Lib.hid hmv
 have H:=Lib.hid h
 have HE:=Lib.hid E
 have HR:=Lib.hid hr
 clear h E e hpl hmv hfr hr hsh
 go_enter Tryz.func212,Tryz.ntmps212
 go_wp2
 go_still_tail 9,(by kernel_rfl)
 change wpList _ _ _ _ _ w.drew
 go_wp2_with fail
 refine HM.out.mono ?_
 rintro e w1 ⟨rfl,ow1,h1⟩
 have d4:w1.cell? ⟨F.all,i*18+12,none⟩=some (.int .i64 (p.mach i).arg):=h1.at_.cA_arg hi
 have H1:=Lib.hid ((On.start H.out).drew.then_ h1)
 have had:=zdS h1.at_ ((HE.out.on (On.start H.out).drew).on h1) i hi 6 (p.mach i).g (p.mach i).arg HR.out hbig
 have HA:=Lib.hid had
 clear had h1 c13 c3 c6 c7 c0 c2
 go_wp2_with fail
 refine HA.out.mono ?_
 rintro e w2 ⟨rfl,V2,ow2,_,h2⟩
 have d2:w2.cell? ⟨F.all,i*18+2,none⟩=some (.int .i64 (p.mach i).g):=h2.at_.cA_g hi
 have fA:=h2.at_.call.2
 have H2:=Lib.hid (H1.out.then_ h2)
 clear h2 d4
 go_wp2
 go_returns
 exact ⟨rfl,V2,_,((OnM.of_on H2.out hi).s_g _).fin rfl⟩
theorem out_wait (h:WAt F V ow w p) (i fd:Nat) (c:Int) (due:Bool) (s':Src) (hi:i<p.M) (hpl:(p.mach i).place=30) (hfd:(p.mach i).arg=(fd:Int)) (hf:fd<65536)
  (hc:Calls Tryz.prog 235 #[.pointer (some ⟨F.src,0,none⟩),.int .u16 fd,.int .i64 (p.mach i).g] w.drew fun e w'=>e=.returned (.tuple #[.bool due,.int .i64 c])∧On F V ow w (grow ow w.heap.size 7) w' { p with src:=s' }) :
  Calls Tryz.prog 212 #[.pointer (some ⟨F.W,0,none⟩),.int .i64 i,.int .i64 0] w fun e w'=>e=.returned (.bool (c==0))∧∃ V' ow',On F V' ow w ow' w' (({ p with src:=s' }:Wd).setF i due):=by
 have c13:=h.cW_all
 have c11:=h.cW_src
 have c0:=h.cA_place hi
 have c2:=h.cA_g hi
 have c12:=h.cA_arg hi
 have hM:=h.dim
 have hcap:=h.own_cap
 rw [hpl] at c0
 rw [hfd] at c12
 unfold dims at hM
 have wf:IntKind.u16.wrap (fd:Int)=(fd:Int):=IntWalk.u16_in _ (by omega)
 have c12x:=Lib.hid (show some (Value.int .i64 (p.mach i).arg)=some (.int .i64 fd) by rw [hfd])
 have H:=Lib.hid h
 have HC:=Lib.hid hc
 clear h hc hpl hfd
 go_enter Tryz.func212,Tryz.ntmps212
 go_wp2
 go_region_held3 (fun w'=>w'.cell? ⟨F.W,11,none⟩=some (.pointer (some ⟨F.src,0,none⟩))∧w'.cell? ⟨F.all,i*18+12,none⟩=some (.int .i64 fd))
  (first | exact ⟨c11,c12⟩ | exact ⟨k11,k12⟩)
  (first | (go_at_call 235;refine HC.out.mono ?_;rintro e w1 ⟨rfl,h1⟩;have k11:w1.cell? ⟨F.W,11,none⟩=some (.pointer (some ⟨F.src,0,none⟩)):=h1.at_.cW_src;have k12:w1.cell? ⟨F.all,i*18+12,none⟩=some (.int .i64 fd):=(h1.at_.cA_arg hi).trans c12x.out;have k14:w1.cell? ⟨F.W,14,none⟩=some (.slice (some ⟨F.flag,0,none⟩) p.M p.M):=h1.at_.cW_flag;have kf:=h1.at_.cF hi;have kF:=h1.at_.cflag.2;have H1:=Lib.hid h1;clear h1))
 go_wp2
 go_returns
 exact ⟨rfl,V,_,H1.out.s_flag hi _⟩
theorem out_sleep (h:WAt F V ow w p) (i q:Nat) (now:Int) (due:Bool) (s':Src) (hi:i<p.M) (hpl:(p.mach i).place=29) (hq:(p.mach i).p=(q:Int)) (hn:0≤now∧now≤9223372036854775807)
  (ha : -9223372036854775808≤(p.mach i).arg∧(p.mach i).arg≤9223372036854775807)
  (hN:∀ w1,Below w.heap.size w w1→Calls Tryz.prog 31 #[.pointer (some ⟨F.src,0,none⟩)] w1 fun e w'=>e=.returned (.int .i64 now)∧w'=w1)
  (hc:∀ w1,Below w.heap.size w w1→Calls Tryz.prog 236 #[.pointer (some ⟨F.src,0,none⟩),.int .i64 q,.int .i64 (p.mach i).g,.int .i64 (p.mach i).arg] w1 fun e w'=>e=.returned (.tuple #[.bool due,.int .i64 0])∧∃ ow',On F V ow w ow' w' { p with src:=s' }) :
  Calls Tryz.prog 212 #[.pointer (some ⟨F.W,0,none⟩),.int .i64 i,.int .i64 0] w fun e w'=>e=.returned (.bool true)∧∃ V' ow',On F V' ow w ow' w' ((({ p with src:=s' }:Wd).setF i due).setM i { p.mach i with arg:=sumT now (max 0 (p.mach i).arg) }):=by
 have c13:=h.cW_all
 have c11:=h.cW_src
 have c14:=h.cW_flag
 have c0:=h.cA_place hi
 have c1:=h.cA_p hi
 have c2:=h.cA_g hi
 have c12:=h.cA_arg hi
 have hM:=h.dim
 have hcap:=h.own_cap
 rw [hpl] at c0
 rw [hq] at c1
 unfold dims at hM
 have hsum:=fun w1=>sum_any now (max 0 (p.mach i).arg) hn (by omega) w1
 obtain ⟨g,hg⟩:∃ g,g=(p.mach i).g:=⟨_,rfl⟩
 obtain ⟨d,hd⟩:∃ d,d=(p.mach i).arg:=⟨_,rfl⟩
 rw [← hg] at c2 hc
 rw [← hd] at c12 hc hsum ⊢
 have hqx:=Lib.hid (show some (Value.int .i64 (p.mach i).p)=some (.int .i64 q) by rw [hq])
 have hdx:=Lib.hid (show some (Value.int .i64 (p.mach i).arg)=some (.int .i64 d) by rw [hd])
 have H:=Lib.hid h
 have HC:=Lib.hid hc
 have HN:=Lib.hid hN
 have HS:=Lib.hid hsum
 obtain ⟨nf1,nf2,nf3,na1,na2,na3⟩:=h.own.nf
 have b0:=Lib.hid (Below.refl w.heap.size w)
 clear h hc hpl hq hN hsum hg hd ha hn
 go_enter Tryz.func212,Tryz.ntmps212
 go_wp2
 go_region_held3 (fun w'=>w'.cell? ⟨F.W,11,none⟩=some (.pointer (some ⟨F.src,0,none⟩))∧w'.cell? ⟨F.all,i*18+12,none⟩=some (.int .i64 d))
  (first | exact ⟨c11,c12⟩)
  (first | (go_at_call 31;refine (HN.out w.drew b0.out.drew).mono ?_;rintro e w1 ⟨rfl,hw⟩;have hw:=hw.symm;subst hw) | (go_at_call 216;refine (HS.out w.drew).mono ?_;rintro e w1 ⟨rfl,hw⟩;have hw:=hw.symm;subst hw))
 go_wp2
 all_goals (
  go_region_held3 (fun w'=>w'.cell? ⟨F.W,11,none⟩=some (.pointer (some ⟨F.src,0,none⟩))∧w'.cell? ⟨F.W,14,none⟩=some (.slice (some ⟨F.flag,0,none⟩) p.M p.M)∧w'.cell? ⟨F.all,i*18+1,none⟩=some (.int .i64 q)∧w'.cell? ⟨F.all,i*18+12,none⟩=some (.int .i64 d))
   (first | exact ⟨c11,c14,c1,c12⟩ | exact ⟨k11,k14,k1,k12⟩ | exact ⟨(cell_far nf1 _).trans k11,(cell_far nf1 _).trans k14,(cell_far nf2 _).trans k1,(cell_far nf2 _).trans k12⟩)
   (first | (go_at_call 236;refine (HC.out w.drew.drew b0.out.drew.drew).mono ?_;rintro e w1 ⟨rfl,ow1,h1⟩;have k11:w1.cell? ⟨F.W,11,none⟩=some (.pointer (some ⟨F.src,0,none⟩)):=h1.at_.cW_src;have k1:w1.cell? ⟨F.all,i*18+1,none⟩=some (.int .i64 q):=(h1.at_.cA_p hi).trans hqx.out;have k12:w1.cell? ⟨F.all,i*18+12,none⟩=some (.int .i64 d):=(h1.at_.cA_arg hi).trans hdx.out;have k14:w1.cell? ⟨F.W,14,none⟩=some (.slice (some ⟨F.flag,0,none⟩) p.M p.M):=h1.at_.cW_flag;have kf:=h1.at_.cF hi;have kF:=h1.at_.cflag.2;have fA:=h1.at_.call.2;have H1:=Lib.hid h1;clear h1))
  have d12:=((H1.out.s_flag hi due).at_.cA_arg hi).trans hdx.out
  go_wp2
  go_returns
  exact ⟨rfl,V,_,((OnM.of_on (H1.out.s_flag hi due) hi).s_arg _).fin rfl⟩)
end
theorem do_out (N:Nat) (p p':Wd) (i:Nat) (t:Int) (more:Bool) (hi:i<p.M) (hpl:(p.mach i).place=29∨(p.mach i).place=30)
  (hc:∀ (F:Fix) (V:Vol) (ow:Nat→Nat) (w:World),WAt F V ow w p→Env N ow w→Calls Tryz.prog 212 #[.pointer (some ⟨F.W,0,none⟩),.int .i64 i,.int .i64 t] w fun e w'=>e=.returned (.bool more)∧∃ V' ow',On F V' ow w ow' w' p'):DoOK N p i t p' more:=by
 intro F V ow w h E
 have c13:=h.cW_all
 have c0:=h.cA_place hi
 have hM:=h.dim
 have hcap:=h.own_cap
 unfold dims at hM
 have hf:=hc F V ow w h E
 have HF:=Lib.hid hf
 clear h E hf hc
 rcases hpl with hpl | hpl
 all_goals (
  rw [hpl] at c0
  clear hpl
  go_enter Tryz.func178,Tryz.ntmps178
  go_wp2_with fail
  refine HF.out.mono ?_
  rintro e w1 ⟨rfl,V1,ow1,h1⟩
  go_wp2
  go_returns
  exact ⟨rfl,V1,_,h1⟩)
theorem do_29 (N:Nat) (p:Wd) (i q:Nat) (t:Int) (hi:i<p.M) (hpl:(p.mach i).place=29) (ok:SrcOK p.src p.G) (hq:(p.mach i).p=(q:Int)) (hqP:q<p.P)
  (ha : -9223372036854775808≤(p.mach i).arg∧(p.mach i).arg≤9223372036854775807)
  (h0:t=0→0≤(p.mach i).g∧(p.mach i).g<4096∧p.src.hasT (p.mach i).g=false∧p.src.hasP (p.mach i).g=false∧SrcOK (p.src.sleep (p.mach i).g (p.mach i).arg) p.G)
  (h1:¬ t=0→zeh ⟨5,(p.mach i).g,i,(p.mach i).p,(p.mach i).arg⟩=true) (hbig:p.log.length<4294967296):DoOK N p i t (p.doIt i t).1 (p.doIt i t).2:=by
 have e0:p.doIt i t=p.out i t:=by unfold Wd.doIt;simp only [hpl]
 rw [e0]
 by_cases ht:t=0
 ·subst ht
  obtain ⟨g1,g2,hT,hPn,ok'⟩:=h0 rfl
  have e:p.out i 0=((({ p with src:=p.src.sleep (p.mach i).g (p.mach i).arg }:Wd).setF i (p.src.sleep (p.mach i).g (p.mach i).arg).due).setM i { p.mach i with arg:=sumT p.src.now (max 0 (p.mach i).arg) },true):=by
   unfold Wd.out;dsimp only;rw [if_neg (by rw [hpl];decide),if_pos rfl]
  rw [e]
  refine do_out N p _ i 0 true hi (.inl hpl) fun F V ow w h E=>?_
  obtain ⟨B,hs,hv,wl,hl,h7⟩:=h.src7
  have hM:=h.dim
  unfold dims at hM
  have lb:=World.block_lt_of_cell? w _ h7.c0
  simp only at lb
  refine out_sleep h i q p.src.now _ _ hi hpl hq ok.now ha (fun w1 hb=>zc4 p.src.now ((below_cell hb lb).trans h7.c0)) fun w1 hb=>?_
  have h1:=(On.start h).belowK hb 7
  obtain ⟨B,hs,hv,wl,hl,h7⟩:=h1.at_.src7
  refine (ssleep_ok h7 ok ⟨hM.1,hM.2.1⟩ q _ _ hqP ⟨g1,g2⟩ ha hT hPn ok').mono ?_
  rintro e w2 ⟨rfl,⟨hs',hv',hl',hx⟩,hm⟩
  exact ⟨rfl,_,h1.srcH hx hm⟩
 ·exact do_out N p _ i t _ hi (.inl hpl) fun F V ow w h E=>out_gone29 h E i t hi ht hpl (h1 ht) hbig
theorem do_30 (N:Nat) (p:Wd) (i:Nat) (t:Int) (hi:i<p.M) (hpl:(p.mach i).place=30) (ok:SrcOK p.src p.G)
  (ha:0≤(p.mach i).arg∧(p.mach i).arg<65536)
  (h0:t=0→0≤(p.mach i).g∧(p.mach i).g<4096∧p.src.hasT (p.mach i).g=false∧SrcOK (p.src.wait (p.mach i).arg.toNat (p.mach i).g).1 p.G)
  (h1:¬ t=0→zeh ⟨6,(p.mach i).g,i,(p.mach i).p,(p.mach i).arg⟩=true) (hbig:p.log.length<4294967296):DoOK N p i t (p.doIt i t).1 (p.doIt i t).2:=by
 have e0:p.doIt i t=p.out i t:=by unfold Wd.doIt;simp only [hpl]
 rw [e0]
 by_cases ht:t=0
 ·subst ht
  obtain ⟨g1,g2,hT,ok'⟩:=h0 rfl
  obtain ⟨fd,hfd⟩:∃ fd:Nat,fd=(p.mach i).arg.toNat:=⟨_,rfl⟩
  have hfa:(p.mach i).arg=(fd:Int):=by omega
  rw [← hfd] at ok'
  have e:p.out i 0=(({ p with src:=(p.src.wait fd (p.mach i).g).1 }:Wd).setF i ((p.src.wait fd (p.mach i).g).2 && (p.src.wait fd (p.mach i).g).1.due),(p.src.wait fd (p.mach i).g).2):=by
   unfold Wd.out;dsimp only;rw [if_pos hpl,if_pos rfl,← hfd]
  rw [e]
  refine do_out N p _ i 0 _ hi (.inr hpl) fun F V ow w h E=>?_
  have h1:=(On.start h).drew
  obtain ⟨B,hs,hv,wl,hl,h7⟩:=h1.at_.src7
  have hM:=h.dim
  unfold dims at hM
  cases hf:zeH p.src.fds wl fd (p.mach i).g with
  | none =>
   have e1:=(zdE (who_is h7.whoN h7.whoE (p.mach i).g) hT hf).1
   have e2:(p.src.wait fd (p.mach i).g).2=true:=by rw [e1]
   rw [e2]
   refine (out_wait h i fd 0 (p.src.wait fd (p.mach i).g).1.due (p.src.wait fd (p.mach i).g).1 hi hpl hfa (by omega) ?_).mono ?_
   ·refine (swait_ok h7 ok ⟨hM.1,hM.2.1⟩ fd _ ⟨g1,g2⟩ hT hf ok').mono ?_
    rintro e w2 ⟨rfl,⟨wl',hx⟩,hm⟩
    exact ⟨rfl,h1.srcH (hx.agree hM.1 ⟨Nat.le_refl _,fun _ _ _=>rfl⟩ fun _ _ e=>.inl e) (hm.mono fun y _ e=>by rcases e with e | e | e;exact e ▸ h7.inS.2.2.2.2.1;exact e ▸ h7.inS.2.2.2.2.2.1;exact e ▸ h7.inS.1)⟩
   ·rintro e w2 ⟨rfl,hx⟩
    exact ⟨rfl,hx⟩
  | some c =>
   obtain ⟨e1,hcn⟩:=wait_no (who_is h7.whoN h7.whoE (p.mach i).g) hf
   rw [e1]
   refine (out_wait h i fd c false p.src hi hpl hfa (by omega) ?_).mono ?_
   ·refine (swait_no h7 ok fd _ c ⟨g1,g2⟩ hT hf).mono ?_
    rintro e w2 ⟨rfl,hb⟩
    exact ⟨rfl,h1.belowK hb 7⟩
   ·rintro e w2 ⟨rfl,hx⟩
    exact ⟨by rw [show (c==0)=false by simpa using hcn],hx⟩
 ·exact do_out N p _ i t _ hi (.inr hpl) fun F V ow w h E=>out_gone30 h E i t hi ht hpl (h1 ht) hbig
end Go.Proofs.YtlmmjgekolpekaaGreatDoor
