/- Parts of the proof. -/
import Derived.Test.YtlmmjgekolpekaaGreatDoorMPq11
set_option linter.unusedVariables false
set_option linter.unusedSimpArgs false
set_option linter.unusedSectionVars false
set_option maxRecDepth 100000
set_option maxHeartbeats 6400000
namespace Go.Proofs.YtlmmjgekolpekaaGreatDoor
open Go Go.RowKit Hst Go.Proofs
theorem zam {w w':World} {b o:Nat} (h:w'.heap[b]?=w.heap[b]?):w'.cell? ⟨b,o,none⟩=w.cell? ⟨b,o,none⟩:=by
 simp only [World.cell?,h]
theorem zaM {w w':World} {b o:Nat} (h:w'.heap[b]?=w.heap[b]?):w'.frozen? ⟨b,o,none⟩=w.frozen? ⟨b,o,none⟩:=by
 simp only [World.frozen?,h]
section
variable {S:Nat→Prop} {b mk mw n m:Nat} {x:Hst.Idle} {w:World}
theorem takem_any (h:IdleH S b mk mw w n m x) (hbig:x.m.length≤65536) :
  Calls Tryz.prog 233 #[.pointer (some ⟨b,0,none⟩)] w fun e w'=>e=.returned (.tuple #[.int .i64 x.takeM.2.1,.bool x.takeM.2.2])∧IdleH S b mk mw w' n m x.takeM.1∧Mod S w w':=by
 by_cases hm:x.m=[]
 ·have e:x.takeM=({ x with poller:=-1 },max 0 x.poller,x.poller != -1):=by unfold Idle.takeM;rw [if_pos hm]
  rw [e];exact takem_poll h hm
 ·have e:x.takeM=({ x with m:=x.m.dropLast },x.m.getLastD 0,true):=by unfold Idle.takeM;rw [if_neg hm]
  rw [e];exact takem_row h hm hbig
theorem pend_any (q:Nat) (h:IdleH S b mk mw w n m x) (hq:q<n) (hb:x.p.testBit q=false) (hp:¬ (q:Int)∈x.pending) (hbig:x.pending.length≤65536) :
  Calls Tryz.prog 234 #[.pointer (some ⟨b,0,none⟩),.int .i64 q] w fun e w'=>e=.returned (.bool true)∧IdleH (fun y=>S y∨w.heap.size≤y) b mk mw w' n m { x with pending:=x.pending++[(q:Int)] }∧Mod S w w':=by
 obtain ⟨pv,mv,r1,r2,r3,r4,r5,r6,r7,r8⟩:=h.rows
 have hc:=zbe pv 0 x.pending q w r3 (by omega)
 rw [show x.pending.contains (q:Int)=false by simpa using hp] at hc
 have HC:=Lib.hid hc
 have c0:=h.c0
 have fb:=h.fr.1
 have lb:=World.block_lt_of_cell? w _ r1
 simp only at lb
 obtain ⟨i0,hi0,hz0,hz1,hz2⟩:=info_parts Tryz.infoInt
 have hhas:=has_any mk mw n q x.p w h.n_le hq h.bits h.k0 h.k1 h.kw
 rw [hb] at hhas
 have k0:=h.k0
 have hqi:(q:Int)<(n:Int):=by omega
 have hq0:¬ (n:Int)≤(q:Int):=by omega
 have HH:=Lib.hid hhas
 have H:=Lib.hid h
 have H2:=Lib.hid r2
 have H3:=Lib.hid r3
 have H4:=Lib.hid r4
 clear h hc r2 r3 r4 hp hhas
 have mb:pv.ownBlock≠some b:=fun e=>(r7 _ e).1 rfl
 have mk':pv.ownBlock≠some mk:=fun e=>(r7 _ e).2.1 rfl
 have mw':pv.ownBlock≠some mw:=fun e=>(r7 _ e).2.2.1 rfl
 go_enter Tryz.func234,Tryz.ntmps234
 go_wp2_with (first | (go_at_call 159;refine HC.out.mono ?_;rintro e w1 ⟨rfl,hw⟩;have hw:=hw.symm;subst hw) | (go_at_call 217;refine HH.out.mono ?_;rintro e w1 ⟨rfl,hw⟩;have hw:=hw.symm;subst hw) | (go_at_call 246;go_in) | (at_builtin;refine wpList_append_lies _ rfl _ _ 45 rfl 0 3 i0 (.int .i64 0) 1 8 Tryz.underlying45 hi0 hz0 hz1 hz2 rfl (by decide) pv x.pending.length (ints x.pending) rfl (H3.out.alloc _) ⟨w.heap.size,0,none⟩ 1 1 [.int .i64 q] rfl rfl (World.news_of_block (cs:=#[.int .i64 q]) (t:=3) (fr:=(0,0)) (heap_alloc_new w _)) (by simp [Value.oneCell']) (by omega) (by unfold maxLen;omega) (by omega) (by simp) (w.heap.size+1) (by simp) ?_;intro g cap w2 hown2 hgrow hat hlt;have k2:=zbX hgrow lb (Ne.symm mb) r1;have kf:=fun o=>zbC hgrow lb (Ne.symm mb) (fb o)))
 go_returns
 have h:=H.out
 have lk:=World.block_lt_of_cell? w _ h.k0
 have lw:=World.block_lt_of_cell? w _ h.kw
 simp only at lk lw
 have gb:g≠b:=fun e=>by rcases hat with h | h;exact mb (by rw [h,e]);omega
 have hgr:∀ y,y<w.heap.size→pv.ownBlock≠some y→g≠y:=fun y hy hne e=>by rcases hat with h | h;exact hne (by rw [h,e]);omega
 have hown3:w2.ownsRow 0 3 1 (.slice (some ⟨g,0,none⟩) (x.pending.length+1) cap) (x.pending++[(q:Int)]).length (ints (x.pending++[(q:Int)])):=by
  have e:ints (x.pending++[(q:Int)])=ints x.pending++[.int .i64 q]:=by simp [ints]
  rw [e,List.length_append];exact hown2
 have hm0:Mod S w w2:=⟨hgrow.os,hgrow.tape,hgrow.output,by have:=hgrow.size;simp at this;omega,fun y hy hs=>(hgrow.block y (by simp;omega) (fun e=>hs (r5 _ e.symm))).trans (Below.heap_alloc w _ y hy)⟩
 have old:∀ y,y<w.heap.size→pv.ownBlock≠some y→w2.heap[y]?=w.heap[y]?:=fun y hy hne=>(hgrow.block y (by simp;omega) (fun e=>hne e.symm)).trans (Below.heap_alloc w _ y hy)
 refine ⟨rfl,?_,hm0.setCell (p:=⟨b,1,none⟩) (.inl h.inS.1) _⟩
 refine h.set1 (fun y hy=>.inl hy) (fun o ho=>?_) (fun o=>?_) (fun o=>?_) (fun y o hy=>?_) (World.cell?_setCell_same _ _ _ k2) (ownsRow_far hown3 (by simpa [Value.ownBlock] using gb)) (fun y e=>?_) (fun y e=>?_) (fun v hv hown=>?_)
 ·rw [zaf k2,if_neg ho];exact zam (old b lb mb)
 ·rw [cell_far (Ne.symm h.ne.1.symm)];exact zam (old mk lk mk')
 ·rw [cell_far (Ne.symm h.ne.2.1.symm)];exact zam (old mw lw mw')
 ·rw [World.frozen?_setCell]
  rcases hy with rfl | rfl | rfl
  ·exact zaM (old _ lb mb)
  ·exact zaM (old _ lk mk')
  ·exact zaM (old _ lw mw')
 ·have hy:y=g:=by simpa [Value.ownBlock] using e.symm
  subst hy
  rcases hat with h | h
  ·exact .inl (r5 _ h)
  ·exact .inr (by omega)
 ·have hy:y=g:=by simpa [Value.ownBlock] using e.symm
  subst hy
  refine ⟨gb,hgr mk lk mk',hgr mw lw mw',fun mv2 hmv e2=>?_⟩
  rw [H2.out] at hmv
  obtain rfl:=Option.some.inj hmv
  have hl:=(H4.out.lt _ e2).2
  rcases hat with h | h
  ·exact (r7 _ h).2.2.2 e2
  ·omega
 ·rw [H2.out] at hv
  obtain rfl:=Option.some.inj hv
  refine ownsRow_far ?_ (fun e=>(r8 _ e).1 rfl)
  refine (H4.out.alloc _).kept hgrow ?_
  cases hpv:mv.ownBlock with
  | none=>exact .inl rfl
  | some y=>exact .inr (fun e=>(r7 y e.symm).2.2.2 hpv)
end
section
variable {F:Fix} {V:Vol} {ow:Nat→Nat} {w:World} {p:Wd}
theorem find_less (h:WAt F V ow w p) (i:Nat) (t:Int) (hi:i<p.M) (ht:0<t) :
  Calls Tryz.prog 211 #[.pointer (some ⟨F.W,0,none⟩),.int .i64 i,.int .i64 t] w fun e w'=>e=.returned (.bool false)∧∃ ow',On F V ow w ow' w' (p.less p.spinW):=by
 have c13:=h.cW_all
 have c3:=h.cW_mem
 have c4:=h.cW_spin
 have hM:=h.dim
 have hcap:=h.own_cap
 unfold dims at hM
 have hl:=less_on (On.start h).drew.at_ p.spinW (by unfold Wd.spinW nWords;omega)
 obtain ⟨sp,hsp⟩:∃ sp:Int,sp=((2*(p.P+2):Nat):Int):=⟨_,rfl⟩
 have hsp2:((p.spinW:Nat):Int)=sp:=hsp.symm
 rw [← hsp] at c4
 rw [hsp2] at hl
 have H:=Lib.hid h
 have HL:=Lib.hid hl
 clear h hl hsp hsp2
 go_enter Tryz.func211,Tryz.ntmps211
 go_wp2
 go_still_tail 8,(by kernel_rfl)
 change wpList _ _ _ _ _ w.drew
 go_wp2_with fail
 refine HL.out.mono ?_
 rintro e w1 ⟨v,rfl,h1⟩
 go_wp2
 go_returns
 exact ⟨rfl,_,(On.start H.out).drew.then_ h1⟩
theorem find_none {N:Nat} (h:WAt F V ow w p) (E:Env N ow w) (i:Nat) (t:Int) (hi:i<p.M) (ht:¬ 0<t) (hz:p.idle.takeP.2.2=false) :
  Calls Tryz.prog 211 #[.pointer (some ⟨F.W,0,none⟩),.int .i64 i,.int .i64 t] w fun e w'=>e=.returned (.bool true)∧∃ ow',On F V ow w ow' w' { p with idle:=p.idle.takeP.1 }:=by
 have c13:=h.cW_all
 have c12:=h.cW_idle
 have hM:=h.dim
 have hcap:=h.own_cap
 unfold dims at hM
 obtain ⟨mk,mw,h8⟩:=h.idle8
 have hp:=zcs h8 E.tabs (by omega)
 rw [hz] at hp
 have H:=Lib.hid h
 have HP:=Lib.hid hp
 clear h hp h8 E hz
 go_enter Tryz.func211,Tryz.ntmps211
 go_wp2_with fail
 refine HP.out.mono ?_
 rintro e w1 ⟨rfl,hg,hm⟩
 have h1:=(On.start H.out).idleH hg hm
 have H1:=Lib.hid h1
 clear h1 hg hm
 go_wp2
 go_returns
 exact ⟨rfl,_,H1.out⟩
theorem find_has {N:Nat} (h:WAt F V ow w p) (E:Env N ow w) (i k:Nat) (t:Int) (hi:i<p.M) (ht:¬ 0<t) (hz:p.idle.takeP.2.2=true) (hm:p.idle.takeP.1.takeM.2.2=true) (hk:p.idle.takeP.1.takeM.2.1=(k:Int)) (hkM:k<p.M) (hmb:p.idle.m.length≤65536) :
  Calls Tryz.prog 211 #[.pointer (some ⟨F.W,0,none⟩),.int .i64 i,.int .i64 t] w fun e w'=>e=.returned (.bool false)∧∃ ow',On F V ow w ow' w' ((({ p with idle:=p.idle.takeP.1.takeM.1 }:Wd).setM k { p.mach k with next:=p.idle.takeP.2.1 }).setM i { (({ p with idle:=p.idle.takeP.1.takeM.1 }:Wd).setM k { p.mach k with next:=p.idle.takeP.2.1 }).mach i with target:=(k:Int) }):=by
 have c13:=h.cW_all
 have c12:=h.cW_idle
 have hM:=h.dim
 have hcap:=h.own_cap
 unfold dims at hM
 obtain ⟨mk,mw,h8⟩:=h.idle8
 have hp:=zcs h8 E.tabs (by omega)
 rw [hz] at hp
 have hmb2:p.idle.takeP.1.m.length≤65536:=by
  unfold Idle.takeP;split
  ·exact hmb
  ·exact hmb
 have H:=Lib.hid h
 have HP:=Lib.hid hp
 have HM:=Lib.hid hm
 have HK:=Lib.hid hk
 clear h hp h8 E hz hm hk
 go_enter Tryz.func211,Tryz.ntmps211
 go_wp2_with fail
 refine HP.out.mono ?_
 rintro e w1 ⟨rfl,hg,hm⟩
 have h1:=(On.start H.out).idleH hg hm
 have d12:w1.cell? ⟨F.W,12,none⟩=some (.pointer (some ⟨F.idle,0,none⟩)):=h1.at_.cW_idle
 obtain ⟨mk2,mw2,h82⟩:=h1.at_.idle8
 have ht:=takem_any h82 hmb2
 rw [show ({ p with idle:=p.idle.takeP.1 }:Wd).idle.takeM.2.2=true from HM.out,show ({ p with idle:=p.idle.takeP.1 }:Wd).idle.takeM.2.1=(k:Int) from HK.out] at ht
 have H1:=Lib.hid h1
 have HT:=Lib.hid ht
 clear h1 hg hm ht h82
 go_wp2_with fail
 refine HT.out.mono ?_
 rintro e w2 ⟨rfl,hg,hm⟩
 have h2:=H1.out.idleH hg hm
 have d13:w2.cell? ⟨F.W,13,none⟩=some (.slice (some ⟨F.all,0,none⟩) p.M F.allCap):=h2.at_.cW_all
 have kn:=h2.at_.cA_next (i:=k) hkM
 have kt:=h2.at_.cA_target (i:=i) hi
 have fA:=h2.at_.call.2
 have H2:=Lib.hid h2
 clear h2 hg hm
 go_wp2
 go_returns
 exact ⟨rfl,_,(H2.out.s_next (i:=k) hkM _).s_target (i:=i) hi _⟩
theorem find_pend {N:Nat} (h:WAt F V ow w p) (E:Env N ow w) (i q:Nat) (t:Int) (hi:i<p.M) (ht:¬ 0<t) (hz:p.idle.takeP.2.2=true) (hq:p.idle.takeP.2.1=(q:Int)) (hqP:q<p.P) (hm:p.idle.takeP.1.takeM.2.2=false) (hmb:p.idle.m.length≤65536)
  (hb:p.idle.takeP.1.takeM.1.p.testBit q=false) (hpd:¬ (q:Int)∈p.idle.takeP.1.takeM.1.pending) (hpb:p.idle.takeP.1.takeM.1.pending.length≤65536) :
  Calls Tryz.prog 211 #[.pointer (some ⟨F.W,0,none⟩),.int .i64 i,.int .i64 t] w fun e w'=>e=.returned (.bool false)∧∃ ow',On F V ow w ow' w' { p with idle:={ p.idle.takeP.1.takeM.1 with pending:=p.idle.takeP.1.takeM.1.pending++[(q:Int)] } }:=by
 have c13:=h.cW_all
 have c12:=h.cW_idle
 have hM:=h.dim
 have hcap:=h.own_cap
 unfold dims at hM
 obtain ⟨mk,mw,h8⟩:=h.idle8
 have hp:=zcs h8 E.tabs (by omega)
 rw [hz,hq] at hp
 have hmb2:p.idle.takeP.1.m.length≤65536:=by
  unfold Idle.takeP;split
  ·exact hmb
  ·exact hmb
 have H:=Lib.hid h
 have HP:=Lib.hid hp
 have HM:=Lib.hid hm
 have HB:=Lib.hid hb
 have HD:=Lib.hid hpd
 have HL:=Lib.hid hpb
 clear h hp h8 E hz hm hq hb hpd hpb
 go_enter Tryz.func211,Tryz.ntmps211
 go_wp2_with fail
 refine HP.out.mono ?_
 rintro e w1 ⟨rfl,hg,hm⟩
 have h1:=(On.start H.out).idleH hg hm
 have d12:w1.cell? ⟨F.W,12,none⟩=some (.pointer (some ⟨F.idle,0,none⟩)):=h1.at_.cW_idle
 obtain ⟨mk2,mw2,h82⟩:=h1.at_.idle8
 have ht:=takem_any h82 hmb2
 rw [show ({ p with idle:=p.idle.takeP.1 }:Wd).idle.takeM.2.2=false from HM.out] at ht
 have H1:=Lib.hid h1
 have HT:=Lib.hid ht
 clear h1 hg hm ht h82
 go_wp2_with fail
 refine HT.out.mono ?_
 rintro e w2 ⟨rfl,hg,hm⟩
 have h2:=H1.out.idleH hg hm
 have d12:w2.cell? ⟨F.W,12,none⟩=some (.pointer (some ⟨F.idle,0,none⟩)):=h2.at_.cW_idle
 obtain ⟨mk3,mw3,h83⟩:=h2.at_.idle8
 have ht:=pend_any q h83 hqP HB.out HD.out HL.out
 have H2:=Lib.hid h2
 have HT2:=Lib.hid ht
 clear h2 hg hm ht h83
 go_wp2_with fail
 refine HT2.out.mono ?_
 rintro e w3 ⟨rfl,hg,hm⟩
 have h3:=H2.out.idleHn hg hm
 have H3:=Lib.hid h3
 clear h3 hg hm
 go_wp2
 go_returns
 exact ⟨rfl,_,H3.out⟩
end
theorem do_find (N:Nat) (p p':Wd) (i:Nat) (t:Int) (more:Bool) (hi:i<p.M) (hpl:(p.mach i).place=23)
  (hc:∀ (F:Fix) (V:Vol) (ow:Nat→Nat) (w:World),WAt F V ow w p→Env N ow w→Calls Tryz.prog 211 #[.pointer (some ⟨F.W,0,none⟩),.int .i64 i,.int .i64 t] w fun e w'=>e=.returned (.bool more)∧∃ ow',On F V ow w ow' w' p'):DoOK N p i t p' more:=by
 intro F V ow w h E
 have c13:=h.cW_all
 have c0:=h.cA_place hi
 have hM:=h.dim
 have hcap:=h.own_cap
 rw [hpl] at c0
 unfold dims at hM
 have hf:=hc F V ow w h E
 have HF:=Lib.hid hf
 clear h E hf hc hpl
 go_enter Tryz.func178,Tryz.ntmps178
 go_wp2_with fail
 refine HF.out.mono ?_
 rintro e w1 ⟨rfl,ow1,h1⟩
 go_wp2
 go_returns
 exact ⟨rfl,V,_,h1⟩
theorem do_23 (N:Nat) (p:Wd) (i:Nat) (t:Int) (hi:i<p.M) (hpl:(p.mach i).place=23) (hmb:p.idle.m.length≤65536) (hpb:p.idle.pending.length≤65536) (hP:p.P≤64) (hbits:p.idle.p<2^p.P)
  (hk:p.idle.p≠0→∀ k b,p.idle.takeM.2=(k,b)→b=true→∃ n:Nat,k=(n:Int)∧n<p.M) (hd:p.idle.p≠0→¬ (Hst.low p.idle.p:Int)∈p.idle.pending):DoOK N p i t (p.doIt i t).1 (p.doIt i t).2:=by
 have e0:p.doIt i t=p.find i t:=by unfold Wd.doIt;simp only [hpl]
 rw [e0]
 by_cases ht:0<t
 ·have e:p.find i t=(p.less p.spinW,false):=by unfold Wd.find;rw [if_pos ht]
  rw [e]
  exact do_find N p _ i t _ hi hpl fun F V ow w h E=>find_less h i t hi ht
 ·by_cases hz:p.idle.p=0
  ·have eT:p.idle.takeP=(p.idle,0,false):=by unfold Idle.takeP;rw [if_pos hz]
   have e:p.find i t=({ p with idle:=p.idle.takeP.1 },true):=by
    unfold Wd.find;rw [if_neg ht,eT];rfl
   rw [e]
   exact do_find N p _ i t _ hi hpl fun F V ow w h E=>find_none h E i t hi ht (by rw [eT])
  ·have eT:p.idle.takeP=({ p.idle with p:=p.idle.p^^^2^Hst.low p.idle.p },(Hst.low p.idle.p:Int),true):=by unfold Idle.takeP;rw [if_neg hz]
   have eM:(p.idle.takeP.1).takeM=({ p.idle.takeM.1 with p:=p.idle.p^^^2^Hst.low p.idle.p },p.idle.takeM.2):=by
    rw [eT];unfold Idle.takeM;dsimp only;split <;> rfl
   have e1:p.idle.takeP.2.1=(Hst.low p.idle.p:Int):=by rw [eT]
   have e2:p.idle.takeP.2.2=true:=by rw [eT]
   obtain ⟨hb,hl⟩:=zbS hz hP hbits
   have eD:p.idle.takeM.1.pending=p.idle.pending:=by unfold Idle.takeM;split <;> rfl
   have hx:(p.idle.p^^^2^Hst.low p.idle.p).testBit (Hst.low p.idle.p)=false:=by
    rw [Nat.testBit_xor,hb,Nat.testBit_two_pow_self];rfl
   have eF:p.find i t=(if p.idle.takeP.1.takeM.2.2=true then ((({ p with idle:=p.idle.takeP.1.takeM.1 }:Wd).setM p.idle.takeP.1.takeM.2.1.toNat { p.mach p.idle.takeP.1.takeM.2.1.toNat with next:=p.idle.takeP.2.1 }).setM i { (({ p with idle:=p.idle.takeP.1.takeM.1 }:Wd).setM p.idle.takeP.1.takeM.2.1.toNat { p.mach p.idle.takeP.1.takeM.2.1.toNat with next:=p.idle.takeP.2.1 }).mach i with target:=p.idle.takeP.1.takeM.2.1 },false)
     else ({ p with idle:=(p.idle.takeP.1.takeM.1.pend p.idle.takeP.2.1).1 },false)):=by
    unfold Wd.find
    rw [if_neg ht]
    generalize p.idle.takeP=y at *
    obtain ⟨x,p1,is⟩:=y
    dsimp only at e2
    subst e2
    rfl
   cases hh:p.idle.takeP.1.takeM.2.2 with
   | true =>
    obtain ⟨k,hkk,hkM⟩:=hk hz p.idle.takeM.2.1 true (by rw [eM] at hh;rw [← hh]) rfl
    have hkk2:p.idle.takeP.1.takeM.2.1=(k:Int):=by rw [eM];exact hkk
    rw [if_pos hh,hkk2,Int.toNat_natCast] at eF
    rw [eF]
    exact do_find N p _ i t _ hi hpl fun F V ow w h E=>find_has h E i k t hi ht e2 hh hkk2 hkM hmb
   | false =>
    rw [if_neg (by rw [hh];decide),e1] at eF
    have ep:p.idle.takeP.1.takeM.1.p=p.idle.p^^^2^Hst.low p.idle.p:=by rw [eM]
    have eq:p.idle.takeP.1.takeM.1.pending=p.idle.pending:=by rw [eM];exact eD
    have en:p.idle.takeP.1.takeM.1.pend (Hst.low p.idle.p:Int)=({ p.idle.takeP.1.takeM.1 with pending:=p.idle.takeP.1.takeM.1.pending++[(Hst.low p.idle.p:Int)] },true):=by
     unfold Idle.pend
     rw [if_neg]
     rw [Int.toNat_natCast,ep,hx,eq]
     rintro (e | e)
     ·cases e
     ·exact hd hz e
    rw [en] at eF
    rw [eF]
    exact do_find N p _ i t _ hi hpl fun F V ow w h E=>find_pend h E i (Hst.low p.idle.p) t hi ht e2 e1 hl hh hmb (by rw [ep];exact hx) (by rw [eq];exact hd hz) (by rw [eq];exact hpb)
end Go.Proofs.YtlmmjgekolpekaaGreatDoor
