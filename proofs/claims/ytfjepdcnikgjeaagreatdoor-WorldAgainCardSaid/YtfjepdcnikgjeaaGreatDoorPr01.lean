/-
  Pack of texts: Again.
-/
import Derived.Test.YtfjepdcnikgjeaaGreatDoorPq31
set_option linter.unusedVariables false
set_option linter.unusedSimpArgs false
set_option linter.unusedSectionVars false
set_option maxRecDepth 100000
set_option maxHeartbeats 40000000
namespace Go.Proofs.YtfjepdcnikgjeaaGreatDoor
open Go Go.RowKit Hst Go.Proofs
theorem msame_any (f:Nat→Nat) (b1 g1 c1 b2 g2 c2 n:Nat) (w:World) (hn:n≤1000000) (k1:w.cell? ⟨b1,0,none⟩=some (.slice (some ⟨g1,0,none⟩) n c1)) (k2:w.cell? ⟨b2,0,none⟩=some (.slice (some ⟨g2,0,none⟩) n c2))
  (h1:∀ a,a<n→w.cell? ⟨g1,a,none⟩=some (.int .u64 (f a:Nat))) (h2:∀ a,a<n→w.cell? ⟨g2,a,none⟩=some (.int .u64 (f a:Nat))) :
  Calls Tryz.prog 37 #[.pointer (some ⟨b1,0,none⟩),.pointer (some ⟨b2,0,none⟩)] w fun e w'=>e=.returned (.bool true)∧Below w.heap.size w w':=by
 have he:=equal_u64 f g1 c1 g2 c2 n w.drew hn h1 h2
 have HE:=Lib.hid he
 clear he h1 h2
 go_enter Tryz.func37,Tryz.ntmps37
 go_wp2
 go_region_held3 (fun w'=>w'.cell? ⟨b1,0,none⟩=some (.slice (some ⟨g1,0,none⟩) n c1)∧w'.cell? ⟨b2,0,none⟩=some (.slice (some ⟨g2,0,none⟩) n c2))
  (first | exact ⟨k1,k2⟩ | exact ⟨d1,d2⟩)
  (first | (go_at_call 88;refine HE.out.mono ?_;rintro e w1 ⟨rfl,hb⟩;have d1:=(below_cell (o:=0) hb (World.block_lt_of_cell? w _ k1)).trans k1;have d2:=(below_cell (o:=0) hb (World.block_lt_of_cell? w _ k2)).trans k2))
 go_wp2
 go_returns
 exact ⟨rfl,⟨hb.os,hb.tape,hb.output,hb.size,hb.block⟩⟩
theorem evArg_cut {w:World} {v:Value} {l:List Hst.Ev} (h:EvArg w v l):∃ a c,v=.slice a l.length c∧(l=[]∨∃ b o,a=some ⟨b,o,none⟩∧EvCells w b o l):=by
 rcases h with ⟨rfl,rfl⟩ | ⟨a,c,rfl,rfl⟩ | ⟨b,o,c,rfl,h⟩
 ·exact ⟨none,0,rfl,.inl rfl⟩
 ·exact ⟨some a,c,rfl,.inl rfl⟩
 ·exact ⟨some ⟨b,o,none⟩,c,rfl,.inr ⟨b,o,rfl,h⟩⟩
theorem Env.low_of {N:Nat} {ow:Nat→Nat} {w W:World} (T:Tabs N W) (K:Below W.heap.size W w) (h0:∀ b,b<W.heap.size→ow b=0):Env N ow w :=
 ⟨T.below (fun b hb=>K.block b (Nat.lt_of_lt_of_le hb T.le)) (Nat.le_trans T.le K.size),fun b hb=>h0 b (Nat.lt_of_lt_of_le hb T.le)⟩
theorem s_small (p m g:Nat):sP p≤4∧sM p m≤6∧sG g≤12:=by unfold sP sM sG;omega
theorem new_inv (p m g:Nat):Inv 0 (Wd.new (sP p) (sM p m) (sG g)):=inv_new _ _ _ (s_dims p m g)
theorem new_log (P M G:Nat):(Wd.new P M G).log.length=1:=rfl
theorem run_log (p m g:Nat) (l:List Hst.Stp) (hl:l.length≤100000) (hin:inSt l):0<((Wd.new (sP p) (sM p m) (sG g)).run l).1.log.length∧((Wd.new (sP p) (sM p m) (sG g)).run l).1.log.length≤2*l.length+1:=by
 have hI:=new_inv p m g
 obtain ⟨t,e⟩:=log_run l 0 0 _ hI (by omega) fun s hs=>(hin s hs).2.2.2.2
 have h2:=(run_inv hI l (by omega) hin).log
 have h3:((Wd.new (sP p) (sM p m) (sG g)).run l).1.log=(Wd.new (sP p) (sM p m) (sG g)).log++t:=e
 rw [h3,List.length_append,new_log]
 rw [h3,List.length_append,new_log] at h2
 omega
theorem Two.frame {F G:Fix} {V V' U:Vol} {ow ow' up:Nat→Nat} {W w w':World} {p p' q:Wd} (h:Two F G V U ow up w p q) (h0:∀ b,b<W.heap.size→ow b=0∧up b=0) (K:Below W.heap.size W w) (k:On F V' ow w ow' w' p') :
  Two F G V' U ow' (grow up w.heap.size 0) w' p' q∧(∀ b,b<W.heap.size→ow' b=0∧grow up w.heap.size 0 b=0)∧Below W.heap.size W w':=by
 have hs:=K.size
 refine ⟨h.left k,fun b hb=>⟨?_,?_⟩,K.trans (k.st.below hs fun b hb=>(h0 b hb).1)⟩
 ·rw [k.st.own b (by omega)];exact (h0 b hb).1
 ·rw [grow_lt (by omega)];exact (h0 b hb).2
theorem again_any (N p m g:Nat) (hp:p<256) (hm:m<256) (hg:g<256) (l:List Hst.Stp) (hin:inSt l) (v:Value) (w:World) (T:Tabs N w) (hA:StArg w v l) :
  Calls Tryz.prog 7 #[.int .u8 p,.int .u8 m,.int .u8 g,v] w fun e w'=>e=.returned (.bool true)∧Below w.heap.size w w':=by
 have hL:=fun w1 T1=>lives_any N w1 T1
 have hB:=fun w1 T1=>beginW_any N p m g hp hm hg w1 T1
 have hpl:∀ a n c,v=.slice (some a) n c→l≠[]→a.block<w.heap.size:=by
  intro a n c e hne
  rcases hA with ⟨e1,e2⟩ | ⟨a1,c1,e1,e2⟩ | ⟨b,o,c1,e1,h⟩
  ·exact absurd e2 hne
  ·exact absurd e2 hne
  ·rw [e1] at e
   cases e
   exact h.lt
 obtain ⟨a,c,hve,hE⟩:=stArg_slice hA
 have HL:=Lib.hid hL
 have HB:=Lib.hid hB
 have HT:=Lib.hid T
 have HA:=Lib.hid hA
 have HP:=Lib.hid hpl
 clear hL hB T hA hpl
 subst hve
 go_enter Tryz.func7,Tryz.ntmps7
 go_wp2_with fail
 refine (HL.out w HT.out).mono ?_
 rintro e w1 ⟨rfl,b1⟩
 have T1:=Lib.hid (HT.out.below (fun b hb=>b1.block b (Nat.lt_of_lt_of_le hb HT.out.le)) (Nat.le_trans HT.out.le b1.size))
 by_cases hlen:(400:Int)<l.length
 ·clear hE
  go_wp2_with fail
  refine (HL.out w1 T1.out).mono ?_
  rintro e w2 ⟨rfl,b2⟩
  go_wp2_with fail
  go_returns
  exact ⟨rfl,b1.trans (b2.mono b1.size)⟩
 ·go_wp2_with fail
  refine (HB.out w1 T1.out).mono ?_
  rintro e w2 ⟨F,V,ow,rfl,hx,hx0,b2⟩
  have K2:=b1.trans (b2.mono b1.size)
  have T2:=Lib.hid (HT.out.below (fun b hb=>K2.block b (Nat.lt_of_lt_of_le hb HT.out.le)) (Nat.le_trans HT.out.le K2.size))
  have HX:=Lib.hid hx
  clear hx
  go_wp2_with fail
  refine (HB.out w2 T2.out).mono ?_
  rintro e w3 ⟨G,U,up,rfl,hy,hy0,b3⟩
  have K3:=K2.trans (b3.mono K2.size)
  have htwo:Two F G V U (grow ow w2.heap.size 0) up w3 (Wd.new (sP p) (sM p m) (sG g)) (Wd.new (sP p) (sM p m) (sG g)):=⟨((On.start HX.out).below b3).at_,hy,fun b hb=>by
   by_cases h2:b<w2.heap.size
   ·exact .inr (hy0 b h2)
   ·exact .inl (grow_ge (by omega))⟩
  have hs1:=b1.size
  have hs2:=b2.size
  have hs3:=b3.size
  have hlow:∀ b,b<w.heap.size→grow ow w2.heap.size 0 b=0∧up b=0:=fun b hb=>⟨by rw [grow_lt (by omega)];exact hx0 b (by omega),hy0 b (by omega)⟩
  have H2:=Lib.hid htwo
  have HLo:=Lib.hid hlow
  have HK3:=Lib.hid K3
  clear htwo hlow HX hy hx0 hy0 b1 b2 b3 K2 K3 T1 T2
  have hlen4:l.length≤400:=by omega
  generalize hp0:Wd.new (sP p) (sM p m) (sG g)=p0 at *
  have hI0:Inv 0 p0:=hp0 ▸ new_inv p m g
  have hlg:=run_log p m g l (by omega) hin
  rw [hp0] at hlg
  have HI:=Lib.hid hI0
  have HG:=Lib.hid hlg
  clear hI0 hlg hp0
  go_wp2_with fail
  go_loopw [11,42] (fun o i wr=>∃ (j:Nat) (V':Vol) (ow' up':Nat→Nat),i=.int .i64 (j:Int)∧j≤l.length∧o=.int .i64 ((p0.run (l.take j)).2:Nat)∧Two F G V' U ow' up' wr (p0.run (l.take j)).1 p0∧(∀ b,b<w.heap.size→ow' b=0∧up' b=0)∧Below w.heap.size w wr) (fun _ i _=>l.length - (intOf i).toNat)
  case atStart=>exact ⟨0,V,_,up,rfl,by omega,rfl,H2.out,HLo.out,HK3.out⟩
  case round =>
   clear H2 HLo HK3
   obtain ⟨j,V1,ow1,up1,rfl,hj,rfl,h2,hlo,K⟩:=hrel
   by_cases hpj:j<l.length
   ·have hne:l≠[]:=by intro e0;rw [e0] at hpj;simp at hpj
    rcases hE with rfl | ⟨b,o,rfl,hE⟩
    ·exact absurd rfl hne
    obtain ⟨e,he⟩:∃ e,l[j]?=some e:=⟨_,List.getElem?_eq_getElem hpj⟩
    have hE2:=hE.below hE.lt K
    have c0:=hE2.ck j e he
    have c1:=hE2.cg j e he
    have c2:=hE2.cm j e he
    have c3:=hE2.cp j e he
    have c4:=hE2.cv j e he
    have hlt:=hE2.lt
    have hpi:(j:Int)<l.length:=by omega
    have ht:=run_take he p0
    have hil:inSt (l.take j):=fun x hx=>hin x (List.mem_of_mem_take hx)
    have hlj:(l.take j).length=j:=by rw [List.length_take];omega
    have hI:=run_inv HI.out (l.take j) (by omega) hil
    rw [hlj] at hI
    have hst:=step_ok N hI (by omega) e ((hin e (List.mem_of_getElem? he)).2.2.2.2)
    have hrl:=run_le p0 (l.take j)
    rw [hlj] at hrl
    clear HG HI
    generalize p0.run (l.take j)=q at *
    obtain ⟨q,k⟩:=q
    simp only at ht hst hrl h2 hI
    have wm:IntKind.i64.wrap ((k:Int)+1)=(k:Int)+1:=IntWalk.i64_in _ (by omega)
    unfold StepDone stV stepV at hst
    have h3:=(On.start h2.x).alloc (.cells #[.int .u8 (e.kind:Nat),.int .u8 (e.act:Nat),.int .i64 e.a,.int .i64 e.x,.int .i64 e.d] 40)
    have hcall:=hst F V1 _ _ h3.at_ ((Env.low_of HT.out K (fun b hb=>(hlo b hb).1)).on h3)
    cases hsb:(q.step e).2 with
    | true =>
     rw [hsb] at ht hcall
     have HTk:=Lib.hid ht
     have HC:=Lib.hid hcall
     have H3:=Lib.hid h3
     have H2:=Lib.hid h2
     have HLo:=Lib.hid hlo
     have HK:=Lib.hid K
     clear ht hst hI he hE hE2 hin hil hcall h3 h2 hlo K
     go_wp2_with fail
     refine HC.out.mono ?_
     rintro x w2 ⟨rfl,V2,ow2,h4⟩
     have hf:=H2.out.frame HLo.out HK.out (H3.out.then_ h4)
     have HF:=Lib.hid hf
     clear hf h4
     go_wp2
     go_roundw
     case rel=>exact ⟨j+1,V2,ow2,_,by go_num,hpj,by rw [HTk.out];go_num,by rw [HTk.out];exact HF.out.1,HF.out.2.1,HF.out.2.2⟩
     case measure=>simp [intOf];omega
    | false =>
     rw [hsb] at ht hcall
     have HTk:=Lib.hid ht
     have HC:=Lib.hid hcall
     have H3:=Lib.hid h3
     have H2:=Lib.hid h2
     have HLo:=Lib.hid hlo
     have HK:=Lib.hid K
     clear ht hst hI he hE hE2 hin hil hcall h3 h2 hlo K
     go_wp2_with fail
     refine HC.out.mono ?_
     rintro x w2 ⟨rfl,V2,ow2,h4⟩
     have hf:=H2.out.frame HLo.out HK.out (H3.out.then_ h4)
     have HF:=Lib.hid hf
     clear hf h4
     go_wp2
     go_roundw
     case rel=>exact ⟨j+1,V2,ow2,_,by go_num,hpj,by rw [HTk.out];rfl,by rw [HTk.out];exact HF.out.1,HF.out.2.1,HF.out.2.2⟩
     case measure=>simp [intOf];omega
   ·obtain rfl:j=l.length:=by omega
    rw [List.take_length] at h2 ⊢
    have hpi:¬ (l.length:Int)<l.length:=by omega
    have hnw:=h2.x.nw
    have hev:=events_on h2.x HG.out.1 (by have:=HG.out.2;omega)
    have H2:=Lib.hid h2
    have HLo:=Lib.hid hlo
    have HK:=Lib.hid K
    have HEv:=Lib.hid hev
    clear h2 hlo K hE hev
    go_wp2_with fail
    refine HEv.out.mono ?_
    rintro x w2 ⟨va,rfl,hown,b2⟩
    have h3:=H2.out.frame HLo.out HK.out ((On.start H2.out.x).below b2)
    obtain ⟨h3,hlo3,K3⟩:=h3
    have hrn:=run_any N 0 HI.out l (by omega) hin h3.y (Env.low_of HT.out K3 (fun b hb=>(hlo3 b hb).2)) (.slice a l.length c) (HA.out.below K3) (fun a1 n1 c1 e1 hne=>(hlo3 _ (HP.out a1 n1 c1 e1 hne)).2)
    have HR:=Lib.hid hrn
    have H3:=Lib.hid h3
    have HLo3:=Lib.hid hlo3
    have HK3:=Lib.hid K3
    have HOw:=Lib.hid hown
    have B2:=Lib.hid b2
    clear hrn h3 hlo3 K3 hown b2 H2 HLo HK HEv
    go_wp2_with fail
    refine HR.out.mono ?_
    rintro x w3 ⟨rfl,U3,up3,h4⟩
    have hoA:=own_heap (ownsRow_base HOw.out (Nat.zero_le _)) (fun g hg e=>h4.st.block g hg (grow_ge (HOw.out.lt g e).1))
    have haA:=own_arg hoA
    obtain ⟨h5,hlo5,K5⟩:=H3.out.swap.frame (fun b hb=>(HLo3.out b hb).symm) HK3.out h4
    have hev:=events_on h5.x HG.out.1 (by have:=HG.out.2;omega)
    have HEv:=Lib.hid hev
    have H5:=Lib.hid h5
    have HLo5:=Lib.hid hlo5
    have HK5:=Lib.hid K5
    have HAa:=Lib.hid haA
    clear hev h5 hlo5 K5 haA hoA HOw h4 H3 HLo3 HK3 HR B2 HI
    generalize (p0.run l).1=q at *
    generalize (p0.run l).2=k at *
    have hrl2:True:=trivial
    go_wp2_with fail
    refine HEv.out.mono ?_
    rintro x w4 ⟨vb,rfl,hown,b4⟩
    have h6:=H5.out.below b4
    have haB:=own_arg hown
    have haA:=HAa.out.below b4
    obtain ⟨pa,ca,hva,hEa⟩:=evArg_cut haA
    obtain ⟨pb,cb,hvb,hEb⟩:=evArg_cut haB
    subst hva hvb
    have K6:=HK5.out.trans (b4.mono HK5.out.size)
    have hm1:=memory_on h6.y
    have H6:=Lib.hid h6
    have HM1:=Lib.hid hm1
    have HEa:=Lib.hid hEa
    have HEb:=Lib.hid hEb
    have HK6:=Lib.hid K6
    clear h6 hm1 hown haB haA b4 hEa hEb K6 HEv H5 HLo5 HK5 HAa
    go_wp2_with fail
    refine HM1.out.mono ?_
    rintro x w5 ⟨b1,g1,c1,rfl,hb1,hg1,hn1,k1,kc1,kn1,ka1,kf1,b5⟩
    have h7:=H6.out.below b5
    have hm2:=memory_on h7.x
    have H7:=Lib.hid h7
    have HM2:=Lib.hid hm2
    have Ka1:=Lib.hid ka1
    clear h7 hm2 ka1 kf1 hb1 hg1 H6 HM1
    go_wp2_with fail
    refine HM2.out.mono ?_
    rintro x w6 ⟨b2,g2,c2,rfl,hb2,hg2,hn2,k2,kc2,kn2,ka2,kf2,b6⟩
    have h8:=H7.out.below b6
    have l1:=World.block_lt_of_cell? w5 _ k1
    have hnwq:=h8.x.nw
    have hpos:0<nWords q.P q.M q.G:=by unfold nWords;omega
    have lg1:=World.block_lt_of_cell? w5 _ (Ka1.out 0 hpos)
    simp only at l1 lg1
    have hsm:=msame_any q.ld b1 g1 c1 b2 g2 c2 (nWords q.P q.M q.G) w6 (by omega) ((below_cell b6 l1).trans k1) k2 (fun a ha=>(below_cell b6 lg1).trans (Ka1.out a ha)) ka2
    have H8:=Lib.hid h8
    have HSm:=Lib.hid hsm
    have B56:=Lib.hid (b5.trans (b6.mono b5.size))
    clear h8 hsm Ka1 ka2 kf2 hb2 hg2 H7 HM2 k1 k2 kn1 kn2 b5 b6
    go_wp2_with fail
    refine HSm.out.mono ?_
    rintro x w7 ⟨rfl,b7⟩
    have h9:=H8.out.below b7
    have hm3:=memory_on h9.y
    have H9:=Lib.hid h9
    have HM3:=Lib.hid hm3
    have B57:=Lib.hid (B56.out.trans (b7.mono B56.out.size))
    clear h9 hm3 b7 H8 HSm B56
    go_wp2_with fail
    refine HM3.out.mono ?_
    rintro x w8 ⟨b3,g3,c3,rfl,hb3,hg3,hn3,k3,kc3,kn3,ka3,kf3,b8⟩
    have h10:=H9.out.below b8
    have hm4:=memory_on h10.x
    have H10:=Lib.hid h10
    have HM4:=Lib.hid hm4
    have B58:=Lib.hid (B57.out.trans (b8.mono B57.out.size))
    clear h10 hm4 b8 H9 HM3 B57 ka3 kf3 hb3 hg3 k3
    have hgo:True:=trivial
    go_wp2_with (first | (go_at_call 38;go_in) | (go_at_call 36;refine HM4.out.mono ?_;rintro x w9 ⟨b4,g4,c4,rfl,hb4,hg4,hn4,k4,kc4,kn4,ka4,kf4,b9⟩;have B59:=Lib.hid (B58.out.trans (b9.mono B58.out.size));clear b9 HM4 ka4 kf4 hb4 hg4 k4))
    go_loopw [88] (fun i wr=>∃ j:Nat,i=.int .i64 (j:Int)∧j≤q.log.length∧Below w4.heap.size w4 wr) (fun i _=>q.log.length - (intOf i).toNat)
    case atStart=>exact ⟨0,rfl,by omega,B59.out⟩
    case round =>
     obtain ⟨j,rfl,hj,K⟩:=hrel
     have hloglen:=HG.out.2
     by_cases hpj2:j<q.log.length
     ·have ha:=HEa.out
      have hb:=HEb.out
      rcases ha with h0 | ⟨ba,oa,rfl,ha⟩
      ·rw [h0] at hpj2;simp at hpj2
      rcases hb with h0 | ⟨bb,ob,rfl,hb⟩
      ·rw [h0] at hpj2;simp at hpj2
      obtain ⟨e,he⟩:∃ e,q.log[j]?=some e:=⟨_,List.getElem?_eq_getElem hpj2⟩
      have ha2:=ha.below ha.lt K
      have hb2:=hb.below hb.lt K
      have c0:=ha2.ck j e he
      have c1:=ha2.cg j e he
      have c2':=ha2.cm j e he
      have c3':=ha2.cp j e he
      have c4':=ha2.cv j e he
      have d0:=hb2.ck j e he
      have d1:=hb2.cg j e he
      have d2:=hb2.cm j e he
      have d3:=hb2.cp j e he
      have d4:=hb2.cv j e he
      have hlt:=ha2.lt
      have hlt2:=hb2.lt
      have hpi:(j:Int)<q.log.length:=by omega
      have HK:=Lib.hid K
      clear ha hb ha2 hb2 K he HEa HEb HG H10 B58 B59 hin
      go_wp2_with fail
      go_quiet (fail)
      go_wp2
      go_roundw
      case rel=>exact ⟨j+1,by go_num,hpj2,⟨HK.out.os,HK.out.tape,HK.out.output,HK.out.size,HK.out.block⟩⟩
      case measure=>simp [intOf];omega
     ·obtain rfl:j=q.log.length:=by omega
      have hpi2:¬ (q.log.length:Int)<q.log.length:=by omega
      clear HEa HEb HG H10 B58 B59 hin
      go_wp2
      go_returns
      exact ⟨rfl,HK6.out.trans (K.mono HK6.out.size)⟩
theorem againI_any (N:Nat) (a b c:Int) (ha:0≤a∧a≤255) (hb:0≤b∧b≤255) (hc:0≤c∧c≤255) (l:List Hst.Stp) (hin:inSt l) (v:Value) (w:World) (T:Tabs N w) (hA:StArg w v l) :
  Calls Tryz.prog 7 #[.int .u8 a,.int .u8 b,.int .u8 c,v] w fun e w'=>e=.returned (.bool true)∧Below w.heap.size w w':=by
 obtain ⟨p,rfl⟩:∃ p:Nat,a=p:=⟨a.toNat,by omega⟩
 obtain ⟨m,rfl⟩:∃ m:Nat,b=m:=⟨b.toNat,by omega⟩
 obtain ⟨g,rfl⟩:∃ g:Nat,c=g:=⟨c.toNat,by omega⟩
 exact again_any N p m g (by omega) (by omega) (by omega) l hin v w T hA
end Go.Proofs.YtfjepdcnikgjeaaGreatDoor
