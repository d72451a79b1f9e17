/- Parts of the proof. -/
import Derived.Test.YtlmmjgekolpekaaGreatDoorMPr01
import Derived.ChangeMaps5
set_option linter.unusedVariables false
set_option linter.unusedSimpArgs false
set_option linter.unusedSectionVars false
set_option maxRecDepth 100000
set_option maxHeartbeats 6400000
namespace Go.Proofs.YtlmmjgekolpekaaGreatDoor
open Go Go.RowKit Hst Go.Proofs Go.MapKept
theorem WAt.mod {F:Fix} {V:Vol} {ow:Nat→Nat} {w w':World} {p:Wd} {S:Nat→Prop} (h:WAt F V ow w p) (m:Mod S w w') (hS:∀ x,S x→ow x=0):WAt F V (grow ow w.heap.size 0) w' p :=
 h.same _ (fun _ hb=>grow_lt hb) ⟨m.size,fun b hb hx=>m.block b hb (fun s=>hx (hS b s))⟩
theorem own_far {w':World} {B n:Nat} {a:Option Addr} {cc:Nat} {l:List Value} {ba oa:Nat} (h:w'.ownsRow B 39 5 (.slice a n cc) n l) (e:a=some ⟨ba,oa,none⟩) (h0:0<n):B≤ba:=by
 subst e
 exact (h.lt ba rfl).1
theorem EvCells.mod {w w':World} {b o:Nat} {l:List Hst.Ev} {S:Nat→Prop} (h:EvCells w b o l) (m:Mod S w w') (hs:¬ S b):EvCells w' b o l :=
 ⟨Nat.lt_of_lt_of_le h.lt m.size,fun j e he=>m.cell hs (h.ck j e he),fun j e he=>m.cell hs (h.cg j e he),fun j e he=>m.cell hs (h.cm j e he),fun j e he=>m.cell hs (h.cp j e he),fun j e he=>m.cell hs (h.cv j e he)⟩
theorem wpl_hideM {P:Program} {ops:Array Oper} {Q:Exit→Act→World→Prop} {rest:List Oper} {a:Act} {w:World} (h:Hid (wpList P ops Q rest a w)):wpList P ops Q rest a w:=h.out
theorem model_any (N p m g:Nat) (hp:p<256) (hm:m<256) (hg:g<256) (l:List Hst.Stp) (hin:inSt l) (v:Value) (w:World) (T:Tabs N w) (KT:KTab w) (hA:StArg w v l) :
  Calls Tryz.prog 9 #[.int .u8 p,.int .u8 m,.int .u8 g,v] w fun e w'=>e=.returned (.bool true)∧Below w.heap.size w w':=by
 have hL:=fun w1 T1=>lives_any N w1 T1
 have hB:=fun w1 T1=>beginW_any N p m g hp hm hg w1 T1
 have hpl:∀ a n c,v=.slice (some a) n c→l≠[]→a.block<w.heap.size:=by
  intro a n c e hne
  rcases hA with ⟨e1,e2⟩ | ⟨a1,c1,e1,e2⟩ | ⟨b,o,c1,e1,h⟩
  ·exact absurd e2 hne
  ·exact absurd e2 hne
  ·rw [e1] at e
   cases e
   exact h.lt
 obtain ⟨a,c,hve,hE⟩:=zdc hA
 have HL:=Lib.hid hL
 have HB:=Lib.hid hB
 have HT:=Lib.hid T
 have HKT:=Lib.hid KT
 have HA:=Lib.hid hA
 have HP:=Lib.hid hpl
 clear hL hB T KT hA hpl hE
 subst hve
 go_enter Tryz.func9,Tryz.ntmps9
 go_wp2_with fail
 refine (HL.out w HT.out).mono ?_
 rintro e w1 ⟨rfl,b1⟩
 have T1:=Lib.hid (HT.out.below (fun b hb=>b1.block b (Nat.lt_of_lt_of_le hb HT.out.le)) (Nat.le_trans HT.out.le b1.size))
 by_cases hlen:(600:Int)<l.length
 ·go_wp2_with fail
  refine (HL.out w1 T1.out).mono ?_
  rintro e w2 ⟨rfl,b2⟩
  go_wp2_with fail
  go_returns
  exact ⟨rfl,b1.trans (b2.mono b1.size)⟩
 ·go_wp2_with fail
  refine (HB.out w1 T1.out).mono ?_
  rintro e w2 ⟨F,V,ow,rfl,hx,hx0,b2⟩
  have K2:=b1.trans (b2.mono b1.size)
  have hlow:∀ b,b<w.heap.size→ow b=0:=fun b hb=>hx0 b (Nat.lt_of_lt_of_le hb b1.size)
  have hlen4:l.length≤600:=by omega
  have hds:=s_dims p m g
  have hI0:Inv 0 (Wd.new (sP p) (sM p m) (sG g)):=new_inv p m g
  have hlg:=run_log p m g l (by omega) hin
  have hmd:Mdld (sP p) (sM p m) (sG g) ((Wd.new (sP p) (sM p m) (sG g)).run l).1:=mdld_run l 0 0 _ hI0 (by omega) (fun s hs=>(hin s hs).2.2.2.2) (mdld_new _ _ _ hds)
  have hIq:=run_inv hI0 l (by omega) hin
  have hrn:=run_any N 0 hI0 l (by omega) hin hx (Env.low_of HT.out K2 hlow) (.slice a l.length c) (HA.out.below K2) (fun a1 n1 c1 e1 hne=>hlow _ (HP.out a1 n1 c1 e1 hne))
  unfold dims at hds
  generalize sP p=pP at *
  generalize sM p m=pM at *
  generalize sG g=pG at *
  generalize ((Wd.new pP pM pG).run l).1=q at *
  generalize ((Wd.new pP pM pG).run l).2=nq at *
  have HR:=Lib.hid hrn
  have HK2:=Lib.hid K2
  have HLo:=Lib.hid hlow
  have HG:=Lib.hid hlg
  have HD:=Lib.hid hmd
  have HI:=Lib.hid hIq
  obtain ⟨dP,dM,dG⟩:=hmd.dim
  clear hrn K2 hlow hlg hmd hIq hx hx0 b1 b2 T1 hI0 HL HB
  go_wp2_with fail
  refine HR.out.mono ?_
  rintro x w3 ⟨rfl,V',ow',h4⟩
  have K3:=HK2.out.trans (h4.st.below HK2.out.size fun b hb=>HLo.out b hb)
  have hcf:=config_on h4.at_
  rw [dP,dM,dG] at hcf
  have H4:=Lib.hid h4.at_
  have HK3:=Lib.hid K3
  have HC:=Lib.hid hcf
  clear HR HK2 h4 K3 hcf
  go_wp2_with (first | (go_at_call 25;refine HC.out.mono ?_;rintro e w4 ⟨rfl,b4⟩))
  have u:=heap_alloc_new w4 (.cells #[.int .i64 pP,.int .i64 pM,.int .i64 pG] 42)
  have h5:=(((On.start H4.out).below b4).alloc (.cells #[.int .i64 pP,.int .i64 pM,.int .i64 pG] 42))
  have K4:=HK3.out.trans (b4.mono HK3.out.size)
  have K5:=K4.trans ((zab w4 (.cells #[.int .i64 pP,.int .i64 pM,.int .i64 pG] 42)).mono K4.size)
  have cP:=zaa u 0
  have cM:=zaa u 1
  have cG:=zaa u 2
  simp only [List.getElem?_toArray,List.getElem?_cons_zero,List.getElem?_cons_succ] at cP cM cG
  have hC:w.heap.size≤w4.heap.size:=K4.size
  obtain ⟨B,hB⟩:∃ B,B=w4.heap.size:=⟨_,rfl⟩
  rw [← hB] at cP cM cG hC
  have hBl:B<(w4.alloc (.cells #[.int .i64 pP,.int .i64 pM,.int .i64 pG] 42)).heap.size:=by rw [hB];simp
  have HAt:=Lib.hid h5.at_
  have HK5:=Lib.hid K5
  clear u h5 K4 K5 b4 HC H4 HK3 HLo HA HP
  rw [← hB]
  clear hB
  generalize (w4.alloc (.cells #[.int .i64 pP,.int .i64 pM,.int .i64 pG] 42))=W at *
  have HAt5:=Lib.hid (On.start HAt.out).drew.at_
  have hev:=zdK HAt5.out HG.out.1 (by have:=HG.out.2;omega)
  have hlow:∀ W',Below W.heap.size W W'→Tabs N W'∧KTab W':=fun W' K=>by
   have K':=HK5.out.trans (K.mono HK5.out.size)
   exact ⟨HT.out.below (fun x hx=>K'.block x (Nat.lt_of_lt_of_le hx HT.out.le)) (Nat.le_trans HT.out.le K'.size),HKT.out.below HKT.out.lt K'⟩
  have HEv:=Lib.hid hev
  have HLw:=Lib.hid hlow
  have hll:=HG.out.2
  clear hev hlow
  go_region_held3 (fun w'=>w'.cell? ⟨B,0,none⟩=some (.int .i64 pP)∧w'.cell? ⟨B,1,none⟩=some (.int .i64 pM)∧w'.cell? ⟨B,2,none⟩=some (.int .i64 pG))
   (first | exact ⟨cP,cM,cG⟩ | exact ⟨cP',cM',cG'⟩ | exact ⟨cP2,cM2,cG2⟩)
   (first | (go_at_call 23;refine HEv.out.mono ?_;rintro e w6 ⟨va,rfl,hown,b6⟩;have B6:=(show Below W.heap.size W w6 from ⟨b6.os,b6.tape,b6.output,b6.size,b6.block⟩);have hA6:=own_arg hown;have cP':=(b6.cell (p:=⟨B,0,none⟩) hBl).trans cP;have cM':=(b6.cell (p:=⟨B,1,none⟩) hBl).trans cM;have cG':=(b6.cell (p:=⟨B,2,none⟩) hBl).trans cG;have hB6:B<w6.heap.size:=Nat.lt_of_lt_of_le hBl B6.size) | (go_at_call 42;refine (mcheck_any N pP pM pG (by omega) (by omega) (by omega) q.log (by omega) HD.out.oks va w6 (HLw.out w6 B6).1 (HLw.out w6 B6).2 hA6).mono ?_;rintro e w7 ⟨rfl,b7⟩;have B7:=B6.trans (b7.mono B6.size);have cP2:=(b7.cell (p:=⟨B,0,none⟩) hB6).trans cP';have cM2:=(b7.cell (p:=⟨B,1,none⟩) hB6).trans cM';have cG2:=(b7.cell (p:=⟨B,2,none⟩) hB6).trans cG'))
  all_goals clear hown b6 b7 cP cM cG cP' cM' cG' hA6 hB6 B6 HEv HAt5
  have hB7:B<w7.heap.size:=Nat.lt_of_lt_of_le hBl B7.size
  have HB7:=Lib.hid B7
  have HB7':=Lib.hid (show Below W.heap.size W w7 from B7)
  clear B7
  go_wp2_with fail
  refine (zd5 pP pM pG (by omega) (by omega) (by omega) w7).mono ?_
  rintro e w8 ⟨b,gs,r1,r2,cc,rfl,hml,h1,h2,h3,h4,b8⟩
  have hWw:w.heap.size≤W.heap.size:=HK5.out.size
  have B8:=HB7.out.trans (b8.mono HB7.out.size)
  have kP:=(b8.cell (p:=⟨B,0,none⟩) hB7).trans cP2
  have kM:=(b8.cell (p:=⟨B,1,none⟩) hB7).trans cM2
  have kG:=(b8.cell (p:=⟨B,2,none⟩) hB7).trans cG2
  have hW8:=((On.start HAt.out).below B8).at_
  have hev:=zdK hW8 HG.out.1 (by omega)
  have hB8:B<w8.heap.size:=Nat.lt_of_lt_of_le hB7 b8.size
  have hs7:=HB7.out.size
  have g1:W.heap.size≤gs:=by omega
  have g2:W.heap.size≤r1:=by omega
  have g3:W.heap.size≤r2:=by omega
  have HEv:=Lib.hid hev
  have HW8:=Lib.hid hW8
  have HM8:=Lib.hid hml
  have HB8:=Lib.hid B8
  clear hev hW8 hml b8 B8 h1 h2 h3 h4 cP2 cM2 cG2 HB7 HB7' hs7
  go_wp2_with fail
  refine HEv.out.mono ?_
  rintro e w9 ⟨va,rfl,hown,b9⟩
  obtain ⟨a9,c9,rfl,hE9⟩:=evArg_cut (own_arg hown)
  have l8:=HM8.out.lt
  have HM9:=Lib.hid (HM8.out.below b9)
  have HW9:=Lib.hid ((On.start HW8.out).below b9).at_
  have B9:=HB8.out.trans (b9.mono HB8.out.size)
  have HB9:=Lib.hid B9
  have iP:=(b9.cell (p:=⟨B,0,none⟩) hB8).trans kP
  have iM:=(b9.cell (p:=⟨B,1,none⟩) hB8).trans kM
  have iG:=(b9.cell (p:=⟨B,2,none⟩) hB8).trans kG
  have hfar:∀ ba oa,a9=some ⟨ba,oa,none⟩→0<q.log.length→ba≠gs∧ba≠r1∧ba≠r2:=fun ba oa e h0=>by
   have:=own_far hown e h0
   omega
  have HE9:=Lib.hid hE9
  have HF9:=Lib.hid hfar
  clear hown b9 B9 hE9 hfar kP kM kG HEv HW8 HM8 HB8
  have hK9:=HK5.out.trans (HB9.out.mono HK5.out.size)
  have hmodlow:∀ W',Mod (mdlS gs r1 r2) w9 W'→Below w.heap.size w W':=fun W' md=>zdC (Nat.le_refl _) hK9 md (by omega) (by omega) (by omega)
  have HML:=Lib.hid hmodlow
  have hBn:¬ mdlS gs r1 r2 B:=fun e=>by
   have h1:B<W.heap.size:=hBl
   rcases e with e | e | e <;> omega
  have hlg3:=HG.out.2
  have HoW:∀ x,mdlS gs r1 r2 x→W.heap.size≤x∧x<w8.heap.size:=fun x e=>by
   rcases e with e | e | e
   ·rw [e];exact ⟨g1,l8.2.1⟩
   ·rw [e];exact ⟨g2,l8.2.2.1⟩
   ·rw [e];exact ⟨g3,l8.2.2.2⟩
  have hWM:∀ W',Mod (mdlS gs r1 r2) w9 W'→∃ ow'',WAt F V' ow'' W' q:=fun W' md=>⟨_,HW9.out.mod md (fun x e=>by
   have h1:=HoW x e
   rw [grow_lt h1.2,grow_ge h1.1])⟩
  have HWM:=Lib.hid hWM
  clear hWM hK9 hmodlow HW9 HoW HAt HLw
  go_wp2_with fail
  go_loopw [60] (fun i wr=>∃ j:Nat,i=.int .i64 (j:Int)∧j≤q.log.length∧MdlAt wr b gs r1 r2 cc pP pM (mrun (Mdl.new pG) (q.log.take j))∧Mod (mdlS gs r1 r2) w9 wr) (fun i _=>q.log.length - (intOf i).toNat)
  case atStart=>exact ⟨0,rfl,by omega,HM9.out,Mod.refl _ _⟩
  case round =>
   clear HM9
   obtain ⟨j,rfl,hj,hmd,md⟩:=hrel
   by_cases hpj:j<q.log.length
   ·have hEl:=HE9.out
    rcases hEl with h0 | ⟨ba,oa,rfl,hE⟩
    ·rw [h0] at hpj;simp at hpj
    obtain ⟨f1,f2,f3⟩:=HF9.out ba oa rfl (by omega)
    obtain ⟨e,he⟩:∃ e,q.log[j]?=some e:=⟨_,List.getElem?_eq_getElem hpj⟩
    obtain ⟨hok,_,hnx⟩:=MOks_at q.log (Mdl.new pG) j e HD.out.oks he
    have hE2:=hE.mod md (fun e=>by rcases e with e | e | e;exact f1 e;exact f2 e;exact f3 e)
    have c0:=hE2.ck j e he
    have c1:=hE2.cg j e he
    have c2:=hE2.cm j e he
    have c3:=hE2.cp j e he
    have c4:=hE2.cv j e he
    have hlt:=hE2.lt
    have hpi:(j:Int)<q.log.length:=by omega
    obtain ⟨ek,eg,ei,ep,ev⟩:=e
    obtain ⟨k,rfl⟩:∃ k:Nat,ek=k:=⟨ek.toNat,by have:=hok.k;dsimp only at this;omega⟩
    obtain ⟨y,rfl⟩:∃ y:Nat,eg=y:=⟨eg.toNat,by have:=hok.g;dsimp only at this;omega⟩
    dsimp only at c0 c1 c2 c3 c4
    obtain ⟨o,ho⟩:∃ o:Obj,o=.cells #[.int .i64 k,.int .i64 y,.int .i64 ei,.int .i64 ep,.int .i64 ev] 39:=⟨_,rfl⟩
    have B2:=zab wr o
    have md2:=md.trans1 (Mod.of_below B2 _)
    have K2:=HML.out _ md2
    have hm2:=hmd.below B2
    have T2:=HT.out.below (fun x hx=>K2.block x (Nat.lt_of_lt_of_le hx HT.out.le)) (Nat.le_trans HT.out.le K2.size)
    have KT2:=HKT.out.below HKT.out.lt K2
    have hadd:=madd_any N hm2 T2 KT2 k y ei ep ev (by omega) (by omega) hok
    rw [← hnx] at hadd
    rw [ho] at hadd md2
    have HA:=Lib.hid hadd
    have HMD2:=Lib.hid md2
    clear hmd hE hE2 md he hok hnx B2 hm2 T2 KT2 hadd K2 ho md2
    go_wp2_with fail
    refine HA.out.mono ?_
    rintro e w2 ⟨rfl,hm3,hmod⟩
    have HM3:=Lib.hid hm3
    have HMD3:=Lib.hid (HMD2.out.trans1 hmod)
    clear HA hm3 hmod
    go_wp2
    go_roundw
    case rel=>exact ⟨j+1,by go_num,hpj,HM3.out,HMD3.out⟩
    case measure=>simp [intOf];omega
   ·obtain rfl:j=q.log.length:=by omega
    have hpi:¬ (q.log.length:Int)<q.log.length:=by omega
    rw [List.take_length] at hmd
    have hrel:=HD.out.rel
    have jP:=md.cell hBn iP
    have jM:=md.cell hBn iM
    have jG:=md.cell hBn iG
    have HMr:=Lib.hid hmd
    have HRel:=Lib.hid hrel
    have HMd:=Lib.hid md
    have hstl:(mrun (Mdl.new pG) q.log).st.length=pG:=by rw [hrel.len,dG]
    clear hmd hrel HE9 HF9
    generalize mrun (Mdl.new pG) q.log=mm at *
    obtain ⟨wA,rfl⟩:∃ x,x=wr:=⟨wr,rfl⟩
    go_wp2
    go_loopw [70] (fun i wx_=>∃ j:Nat,i=.int .i64 (j:Int)∧j≤pG∧Below wA.heap.size wA wx_) (fun i _=>pG - (intOf i).toNat)
    case atStart=>exact ⟨0,rfl,by omega,Below.refl _ _⟩
    case round =>
     obtain ⟨x,rfl,hx,Kx⟩:=hrel
     by_cases hpx:x<pG
     ·have hpi2:(x:Int)<pG:=by omega
      have hs1:=mstatus_any (HMr.out.below Kx) x (by rw [hstl];exact hpx)
      have hsx:=HRel.out.st x (by omega)
      have hq:q.stat (x:Int)=q.sts x:=by
       unfold Wd.stat Wd.sts
       rw [if_pos (by omega),Int.toNat_natCast]
      have hs2:∀ W',Below wr.heap.size wr W'→∃ ow'',WAt F V' ow'' W' q:=fun W' Kw=>HWM.out W' ((HMd.out.trans1 (Mod.of_below Kx _)).trans1 (Mod.of_below Kw _))
      rw [hsx] at hs1
      have HS1:=Lib.hid hs1
      have HS2:=Lib.hid hs2
      have HKx:=Lib.hid Kx
      have Hq:=Lib.hid hq
      clear hs1 hs2 hsx Kx hq
      go_wp2_with fail
      refine HS1.out.mono ?_
      rintro e w2 ⟨rfl,b2⟩
      obtain ⟨ow2,hw2⟩:=HS2.out w2 b2
      have hst:=status_on hw2 (x:Int) (by omega)
      rw [Hq.out] at hst
      have HSt:=Lib.hid hst
      have Kx2:=Lib.hid (HKx.out.trans (b2.mono HKx.out.size))
      clear hst hw2 b2 HS1 HS2
      generalize q.sts x=sx at *
      go_wp2_with fail
      refine HSt.out.mono ?_
      rintro e w3 ⟨rfl,b3⟩
      have Kx3:=Lib.hid (Kx2.out.trans (b3.mono Kx2.out.size))
      clear b3 HSt
      go_wp2_with fail
      go_roundw
      case rel=>exact ⟨x+1,by go_num,hpx,Kx3.out⟩
      case measure=>simp [intOf];omega
     ·obtain rfl:x=pG:=by omega
      have hpi2:¬ (x:Int)<x:=by omega
      have hBr:B<wA.heap.size:=World.block_lt_of_cell? wA _ jM
      have mM:=(Kx.cell (p:=⟨B,1,none⟩) hBr).trans jM
      have HKx:=Lib.hid Kx
      clear Kx jP jG iP iM iG
      go_wp2
      go_loopw [83] (fun i wy=>∃ j:Nat,i=.int .i64 (j:Int)∧j≤pM∧Below wA.heap.size wA wy) (fun i _=>pM - (intOf i).toNat)
      case atStart=>exact ⟨0,rfl,by omega,HKx.out⟩
      case round =>
       clear HKx mM
       obtain ⟨y,rfl,hy,Ky⟩:=hrel
       by_cases hpy:y<pM
       ·have hpi3:(y:Int)<pM:=by omega
        have hrt:=rest_len HI.out (i:=y) (by omega)
        have hs2:∀ W',Below wr.heap.size wr W'→∃ ow'',WAt F V' ow'' W' q:=fun W' Kw=>HWM.out W' ((HMd.out.trans1 (Mod.of_below Ky _)).trans1 (Mod.of_below Kw _))
        have hrr:=fun z=>HRel.out.runs y z
        have hrx:alGet mm.runs (y:Int)=if 0≤(q.mach y).g then some ((q.mach y).g,(q.mach y).p) else none:=by
         split
         ·rename_i hg0
          exact (hrr _).2 ⟨y,rfl,by omega,hg0,rfl⟩
         ·rename_i hg0
          cases hz:alGet mm.runs (y:Int) with
          | none=>rfl
          | some z =>
           obtain ⟨j',e1,_,e2,_⟩:=(hrr z).1 hz
           obtain rfl:y=j':=by omega
           exact absurd e2 hg0
        have hru:=mruns_any (HMr.out.below Ky) (y:Int) _ hrx
        have HRu:=Lib.hid hru
        have HS2:=Lib.hid hs2
        have HKy:=Lib.hid Ky
        clear hru hs2 Ky hrr hrx
        have hgen:∀ W' ow'',WAt F V' ow'' W' q→Calls Tryz.prog 26 #[.pointer (some ⟨F.W,0,none⟩),.int .i64 y] W' fun e w'=>∃ (ra:Option Addr) (rn rc:Nat),e=.returned (.agg (encM (q.mach y) (.slice ra rn rc)).toArray)∧Below W'.heap.size W' w':=fun W' ow'' hw=>by
         refine (zdZ hw y (by omega) (by omega)).mono ?_
         rintro e w' ⟨v,rfl,hrow,hb⟩
         obtain ⟨ra,rc,rfl⟩:=zac hrow
         exact ⟨ra,_,rc,rfl,hb⟩
        have HGen:=Lib.hid hgen
        clear hgen
        generalize q.mach y=my at *
        by_cases hg0:0≤my.g
        ·rw [if_pos hg0] at HRu
         go_wp2_with fail
         refine HRu.out.mono ?_
         rintro e w2 ⟨rfl,b2⟩
         obtain ⟨ow2,hw2⟩:=HS2.out w2 b2
         have HMa:=Lib.hid (HGen.out w2 ow2 hw2)
         have Ky2:=Lib.hid (HKy.out.trans (b2.mono HKy.out.size))
         clear hw2 b2 HS2 HRu
         go_wp2_with fail
         refine HMa.out.mono ?_
         rintro e w3 ⟨ra,rn,rc,rfl,b3⟩
         have Ky3:=Lib.hid (Ky2.out.trans (b3.mono Ky2.out.size))
         clear b3 HMa
         go_wp2_with (first | (refine wpList_store_row rfl 52 _ _ rfl _ _ rfl rfl 52 _ (heap_alloc_new w3 _) zbn rfl (by simp [encM,Value.oneCell']) ?_;refine zce (fun wb=>wb.heap[w3.heap.size]?=some (.cells (encM my (.slice ra rn rc)).toArray 52 (0,0))∧Below w3.heap.size w3 wb) (zbb _) ?_;rintro wb ⟨hx,hbw⟩;have x1:=zaa hx 1;have x2:=zaa hx 2;have K4:=Ky3.out.trans (hbw.mono Ky3.out.size);change wb.cell? _=some (.int .i64 my.p) at x1;change wb.cell? _=some (.int .i64 my.g) at x2;have HK4:=Lib.hid K4;clear hx K4;refine wpl_hideM ?_))
         refine Lib.hid ?_
         go_wp2_with fail
         exact ⟨⟨y+1,by go_num,hpy,HK4.out⟩,by simp [intOf];omega⟩
        ·rw [if_neg hg0] at HRu
         simp only [Option.getD_none,Option.isSome_none] at HRu
         go_wp2_with fail
         refine HRu.out.mono ?_
         rintro e w2 ⟨rfl,b2⟩
         obtain ⟨ow2,hw2⟩:=HS2.out w2 b2
         have HMa:=Lib.hid (HGen.out w2 ow2 hw2)
         have Ky2:=Lib.hid (HKy.out.trans (b2.mono HKy.out.size))
         clear hw2 b2 HS2 HRu
         go_wp2_with fail
         refine HMa.out.mono ?_
         rintro e w3 ⟨ra,rn,rc,rfl,b3⟩
         have Ky3:=Lib.hid (Ky2.out.trans (b3.mono Ky2.out.size))
         clear b3 HMa
         go_wp2_with (first | (refine wpList_store_row rfl 52 _ _ rfl _ _ rfl rfl 52 _ (heap_alloc_new w3 _) zbn rfl (by simp [encM,Value.oneCell']) ?_;refine zce (fun wb=>wb.heap[w3.heap.size]?=some (.cells (encM my (.slice ra rn rc)).toArray 52 (0,0))∧Below w3.heap.size w3 wb) (zbb _) ?_;rintro wb ⟨hx,hbw⟩;have x2:=zaa hx 2;have K4:=Ky3.out.trans (hbw.mono Ky3.out.size);change wb.cell? _=some (.int .i64 my.g) at x2;have HK4:=Lib.hid K4;clear hx K4;refine wpl_hideM ?_))
         refine Lib.hid ?_
         go_wp2_with fail
         exact ⟨⟨y+1,by go_num,hpy,HK4.out⟩,by simp [intOf];omega⟩
       ·obtain rfl:y=pM:=by omega
        have hpi3:¬ (y:Int)<y:=by omega
        go_wp2
        go_returns
        exact ⟨rfl,(HML.out wA HMd.out).trans (Ky.mono (HML.out wA HMd.out).size)⟩
theorem modelI_any (N:Nat) (a b c:Int) (ha:0≤a∧a≤255) (hb:0≤b∧b≤255) (hc:0≤c∧c≤255) (l:List Hst.Stp) (hin:inSt l) (v:Value) (w:World) (T:Tabs N w) (KT:KTab w) (hA:StArg w v l) :
  Calls Tryz.prog 9 #[.int .u8 a,.int .u8 b,.int .u8 c,v] w fun e w'=>e=.returned (.bool true)∧Below w.heap.size w w':=by
 obtain ⟨p,rfl⟩:∃ p:Nat,a=p:=⟨a.toNat,by omega⟩
 obtain ⟨m,rfl⟩:∃ m:Nat,b=m:=⟨b.toNat,by omega⟩
 obtain ⟨g,rfl⟩:∃ g:Nat,c=g:=⟨c.toNat,by omega⟩
 exact model_any N p m g (by omega) (by omega) (by omega) l hin v w T KT hA
end Go.Proofs.YtlmmjgekolpekaaGreatDoor
namespace Go.Proofs.YtlmmjgekolpekaaGreatDoor.worldModel
open Go Go.ChangeShapes Go.WideShapes Go.ChangeAt Go.RowKit Go.Proofs
theorem contract (H:Type) (enc:TypeId × Value→H) (W:World) (base:Nat) (args:Array Value) (ds gs:List (DataW H)) (before:List MemPlace)
  (hval:∀ (j:Nat) t v,Tryz.f9.params[j]?=some t→args[j]?=some v→Value.okWide Tryz.prog W .any base t v)
  (hW:DataW.Whole enc Tryz.prog Tryz.f9.params.toList Rows.worldModelSpec.vars false W args.toList ds gs before) (hL:laidMetH Tryz.prog Rows.worldModelRow.laid W) :
  Calls Tryz.prog 9 args W fun e W'=>∃ v,e=.returned v∧Rows.worldModelSpec.post enc Tryz.prog Tryz.f9 false true false false W args v W':=by
 have hW':=hW
 obtain ⟨p,q,hA0,hV,rfl,hfz,hnd⟩:=hW
 have hA:DataW.TrodAll enc Tryz.prog W 0 (fun _=>true) true Tryz.f9.params.toList args.toList ds p:=hA0
 rw [Tryz.params9] at hA hval
 obtain ⟨v0,vs0,d0,ds0,p0,q0,hargs,rfl,rfl,t0,r0⟩:=trodAll_cons hA
 obtain ⟨v1,vs1,d1,ds1,p1,q1,rfl,rfl,rfl,t1,r1⟩:=trodAll_cons r0
 obtain ⟨v2,vs2,d2,ds2,p2,q2,rfl,rfl,rfl,t2,r2⟩:=trodAll_cons r1
 obtain ⟨v3,vs3,d3,ds3,p3,q3,rfl,rfl,rfl,t3,r3⟩:=trodAll_cons r2
 obtain ⟨rfl,rfl,rfl⟩:=trodAll_nil r3
 obtain rfl:args=#[v0,v1,v2,v3]:=by cases args;simp_all
 obtain ⟨rfl,rfl⟩:=trodVars_none hV
 obtain ⟨a0,rfl,rfl,rfl,h0⟩:=open_int Tryz.underlying5 (hval 0 5 v0 rfl rfl) t0
 obtain ⟨a1,rfl,rfl,rfl,h1⟩:=open_int Tryz.underlying5 (hval 1 5 v1 rfl rfl) t1
 obtain ⟨a2,rfl,rfl,rfl,h2⟩:=open_int Tryz.underlying5 (hval 2 5 v2 rfl rfl) t2
 obtain ⟨pa3,ca3,l3,rfl,hE3,hv3⟩:=open_sts (hval 3 22 v3 rfl rfl) t3
 clear hA0
 simp only [List.append_nil,List.nil_append] at hW' hA
 refine (modelI_any W.heap.size a0 a1 a2 (u8_of h0) (u8_of h1) (u8_of h2) l3 hv3 (.slice pa3 l3.length ca3) W (tabs_of (l:=Rows.worldModelRow.laid) hL (by simp [Rows.worldModelRow]) (by simp [Rows.worldModelRow]) (by simp [Rows.worldModelRow]) (by simp [Rows.worldModelRow])) (ktab_of (l:=Rows.worldModelRow.laid) hL (by simp [Rows.worldModelRow])) hE3).mono fun e W' ⟨he,hg⟩=>?_
 subst he
 exact ⟨_,rfl,post_kept (pa:=p3) (pv:=[]) hW' (fun _ _ _=>trodAll_cons_mk (shut_bool Tryz.underlying4 _) trodAll_mk0)
  (fun sp hs=>DataW.TrodAll.respare kids full (by decide) (zcu hA fun x hx=>hg.same (hW'.lt x (by simpa using hx))) fun x hx=>hs x (by simpa using hx)) (fun _ _=>rfl) (by simp) (hg.frame _)⟩
theorem laid_met (os:Os):laidMet Tryz.prog Rows.worldModelRow.laid ((zeQ os).forCall (fun _ _=>0) ⟨#[],#[.int .u8 0,.int .u8 0,.int .u8 0,.slice none 0 0],[]⟩).memory :=
 laidMet_of_run' 8 (by kernel_rfl) (by kernel_rfl)
theorem reads (os:Os) {H:Type} (enc:TypeId × Value→H):∃ places,DataW.whole enc Tryz.prog ((zeQ os).forCall (fun _ _=>0) ⟨#[],#[.int .u8 0,.int .u8 0,.int .u8 0,.slice none 0 0],[]⟩).memory Tryz.f9.params.toList Rows.worldModelSpec.vars false #[Value.int .u8 0,Value.int .u8 0,Value.int .u8 0,Value.slice none 0 0].toList 8=some ([.lit (.int .u8 0),.lit (.int .u8 0),.lit (.int .u8 0),.nil],[],places) :=
 ⟨[],by kernel_rfl⟩
theorem lifted (os:Os) (started:os.Started) (H:Type) (enc:TypeId × Value→H) (F:Stop.Interp) :
  ReturnsInHanded {} Tryz.checked os 9 .any ((OpenSpec.ofChange Rows.worldModelSpec).preRow enc Tryz.prog Tryz.f9 Rows.worldModelRow.domain false Rows.worldModelRow.laid) (((OpenSpec.ofChange Rows.worldModelSpec).at F).post enc Tryz.prog Tryz.f9 false true false false):=by
 obtain ⟨places,hx⟩:=reads os enc
 refine returnsInHanded_of_row (C:=Tryz.checked) (s:=OpenSpec.ofChange Rows.worldModelSpec) own started (by kernel_rfl) Tryz.func9
  (witness_row_atRef (enc:=enc) (C:=Tryz.checked) false (zeQ os) #[.int .u8 0,.int .u8 0,.int .u8 0,.slice none 0 0] rfl (by kernel_rfl) (by kernel_rfl) (by kernel_rfl)
   (OpenSpec.preRow_of_cond 8 hx (by kernel_rfl) (fun k hk=>by cases hk) (by kernel_rfl) (laid_met os))) ?_
 intro W base args ds gs before hval hW _ _ _ hL _ _
 exact contract H enc W base args ds gs before hval hW hL
end Go.Proofs.YtlmmjgekolpekaaGreatDoor.worldModel
