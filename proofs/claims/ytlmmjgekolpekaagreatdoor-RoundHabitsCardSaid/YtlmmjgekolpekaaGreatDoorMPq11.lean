/- Parts of the proof. -/
import Derived.Test.YtlmmjgekolpekaaGreatDoorMPk13
import Derived.Test.YtlmmjgekolpekaaGreatDoorMPq07
set_option linter.unusedVariables false
set_option linter.unusedSimpArgs false
set_option linter.unusedSectionVars false
set_option maxRecDepth 100000
set_option maxHeartbeats 6400000
namespace Go.Proofs.YtlmmjgekolpekaaGreatDoor
open Go Go.RowKit Hst Go.Proofs
theorem rlen_any (b:Nat) (r:Hst.Ring) (w:World) (h:RingAt b w r) :
  Calls Tryz.prog 203 #[.pointer (some ⟨b,0,none⟩)] w fun e w'=>e=.returned (.int .i64 (r.len:Nat))∧w'=w:=by
 obtain ⟨head,h⟩:=h
 have c257:=h.csize
 have c258:=h.cis
 have hl:=h.len_le
 cases hi:r.is
 ·have e:r.len=r.l.length:=by unfold Ring.len;rw [hi];rfl
  rw [hi] at c258
  rw [e]
  clear h hi e
  go_enter Tryz.func203,Tryz.ntmps203
  go_wp2
  go_returns
  exact ⟨rfl,rfl⟩
 ·have e:r.len=r.l.length+1:=by unfold Ring.len;rw [hi];rfl
  rw [hi] at c258
  rw [e]
  clear h hi e
  go_enter Tryz.func203,Tryz.ntmps203
  go_wp2
  go_returns
  exact ⟨rfl,rfl⟩
section
variable {F:Fix} {V:Vol} {ow0 ow:Nat→Nat} {w0 w:World} {p:Wd}
theorem IdleH_mono' {S T:Nat→Prop} {b mk mw n m:Nat} {w:World} {x:Hst.Idle} (h:IdleH S b mk mw w n m x) (hs:∀ y,S y→T y):IdleH T b mk mw w n m x:=by
 obtain ⟨pv,mv,r1,r2,r3,r4,r5,r6,r7,r8⟩:=h.rows
 exact ⟨⟨hs _ h.inS.1,hs _ h.inS.2.1,hs _ h.inS.2.2⟩,h.ne,h.c0,⟨pv,mv,r1,r2,r3,r4,fun g e=>hs _ (r5 g e),fun g e=>hs _ (r6 g e),r7,r8⟩,h.c3,h.c4,h.k0,h.k1,h.kw,h.fr,h.bits,h.n_le⟩
theorem Owns.nf {P:Nat} (h:Owns F ow P):F.flag≠F.W∧F.flag≠F.all∧F.flag≠F.rs∧F.all≠F.W∧F.all≠F.rs∧F.all≠F.flag:=by
 obtain ⟨o1,o2,o3,o4,o5,o9,o10,_⟩:=h
 refine ⟨?_,?_,?_,?_,?_,?_⟩ <;> (intro e;have:=congrArg ow e;omega)
theorem On.idleMod (h:On F V ow0 w0 ow w p) {w':World} {x':Hst.Idle} (hx:IdleAt (grow ow w.heap.size 8 ·=8) F.idle w' p.P p.M x') (hm:Mod (fun y=>ow y=8∧y<w.heap.size) w w'):On F V ow0 w0 (grow ow w.heap.size 8) w' { p with idle:=x' }:=by
 obtain ⟨ha,hst⟩:=h
 obtain ⟨l1,l2,l3,l4,l5⟩:=ha.lens
 have hs:∀ x,x<w.heap.size→(ow x=8∧x<w.heap.size)→ow x=8:=fun _ _ e=>e.1
 exact ⟨ha.upd (·=8) ⟨rfl,rfl,rfl⟩ ⟨l1,l2,l3,l4,l5⟩ (fun b hb=>grow_lt hb) (hm.agree hs)
  (.inl ⟨by omega,rfl⟩) (.inl ⟨by omega,rfl⟩) (.inl ⟨by omega,rfl⟩) (by omega) (fun q hq=>.inl ⟨by omega,rfl⟩)
  (.inl ⟨by omega,rfl⟩) (.inl ⟨by omega,rfl⟩) (.inl ⟨by omega,rfl⟩) (.inr hx) (.inl ⟨by omega,rfl,rfl⟩) (fun j hj=>.inl ⟨by omega,rfl,rfl⟩) (.inl ⟨by omega,rfl⟩) (.inl ⟨by omega,rfl,rfl⟩),hst.trans (hm.stp hs (by omega) 8)⟩
theorem WAt.idle8 (h:WAt F V ow w p):∃ mk mw,IdleH (fun x=>ow x=8∧x<w.heap.size) F.idle mk mw w p.P p.M p.idle:=by
 obtain ⟨mk,mw,hh⟩:=h.cidle
 have l0:=World.block_lt_of_cell? w _ hh.c0
 have l1:=World.block_lt_of_cell? w _ hh.k0
 have l2:=World.block_lt_of_cell? w _ hh.kw
 obtain ⟨pv,mv,r1,r2,r3,r4,r5,r6,r7,r8⟩:=hh.rows
 exact ⟨mk,mw,⟨⟨hh.inS.1,l0⟩,⟨hh.inS.2.1,l1⟩,⟨hh.inS.2.2,l2⟩⟩,hh.ne,hh.c0,⟨pv,mv,r1,r2,r3,r4,fun g e=>⟨r5 g e,(r3.lt g e).2⟩,fun g e=>⟨r6 g e,(r4.lt g e).2⟩,r7,r8⟩,hh.c3,hh.c4,hh.k0,hh.k1,hh.kw,hh.fr,hh.bits,hh.n_le⟩
theorem On.idleH (h:On F V ow0 w0 ow w p) {mk mw:Nat} {w':World} {x':Hst.Idle} (hx:IdleH (fun x=>ow x=8∧x<w.heap.size) F.idle mk mw w' p.P p.M x') (hm:Mod (fun y=>ow y=8∧y<w.heap.size) w w'):On F V ow0 w0 (grow ow w.heap.size 8) w' { p with idle:=x' } :=
 h.idleMod ⟨mk,mw,IdleH_mono' hx fun y e=>(grow_lt e.2).trans e.1⟩ hm
theorem On.idleHn (h:On F V ow0 w0 ow w p) {mk mw:Nat} {w':World} {x':Hst.Idle} (hx:IdleH (fun x=>(ow x=8∧x<w.heap.size)∨w.heap.size≤x) F.idle mk mw w' p.P p.M x') (hm:Mod (fun y=>ow y=8∧y<w.heap.size) w w'):On F V ow0 w0 (grow ow w.heap.size 8) w' { p with idle:=x' } :=
 h.idleMod ⟨mk,mw,IdleH_mono' hx fun y e=>by rcases e with e | e;exact (grow_lt e.2).trans e.1;exact grow_ge e⟩ hm
end
theorem hold_on {F:Fix} {V:Vol} {ow:Nat→Nat} {w:World} {p:Wd} (h:WAt F V ow w p) (i:Nat) (hi:i<p.M) (q:Int) (is:Bool) :
  Calls Tryz.prog 206 #[.pointer (some ⟨F.W,0,none⟩),.int .i64 i,.int .i64 q,.bool is] w fun e w'=>e=.returned (.tuple #[])∧∃ ow',On F V ow w ow' w' (p.hold i q is):=by
 have c13:=h.cW_all
 have c14:=h.cW_flag
 have cf:=h.cF hi
 have cA1:=h.cA_p hi
 have fA:=h.call.2
 have fF:=h.cflag.2
 have hM:=h.dim
 have hcap:=h.own_cap.2
 have n1:=h.own.ne.2.2.2.2.2.2.2.2.2.2.2.2.2.1
 have n2:=h.own.ne.2.2.2.2.1
 have n3:=h.own.ne.2.2.2.2.2.1
 unfold dims at hM
 have H:=Lib.hid h
 clear h
 cases is
 ·go_enter Tryz.func206,Tryz.ntmps206
  go_wp2
  go_returns
  exact ⟨rfl,_,(On.start H.out).s_flag hi false⟩
 ·go_enter Tryz.func206,Tryz.ntmps206
  go_wp2
  go_returns
  exact ⟨rfl,_,((OnM.of_on ((On.start H.out).s_flag hi true) hi).s_p q).fin rfl⟩
theorem do_9 (N:Nat) (p:Wd) (i q:Nat) (t:Int) (hi:i<p.M) (hq:q<p.P) (hI:(p.mach i).i=(q:Int)) (hpl:(p.mach i).place=9):DoOK N p i t (p.doIt i t).1 (p.doIt i t).2:=by
 intro F V ow w h E
 have e:p.doIt i t=(p.setF i (decide (0<(p.ring q).len)),false):=by
  unfold Wd.doIt;simp only [hpl,hI,Int.toNat_natCast]
 rw [e]
 have c13:=h.cW_all
 have c14:=h.cW_flag
 have c8:=h.cW_rs
 have c0:=h.cA_place hi
 have c6:=h.cA_i hi
 have cr:=h.cR hq
 have cf:=h.cF hi
 have fF:=h.cflag.2
 have hM:=h.dim
 have hcap:=h.own_cap
 have hrl:=(h.cring q hq).lt
 have hrow:=fun w1 (e:WAt F V ow w1 p)=>rlen_any (F.ring q) (p.ring q) w1 (e.cring q hq)
 rw [hpl] at c0
 rw [hI] at c6
 unfold dims at hM
 have H:=Lib.hid h
 have HR:=Lib.hid hrow
 obtain ⟨nf1,nf2,nf3,na1,na2,na3⟩:=h.own.nf
 have hlen:((p.ring q).len:Int)≤257:=by
  obtain ⟨hd,hh⟩:=h.cring q hq
  have:=hh.len_le
  unfold Ring.len;split <;> omega
 clear h E e hpl hI hrow
 go_enter Tryz.func178,Tryz.ntmps178
 go_wp2
 go_region_held3 (fun w'=>w'.cell? ⟨F.W,8,none⟩=some (.slice (some ⟨F.rs,0,none⟩) p.P F.rsCap)∧w'.cell? ⟨F.W,14,none⟩=some (.slice (some ⟨F.flag,0,none⟩) p.M p.M)∧w'.cell? ⟨F.all,i*18+6,none⟩=some (.int .i64 q)∧w'.cell? ⟨F.rs,q,none⟩=some (.pointer (some ⟨F.ring q,0,none⟩)))
  (first | exact ⟨c8,c14,c6,cr⟩ | exact ⟨(cell_far nf1 _).trans c8,(cell_far nf1 _).trans c14,(cell_far nf2 _).trans c6,(cell_far nf3 _).trans cr⟩)
  (first | (go_at_call 203;refine (HR.out w.drew (On.start H.out).drew.at_).mono ?_;rintro e w1 ⟨rfl,hw⟩;have hw:=hw.symm;subst hw))
 go_wp2
 go_returns
 have e2:decide (0<((p.ring q).len:Int))=decide (0<(p.ring q).len):=by simp
 exact ⟨rfl,V,_,e2 ▸ ((On.start H.out).drew.s_flag hi (decide (0<((p.ring q).len:Int))))⟩
theorem do_10 (N:Nat) (p:Wd) (i:Nat) (t:Int) (hi:i<p.M) (hpl:(p.mach i).place=10) (hbig:p.glob.length≤4294967296):DoOK N p i t (p.doIt i t).1 (p.doIt i t).2:=by
 intro F V ow w h E
 have e:p.doIt i t=(p.setF i (decide (0<p.glob.length)),false):=by
  unfold Wd.doIt;simp only [hpl]
 rw [e]
 have c13:=h.cW_all
 have c14:=h.cW_flag
 have c10:=h.cW_glob
 have c0:=h.cA_place hi
 have cf:=h.cF hi
 have fF:=h.cflag.2
 have hM:=h.dim
 have hcap:=h.own_cap
 obtain ⟨a,c,g0⟩:=row_len h.cglob.row
 rw [hpl] at c0
 unfold dims at hM
 have H:=Lib.hid h
 obtain ⟨nf1,nf2,nf3,na1,na2,na3⟩:=h.own.nf
 clear h E e hpl
 go_enter Tryz.func178,Tryz.ntmps178
 go_wp2
 go_region_held3 (fun w'=>w'.cell? ⟨F.W,10,none⟩=some (.pointer (some ⟨F.glob,0,none⟩))∧w'.cell? ⟨F.W,14,none⟩=some (.slice (some ⟨F.flag,0,none⟩) p.M p.M))
  (first | exact ⟨c10,c14⟩ | exact ⟨(cell_far nf1 _).trans c10,(cell_far nf1 _).trans c14⟩)
  (first | (go_at_call 204;refine (glen_any F.glob a _ c w.drew g0).mono ?_;rintro e w1 ⟨rfl,hw⟩;have hw:=hw.symm;subst hw))
 go_wp2
 go_returns
 have e2:decide (0<(p.glob.length:Int))=decide (0<p.glob.length):=by simp
 exact ⟨rfl,V,_,e2 ▸ ((On.start H.out).drew.s_flag hi (decide (0<(p.glob.length:Int))))⟩
theorem do_11 (N:Nat) (p:Wd) (i:Nat) (t:Int) (hi:i<p.M) (hpl:(p.mach i).place=11):DoOK N p i t (p.doIt i t).1 (p.doIt i t).2:=by
 intro F V ow w h E
 have e:p.doIt i t=(({ p with idle:=p.idle.takeP.1 }:Wd).hold i p.idle.takeP.2.1 p.idle.takeP.2.2,false):=by
  unfold Wd.doIt;simp only [hpl]
 rw [e]
 have c13:=h.cW_all
 have c12:=h.cW_idle
 have c0:=h.cA_place hi
 have hM:=h.dim
 have hcap:=h.own_cap
 rw [hpl] at c0
 unfold dims at hM
 obtain ⟨mk,mw,h8⟩:=h.idle8
 have ht:=zcs h8 E.tabs (by omega)
 have H:=Lib.hid h
 have HO:=Lib.hid ht
 clear h E e ht h8
 go_enter Tryz.func178,Tryz.ntmps178
 go_wp2_with fail
 refine HO.out.mono ?_
 rintro e w1 ⟨rfl,hg,hm⟩
 have h1:=(On.start H.out).idleH hg hm
 have H1:=Lib.hid h1
 clear h1 hg hm HO
 go_wp2_with fail
 refine (hold_on H1.out.at_ i hi _ _).mono ?_
 rintro e w2 ⟨rfl,ow2,h2⟩
 go_wp2
 go_returns
 exact ⟨rfl,V,_,H1.out.then_ h2⟩
theorem do_15 (N:Nat) (p:Wd) (i:Nat) (t:Int) (hi:i<p.M) (hpl:(p.mach i).place=15):DoOK N p i t (p.doIt i t).1 (p.doIt i t).2:=by
 intro F V ow w h E
 have e:p.doIt i t=(({ p with idle:=(p.idle.leave i).1 }:Wd).setF i (p.idle.leave i).2,false):=by
  unfold Wd.doIt;simp only [hpl]
 rw [e]
 have c13:=h.cW_all
 have c14:=h.cW_flag
 have c12:=h.cW_idle
 have c0:=h.cA_place hi
 have hM:=h.dim
 have hcap:=h.own_cap
 rw [hpl] at c0
 unfold dims at hM
 have hl:=fun (w1:World) (e:WAt F V ow w1 p)=>e.idle8
 obtain ⟨mk,mw,h8⟩:=hl w.drew (On.start h).drew.at_
 have ht:=leave_any i h8
 have H:=Lib.hid h
 have HO:=Lib.hid ht
 obtain ⟨nf1,nf2,nf3,na1,na2,na3⟩:=h.own.nf
 clear h E e ht h8 hl hpl
 go_enter Tryz.func178,Tryz.ntmps178
 go_wp2
 go_region_held3 (fun w'=>w'.cell? ⟨F.W,12,none⟩=some (.pointer (some ⟨F.idle,0,none⟩))∧w'.cell? ⟨F.W,14,none⟩=some (.slice (some ⟨F.flag,0,none⟩) p.M p.M))
  (first | exact ⟨c12,c14⟩ | exact ⟨k12,k14⟩ | exact ⟨(cell_far nf1 _).trans k12,(cell_far nf1 _).trans k14⟩)
  (first | (go_at_call 146;refine HO.out.mono ?_;rintro e w1 ⟨rfl,hg,hm⟩;have h1:=(On.start H.out).drew.idleH hg hm;have k12:w1.cell? ⟨F.W,12,none⟩=some (.pointer (some ⟨F.idle,0,none⟩)):=h1.at_.cW_idle;have k14:w1.cell? ⟨F.W,14,none⟩=some (.slice (some ⟨F.flag,0,none⟩) p.M p.M):=h1.at_.cW_flag;have kf:=h1.at_.cF hi;have kF:=h1.at_.cflag.2;have H1:=Lib.hid h1;clear h1 hg hm))
 go_wp2
 go_returns
 exact ⟨rfl,V,_,H1.out.s_flag hi _⟩
theorem zbV (p:Wd) (i:Nat) (l:List Int):(p.found i l).idle=p.idle∧(p.found i l).M=p.M∧(p.found i l).P=p.P:=by
 cases l <;> exact ⟨rfl,rfl,rfl⟩
theorem fl_self (p:Wd) (i:Nat) (b:Bool) (hi:i<p.flag.length):(p.setF i b).fl i=b:=by
 rw [fl_setF p i i b hi,if_pos rfl]
theorem found_fl (p:Wd) (i:Nat) (l:List Int) (hi:i<p.flag.length):(p.found i l).fl i=!l.isEmpty:=by
 cases l
 ·exact fl_self p i false hi
 ·exact fl_self p i true hi
theorem found_mp (p:Wd) (i:Nat) (l:List Int) (hi:i<p.all.length):((p.found i l).mach i).p=(p.mach i).p:=by
 cases l with
 | nil=>rfl
 | cons g t =>
  have h1:=congrArg Mach.p (zaj (p.setF i true) i { p.mach i with got:=g,rest:=t } hi)
  exact h1
theorem do_7 (N:Nat) (p:Wd) (i q:Nat) (t:Int) (hi:i<p.M) (hpl:(p.mach i).place=7) (hq:q<p.P) (hp:(p.mach i).p=(q:Int)) (hbig:p.glob.length≤4294967296) (hb:p.idle.p.testBit q=false) (hn:¬ (q:Int)∈p.idle.pending) (hpb:p.idle.pending.length≤65536):DoOK N p i t (p.doIt i t).1 (p.doIt i t).2:=by
 intro F V ow w h E
 have e:p.doIt i t=(if p.takeShare.2=[] then
   ((({ p.takeShare.1.found i p.takeShare.2 with idle:={ p.idle with p:=p.idle.p^^^2^q } }:Wd).setM i { (p.takeShare.1.found i p.takeShare.2).mach i with p:=-1 }),false) else (p.takeShare.1.found i p.takeShare.2,false)):=by
  have hf:=found_fl p.takeShare.1 i p.takeShare.2 (by show i<p.flag.length;rw [h.lens.2.2.2.1];exact hi)
  have hI:(p.takeShare.1.found i p.takeShare.2).idle=p.idle:=(zbV _ _ _).1
  have hput:p.idle.putP (q:Int)=({ p.idle with p:=p.idle.p^^^2^q },true):=by
   unfold Idle.putP;rw [if_neg (by rw [Int.toNat_natCast,hb];simpa using hn),Int.toNat_natCast]
  unfold Wd.doIt;simp only [hpl]
  rw [hf,hI,hp,hput]
  by_cases hz:p.takeShare.2=[]
  ·rw [if_pos hz,if_neg (by rw [hz];decide)];rfl
  ·rw [if_neg hz,if_pos (by cases hc:p.takeShare.2 with
    | nil=>exact absurd hc hz
    | cons _ _=>rfl)]
 obtain ⟨r,hr⟩:∃ r,r=p.doIt i t:=⟨_,rfl⟩
 rw [← hr]
 have hr:=hr.trans e
 have HR:=Lib.hid hr
 clear hr
 have c13:=h.cW_all
 have c10:=h.cW_glob
 have c0:=h.cA_place hi
 have hM:=h.dim
 have hcap:=h.own_cap
 rw [hpl] at c0
 unfold dims at hM
 have hone:=gtake_any _ F.glob p.P p.glob w h.glob6 hM.1 (by omega) hbig p.share rfl
 have hsl:p.share≤p.glob.length:=by unfold Wd.share;omega
 have hlen:(p.glob.take p.share).length=p.share:=by simp;omega
 have hfl:=found_fl p.takeShare.1 i p.takeShare.2 (by show i<p.flag.length;rw [h.lens.2.2.2.1];exact hi)
 have hmp:=found_mp p.takeShare.1 i p.takeShare.2 (by show i<p.all.length;rw [h.lens.2.2.1];exact hi)
 have hmp:((p.takeShare.1.found i p.takeShare.2).mach i).p=(q:Int):=hmp.trans hp
 have hI:=zbV p.takeShare.1 i p.takeShare.2
 have hiM:i<(p.takeShare.1.found i p.takeShare.2).M:=by rw [hI.2.1];exact hi
 have H:=Lib.hid h
 have HO:=Lib.hid hone
 have HL:=Lib.hid hlen
 have HF:=Lib.hid hfl
 have HMP:=Lib.hid hmp
 have HI:=Lib.hid hI
 have HPd:=Lib.hid hn
 clear h E e hone hlen hsl hfl hmp hI hpl hp hn
 go_enter Tryz.func178,Tryz.ntmps178
 go_wp2_with fail
 refine HO.out.mono ?_
 rintro e w1 ⟨v,rfl,hown,hg,hm⟩
 have h1:=(On.start H.out).globMod 0 (hg.mono fun x _ e=>by rw [grow_lt e.2];exact e.1) hm
 have hown2:w1.ownsRow w.heap.size 3 1 v p.takeShare.2.length (ints p.takeShare.2):=by
  show w1.ownsRow w.heap.size 3 1 v (p.glob.take p.share).length (ints (p.glob.take p.share))
  rw [HL.out];exact hown
 have H1:=Lib.hid h1
 have HW:=Lib.hid hown2
 clear h1 hg hm HO hown hown2
 go_wp2_with fail
 refine (zcp H1.out.at_ i w.heap.size hi v p.takeShare.2 HW.out (by have:=HL.out;show (p.glob.take p.share).length≤_;unfold Wd.share at this ⊢;omega) (fun g hg=>by have:=HW.out.lt g hg;rw [grow_ge this.1];decide)).mono ?_
 rintro e w2 ⟨rfl,V2,ow2,_,h2⟩
 have c11:w2.cell? ⟨F.W,14,none⟩=some (.slice (some ⟨F.flag,0,none⟩) p.M p.M):=h2.at_.cW_flag.trans (congrArg (fun n:Nat=>some (Value.slice (some ⟨F.flag,0,none⟩) n n)) HI.out.2.1)
 have c12:=h2.at_.cW_idle
 have cf:w2.cell? ⟨F.flag,i,none⟩=some (.bool (!p.takeShare.2.isEmpty)):=(h2.at_.cF (i:=i) hiM).trans (congrArg (fun b=>some (Value.bool b)) HF.out)
 have c1:w2.cell? ⟨F.all,i*18+1,none⟩=some (.int .i64 q):=(h2.at_.cA_p (i:=i) hiM).trans (congrArg (fun b=>some (Value.int .i64 b)) HMP.out)
 have fA:=h2.at_.call.2
 have h3:=H1.out.then_ h2
 have hl:=fun (w1:World) (e:WAt F V2 ow2 w1 (p.takeShare.1.found i p.takeShare.2))=>e.idle8
 obtain ⟨mk,mw,h8⟩:=hl w2.drew h2.drew.at_
 rw [HI.out.1,HI.out.2.2] at h8
 have hput:=putp_any q h8 hq hb HPd.out hpb
 have H3:=Lib.hid h3
 have HP:=Lib.hid hput
 clear h2 h3 hl h8 hput
 cases hc:p.takeShare.2 with
 | nil =>
  rw [hc] at cf
  have cf:w2.cell? ⟨F.flag,i,none⟩=some (.bool false):=cf
  have HC:=Lib.hid hc
  clear hc
  go_wp2
  go_still_tail 8,(by kernel_rfl)
  change wpList _ _ _ _ _ w2.drew
  go_wp2_with fail
  refine HP.out.mono ?_
  rintro e w3 ⟨rfl,hg,hm⟩
  have k1:IdleH (fun x=>ow2 x=8∧x<w2.drew.heap.size) F.idle mk mw w3 (p.takeShare.1.found i p.takeShare.2).P (p.takeShare.1.found i p.takeShare.2).M { p.idle with p:=p.idle.p^^^2^q }:=by
   rw [HI.out.2.2];exact hg
  have h4:=H3.out.drew.idleH k1 hm
  have c13:=h4.at_.cW_all
  have fA:=h4.at_.call.2
  have c1:=h4.at_.cA_p (i:=i) hiM
  have H4:=Lib.hid h4
  clear h4 hg hm k1
  go_wp2
  go_returns
  rw [HR.out,if_pos HC.out]
  have h5:=H4.out.s_p (i:=i) hiM (-1)
  exact ⟨rfl,V2,_,h5⟩
 | cons g0 l0 =>
  rw [hc] at cf
  have cf:w2.cell? ⟨F.flag,i,none⟩=some (.bool true):=cf
  have HC:=Lib.hid hc
  clear hc
  go_wp2
  go_returns
  rw [HR.out,if_neg (fun e=>by rw [HC.out] at e;cases e)]
  have h5:=H3.out
  exact ⟨rfl,V2,_,h5⟩
theorem found_mi (p:Wd) (i:Nat) (l:List Int) (hi:i<p.all.length):((p.found i l).mach i).i=(p.mach i).i:=by
 cases l with
 | nil=>rfl
 | cons g t =>
  have h1:=congrArg Mach.i (zaj (p.setF i true) i { p.mach i with got:=g,rest:=t } hi)
  exact h1
theorem keep6 {F:Fix} {V:Vol} {ow:Nat→Nat} {w:World} {p:Wd} (h:WAt F V ow w p) {i v n:Nat} {q k:Int} (hn:p.P=n) (hi:i<p.M) (hv:v<n) (hp:(p.mach i).p=q) (hk:(p.mach i).i=k) :
  w.cell? ⟨F.W,8,none⟩=some (.slice (some ⟨F.rs,0,none⟩) n F.rsCap)∧w.cell? ⟨F.W,0,none⟩=some (.int .i64 n)∧w.cell? ⟨F.all,i*18+1,none⟩=some (.int .i64 q)∧w.cell? ⟨F.all,i*18+6,none⟩=some (.int .i64 k)∧w.cell? ⟨F.rs,v,none⟩=some (.pointer (some ⟨F.ring v,0,none⟩)):=by
 subst hn;exact ⟨h.cW_rs,h.cW_F_P,hp ▸ h.cA_p hi,hk ▸ h.cA_i hi,h.cR hv⟩
theorem do_6 (N:Nat) (p:Wd) (i q k v:Nat) (t:Int) (hi:i<p.M) (hq:q<p.P) (hp:(p.mach i).p=(q:Int)) (hk:(p.mach i).i=(k:Int)) (hkb:k≤4096) (hv:v=(q+k) % p.P) (hpl:(p.mach i).place=6):DoOK N p i t (p.doIt i t).1 (p.doIt i t).2:=by
 intro F V ow w h E
 have e:p.doIt i t=((p.setR v (p.ring v).steal.1).found i (p.ring v).steal.2,false):=by
  have hv2:(((q:Int)+(k:Int)) % (p.P:Int)).toNat=v:=by rw [hv];exact congrArg Int.toNat (show ((q:Int)+(k:Int)) % (p.P:Int)=(((q+k) % p.P:Nat):Int) by push_cast;rfl)
  unfold Wd.doIt;simp only [hpl,hp,hk,hv2]
 rw [e]
 have c13:=h.cW_all
 have c8:=h.cW_rs
 have c00:=h.cW_F_P
 have c0:=h.cA_place hi
 have c1:=h.cA_p hi
 have c6:=h.cA_i hi
 have hM:=h.dim
 have hcap:=h.own_cap
 unfold dims at hM
 have hvl:v<p.P:=by rw [hv];exact Nat.mod_lt _ (by omega)
 have cr:=h.cR hvl
 rw [hpl] at c0
 rw [hp] at c1
 rw [hk] at c6
 have hst:=steal_any (F.ring v) (p.ring v) w.drew ((On.start h).drew.at_.cring v hvl)
 have hv2:((q:Int)+(k:Int)).tmod (p.P:Int)=(v:Int):=by
  rw [hv,Int.tmod_eq_emod_of_nonneg (by omega)];push_cast;rfl
 have hlen:(p.ring v).steal.2.length≤4294967296:=by
  obtain ⟨hd,hh⟩:=h.cring v hvl
  have:=hh.len_le
  unfold Ring.steal;split <;> simp <;> omega
 have H:=Lib.hid h
 have HS:=Lib.hid hst
 have HL:=Lib.hid hlen
 have e0:((p.P:Int)==0)=false:=by simp;omega
 have h0:¬ p.P=0:=by omega
 have e2:((q:Int)+(k:Int)) % (p.P:Int)=(v:Int):=by rw [hv];push_cast;rfl
 have w0:IntKind.i64.wrap ((q:Int)+(k:Int))=(q:Int)+(k:Int):=IntWalk.i64_in _ (by omega)
 have w1:IntKind.i64.wrap (((q:Int)+(k:Int)).tmod (p.P:Int))=(v:Int):=by rw [hv2];exact IntWalk.i64_in _ (by omega)
 have w2:IntKind.i64.wrap (v:Int)=(v:Int):=IntWalk.i64_in _ (by omega)
 have hP:=Lib.hid hp
 have hK:=Lib.hid hk
 have hlA:i<p.all.length:=by rw [h.lens.2.2.1];exact hi
 clear h E e hp hk hpl hst hv hlen
 go_enter Tryz.func178,Tryz.ntmps178
 go_wp2
 go_region_held3 (fun w'=>w'.cell? ⟨F.W,8,none⟩=some (.slice (some ⟨F.rs,0,none⟩) p.P F.rsCap)∧w'.cell? ⟨F.W,0,none⟩=some (.int .i64 p.P)∧w'.cell? ⟨F.all,i*18+1,none⟩=some (.int .i64 q)∧w'.cell? ⟨F.all,i*18+6,none⟩=some (.int .i64 k)∧w'.cell? ⟨F.rs,v,none⟩=some (.pointer (some ⟨F.ring v,0,none⟩)))
  (first | exact ⟨c8,c00,c1,c6,cr⟩ | exact ⟨k8,k00,k1,k6,kr⟩ | exact ⟨j8,j00,j1,j6,jr⟩)
  (first | (go_at_call 202;refine HS.out.mono ?_;rintro e w1 ⟨v1,rfl,hown,hr,hm⟩;have h1:=(On.start H.out).drew.ringMod hvl hr hm;obtain ⟨k8,k00,k1,k6,kr⟩:=keep6 h1.at_ rfl hi hvl hP.out hK.out;have H1:=Lib.hid h1;have HW:=Lib.hid hown;clear h1 hr hm hown) | (go_at_call 200;refine (zcp H1.out.at_ i w.drew.heap.size hi v1 (p.ring v).steal.2 HW.out HL.out (fun g hg=>by have:=HW.out.lt g hg;rw [grow_ge this.1];decide)).mono ?_;rintro e w2 ⟨rfl,V2,ow2,_,h2⟩;obtain ⟨j8,j00,j1,j6,jr⟩:=keep6 h2.at_ (zbV (p.setR v (p.ring v).steal.1) i (p.ring v).steal.2).2.2 (by have:=zbV (p.setR v (p.ring v).steal.1) i (p.ring v).steal.2;rw [this.2.1];exact hi) hvl ((found_mp (p.setR v (p.ring v).steal.1) i (p.ring v).steal.2 hlA).trans hP.out) ((found_mi (p.setR v (p.ring v).steal.1) i (p.ring v).steal.2 hlA).trans hK.out);have H2:=Lib.hid h2;clear h2))
 go_wp2
 go_returns
 exact ⟨rfl,_,_,H1.out.then_ H2.out⟩
theorem do_13 (N:Nat) (p:Wd) (i:Nat) (t:Int) (hi:i<p.M) (hpl:(p.mach i).place=13) (hpb:p.idle.pending.length≤65536) (hmb:p.idle.m.length≤65536) (hn:p.idle.poller≠(i:Int)) (hm:p.idle.m.contains (i:Int)=false):DoOK N p i t (p.doIt i t).1 (p.doIt i t).2:=by
 intro F V ow w h E
 have c13:=h.cW_all
 have c14:=h.cW_flag
 have c12:=h.cW_idle
 have c0:=h.cA_place hi
 have hM:=h.dim
 have hcap:=h.own_cap
 have hlf:=h.lens.2.2.2.1
 have hla:=h.lens.2.2.1
 rw [hpl] at c0
 unfold dims at hM
 obtain ⟨nf1,nf2,nf3,na1,na2,na3⟩:=h.own.nf
 cases hpd:p.idle.pending with
 | nil =>
  have e:p.doIt i t=(({ (p.setF i false).setM i { p.mach i with spin:=false } with idle:=(p.idle.stop i).1 }:Wd).setF i (p.idle.stop i).2.1,false):=by
   have ep:p.idle.takePending=(p.idle,0,false):=by unfold Idle.takePending;rw [hpd]
   generalize hR:(({ (p.setF i false).setM i { p.mach i with spin:=false } with idle:=(p.idle.stop i).1 }:Wd).setF i (p.idle.stop i).2.1,false)=R
   unfold Wd.doIt;simp only [hpl,ep,Bool.false_eq_true,if_false]
   exact hR
  rw [e]
  obtain ⟨mk,mw,h8⟩:=h.idle8
  have ht:=takepend_no h8 hpd
  have H:=Lib.hid h
  have HO:=Lib.hid ht
  have HPL:=Lib.hid hn
  have HCM:=Lib.hid hm
  clear h E e ht h8 hpl hpd hlf hla hn hm
  go_enter Tryz.func178,Tryz.ntmps178
  go_wp2_with fail
  refine HO.out.mono ?_
  rintro e w1 ⟨rfl,hw⟩
  have hw:=hw.symm
  subst hw
  clear HO
  go_wp2_with fail
  refine (hold_on H.out i hi _ _).mono ?_
  rintro e w2 ⟨rfl,ow2,h2⟩
  have h2:On F V ow w ow2 w2 (p.setF i false):=h2
  have c13:=h2.at_.cW_all
  have c7:=h2.at_.cA_spin hi
  have fA:=h2.at_.call.2
  have H2:=Lib.hid h2
  clear h2
  go_wp2
  have h3:=H2.out.s_spin hi false
  have h4:=h3.drew
  generalize w2.setCell ⟨F.all,i*18+7,none⟩ (.bool false)=w3 at *
  have d14:w3.cell? ⟨F.W,14,none⟩=some (.slice (some ⟨F.flag,0,none⟩) p.M p.M):=h3.at_.cW_flag
  have d12:w3.cell? ⟨F.W,12,none⟩=some (.pointer (some ⟨F.idle,0,none⟩)):=h3.at_.cW_idle
  obtain ⟨mk,mw,h8⟩:=h4.at_.idle8
  have ht:=stop_new _ F.idle mk mw p.P p.M i p.idle w3.drew h8 hi HPL.out HCM.out hmb (by omega)
  have HT:=Lib.hid ht
  have H4:=Lib.hid h4
  clear h3 h4 h8 ht
  go_region_held3 (fun w'=>w'.cell? ⟨F.W,12,none⟩=some (.pointer (some ⟨F.idle,0,none⟩))∧w'.cell? ⟨F.W,14,none⟩=some (.slice (some ⟨F.flag,0,none⟩) p.M p.M))
   (first | exact ⟨d12,d14⟩ | exact ⟨k12,k14⟩ | exact ⟨(cell_far nf1 _).trans k12,(cell_far nf1 _).trans k14⟩)
   (first | (go_at_call 125;refine HT.out.mono ?_;rintro e w4 ⟨rfl,hg,hm⟩;have h1:=H4.out.idleHn hg hm;have k12:w4.cell? ⟨F.W,12,none⟩=some (.pointer (some ⟨F.idle,0,none⟩)):=h1.at_.cW_idle;have k14:w4.cell? ⟨F.W,14,none⟩=some (.slice (some ⟨F.flag,0,none⟩) p.M p.M):=h1.at_.cW_flag;have kf:=h1.at_.cF hi;have kF:=h1.at_.cflag.2;have H1:=Lib.hid h1;clear h1 hg hm))
  go_wp2
  go_returns
  exact ⟨rfl,V,_,H1.out.s_flag hi _⟩
 | cons q l =>
  have e:p.doIt i t=((({ p with idle:={ p.idle with pending:=l } }:Wd).hold i q true).setM i { (({ p with idle:={ p.idle with pending:=l } }:Wd).hold i q true).mach i with spin:=true },false):=by
   have ep:p.idle.takePending=({ p.idle with pending:=l },q,true):=by unfold Idle.takePending;rw [hpd]
   unfold Wd.doIt;simp only [hpl,ep];rfl
  rw [e]
  obtain ⟨mk,mw,h8⟩:=h.idle8
  have ht:=takepend_yes q l h8 hpd (by rw [hpd] at hpb;simp only [List.length_cons] at hpb;omega)
  have H:=Lib.hid h
  have HO:=Lib.hid ht
  clear h E e ht h8 hpl hpd hlf hla hn hm
  go_enter Tryz.func178,Tryz.ntmps178
  go_wp2_with fail
  refine HO.out.mono ?_
  rintro e w1 ⟨rfl,hg,hm⟩
  have h1:=(On.start H.out).idleH hg hm
  have H1:=Lib.hid h1
  clear h1 hg hm HO
  go_wp2_with fail
  refine (hold_on H1.out.at_ i hi _ _).mono ?_
  rintro e w2 ⟨rfl,ow2,h2⟩
  have c13:=h2.at_.cW_all
  have c7:=h2.at_.cA_spin hi
  have fA:=h2.at_.call.2
  have H2:=Lib.hid h2
  clear h2
  go_wp2
  go_returns
  exact ⟨rfl,V,_,H1.out.then_ (H2.out.s_spin hi true)⟩
end Go.Proofs.YtlmmjgekolpekaaGreatDoor
