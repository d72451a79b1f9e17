/- Parts of the proof. -/
import Derived.Test.YtlmmjgekolpekaaGreatDoorMPq24
set_option linter.unusedVariables false
set_option linter.unusedSimpArgs false
set_option linter.unusedSectionVars false
set_option maxRecDepth 100000
set_option maxHeartbeats 6400000
namespace Go.Proofs.YtlmmjgekolpekaaGreatDoor
open Go Go.RowKit Hst Go.Proofs
theorem NewInv.setW {wb w:World} {P M:Nat} {ow:Nat→Nat} {f17 f20 f23 f26 f31:Option Value} (h:NewInv wb P M ow w f17 f20 f23 f26 f31) (hP:0<P) (hM:0<M) {b:Nat} (hb:ow b=1) (o:Nat) (v:Value):NewInv wb P M ow (w.setCell ⟨b,o,none⟩ v) f17 f20 f23 f26 f31:=by
 have ag:∀ j,j≠1→Agree (ow ·=j) w (w.setCell ⟨b,o,none⟩ v):=fun j hj=>⟨by simp,fun x _ hx=>za5 (fun e=>hj (by rw [← hx,e];exact hb)) v⟩
 have hbl:wb.heap.size≤b:=by
  rcases Nat.lt_or_ge b wb.heap.size with hl | hl
  ·have:=h.low b hl;omega
  ·exact hl
 refine ⟨h.low,h.frame.setCell hbl v,fun v e=>?_,fun v e=>?_,fun v e=>?_,fun v e=>?_,fun v e=>?_⟩
 ·obtain ⟨x,e1,e2,e3⟩:=h.turns v e
  exact ⟨x,e1,e2,e3.congr (ag 5 (by decide)) e2 (e3.lt hP)⟩
 ·obtain ⟨x,e1,e2,e3⟩:=h.flag v e
  exact ⟨x,e1,e2,e3.congr (ag 10 (by decide)) e2 (e3.lt hM)⟩
 ·obtain ⟨x,e1,e2⟩:=h.glob v e
  exact ⟨x,e1,e2.agree (ag 6 (by decide)) fun _ _ e=>e⟩
 ·obtain ⟨x,e1,e2⟩:=h.src v e
  exact ⟨x,e1,e2.agree hP (ag 7 (by decide)) fun _ _ e=>e⟩
 ·obtain ⟨x,e1,e2⟩:=h.idle v e
  exact ⟨x,e1,e2.agree (ag 8 (by decide)) fun _ _ e=>e⟩
theorem NewInv.more2 {wb w w':World} {P M:Nat} {ow ow':Nat→Nat} {f17 f20 f23 f26 f31:Option Value} (h:NewInv wb P M ow w f17 f20 f23 f26 f31) (hP:0<P) (hM:0<M) (em0:∀ x,x<w.heap.size→ow' x=ow x) (b:Below w.heap.size w w'):NewInv wb P M ow' w' f17 f20 f23 f26 f31:=by
 have hs:=h.frame.size
 have ag:∀ j,Agree (ow ·=j) w w':=fun j=>⟨b.size,fun x hx _=>b.block x hx⟩
 have em:∀ j x,x<w.heap.size→ow x=j→ow' x=j:=fun j x hx e=>(em0 x hx).trans e
 refine ⟨fun x hx=>(em0 x (by have:=h.frame.size;omega)).trans (h.low x hx),h.frame.trans (b.mono hs),fun v e=>?_,fun v e=>?_,fun v e=>?_,fun v e=>?_,fun v e=>?_⟩
 ·obtain ⟨x,e1,e2,e3⟩:=h.turns v e
  exact ⟨x,e1,em 5 x (e3.lt hP) e2,e3.congr (ag 5) e2 (e3.lt hP)⟩
 ·obtain ⟨x,e1,e2,e3⟩:=h.flag v e
  exact ⟨x,e1,em 10 x (e3.lt hM) e2,e3.congr (ag 10) e2 (e3.lt hM)⟩
 ·obtain ⟨x,e1,e2⟩:=h.glob v e
  exact ⟨x,e1,e2.agree (ag 6) (em 6)⟩
 ·obtain ⟨x,e1,e2⟩:=h.src v e
  exact ⟨x,e1,e2.agree hP (ag 7) (em 7)⟩
 ·obtain ⟨x,e1,e2⟩:=h.idle v e
  exact ⟨x,e1,e2.agree (ag 8) (em 8)⟩
theorem Tryz.infoPR:(Tryz.prog.info? 174).map (fun i=>(i.zero,i.size,i.bytes))=some (some (.pointer none),1,8):=by kernel_rfl
theorem Tryz.infoMach:(Tryz.prog.info? 52).map (fun i=>(i.zero,i.size,i.bytes))=some (some (.agg zeF),18,152):=by kernel_rfl
theorem ptrs_succ (F:Fix) (n:Nat):ptrs F (n+1)=ptrs F n++[ptr (F.ring n)]:=by unfold ptrs;rw [List.range_succ,List.map_append];rfl
theorem zc3 {F:Fix} {wb w:World} {P M G:Nat} {ow:Nat→Nat} {nr nk:Nat} {vr:Value} {idl:Hst.Idle} {nm:Nat} {va:Value} (h:Half F wb P M G ow w nr nk vr idl nm va):∀ g,vr.ownBlock=some g→g≠F.W:=fun g hg e=>by
 have a1:ow g=4:=h.row.2 g hg
 have a2:=h.own.1
 rw [e] at a1;omega
theorem zc5 {F:Fix} {wb w:World} {P M G:Nat} {ow:Nat→Nat} {nr nk:Nat} {vr:Value} {idl:Hst.Idle} {nm:Nat} {va:Value} (h:Half F wb P M G ow w nr nk vr idl nm va):∀ g,va.ownBlock=some g→g≠F.W:=fun g hg e=>by
 have a1:ow g=9:=h.all.2 g hg
 have a2:=h.own.1
 rw [e] at a1;omega
theorem newS_frame {b P M G:Nat} {wb w:World} (hw:newS b P M G wb) (hb:b<wb.heap.size) (h:Below wb.heap.size wb w):newS b P M G w:=by
 obtain ⟨k0,k1,k2⟩:=hw
 exact ⟨(h.cell (p:=⟨b,0,none⟩) hb).trans k0,(h.cell (p:=⟨b,1,none⟩) hb).trans k1,(h.cell (p:=⟨b,2,none⟩) hb).trans k2⟩
theorem IdleH_mono {S T:Nat→Prop} {b mk mw n m:Nat} {w:World} {x:Hst.Idle} (h:IdleH S b mk mw w n m x) (hs:∀ y,S y→T y):IdleH T b mk mw w n m x:=by
 obtain ⟨s0,s1,s2⟩:=h.inS
 obtain ⟨pv,mv,r1,r2,r3,r4,r5,r6,r7⟩:=h.rows
 exact ⟨⟨hs _ s0,hs _ s1,hs _ s2⟩,h.ne,h.c0,⟨pv,mv,r1,r2,r3,r4,fun g e=>hs _ (r5 g e),fun g e=>hs _ (r6 g e),r7⟩,h.c3,h.c4,h.k0,h.k1,h.kw,h.fr,h.bits,h.n_le⟩
theorem fresh_any (w:World):Calls Tryz.prog 78 #[] w fun e w'=>e=.returned (.agg #[.int .i64 16,.int .i64 (-1),.int .i64 (-1),.int .i64 (-1),.int .i64 (-1),.int .i64 (-1),.int .i64 0,.bool false,.bool false,.slice none 0 0,.int .i64 0,.int .i64 0,.int .i64 0,.int .i64 0,.int .i64 0,.int .i64 0,.int .u64 0,.int .i64 0])∧Below w.heap.size w w':=by
 have HX:=Lib.hid (show (w.alloc (.cells zeF 52)).heap[w.heap.size]?=some (.cells zeF 52 (0,0)) from heap_alloc_new w _)
 go_enter Tryz.func78,Tryz.ntmps78
 go_wp2_with (first | (refine wpList_store_row rfl 52 _ _ rfl w.heap.size _ rfl rfl 52 _ HX.out (by kernel_rfl) rfl (by simp [Value.oneCell']) ?_))
 apply bodyPost_ret (v:=.agg #[.int .i64 16,.int .i64 (-1),.int .i64 (-1),.int .i64 (-1),.int .i64 (-1),.int .i64 (-1),.int .i64 0,.bool false,.bool false,.slice none 0 0,.int .i64 0,.int .i64 0,.int .i64 0,.int .i64 0,.int .i64 0,.int .i64 0,.int .u64 0,.int .i64 0])
 ·exact results_cell_row rfl _ _ w.heap.size 52 _ (0,0) _ rfl (setRow_heap _ _ _ _ _ _ HX.out) Tryz.underlying52 rfl (by kernel_rfl)
 ·rfl
 have hB:=zab w (.cells zeF 52)
 exact ⟨rfl,⟨hB.os,hB.tape,hB.output,by simp,fun k hk=>(setRow_other _ _ _ _ (by omega)).trans (hB.block k hk)⟩⟩
theorem rep_succ (n:Nat) (l:List Value):(List.replicate (n+1) l).flatten=(List.replicate n l).flatten++l:=by rw [List.replicate_succ',List.flatten_append];simp
theorem idl12 (P:Nat) (hP:1≤P):idl1 P=idl2 P 0:=by unfold idl1 idl2;rw [show max P 1=P by omega];rfl
theorem idl2_01 (P:Nat):idl2 P 0=idl2 P 1:=by unfold idl2;rfl
def wLit (P M G _a:Nat) (mem:Value) (x17 x20 x23 x26 x31:Nat):Array Value :=
 #[.int .i64 P,.int .i64 M,.int .i64 G,mem,.int .i64 (2*((P:Int)+2)),.int .i64 (2*((P:Int)+2)+1),.int .i64 (2*((P:Int)+2)+1+(M:Int)),.int .i64 G,.slice none 0 0,.slice (some ⟨x17,0,none⟩) P P,.pointer (some ⟨x23,0,none⟩),.pointer (some ⟨x26,0,none⟩),.pointer (some ⟨x31,0,none⟩),.slice none 0 0,.slice (some ⟨x20,0,none⟩) M M,.slice none 0 0]
theorem half_start {w1 w4:World} {P M G:Nat} {ow4:Nat→Nat} {W mb r x17 x20 x23 x26 x31:Nat} {w5:World} (hP:0<P) (hM:0<M)
  (hI:NewInv w1 P M ow4 w4 (some (.slice (some ⟨x17,0,none⟩) P P)) (some (.slice (some ⟨x20,0,none⟩) M M)) (some (.pointer (some ⟨x23,0,none⟩))) (some (.pointer (some ⟨x26,0,none⟩))) (some (.pointer (some ⟨x31,0,none⟩))))
  (hW:w4.heap[W]?=some (.cells (wLit P M G 0 (.pointer none) x17 x20 x23 x26 x31) 122 (0,0))) (oW:ow4 W=1)
  (h1:w4.heap.size≤mb) (h2:w4.heap.size≤r) (h3:mb≠r) (c0:w5.cell? ⟨mb,0,none⟩=some (.slice (some ⟨r,0,none⟩) (nWords P M G) (nWords P M G))) (c1:w5.cell? ⟨mb,1,none⟩=some (.int .i64 0))
  (cw:∀ a,a<nWords P M G→w5.cell? ⟨r,a,none⟩=some (.int .u64 0)) (f1:∀ o,w5.frozen? ⟨mb,o,none⟩=false) (f2:∀ o,w5.frozen? ⟨r,o,none⟩=false) (hb:Below w4.heap.size w4 w5) :
  ∃ ow F,Half F w1 P M G ow (w5.setCell ⟨W,3,none⟩ (.pointer (some ⟨mb,0,none⟩))) 0 0 (.slice none 0 0) (idl1 0) 0 (.slice none 0 0)∧F.W=W:=by
 have lW:=zaB hW
 refine ⟨fun x=>if x<w4.heap.size then ow4 x else if x=r then 3 else 2,{ W:=W,mem:=mb,ws:=r,rs:=0,rsCap:=0,ring:=fun _=>0,turns:=x17,glob:=x23,src:=x26,idle:=x31,all:=0,allCap:=0,flag:=x20 },?_,rfl⟩
 have hI5:=hI.more2 (ow':=fun x=>if x<w4.heap.size then ow4 x else if x=r then 3 else 2) hP hM (fun x hx=>if_pos hx) hb
 have hI6:=hI5.setW hP hM (b:=W) (by show (if W<w4.heap.size then ow4 W else _)=1;rw [if_pos lW];exact oW) 3 (.pointer (some ⟨mb,0,none⟩))
 have hW5:w5.heap[W]?=some (.cells (wLit P M G 0 (.pointer none) x17 x20 x23 x26 x31) 122 (0,0)):=(hb.block W lW).trans hW
 have hW6:=heap_setCell_same w5 W 3 _ _ (.pointer (some ⟨mb,0,none⟩)) hW5
 obtain ⟨y17,e17,o17,t17⟩:=hI6.turns _ rfl
 obtain ⟨y20,e20,o20,t20⟩:=hI6.flag _ rfl
 obtain ⟨y23,e23,t23⟩:=hI6.glob _ rfl
 obtain ⟨y26,e26,t26⟩:=hI6.src _ rfl
 obtain ⟨y31,e31,t31⟩:=hI6.idle _ rfl
 obtain rfl:x17=y17:=by simpa [sli] using e17
 obtain rfl:x20=y20:=by simpa [sli] using e20
 obtain rfl:x23=y23:=by simpa [ptr] using e23
 obtain rfl:x26=y26:=by simpa [ptr] using e26
 obtain rfl:x31=y31:=by simpa [ptr] using e31
 have nm:W≠mb:=by omega
 have nr:W≠r:=by omega
 refine ⟨hI6.low,hI6.frame,⟨?_,?_,?_,o17,o20⟩,⟨hP,hM⟩,⟨fun k hk=>?_,fun o=>Lib.frozen_of_heap hW6 o⟩,⟨fun k hk=>?_,fun o=>(World.frozen?_setCell _ _ _ _).trans (f1 o)⟩,⟨fun k hk=>(cell_far nr _).trans (cw k hk),fun o=>(World.frozen?_setCell _ _ _ _).trans (f2 o)⟩,t17,t20,t23,t26,?_,fun q hq=>by omega,⟨World.ownsRow_nil _ _ _ _,fun g hg=>by cases hg⟩,⟨World.ownsRow_nil _ _ _ _,fun g hg=>by cases hg⟩⟩
 ·show (if W<w4.heap.size then ow4 W else _)=1
  rw [if_pos lW];exact oW
 ·show (if mb<w4.heap.size then _ else if mb=r then 3 else 2)=2
  rw [if_neg (by omega),if_neg h3]
 ·show (if r<w4.heap.size then _ else if r=r then 3 else 2)=3
  rw [if_neg (by omega),if_pos rfl]
 ·rcases (show k=0∨k=1∨k=2∨k=3∨k=4∨k=5∨k=6∨k=7∨k=8∨k=9∨k=10∨k=11∨k=12∨k=13∨k=14∨k=15 by omega) with h | h | h | h | h | h | h | h | h | h | h | h | h | h | h | h
  all_goals subst h
  all_goals refine (zaa hW6 _).trans ?_
  all_goals first | rfl | (show some (Value.int .i64 _)=some (Value.int .i64 _);congr 2;omega)
 ·rcases (show k=0∨k=1 by omega) with h | h
  ·subst h;exact (cell_far nm _).trans c0
  ·subst h;exact (cell_far nm _).trans c1
 ·exact t31
def zey (P M G:Nat):Wd :=
 { P:=P,M:=M,G:=G,ws:=List.replicate (nWords P M G) 0,cnt:=0,rings:=List.replicate P Hst.Ring.new,turns:=List.replicate P 0,glob:=[],src:=Src.new,idle:=idl2 P M,all:=List.replicate M Mach.fresh,flag:=List.replicate M false,log:=[] }
theorem zbx {α:Type} (n k:Nat) (x d:α) (h:k<n):(List.replicate n x).getD k d=x:=by simp [List.getD_eq_getElem?_getD,h]
theorem rep_at (l:List Value) (hl:0<l.length):∀ (n k:Nat),k<n*l.length→(List.replicate n l).flatten[k]?=l[k % l.length]?
 | 0,k,h=>by omega
 | n+1,k,h=>by
  rw [List.replicate_succ,List.flatten_cons]
  by_cases hk:k<l.length
  ·rw [List.getElem?_append_left hk,Nat.mod_eq_of_lt hk]
  ·have h2:k<n*l.length+l.length:=by rw [Nat.add_mul,Nat.one_mul] at h;exact h
   rw [List.getElem?_append_right (by omega),rep_at l hl n (k - l.length) (by omega)]
   congr 1
   exact (Nat.mod_eq_sub_mod (by omega)).symm
theorem row_cells {w:World} {base e size n g cap:Nat} {xs:List Value} (h:w.ownsRow base e size (.slice (some ⟨g,0,none⟩) n cap) n xs) (_hn:0<n):∀ o,w.frozen? ⟨g,o,none⟩=false:=by
 rcases h.2 with ⟨h0,_⟩ | ⟨g',cap',cur,hv,_,hg,_⟩
 ·cases h0
 ·simp only [Value.slice.injEq,Option.some.injEq,Addr.mk.injEq,and_true,true_and] at hv
  obtain ⟨rfl,rfl⟩:=hv
  exact fun o=>Lib.frozen_of_heap hg o
theorem half_world {F:Fix} {wb w:World} {P M G:Nat} {ow:Nat→Nat} {vr va:Value} (h:Half F wb P M G ow w P P vr (idl2 P M) M va) (hd:dims P M G):∃ F' V,WAt F' V ow w (zey P M G)∧F'.W=F.W:=by
 obtain ⟨g,cap,rfl,_,_,hcap⟩:=zar h.row.1 h.pos.1
 obtain ⟨g2,cap2,rfl,_,_,hcap2⟩:=zar h.all.1 h.pos.2
 obtain ⟨o1,o2,o3,o5,o10⟩:=h.own
 refine ⟨{ F with rs:=g,rsCap:=cap,all:=g2,allCap:=cap2 },{ logV:=.slice none 0 0,rest:=fun _=>.slice none 0 0 },?_,rfl⟩
 have hfl:zeJ.length=18:=rfl
 refine ⟨hd,⟨by simp [zey],by simp [zey],by simp [zey],by simp [zey],by simp [zey]⟩,fun a=>?_,⟨o1,o2,o3,h.row.2 g rfl,o5,h.all.2 g2 rfl,o10,fun q hq=>(h.rings q hq).2⟩,⟨hcap,hcap2⟩,?_,h.cmem,?_,⟨fun q hq=>?_,row_cells h.row.1 h.pos.1⟩,fun q hq=>?_,?_,h.cglob,h.csrc,h.cidle,⟨fun k hk=>?_,row_cells h.all.1 h.pos.2⟩,fun i hi=>?_,?_,World.ownsRow_nil _ _ _ _,fun x hx=>by cases hx⟩
 ·show (List.replicate (nWords P M G) 0).getD a 0<_
  rw [List.getD_eq_getElem?_getD,List.getElem?_replicate];split <;> simp
 ·refine h.cw.ext fun k hk=>?_
  rcases (show k=0∨k=1∨k=2∨k=3∨k=4∨k=5∨k=6∨k=7∨k=8∨k=9∨k=10∨k=11∨k=12∨k=13∨k=14∨k=15 by omega) with h | h | h | h | h | h | h | h | h | h | h | h | h | h | h | h
  all_goals subst h
  all_goals rfl
 ·refine h.cws.ext fun k hk=>?_
  show _=Value.int .u64 (((List.replicate (nWords P M G) 0).getD k 0:Nat):Int)
  rw [zbx _ _ _ _ hk];rfl
 ·have hq':q<P:=hq
  rw [h.row.1.cellAt q (by omega)]
  simp [ptrs,hq']
 ·have e:(zey P M G).ring q=Hst.Ring.new:=zbx _ _ _ _ hq
  rw [e];exact (h.rings q hq).1
 ·refine h.cturns.ext fun k hk=>?_
  show _=Value.int .i64 ((List.replicate P (0:Int)).getD k 0)
  rw [zbx _ _ _ _ hk]
 ·have hk':k<M*zeJ.length:=by rw [hfl];exact hk
  rw [h.all.1.cellAt k hk,rep_at zeJ (by decide) M k hk']
  unfold zeN
  have e:(zey P M G).mach (k / 18)=Mach.fresh:=zbx _ _ _ _ (by show k / 18<M;have:k<M*18:=hk;omega)
  rw [e,hfl]
  have h18:k % 18<18:=Nat.mod_lt _ (by decide)
  generalize k % 18=j at *
  rcases lt18 h18 with rfl | rfl | rfl | rfl | rfl | rfl | rfl | rfl | rfl | rfl | rfl | rfl | rfl | rfl | rfl | rfl | rfl | rfl <;> rfl
 ·have e:(zey P M G).mach i=Mach.fresh:=zbx _ _ _ _ hi
  rw [e]
  exact ⟨World.ownsRow_nil _ _ _ _,fun x hx=>by cases hx⟩
 ·refine h.cflag.ext fun k hk=>?_
  show _=Value.bool ((List.replicate M false).getD k false)
  rw [zbx _ _ _ _ hk]
theorem Stp.below {ow ow':Nat→Nat} {w w':World} (s:Stp ow ow' w w') {n:Nat} (hn:n≤w.heap.size) (l:∀ b,b<n→ow b=0):Below n w w' :=
 ⟨s.os,s.tape,s.output,s.size,fun b hb=>s.block b (Nat.lt_of_lt_of_le hb hn) (l b hb)⟩
def newW (P M G:Nat):Wd:=((zey P M G).setM 0 { Mach.fresh with place:=1,p:=0 }).move 0 0 1
theorem newW_eq (P M G:Nat) (hG:1≤G):newW P M G={ ((zey P M G).setM 0 { Mach.fresh with place:=1,p:=0 }) with ws:=(List.replicate (2*(P+2)+1+M+G) 0).set (2*(P+2)+1+M) 1,cnt:=1 }:=by
 unfold newW Wd.move
 rw [if_pos ⟨by omega,by show (0:Int)<(G:Int);omega⟩]
 unfold Wd.swap
 rw [if_pos (by
  show (List.replicate (nWords P M G) 0).getD _ 0=0
  rw [List.getD_eq_getElem?_getD,List.getElem?_replicate];split <;> rfl)]
 show ({ ((zey P M G).setM 0 { Mach.fresh with place:=1,p:=0 }) with ws:=(List.replicate (2*(P+2)+1+M+G) 0).set (2*(P+2)+1+M) 1,cnt:=wrap64 (0+1) }:Wd)=_
 rw [show wrap64 (0+1)=1 by kernel_rfl]
theorem new_eq (P M G:Nat) (hd:dims P M G):({ ({ (newW P M G) with log:=(newW P M G).log++[⟨0,0,-1,-1,0⟩] }:Wd) with glob:=[]++[0] }:Wd)=Wd.new P M G:=by
 rw [newW_eq P M G hd.2.2.2.2.1];rfl
theorem new_ok (P M G N:Nat) (hd:dims P M G) (w:World) (T:Tabs N w) :
  Calls Tryz.prog 67 #[.agg #[.int .i64 P,.int .i64 M,.int .i64 G]] w fun e w'=>∃ F V ow,e=.returned (.tuple #[.pointer (some ⟨F.W,0,none⟩),.int .i64 0])∧WAt F V ow w' (Wd.new P M G)∧(∀ b,b<w.heap.size→ow b=0)∧Below w.heap.size w w':=by
 have HTab:=Lib.hid T
 clear T
 have hr:rightI P M G=true:=by unfold rightI;unfold dims at hd;simp;omega
 have hc:=fun w=>right_c P M G w
 rw [hr] at hc
 have HC:=Lib.hid hc
 have HD:=Lib.hid hd
 clear hc hr
 unfold dims at hd
 go_enter Tryz.func67,Tryz.ntmps67
 go_wp2_with fail
 refine (HC.out _).mono ?_
 rintro e w1 ⟨rfl,hw1⟩
 have hbx:newS w.heap.size P M G w1:=by
  rw [hw1]
  refine ⟨?_,?_,?_⟩ <;> rw [World.cell?_alloc_lt _ _ _ (by simp),zak] <;> rfl
 have hB1:Below w.heap.size w w1:=by rw [hw1];exact ((Below.refl _ w).alloc (Nat.le_refl _) _).alloc (by simp) _
 have HB1:=Lib.hid hB1
 clear hw1 hB1
 go_wp2
 refine new_region P M G w.heap.size HD.out w1 _ ⟨fun _ _ _ _ _ h=>h,?_⟩ hbx (fun _=>0) (fun _=>rfl)
 intro ow w2 v17 v20 v23 v26 v31 hI hS2
 obtain ⟨x17,e17,_⟩:=hI.turns _ rfl
 obtain ⟨x20,e20,_⟩:=hI.flag _ rfl
 obtain ⟨x23,e23,_⟩:=hI.glob _ rfl
 obtain ⟨x26,e26,_⟩:=hI.src _ rfl
 obtain ⟨x31,e31,_⟩:=hI.idle _ rfl
 subst e17 e20 e23 e26 e31
 simp only [sli,ptr] at *
 have hI2:=hI.more (by omega) (by omega) (zab w2 (.cells #[.int .i64 P,.int .i64 M,.int .i64 G,.pointer none,.int .i64 (2*((P:Int)+2)),.int .i64 (2*((P:Int)+2)+1),.int .i64 0,.int .i64 0,.slice none 0 0,.slice (some ⟨x17,0,none⟩) P P,.pointer (some ⟨x23,0,none⟩),.pointer (some ⟨x26,0,none⟩),.pointer (some ⟨x31,0,none⟩),.slice none 0 0,.slice (some ⟨x20,0,none⟩) M M,.slice none 0 0] 122)) 1
 have hs2:=zah hS2 (zab w2 (.cells #[.int .i64 P,.int .i64 M,.int .i64 G,.pointer none,.int .i64 (2*((P:Int)+2)),.int .i64 (2*((P:Int)+2)+1),.int .i64 0,.int .i64 0,.slice none 0 0,.slice (some ⟨x17,0,none⟩) P P,.pointer (some ⟨x23,0,none⟩),.pointer (some ⟨x26,0,none⟩),.pointer (some ⟨x31,0,none⟩),.slice none 0 0,.slice (some ⟨x20,0,none⟩) M M,.slice none 0 0] 122))
 have HI:=Lib.hid hI2
 have HS:=Lib.hid hs2
 clear hI hS2 hI2 hs2
 go_wp2
 refine zaT (fun w3=>NewInv w1 P M (grow ow w2.heap.size 1) w3 (some (.slice (some ⟨x17,0,none⟩) P P)) (some (.slice (some ⟨x20,0,none⟩) M M)) (some (.pointer (some ⟨x23,0,none⟩))) (some (.pointer (some ⟨x26,0,none⟩))) (some (.pointer (some ⟨x31,0,none⟩)))∧newS w.heap.size P M G w3 ∧
  w3.heap[w2.heap.size]?=some (.cells #[.int .i64 P,.int .i64 M,.int .i64 G,.pointer none,.int .i64 (2*((P:Int)+2)),.int .i64 (2*((P:Int)+2)+1),.int .i64 0,.int .i64 0,.slice none 0 0,.slice (some ⟨x17,0,none⟩) P P,.pointer (some ⟨x23,0,none⟩),.pointer (some ⟨x26,0,none⟩),.pointer (some ⟨x31,0,none⟩),.slice none 0 0,.slice (some ⟨x20,0,none⟩) M M,.slice none 0 0] 122 (0,0))) ⟨HI.out,HS.out,heap_alloc_new w2 _⟩ ?_
 rintro w3 ⟨hI3,hS3,hW⟩
 obtain ⟨k0,k1,k2⟩:=hS3
 have lW:=zaB hW
 have fW:∀ o,w3.frozen? ⟨w2.heap.size,o,none⟩=false:=fun o=>Lib.frozen_of_heap hW o
 have d5:=zaa hW 5
 have d6:=zaa hW 6
 have d7:=zaa hW 7
 simp only [List.getElem?_toArray,List.getElem?_cons_zero,List.getElem?_cons_succ] at d5 d6 d7
 have lb:=World.block_lt_of_cell? w3 _ k0
 have hbw:w.heap.size<w1.heap.size:=World.block_lt_of_cell? w1 _ hbx.1
 have hne:w2.heap.size≠w.heap.size:=fun e=>by have:=hI3.low w.heap.size hbw;rw [← e,zaG] at this;omega
 have hW4:((w3.setCell ⟨w2.heap.size,6,none⟩ (.int .i64 (2*((P:Int)+2)+1+(M:Int)))).setCell ⟨w2.heap.size,7,none⟩ (.int .i64 G)).drew.heap[w2.heap.size]?=some (.cells (wLit P M G 0 (.pointer none) x17 x20 x23 x26 x31) 122 (0,0)) :=
  heap_setCell_same _ w2.heap.size 7 _ _ (.int .i64 G) (heap_setCell_same w3 w2.heap.size 6 _ _ (.int .i64 (2*((P:Int)+2)+1+(M:Int))) hW)
 have hI4:=(hI3.setW (by omega) (by omega) (zaG ow w2.heap.size 1) 6 (.int .i64 (2*((P:Int)+2)+1+(M:Int)))).setW (by omega) (by omega) (zaG ow w2.heap.size 1) 7 (.int .i64 G)
 have HI4:=Lib.hid hI4
 have HW4:=Lib.hid hW4
 clear hI3 hW HI HS hI4 hW4
 go_region
 go_wp2
 refine zaT (fun w4=>NewInv w1 P M (grow ow w2.heap.size 1) w4 (some (.slice (some ⟨x17,0,none⟩) P P)) (some (.slice (some ⟨x20,0,none⟩) M M)) (some (.pointer (some ⟨x23,0,none⟩))) (some (.pointer (some ⟨x26,0,none⟩))) (some (.pointer (some ⟨x31,0,none⟩)))∧newS w.heap.size P M G w4 ∧
  w4.heap[w2.heap.size]?=some (.cells (wLit P M G 0 (.pointer none) x17 x20 x23 x26 x31) 122 (0,0)))
  ⟨HI4.out.more2 (by omega) (by omega) (fun _ _=>rfl) ((Below.refl _ _).drew),⟨(cell_far hne _).trans ((cell_far hne _).trans k0),(cell_far hne _).trans ((cell_far hne _).trans k1),(cell_far hne _).trans ((cell_far hne _).trans k2)⟩,HW4.out⟩ ?_
 clear HI4 HW4 d5 d6 d7 fW lW lb k0 k1 k2
 rintro w4 ⟨hI4,⟨k0,k1,k2⟩,hW4⟩
 have lW:=zaB hW4
 have d6:=zaa hW4 6
 have d3:=zaa hW4 3
 have fW:∀ o,w4.frozen? ⟨w2.heap.size,o,none⟩=false:=fun o=>Lib.frozen_of_heap hW4 o
 simp only [wLit,List.getElem?_toArray,List.getElem?_cons_zero,List.getElem?_cons_succ] at d6 d3
 have lb:=World.block_lt_of_cell? w4 _ k0
 simp only at lb
 have ecn:2*((P:Int)+2)+1+(M:Int)+(G:Int)=((nWords P M G:Nat):Int):=by unfold nWords;omega
 have hcn:=cnew_any (nWords P M G) (by unfold nWords;omega) w4.drew
 rw [← ecn] at hcn
 have HCN:=Lib.hid hcn
 have hwr:IntKind.i64.wrap (2*((P:Int)+2)+1+(M:Int)+(G:Int))=2*((P:Int)+2)+1+(M:Int)+(G:Int):=IntWalk.i64_in _ (by omega)
 have HI4:=Lib.hid hI4
 have HW4:=Lib.hid hW4
 clear hcn ecn hI4 hW4
 go_region_held3 (fun w'=>w'.cell? ⟨w2.heap.size,6,none⟩=some (.int .i64 (2*((P:Int)+2)+1+(M:Int)))∧w'.cell? ⟨w.heap.size,2,none⟩=some (.int .i64 G))
  (first | exact ⟨d6,k2⟩ | exact ⟨d6',k2'⟩ | exact ⟨(zaf d3' _ _).trans ((if_neg (by decide)).trans d6'),(cell_far hne _).trans k2'⟩)
  (first | (go_at_call 122;refine HCN.out.mono ?_;rintro e w5 ⟨mb,r,rfl,g1,g2,g3,m0,m1,mw,mf1,mf2,hb⟩;have d6':=(hb.cell (p:=⟨w2.heap.size,6,none⟩) lW).trans d6;have d3':=(hb.cell (p:=⟨w2.heap.size,3,none⟩) lW).trans d3;have k0':=(hb.cell (p:=⟨w.heap.size,0,none⟩) lb).trans k0;have k1':=(hb.cell (p:=⟨w.heap.size,1,none⟩) lb).trans k1;have k2':=(hb.cell (p:=⟨w.heap.size,2,none⟩) lb).trans k2;have fW':=fun o=>(hb.frozen (p:=⟨w2.heap.size,o,none⟩) lW).trans (fW o)))
 obtain ⟨ow5,F,hH,hFW⟩:=half_start (by omega) (by omega) HI4.out HW4.out (zaG ow w2.heap.size 1) g1 g2 g3 m0 m1 mw mf1 mf2 ((Below.refl _ w4).drew.trans hb)
 have hH2:newS w.heap.size P M G (w5.setCell ⟨w2.heap.size,3,none⟩ (.pointer (some ⟨mb,0,none⟩))):=⟨(cell_far hne _).trans k0',(cell_far hne _).trans k1',(cell_far hne _).trans k2'⟩
 clear HI4 HW4 HCN d6 d3 d6' d3' k0 k1 k2 k0' k1' k2' fW fW' m0 m1 mw mf1 mf2 hb lW lb g1 g2 g3
 generalize w5.setCell ⟨w2.heap.size,3,none⟩ (.pointer (some ⟨mb,0,none⟩))=w6 at *
 obtain ⟨W,hWe⟩:∃ W,W=w2.heap.size:=⟨_,rfl⟩
 rw [← hWe] at hFW ⊢
 clear hWe hne
 have hH0:∃ F ow vr,Half F w1 P M G ow w6 0 0 vr (idl1 0) 0 (.slice none 0 0)∧F.W=W:=⟨F,ow5,_,hH,hFW⟩
 have HH0:=Lib.hid hH0
 obtain ⟨k0,k1,k2⟩:=hH2
 have HBX:=Lib.hid hbx
 clear hH hFW hH0 hbx
 go_wp2
 clear k0 k1 k2
 obtain ⟨i0,hi0,hz0,hz1,hz2⟩:=info_parts Tryz.infoPR
 go_loopw [5,69] (fun _ i wr=>∃ k:Nat,k≤P∧i=.int .i64 k∧∃ F ow vr,Half F w1 P M G ow wr k k vr (idl1 k) 0 (.slice none 0 0)∧F.W=W) (fun _ i _=>P - (intOf i).toNat)
 case atStart=>exact ⟨0,Nat.zero_le _,rfl,HH0.out⟩
 case round =>
  obtain ⟨k,hk,rfl,F,ow,vr,hH,hFW⟩:=hrel
  subst hFW
  by_cases hlt:k<P
  ·have c8:wr.cell? ⟨F.W,8,none⟩=some vr:=hH.cw.1 8 (by decide)
   have lW:=hH.lt.1
   have HH:=Lib.hid hH
   clear hH
   rcases Nat.eq_zero_or_pos k with hkp | hkp
   ·subst hkp
    go_wp2
    go_region_law (first
     | (go_simp;go_at_call 123;refine (rnew_any _).mono ?_;rintro e w5 ⟨b,rfl,hge,hr,hb⟩;have hH5:=HH.out.drew.ringNew (Nat.le_refl _) hge hr hb;have c8':w5.cell? ⟨F.W,8,none⟩=some vr:=hH5.cw.1 8 (by decide);have lW5:F.W<w5.heap.size:=hH5.lt.1;have hH6:=(hH5.more (zab w5 (.cells #[.pointer (some ⟨b,0,none⟩)] 174)) 0);have HH6:=Lib.hid hH6;clear hH5 hH6 hr)
     | (refine step_append_lies _ (by rfl) _ _ _ (by rfl) 0 174 i0 _ 1 8 Tryz.underlying115 hi0 hz0 hz1 hz2 rfl (by omega) _ 0 _ (by rfl) HH6.out.row.1 ⟨w5.heap.size,0,none⟩ 1 1 [.pointer (some ⟨b,0,none⟩)] (by rfl) (by rfl) (World.news_of_block (cs:=#[.pointer (some ⟨b,0,none⟩)]) (t:=174) (fr:=(0,0)) (heap_alloc_new w5 _)) (by simp [Value.oneCell']) (by omega) (by unfold maxLen;omega) (by omega) (by simp) (w5.heap.size+1) (by simp) ?_;intro gg cap w7 hown7 hgrow hat hlt4;have k8:=hgrow.cell (HH6.out.cw.1 8 (by decide)) (fun e=>zc3 HH6.out _ e.symm rfl);have kf:=fun o=>(hgrow.frozen_far ⟨F.W,o,none⟩ (by simp;omega) (fun e=>zc3 HH6.out _ e.symm rfl)).trans (HH6.out.cw.2 o)))
    all_goals (
     have hap:=HH6.out.appRow (vr':=.slice (some ⟨gg,0,none⟩) (0+1) cap) hgrow (by rw [ptrs_succ];simp only [if_true,ptr];exact hown7) (by rcases hat with e | e;exact .inl e.symm;exact .inr (by rw [e];simp [Value.ownBlock]))
     have HAP:=Lib.hid hap
     clear hap HH6 hgrow hown7
     go_wp2
     go_roundw
     case rel=>exact ⟨1,by omega,rfl,_,_,_,HAP.out,rfl⟩
     case measure=>simp [intOf];omega)
   ·go_wp2
    go_region_law (first
     | (go_simp;go_at_call 123;refine (rnew_any _).mono ?_;rintro e w5 ⟨b,rfl,hge,hr,hb⟩;have hH5:=HH.out.drew.ringNew (Nat.le_refl _) hge hr hb;have c8':w5.cell? ⟨F.W,8,none⟩=some vr:=hH5.cw.1 8 (by decide);have lW5:F.W<w5.heap.size:=hH5.lt.1;have hH6:=(hH5.more (zab w5 (.cells #[.pointer (some ⟨b,0,none⟩)] 174)) 0);have HH6:=Lib.hid hH6;clear hH5 hH6 hr)
     | (refine step_append_lies _ (by rfl) _ _ _ (by rfl) 0 174 i0 _ 1 8 Tryz.underlying115 hi0 hz0 hz1 hz2 rfl (by omega) _ k _ (by rfl) HH6.out.row.1 ⟨w5.heap.size,0,none⟩ 1 1 [.pointer (some ⟨b,0,none⟩)] (by rfl) (by rfl) (World.news_of_block (cs:=#[.pointer (some ⟨b,0,none⟩)]) (t:=174) (fr:=(0,0)) (heap_alloc_new w5 _)) (by simp [Value.oneCell']) (by omega) (by unfold maxLen;omega) (by omega) (by simp) (w5.heap.size+1) (by simp) ?_;intro gg cap w7 hown7 hgrow hat hlt4;have k8:=hgrow.cell (HH6.out.cw.1 8 (by decide)) (fun e=>zc3 HH6.out _ e.symm rfl);have kf:=fun o=>(hgrow.frozen_far ⟨F.W,o,none⟩ (by simp;omega) (fun e=>zc3 HH6.out _ e.symm rfl)).trans (HH6.out.cw.2 o)))
    all_goals (
     have hap:=HH6.out.appRow (vr':=.slice (some ⟨gg,0,none⟩) (k+1) cap) hgrow (by rw [ptrs_succ];simp only [if_true,ptr];exact hown7) (by rcases hat with e | e;exact .inl e.symm;exact .inr (by rw [e];simp [Value.ownBlock]))
     have HAP:=Lib.hid hap
     clear hap HH6 hgrow hown7
     have c12:(w7.setCell ⟨F.W,8,none⟩ (.slice (some ⟨gg,0,none⟩) (k+1) cap)).cell? ⟨F.W,12,none⟩=some (ptr F.idle):=HAP.out.cw.1 12 (by decide)
     simp only [ptr] at c12
     go_wp2_with fail
     obtain ⟨mk,mw,hidle⟩:=HAP.out.idle8
     refine (putp_new _ F.idle mk mw P M k (idl1 k) _ hidle rfl hlt (idl1_step k hkp).1).mono ?_
     rintro e w8 ⟨rfl,hi8,hm8⟩
     rw [(idl1_step k hkp).2] at hi8
     have h8:=HAP.out.idleMod ⟨mk,mw,(IdleH_mono hi8 (fun _ e=>.inl e))⟩ hm8
     have H8:=Lib.hid h8
     clear h8 hi8 hm8
     go_wp2
     go_roundw
     case rel=>exact ⟨k+1,by omega,by go_num,_,_,_,H8.out,rfl⟩
     case measure=>simp [intOf];omega)
  ·obtain rfl:k=P:=by omega
   obtain ⟨k0,k1,k2⟩:=newS_frame HBX.out hbw hH.frame
   rw [idl12 k (by omega)] at hH
   obtain ⟨W,hWe⟩:∃ W,W=F.W:=⟨_,rfl⟩
   rw [← hWe]
   have hH0:∃ F ow vr va,Half F w1 k M G ow wr k k vr (idl2 k 0) 0 va∧F.W=W:=⟨F,ow,_,_,hH,hWe.symm⟩
   have HH0:=Lib.hid hH0
   clear hH hH0 hWe hlt
   generalize hPk:k=P at *
   have HPk:=Lib.hid hPk
   clear hPk
   go_wp2
   clear k0 k1 k2
   obtain ⟨i1,hi1,hy0,hy1,hy2⟩:=info_parts Tryz.infoMach
   go_loopw [6,93] (fun _ i wr=>∃ k:Nat,k≤M∧i=.int .i64 k∧∃ F ow vr va,Half F w1 P M G ow wr P P vr (idl2 P k) k va∧F.W=W) (fun _ i _=>M - (intOf i).toNat)
   case atStart=>exact ⟨0,Nat.zero_le _,rfl,HH0.out⟩
   case round =>
    obtain ⟨k,hk,rfl,F,ow,vr,va,hH,hFW⟩:=hrel
    subst hFW
    by_cases hlt:k<M
    ·have c13:wr.cell? ⟨F.W,13,none⟩=some va:=hH.cw.1 13 (by decide)
     have lW:=hH.lt.1
     have HH:=Lib.hid hH
     clear hH
     rcases Nat.eq_zero_or_pos k with hkp | hkp
     ·subst hkp
      go_wp2
      go_region_law (first
       | (go_simp;go_at_call 78;refine (fresh_any _).mono ?_;rintro e w5 ⟨rfl,hb⟩;have hH5:=HH.out.drew.more hb 0;have c13':w5.cell? ⟨F.W,13,none⟩=some va:=hH5.cw.1 13 (by decide);have lW5:F.W<w5.heap.size:=hH5.lt.1;have hH6:=(hH5.more (zab w5 (.cells #[.int .i64 16,.int .i64 (-1),.int .i64 (-1),.int .i64 (-1),.int .i64 (-1),.int .i64 (-1),.int .i64 0,.bool false,.bool false,.slice none 0 0,.int .i64 0,.int .i64 0,.int .i64 0,.int .i64 0,.int .i64 0,.int .i64 0,.int .u64 0,.int .i64 0] 52)) 0);have HH6:=Lib.hid hH6;clear hH5 hH6)
       | (refine step_append_lies _ (by rfl) _ _ _ (by rfl) 0 52 i1 _ 18 152 Tryz.underlying117 hi1 hy0 hy1 hy2 rfl (by omega) _ 0 _ (by rfl) HH6.out.all.1 ⟨w5.heap.size,0,none⟩ 1 1 zeJ (by rfl) (by rfl) (World.news_of_block (cs:=#[.int .i64 16,.int .i64 (-1),.int .i64 (-1),.int .i64 (-1),.int .i64 (-1),.int .i64 (-1),.int .i64 0,.bool false,.bool false,.slice none 0 0,.int .i64 0,.int .i64 0,.int .i64 0,.int .i64 0,.int .i64 0,.int .i64 0,.int .u64 0,.int .i64 0]) (t:=52) (fr:=(0,0)) (heap_alloc_new w5 _)) (by simp [zeJ,encM,Value.oneCell']) (by omega) (by unfold maxLen;omega) (by omega) (by simp) (w5.heap.size+1) (by simp) ?_;intro gg cap w7 hown7 hgrow hat hlt4;have k13:=hgrow.cell (HH6.out.cw.1 13 (by decide)) (fun e=>zc5 HH6.out _ e.symm rfl);have kf:=fun o=>(hgrow.frozen_far ⟨F.W,o,none⟩ (by simp;omega) (fun e=>zc5 HH6.out _ e.symm rfl)).trans (HH6.out.cw.2 o)))
      all_goals (
       have hap:=HH6.out.appAll (va':=.slice (some ⟨gg,0,none⟩) (0+1) cap) hgrow (by rw [rep_succ];exact hown7) (by rcases hat with e | e;exact .inl e.symm;exact .inr (by rw [e];simp [Value.ownBlock]))
       have HAP:=Lib.hid hap
       clear hap HH6 hgrow hown7
       go_wp2
       go_roundw
       case rel=>exact ⟨1,by omega,rfl,_,_,_,_,(by rw [← idl2_01];exact HAP.out),rfl⟩
       case measure=>simp [intOf];omega)
     ·go_wp2
      go_region_law (first
       | (go_simp;go_at_call 78;refine (fresh_any _).mono ?_;rintro e w5 ⟨rfl,hb⟩;have hH5:=HH.out.drew.more hb 0;have c13':w5.cell? ⟨F.W,13,none⟩=some va:=hH5.cw.1 13 (by decide);have lW5:F.W<w5.heap.size:=hH5.lt.1;have hH6:=(hH5.more (zab w5 (.cells #[.int .i64 16,.int .i64 (-1),.int .i64 (-1),.int .i64 (-1),.int .i64 (-1),.int .i64 (-1),.int .i64 0,.bool false,.bool false,.slice none 0 0,.int .i64 0,.int .i64 0,.int .i64 0,.int .i64 0,.int .i64 0,.int .i64 0,.int .u64 0,.int .i64 0] 52)) 0);have HH6:=Lib.hid hH6;clear hH5 hH6)
       | (refine step_append_lies _ (by rfl) _ _ _ (by rfl) 0 52 i1 _ 18 152 Tryz.underlying117 hi1 hy0 hy1 hy2 rfl (by omega) _ k _ (by rfl) HH6.out.all.1 ⟨w5.heap.size,0,none⟩ 1 1 zeJ (by rfl) (by rfl) (World.news_of_block (cs:=#[.int .i64 16,.int .i64 (-1),.int .i64 (-1),.int .i64 (-1),.int .i64 (-1),.int .i64 (-1),.int .i64 0,.bool false,.bool false,.slice none 0 0,.int .i64 0,.int .i64 0,.int .i64 0,.int .i64 0,.int .i64 0,.int .i64 0,.int .u64 0,.int .i64 0]) (t:=52) (fr:=(0,0)) (heap_alloc_new w5 _)) (by simp [zeJ,encM,Value.oneCell']) (by omega) (by unfold maxLen;omega) (by omega) (by simp) (w5.heap.size+1) (by simp) ?_;intro gg cap w7 hown7 hgrow hat hlt4;have k13:=hgrow.cell (HH6.out.cw.1 13 (by decide)) (fun e=>zc5 HH6.out _ e.symm rfl);have kf:=fun o=>(hgrow.frozen_far ⟨F.W,o,none⟩ (by simp;omega) (fun e=>zc5 HH6.out _ e.symm rfl)).trans (HH6.out.cw.2 o)))
      all_goals (
       have hap:=HH6.out.appAll (va':=.slice (some ⟨gg,0,none⟩) (k+1) cap) hgrow (by rw [rep_succ];exact hown7) (by rcases hat with e | e;exact .inl e.symm;exact .inr (by rw [e];simp [Value.ownBlock]))
       have HAP:=Lib.hid hap
       clear hap HH6 hgrow hown7
       have c12:(w7.setCell ⟨F.W,13,none⟩ (.slice (some ⟨gg,0,none⟩) (k+1) cap)).cell? ⟨F.W,12,none⟩=some (ptr F.idle):=HAP.out.cw.1 12 (by decide)
       simp only [ptr] at c12
       go_wp2_with fail
       obtain ⟨mk,mw,hidle⟩:=HAP.out.idle8
       obtain ⟨s1,s2,s3⟩:=idl2_step P k hkp
       refine (stop_new _ F.idle mk mw P M k (idl2 P k) _ hidle hlt s1 s2 (by unfold idl2;simp;omega) (by omega)).mono ?_
       rintro e w8 ⟨⟨v8,rfl⟩,hi8,hm8⟩
       rw [s3] at hi8
       have h8:=HAP.out.idleMod ⟨mk,mw,hi8⟩ hm8
       have H8:=Lib.hid h8
       clear h8 hi8 hm8
       go_wp2
       go_roundw
       case rel=>exact ⟨k+1,by omega,by go_num,_,_,_,_,H8.out,rfl⟩
       case measure=>simp [intOf];omega)
    ·obtain rfl:k=M:=by omega
     obtain ⟨F',V,hA,hFW⟩:=half_world hH HD.out
     rw [← hFW]
     have hEnv:Env N ow wr:=⟨(HTab.out.of_below HB1.out HTab.out.le).of_below hH.frame (Nat.le_trans HTab.out.le HB1.out.size),fun b hb=>hH.low b (Nat.lt_of_lt_of_le hb (Nat.le_trans HTab.out.le HB1.out.size))⟩
     have hlow:∀ b,b<w.heap.size→ow b=0:=fun b hb=>hH.low b (Nat.lt_of_lt_of_le hb HB1.out.size)
     have hfr:Below w.heap.size w wr:=HB1.out.trans (hH.frame.mono HB1.out.size)
     have c13:=hA.cW_all
     have a0:wr.cell? ⟨F'.all,0,none⟩=some (.int .i64 (((zey P k G).mach 0).place:Nat)):=hA.cA_place (i:=0) (by show 0<k;omega)
     have a1:wr.cell? ⟨F'.all,1,none⟩=some (.int .i64 ((zey P k G).mach 0).p):=hA.cA_p (i:=0) (by show 0<k;omega)
     have fA:=hA.call.2
     have hc2:=hA.own_cap.2
     have HA:=Lib.hid hA
     have HE:=Lib.hid hEnv
     have HL:=Lib.hid hlow
     have HFR:=Lib.hid hfr
     clear hA hEnv hlow hfr hH hFW
     have hkk:(zey P k G).M=k:=rfl
     rw [hkk] at c13 hc2
     clear hkk
     have h0k:0<k:=by omega
     go_wp2
     go_region
     go_wp2
     refine zaT (fun w2=>On F' V ow wr ow w2 ((zey P k G).setM 0 { Mach.fresh with place:=1,p:=0 }))
      (by
       have h1:=(((OnM.start HA.out h0k).s_place 1).s_p 0).drew
       have e0:(zey P k G).mach 0=Mach.fresh:=zbx _ _ _ _ h0k
       rw [e0] at h1;exact h1.on) ?_
     clear c13 a0 a1 fA hc2
     intro w2 h2
     have hmv:=zbZ h2.drew.at_ (HE.out.on h2.drew) 0 0 1 (by decide) (by decide) (by decide)
     have c3:=h2.at_.cW_mem
     have c6:=h2.at_.cW_from
     have c7:=h2.at_.cW_n
     have hPe:((zey P k G).setM 0 { Mach.fresh with place:=1,p:=0 }).P=P:=rfl
     have hMe:((zey P k G).setM 0 { Mach.fresh with place:=1,p:=0 }).M=k:=rfl
     have hGe:((zey P k G).setM 0 { Mach.fresh with place:=1,p:=0 }).G=G:=rfl
     simp only [hPe,hMe,hGe] at c6 c7 hmv
     have hne:=new_eq P k G HD.out
     obtain ⟨ws,cnt,hsh⟩:=zaU ((zey P k G).setM 0 { Mach.fresh with place:=1,p:=0 }) 0 0 1
     unfold newW at hne
     rw [hsh] at hne hmv
     have HNE:=Lib.hid hne
     clear hne hsh
     obtain ⟨fr,hfr⟩:∃ fr:Int,fr=((2*(P+2)+1+k:Nat):Int):=⟨_,rfl⟩
     rw [← hfr] at c6 hmv
     have HM:=Lib.hid hmv
     have H2:=Lib.hid h2
     clear hmv h2 hfr hPe hMe hGe
     go_still_tail 8,(by kernel_rfl)
     change wpList _ _ _ _ _ w2.drew
     go_wp2_with fail
     refine HM.out.mono ?_
     rintro e w3 ⟨rfl,ow3,h3⟩
     have h4:=H2.out.drew.then_ h3
     have hlg:=logadd_on h4.at_ (HE.out.on h4) ⟨0,0,-1,-1,0⟩ (by decide) (Nat.zero_lt_of_lt (by decide:0<4294967296))
     simp only [evV] at hlg
     have HL3:=Lib.hid hlg
     have H4:=Lib.hid h4
     clear hlg h3 h4 c3 c6 c7 HM
     go_wp2_with fail
     refine HL3.out.mono ?_
     rintro e w4 ⟨rfl,V4,ow4,_,h5⟩
     have h6:=H4.out.then_ h5
     have c10:=h6.at_.cW_glob
     have h7:=h6.alloc (.cells #[.int .i64 0] 3)
     have hv:(w4.alloc (.cells #[.int .i64 0] 3)).ownsRow 0 3 1 (.slice (some ⟨w4.heap.size,0,none⟩) 1 1) [(0:Int)].length (ints [0]):=by
      refine ⟨by simp [ints],.inr ⟨w4.heap.size,1,#[.int .i64 0],rfl,Nat.zero_le _,?_,by simp,by decide,by simp,by simp [ints]⟩⟩
      show (w4.heap.push _)[w4.heap.size]?=_
      simp
     have hpt:=gput_any _ F'.glob P 0 [] [0] (.slice (some ⟨w4.heap.size,0,none⟩) 1 1) (w4.alloc (.cells #[.int .i64 0] 3)) (by have:=h7.at_.glob6;exact this) hv (by decide)
     have HP:=Lib.hid hpt
     have H7:=Lib.hid h7
     clear hpt h7 h6 h5 HL3
     go_wp2_with fail
     refine HP.out.mono ?_
     rintro e w5 ⟨rfl,hg,hm⟩
     have h8:=H7.out.globMod 6 (hg.mono fun x hx e=>by
      rcases e with e | e
      ·rw [grow_lt e.2];exact e.1
      ·rw [grow_ge e]) hm
     obtain ⟨ow8,h8⟩:∃ ow8,On F' V4 ow wr ow8 w5 _:=⟨_,h8⟩
     have H8:=Lib.hid h8
     clear h8 hg hm HP
     go_wp2
     go_returns
     refine ⟨F',V4,ow8,rfl,?_,fun b hb=>?_,HFR.out.trans (H8.out.st.below (HFR.out.size) HL.out)⟩
     ·rw [HPk.out,← HNE.out];exact H8.out.at_
     ·rw [H8.out.st.own b (Nat.lt_of_lt_of_le hb HFR.out.size)];exact HL.out b hb
end Go.Proofs.YtlmmjgekolpekaaGreatDoor
