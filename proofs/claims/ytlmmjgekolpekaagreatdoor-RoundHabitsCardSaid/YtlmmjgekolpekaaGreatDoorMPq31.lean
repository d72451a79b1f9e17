/- Parts of the proof. -/
import Derived.Test.YtlmmjgekolpekaaGreatDoorCards
import Derived.Test.YtlmmjgekolpekaaGreatDoorTie
import Derived.ProofKit
import Derived.OpenShut
import Derived.Deep.Strs
import Derived.Deep.DeepHandedRow
import Derived.Lib.LaidTab
import Derived.Deep.DeepWitnessRowRef
import Derived.Deep.Slices
import Derived.Deep.Fields
import Derived.ReadAgain
import Derived.Laws.AppendOwnNone
import Derived.Test.YtlmmjgekolpekaaGreatDoorMPq30
set_option linter.unusedVariables false
set_option linter.unusedSimpArgs false
set_option linter.unusedSectionVars false
set_option maxRecDepth 100000
set_option maxHeartbeats 6400000
namespace Go.Proofs.YtlmmjgekolpekaaGreatDoor
open Go Go.ChangeShapes Go.WideShapes Go.ChangeAt Go.RowKit Go.Proofs
theorem own:ownKnob Tryz.prog.godebug=none:=by kernel_rfl
theorem zcN {P:Program} {w:World} {n:String} {d:DataW Unit}:∀ {l:List (String × DataW Unit)} {ps:List MemPlace},DataW.LaidVars P w l ps→(n,d)∈l →
  ∃ g t cs fuel p,P.globalNamed n=some g∧(P.globals[g]?).map (·.type)=some t∧w.var? P n=some cs∧DataW.trod (fun _=>()) P w 0 (fun _=>true) false fuel t cs.toList=some (d,p)
 | [],_,_,hm=>by cases hm
 | (n',d') :: r,ps,h,hm=>by
  obtain ⟨g,t,cs,fuel,p,q,h1,h2,h3,h4,h5,_⟩:=h
  rcases List.mem_cons.1 hm with e | hm
  ·injection e with e1 e2
   subst e1 e2
   exact ⟨g,t,cs,fuel,p,h1,h2,h3,h4⟩
  ·exact zcN h5 hm
theorem three {r:List Value} {a b c:Value} (h:r.length=3) (h0:(r.drop 0).take 1=[a]) (h1:(r.drop 1).take 1=[b]) (h2:(r.drop 2).take 1=[c]):r=[a,b,c]:=by
 match r,h with
 | [x,y,z],_=>simp at h0 h1 h2;simp [h0,h1,h2]
theorem two {r:List Value} {a b:Value} (h:r.length=2) (h0:(r.drop 0).take 1=[a]) (h1:(r.drop 1).take 1=[b]):r=[a,b]:=by
 match r,h with
 | [x,y],_=>simp at h0 h1;simp [h0,h1]
theorem gAll:Tryz.prog.globalNamed "hostler/event.all"=some 1:=by kernel_rfl
theorem gAllType:(Tryz.prog.globals[1]?).map (·.type)=some 196:=by kernel_rfl
theorem gNext:Tryz.prog.globalNamed "hostler/status.next"=some 0:=by kernel_rfl
theorem gNextType:(Tryz.prog.globals[0]?).map (·.type)=some 147:=by kernel_rfl
theorem gPlaces:Tryz.prog.globalNamed "hostler/mach.places"=some 2:=by kernel_rfl
theorem gPlacesType:(Tryz.prog.globals[2]?).map (·.type)=some 276:=by kernel_rfl
theorem zcr {W:World} {n:String} {g:Nat} {cs:Array Value} (hg:Tryz.prog.globalNamed n=some g) (hv:W.var? Tryz.prog n=some cs) (s k j:Nat) (v:Value) (h:∃ r,(cs.toList.drop (k*s)).take s=r∧r[j]?=some v):W.cell? ⟨g,k*s+j,none⟩=some v:=by
 obtain ⟨r,e,hr⟩:=h
 rw [World.var?_cell hg hv]
 rw [← e,List.getElem?_take] at hr
 split at hr
 ·rw [List.getElem?_drop] at hr
  simpa using hr
 ·cases hr
theorem all_of {W:World} {l:List (String × DataW Unit)} (h:laidMet Tryz.prog l W) (hm:("hostler/event.all",Rows.laid_hostler_event_all)∈l) :
  ∀ k,k<8→∃ s x y,W.cell? ⟨1,k*3,none⟩=some (.string s)∧W.cell? ⟨1,k*3+1,none⟩=some (.int .u64 x)∧W.cell? ⟨1,k*3+2,none⟩=some (.int .u64 y):=by
 obtain ⟨ps,hl,_⟩:=h
 obtain ⟨g,t,cs,fuel,p,hg,ht,hv,hd⟩:=zcN hl hm
 obtain rfl:=Option.some.inj (gAll.symm.trans hg)
 obtain rfl:=Option.some.inj (gAllType.symm.trans ht)
 obtain ⟨xs,m,rfl,_,hlen,hxl,hx⟩:=DataW.trod_array Tryz.underlying196 hd
 have c80:Tryz.prog.cellsOf 142=3:=by kernel_rfl
 have c9:Tryz.prog.cellsOf 9=1:=by kernel_rfl
 have c78:Tryz.prog.cellsOf 69=1:=by kernel_rfl
 intro k hk
 have hk2:=hx k hk
 rw [c80,List.getElem?_eq_getElem (by omega)] at hk2
 obtain ⟨y0,y1,y2,n,_,hl3,h0,h1,h2⟩:=Deep.trod_struct3 Tryz.underlying142 hk2
 rw [c80] at hl3
 obtain ⟨s,e0,_⟩:=DataW.trod_string Tryz.underlying9 h0
 obtain ⟨x,e1,_⟩:=DataW.trod_int (k:=.u64) (by kernel_rfl) h1
 obtain ⟨y,e2,_⟩:=DataW.trod_int (k:=.u64) (by kernel_rfl) h2
 dsimp only at e0 e1 e2
 rw [c9] at e0
 rw [c78] at e1 e2
 have e:=three hl3 e0 e1 e2
 exact ⟨s,x,y,zcr gAll hv 3 k 0 _ ⟨_,e,rfl⟩,zcr gAll hv 3 k 1 _ ⟨_,e,rfl⟩,zcr gAll hv 3 k 2 _ ⟨_,e,rfl⟩⟩
theorem places_of {W:World} {l:List (String × DataW Unit)} (h:laidMet Tryz.prog l W) (hm:("hostler/mach.places",Rows.laid_hostler_mach_places)∈l) :
  ∀ k,k<31→∃ s,W.cell? ⟨2,k*2,none⟩=some (.string s)∧W.cell? ⟨2,k*2+1,none⟩=some (.int .i64 (lockK k:Nat)):=by
 obtain ⟨ps,hl,_⟩:=h
 obtain ⟨g,t,cs,fuel,p,hg,ht,hv,hd⟩:=zcN hl hm
 obtain rfl:=Option.some.inj (gPlaces.symm.trans hg)
 obtain rfl:=Option.some.inj (gPlacesType.symm.trans ht)
 obtain ⟨xs,m,rfl,hxs,hlen,hxl,hx⟩:=DataW.trod_array Tryz.underlying276 hd
 have c80:Tryz.prog.cellsOf 257=2:=by kernel_rfl
 have c9:Tryz.prog.cellsOf 9=1:=by kernel_rfl
 have c78:Tryz.prog.cellsOf 255=1:=by kernel_rfl
 have hpl:∀ k,k<31→∃ b,(xs.map (·.1))[k]?=some (.agg [.lit (.string b),.lit (.int .i64 (lockK k:Nat))]):=by
  injection hxs with e1 _
  unfold Rows.laid_hostler_mach_places at e1
  injection e1 with e1
  rw [← e1]
  intro k hk
  match k,hk with
  | 0,_ | 1,_ | 2,_ | 3,_ | 4,_ | 5,_ | 6,_ | 7,_ | 8,_ | 9,_ | 10,_ | 11,_ | 12,_ | 13,_ | 14,_ | 15,_ | 16,_ | 17,_ | 18,_ | 19,_ | 20,_ | 21,_ | 22,_ | 23,_ | 24,_ | 25,_ | 26,_ | 27,_ | 28,_ | 29,_ | 30,_=>exact ⟨_,rfl⟩
  | k+31,h=>exact absurd h (by omega)
 intro k hk
 have hk2:=hx k hk
 obtain ⟨b,hb⟩:=hpl k hk
 rw [List.getElem?_map] at hb
 rw [c80,List.getElem?_eq_getElem (by omega)] at hk2
 rw [List.getElem?_eq_getElem (by omega)] at hb
 obtain ⟨y0,y1,n,exy,hl2,h0,h1⟩:=trod_struct2 Tryz.underlying257 hk2
 rw [c80] at hl2
 rw [exy] at hb
 simp only [Option.map_some,Option.some.injEq,DataW.agg.injEq,List.cons.injEq,and_true] at hb
 obtain ⟨s,e0,_⟩:=DataW.trod_string Tryz.underlying9 h0
 obtain ⟨x,e1,e2,_⟩:=DataW.trod_int (k:=.i64) (by kernel_rfl) h1
 dsimp only at e0 e1
 rw [c9] at e0
 rw [c78] at e1
 have e:=two hl2 e0 e1
 have hx2:x=(lockK k:Nat):=by
  have:=hb.2
  rw [e2] at this
  simpa using this
 subst hx2
 exact ⟨s,zcr gPlaces hv 2 k 0 _ ⟨_,e,rfl⟩,zcr gPlaces hv 2 k 1 _ ⟨_,e,rfl⟩⟩
theorem zdd {w:World} {a:Addr} {v:Value} (h:w.cell? a=some v):a=⟨a.block,a.off,none⟩:=by
 unfold World.cell? at h
 split at h
 ·split at h
  ·cases h
  ·rename_i hs
   obtain ⟨b,o,s⟩:=a
   cases s with
   | none=>rfl
   | some s=>simp at hs
 ·cases h
theorem next_of {W:World} {l:List (String × DataW Unit)} (h:laidMet Tryz.prog l W) (hm:("hostler/status.next",Rows.laid_hostler_status_next)∈l) :
  ∀ k,k<6→∃ b o c,b<W.heap.size∧W.cell? ⟨0,k,none⟩=some (.slice (some ⟨b,o,none⟩) (zex k).length c)∧(zex k).length≤c∧∀ j,j<(zex k).length→W.cell? ⟨b,o+j,none⟩=some (.int .u64 ((zex k).getD j 0:Nat)):=by
 obtain ⟨ps,hl,_⟩:=h
 obtain ⟨g,t,cs,fuel,p,hg,ht,hv,hd⟩:=zcN hl hm
 obtain rfl:=Option.some.inj (gNext.symm.trans hg)
 obtain rfl:=Option.some.inj (gNextType.symm.trans ht)
 obtain ⟨xs,m,rfl,hxs,hlen,hxl,hx⟩:=DataW.trod_array Tryz.underlying147 hd
 have c80:Tryz.prog.cellsOf 146=1:=by kernel_rfl
 have c78:Tryz.prog.cellsOf 69=1:=by kernel_rfl
 have hpl:∀ k,k<6→(xs.map (·.1))[k]?=some (.slice ((zex k).map fun x=>.lit (.int .u64 (x:Nat))) [])∧0<(zex k).length:=by
  injection hxs with e1 _
  unfold Rows.laid_hostler_status_next at e1
  injection e1 with e1
  rw [← e1]
  intro k hk
  match k,hk with
  | 0,_ | 1,_ | 2,_ | 3,_ | 4,_ | 5,_=>exact ⟨rfl,by decide⟩
  | k+6,h=>exact absurd h (by omega)
 intro k hk
 have hk2:=hx k (by omega)
 obtain ⟨hb,hpos⟩:=hpl k hk
 rw [List.getElem?_map] at hb
 rw [c80,List.getElem?_eq_getElem (by omega)] at hk2
 rw [List.getElem?_eq_getElem (by omega)] at hb
 rcases DataW.trod_slice Tryz.underlying146 hk2 with ⟨_,e⟩ | ⟨a,len,cap,elems,rest,n,_,e,exy,_,hcap,_,hel,hread,_,_⟩
 ·rw [e] at hb;simp at hb
 ·rw [exy] at hb
  simp only [Option.map_some,Option.some.injEq,DataW.slice.injEq] at hb
  obtain ⟨hb1,hb2⟩:=hb
  have hln:len=(zex k).length:=by rw [← hel];have:=congrArg List.length hb1;simpa using this
  subst hln
  have hcell:∀ j,j<(zex k).length→W.cell? (a.add j)=some (.int .u64 ((zex k).getD j 0:Nat)):=by
   intro j hj
   have hr:=hread j hj
   have hge:elems[j]?=some elems[j]:=List.getElem?_eq_getElem (by omega)
   rw [hge,Option.bind_eq_some_iff] at hr
   obtain ⟨zs,hz1,hz2⟩:=hr
   rw [c78] at hz1
   obtain ⟨_,hzl,hz⟩:=World.cells?_some hz1
   obtain ⟨x,e1,e2,_⟩:=DataW.trod_int (k:=.u64) (by kernel_rfl) hz2
   have h0:=hz 0 (by omega)
   rw [e1] at h0
   have hx2:(elems.map (·.1))[j]?=((zex k).map fun x=>(DataW.lit (.int .u64 (x:Nat)):DataW Unit))[j]?:=by rw [hb1]
   rw [List.getElem?_map,hge,List.getElem?_map,List.getElem?_eq_getElem hj,e2] at hx2
   simp only [Option.map_some,Option.some.injEq,DataW.lit.injEq,Lit.int.injEq,true_and] at hx2
   rw [hx2] at h0
   rw [List.getD_eq_getElem?_getD,List.getElem?_eq_getElem hj]
   simpa [Addr.add] using h0
  have hc0:=hcell 0 hpos
  have hsp:=zdd hc0
  have hblk:=World.block_lt_of_cell? W _ hc0
  obtain ⟨ab,ao,asp⟩:=a
  obtain rfl:asp=none:=by simpa [Addr.add] using hsp
  refine ⟨ab,ao,cap,by simpa [Addr.add] using hblk,?_,hcap,fun j hj=>by
   have:=hcell j hj
   by_cases h0:j=0
   ·subst h0;simpa [Addr.add] using this
   ·simpa [Addr.add,h0] using this⟩
  have:=zcr gNext hv 1 k 0 _ ⟨_,e,rfl⟩
  simpa using this
theorem gTz:Tryz.prog.globalNamed "math/bits.deBruijn64tab"=some 3:=by kernel_rfl
theorem gTzType:(Tryz.prog.globals[3]?).map (·.type)=some 306:=by kernel_rfl
theorem tz_of {W:World} {l:List (String × DataW Unit)} (h:laidMet Tryz.prog l W) (hm:("math/bits.deBruijn64tab",Rows.laid_math_bits_deBruijn64tab)∈l) :
  ∀ j,j<64→W.cell? ⟨3,j,none⟩=some (.int .u8 (Lib.deBruijn64tab.getD j 0:Nat)):=by
 obtain ⟨ps,hl,_⟩:=h
 obtain ⟨g,t,cs,fuel,p,hg,ht,hv,hd⟩:=zcN hl hm
 obtain rfl:=Option.some.inj (gTz.symm.trans hg)
 obtain rfl:=Option.some.inj (gTzType.symm.trans ht)
 have hd':DataW.trod (fun _=>()) Tryz.prog W 0 (fun _=>true) false fuel 306 cs.toList=some (Lib.tabData .u8 (Lib.deBruijn64tab.map fun (n:Nat)=>(n:Int)),p):=hd
 have hcs:=Lib.cells_of_tab (k:=.u8) (zs:=Lib.deBruijn64tab.map fun (n:Nat)=>(n:Int)) Tryz.underlying306 Tryz.underlying5 (by kernel_rfl) (by kernel_rfl) hd'
 have hcs2:W.var? Tryz.prog "math/bits.deBruijn64tab"=some ((Lib.deBruijn64tab.map fun (n:Nat)=>(n:Int)).map fun z=>Value.int .u8 z).toArray:=by
  rw [hv,← hcs]
 intro j hj
 have:=World.var?_cell gTz hcs2 j
 rw [this]
 have hl:Lib.deBruijn64tab.length=64:=by decide
 simp [List.getD_eq_getElem?_getD,List.getElem?_eq_getElem (show j<Lib.deBruijn64tab.length by omega)]
theorem tabs_of {W:World} {l:List (String × DataW Unit)} (h:laidMet Tryz.prog l W) (h1:("hostler/event.all",Rows.laid_hostler_event_all)∈l) (h2:("hostler/status.next",Rows.laid_hostler_status_next)∈l) (h3:("hostler/mach.places",Rows.laid_hostler_mach_places)∈l) (h4:("math/bits.deBruijn64tab",Rows.laid_math_bits_deBruijn64tab)∈l):Tabs W.heap.size W:=by
 have hp:=places_of h h3
 have ha:=all_of h h1
 have hn:=next_of h h2
 have hz:=tz_of h h4
 have l4:=World.block_lt_of_cell? W _ (hz 0 (by decide))
 refine ⟨?_,Nat.le_refl _,hn,ha,hz,l4,hp⟩
 obtain ⟨s,x,y,e1,_⟩:=ha 0 (by decide)
 obtain ⟨s',e2,_⟩:=hp 0 (by decide)
 obtain ⟨b,o,c,_,e3,_⟩:=hn 0 (by decide)
 have l1:=World.block_lt_of_cell? W _ e1
 have l2:=World.block_lt_of_cell? W _ e2
 have l3:=World.block_lt_of_cell? W _ e3
 simp only at l1 l2 l3
 omega
end Go.Proofs.YtlmmjgekolpekaaGreatDoor
namespace Go.Proofs.YtlmmjgekolpekaaGreatDoor
open Go Go.ChangeShapes Go.WideShapes Go.ChangeAt Go.RowKit Go.Proofs
theorem post_kept {H:Type} {enc:TypeId × Value→H} {P:Program} {f:Func} {s:ChangeSpec} {apart fresh handsOn:Bool} {W W':World} {args:Array Value} {v:Value} {ds gs:List (DataW H)} {before pa pv:List MemPlace}
  (hW:DataW.Whole enc P f.params.toList s.vars apart W args.toList ds gs before)
  (hres:∀ (b:Nat) (sp:Nat→Bool) (hd:Bool),DataW.TrodAll enc P W' b sp hd f.resultTypes.toList (v.resultList f.resultTypes.size) (s.fn H (ds++gs)).results [])
  (hargs:∀ sp:Nat→Bool,(∀ p∈before,sp p.block=true)→DataW.TrodAll enc P W' 0 sp true f.params.toList args.toList (s.fn H (ds++gs)).args pa)
  (hvars:∀ sp:Nat→Bool,(∀ p∈before,sp p.block=true)→DataW.TrodVars enc P W' sp s.vars (s.fn H (ds++gs)).vars pv)
  (hps:before=pa++pv) (hk:W.keptBut W' (·∈before)) :
  s.post enc P f apart fresh handsOn false W args v W':=by
 have hold:∀ p∈before,(fun b=>decide (b<W.heap.size)) p.block=true:=fun p hp=>by simpa using hW.lt p hp
 refine ⟨ds,gs,before,[],pa,pv,hW,hres _ _ _,hargs _ hold,hvars _ hold,World.keptBut_mono (fun p hp=>⟨hp,?_⟩) hk,fun h=>by cases h⟩
 rw [hps,List.mem_append] at hp
 exact Or.inr hp
theorem zcR {n:Int} (h:(Lit.int .i64 n).wf=true) : -9223372036854775808≤n∧n≤9223372036854775807:=by
 simp only [Lit.wf,Bool.and_eq_true,decide_eq_true_eq] at h
 exact ⟨Int.le_trans (by decide) h.1,Int.le_trans h.2 (by decide)⟩
noncomputable def World.lay (w:World) (g:Nat) (cs:Array Value):World :=
 { w with heap:=w.heap.modify g fun
   | .cells _ t frozen=>.cells cs t frozen
   | o=>o }
noncomputable def zew:Array Value:=#[.int .u8 0,.int .u8 1,.int .u8 56,.int .u8 2,.int .u8 57,.int .u8 49,.int .u8 28,.int .u8 3,.int .u8 61,.int .u8 58,.int .u8 42,.int .u8 50,.int .u8 38,.int .u8 29,.int .u8 17,.int .u8 4,.int .u8 62,.int .u8 47,.int .u8 59,.int .u8 36,.int .u8 45,.int .u8 43,.int .u8 51,.int .u8 22,.int .u8 53,.int .u8 39,.int .u8 33,.int .u8 30,.int .u8 24,.int .u8 18,.int .u8 12,.int .u8 5,.int .u8 63,.int .u8 55,.int .u8 48,.int .u8 27,.int .u8 60,.int .u8 41,.int .u8 37,.int .u8 16,.int .u8 46,.int .u8 35,.int .u8 44,.int .u8 21,.int .u8 52,.int .u8 32,.int .u8 23,.int .u8 11,.int .u8 54,.int .u8 26,.int .u8 40,.int .u8 15,.int .u8 34,.int .u8 20,.int .u8 31,.int .u8 10,.int .u8 25,.int .u8 14,.int .u8 19,.int .u8 9,.int .u8 13,.int .u8 8,.int .u8 7,.int .u8 6]
noncomputable def zeG:Array Value:=#[.string ⟨#[115,112,97,119,110]⟩,.int .u64 0,.int .u64 1,.string ⟨#[114,101,97,100,121]⟩,.int .u64 0,.int .u64 1,.string ⟨#[100,105,115,112,97,116,99,104]⟩,.int .u64 1,.int .u64 2,.string ⟨#[121,105,101,108,100]⟩,.int .u64 2,.int .u64 1,.string ⟨#[98,108,111,99,107]⟩,.int .u64 2,.int .u64 3,.string ⟨#[115,108,101,101,112]⟩,.int .u64 2,.int .u64 4,.string ⟨#[119,97,105,116]⟩,.int .u64 2,.int .u64 5,.string ⟨#[101,120,105,116]⟩,.int .u64 2,.int .u64 6]
noncomputable def zez:Array Value:=#[.string ⟨#[101,120,101,99]⟩,.int .i64 0,.string ⟨#[115,99,104,101,100]⟩,.int .i64 0,.string ⟨#[111,110,101]⟩,.int .i64 1,.string ⟨#[108,111,99,97,108]⟩,.int .i64 2,.string ⟨#[103,108,111,98,97,108]⟩,.int .i64 1,.string ⟨#[115,112,105,110,117,112]⟩,.int .i64 0,.string ⟨#[115,116,101,97,108]⟩,.int .i64 3,.string ⟨#[114,101,108,101,97,115,101]⟩,.int .i64 1,.string ⟨#[100,114,111,112]⟩,.int .i64 0,.string ⟨#[108,111,111,107]⟩,.int .i64 4,.string ⟨#[108,111,111,107,103,108,111,98,97,108]⟩,.int .i64 1,.string ⟨#[114,101,116,97,107,101]⟩,.int .i64 1,.string ⟨#[115,112,105,110,98,97,99,107]⟩,.int .i64 0,.string ⟨#[115,116,111,112]⟩,.int .i64 1,.string ⟨#[99,104,101,99,107]⟩,.int .i64 5,.string ⟨#[117,110,112,111,108,108]⟩,.int .i64 1,.string ⟨#[115,108,101,101,112]⟩,.int .i64 0,.string ⟨#[112,117,116,114,101,115,116]⟩,.int .i64 2,.string ⟨#[112,117,116,111,118,101,114]⟩,.int .i64 1,.string ⟨#[117,110,115,112,105,110]⟩,.int .i64 0,.string ⟨#[100,105,115,112,97,116,99,104]⟩,.int .i64 0,.string ⟨#[108,111,97,100]⟩,.int .i64 0,.string ⟨#[99,108,97,105,109]⟩,.int .i64 0,.string ⟨#[102,105,110,100]⟩,.int .i64 1,.string ⟨#[119,97,107,101]⟩,.int .i64 0,.string ⟨#[100,101,108,105,118,101,114]⟩,.int .i64 5,.string ⟨#[109,97,114,107]⟩,.int .i64 0,.string ⟨#[112,117,116,111,110,101]⟩,.int .i64 1,.string ⟨#[112,117,116,110,101,120,116]⟩,.int .i64 2,.string ⟨#[112,97,114,107]⟩,.int .i64 5,.string ⟨#[97,119,97,105,116]⟩,.int .i64 5]
noncomputable def nextRows (w:World):World:=(((((((w.alloc (.cells #[.int .u64 1] 69)).alloc (.cells #[.int .u64 2] 69)).alloc (.cells #[.int .u64 1,.int .u64 3,.int .u64 4,.int .u64 5,.int .u64 6] 69)).alloc (.cells #[.int .u64 1] 69)).alloc (.cells #[.int .u64 1] 69)).alloc (.cells #[.int .u64 1] 69)).alloc (.cells #[] 69))
noncomputable def zeC (n:Nat):Array Value:=#[.slice (some ⟨n+0,0,none⟩) 1 1,.slice (some ⟨n+1,0,none⟩) 1 1,.slice (some ⟨n+2,0,none⟩) 5 5,.slice (some ⟨n+3,0,none⟩) 1 1,.slice (some ⟨n+4,0,none⟩) 1 1,.slice (some ⟨n+5,0,none⟩) 1 1,.slice (some ⟨n+6,0,none⟩) 0 0]
noncomputable def zeQ (os:Os):World :=
 World.lay (World.lay (World.lay (World.lay (nextRows (World.holding Tryz.prog os ⟨#[],#[],[]⟩)) 0 (zeC (World.holding Tryz.prog os ⟨#[],#[],[]⟩).heap.size)) 1 zeG) 2 zez) 3 zew
end Go.Proofs.YtlmmjgekolpekaaGreatDoor
namespace Go.Proofs.YtlmmjgekolpekaaGreatDoor
open Go Go.RowKit Hst Go.Proofs Go.WideShapes Go.Deep
structure EvCells (w:World) (b o:Nat) (l:List Hst.Ev):Prop where
 lt:b<w.heap.size
 ck:∀ j e,l[j]?=some e→w.cell? ⟨b,o+j*5,none⟩=some (.int .i64 e.kind)
 cg:∀ j e,l[j]?=some e→w.cell? ⟨b,o+j*5+1,none⟩=some (.int .i64 e.g)
 cm:∀ j e,l[j]?=some e→w.cell? ⟨b,o+j*5+2,none⟩=some (.int .i64 e.m)
 cp:∀ j e,l[j]?=some e→w.cell? ⟨b,o+j*5+3,none⟩=some (.int .i64 e.p)
 cv:∀ j e,l[j]?=some e→w.cell? ⟨b,o+j*5+4,none⟩=some (.int .i64 e.value)
theorem EvCells.below {w w':World} {b o:Nat} {l:List Hst.Ev} (h:EvCells w b o l) {B:Nat} (hB:b<B) (hb:Below B w w'):EvCells w' b o l where
 lt:=Nat.lt_of_lt_of_le h.lt hb.size
 ck j e he:=(below_cell hb hB).trans (h.ck j e he)
 cg j e he:=(below_cell hb hB).trans (h.cg j e he)
 cm j e he:=(below_cell hb hB).trans (h.cm j e he)
 cp j e he:=(below_cell hb hB).trans (h.cp j e he)
 cv j e he:=(below_cell hb hB).trans (h.cv j e he)
theorem zaW {W:World} {g:Nat} {e:TypeId} {cur:Array Value} {xs:List Value} {n:Nat} (hg:W.heap[g]?=some (.cells cur e (0,0))) (htk:cur.toList.take n=xs) (j:Nat) (u:Value) (hu:xs[j]?=some u):W.cell? ⟨g,j,none⟩=some u:=by
 rw [zaa hg,← Array.getElem?_toList]
 rw [← htk,List.getElem?_take] at hu
 split at hu
 ·exact hu
 ·cases hu
def EvArg (w:World) (v:Value) (l:List Hst.Ev):Prop :=
 (v=.slice none 0 0∧l=[])∨(∃ a c,v=.slice (some a) 0 c∧l=[])∨∃ b o c,v=.slice (some ⟨b,o,none⟩) l.length c∧EvCells w b o l
theorem EvArg.below {w w':World} {v:Value} {l:List Hst.Ev} (h:EvArg w v l) (hb:Below w.heap.size w w'):EvArg w' v l:=by
 rcases h with h | h | ⟨b,o,c,rfl,h⟩
 ·exact .inl h
 ·exact .inr (.inl h)
 ·exact .inr (.inr ⟨b,o,c,rfl,h.below h.lt hb⟩)
def i64I (x:Int):Prop:=-9223372036854775808≤x∧x≤9223372036854775807
theorem zbU (l:List Hst.Ev) (j:Nat) (e:Hst.Ev) (h:l[j]?=some e):(encEs l)[j*5]?=some (.int .i64 e.kind)∧(encEs l)[j*5+1]?=some (.int .i64 e.g)∧(encEs l)[j*5+2]?=some (.int .i64 e.m)∧(encEs l)[j*5+3]?=some (.int .i64 e.p)∧(encEs l)[j*5+4]?=some (.int .i64 e.value):=by
 induction l generalizing j with
 | nil=>cases h
 | cons a r ih =>
  cases j with
  | zero=>simp at h;subst h;simp [encEs,encE]
  | succ j =>
   have:=ih j (by simpa using h)
   have e5:∀ k,(encEs (a :: r))[(j+1)*5+k]?=(encEs r)[j*5+k]?:=by
    intro k
    rw [show (j+1)*5+k=j*5+k+5 by omega]
    rfl
   exact ⟨(e5 0).trans this.1,(e5 1).trans this.2.1,(e5 2).trans this.2.2.1,(e5 3).trans this.2.2.2.1,(e5 4).trans this.2.2.2.2⟩
theorem EvCells.news {w:World} {b o:Nat} {l:List Hst.Ev} (h:EvCells w b o l) (j:Nat) (u:Value) (hu:(encEs l)[j]?=some u):w.cell? ((⟨b,o,none⟩:Addr).add j)=some u:=by
 have hj:j<l.length*5:=by rw [← zdB];exact (List.getElem?_eq_some_iff.1 hu).1
 have hq:j / 5<l.length:=by omega
 obtain ⟨e,he⟩:∃ e,l[j / 5]?=some e:=⟨_,List.getElem?_eq_getElem hq⟩
 obtain ⟨f0,f1,f2,f3,f4⟩:=zbU l (j / 5) e he
 have hm:j % 5<5:=Nat.mod_lt _ (by omega)
 have ej:j=j / 5*5+j % 5:=by omega
 rw [show (⟨b,o,none⟩:Addr).add j=⟨b,o+j,none⟩ by simp [Addr.add]]
 generalize hx:j / 5=x at *
 generalize hy:j % 5=y at *
 rw [ej,← Nat.add_assoc]
 rw [ej] at hu
 match y,hm with
 | 0,_=>rw [← hu];exact (h.ck x e he).trans f0.symm
 | 1,_=>rw [← hu];exact (h.cg x e he).trans f1.symm
 | 2,_=>rw [← hu];exact (h.cm x e he).trans f2.symm
 | 3,_=>rw [← hu];exact (h.cp x e he).trans f3.symm
 | 4,_=>rw [← hu];exact (h.cv x e he).trans f4.symm
theorem own_arg {w:World} {B:Nat} {v:Value} {l:List Hst.Ev} (h:w.ownsRow B 39 5 v l.length (encEs l)):EvArg w v l:=by
 rcases h.2 with ⟨rfl,h0⟩ | ⟨g,cap,cur,rfl,hbg,hg,hnc,hcm,hcs,htk⟩
 ·exact .inl ⟨rfl,List.length_eq_zero_iff.1 h0⟩
 ·refine .inr (.inr ⟨g,0,cap,rfl,zaB hg,?_,?_,?_,?_,?_⟩)
  ·intro j e he;rw [Nat.zero_add];exact zaW hg htk _ _ (zbU l j e he).1
  ·intro j e he;rw [Nat.zero_add];exact zaW hg htk _ _ (zbU l j e he).2.1
  ·intro j e he;rw [Nat.zero_add];exact zaW hg htk _ _ (zbU l j e he).2.2.1
  ·intro j e he;rw [Nat.zero_add];exact zaW hg htk _ _ (zbU l j e he).2.2.2.1
  ·intro j e he;rw [Nat.zero_add];exact zaW hg htk _ _ (zbU l j e he).2.2.2.2
theorem five {cs:List Value} {a b c d e:Value} (hl:cs.length=5) (h0:(cs.drop 0).take 1=[a]) (h1:(cs.drop 1).take 1=[b]) (h2:(cs.drop 2).take 1=[c]) (h3:(cs.drop 3).take 1=[d]) (h4:(cs.drop 4).take 1=[e]):cs=[a,b,c,d,e]:=by
 match cs,hl with
 | [x0,x1,x2,x3,x4],_=>simp at h0 h1 h2 h3 h4;simp [h0,h1,h2,h3,h4]
theorem kids:Kids Tryz.prog (·<Tryz.prog.types.size):=kids_rows (by kernel_rfl) (by kernel_rfl)
theorem full:∀ t e,t<Tryz.prog.types.size→Tryz.prog.underlying t=some (.slice e)→0<Tryz.prog.cellsOf e:=slices_full_of Tryz.prog (by kernel_rfl)
theorem zcu {H:Type} {enc:TypeId × Value→H} {W W':World} {base:Nat} {sp:Nat→Bool} {held:Bool}:∀ {ts:List TypeId} {vs:List Value} {ds:List (DataW H)} {ps:List MemPlace},
  DataW.TrodAll enc Tryz.prog W base sp held ts vs ds ps→(∀ p∈ps,W.sameAt W' p)→DataW.TrodAll enc Tryz.prog W' base sp held ts vs ds ps
 | [],[],[],_,h,_=>h
 | _ :: _,_ :: _,_ :: _,_,⟨p,q,⟨n,h1⟩,h2,e⟩,hs =>
  ⟨p,q,⟨n,DataW.trod_carry n _ _ _ h1 (fun x hx=>hs x (by rw [e];exact List.mem_append_left _ hx))⟩,zcu h2 (fun x hx=>hs x (by rw [e];exact List.mem_append_right _ hx)),e⟩
end Go.Proofs.YtlmmjgekolpekaaGreatDoor
namespace Go.Proofs.YtlmmjgekolpekaaGreatDoor
open Go Go.RowKit Hst Go.Proofs Go.WideShapes Go.Deep
theorem u8_of {n:Int} (h:(Lit.int .u8 n).wf=true):0≤n∧n≤255:=by
 simp only [Lit.wf,Bool.and_eq_true,decide_eq_true_eq] at h
 exact ⟨Int.le_trans (by decide) h.1,Int.le_trans h.2 (by decide)⟩
def encSt (e:Hst.Stp):List Value:=[.int .u8 (e.kind:Nat),.int .u8 (e.act:Nat),.int .i64 e.a,.int .i64 e.x,.int .i64 e.d]
def zel (l:List Hst.Stp):List Value:=l.flatMap encSt
def st64 (e:Hst.Stp):Prop:=e.kind≤255∧e.act≤255∧i64I e.a∧i64I e.x∧i64I e.d
def inSt (l:List Hst.Stp):Prop:=∀ e∈l,st64 e
structure StCells (w:World) (b o:Nat) (l:List Hst.Stp):Prop where
 lt:b<w.heap.size
 ck:∀ j e,l[j]?=some e→w.cell? ⟨b,o+j*5,none⟩=some (.int .u8 (e.kind:Nat))
 cg:∀ j e,l[j]?=some e→w.cell? ⟨b,o+j*5+1,none⟩=some (.int .u8 (e.act:Nat))
 cm:∀ j e,l[j]?=some e→w.cell? ⟨b,o+j*5+2,none⟩=some (.int .i64 e.a)
 cp:∀ j e,l[j]?=some e→w.cell? ⟨b,o+j*5+3,none⟩=some (.int .i64 e.x)
 cv:∀ j e,l[j]?=some e→w.cell? ⟨b,o+j*5+4,none⟩=some (.int .i64 e.d)
theorem StCells.below {w w':World} {b o:Nat} {l:List Hst.Stp} (h:StCells w b o l) {B:Nat} (hB:b<B) (hb:Below B w w'):StCells w' b o l where
 lt:=Nat.lt_of_lt_of_le h.lt hb.size
 ck j e he:=(below_cell hb hB).trans (h.ck j e he)
 cg j e he:=(below_cell hb hB).trans (h.cg j e he)
 cm j e he:=(below_cell hb hB).trans (h.cm j e he)
 cp j e he:=(below_cell hb hB).trans (h.cp j e he)
 cv j e he:=(below_cell hb hB).trans (h.cv j e he)
def StArg (w:World) (v:Value) (l:List Hst.Stp):Prop :=
 (v=.slice none 0 0∧l=[])∨(∃ a c,v=.slice (some a) 0 c∧l=[])∨∃ b o c,v=.slice (some ⟨b,o,none⟩) l.length c∧StCells w b o l
theorem StArg.below {w w':World} {v:Value} {l:List Hst.Stp} (h:StArg w v l) (hb:Below w.heap.size w w'):StArg w' v l:=by
 rcases h with h | h | ⟨b,o,c,rfl,h⟩
 ·exact .inl h
 ·exact .inr (.inl h)
 ·exact .inr (.inr ⟨b,o,c,rfl,h.below h.lt hb⟩)
theorem zd8 (l:List Hst.Stp):(zel l).length=l.length*5:=by
 induction l with
 | nil=>rfl
 | cons e t ih=>simp [zel,encSt] at ih ⊢;omega
theorem zbm (l:List Hst.Stp) (j:Nat) (e:Hst.Stp) (h:l[j]?=some e):(zel l)[j*5]?=some (.int .u8 (e.kind:Nat))∧(zel l)[j*5+1]?=some (.int .u8 (e.act:Nat))∧(zel l)[j*5+2]?=some (.int .i64 e.a)∧(zel l)[j*5+3]?=some (.int .i64 e.x)∧(zel l)[j*5+4]?=some (.int .i64 e.d):=by
 induction l generalizing j with
 | nil=>cases h
 | cons a r ih =>
  cases j with
  | zero=>simp at h;subst h;simp [zel,encSt]
  | succ j =>
   have:=ih j (by simpa using h)
   have e5:∀ k,(zel (a :: r))[(j+1)*5+k]?=(zel r)[j*5+k]?:=by
    intro k
    rw [show (j+1)*5+k=j*5+k+5 by omega]
    rfl
   exact ⟨(e5 0).trans this.1,(e5 1).trans this.2.1,(e5 2).trans this.2.2.1,(e5 3).trans this.2.2.2.1,(e5 4).trans this.2.2.2.2⟩
theorem StCells.news {w:World} {b o:Nat} {l:List Hst.Stp} (h:StCells w b o l) (j:Nat) (u:Value) (hu:(zel l)[j]?=some u):w.cell? ((⟨b,o,none⟩:Addr).add j)=some u:=by
 have hj:j<l.length*5:=by rw [← zd8];exact (List.getElem?_eq_some_iff.1 hu).1
 have hq:j / 5<l.length:=by omega
 obtain ⟨e,he⟩:∃ e,l[j / 5]?=some e:=⟨_,List.getElem?_eq_getElem hq⟩
 obtain ⟨f0,f1,f2,f3,f4⟩:=zbm l (j / 5) e he
 have hm:j % 5<5:=Nat.mod_lt _ (by omega)
 have ej:j=j / 5*5+j % 5:=by omega
 rw [show (⟨b,o,none⟩:Addr).add j=⟨b,o+j,none⟩ by simp [Addr.add]]
 generalize hx:j / 5=x at *
 generalize hy:j % 5=y at *
 rw [ej,← Nat.add_assoc]
 rw [ej] at hu
 match y,hm with
 | 0,_=>rw [← hu];exact (h.ck x e he).trans f0.symm
 | 1,_=>rw [← hu];exact (h.cg x e he).trans f1.symm
 | 2,_=>rw [← hu];exact (h.cm x e he).trans f2.symm
 | 3,_=>rw [← hu];exact (h.cp x e he).trans f3.symm
 | 4,_=>rw [← hu];exact (h.cv x e he).trans f4.symm
theorem zdc {w:World} {v:Value} {l:List Hst.Stp} (h:StArg w v l):∃ a c,v=.slice a l.length c∧(l=[]∨∃ b o,a=some ⟨b,o,none⟩∧StCells w b o l):=by
 rcases h with ⟨rfl,rfl⟩ | ⟨a,c,rfl,rfl⟩ | ⟨b,o,c,rfl,h⟩
 ·exact ⟨none,0,rfl,.inl rfl⟩
 ·exact ⟨some a,c,rfl,.inl rfl⟩
 ·exact ⟨_,c,rfl,.inr ⟨b,o,rfl,h⟩⟩
theorem cells_st:Tryz.prog.cellsOf 94=5:=by kernel_rfl
theorem open_st {H:Type} {enc:TypeId × Value→H} {W:World} {fuel:Nat} {cs:List Value} {x:DataW H × List MemPlace} (h:DataW.trod enc Tryz.prog W 0 (fun _=>true) true fuel 94 cs=some x) :
  ∃ e:Hst.Stp,cs=[.int .u8 (e.kind:Nat),.int .u8 (e.act:Nat),.int .i64 e.a,.int .i64 e.x,.int .i64 e.d]∧st64 e:=by
 obtain ⟨xs,n,_,_,hl,hxl,hf⟩:=DataW.trod_struct Tryz.underlying94 h
 rw [cells_st] at hl
 match xs,hxl with
 | [y0,y1,y2,y3,y4],_ =>
  have h0:=hf 0 _ rfl
  have h1:=hf 1 _ rfl
  have h2:=hf 2 _ rfl
  have h3:=hf 3 _ rfl
  have h4:=hf 4 _ rfl
  have c1:Tryz.prog.cellsOf 5=1:=by kernel_rfl
  have c2:Tryz.prog.cellsOf 3=1:=by kernel_rfl
  have c3:Tryz.prog.cellsOf 2=1:=by kernel_rfl
  simp only [List.getElem_toArray,List.getElem_cons_zero,List.getElem_cons_succ] at h0 h1 h2 h3 h4
  rw [c1] at h0 h1
  rw [c2] at h2 h3
  rw [c3] at h4
  obtain ⟨k,e0,_,hk⟩:=DataW.trod_int Tryz.underlying5 h0
  obtain ⟨g,e1,_,hg⟩:=DataW.trod_int Tryz.underlying5 h1
  obtain ⟨m,e2,_,hm⟩:=DataW.trod_int Tryz.underlying3 h2
  obtain ⟨p,e3,_,hp⟩:=DataW.trod_int Tryz.underlying3 h3
  obtain ⟨v,e4,_,hv⟩:=DataW.trod_int Tryz.underlying2 h4
  have hk2:=u8_of hk
  have hg2:=u8_of hg
  obtain ⟨k',rfl⟩:∃ k':Nat,k=k':=⟨k.toNat,by omega⟩
  obtain ⟨g',rfl⟩:∃ g':Nat,g=g':=⟨g.toNat,by omega⟩
  refine ⟨⟨k',g',m,p,v⟩,?_,⟨by show k'≤255;omega,by show g'≤255;omega,zcR hm,zcR hp,zcR hv⟩⟩
  exact five hl e0 e1 e2 e3 e4
theorem open_sts {H:Type} {enc:TypeId × Value→H} {W:World} {base:Nat} {v:Value} {d:DataW H} {p:List MemPlace} (hval:Value.okWide Tryz.prog W .any base 22 v)
  (h:DataW.Trod enc Tryz.prog W 0 (fun _=>true) true 22 v d p):∃ (pa:Option Addr) (ca:Nat) (l:List Hst.Stp),v=.slice pa l.length ca∧StArg W (.slice pa l.length ca) l∧inSt l:=by
 obtain ⟨a0,len,cap,rfl⟩:=okWide_slice Tryz.underlying22 hval
 obtain ⟨fuel,hf⟩:=h
 rcases open_slice Tryz.underlying22 hf with ⟨hcs,_⟩ | ⟨a,len',cap',m,n,D,Pl,hcs,_,hl,_,hmm,_,hi⟩
 ·simp [Value.cells] at hcs
  obtain ⟨rfl,rfl,rfl⟩:=hcs
  exact ⟨none,0,[],rfl,.inl ⟨rfl,rfl⟩,fun e he=>by cases he⟩
 ·simp [Value.cells] at hcs
  obtain ⟨rfl,rfl,rfl⟩:=hcs
  have hm:m=cap:=by simpa using hmm
  subst hm
  rw [cells_st] at hi
  have hj:∀ j:Nat,∃ e:Hst.Stp,j<m→(∀ i,i<5→W.cell? (a.add (j*5+i))=[Value.int .u8 (e.kind:Nat),.int .u8 (e.act:Nat),.int .i64 e.a,.int .i64 e.x,.int .i64 e.d][i]?)∧st64 e:=by
   intro j
   by_cases hjm:j<m
   ·obtain ⟨cs',hc,ht⟩:=hi j hjm
    obtain ⟨e,he,hv⟩:=open_st ht
    obtain ⟨_,hcl,hat⟩:=World.cells?_some hc
    refine ⟨e,fun _=>⟨fun i hi5=>?_,hv⟩⟩
    rw [← Go.Deep.add_add,hat i hi5,he]
   ·exact ⟨⟨0,0,0,0,0⟩,fun h=>absurd h hjm⟩
  obtain ⟨f,hf2⟩:=Classical.axiomOfChoice hj
  cases len with
  | zero=>exact ⟨some a,m,[],rfl,.inr (.inl ⟨a,m,rfl,rfl⟩),fun e he=>by cases he⟩
  | succ len =>
   have hz:W.cell? a=some (.int .u8 ((f 0).kind:Nat)):=(hf2 0 (by omega)).1 0 (by omega)
   obtain ea:=zdd hz
   have hlt:a.block<W.heap.size:=World.block_lt_of_cell? W _ hz
   have hadd:∀ k,a.add k=⟨a.block,a.off+k,none⟩:=by
    intro k
    rw [ea]
    simp only [Addr.add]
    split
    ·rename_i h0;subst h0;rfl
    ·rfl
   have hlen:((List.range (len+1)).map f).length=len+1:=by simp
   refine ⟨some a,m,(List.range (len+1)).map f,by rw [hlen],?_,?_⟩
   ·rw [hlen]
    have hget:∀ (j:Nat) (e:Hst.Stp),((List.range (len+1)).map f)[j]?=some e→j<m∧e=f j:=by
     intro j e he
     rw [List.getElem?_map,Option.map_eq_some_iff] at he
     obtain ⟨x,hx,rfl⟩:=he
     have hx2:=List.getElem?_eq_some_iff.1 hx
     obtain ⟨h1,h2⟩:=hx2
     simp at h1 h2
     subst h2
     exact ⟨by omega,rfl⟩
    refine .inr (.inr ⟨a.block,a.off,m,by rw [hlen,← ea],⟨hlt,?_,?_,?_,?_,?_⟩⟩)
    all_goals
     intro j e he
     obtain ⟨h1,rfl⟩:=hget j e he
     have q:=(hf2 j h1).1
    ·have:=q 0 (by omega);rw [hadd] at this;exact this
    ·have:=q 1 (by omega);rw [hadd] at this;exact this
    ·have:=q 2 (by omega);rw [hadd] at this;exact this
    ·have:=q 3 (by omega);rw [hadd] at this;exact this
    ·have:=q 4 (by omega);rw [hadd] at this;exact this
   ·intro e he
    rw [List.mem_map] at he
    obtain ⟨j,hjr,rfl⟩:=he
    exact (hf2 j (by have:=List.mem_range.1 hjr;omega)).2
theorem run_take {l:List Hst.Stp} {j:Nat} {s:Hst.Stp} (h:l[j]?=some s) (p:Wd) :
  p.run (l.take (j+1))=(((p.run (l.take j)).1.step s).1,if ((p.run (l.take j)).1.step s).2 then (p.run (l.take j)).2+1 else (p.run (l.take j)).2):=by
 unfold Wd.run
 rw [List.take_add_one,h,List.foldl_append]
 rfl
theorem run_le (p:Wd):∀ (l:List Hst.Stp),(p.run l).2≤l.length:=by
 have:∀ (l:List Hst.Stp) (x:Wd × Nat),(l.foldl (fun (x,n) s=>let (y,b):=x.step s;(y,if b then n+1 else n)) x).2≤x.2+l.length:=by
  intro l
  induction l with
  | nil=>intro x;simp
  | cons s t ih =>
   intro x
   rw [List.foldl_cons]
   refine Nat.le_trans (ih _) ?_
   show (if (x.1.step s).2=true then x.2+1 else x.2)+t.length≤x.2+(t.length+1)
   split <;> omega
 intro l
 have:=this l (p,0)
 simpa [Wd.run] using this
theorem run_inv {n:Nat} {p:Wd} (h:Inv n p) (l:List Hst.Stp) (hn:n+2*l.length<2^61) (hin:inSt l):Inv (n+2*l.length) (p.run l).1 :=
 inv_run l n 0 p h hn fun s hs=>(hin s hs).2.2.2.2
section
variable {F:Fix} {V:Vol} {ow0 ow:Nat→Nat} {w0 w:World} {p:Wd}
theorem On.five (h:On F V ow0 w0 ow w p) {o:Obj} {b:Nat} (hb:b=w.heap.size) (a0 a1 a2 a3 a4:Value) :
  On F V ow0 w0 (grow ow w.heap.size 0) (((((((w.alloc o).setCell ⟨b,0,none⟩ a0).setCell ⟨b,1,none⟩ a1).setCell ⟨b,2,none⟩ a2).setCell ⟨b,3,none⟩ a3)).setCell ⟨b,4,none⟩ a4) p:=by
 have e:∀ k,b<k→grow ow w.heap.size 0 b=0:=fun k _=>grow_ge (by omega)
 have hle:=h.st.size
 exact (((((h.alloc o).other (a:=⟨b,0,none⟩) (by simp;omega) (e _) a0).other (a:=⟨b,1,none⟩) (by simp;omega) (e _) a1).other (a:=⟨b,2,none⟩) (by simp;omega) (e _) a2).other (a:=⟨b,3,none⟩) (by simp;omega) (e _) a3).other (a:=⟨b,4,none⟩) (by simp;omega) (e _) a4
end
theorem run_any (N n:Nat) {F:Fix} {V:Vol} {ow:Nat→Nat} {w:World} {p:Wd} (hi:Inv n p) (l:List Hst.Stp) (hn:n+2*l.length<2^31) (hin:inSt l) (h:WAt F V ow w p) (E:Env N ow w) (v:Value) (hA:StArg w v l)
  (hv:∀ a n c,v=.slice (some a) n c→l≠[]→ow a.block=0) :
  Calls Tryz.prog 17 #[.pointer (some ⟨F.W,0,none⟩),v] w fun e w'=>e=.returned (.int .i64 ((p.run l).2:Nat))∧∃ V' ow',On F V' ow w ow' w' (p.run l).1:=by
 obtain ⟨a,c,rfl,hE⟩:=zdc hA
 clear hA
 have H:=Lib.hid h
 have HE:=Lib.hid E
 have HI:=Lib.hid hi
 clear h E hi
 go_enter Tryz.func17,Tryz.ntmps17
 go_wp2
 go_loopw [5,10] (fun o i wr=>∃ (j:Nat) (V':Vol) (ow':Nat→Nat),i=.int .i64 (j:Int)∧j≤l.length∧o=.int .i64 ((p.run (l.take j)).2:Nat)∧On F V' ow w ow' wr (p.run (l.take j)).1) (fun _ i _=>l.length - (intOf i).toNat)
 case atStart=>exact ⟨0,V,ow,rfl,by omega,rfl,On.start H.out⟩
 case round =>
  obtain ⟨j,V1,ow1,rfl,hj,rfl,h1⟩:=hrel
  by_cases hp:j<l.length
  ·rcases hE with rfl | ⟨b,o,rfl,hE⟩
   ·simp at hp
   obtain ⟨e,he⟩:∃ e,l[j]?=some e:=⟨_,List.getElem?_eq_getElem hp⟩
   have hb0:ow b=0:=hv ⟨b,o,none⟩ _ _ rfl (by intro e0;rw [e0] at hp;simp at hp)
   have c0:=h1.keeps hb0 (hE.ck j e he)
   have c1:=h1.keeps hb0 (hE.cg j e he)
   have c2:=h1.keeps hb0 (hE.cm j e he)
   have c3:=h1.keeps hb0 (hE.cp j e he)
   have c4:=h1.keeps hb0 (hE.cv j e he)
   have hlt:=World.block_lt_of_cell? wr _ c0
   simp only at hlt
   have hpi:(j:Int)<l.length:=by omega
   have ht:=run_take he p
   have hil:inSt (l.take j):=fun x hx=>hin x (List.mem_of_mem_take hx)
   have hlen:(l.take j).length=j:=by rw [List.length_take];omega
   have hI:=run_inv HI.out (l.take j) (by omega) hil
   rw [hlen] at hI
   have hst:=step_ok N hI (by omega) e ((hin e (List.mem_of_getElem? he)).2.2.2.2)
   have hrl:=run_le p (l.take j)
   rw [hlen] at hrl
   have hEn:=HE.out.on h1
   generalize p.run (l.take j)=q at *
   obtain ⟨q,m⟩:=q
   simp only at ht hst hrl h1 hI
   have wm:IntKind.i64.wrap ((m:Int)+1)=(m:Int)+1:=IntWalk.i64_in _ (by omega)
   unfold StepDone stV zeD at hst
   have h2:=h1.alloc (.cells #[.int .u8 (e.kind:Nat),.int .u8 (e.act:Nat),.int .i64 e.a,.int .i64 e.x,.int .i64 e.d] 94)
   have hcall:=hst F V1 _ _ h2.at_ (HE.out.on h2)
   cases hsb:(q.step e).2 with
   | true =>
    rw [hsb] at ht hcall
    have HT:=Lib.hid ht
    have HC:=Lib.hid hcall
    have H2:=Lib.hid h2
    clear ht hst h1 hEn hI he hE hin hil hcall h2
    go_wp2_with fail
    refine HC.out.mono ?_
    rintro x w2 ⟨rfl,V2,ow2,h3⟩
    have H3:=Lib.hid (H2.out.then_ h3)
    clear h3
    go_wp2
    go_roundw
    case rel=>exact ⟨j+1,V2,ow2,by go_num,hp,by rw [HT.out];go_num,by rw [HT.out];exact H3.out⟩
    case measure=>simp [intOf];omega
   | false =>
    rw [hsb] at ht hcall
    have HT:=Lib.hid ht
    have HC:=Lib.hid hcall
    have H2:=Lib.hid h2
    clear ht hst h1 hEn hI he hE hin hil hcall h2
    go_wp2_with fail
    refine HC.out.mono ?_
    rintro x w2 ⟨rfl,V2,ow2,h3⟩
    have H3:=Lib.hid (H2.out.then_ h3)
    clear h3
    go_wp2
    go_roundw
    case rel=>exact ⟨j+1,V2,ow2,by go_num,hp,by rw [HT.out];rfl,by rw [HT.out];exact H3.out⟩
    case measure=>simp [intOf];omega
  ·obtain rfl:j=l.length:=by omega
   rw [List.take_length] at h1 ⊢
   have hpi:¬ (l.length:Int)<l.length:=by omega
   have H1:=Lib.hid h1
   clear h1
   go_wp2
   go_returns
   exact ⟨rfl,V1,ow1,H1.out⟩
def sP (p:Nat):Nat:=1+p % 4
def sM (p m:Nat):Nat:=1+p % 4+m % 3
def sG (g:Nat):Nat:=1+g % 12
theorem s_dims (p m g:Nat):dims (sP p) (sM p m) (sG g):=by unfold dims sP sM sG;omega
theorem small_any (p m g:Nat) (hp:p<256) (hm:m<256) (hg:g<256) (w:World) :
  Calls Tryz.prog 73 #[.int .u8 p,.int .u8 m,.int .u8 g] w fun e w'=>e=.returned (.agg #[.int .i64 (sP p:Nat),.int .i64 (sM p m:Nat),.int .i64 (sG g:Nat)])∧Below w.heap.size w w':=by
 have t1:(p:Int).tmod 4=((p % 4:Nat):Int):=rfl
 have t2:(m:Int).tmod 3=((m % 3:Nat):Int):=rfl
 have t3:(g:Int).tmod 12=((g % 12:Nat):Int):=rfl
 have u1:IntKind.u8.wrap ((p % 4:Nat):Int)=((p % 4:Nat):Int):=IntWalk.u8_in _ (by omega)
 have u2:IntKind.u8.wrap ((m % 3:Nat):Int)=((m % 3:Nat):Int):=IntWalk.u8_in _ (by omega)
 have u3:IntKind.u8.wrap ((g % 12:Nat):Int)=((g % 12:Nat):Int):=IntWalk.u8_in _ (by omega)
 have w1:IntKind.i64.wrap ((p % 4:Nat):Int)=((p % 4:Nat):Int):=IntWalk.i64_in _ (by omega)
 have w2:IntKind.i64.wrap ((m % 3:Nat):Int)=((m % 3:Nat):Int):=IntWalk.i64_in _ (by omega)
 have w3:IntKind.i64.wrap ((g % 12:Nat):Int)=((g % 12:Nat):Int):=IntWalk.i64_in _ (by omega)
 have x1:IntKind.i64.wrap (1+((p % 4:Nat):Int))=1+((p % 4:Nat):Int):=IntWalk.i64_in _ (by omega)
 have x2:IntKind.i64.wrap (1+((p % 4:Nat):Int)+((m % 3:Nat):Int))=1+((p % 4:Nat):Int)+((m % 3:Nat):Int):=IntWalk.i64_in _ (by omega)
 have x3:IntKind.i64.wrap (1+((g % 12:Nat):Int))=1+((g % 12:Nat):Int):=IntWalk.i64_in _ (by omega)
 have e1:((sP p:Nat):Int)=1+((p % 4:Nat):Int):=by unfold sP;omega
 have e2:((sM p m:Nat):Int)=1+((p % 4:Nat):Int)+((m % 3:Nat):Int):=by unfold sM;omega
 have e3:((sG g:Nat):Int)=1+((g % 12:Nat):Int):=by unfold sG;omega
 rw [e1,e2,e3]
 clear e1 e2 e3
 go_enter Tryz.func73,Tryz.ntmps73
 go_wp2
 go_returns
 exact ⟨rfl,by go_grown⟩
theorem beginW_any (N p m g:Nat) (hp:p<256) (hm:m<256) (hg:g<256) (w:World) (T:Tabs N w) :
  Calls Tryz.prog 16 #[.int .u8 p,.int .u8 m,.int .u8 g] w fun e w'=>∃ F V ow,e=.returned (.pointer (some ⟨F.W,0,none⟩))∧WAt F V ow w' (Wd.new (sP p) (sM p m) (sG g))∧(∀ b,b<w.heap.size→ow b=0)∧Below w.heap.size w w':=by
 have hs:=small_any p m g hp hm hg w
 have hn:=fun w1 T1=>new_ok (sP p) (sM p m) (sG g) N (s_dims p m g) w1 T1
 have HT:=Lib.hid T
 have HS:=Lib.hid hs
 have HN:=Lib.hid hn
 clear hs hn T
 go_enter Tryz.func16,Tryz.ntmps16
 go_wp2_with fail
 refine HS.out.mono ?_
 rintro e w1 ⟨rfl,b1⟩
 go_wp2_with fail
 refine (HN.out w1 (HT.out.below (fun b hb=>b1.block b (Nat.lt_of_lt_of_le hb HT.out.le)) (Nat.le_trans HT.out.le b1.size))).mono ?_
 rintro e w2 ⟨F,V,ow,rfl,h,h0,b2⟩
 go_wp2
 go_returns
 exact ⟨F,V,ow,rfl,h,fun b hb=>h0 b (Nat.lt_of_lt_of_le hb b1.size),b1.trans (b2.mono b1.size)⟩
structure Two (F G:Fix) (V U:Vol) (ow up:Nat→Nat) (w:World) (p q:Wd):Prop where
 x:WAt F V ow w p
 y:WAt G U up w q
 ap:∀ b,b<w.heap.size→ow b=0∨up b=0
section
variable {F G:Fix} {V V' U U':Vol} {ow ow' up up':Nat→Nat} {w w':World} {p p' q q':Wd}
theorem Two.left (h:Two F G V U ow up w p q) (k:On F V' ow w ow' w' p'):Two F G V' U ow' (grow up w.heap.size 0) w' p' q where
 x:=k.at_
 y:=h.y.same _ (fun _ hb=>grow_lt hb) ⟨k.st.size,fun b hb hx=>k.st.block b hb (by rcases h.ap b hb with e | e;exact e;exact absurd e hx)⟩
 ap b hb:=by
  by_cases hl:b<w.heap.size
  ·rw [k.st.own b hl,grow_lt hl];exact h.ap b hl
  ·exact .inr (grow_ge (by omega))
theorem Two.swap (h:Two F G V U ow up w p q):Two G F U V up ow w q p:=⟨h.y,h.x,fun b hb=>(h.ap b hb).symm⟩
theorem Two.right (h:Two F G V U ow up w p q) (k:On G U' up w up' w' q'):Two F G V U' (grow ow w.heap.size 0) up' w' p q':=(h.swap.left k).swap
theorem Two.below (h:Two F G V U ow up w p q) (b:Below w.heap.size w w'):Two F G V U (grow ow w.heap.size 0) (grow up w.heap.size 0) w' p q:=h.left ((On.start h.x).below b)
end
end Go.Proofs.YtlmmjgekolpekaaGreatDoor
namespace Hst
section
variable {n:Nat} {p:Wd} {i:Nat}
theorem tr_log {p':Wd} (t:Tr p i p'):∃ t,p'.log=p.log++t:=by
 cases t
 all_goals first
  | exact ⟨[],(List.append_nil _).symm⟩
  | exact ⟨_,rfl⟩
theorem log_step (h:Inv n p) (s:Stp) (hd : -9223372036854775808≤s.d∧s.d≤9223372036854775807):∃ t,(p.step s).1.log=p.log++t:=by
 have ht:∀ (q:Wd) (due:Bool),(q.tell due).log=q.log:=fun q due=>by
  unfold Wd.tell
  split
  ·unfold Wd.swap
   dsimp only
   split <;> rfl
  ·rfl
 unfold Wd.step
 split
 ·rcases pick_tr h s hd with e | ⟨i,hi,_,t⟩
  ·rw [e];exact ⟨[],(List.append_nil _).symm⟩
  ·exact tr_log t
 ·exact ⟨[],by simp only;rw [ht];exact (List.append_nil _).symm⟩
 ·split
  ·exact ⟨[],(List.append_nil _).symm⟩
  ·exact ⟨[],by simp only;rw [ht];exact (List.append_nil _).symm⟩
 ·exact ⟨[],(List.append_nil _).symm⟩
theorem log_run:∀ (l:List Stp) (n k:Nat) (p:Wd),Inv n p→n+2*l.length<2^61→(∀ s,s∈l → -9223372036854775808≤s.d∧s.d≤9223372036854775807) →
  ∃ t,(l.foldl (fun (x,n) s=>let (y,b):=x.step s;(y,if b then n+1 else n)) (p,k)).1.log=p.log++t
 | [],n,k,p,h,_,_=>⟨[],(List.append_nil _).symm⟩
 | s :: l,n,k,p,h,hn,hd=>by
  rw [run_cons]
  simp only [List.length_cons] at hn
  obtain ⟨t1,e1⟩:=log_step h s (hd s (by simp))
  obtain ⟨t2,e2⟩:=log_run l (n+2) (if (p.step s).2 then k+1 else k) (p.step s).1 (zcm h (by omega) s (hd s (by simp))) (by omega) (fun s hs=>hd s (by simp [hs]))
  exact ⟨t1++t2,by rw [e2,e1,List.append_assoc]⟩
end
end Hst
