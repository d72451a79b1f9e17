/- Parts of the proof. -/
import Derived.Test.YtlmmjgekolpekaaGreatDoorMPk14
import Derived.WalkSpells
set_option linter.unusedVariables false
set_option linter.unusedSimpArgs false
set_option linter.unusedSectionVars false
set_option maxRecDepth 100000
set_option maxHeartbeats 6400000
namespace Go.Proofs.YtlmmjgekolpekaaGreatDoor
open Go Go.RowKit Hst Go.Proofs
theorem zcg (w:World) (e:TypeId) (size:Nat):(w.alloc (.cells #[] e)).ownsRow w.heap.size e size (.slice (some ⟨w.heap.size,0,none⟩) 0 0) 0 [] :=
 ⟨by simp,.inr ⟨w.heap.size,0,#[],rfl,Nat.le_refl _,heap_alloc_new w _,Nat.le_refl _,by decide,by simp,by simp⟩⟩
theorem clone_u64 (ad:Addr) (n c:Nat) (news:List Value) (w:World) (hl:news.length=n*1) (hnews:∀ j u,news[j]?=some u→w.cell? (ad.add j)=some u) (h1:∀ u∈news,u.oneCell'=true) (hbig:n≤4294967296) :
  Calls Tryz.prog 130 #[.slice (some ad) n c] w fun e w'=>∃ v,e=.returned v∧w'.ownsRow w.heap.size 48 1 v n news∧Below w.heap.size w w':=by
 have hq:=fun w:World=>Lib.run_eql_slice_nil (P:=Tryz.prog) w 164 48 (some ad) n c 0 0 Tryz.underlying164
 obtain ⟨i0,hi,hz0,hz1,hz2⟩:=info_parts Tryz.infoU64
 have hO:=zcg w 48 1
 have Hn:=Lib.hid hnews
 have H1:=Lib.hid h1
 have Hl:=Lib.hid hl
 have HO:=Lib.hid hO
 clear hnews h1 hl hO
 go_enter Tryz.func130,Tryz.ntmps130
 go_wp2_with (first | (at_builtin;refine wpList_append_own _ rfl _ _ 164 rfl w.heap.size 48 i0 (.int .u64 0) 1 8 Tryz.underlying164 hi hz0 hz1 hz2 rfl (by decide) _ 0 [] rfl HO.out ad n c news rfl Hl.out (fun j u h=>cell_later (zab w _) (Hn.out j u h)) H1.out (by unfold maxLen;omega) (by omega) (by simp) ?_;intro v' w2 hown2 hgrow _))
 go_wp2
 go_returns
 refine ⟨v',rfl,?_,(zab w _).trans ⟨hgrow.os,hgrow.tape,hgrow.output,by have:=hgrow.size;simp at this ⊢;omega,fun k hk=>hgrow.block k (by simp;omega) (fun e=>by have:k=w.heap.size:=Option.some.inj e;omega)⟩⟩
 rw [Nat.zero_add,List.nil_append] at hown2
 exact hown2
theorem clone_ev (ad:Addr) (n c:Nat) (news:List Value) (w:World) (hl:news.length=n*5) (hnews:∀ j u,news[j]?=some u→w.cell? (ad.add j)=some u) (h1:∀ u∈news,u.oneCell'=true) (hbig:n≤4294967296) :
  Calls Tryz.prog 129 #[.slice (some ad) n c] w fun e w'=>∃ v,e=.returned v∧w'.ownsRow w.heap.size 39 5 v n news∧Below w.heap.size w w':=by
 have hq:=fun w:World=>Lib.run_eql_slice_nil (P:=Tryz.prog) w 35 39 (some ad) n c 0 0 Tryz.underlying35
 obtain ⟨i0,hi,hz0,hz1,hz2⟩:=info_parts Tryz.infoEvent
 have hO:=zcg w 39 5
 have Hn:=Lib.hid hnews
 have H1:=Lib.hid h1
 have Hl:=Lib.hid hl
 have HO:=Lib.hid hO
 clear hnews h1 hl hO
 go_enter Tryz.func129,Tryz.ntmps129
 go_wp2_with (first | (at_builtin;refine wpList_append_own _ rfl _ _ 35 rfl w.heap.size 39 i0 (.agg #[.int .i64 0,.int .i64 0,.int .i64 0,.int .i64 0,.int .i64 0]) 5 40 Tryz.underlying35 hi hz0 hz1 hz2 rfl (by decide) _ 0 [] rfl HO.out ad n c news rfl Hl.out (fun j u h=>cell_later (zab w _) (Hn.out j u h)) H1.out (by unfold maxLen;omega) (by omega) (by simp) ?_;intro v' w2 hown2 hgrow _))
 go_wp2
 go_returns
 refine ⟨v',rfl,?_,(zab w _).trans ⟨hgrow.os,hgrow.tape,hgrow.output,by have:=hgrow.size;simp at this ⊢;omega,fun k hk=>hgrow.block k (by simp;omega) (fun e=>by have:k=w.heap.size:=Option.some.inj e;omega)⟩⟩
 rw [Nat.zero_add,List.nil_append] at hown2
 exact hown2
theorem of_stat (b g c fr:Nat) (p:Wd) (w:World) (hf:fr=2*(p.P+2)+1+p.M) (hM:1≤p.P∧p.P≤64∧p.P≤p.M∧p.M≤128∧1≤p.G∧p.G≤4096) {x:Int} (hx : -9223372036854775808≤x∧x≤9223372036854775807)
  (k0:w.cell? ⟨b,0,none⟩=some (.slice (some ⟨g,0,none⟩) (nWords p.P p.M p.G) c)) (kc:nWords p.P p.M p.G≤c) (k1:w.cell? ⟨b,1,none⟩=some (.int .i64 p.cnt)) (ks:∀ a,a<nWords p.P p.M p.G→w.cell? ⟨g,a,none⟩=some (.int .u64 (p.ld a:Nat))) (kf:∀ o,w.frozen? ⟨b,o,none⟩=false) (hne:b≠g) :
  Calls Tryz.prog 90 #[.agg #[.int .i64 fr,.int .i64 p.G],.pointer (some ⟨b,0,none⟩),.int .i64 x] w fun e w'=>e=.returned (.int .u64 (p.stat x:Nat))∧Below b w w':=by
 have lb:=World.block_lt_of_cell? w _ k0
 simp only at lb
 by_cases hg:0≤x∧x<p.G
 ·obtain ⟨n,rfl⟩:∃ n:Nat,x=n:=⟨x.toNat,by omega⟩
  obtain ⟨hg1,hg2⟩:=hg
  have hn:fr+n<nWords p.P p.M p.G:=by unfold nWords;omega
  have es:p.stat n=p.ld (fr+n):=by unfold Wd.stat Wd.statW;rw [if_pos ⟨hg1,hg2⟩,hf];rfl
  rw [es]
  have k2:=ks _ hn
  have lg:=World.block_lt_of_cell? w _ k2
  simp only at lg
  have hnw:nWords p.P p.M p.G≤65536:=by unfold nWords;omega
  have e3:(fr:Int)+(n:Int)=((fr+n:Nat):Int):=by omega
  clear hf ks hx es
  generalize nWords p.P p.M p.G=nn at *
  generalize p.ld (fr+n)=v at *
  generalize fr+n=s at *
  go_enter Tryz.func90,Tryz.ntmps90
  go_wp2
  go_returns
  exact ⟨rfl,by go_grown⟩
 ·have es:p.stat x=0:=by unfold Wd.stat;rw [if_neg hg]
  rw [es]
  by_cases h0:0≤x
  ·have h1:¬ x<p.G:=fun h=>hg ⟨h0,h⟩
   clear hg
   go_enter Tryz.func90,Tryz.ntmps90
   go_wp2
   go_returns
   exact ⟨rfl,by go_grown⟩
  ·clear hg
   go_enter Tryz.func90,Tryz.ntmps90
   go_wp2
   go_returns
   exact ⟨rfl,by go_grown⟩
section
variable {F:Fix} {V:Vol} {ow:Nat→Nat} {w:World} {p:Wd}
theorem zcf (h:WAt F V ow w p) :
  Calls Tryz.prog 80 #[.pointer (some ⟨F.mem,0,none⟩)] w fun e w'=>∃ b g c,e=.returned (.pointer (some ⟨b,0,none⟩))∧w.heap.size≤b∧w.heap.size≤g∧b≠g ∧
   w'.cell? ⟨b,0,none⟩=some (.slice (some ⟨g,0,none⟩) (nWords p.P p.M p.G) c)∧nWords p.P p.M p.G≤c∧w'.cell? ⟨b,1,none⟩=some (.int .i64 p.cnt)∧(∀ a,a<nWords p.P p.M p.G→w'.cell? ⟨g,a,none⟩=some (.int .u64 (p.ld a:Nat)))∧(∀ o,w'.frozen? ⟨b,o,none⟩=false)∧Below w.heap.size w w':=by
 have m0:=h.cM_ws
 have m1:=h.cM_cnt
 have hn:=h.nw
 have lM:=h.cmem.lt (by decide)
 have lS:=h.cws.lt (by unfold nWords;omega)
 have hc:=clone_u64 ⟨F.ws,0,none⟩ (nWords p.P p.M p.G) (nWords p.P p.M p.G) ((List.range (nWords p.P p.M p.G)).map fun a=>.int .u64 (p.ld a:Nat)) w.drew (by simp) (fun j u hu=>by
   simp only [List.getElem?_map] at hu
   by_cases hj:j<nWords p.P p.M p.G
   ·have e:(⟨F.ws,0,none⟩:Addr).add j=⟨F.ws,j,none⟩:=by unfold Addr.add;split <;> simp_all
    rw [e]
    simp [hj] at hu
    rw [← hu];exact h.cS hj
   ·simp [hj] at hu) (fun u hu=>by simp at hu;obtain ⟨a,_,rfl⟩:=hu;rfl) (by omega)
 have hpos:0<nWords p.P p.M p.G:=by unfold nWords;omega
 have HC:=Lib.hid hc
 have H:=Lib.hid h
 clear hc h
 generalize nWords p.P p.M p.G=n at *
 go_enter Tryz.func80,Tryz.ntmps80
 go_wp2
 go_region_held3 (fun w'=>w'.cell? ⟨F.mem,0,none⟩=some (.slice (some ⟨F.ws,0,none⟩) n n)∧w'.cell? ⟨F.mem,1,none⟩=some (.int .i64 p.cnt))
  (first | exact ⟨m0,m1⟩ | exact ⟨k0,k1⟩ | exact ⟨(World.cell?_alloc_lt _ _ _ (World.block_lt_of_cell? _ _ k0)).trans k0,(World.cell?_alloc_lt _ _ _ (World.block_lt_of_cell? _ _ k1)).trans k1⟩)
  (first | (go_at_call 130;refine HC.out.mono ?_;rintro e w1 ⟨v,rfl,hown,hb⟩;obtain ⟨g,cap,rfl,hgb,hgl,hcp⟩:=zar hown hpos;have k0:=(hb.cell (p:=⟨F.mem,0,none⟩) lM).trans m0;have k1:=(hb.cell (p:=⟨F.mem,1,none⟩) lM).trans m1))
 go_wp2
 go_returns
 have hgb2:w.heap.size≤g:=hgb
 refine ⟨_,g,cap,rfl,hb.size,hgb2,by omega,zak _ _ _ _,hcp,zak _ _ _ _,fun a ha=>?_,fun o=>zcS _ _ _ _,?_⟩
 ·rw [World.cell?_alloc_lt _ _ _ hgl,hown.cellAt a (by simpa using ha)]
  simp [ha]
 ·exact (((Below.refl _ w).drew).trans hb).trans ((zab w1 _).mono (by have:=hb.size;exact this))
theorem status_on (h:WAt F V ow w p) (g:Int) (hg : -9223372036854775808≤g∧g≤9223372036854775807) :
  Calls Tryz.prog 37 #[.pointer (some ⟨F.W,0,none⟩),.int .i64 g] w fun e w'=>e=.returned (.int .u64 (p.stat g:Nat))∧Below w.heap.size w w':=by
 have c3:=h.cW_mem
 have c6:=h.cW_from
 have c7:=h.cW_n
 have lW:=h.cw.lt (by decide)
 have hM:=h.dim
 have hn:=h.nw
 unfold dims at hM
 have hc:=fun w1 (h1:WAt F V ow w1 p)=>zcf h1
 have HC:=Lib.hid hc
 have H:=Lib.hid h
 obtain ⟨fr,hfr⟩:∃ fr:Nat,fr=2*(p.P+2)+1+p.M:=⟨_,rfl⟩
 rw [← hfr] at c6
 have HF:=Lib.hid hfr
 have hfr2:fr≤65536:=by omega
 clear hc h hfr
 go_enter Tryz.func37,Tryz.ntmps37
 go_wp2
 go_region_held3 (fun w'=>w'.cell? ⟨F.W,3,none⟩=some (.pointer (some ⟨F.mem,0,none⟩))∧w'.cell? ⟨F.W,6,none⟩=some (.int .i64 fr)∧w'.cell? ⟨F.W,7,none⟩=some (.int .i64 p.G))
  (first | exact ⟨c3,c6,c7⟩ | exact ⟨c3',c6',c7'⟩ | exact ⟨(K.cell (p:=⟨F.W,3,none⟩) lW).trans c3,(K.cell (p:=⟨F.W,6,none⟩) lW).trans c6,(K.cell (p:=⟨F.W,7,none⟩) lW).trans c7⟩)
  (first
   | (go_at_call 80;refine (HC.out _ (On.start H.out).drew.at_).mono ?_;rintro e w1 ⟨b,gg,c,rfl,hb1,hb2,hb3,k0,kc,k1,ks,kf,hb⟩;have c3':=(hb.cell (p:=⟨F.W,3,none⟩) lW).trans c3;have c6':=(hb.cell (p:=⟨F.W,6,none⟩) lW).trans c6;have c7':=(hb.cell (p:=⟨F.W,7,none⟩) lW).trans c7)
   | (go_at_call 90;refine (of_stat b gg c fr p _ HF.out hM hg k0 kc k1 ks kf hb3).mono ?_;rintro e w2 ⟨rfl,hb4⟩;have K:=(((Below.refl _ w).drew).trans hb).trans (hb4.mono hb1)))
 go_wp2
 go_returns
 exact ⟨rfl,K⟩
theorem zdK (h:WAt F V ow w p) (h0:0<p.log.length) (hbig:p.log.length≤4294967296) :
  Calls Tryz.prog 23 #[.pointer (some ⟨F.W,0,none⟩)] w fun e w'=>∃ v,e=.returned v∧w'.ownsRow w.heap.size 39 5 v p.log.length (encEs p.log)∧Below w.heap.size w w':=by
 have c15:=h.cW_log
 have hown:=h.clog.1
 have lW:=h.cw.lt (by decide)
 obtain ⟨g,cap,hv,_,hgl,hcp⟩:=zar hown h0
 rw [hv] at c15
 have hc:=clone_ev ⟨g,0,none⟩ p.log.length cap (encEs p.log) w.drew (zdB _) (fun j u hu=>by rw [hv] at hown;exact hown.cells rfl j u hu) (fun u hu=>by
  simp only [encEs,List.mem_flatMap,encE,List.mem_cons,List.not_mem_nil,or_false] at hu
  obtain ⟨a,_,h⟩:=hu
  rcases h with rfl | rfl | rfl | rfl | rfl <;> rfl) hbig
 have HC:=Lib.hid hc
 clear h hown hv hc
 generalize encEs p.log=news at *
 generalize p.log.length=n at *
 have hn0:(0:Int)≤(n:Int):=by omega
 have hmin:min (0:Int) (n:Int)=0:=by omega
 have hnc:(n:Int)≤(cap:Int):=by omega
 go_enter Tryz.func23,Tryz.ntmps23
 go_wp2
 go_region_held3 (fun w'=>w'.cell? ⟨F.W,15,none⟩=some (.slice (some ⟨g,0,none⟩) n cap))
  (first | exact c15 | exact (hb.cell (p:=⟨F.W,15,none⟩) lW).trans c15)
  (first | (go_at_call 129;refine HC.out.mono ?_;rintro e w1 ⟨v,rfl,hown,hb⟩))
 go_wp2
 go_returns
 exact ⟨v,rfl,hown,((Below.refl _ w).drew).trans hb⟩
end
theorem two_new {w w1:World} {o o2:Obj} (hb:Below ((w.alloc o).alloc o2).heap.size ((w.alloc o).alloc o2) w1):w1.heap[w.heap.size]?=some o∧w1.heap[w.heap.size+1]?=some o2:=by
 constructor
 ·rw [hb.block _ (by simp;omega),Below.heap_alloc _ _ _ (by simp)]
  exact heap_alloc_new w o
 ·rw [hb.block _ (by simp)]
  have e:=heap_alloc_new (w.alloc o) o2
  simpa using e
theorem machcopy_any (m:Mach) (r:Value) (w:World) (hr:w.ownsRow 0 3 1 r m.rest.length (ints m.rest)) (hbig:m.rest.length≤4294967296) :
  Calls Tryz.prog 79 #[.agg (encM m r).toArray] w fun e w'=>∃ v,e=.returned (.agg (encM m v).toArray)∧w'.ownsRow w.heap.size 3 1 v m.rest.length (ints m.rest)∧Below w.heap.size w w':=by
 obtain ⟨place,mp,mg,mnext,mgot,mtarget,mi,mspin,minn,mrest,mback,mafter,marg,mlkN,mlkS,mstage,mticket,mtimes⟩:=m
 simp only [encM] at *
 obtain ⟨ra,rc,rfl⟩:=zac hr
 have hc:=fun w1 (hb:Below w.heap.size w w1)=>zb3 (.slice ra mrest.length rc) mrest.length 0 mrest w1 (Agree.row (S:=fun _=>True) ⟨hb.size,fun b hl _=>hb.block b hl⟩ (fun _ _=>trivial) hr) (Nat.le_refl _) (by omega) rc
 simp only [List.take_length] at hc
 have HC:=Lib.hid hc
 have HR:=Lib.hid hr
 clear hc hr
 go_enter Tryz.func79,Tryz.ntmps79
 go_wp2_with fail
 refine (HC.out _ (((Below.refl _ w).alloc (Nat.le_refl _) _).alloc (by simp) _)).mono ?_
 rintro e w1 ⟨v,rfl,hown,hb⟩
 obtain ⟨va,vc,rfl⟩:=zac hown
 obtain ⟨hx,hy⟩:=two_new hb
 have lx:=zaB hx
 have ly:=zaB hy
 have fx:∀ o,w1.frozen? ⟨w.heap.size,o,none⟩=false:=fun o=>Lib.frozen_of_heap hx o
 have b9:=zaa hx 9
 simp only [List.getElem?_toArray,List.getElem?_cons_zero,List.getElem?_cons_succ] at b9
 have hb0:Below w.heap.size w w1:=((((Below.refl _ w).alloc (Nat.le_refl _) _).alloc (by simp) _)).trans (hb.mono (by simp;omega))
 have hvx:Value.ownBlock (.slice va mrest.length vc)≠some w.heap.size:=fun e=>by have:=hown.lt _ e;simp at this;omega
 have hvy:Value.ownBlock (.slice va mrest.length vc)≠some (w.heap.size+1):=fun e=>by have:=hown.lt _ e;simp at this;omega
 have hne:w.heap.size+1≠w.heap.size:=by omega
 have hx2:(w1.setCell ⟨w.heap.size,9,none⟩ (.slice va mrest.length vc)).heap[w.heap.size]?=some (.cells #[Value.int .i64 place,Value.int .i64 mp,Value.int .i64 mg,Value.int .i64 mnext,Value.int .i64 mgot,Value.int .i64 mtarget,Value.int .i64 mi,Value.bool mspin,Value.bool minn,Value.slice va mrest.length vc,Value.int .i64 mback,Value.int .i64 mafter,Value.int .i64 marg,Value.int .i64 mlkN,Value.int .i64 mlkS,Value.int .i64 mstage,Value.int .u64 mticket,Value.int .i64 mtimes] 52 (0,0)):=heap_setCell_same w1 w.heap.size 9 _ _ (.slice va mrest.length vc) hx
 have hy2:=(za5 (w:=w1) (b:=w.heap.size) (o:=9) hne (.slice va mrest.length vc)).trans hy
 have ho2:=ownsRow_far (b:=w.heap.size) (o:=9) (u:=.slice va mrest.length vc) (zaZ (base':=w.heap.size) hown (by simp;omega)) hvx
 have hb2:=hb0.setCell (p:=⟨w.heap.size,9,none⟩) (Nat.le_refl _) (.slice va mrest.length vc)
 have HX:=Lib.hid hx2
 have HY:=Lib.hid hy2
 have HO:=Lib.hid ho2
 have HB:=Lib.hid hb2
 have HVY:=Lib.hid hvy
 clear hx hy HC HR hown hb hb0 hx2 hy2 ho2 hb2 hvx hvy
 go_wp2_with (first | (refine wpList_load_row rfl 52 _ rfl w.heap.size rfl 52 _ (0,0) _ HX.out Tryz.underlying52 rfl (by kernel_rfl) ?_) | (refine wpList_store_row rfl 52 _ _ rfl (w.heap.size+1) _ rfl rfl 52 _ HY.out (by kernel_rfl) rfl (by simp [Value.oneCell']) ?_))
 apply bodyPost_ret (v:=.agg #[Value.int .i64 place,Value.int .i64 mp,Value.int .i64 mg,Value.int .i64 mnext,Value.int .i64 mgot,Value.int .i64 mtarget,Value.int .i64 mi,Value.bool mspin,Value.bool minn,Value.slice va mrest.length vc,Value.int .i64 mback,Value.int .i64 mafter,Value.int .i64 marg,Value.int .i64 mlkN,Value.int .i64 mlkS,Value.int .i64 mstage,Value.int .u64 mticket,Value.int .i64 mtimes])
 ·exact results_cell_row rfl _ _ (w.heap.size+1) 52 _ (0,0) _ rfl (setRow_heap _ _ _ _ _ _ HY.out) Tryz.underlying52 rfl (by kernel_rfl)
 ·rfl
 refine ⟨.slice va mrest.length vc,rfl,?_,?_⟩
 ·have hO:=HO.out
  refine ⟨hO.1,?_⟩
  rcases hO.2 with hn | ⟨g,cap,cur,hv,hbg,hg,rest⟩
  ·exact .inl hn
  ·exact .inr ⟨g,cap,cur,hv,hbg,(setRow_other _ _ _ _ (fun e=>HVY.out (by rw [hv,← e];rfl))).trans hg,rest⟩
 ·have hB:=HB.out
  exact ⟨hB.os,hB.tape,hB.output,by have:=hB.size;simpa using this,fun k hk=>(setRow_other _ _ _ _ (by omega)).trans (hB.block k hk)⟩
def zeF:Array Value:=#[.int .i64 0,.int .i64 0,.int .i64 0,.int .i64 0,.int .i64 0,.int .i64 0,.int .i64 0,.bool false,.bool false,.slice none 0 0,.int .i64 0,.int .i64 0,.int .i64 0,.int .i64 0,.int .i64 0,.int .i64 0,.int .u64 0,.int .i64 0]
theorem zdZ {F:Fix} {V:Vol} {ow:Nat→Nat} {w:World} {p:Wd} (h:WAt F V ow w p) (i:Nat) (hi:i<p.M) (hbig:(p.mach i).rest.length≤4294967296) :
  Calls Tryz.prog 26 #[.pointer (some ⟨F.W,0,none⟩),.int .i64 i] w fun e w'=>∃ v,e=.returned (.agg (encM (p.mach i) v).toArray)∧w'.ownsRow w.heap.size 3 1 v (p.mach i).rest.length (ints (p.mach i).rest)∧Below w.heap.size w w':=by
 have hM:=h.dim
 have hcap:=h.own_cap.2
 unfold dims at hM
 have hd1:decide ((p.M:Int)≤(i:Int))=false:=by simp;omega
 have h1:=(On.start h).alloc (.cells zeF 52)
 have cM:=h.cW_F_M
 have c13:=h.cW_all
 have lW:=h.cw.lt (by decide)
 have lA:=h.call.lt (by show 0<p.M*18;omega)
 have a0:=h.cA_place hi
 have a1:=h.cA_p hi
 have a2:=h.cA_g hi
 have a3:=h.cA_next hi
 have a4:=h.cA_got hi
 have a5:=h.cA_target hi
 have a6:=h.cA_i hi
 have a7:=h.cA_spin hi
 have a8:=h.cA_inn hi
 have a9:=h.cA_rest hi
 have a10:=h.cA_back hi
 have a11:=h.cA_after hi
 have a12:=h.cA_arg hi
 have a13:=h.cA_lkN hi
 have a14:=h.cA_lkS hi
 have a15:=h.cA_stage hi
 have a16:=h.cA_ticket hi
 have a17:=h.cA_times hi
 have hc:=machcopy_any (p.mach i) (V.rest i) (w.alloc (.cells zeF 52)) (h1.at_.crest i hi).1 hbig
 have HC:=Lib.hid hc
 clear h h1 hc
 go_enter Tryz.func26,Tryz.ntmps26
 go_wp2_with fail
 refine HC.out.mono ?_
 rintro e w1 ⟨v,rfl,hown,hb⟩
 have hx:w1.heap[w.heap.size]?=some (.cells zeF 52 (0,0)):=zaL hb
 have hb0:Below w.heap.size w w1:=((Below.refl _ w).alloc (Nat.le_refl _) _).trans (hb.mono (by simp))
 have hvx:v.ownBlock≠some w.heap.size:=fun e=>by have:=hown.lt _ e;simp at this;omega
 obtain ⟨va,vc,rfl⟩:=zac hown
 have HX:=Lib.hid hx
 have HB:=Lib.hid hb0
 have HV:=Lib.hid hvx
 have HO:=Lib.hid hown
 clear hx hb0 hvx hown hb HC lW lA cM c13 a0 a1 a2 a3 a4 a5 a6 a7 a8 a9 a10 a11 a12 a13 a14 a15 a16 a17
 go_wp2_with (first | (refine wpList_store_row rfl 52 _ _ rfl w.heap.size _ rfl rfl 52 _ HX.out (by kernel_rfl) rfl (by simp [encM,Value.oneCell']) ?_))
 apply bodyPost_ret (v:=.agg (encM (p.mach i) (.slice va (p.mach i).rest.length vc)).toArray)
 ·exact results_cell_row rfl _ _ w.heap.size 52 _ (0,0) _ rfl (setRow_heap _ _ _ _ _ _ HX.out) Tryz.underlying52 rfl (by kernel_rfl)
 ·rfl
 refine ⟨.slice va (p.mach i).rest.length vc,rfl,?_,?_⟩
 ·have hO:=HO.out
  refine ⟨hO.1,?_⟩
  rcases hO.2 with hn | ⟨g,cap,cur,hv,hbg,hg,rest⟩
  ·exact .inl hn
  ·exact .inr ⟨g,cap,cur,hv,by simp at hbg;omega,(setRow_other _ _ _ _ (fun e=>HV.out (by rw [hv,← e];rfl))).trans hg,rest⟩
 ·have hB:=HB.out
  exact ⟨hB.os,hB.tape,hB.output,by have:=hB.size;simpa using this,fun k hk=>(setRow_other _ _ _ _ (by omega)).trans (hB.block k hk)⟩
def rightI (P M G:Int):Bool:=decide (1≤P∧P≤64∧P≤M∧M≤128∧1≤G∧G≤4096)
theorem right_c (P M G:Int) (w:World) :
  Calls Tryz.prog 118 #[.agg #[.int .i64 P,.int .i64 M,.int .i64 G]] w fun e w'=>e=.returned (.bool (rightI P M G))∧w'=w.alloc (.cells #[.int .i64 P,.int .i64 M,.int .i64 G] 42):=by
 go_enter Tryz.func118,Tryz.ntmps118
 go_wp2
 all_goals go_returns
 all_goals refine ⟨congrArg (fun b=>Ending.returned (.bool b)) ?_,rfl⟩
 all_goals (show (_:Bool)=_)
 all_goals simp only [rightI]
 all_goals rw [Bool.eq_iff_iff]
 all_goals simp
 all_goals (try simp at *)
 all_goals omega
def Made (f:Option Value) (R:Value→Prop):Prop:=∀ v,f=some v→R v
structure NewInv (wb:World) (P M:Nat) (ow:Nat→Nat) (w:World) (f17 f20 f23 f26 f31:Option Value):Prop where
 low:∀ b,b<wb.heap.size→ow b=0
 frame:Below wb.heap.size wb w
 turns:Made f17 fun v=>∃ b,v=sli b P P∧ow b=5∧Cells b P (fun _=>.int .i64 0) w
 flag:Made f20 fun v=>∃ b,v=sli b M M∧ow b=10∧Cells b M (fun _=>.bool false) w
 glob:Made f23 fun v=>∃ b,v=ptr b∧GlobAt (ow ·=6) b w P []
 src:Made f26 fun v=>∃ b,v=ptr b∧SrcAt (ow ·=7) b w P Src.new
 idle:Made f31 fun v=>∃ b,v=ptr b∧IdleAt (ow ·=8) b w P M { p:=0,pending:=[],m:=[],poller:=-1 }
section
variable {wb w w':World} {P M:Nat} {ow:Nat→Nat} {f17 f20 f23 f26 f31:Option Value}
theorem NewInv.more (h:NewInv wb P M ow w f17 f20 f23 f26 f31) (hP:0<P) (hM:0<M) (b:Below w.heap.size w w') (k:Nat):NewInv wb P M (grow ow w.heap.size k) w' f17 f20 f23 f26 f31:=by
 have hs:=h.frame.size
 have ag:∀ j,Agree (ow ·=j) w w':=fun j=>⟨b.size,fun x hx _=>b.block x hx⟩
 have em:∀ j x,x<w.heap.size→ow x=j→grow ow w.heap.size k x=j:=fun j x hx e=>(grow_lt hx).trans e
 refine ⟨fun x hx=>(grow_lt (by have:=h.frame.size;omega)).trans (h.low x hx),h.frame.trans (b.mono hs),fun v e=>?_,fun v e=>?_,fun v e=>?_,fun v e=>?_,fun v e=>?_⟩
 ·obtain ⟨x,e1,e2,e3⟩:=h.turns v e
  exact ⟨x,e1,em 5 x (e3.lt hP) e2,e3.congr (ag 5) e2 (e3.lt hP)⟩
 ·obtain ⟨x,e1,e2,e3⟩:=h.flag v e
  exact ⟨x,e1,em 10 x (e3.lt hM) e2,e3.congr (ag 10) e2 (e3.lt hM)⟩
 ·obtain ⟨x,e1,e2⟩:=h.glob v e
  exact ⟨x,e1,e2.agree (ag 6) (em 6)⟩
 ·obtain ⟨x,e1,e2⟩:=h.src v e
  exact ⟨x,e1,e2.agree hP (ag 7) (em 7)⟩
 ·obtain ⟨x,e1,e2⟩:=h.idle v e
  exact ⟨x,e1,e2.agree (ag 8) (em 8)⟩
theorem zbL {v:Value} {R:Value→Prop} (h:R v):Made (some v) R:=fun u e=>by cases e;exact h
theorem NewInv.put17 (h:NewInv wb P M ow w f17 f20 f23 f26 f31) {v:Value} (hv:∃ b,v=sli b P P∧ow b=5∧Cells b P (fun _=>.int .i64 0) w):NewInv wb P M ow w (some v) f20 f23 f26 f31:=⟨h.low,h.frame,zbL hv,h.flag,h.glob,h.src,h.idle⟩
theorem NewInv.put20 (h:NewInv wb P M ow w f17 f20 f23 f26 f31) {v:Value} (hv:∃ b,v=sli b M M∧ow b=10∧Cells b M (fun _=>.bool false) w):NewInv wb P M ow w f17 (some v) f23 f26 f31:=⟨h.low,h.frame,h.turns,zbL hv,h.glob,h.src,h.idle⟩
theorem NewInv.put23 (h:NewInv wb P M ow w f17 f20 f23 f26 f31) {v:Value} (hv:∃ b,v=ptr b∧GlobAt (ow ·=6) b w P []):NewInv wb P M ow w f17 f20 (some v) f26 f31:=⟨h.low,h.frame,h.turns,h.flag,zbL hv,h.src,h.idle⟩
theorem NewInv.put26 (h:NewInv wb P M ow w f17 f20 f23 f26 f31) {v:Value} (hv:∃ b,v=ptr b∧SrcAt (ow ·=7) b w P Src.new):NewInv wb P M ow w f17 f20 f23 (some v) f31:=⟨h.low,h.frame,h.turns,h.flag,h.glob,zbL hv,h.idle⟩
theorem NewInv.put31 (h:NewInv wb P M ow w f17 f20 f23 f26 f31) {v:Value} (hv:∃ b,v=ptr b∧IdleAt (ow ·=8) b w P M { p:=0,pending:=[],m:=[],poller:=-1 }):NewInv wb P M ow w f17 f20 f23 f26 (some v):=⟨h.low,h.frame,h.turns,h.flag,h.glob,h.src,zbL hv⟩
theorem NewInv.mk17 (h:NewInv wb P M ow w f17 f20 f23 f26 f31) (hP:0<P) (hM:0<M) (t:TypeId):NewInv wb P M (grow ow w.heap.size 5) (w.alloc (.cells (madeCells #[.int .i64 0] P) t)) (some (sli w.heap.size P P)) f20 f23 f26 f31 :=
 (h.more hP hM (zab w _) 5).put17 ⟨w.heap.size,rfl,zaG _ _ _,fun k hk=>by rw [zak];simp [madeCells,hk,Nat.mod_one],fun o=>zcS _ _ _ _⟩
theorem NewInv.mk20 (h:NewInv wb P M ow w f17 f20 f23 f26 f31) (hP:0<P) (hM:0<M) (t:TypeId):NewInv wb P M (grow ow w.heap.size 10) (w.alloc (.cells (madeCells #[.bool false] M) t)) f17 (some (sli w.heap.size M M)) f23 f26 f31 :=
 (h.more hP hM (zab w _) 10).put20 ⟨w.heap.size,rfl,zaG _ _ _,fun k hk=>by rw [zak];simp [madeCells,hk,Nat.mod_one],fun o=>zcS _ _ _ _⟩
theorem NewInv.mk23 (h:NewInv wb P M ow w f17 f20 f23 f26 f31) (hP:0<P) (hM:0<M) {b:Nat} (hg:GlobAt (fun x=>w.heap.size≤x) b w' P []) (hb:Below w.heap.size w w'):NewInv wb P M (grow ow w.heap.size 6) w' f17 f20 (some (ptr b)) f26 f31 :=
 (h.more hP hM hb 6).put23 ⟨b,rfl,hg.mono fun _ _ e=>grow_ge e⟩
theorem NewInv.mk26 (h:NewInv wb P M ow w f17 f20 f23 f26 f31) (hP:0<P) (hM:0<M) {b:Nat} (hg:SrcAt (fun x=>w.heap.size≤x) b w' P Src.new) (hb:Below w.heap.size w w'):NewInv wb P M (grow ow w.heap.size 7) w' f17 f20 f23 (some (ptr b)) f31 :=
 (h.more hP hM hb 7).put26 ⟨b,rfl,hg.agree hP ⟨Nat.le_refl _,fun _ _ _=>rfl⟩ fun _ _ e=>grow_ge e⟩
theorem NewInv.mk31 (h:NewInv wb P M ow w f17 f20 f23 f26 f31) (hP:0<P) (hM:0<M) {b:Nat} (hg:IdleAt (fun x=>w.heap.size≤x) b w' P M { p:=0,pending:=[],m:=[],poller:=-1 }) (hb:Below w.heap.size w w'):NewInv wb P M (grow ow w.heap.size 8) w' f17 f20 f23 f26 (some (ptr b)) :=
 (h.more hP hM hb 8).put31 ⟨b,rfl,hg.agree ⟨Nat.le_refl _,fun _ _ _=>rfl⟩ fun _ _ e=>grow_ge e⟩
end
end Go.Proofs.YtlmmjgekolpekaaGreatDoor
