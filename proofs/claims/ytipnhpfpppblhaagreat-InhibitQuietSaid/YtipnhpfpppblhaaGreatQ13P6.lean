/- What several claims of this seat share: contracts of the functions that they reach. -/
import Derived.Test.YtipnhpfpppblhaaGreatQ13P5
import Derived.Deep.Onto

namespace Go.Proofs.YtipnhpfpppblhaaGreat
open Go.RowKit
def VR (w:World) (g:Nat) (L:List Int) (t:TypeId):Prop:=w.heap[g]?=some (.cells (L.map V32).toArray t (0,0))
theorem VR.lt {w:World} {g:Nat} {L:List Int} {t:TypeId} (h:VR w g L t):g < w.heap.size:=(Array.getElem?_eq_some_iff.1 h).1
theorem VR.later {w w':World} {g:Nat} {L:List Int} {t:TypeId} (h:VR w g L t) (hb:Below w.heap.size w w'):VR w' g L t:=by
 unfold VR;rw [hb.block g h.lt];exact h
theorem VR.cell {w:World} {g:Nat} {L:List Int} {t:TypeId} (h:VR w g L t) {j:Nat} {x:Int} (hj:L[j]?=some x):w.cell? ⟨g,j,none⟩=some (V32 x):=by
 rw [cell_row h,List.getElem?_toArray,List.getElem?_map,hj];rfl
theorem VR.free {w:World} {g:Nat} {L:List Int} {t:TypeId} (h:VR w g L t) (j:Nat):w.frozen? ⟨g,j,none⟩=false:=by simp [World.frozen?,show w.heap[g]?=_ from h]
theorem VR.put {w:World} {g:Nat} {L:List Int} {t:TypeId} (h:VR w g L t) (j:Nat) (x:Int):VR (w.setCell ⟨g,j,none⟩ (V32 x)) g (L.set j x) t:=by
 unfold VR;rw [heap_setCell_same w g j _ _ _ h,aS1,List.map_set]
theorem VR.else_ {w:World} {g g':Nat} {L:List Int} {t:TypeId} (h:VR w g L t) (hne:g≠g') (j:Nat) (v:Value):VR (w.setCell ⟨g',j,none⟩ v) g L t:=by
 unfold VR;rw [heap_else _ _ _ _ _ hne];exact h
def pW (bs:List Int) (i:Nat):Nat→Int
 | 0=>0
 | j+1=>pW bs i j * 256+bs.getD (4 * i+j) 0
theorem pW_bd {bs:List Int} (hB:∀ x∈bs,0≤x∧x < 256) (i:Nat):∀ j,0≤pW bs i j∧pW bs i j < 256 ^ j:=by
 have hd:∀ k,0≤bs.getD k 0∧bs.getD k 0 < 256:=fun k=>by
  rw [List.getD_eq_getElem?_getD]
  cases h:bs[k]? with
  | none=>simp
  | some x=>exact hB x (List.mem_of_getElem? h)
 intro j
 induction j with
 | zero=>simp [pW]
 | succ j ih =>
  have:=hd (4 * i+j)
  rw [pW,Int.pow_succ]
  omega
theorem pW_four {bs:List Int} (hB:∀ x∈bs,0≤x∧x < 256) (i:Nat):pW bs i 4=wordAt bs i:=by
 have hd:∀ k,0≤bs.getD k 0∧bs.getD k 0 < 256:=fun k=>by
  rw [List.getD_eq_getElem?_getD]
  cases h:bs[k]? with
  | none=>simp
  | some x=>exact hB x (List.mem_of_getElem? h)
 unfold wordAt;rw [word4_eq (hd _) (hd _) (hd _) (hd _)];simp only [pW,Nat.add_zero]
 omega
def rowW (S:List Int) (x:Int):List Int:=S ++ x :: List.replicate (63 - S.length) 0
theorem rowW_at {S:List Int} {x:Int}:(rowW S x)[S.length]?=some x:=by
 unfold rowW;rw [List.getElem?_append_right (Nat.le_refl _),Nat.sub_self];rfl
theorem rowW_set {S:List Int} {x y:Int}:(rowW S x).set S.length y=rowW S y:=by
 unfold rowW;rw [List.set_append_right _ _ (Nat.le_refl _),Nat.sub_self];rfl
def rowS (S:List Int):List Int:=S ++ List.replicate (64 - S.length) 0
theorem rowS_W {S:List Int} (h:S.length < 64):rowS S=rowW S 0:=by
 unfold rowS rowW;rw [show 64 - S.length=(63 - S.length)+1 by omega,List.replicate_succ]
theorem rowS_next {S:List Int} {x:Int} (h:S.length < 64):(rowS S).set S.length x=rowS (S ++ [x]):=by
 rw [rowS_W h,rowW_set];unfold rowW rowS;rw [List.append_assoc,List.length_append,List.length_singleton,show 64 - (S.length+1)=63 - S.length by omega]
 rfl
theorem rowS_at {S:List Int} {j:Nat} (h:j < S.length):(rowS S)[j]?=some (S.getD j 0):=by
 unfold rowS;rw [List.getElem?_append_left h,List.getD_eq_getElem?_getD,List.getElem?_eq_getElem h];rfl
theorem xor_word {a b:Int} (ha:W32 a) (hb:W32 b):W32 (bits .xor .u32 a b):=by
 obtain ⟨n,rfl,hn⟩:=ha.nat
 obtain ⟨m,rfl,hm⟩:=hb.nat
 rw [bits_xor_u32_nat _ _ hn hm]
 have:n ^^^ m < 2 ^ 32:=Nat.xor_lt_two_pow (by omega) (by omega)
 exact ⟨by omega,by omega⟩
theorem rot_word {x:Int} (h:W32 x) {k:Nat} (h0:0 < k) (hk:k < 32):W32 (rotW x (32 - k)):=by
 obtain ⟨n,rfl,hn⟩:=h.nat
 rw [← turnN_rot n k h0 hk hn]
 have:=turnN_lt (k:=k) hn
 exact ⟨by omega,by omega⟩
theorem mix_word (a b c sh:Nat) {x:Int} (h:W32 x) (ha:0 < a∧a < 32) (hb:0 < b∧b < 32) (hc:sh=0→0 < c∧c < 32):W32 (mixW a b c sh x):=by
 unfold mixW;refine xor_word (xor_word (rot_word h ha.1 ha.2) (rot_word h hb.1 hb.2)) ?_
 split
 ·rename_i hs
  obtain ⟨n,rfl,hn⟩:=h.nat
  rw [show ((n:Int) / 2 ^ sh)=((n / 2 ^ sh:Nat):Int) by rw [Int.natCast_ediv,Int.natCast_pow];rfl]
  have:n / 2 ^ sh≤n:=Nat.div_le_self _ _
  generalize n / 2 ^ sh=z at *;exact ⟨by omega,by omega⟩
 ·rename_i hs
  have:=hc (by omega)
  exact rot_word h this.1 this.2
theorem turn_any (x:Int) (n:Nat) (w:World) (hx:W32 x) (h0:0 < n) (hn:n < 32) :
  Calls Tryz.prog 129 #[.int .u32 x,.int .i64 (n:Int)] w fun e w'=>e=.returned (.int .u32 (rotW x (32 - n)))∧w'=w:=by
 obtain ⟨m,rfl,hm⟩:=hx.nat
 rw [← turnN_rot m n h0 hn hm];exact (rturn_any m n w hm (by omega)).mono fun e w' ⟨h1,h2⟩=>⟨h1,h2.symm⟩
theorem there_cell8 {w:World} {g n:Nat} (h:w.there g 0 n) (j:Nat) (hj:j < n):∃ v,w.cell? ⟨g,j,none⟩=some v:=by
 have:=(h j hj).1
 rw [Nat.zero_add] at this;exact Option.isSome_iff_exists.1 this
structure RSt (w W:World) (V L:List Int):Prop where
 h:VR W w.heap.size V 157
 k:W.heap[w.heap.size+1]?=some (.cells keysV 159 (0,0))
 r:W.there (w.heap.size+1+1) 0 8
 m:VR W (w.heap.size+1+1+1) L 159
 b:Below w.heap.size w W
theorem RSt.later {w W W':World} {V L:List Int} (h:RSt w W V L) (hb:Below W.heap.size W W'):RSt w W' V L :=
 ⟨h.h.later hb,by rw [hb.block _ (Array.getElem?_eq_some_iff.1 h.k).1];exact h.k,there_later h.r hb (by have:=h.m.lt;omega),h.m.later hb,h.b.trans (hb.mono h.b.size)⟩
theorem there_put {w:World} {g g':Nat} {n:Nat} (h:w.there g 0 n) (hne:g≠g') (j:Nat) (v:Value):(w.setCell ⟨g',j,none⟩ v).there g 0 n:=fun i hi=>by
 obtain ⟨h1,h2⟩:=h i hi;have hk:=heap_else w g' j g v hne;exact ⟨by rw [World.cell?_of_block (a:=⟨g,0+i,none⟩) hk];exact h1,by rw [World.frozen?_of_block (a:=⟨g,0+i,none⟩) hk];exact h2⟩
theorem RSt.put {w W:World} {V L:List Int} (h:RSt w W V L) (j:Nat) (x:Int):RSt w (W.setCell ⟨w.heap.size+1+1+1,j,none⟩ (V32 x)) V (L.set j x) :=
 ⟨h.h.else_ (by omega) _ _,by rw [heap_else _ _ _ _ _ (by omega)];exact h.k,there_put h.r (by omega) _ _,h.m.put j x,h.b.trans (below_setCell W _ _ _ (by omega))⟩
theorem RSt.else_ {w W:World} {V L:List Int} (h:RSt w W V L) {g:Nat} (hg:w.heap.size+1+1+1 < g) (j:Nat) (v:Value):RSt w (W.setCell ⟨g,j,none⟩ v) V L :=
 ⟨h.h.else_ (by omega) _ _,by rw [heap_else _ _ _ _ _ (by omega)];exact h.k,there_put h.r (by omega) _ _,h.m.else_ (by omega) _ _,h.b.trans (below_setCell W _ _ _ (by omega))⟩
theorem word4_word {a b c d:Int} (ha:0≤a∧a < 256) (hb:0≤b∧b < 256) (hc:0≤c∧c < 256) (hd:0≤d∧d < 256):W32 (word4 a b c d):=by
 rw [word4_eq ha hb hc hd];exact ⟨by omega,by omega⟩
theorem sched0_word {bs:List Int} (hB:∀ x∈bs,0≤x∧x < 256):∀ x∈schedL bs 0,W32 x:=by
 have hd:∀ k,0≤bs.getD k 0∧bs.getD k 0 < 256:=fun k=>by
  rw [List.getD_eq_getElem?_getD]
  cases h:bs[k]? with
  | none=>simp
  | some x=>exact hB x (List.mem_of_getElem? h)
 intro x hx;obtain ⟨i,_,rfl⟩:=List.mem_map.1 (show x∈(List.range 16).map (wordAt bs) from hx);exact word4_word (hd _) (hd _) (hd _) (hd _)
set_option maxHeartbeats 6400000 in
set_option maxRecDepth 100000 in
theorem rround_any (bs:List Int) (v0 v1 v2 v3 v4 v5 v6 v7:Int) (a:Addr) (c:Nat) (w:World) (hb:bs.length=64) (hB:Bytes8 w a bs) (hV:∀ x∈[v0,v1,v2,v3,v4,v5,v6,v7],W32 x) :
  Calls Tryz.prog 117 #[.agg #[V32 v0,V32 v1,V32 v2,V32 v3,V32 v4,V32 v5,V32 v6,V32 v7],.agg keysV,.slice (some a) 64 c] w fun e w'=>e=.returned (.agg ((blockL bs [v0,v1,v2,v3,v4,v5,v6,v7]).map V32).toArray)∧Below w.heap.size w w':=by
 obtain ⟨b,o,rfl,hlt,hcell⟩:=hB;have HC:=Lib.hid hcell
 have hBy:∀ x∈bs,0≤x∧x < 256:=fun x hx=>by
  obtain ⟨j,hj,rfl⟩:=List.getElem_of_mem hx;exact (hcell j hj).2
 have HBY:=Lib.hid hBy;have HV:=Lib.hid hV;clear hcell hBy hV
 go_enter Tryz.func117,Tryz.ntmps117
 go_upto_region 2 with fail;obtain ⟨V,hVd⟩:∃ V,[v0,v1,v2,v3,v4,v5,v6,v7]=V:=⟨_,rfl⟩
 have hst:RSt w ((((w.alloc (.cells #[V32 v0,V32 v1,V32 v2,V32 v3,V32 v4,V32 v5,V32 v6,V32 v7] 157)).alloc (.cells keysV 159)).alloc (.cells ((List.replicate 8 (0:Int)).map V32).toArray 157)).alloc (.cells ((rowS []).map V32).toArray 159)) V (rowS []):=by
  generalize hm:((rowS []).map V32).toArray=zm;obtain ⟨Wa,ha⟩:∃ z,w.alloc (.cells #[V32 v0,V32 v1,V32 v2,V32 v3,V32 v4,V32 v5,V32 v6,V32 v7] 157)=z:=⟨_,rfl⟩;obtain ⟨Wb,hb'⟩:∃ z,Wa.alloc (.cells keysV 159)=z:=⟨_,rfl⟩;obtain ⟨Wc,hc'⟩:∃ z,Wb.alloc (.cells ((List.replicate 8 (0:Int)).map V32).toArray 157)=z:=⟨_,rfl⟩;obtain ⟨Wd,hd'⟩:∃ z,Wc.alloc (.cells zm 159)=z:=⟨_,rfl⟩;rw [ha,hb',hc',hd'];have sa:Wa.heap.size=w.heap.size+1:=by rw [← ha,World.size_alloc]
  have sb:Wb.heap.size=w.heap.size+1+1:=by rw [← hb',World.size_alloc,sa]
  have sc:Wc.heap.size=w.heap.size+1+1+1:=by rw [← hc',World.size_alloc,sb]
  have ba:Below w.heap.size w Wa:=by rw [← ha];exact (Below.refl _ _).alloc (Nat.le_refl _) _
  have bb:Below Wa.heap.size Wa Wb:=by rw [← hb'];exact (Below.refl _ _).alloc (Nat.le_refl _) _
  have bc:Below Wb.heap.size Wb Wc:=by rw [← hc'];exact (Below.refl _ _).alloc (Nat.le_refl _) _
  have bd:Below Wc.heap.size Wc Wd:=by rw [← hd'];exact (Below.refl _ _).alloc (Nat.le_refl _) _
  have na:VR Wa w.heap.size V 157:=by unfold VR;rw [← ha,heap_alloc_new,← hVd];rfl
  have nb:Wb.heap[w.heap.size+1]?=some (.cells keysV 159 (0,0)):=by rw [← hb',← sa,heap_alloc_new]
  have nc:=box_there (Below.refl _ (Wb.alloc (.cells ((List.replicate 8 (0:Int)).map V32).toArray 157)));rw [hc',sb] at nc;have nd:VR Wd (w.heap.size+1+1+1) (rowS []) 159:=by unfold VR;rw [← hd',← sc,heap_alloc_new,hm]
  have bcd:=bc.trans (bd.mono bc.size);have bbd:=bb.trans (bcd.mono bb.size);exact ⟨na.later bbd,by rw [bcd.block _ (by omega)];exact nb,there_later nc bd (by omega),nd,ba.trans (bbd.mono ba.size)⟩
 change Code.wp _ _ _ _ ((((w.alloc (.cells #[V32 v0,V32 v1,V32 v2,V32 v3,V32 v4,V32 v5,V32 v6,V32 v7] 157)).alloc (.cells keysV 159)).alloc (.cells ((List.replicate 8 (0:Int)).map V32).toArray 157)).alloc (.cells ((rowS []).map V32).toArray 159));generalize (((w.alloc (.cells #[V32 v0,V32 v1,V32 v2,V32 v3,V32 v4,V32 v5,V32 v6,V32 v7] 157)).alloc (.cells keysV 159)).alloc (.cells ((List.replicate 8 (0:Int)).map V32).toArray 157)).alloc (.cells ((rowS []).map V32).toArray 159)=W4 at *;have HST:=Lib.hid hst;have HVD:=Lib.hid hVd;clear hst hVd;go_upto_region 3 with fail
 go_loopw [8] (fun vi wr=>∃ i:Nat,i≤16∧vi=.int .i64 i∧Hid (RSt w wr V (rowS (wordsL bs i)))) (fun vi _=>16 - (intOf vi).toNat)
 case atStart=>exact ⟨0,Nat.zero_le _,rfl,HST⟩
 case round =>
  clear HST;obtain ⟨i,hi,rfl,HR⟩:=hrel
  by_cases hil:i < 16
  ·have hwl:=wordsL_len bs i
   have HR0:Hid (RSt w wr V (rowW (wordsL bs i) (pW bs i 0))):=Lib.hid (by rw [show pW bs i 0=0 from rfl,← rowS_W (by omega)];exact HR.out)
   have HN:Hid (rowW (wordsL bs i) (pW bs i 4)=rowS (wordsL bs (i+1))):=Lib.hid (by
    rw [pW_four HBY.out,wordsL_succ];unfold rowW rowS;rw [List.append_assoc,List.length_append,List.length_singleton,show 64 - ((wordsL bs i).length+1)=63 - (wordsL bs i).length by omega]
    rfl)
   have hi16:(i:Int) < 16:=by omega
   have hi64:(i:Int) < 64:=by omega
   clear HR;go_upto_region 6 with fail
   go_loopw [9] (fun vj wr=>∃ j:Nat,j≤4∧vj=.int .i64 j∧Hid (RSt w wr V (rowW (wordsL bs i) (pW bs i j)))) (fun vj _=>4 - (intOf vj).toNat)
   case atStart=>exact ⟨0,Nat.zero_le _,rfl,HR0⟩
   case round =>
    clear HR0;obtain ⟨j,hj,rfl,HJ⟩:=hrel
    by_cases hjl:j < 4
    ·obtain ⟨p,hp⟩:∃ p,pW bs i j=p:=⟨_,rfl⟩
     obtain ⟨h1,h2,h3⟩:=HC.out (4 * i+j) (by omega);have hx:bs.getD (4 * i+j) 0=bs[4 * i+j]:=by rw [List.getD_eq_getElem?_getD,List.getElem?_eq_getElem (by omega)];rfl
     have HP1:Hid (pW bs i (j+1)=p * 256+bs[4 * i+j]):=Lib.hid (by rw [pW,hp,hx]);have hpb:=pW_bd HBY.out i j;rw [hp] at hpb HJ
     have hpp:p < 16777216:=by
      have h256:(256:Int) ^ j≤16777216:=by
       rcases (show j=0∨j=1∨j=2∨j=3 by omega) with h | h | h | h <;> subst h <;> decide
      omega
     have hp0:=hpb.1;have hwb:=kCq h1 HJ.out.b hlt;generalize bs[4 * i+j]=x at *;obtain ⟨q,hq⟩:∃ q,4 * i=q:=⟨_,rfl⟩;obtain ⟨q1,hq1⟩:∃ q1,4 * i+j=q1:=⟨_,rfl⟩;rw [hq1] at hwb;have hw0:IntKind.i64.wrap (4 * (i:Int))=(q:Int):=by rw [IntKind.wrap_i64];omega
     have hw1:IntKind.i64.wrap ((q:Int)+(j:Int))=(q1:Int):=by rw [IntKind.wrap_i64];omega
     have hI1:(q1:Int) < 64:=by omega
     have vv:IntKind.u32.wrap x=x:=by rw [IntKind.wrap_u32'];omega
     have y0:IntKind.u32.wrap (p * 256)=p * 256:=by rw [IntKind.wrap_u32'];omega
     have y1:IntKind.u32.wrap (p * 256+x)=p * 256+x:=by rw [IntKind.wrap_u32'];omega
     have hjl4:(j:Int) < 4:=by omega
     have hcl:=HJ.out.m.cell (j:=i) (x:=p) (by have:=@rowW_at (wordsL bs i) p;rwa [hwl] at this);have hfr:=HJ.out.m.free i;have hput:=(HJ.out.put i (p * 256+x)).later (Below.refl _ _).drew
     have hset:(rowW (wordsL bs i) p).set i (p * 256+x)=rowW (wordsL bs i) (p * 256+x):=by
      have:=@rowW_set (wordsL bs i) p (p * 256+x)
      rwa [hwl] at this
     rw [show (rowW (wordsL bs i) p).set i (p * 256+x)=rowW (wordsL bs i) (pW bs i (j+1)) by rw [hset,HP1.out]] at hput;have HPUT:=Lib.hid hput;have HFR:=Lib.hid hfr;have HCL:=Lib.hid hcl;clear h1 h2 h3 hx hp hpb hput hset hq hq1 HP1 hfr;go_wp2
     go_still_tail 15,(by kernel_rfl)
     have hcl:wr.drew.cell? ⟨w.heap.size+1+1+1,i,none⟩=some (V32 p):=HCL.out;have hfr:wr.drew.frozen? ⟨w.heap.size+1+1+1,i,none⟩=false:=HFR.out;go_wp2;go_roundw
     case rel=>exact ⟨j+1,by omega,by go_num,HPUT⟩
     case measure=>(simp [intOf];try omega)
    ·obtain rfl:j=4:=by omega
     rw [HN.out] at HJ;go_wp2;go_roundw
     case rel=>exact ⟨i+1,by omega,by go_num,HJ⟩
     case measure=>(simp [intOf];try omega)
  ·obtain rfl:i=16:=by omega
   rw [show ((16:Nat):Int)=16 from rfl];have HR3:Hid (RSt w wr V (rowS (schedL bs 0))):=HR;clear HR;go_upto_region 10 with fail
   go_loopw [10] (fun vi wr=>∃ k:Nat,k≤48∧vi=.int .i64 ((16+k:Nat):Int)∧Hid (RSt w wr V (rowS (schedL bs k)))∧Hid (∀ x∈schedL bs k,W32 x)) (fun vi _=>64 - (intOf vi).toNat)
   case atStart=>exact ⟨0,Nat.zero_le _,rfl,HR3,Lib.hid (sched0_word HBY.out)⟩
   case round =>
    clear HR3;obtain ⟨k,hk,rfl,HR,HWD⟩:=hrel
    by_cases hkl:k < 48
    ·obtain ⟨L,hL⟩:∃ L,schedL bs k=L:=⟨_,rfl⟩
     have hLl:L.length=16+k:=by rw [← hL];exact schedL_len bs k
     have HN:Hid (schedL bs (k+1)=L ++ [nextW L]):=by show _=_;rw [schedL,hL]
     rw [hL] at HR HWD
     have hx:∀ d,0 < d→d≤16→∃ (q:Nat) (x:Int),q+d=16+k∧L.getD (16+k - d) 0=x∧W32 x∧(rowS L)[q]?=some x:=fun d h1 h2=>by
      have hlt:16+k - d < L.length:=by omega
      refine ⟨16+k - d,_,by omega,rfl,?_,rowS_at hlt⟩;rw [List.getD_eq_getElem?_getD,List.getElem?_eq_getElem hlt];exact HWD.out _ (List.getElem_mem hlt)
     obtain ⟨q16,x16,i16,e16,u16,c16⟩:=hx 16 (by decide) (by decide);obtain ⟨q15,x15,i15,e15,u15,c15⟩:=hx 15 (by decide) (by decide);obtain ⟨q7,x7,i7,e7,u7,c7⟩:=hx 7 (by decide) (by decide);obtain ⟨q2,x2,i2,e2,u2,c2⟩:=hx 2 (by decide) (by decide)
     have HX:Hid (nextW L=(((x16+mixW 7 18 0 3 x15) % 4294967296+x7) % 4294967296+mixW 17 19 0 10 x2) % 4294967296):=by
      show _=_;unfold nextW;rw [hLl,e16,e15,e7,e2]
     have kA:=fun W=>turn_any x15 7 W u15 (by decide) (by decide);have kB:=fun W=>turn_any x15 18 W u15 (by decide) (by decide);have kC:=fun W=>turn_any x2 17 W u2 (by decide) (by decide);have kD:=fun W=>turn_any x2 19 W u2 (by decide) (by decide);obtain ⟨rA,hrA⟩:∃ z,rotW x15 (32 - 7)=z:=⟨_,rfl⟩;obtain ⟨rB,hrB⟩:∃ z,rotW x15 (32 - 18)=z:=⟨_,rfl⟩;obtain ⟨rC,hrC⟩:∃ z,rotW x2 (32 - 17)=z:=⟨_,rfl⟩;obtain ⟨rD,hrD⟩:∃ z,rotW x2 (32 - 19)=z:=⟨_,rfl⟩;have hmA:mixW 7 18 0 3 x15=bits BinOp.xor .u32 (bits BinOp.xor .u32 rA rB) (x15 / 8):=by rw [← hrA,← hrB];rfl
     have hmB:mixW 17 19 0 10 x2=bits BinOp.xor .u32 (bits BinOp.xor .u32 rC rD) (x2 / 1024):=by rw [← hrC,← hrD];rfl
     have hmwA:=mix_word 7 18 0 3 u15 (by decide) (by decide) (by decide);have hmwB:=mix_word 17 19 0 10 u2 (by decide) (by decide) (by decide);rw [hrA] at kA;rw [hrB] at kB;rw [hrC] at kC;rw [hrD] at kD;have KA:Hid (∀ W,Calls Tryz.prog 129 #[.int .u32 x15,.int .i64 7] W fun e w'=>e=.returned (.int .u32 rA)∧w'=W):=Lib.hid kA;have KB:Hid (∀ W,Calls Tryz.prog 129 #[.int .u32 x15,.int .i64 18] W fun e w'=>e=.returned (.int .u32 rB)∧w'=W):=Lib.hid kB;have KC:Hid (∀ W,Calls Tryz.prog 129 #[.int .u32 x2,.int .i64 17] W fun e w'=>e=.returned (.int .u32 rC)∧w'=W):=Lib.hid kC;have KD:Hid (∀ W,Calls Tryz.prog 129 #[.int .u32 x2,.int .i64 19] W fun e w'=>e=.returned (.int .u32 rD)∧w'=W):=Lib.hid kD;obtain ⟨mA,hmA'⟩:∃ z,mixW 7 18 0 3 x15=z:=⟨_,rfl⟩;obtain ⟨mB,hmB'⟩:∃ z,mixW 17 19 0 10 x2=z:=⟨_,rfl⟩;rw [hmA'] at hmA HX hmwA;rw [hmB'] at hmB HX hmwB;obtain ⟨s1,hs1⟩:∃ z,(x16+mA) % 4294967296=z:=⟨_,rfl⟩;obtain ⟨s2,hs2⟩:∃ z,(s1+x7) % 4294967296=z:=⟨_,rfl⟩;obtain ⟨s3,hs3⟩:∃ z,(s2+mB) % 4294967296=z:=⟨_,rfl⟩;rw [hs1,hs2,hs3] at HX;have hd8:IntKind.u32.wrap (x15.tdiv 8)=x15 / 8:=by rw [Int.tdiv_eq_ediv_of_nonneg u15.1,IntKind.wrap_u32'];have:=u15.1;have:=u15.2;omega
     have hd10:IntKind.u32.wrap (x2.tdiv 1024)=x2 / 1024:=by rw [Int.tdiv_eq_ediv_of_nonneg u2.1,IntKind.wrap_u32'];have:=u2.1;have:=u2.2;omega
     have HMA:Hid (mA=bits BinOp.xor .u32 (bits BinOp.xor .u32 rA rB) (IntKind.u32.wrap (x15.tdiv 8))):=Lib.hid (by rw [hmA,hd8]);have HMB:Hid (mB=bits BinOp.xor .u32 (bits BinOp.xor .u32 rC rD) (IntKind.u32.wrap (x2.tdiv 1024))):=Lib.hid (by rw [hmB,hd10]);have Y1:=Lib.hid hs1;have Y2:=Lib.hid hs2;have Y3:=Lib.hid hs3;clear hd8 hd10;obtain ⟨n,hn⟩:∃ n,16+k=n:=⟨_,rfl⟩;rw [hn] at hLl i16 i15 i7 i2 ⊢;have hw16:IntKind.i64.wrap ((n:Int) - 16)=(q16:Int):=by rw [IntKind.wrap_i64];omega
     have hI16:(q16:Int) < 64:=by omega
     have hw15:IntKind.i64.wrap ((n:Int) - 15)=(q15:Int):=by rw [IntKind.wrap_i64];omega
     have hI15:(q15:Int) < 64:=by omega
     have hw7:IntKind.i64.wrap ((n:Int) - 7)=(q7:Int):=by rw [IntKind.wrap_i64];omega
     have hI7:(q7:Int) < 64:=by omega
     have hw2:IntKind.i64.wrap ((n:Int) - 2)=(q2:Int):=by rw [IntKind.wrap_i64];omega
     have hI2:(q2:Int) < 64:=by omega
     have hIn:(n:Int) < 64:=by omega
     have hIn0:(16:Int)≤(n:Int):=by omega
     have d15:=HR.out.m.cell c15;have d2:=HR.out.m.cell c2;have d16:=HR.out.m.cell c16;have d7:=HR.out.m.cell c7;have D16:=Lib.hid d16;have D7:=Lib.hid d7;have D2:=Lib.hid d2;obtain ⟨u150,u151⟩:=u15;obtain ⟨u20,u21⟩:=u2;clear hx hL e16 e15 e7 e2 hrA hrB hrC hrD kA kB kC kD hmA hmB hmA' hmB' c16 c15 c7 c2;clear d16 d7 d2 hs1 hs2 hs3;have SK:Hid (∀ W',Below wr.heap.size wr W'→W'.cell? ⟨w.heap.size+1+1+1,q15,none⟩=some (V32 x15)∧W'.cell? ⟨w.heap.size+1+1+1,q2,none⟩=some (V32 x2)∧W'.cell? ⟨w.heap.size+1+1+1,q16,none⟩=some (V32 x16)∧W'.cell? ⟨w.heap.size+1+1+1,q7,none⟩=some (V32 x7)):=Lib.hid (fun W' h=>⟨kCq d15 h HR.out.m.lt,kCq D2.out h HR.out.m.lt,kCq D16.out h HR.out.m.lt,kCq D7.out h HR.out.m.lt⟩);clear d15 D2 D16 D7;go_upto_region 12 with fail;refine wp_region_held_drew (S:=(fun W'=>W'.cell? ⟨w.heap.size+1+1+1,q15,none⟩=some (V32 x15)∧W'.cell? ⟨w.heap.size+1+1+1,q2,none⟩=some (V32 x2)∧W'.cell? ⟨w.heap.size+1+1+1,q16,none⟩=some (V32 x16)∧W'.cell? ⟨w.heap.size+1+1+1,q7,none⟩=some (V32 x7))) (by kernel_rfl) (SK.out _ ((Below.refl wr.heap.size wr).drew)) (fun hHeld=>?_);refine plIn [0,1,2,3,5,6,7,8,11,12,13,14,15] ?_
     iterate 13
      refine hP (v:=?_) rfl rfl hHeld ?_ ?_;rotate_left
      ·rintro wh ⟨d15,d2,d16,d7⟩
       go_simp
       (try with_reducible rfl)
      simp only [Act.put,aS1,aS2,aS3]
     refine plOut ?_;refine held_step (i:=4) rfl (by kernel_rfl) (fun K hK=>?_);go_simp;refine (KA.out _).mono ?_;rintro e wq ⟨rfl,hq⟩;obtain rfl:=hq.symm;clear hq;refine hK.out _ _ (SK.out _ ((Below.refl wr.heap.size wr).drew)) (fun hHeld=>?_);clear hK K
     (try simp only [Act.put,aS1])
     refine held_step (i:=9) rfl (by kernel_rfl) (fun K hK=>?_);go_simp;refine (KB.out _).mono ?_;rintro e wq ⟨rfl,hq⟩;obtain rfl:=hq.symm;clear hq;refine hK.out _ _ (SK.out _ ((Below.refl wr.heap.size wr).drew)) (fun hHeld=>?_);clear hK K
     (try simp only [Act.put,aS1])
     refine plIn [10,16,17] ?_
     iterate 3
      refine hP (v:=?_) rfl rfl hHeld ?_ ?_;rotate_left
      ·rintro wh ⟨d15,d2,d16,d7⟩
       go_simp
       (try with_reducible rfl)
      simp only [Act.put,aS1,aS2,aS3]
     refine plOut ?_;refine wpAnyH_done (by kernel_rfl) ?_ _;have hb1:Below wr.heap.size wr wr.drew:=(Below.refl _ _).drew;have SK1:Hid (∀ W',Below wr.drew.heap.size wr.drew W'→W'.cell? ⟨w.heap.size+1+1+1,q15,none⟩=some (V32 x15)∧W'.cell? ⟨w.heap.size+1+1+1,q2,none⟩=some (V32 x2)∧W'.cell? ⟨w.heap.size+1+1+1,q16,none⟩=some (V32 x16)∧W'.cell? ⟨w.heap.size+1+1+1,q7,none⟩=some (V32 x7)):=Lib.hid (fun W' h=>SK.out W' (hb1.trans (h.mono hb1.size)));have HR1:=Lib.hid (HR.out.later hb1);clear HR SK hb1 hHeld KA KB;rw [← HMA.out];generalize wr.drew=w1 at *;go_upto_region 13 with fail;refine wp_region_held_drew (S:=(fun W'=>W'.cell? ⟨w.heap.size+1+1+1,q15,none⟩=some (V32 x15)∧W'.cell? ⟨w.heap.size+1+1+1,q2,none⟩=some (V32 x2)∧W'.cell? ⟨w.heap.size+1+1+1,q16,none⟩=some (V32 x16)∧W'.cell? ⟨w.heap.size+1+1+1,q7,none⟩=some (V32 x7))) (by kernel_rfl) (SK1.out _ ((Below.refl w1.heap.size w1).drew)) (fun hHeld=>?_);refine plIn [0,1,2,3,5,6,7,8,11,12,13,14,15] ?_
     iterate 13
      refine hP (v:=?_) rfl rfl hHeld ?_ ?_;rotate_left
      ·rintro wh ⟨d15,d2,d16,d7⟩
       go_simp
       (try with_reducible rfl)
      simp only [Act.put,aS1,aS2,aS3]
     refine plOut ?_;refine held_step (i:=4) rfl (by kernel_rfl) (fun K hK=>?_);go_simp;refine (KC.out _).mono ?_;rintro e wq ⟨rfl,hq⟩;obtain rfl:=hq.symm;clear hq;refine hK.out _ _ (SK1.out _ ((Below.refl w1.heap.size w1).drew)) (fun hHeld=>?_);clear hK K
     (try simp only [Act.put,aS1])
     refine held_step (i:=9) rfl (by kernel_rfl) (fun K hK=>?_);go_simp;refine (KD.out _).mono ?_;rintro e wq ⟨rfl,hq⟩;obtain rfl:=hq.symm;clear hq;refine hK.out _ _ (SK1.out _ ((Below.refl w1.heap.size w1).drew)) (fun hHeld=>?_);clear hK K
     (try simp only [Act.put,aS1])
     refine plIn [10,16,17] ?_
     iterate 3
      refine hP (v:=?_) rfl rfl hHeld ?_ ?_;rotate_left
      ·rintro wh ⟨d15,d2,d16,d7⟩
       go_simp
       (try with_reducible rfl)
      simp only [Act.put,aS1,aS2,aS3]
     refine plOut ?_;refine wpAnyH_done (by kernel_rfl) ?_ _;have hb1:Below w1.heap.size w1 w1.drew:=(Below.refl _ _).drew;have HR2:=Lib.hid (HR1.out.later hb1);have SK2:=SK1.out _ hb1;clear HR1 SK1 hb1 hHeld KC KD;rw [← HMB.out];generalize w1.drew=w2 at *;have y1:IntKind.u32.wrap (x16+mA)=s1:=by rw [IntKind.wrap_u32'];exact Y1.out
     have y2:IntKind.u32.wrap (s1+x7)=s2:=by rw [IntKind.wrap_u32'];exact Y2.out
     have y3:IntKind.u32.wrap (s2+mB)=s3:=by rw [IntKind.wrap_u32'];exact Y3.out
     obtain ⟨d15,d2,d16,d7⟩:=SK2;have hw3:W32 s3:=by rw [← Y3.out];exact w32_mod _
     have hput:=(HR2.out.put n s3).later (Below.refl _ _).drew;have hset:(rowS L).set n s3=rowS (L ++ [s3]):=by have:=@rowS_next L s3 (by omega);rwa [hLl] at this
     rw [hset] at hput;have HPUT:Hid (RSt w (w2.setCell ⟨w.heap.size+1+1+1,n,none⟩ (V32 s3)).drew V (rowS (schedL bs (k+1)))):=Lib.hid (by rw [HN.out,HX.out];exact hput)
     have HWZ:Hid (∀ x∈schedL bs (k+1),W32 x):=Lib.hid (by
      rw [HN.out,HX.out];intro x hx
      rcases List.mem_append.1 hx with h | h
      ·exact HWD.out x h
      ·rw [List.mem_singleton.1 h];exact hw3)
     have hfr:=HR2.out.m.free n
     obtain ⟨old,hold⟩:∃ u,w2.cell? ⟨w.heap.size+1+1+1,n,none⟩=some u:=by
      have hl:(rowS L).length=64:=by unfold rowS;rw [List.length_append,List.length_replicate];omega
      exact ⟨_,HR2.out.m.cell (List.getElem?_eq_getElem (by omega))⟩
     have HO:=Lib.hid hold;have HF:=Lib.hid hfr;clear HR2 hput hset hw3 hfr hold Y1 Y2 Y3 HN HX HWD HMA HMB;go_wp2
     go_still_tail 15,(by kernel_rfl)
     have hold:w2.drew.cell? ⟨w.heap.size+1+1+1,n,none⟩=some old:=HO.out;have hfr:w2.drew.frozen? ⟨w.heap.size+1+1+1,n,none⟩=false:=HF.out;go_wp2;go_roundw
     case rel=>exact ⟨k+1,by omega,by rw [← hn];go_num,HPUT,HWZ⟩
     case measure=>(simp [intOf];try omega)
    ·obtain rfl:k=48:=by omega
     rw [show ((16+48:Nat):Int)=64 from rfl];obtain rfl:=HVD.out;have hl48:(schedL bs 48).length=64:=schedL_len bs 48;have hrs:rowS (schedL bs 48)=schedL bs 48:=by unfold rowS;rw [hl48];exact List.append_nil _
     rw [hrs] at HR;obtain ⟨S,hS⟩:∃ S,schedL bs 48=S:=⟨_,rfl⟩;have HSE:=Lib.hid hS;rw [hS] at HR HWD hl48;clear hrs hS HC HBY;have h0:=HR.out.h.cell (j:=0) rfl;have h1:=HR.out.h.cell (j:=1) rfl;have h2:=HR.out.h.cell (j:=2) rfl;have h3:=HR.out.h.cell (j:=3) rfl;have h4:=HR.out.h.cell (j:=4) rfl;have h5:=HR.out.h.cell (j:=5) rfl;have h6:=HR.out.h.cell (j:=6) rfl;have h7:=HR.out.h.cell (j:=7) rfl;have hba:Below wr.heap.size wr (wr.alloc (.cells #[V32 v0,V32 v1,V32 v2,V32 v3,V32 v4,V32 v5,V32 v6,V32 v7] 157)):=(Below.refl _ _).alloc (Nat.le_refl _) _;have hva:VAt (wr.alloc (.cells #[V32 v0,V32 v1,V32 v2,V32 v3,V32 v4,V32 v5,V32 v6,V32 v7] 157)) wr.heap.size [v0,v1,v2,v3,v4,v5,v6,v7]:=⟨rfl,by rw [heap_alloc_new];rfl⟩;have hG:w.heap.size+1+1+1 < wr.heap.size:=HR.out.m.lt;go_upto_region 16 with fail;change Code.wp _ _ _ _ (wr.alloc (.cells #[V32 v0,V32 v1,V32 v2,V32 v3,V32 v4,V32 v5,V32 v6,V32 v7] 157));have HR4:=Lib.hid (HR.out.later hba);generalize wr.alloc (.cells #[V32 v0,V32 v1,V32 v2,V32 v3,V32 v4,V32 v5,V32 v6,V32 v7] 157)=W5 at *;have HVA:=Lib.hid hva;clear hva hba HR h0 h1 h2 h3 h4 h5 h6 h7;generalize wr.heap.size=G at *;go_upto_region 17 with fail
     go_loopw [14] (fun vi wr=>∃ k:Nat,k≤64∧vi=.int .i64 k∧Hid (RSt w wr [v0,v1,v2,v3,v4,v5,v6,v7] S)∧Hid (VAt wr G (roundsL S [v0,v1,v2,v3,v4,v5,v6,v7] k))∧Hid (∀ x∈roundsL S [v0,v1,v2,v3,v4,v5,v6,v7] k,W32 x)) (fun vi _=>64 - (intOf vi).toNat)
     case atStart=>exact ⟨0,Nat.zero_le _,rfl,HR4,HVA,HV⟩
     case round =>
      clear HR4 HVA;obtain ⟨k,hk,rfl,HR,HA,HU⟩:=hrel
      by_cases hkl:k < 64
      ·obtain ⟨U,hU⟩:∃ U,roundsL S [v0,v1,v2,v3,v4,v5,v6,v7] k=U:=⟨_,rfl⟩
       have HN:Hid (roundsL S [v0,v1,v2,v3,v4,v5,v6,v7] (k+1)=roundL U (keyL k) (S.getD k 0)):=Lib.hid (by rw [roundsL,hU]);rw [hU] at HA HU;have hUl:=HA.out.1
       obtain ⟨x0,x1,x2,x3,x4,x5,x6,x7,rfl⟩:∃ x0 x1 x2 x3 x4 x5 x6 x7,U=[x0,x1,x2,x3,x4,x5,x6,x7]:=by
        match U,hUl with
        | [x0,x1,x2,x3,x4,x5,x6,x7],_=>exact ⟨x0,x1,x2,x3,x4,x5,x6,x7,rfl⟩
       have c0:=HA.out.cell 0 x0 rfl;have c1:=HA.out.cell 1 x1 rfl;have c2:=HA.out.cell 2 x2 rfl;have c3:=HA.out.cell 3 x3 rfl;have c4:=HA.out.cell 4 x4 rfl;have c5:=HA.out.cell 5 x5 rfl;have c6:=HA.out.cell 6 x6 rfl;have c7:=HA.out.cell 7 x7 rfl;have u0:W32 x0:=HU.out _ (by simp);have u4:W32 x4:=HU.out _ (by simp);have hck:wr.cell? ⟨w.heap.size+1,k,none⟩=some (V32 (keyL k)):=by rw [cell_row HR.out.k];exact keysV_at k hkl
       have hcw:wr.cell? ⟨w.heap.size+1+1+1,k,none⟩=some (V32 (S.getD k 0)):=HR.out.m.cell (by rw [List.getD_eq_getElem?_getD,List.getElem?_eq_getElem (by omega)];rfl);have hGl:G < wr.heap.size:=(Array.getElem?_eq_some_iff.1 HA.out.2).1;have hml:=HR.out.m.lt
       have SK:Hid (∀ W',Below wr.heap.size wr W'→W'.cell? ⟨G,0,none⟩=some (V32 x0)∧W'.cell? ⟨G,4,none⟩=some (V32 x4)∧W'.cell? ⟨G,7,none⟩=some (V32 x7)∧W'.cell? ⟨w.heap.size+1,k,none⟩=some (V32 (keyL k))∧W'.cell? ⟨w.heap.size+1+1+1,k,none⟩=some (V32 (S.getD k 0))) :=
        Lib.hid (fun W' h=>⟨kCq c0 h hGl,kCq c4 h hGl,kCq c7 h hGl,kCq hck h (by omega),kCq hcw h hml⟩)
       have hk64:(k:Int) < 64:=by omega
       have kA:=fun W=>turn_any x4 6 W u4 (by decide) (by decide);have kB:=fun W=>turn_any x4 11 W u4 (by decide) (by decide);have kC:=fun W=>turn_any x4 25 W u4 (by decide) (by decide);have kD:=fun W=>turn_any x0 2 W u0 (by decide) (by decide);have kE:=fun W=>turn_any x0 13 W u0 (by decide) (by decide);have kF:=fun W=>turn_any x0 22 W u0 (by decide) (by decide);have hM4:mixW 6 11 25 0 x4=bits BinOp.xor .u32 (bits BinOp.xor .u32 (rotW x4 (32 - 6)) (rotW x4 (32 - 11))) (rotW x4 (32 - 25)):=rfl;have hM0:mixW 2 13 22 0 x0=bits BinOp.xor .u32 (bits BinOp.xor .u32 (rotW x0 (32 - 2)) (rotW x0 (32 - 13))) (rotW x0 (32 - 22)):=rfl;have hnot:bits BinOp.xor .u32 (if IntKind.u32.signed=true then -1 else IntKind.u32.max) x4=4294967295 - x4:=not_word u4;have hnw:IntKind.u32.wrap (4294967295 - x4)=4294967295 - x4:=by rw [IntKind.wrap_u32'];have:=u4.1;have:=u4.2;omega
       have HNT:=Lib.hid hnot;have HNW:=Lib.hid hnw;generalize rotW x4 (32 - 6)=rA at *;generalize rotW x4 (32 - 11)=rB at *;generalize rotW x4 (32 - 25)=rC at *;generalize rotW x0 (32 - 2)=rD at *;generalize rotW x0 (32 - 13)=rE at *;generalize rotW x0 (32 - 22)=rF at *;have KA:Hid (∀ W,Calls Tryz.prog 129 #[.int .u32 x4,.int .i64 6] W fun e w'=>e=.returned (.int .u32 rA)∧w'=W):=Lib.hid kA;have KB:Hid (∀ W,Calls Tryz.prog 129 #[.int .u32 x4,.int .i64 11] W fun e w'=>e=.returned (.int .u32 rB)∧w'=W):=Lib.hid kB;have KC:Hid (∀ W,Calls Tryz.prog 129 #[.int .u32 x4,.int .i64 25] W fun e w'=>e=.returned (.int .u32 rC)∧w'=W):=Lib.hid kC;have KD:Hid (∀ W,Calls Tryz.prog 129 #[.int .u32 x0,.int .i64 2] W fun e w'=>e=.returned (.int .u32 rD)∧w'=W):=Lib.hid kD;have KE:Hid (∀ W,Calls Tryz.prog 129 #[.int .u32 x0,.int .i64 13] W fun e w'=>e=.returned (.int .u32 rE)∧w'=W):=Lib.hid kE;have KF:Hid (∀ W,Calls Tryz.prog 129 #[.int .u32 x0,.int .i64 22] W fun e w'=>e=.returned (.int .u32 rF)∧w'=W):=Lib.hid kF;have HM4:=Lib.hid hM4;have HM0:=Lib.hid hM0;obtain ⟨M4,hm4⟩:∃ z,mixW 6 11 25 0 x4=z:=⟨_,rfl⟩;obtain ⟨M0,hm0⟩:∃ z,mixW 2 13 22 0 x0=z:=⟨_,rfl⟩;rw [hm4] at HM4;rw [hm0] at HM0;have HMM:Hid (mixW 6 11 25 0 x4=M4∧mixW 2 13 22 0 x0=M0):=Lib.hid ⟨hm4,hm0⟩;clear kA kB kC kD kE kF hM4 hM0 hm4 hm0 hnot hnw c0 c1 c2 c3 c4 c5 c6 c7 hck hcw u0 u4;generalize keyL k=kk at *;generalize S.getD k 0=ww at *;go_upto_region 19 with fail;refine wp_region_held_drew (S:=(fun W'=>W'.cell? ⟨G,0,none⟩=some (V32 x0)∧W'.cell? ⟨G,4,none⟩=some (V32 x4)∧W'.cell? ⟨G,7,none⟩=some (V32 x7)∧W'.cell? ⟨w.heap.size+1,k,none⟩=some (V32 kk)∧W'.cell? ⟨w.heap.size+1+1+1,k,none⟩=some (V32 ww))) (by kernel_rfl) (SK.out _ ((Below.refl wr.heap.size wr).drew)) (fun hHeld=>?_);refine plIn [0,1,3,4,7,8] ?_
       iterate 6
        refine hP (v:=?_) rfl rfl hHeld ?_ ?_;rotate_left
        ·rintro wh ⟨d0,d4,d7,dk,dw⟩
         go_simp
         (try with_reducible rfl)
        simp only [Act.put,aS1,aS2,aS3]
       refine plOut ?_;refine held_step (i:=2) rfl (by kernel_rfl) (fun K hK=>?_);go_simp;refine (KA.out _).mono ?_;rintro e wq ⟨rfl,hq⟩;obtain rfl:=hq.symm;clear hq;refine hK.out _ _ (SK.out _ ((Below.refl wr.heap.size wr).drew)) (fun hHeld=>?_);clear hK K
       (try simp only [Act.put,aS1])
       refine held_step (i:=5) rfl (by kernel_rfl) (fun K hK=>?_);go_simp;refine (KB.out _).mono ?_;rintro e wq ⟨rfl,hq⟩;obtain rfl:=hq.symm;clear hq;refine hK.out _ _ (SK.out _ ((Below.refl wr.heap.size wr).drew)) (fun hHeld=>?_);clear hK K
       (try simp only [Act.put,aS1])
       refine hT (i:=6) (v:=?_) rfl rfl hHeld ?_ ?_;rotate_left
       ·rintro wh ⟨d0,d4,d7,dk,dw⟩
        go_simp
        (try with_reducible rfl)
       simp only [Act.put,aS1,aS2,aS3];refine held_step (i:=9) rfl (by kernel_rfl) (fun K hK=>?_);go_simp;refine (KC.out _).mono ?_;rintro e wq ⟨rfl,hq⟩;obtain rfl:=hq.symm;clear hq;refine hK.out _ _ (SK.out _ ((Below.refl wr.heap.size wr).drew)) (fun hHeld=>?_);clear hK K
       (try simp only [Act.put,aS1])
       refine plIn [10,11] ?_
       iterate 2
        refine hP (v:=?_) rfl rfl hHeld ?_ ?_;rotate_left
        ·rintro wh ⟨d0,d4,d7,dk,dw⟩
         go_simp
         (try with_reducible rfl)
        simp only [Act.put,aS1,aS2,aS3]
       refine plOut ?_;refine wpAnyH_done (by kernel_rfl) ?_ _;have hb1:Below wr.heap.size wr wr.drew:=(Below.refl _ _).drew;have SK1:=Lib.hid (fun W' (h:Below wr.drew.heap.size wr.drew W')=>SK.out W' (hb1.trans (h.mono hb1.size)));have HR1:=Lib.hid (HR.out.later hb1);have HA1:=Lib.hid (HA.out.later hb1);clear HR HA SK hb1 hHeld KA KB KC;rw [← HM4.out];generalize wr.drew=w1 at *;have c4:=HA1.out.cell 4 x4 rfl;have c5:=HA1.out.cell 5 x5 rfl;have c6:=HA1.out.cell 6 x6 rfl;go_upto_region 20 with fail;go_upto_region 21 with fail;obtain ⟨cc,hcc⟩:∃ z,bits BinOp.xor .u32 (bits BinOp.and .u32 x4 x5) (bits BinOp.and .u32 ((4294967295 - x4) % 4294967296) x6)=z:=⟨_,rfl⟩;have hn4:(4294967295 - x4) % 4294967296=4294967295 - x4:=by have:=HNW.out;rwa [IntKind.wrap_u32'] at this
       have HCC:Hid (bits BinOp.xor .u32 (bits BinOp.and .u32 x4 x5) (bits BinOp.and .u32 (bits BinOp.xor .u32 (if IntKind.u32.signed=true then -1 else IntKind.u32.max) x4) x6)=cc):=Lib.hid (by rw [HNT.out,← hcc,hn4]);rw [hcc];clear hcc hn4 HNT HNW c4 c5 c6;refine wp_region_held_drew (S:=(fun W'=>W'.cell? ⟨G,0,none⟩=some (V32 x0)∧W'.cell? ⟨G,4,none⟩=some (V32 x4)∧W'.cell? ⟨G,7,none⟩=some (V32 x7)∧W'.cell? ⟨w.heap.size+1,k,none⟩=some (V32 kk)∧W'.cell? ⟨w.heap.size+1+1+1,k,none⟩=some (V32 ww))) (by kernel_rfl) (SK1.out _ ((Below.refl w1.heap.size w1).drew)) (fun hHeld=>?_);refine plIn [0,1,2,3,4,5,6,7,8,9,10,11,12,13,14] ?_
       iterate 15
        refine hP (v:=?_) rfl rfl hHeld ?_ ?_;rotate_left
        ·rintro wh ⟨d0,d4,d7,dk,dw⟩
         go_simp
         (try with_reducible rfl)
        simp only [Act.put,aS1,aS2,aS3]
       refine plOut ?_;refine wpAnyH_done (by kernel_rfl) ?_ _;have hb1:Below w1.heap.size w1 w1.drew:=(Below.refl _ _).drew;have SK2:=Lib.hid (fun W' (h:Below w1.drew.heap.size w1.drew W')=>SK1.out W' (hb1.trans (h.mono hb1.size)));have HR2:=Lib.hid (HR1.out.later hb1);have HA2:=Lib.hid (HA1.out.later hb1);clear HR1 HA1 SK1 hb1 hHeld;obtain ⟨tt,htt⟩:∃ z,IntKind.u32.wrap (IntKind.u32.wrap (IntKind.u32.wrap (IntKind.u32.wrap (x7+M4)+cc)+kk)+ww)=z:=⟨_,rfl⟩;have HTT:Hid (tL M4 x4 x5 x6 x7 kk ww=tt):=Lib.hid (by unfold tL;rw [HCC.out];exact htt);rw [htt];clear htt HCC;generalize w1.drew=w2 at *;go_upto_region 22 with fail;refine wp_region_held_drew (S:=(fun W'=>W'.cell? ⟨G,0,none⟩=some (V32 x0)∧W'.cell? ⟨G,4,none⟩=some (V32 x4)∧W'.cell? ⟨G,7,none⟩=some (V32 x7)∧W'.cell? ⟨w.heap.size+1,k,none⟩=some (V32 kk)∧W'.cell? ⟨w.heap.size+1+1+1,k,none⟩=some (V32 ww))) (by kernel_rfl) (SK2.out _ ((Below.refl w2.heap.size w2).drew)) (fun hHeld=>?_);refine plIn [0,1,3,4,7,8] ?_
       iterate 6
        refine hP (v:=?_) rfl rfl hHeld ?_ ?_;rotate_left
        ·rintro wh ⟨d0,d4,d7,dk,dw⟩
         go_simp
         (try with_reducible rfl)
        simp only [Act.put,aS1,aS2,aS3]
       refine plOut ?_;refine held_step (i:=2) rfl (by kernel_rfl) (fun K hK=>?_);go_simp;refine (KD.out _).mono ?_;rintro e wq ⟨rfl,hq⟩;obtain rfl:=hq.symm;clear hq;refine hK.out _ _ (SK2.out _ ((Below.refl w2.heap.size w2).drew)) (fun hHeld=>?_);clear hK K
       (try simp only [Act.put,aS1])
       refine held_step (i:=5) rfl (by kernel_rfl) (fun K hK=>?_);go_simp;refine (KE.out _).mono ?_;rintro e wq ⟨rfl,hq⟩;obtain rfl:=hq.symm;clear hq;refine hK.out _ _ (SK2.out _ ((Below.refl w2.heap.size w2).drew)) (fun hHeld=>?_);clear hK K
       (try simp only [Act.put,aS1])
       refine hT (i:=6) (v:=?_) rfl rfl hHeld ?_ ?_;rotate_left
       ·rintro wh ⟨d0,d4,d7,dk,dw⟩
        go_simp
        (try with_reducible rfl)
       simp only [Act.put,aS1,aS2,aS3];refine held_step (i:=9) rfl (by kernel_rfl) (fun K hK=>?_);go_simp;refine (KF.out _).mono ?_;rintro e wq ⟨rfl,hq⟩;obtain rfl:=hq.symm;clear hq;refine hK.out _ _ (SK2.out _ ((Below.refl w2.heap.size w2).drew)) (fun hHeld=>?_);clear hK K
       (try simp only [Act.put,aS1])
       refine plIn [10,11] ?_
       iterate 2
        refine hP (v:=?_) rfl rfl hHeld ?_ ?_;rotate_left
        ·rintro wh ⟨d0,d4,d7,dk,dw⟩
         go_simp
         (try with_reducible rfl)
        simp only [Act.put,aS1,aS2,aS3]
       refine plOut ?_;refine wpAnyH_done (by kernel_rfl) ?_ _;have hb1:Below w2.heap.size w2 w2.drew:=(Below.refl _ _).drew;have HR3:=Lib.hid (HR2.out.later hb1);have HA3:=Lib.hid (HA2.out.later hb1);clear HR2 HA2 SK2 hb1 hHeld KD KE KF;rw [← HM0.out];generalize w2.drew=w3 at *;have c0:=HA3.out.cell 0 x0 rfl;have c1:=HA3.out.cell 1 x1 rfl;have c2:=HA3.out.cell 2 x2 rfl;go_upto_region 24 with fail;obtain ⟨mm,hmm⟩:∃ z,bits BinOp.xor .u32 (bits BinOp.xor .u32 (bits BinOp.and .u32 x0 x1) (bits BinOp.and .u32 x0 x2)) (bits BinOp.and .u32 x1 x2)=z:=⟨_,rfl⟩;have HUU:Hid (uL M0 x0 x1 x2=(M0+mm) % 4294967296):=Lib.hid (by unfold uL;rw [hmm,IntKind.wrap_u32']);rw [hmm];clear hmm HM4 HM0;have c3:=HA3.out.cell 3 x3 rfl;have c4:=HA3.out.cell 4 x4 rfl;have c5:=HA3.out.cell 5 x5 rfl;have c6:=HA3.out.cell 6 x6 rfl;have c7:=HA3.out.cell 7 x7 rfl;have f0:=HA3.out.free 0;have f1:=HA3.out.free 1;have f2:=HA3.out.free 2;have f3:=HA3.out.free 3;have f4:=HA3.out.free 4;have f5:=HA3.out.free 5;have f6:=HA3.out.free 6;have f7:=HA3.out.free 7;go_upto_region 18 with fail;obtain ⟨W6,hW6⟩:∃ z,((((((((w3.setCell ⟨G,0,none⟩ (.int .u32 ((tt+M0+mm) % 4294967296))).setCell ⟨G,1,none⟩ (.int .u32 x0)).setCell ⟨G,2,none⟩ (.int .u32 x1)).setCell ⟨G,3,none⟩ (.int .u32 x2)).setCell ⟨G,4,none⟩ (.int .u32 ((x3+tt) % 4294967296))).setCell ⟨G,5,none⟩ (.int .u32 x4)).setCell ⟨G,6,none⟩ (.int .u32 x5)).setCell ⟨G,7,none⟩ (.int .u32 x6))=z:=⟨_,rfl⟩;rw [hW6];have hq:(tt+(M0+mm) % 4294967296) % 4294967296=(tt+M0+mm) % 4294967296:=by omega
       have he:roundL [x0,x1,x2,x3,x4,x5,x6,x7] kk ww=[(tt+M0+mm) % 4294967296,x0,x1,x2,(x3+tt) % 4294967296,x4,x5,x6]:=by
        rw [show roundL [x0,x1,x2,x3,x4,x5,x6,x7] kk ww=[(tL (mixW 6 11 25 0 x4) x4 x5 x6 x7 kk ww+uL (mixW 2 13 22 0 x0) x0 x1 x2) % 4294967296,x0,x1,x2,(x3+tL (mixW 6 11 25 0 x4) x4 x5 x6 x7 kk ww) % 4294967296,x4,x5,x6] from rfl,HMM.out.1,HMM.out.2,HTT.out,HUU.out,hq]
       have HAZ:Hid (VAt W6 G (roundsL S [v0,v1,v2,v3,v4,v5,v6,v7] (k+1))):=Lib.hid (by
        rw [HN.out,he,← hW6];exact ((((((((HA3.out.put 0 ((tt+M0+mm) % 4294967296)).put 1 x0).put 2 x1).put 3 x2).put 4 ((x3+tt) % 4294967296)).put 5 x4).put 6 x5).put 7 x6))
       have HRZ:Hid (RSt w W6 [v0,v1,v2,v3,v4,v5,v6,v7] S):=Lib.hid (by
        rw [← hW6];exact ((((((((HR3.out.else_ hG 0 (.int .u32 ((tt+M0+mm) % 4294967296))).else_ hG 1 (.int .u32 x0)).else_ hG 2 (.int .u32 x1)).else_ hG 3 (.int .u32 x2)).else_ hG 4 (.int .u32 ((x3+tt) % 4294967296))).else_ hG 5 (.int .u32 x4)).else_ hG 6 (.int .u32 x5)).else_ hG 7 (.int .u32 x6)))
       have HUZ:Hid (∀ x∈roundsL S [v0,v1,v2,v3,v4,v5,v6,v7] (k+1),W32 x):=Lib.hid (by
        rw [HN.out,he];intro x hx;simp only [List.mem_cons,List.mem_nil_iff,or_false] at hx
        rcases hx with rfl | rfl | rfl | rfl | rfl | rfl | rfl | rfl
        ·exact w32_mod _
        ·exact HU.out _ (by simp)
        ·exact HU.out _ (by simp)
        ·exact HU.out _ (by simp)
        ·exact w32_mod _
        ·exact HU.out _ (by simp)
        ·exact HU.out _ (by simp)
        ·exact HU.out _ (by simp))
       clear hW6 hq he HR3 HA3 HN HU HTT HUU HMM c0 c1 c2 c3 c4 c5 c6 c7 f0 f1 f2 f3 f4 f5 f6 f7;go_wp2;go_roundw
       case rel=>exact ⟨k+1,by omega,by go_num,HRZ,HAZ,HUZ⟩
       case measure=>(simp [intOf];try omega)
      ·obtain rfl:k=64:=by omega
       rw [show ((64:Nat):Int)=64 from rfl];obtain ⟨U,hU⟩:∃ U,roundsL S [v0,v1,v2,v3,v4,v5,v6,v7] 64=U:=⟨_,rfl⟩;have HUE:=Lib.hid hU;rw [hU] at HA HU;clear hU;have hUl:=HA.out.1;have hGl:G < wr.heap.size:=(Array.getElem?_eq_some_iff.1 HA.out.2).1;have HA5:Hid (VAt wr G (partL U [v0,v1,v2,v3,v4,v5,v6,v7] 0)):=Lib.hid (by rw [partL_zero hUl];exact HA.out);clear HA;go_upto_region 26 with fail
       go_loopw [20] (fun vi wr=>∃ j:Nat,j≤8∧vi=.int .i64 j∧Hid (RSt w wr [v0,v1,v2,v3,v4,v5,v6,v7] S)∧Hid (VAt wr G (partL U [v0,v1,v2,v3,v4,v5,v6,v7] j))) (fun vi _=>8 - (intOf vi).toNat)
       case atStart=>exact ⟨0,Nat.zero_le _,rfl,HR,HA5⟩
       case round =>
        clear HR HA5;obtain ⟨j,hj,rfl,HR,HA⟩:=hrel
        by_cases hjl:j < 8
        ·obtain ⟨x,hx⟩:∃ x,U.getD j 0=x:=⟨_,rfl⟩
         obtain ⟨y,hy⟩:∃ y,[v0,v1,v2,v3,v4,v5,v6,v7].getD j 0=y:=⟨_,rfl⟩;have hsc:=partL_succ U [v0,v1,v2,v3,v4,v5,v6,v7] j hjl;have hpa:=partL_at U [v0,v1,v2,v3,v4,v5,v6,v7] j hjl;rw [hx,hy] at hsc;rw [hx] at hpa;have hpl:=HA.out.1;have cx:=HA.out.cell j x (by rw [← hpa,List.getD_eq_getElem?_getD,List.getElem?_eq_getElem (by omega)];rfl);have cy:=HR.out.h.cell (j:=j) (x:=y) (by rw [← hy,List.getD_eq_getElem?_getD,List.getElem?_eq_getElem (by exact hjl)];rfl);have fx:=HA.out.free j;have hput:=HA.out.put j ((x+y) % 4294967296);rw [hsc] at hput;have HPA:Hid (VAt (wr.setCell ⟨G,j,none⟩ (.int .u32 ((x+y) % 4294967296))).drew G (partL U [v0,v1,v2,v3,v4,v5,v6,v7] (j+1))):=Lib.hid hput;have HPR:Hid (RSt w (wr.setCell ⟨G,j,none⟩ (.int .u32 ((x+y) % 4294967296))).drew [v0,v1,v2,v3,v4,v5,v6,v7] S):=Lib.hid ((HR.out.else_ hG j (.int .u32 ((x+y) % 4294967296))).later (Below.refl _ _).drew);have hj8:(j:Int) < 8:=by omega
         have CX:=Lib.hid cx;have CY:=Lib.hid cy;have FX:=Lib.hid fx;clear hx hy hsc hpa hput fx HR HA;go_wp2
         go_still_tail 8,(by kernel_rfl)
         have cx:wr.drew.cell? ⟨G,j,none⟩=some (V32 x):=CX.out;have fx:wr.drew.frozen? ⟨G,j,none⟩=false:=FX.out;go_wp2;go_roundw
         case rel=>exact ⟨j+1,by omega,by go_num,HPR,HPA⟩
         case measure=>(simp [intOf];try omega)
        ·obtain rfl:j=8:=by omega
         rw [partL_all] at HA
         have hadd:addL U [v0,v1,v2,v3,v4,v5,v6,v7]=blockL bs [v0,v1,v2,v3,v4,v5,v6,v7]:=by
          unfold blockL addL;rw [HSE.out,HUE.out];exact List.map_congr_left (fun i _=>by rw [Int.add_comm])
         have HAD:=Lib.hid hadd;rw [hadd] at HA;have hUl:=HA.out.1;obtain ⟨Z,hZ⟩:∃ Z,blockL bs [v0,v1,v2,v3,v4,v5,v6,v7]=Z:=⟨_,rfl⟩;rw [hZ] at HA hUl
         obtain ⟨x0,x1,x2,x3,x4,x5,x6,x7,rfl⟩:∃ x0 x1 x2 x3 x4 x5 x6 x7,Z=[x0,x1,x2,x3,x4,x5,x6,x7]:=by
          match Z,hUl with
          | [x0,x1,x2,x3,x4,x5,x6,x7],_=>exact ⟨x0,x1,x2,x3,x4,x5,x6,x7,rfl⟩
         have c0:=HA.out.cell 0 x0 rfl;have c1:=HA.out.cell 1 x1 rfl;have c2:=HA.out.cell 2 x2 rfl;have c3:=HA.out.cell 3 x3 rfl;have c4:=HA.out.cell 4 x4 rfl;have c5:=HA.out.cell 5 x5 rfl;have c6:=HA.out.cell 6 x6 rfl;have c7:=HA.out.cell 7 x7 rfl;have g0:=tFq HR.out.r 0 (by decide);have g1:=tFq HR.out.r 1 (by decide);have g2:=tFq HR.out.r 2 (by decide);have g3:=tFq HR.out.r 3 (by decide);have g4:=tFq HR.out.r 4 (by decide);have g5:=tFq HR.out.r 5 (by decide);have g6:=tFq HR.out.r 6 (by decide);have g7:=tFq HR.out.r 7 (by decide);obtain ⟨z0,e0⟩:=there_cell8 HR.out.r 0 (by decide);obtain ⟨z1,e1⟩:=there_cell8 HR.out.r 1 (by decide);obtain ⟨z2,e2⟩:=there_cell8 HR.out.r 2 (by decide);obtain ⟨z3,e3⟩:=there_cell8 HR.out.r 3 (by decide);obtain ⟨z4,e4⟩:=there_cell8 HR.out.r 4 (by decide);obtain ⟨z5,e5⟩:=there_cell8 HR.out.r 5 (by decide);obtain ⟨z6,e6⟩:=there_cell8 HR.out.r 6 (by decide);obtain ⟨z7,e7⟩:=there_cell8 HR.out.r 7 (by decide);have HZ:=Lib.hid hZ;clear hZ hadd HAD;go_wp2;refine bodyPost_ret (results_agg1 rfl _ _ (w.heap.size+1+1) [V32 x0,V32 x1,V32 x2,V32 x3,V32 x4,V32 x5,V32 x6,V32 x7] (.array 8 34) rfl (World.rangeAt_setCells_same _ (w.heap.size+1+1) 0 [V32 x0,V32 x1,V32 x2,V32 x3,V32 x4,V32 x5,V32 x6,V32 x7] HR.out.r) Tryz.underlying157 rfl (by kernel_rfl)) rfl ?_;exact ⟨by rw [HZ.out];rfl,below_puts (g:=w.heap.size+1+1) (o:=0) HR.out.b (by omega) [V32 x0,V32 x1,V32 x2,V32 x3,V32 x4,V32 x5,V32 x6,V32 x7]⟩
theorem padN_is (n:Nat):(n+1+padN (n % 64)) % 64=56∧∀ m,m < padN (n % 64)→(n+1+m) % 64≠56:=by
 have h:=Nat.mod_lt n (show 0 < 64 by decide);unfold padN
 split
 ·exact ⟨by omega,fun m hm=>by omega⟩
 ·exact ⟨by omega,fun m hm=>by omega⟩
theorem padN_lt (n:Nat):padN (n % 64) < 64:=by
 have h:=Nat.mod_lt n (show 0 < 64 by decide);unfold padN
 split <;> omega
theorem addL_word (V U:List Int):∀ x∈addL V U,W32 x:=by
 intro x hx;obtain ⟨i,_,rfl⟩:=List.mem_map.1 (show x∈(List.range 8).map _ from hx);exact w32_mod _
theorem blocks_word (B:List Int):∀ k,∀ x∈blocksL startL B k,W32 x
 | 0=>by intro x hx;exact (show ∀ x∈startL,0≤x∧x < 4294967296 by decide) x hx
 | k+1=>by intro x hx;exact addL_word _ _ x hx
def lenS:Value→Nat
 | .slice _ n _=>n
 | _=>0
theorem by_append (a b:List Int):(a ++ b).map V8=a.map V8 ++ b.map V8:=List.map_append
theorem exec_loadR {o:Oper} {a:Act} {w:World} (ty:TypeId) (x:Operand) (ho:o.op=.load ty x) (b:Nat) (hx:a.eval x=.pointer (some ⟨b,0,none⟩)) (cs:Array Value) (t:TypeId) (d:TypeDesc)
  (hc:w.heap[b]?=some (.cells cs t (0,0))) (hu:Tryz.prog.underlying ty=some d) (hd:d.isRow=true) (hi:(Tryz.prog.info? ty).map (·.size)=some cs.size):(execOp a.eval o).run Tryz.prog w=.ok (.value (.agg cs)) w:=by
 have hr:w.rangeAt b 0 cs.toList:=fun j v hv=>by
  rw [Nat.zero_add,cell_row hc]
  simpa using hv
 unfold execOp;simp only [ho,hx];rw [Sem.run_bind,run_loadAt_mid w b 0 ty cs.toList d hr hu hd (by simpa using hi)]
 simp
structure OfSt (w wr:World) (H base:Nat) (vm:Value) (B V:List Int):Prop where
 h:VR wr H V 157
 k:wr.heap[H+1]?=some (.cells keysV 159 (0,0))
 r:wr.heap[w.heap.size]?=some (.cells (Array.replicate 32 (.int .u8 0)) 133 (0,0))
 o:wr.ownsRow base 5 1 vm B.length (B.map V8)
 b:Below w.heap.size w wr
theorem OfSt.later {w wr W:World} {H base:Nat} {vm:Value} {B V:List Int} (h:OfSt w wr H base vm B V) (hb:Below wr.heap.size wr W):OfSt w W H base vm B V :=
 ⟨h.h.later hb,by rw [hb.block _ (Array.getElem?_eq_some_iff.1 h.k).1];exact h.k,by rw [hb.block _ (Array.getElem?_eq_some_iff.1 h.r).1];exact h.r,own_later h.o hb,h.b.trans (hb.mono h.b.size)⟩
theorem OfSt.put {w wr:World} {H base:Nat} {vm:Value} {B V:List Int} (h:OfSt w wr H base vm B V) (hw:w.heap.size < H) (hH:H < base) (j:Nat) (x:Int):OfSt w (wr.setCell ⟨H,j,none⟩ (V32 x)) H base vm B (V.set j x) :=
 ⟨h.h.put j x,by rw [heap_else _ _ _ _ _ (by omega)];exact h.k,by rw [heap_else _ _ _ _ _ (by omega)];exact h.r,h.o.kept (grown_setCell wr H j _) (by
  cases e:vm.ownBlock with
  | none=>exact .inl rfl
  | some g=>right;intro e2;have:=(h.o.lt g e).1;cases e2;omega),h.b.trans (below_setCell wr _ _ _ (by omega))⟩
theorem whole_byte {bs:List Int} (hB:ByteL bs):ByteL (wholeL bs):=by
 have:=pad_bytes hB (padN (bs.length % 64)) (IntKind.u64.wrap (IntKind.u64.wrap bs.length * 8))
 rw [List.append_nil] at this;exact this
theorem OfSt.block {w wr:World} {H base g c:Nat} {B V:List Int} (h:OfSt w wr H base (.slice (some ⟨g,0,none⟩) B.length c) B V) (hB:ByteL B) (z:Nat) (hz:z+64≤B.length):Bytes8 wr ⟨g,z,none⟩ ((B.drop z).take 64):=by
 have hl:((B.drop z).take 64).length=64:=by rw [List.length_take,List.length_drop];omega
 refine ⟨g,z,rfl,(h.o.lt g rfl).2,fun j hj=>?_⟩;have hjz:z+j < B.length:=by omega
 have e:((B.drop z).take 64)[j]=B[z+j]:=by rw [List.getElem_take,List.getElem_drop]
 have hc:=h.o.cells (g:=g) rfl (z+j) (V8 B[z+j]) (by rw [List.getElem?_map,List.getElem?_eq_getElem hjz];rfl);rw [Addr.add_mid,Nat.zero_add] at hc;rw [e];exact ⟨hc,hB _ (List.getElem_mem hjz)⟩
set_option maxHeartbeats 60000000 in
set_option maxRecDepth 100000 in
theorem rof2_any (bs:List Int) (v:Value) (w:World) (hb:ByAt w v bs) (hB:ByteL bs) (hl:bs.length≤1000000000000) :
  Calls Tryz.prog 98 #[v] w fun e w'=>e=.returned (.agg ((ofL bs).map V8).toArray)∧Below w.heap.size w w':=by
 obtain ⟨i0,hi,hz0,hz1,hz2⟩:=info_parts info_u8;obtain ⟨va,vc,rfl,hvc,_⟩:=RdAt.shape hb;have hb0:=aBq w (.cells (Array.replicate 32 (.int .u8 0)) 133);have hz:=World.size_alloc w (.cells (Array.replicate 32 (.int .u8 0)) 133);have hR0:(w.alloc (.cells (Array.replicate 32 (.int .u8 0)) 133)).heap[w.heap.size]?=some (.cells (Array.replicate 32 (.int .u8 0)) 133 (0,0)):=heap_alloc_new _ _;have hv0:=hb.later hb0;clear hb
 go_enter Tryz.func98,Tryz.ntmps98
 go_upto_region 1 with fail;change Code.wp _ _ _ _ (w.alloc (.cells (Array.replicate 32 (.int .u8 0)) 133));generalize w.alloc (.cells (Array.replicate 32 (.int .u8 0)) 133)=w0 at *;have hlt0:w.heap.size < w0.heap.size:=by omega
 clear hz;have k1:=rstart_any w0;go_wp2_with fail
 refine k1.mono ?_;rintro e w1 ⟨rfl,hb1⟩;have k2:=rkeys_any w1;go_wp2_with fail
 refine k2.mono ?_;rintro e w2 ⟨rfl,hb2⟩;have hb12:=hb1.trans (hb2.mono hb1.size);have HV2:=Lib.hid (hv0.later hb12);have HR2:Hid (w2.heap[w.heap.size]?=some (.cells (Array.replicate 32 (.int .u8 0)) 133 (0,0))):=Lib.hid (by rw [hb12.block _ hlt0];exact hR0);have HB2:=Lib.hid (hb0.trans (hb12.mono hb0.size));have hlt2:w.heap.size < w2.heap.size:=Nat.lt_of_lt_of_le hlt0 hb12.size;clear k1 k2 hb1 hb2 hb12 hv0 hR0 hb0 hlt0;obtain ⟨WA,hWA⟩:∃ z,(w2.alloc (.cells (Array.replicate 8 (V32 0)) 157)).alloc (.cells (Array.replicate 64 (V32 0)) 159)=z:=⟨_,rfl⟩
 have hgA:WA.heap[w2.heap.size]?=some (.cells (Array.replicate 8 (V32 0)) 157 (0,0)):=by
  rw [← hWA];have hba:=aBq (w2.alloc (.cells (Array.replicate 8 (V32 0)) 157)) (.cells (Array.replicate 64 (V32 0)) 159);rw [hba.block _ (by rw [World.size_alloc];omega),heap_alloc_new]
 have hgB:WA.heap[w2.heap.size+1]?=some (.cells (Array.replicate 64 (V32 0)) 159 (0,0)):=by
  rw [← hWA]
  have:=heap_alloc_new (w2.alloc (.cells (Array.replicate 8 (V32 0)) 157)) (.cells (Array.replicate 64 (V32 0)) 159)
  rwa [World.size_alloc] at this
 have hbA:Below w2.heap.size w2 WA:=by rw [← hWA];exact ((Below.refl _ _).alloc (Nat.le_refl _) _).alloc (by simp) _
 have hsA:WA.heap.size=w2.heap.size+1+1:=by rw [← hWA,World.size_alloc,World.size_alloc]
 have hgB2:(WA.setRow w2.heap.size startV).heap[w2.heap.size+1]?=some (.cells (Array.replicate 64 (V32 0)) 159 (0,0)):=by rw [setRow_other _ _ _ _ (by omega)];exact hgB
 go_upto_region 2 with (first | (refine wpList_store_row rfl 157 (.tmp 3) (.tmp 15) rfl w2.heap.size startV rfl rfl 157 _ (by rw [← hWA] at hgA;exact hgA) (by kernel_rfl) (by rfl) (by kernel_rfl) ?_) | (refine wpList_store_row rfl 159 (.tmp 4) (.tmp 16) rfl (w2.heap.size+1) keysV rfl rfl 159 _ (by rw [← hWA] at hgB2;exact hgB2) (by kernel_rfl) (by rfl) (by kernel_rfl) ?_))
 have hw3:VR ((WA.setRow w2.heap.size startV).setRow (w2.heap.size+1) keysV) w2.heap.size startL 157:=by
  unfold VR;rw [setRow_other _ _ _ _ (by omega)];exact setRow_heap _ _ _ _ _ _ hgA
 have hk3:=setRow_heap _ _ _ keysV _ _ hgB2;have hs3:((WA.setRow w2.heap.size startV).setRow (w2.heap.size+1) keysV).heap.size=w2.heap.size+1+1:=by rw [setRow_size,setRow_size,hsA]
 have hb3:Below w2.heap.size w2 ((WA.setRow w2.heap.size startV).setRow (w2.heap.size+1) keysV):=below_setRow (below_setRow hbA (Nat.le_refl _) _) (by omega) _;subst hWA;change Code.wp _ _ _ _ ((((w2.alloc (.cells (Array.replicate 8 (V32 0)) 157)).alloc (.cells (Array.replicate 64 (V32 0)) 159)).setRow w2.heap.size startV).setRow (w2.heap.size+1) keysV);generalize (((w2.alloc (.cells (Array.replicate 8 (V32 0)) 157)).alloc (.cells (Array.replicate 64 (V32 0)) 159)).setRow w2.heap.size startV).setRow (w2.heap.size+1) keysV=w3 at *;have HV3:=Lib.hid (HV2.out.later hb3);have HR3:Hid (w3.heap[w.heap.size]?=some (.cells (Array.replicate 32 (.int .u8 0)) 133 (0,0))):=Lib.hid (by rw [hb3.block _ hlt2];exact HR2.out);have HB3:=Lib.hid (HB2.out.trans (hb3.mono HB2.out.size));have HH3:=Lib.hid hw3;have HK3:=Lib.hid hk3;obtain ⟨H,hH⟩:∃ H,w2.heap.size=H:=⟨_,rfl⟩;rw [hH] at HH3 HK3 hs3 hlt2
 try rw [hH]
 clear hgA hgB hgB2 hbA hsA hw3 hk3 hb3 HV2 HR2 HB2 hH w2;have hn0:0+bs.length≤maxLen:=by unfold maxLen;omega
 have hn1:(0+bs.length) * 1≤140737488355328:=by omega
 have hn2:0+bs.length+1≤maxLen:=by unfold maxLen;omega
 have hn3:(0+bs.length+1) * 1≤140737488355328:=by omega
 have h128:∀ y∈[V8 128],y.oneCell'=true:=by simp [Value.oneCell']
 go_upto_region 3 with (first
  | (at_builtin;(refine wpList_append_rd2 rfl (.const (.slice none 0 0)) (.tmp 17) 100 rfl w3.heap.size 5 i0 (.int .u8 0) 1 1 Tryz.underlying100 hi hz0 hz1 hz2 rfl (by decide) _ 0 [] rfl (World.ownsRow_nil _ _ _ _) _ bs.length _ rfl HV3.out (v8_cells _) hn0 hn1 (Nat.le_refl _) ?_);intro m1 u1 hown1 hgrow1 _;have ho1:=hown1.alloc (.cells #[V8 128] 5);have hbb1:=((Below.refl w3.heap.size w3).grown hgrow1 (Nat.le_refl _) (fun j hj=>by cases hj)).alloc (by have:=hgrow1.size;exact this) (.cells #[V8 128] 5))
  | (at_builtin;(refine wpList_append_rd2 rfl (.tmp 18) (.tmp 19) 100 rfl w3.heap.size 5 i0 (.int .u8 0) 1 1 Tryz.underlying100 hi hz0 hz1 hz2 rfl (by decide) _ _ _ rfl ho1 _ 1 _ rfl (rd_one8 u1 (V8 128) 5) h128 hn2 hn3 hbb1.size ?_);intro m2 u2 hown2 hgrow2 _))
 have hb2:=hbb1.grown hgrow2 hbb1.size (fun k hk=>(ho1.lt k hk).1)
 have HO2:Hid (u2.ownsRow w3.heap.size 5 1 m2 (bs.length+1+0) ((bs ++ [128] ++ List.replicate 0 0).map V8)):=Lib.hid (by
  have:=hown2
  rw [List.nil_append] at this
  simpa [by_append,Nat.zero_add] using this)
 clear hown1 hgrow1 ho1 hbb1 hown2 hgrow2 hn0 hn1 hn2 hn3 h128;have hpd:=padN_is bs.length;have hpl:=padN_lt bs.length;obtain ⟨M,hM⟩:∃ M,padN (bs.length % 64)=M:=⟨_,rfl⟩;have HM:=Lib.hid hM;rw [hM] at hpd hpl;have HPD:=Lib.hid hpd;clear hpd hM
 go_loopw [5] (fun vm wr=>∃ m:Nat,m≤M∧Hid (wr.ownsRow w3.heap.size 5 1 vm (bs.length+1+m) ((bs ++ [128] ++ List.replicate m 0).map V8))∧Below w3.heap.size w3 wr) (fun vm _=>bs.length+1+M - lenS vm)
 case atStart=>exact ⟨0,Nat.zero_le _,HO2,hb2⟩
 case round =>
  clear HO2 hb2;obtain ⟨m,hm,HO,hbr⟩:=hrel;obtain ⟨a2,c2,rfl,hc2,-⟩:=RdAt.shape (RdAt.own HO.out);obtain ⟨n,hn⟩:∃ n,bs.length+1+m=n:=⟨_,rfl⟩;have hn62:n≤1000000000100:=by omega
  by_cases hmM:m < M
  ·have hne:=HPD.out.2 m hmM
   rw [hn] at hne HO hc2 ⊢;have hnb:((n:Int) % 64 != 56)=true:=by rw [bne_iff_ne];omega
   have hrd:=rd_one8 wr (V8 0) 5;have hoa:=HO.out.alloc (.cells #[V8 0] 5);have hba:=hbr.alloc hbr.size (.cells #[V8 0] 5);have hx0:∀ y∈[V8 0],y.oneCell'=true:=by simp [Value.oneCell']
   have hx1:n+1≤maxLen:=by unfold maxLen;omega
   have hx2:(n+1) * 1≤140737488355328:=by omega
   go_wp2_with (at_builtin;(refine wpList_append_rd2 rfl (.tmp 25) (.tmp 26) 100 rfl w3.heap.size 5 i0 (.int .u8 0) 1 1 Tryz.underlying100 hi hz0 hz1 hz2 rfl (by decide) _ _ _ rfl hoa _ 1 _ rfl hrd hx0 hx1 hx2 hba.size ?_);intro v3 w4 hown3 hgrow3 _)
   have hb4:=hba.grown hgrow3 hba.size (fun k hk=>(hoa.lt k hk).1);have HO4:=Lib.hid hown3;obtain ⟨a3,c3,rfl,-,-⟩:=RdAt.shape (RdAt.own hown3);clear hown3 hgrow3 hoa hba hrd hx0 hx1 hx2 HO;go_roundw
   case rel =>
    refine ⟨m+1,by omega,Lib.hid ?_,hb4⟩
    have:=HO4.out
    rw [show bs.length+1+(m+1)=n+1 by omega,List.replicate_succ',← List.append_assoc,List.map_append];exact this
   case measure=>(show _ - (n+1) < _ - n;omega)
  ·obtain rfl:m=M:=by omega
   have hnb:((n:Int) % 64 != 56)=false:=by rw [bne_eq_false_iff_eq];have:=HPD.out.1;omega
   rw [hn] at HO hc2 ⊢;obtain ⟨L,hL⟩:∃ L,bs ++ [128] ++ List.replicate m 0=L:=⟨_,rfl⟩;have HL:=Lib.hid hL;rw [hL] at HO;have HLL:Hid (L.length=n):=Lib.hid (by rw [← hL];simp;omega);clear hL;go_upto_region 7 with fail;obtain ⟨NN,hNN⟩:∃ NN:Nat,bs.length * 8=NN:=⟨_,rfl⟩;have hNc:(bs.length:Int) * 8=(NN:Int):=by omega
   rw [hNc];have HNN:=Lib.hid hNN;clear hNN hNc;have hb0':Hid (wr.ownsRow w3.heap.size 5 1 (.slice a2 n c2) (n+0) ((L ++ lenL (NN:Int) 0).map V8)):=Lib.hid (by simpa [lenL] using HO.out)
   go_loopw [7,5] (fun vi vm wr=>∃ k:Nat,k≤8∧vi=.int .i64 (7 - (k:Int))∧Hid (wr.ownsRow w3.heap.size 5 1 vm (n+k) ((L ++ lenL (NN:Int) k).map V8))∧Below w3.heap.size w3 wr) (fun vi _ _=>(intOf vi+1).toNat)
   case atStart=>exact ⟨0,Nat.zero_le _,rfl,hb0',hbr⟩
   case round =>
    clear hb0' HO hbr;obtain ⟨k,hk,rfl,HO,hbr⟩:=hrel;obtain ⟨a4,c4,rfl,hc4,-⟩:=RdAt.shape (RdAt.own HO.out)
    by_cases hk8:k < 8
    ·obtain ⟨q,hq⟩:∃ q:Nat,q+k=7:=⟨7 - k,by omega⟩
     have hqi:7 - (k:Int)=(q:Int):=by omega
     rw [hqi];have hq0:(0:Int)≤(q:Int):=by omega
     go_upto_region 11 with fail;have HO0:=HO
     go_loopw [9,8] (fun vj vn wr=>∃ j:Nat,j≤q∧vj=.int .i64 j∧vn=.int .u64 ((NN / 256 ^ j:Nat):Int)∧Hid (wr.ownsRow w3.heap.size 5 1 (.slice a4 (n+k) c4) (n+k) ((L ++ lenL (NN:Int) k).map V8))∧Below w3.heap.size w3 wr) (fun vj _ _=>q - (intOf vj).toNat)
     case atStart=>exact ⟨0,Nat.zero_le _,rfl,by rw [Nat.pow_zero,Nat.div_one],HO0,hbr⟩
     case round =>
      clear HO HO0 hbr;obtain ⟨j,hj,rfl,rfl,HO,hbr⟩:=hrel;have HND:Hid (NN / 256 ^ (j+1)=NN / 256 ^ j / 256):=Lib.hid (by rw [Nat.pow_succ,Nat.div_div_eq_div_mul]);have hyb:NN / 256 ^ j≤NN:=Nat.div_le_self _ _;have hNb:NN≤8000000000000:=by have:=HNN.out;omega
      obtain ⟨y,hy⟩:∃ y,NN / 256 ^ j=y:=⟨_,rfl⟩;rw [hy] at HND hyb ⊢;have hy0:(0:Int)≤(y:Int):=by omega
      have hy1:(y:Int)≤8000000000000:=by omega
      by_cases hjq:j < q
      ·clear hy
       go_wp2;go_roundw
       case rel=>exact ⟨j+1,by omega,by go_num,by rw [HND.out];rfl,HO,hbr⟩
       case measure=>(simp [intOf];try omega)
      ·obtain rfl:j=q:=by omega
       have HBT:Hid ((y:Int) % 256=(NN:Int) / 2 ^ (56 - 8 * k) % 256):=Lib.hid (by
        rw [← hy,show 56 - 8 * k=8 * j by omega,Int.natCast_ediv,Int.natCast_pow,Int.pow_mul];rfl)
       obtain ⟨x,hx⟩:∃ x,(y:Int) % 256=x:=⟨_,rfl⟩;have hx0:0≤x:=by omega
       have hx1:x < 256:=by omega
       have HBX:Hid (x=(NN:Int) / 2 ^ (56 - 8 * k) % 256):=Lib.hid (by rw [← hx];exact HBT.out);have hrd:=rd_one8 wr (V8 x) 5;have hoa:=HO.out.alloc (.cells #[V8 x] 5);have hba:=hbr.alloc hbr.size (.cells #[V8 x] 5);have hz0':∀ y∈[V8 x],y.oneCell'=true:=by simp [Value.oneCell']
       have hz1':n+k+1≤maxLen:=by unfold maxLen;omega
       have hz2':(n+k+1) * 1≤140737488355328:=by omega
       have hwx:IntKind.u8.wrap x=x:=by rw [IntKind.wrap_u8'];omega
       clear hy HND HBT;go_wp2_with (at_builtin;(refine wpList_append_rd2 rfl (.tmp 44) (.tmp 48) 100 rfl w3.heap.size 5 i0 (.int .u8 0) 1 1 Tryz.underlying100 hi hz0 hz1 hz2 rfl (by decide) _ _ _ rfl hoa _ 1 _ rfl hrd hz0' hz1' hz2' hba.size ?_);intro v3 w4 hown3 hgrow3 _)
       have hb4:=hba.grown hgrow3 hba.size (fun k hk=>(hoa.lt k hk).1)
       have HO4:Hid (w4.ownsRow w3.heap.size 5 1 v3 (n+(k+1)) ((L ++ lenL (NN:Int) (k+1)).map V8)):=Lib.hid (by
        have:=hown3
        rw [lenL_succ,← HBX.out,← List.append_assoc,List.map_append];exact this)
       clear hown3 hgrow3 hoa hba hrd hz0' hz1' hz2' HO;go_roundw
       case rel=>exact ⟨k+1,by omega,by first | (congr 1;omega) | go_num,HO4,hb4⟩
       case measure=>(simp [intOf];try omega)
    ·obtain rfl:k=8:=by omega
     rw [show (7:Int) - ((8:Nat):Int)=-1 from rfl]
     have hWL:L ++ lenL (NN:Int) 8=wholeL bs:=by
      unfold wholeL;rw [← HL.out,HM.out]
      congr 2
      have:=HNN.out
      rw [IntWalk.u64_in (bs.length:Int) ⟨by omega,by omega⟩,IntWalk.u64_in ((bs.length:Int) * 8) ⟨by omega,by omega⟩]
      omega
     obtain ⟨B,hBd⟩:∃ B,wholeL bs=B:=⟨_,rfl⟩;have hBl:B.length=n+8:=by rw [← hBd,← hWL,List.length_append,HLL.out,lenL_len]
     have hB64:64 ∣ B.length:=by rw [← hBd];exact wholeL_len bs
     have HBB:Hid (ByteL B):=Lib.hid (by rw [← hBd];exact whole_byte hB);rw [hWL,hBd,← hBl] at HO;rw [← hBl];have HBD:=Lib.hid hBd;obtain ⟨T,hT⟩:∃ T,B.length=64 * T:=⟨B.length / 64,by omega⟩;have HTT:=Lib.hid hT;have hBn:B.length≤1000000000200:=by omega
     have hB0:0 < B.length:=by omega
     have hlH:H+1 < w3.heap.size:=by omega
     have HST:Hid (OfSt w wr H w3.heap.size (.slice a4 B.length c4) B (blocksL startL B 0)):=Lib.hid ⟨(by unfold VR;rw [hbr.block _ (by omega)];exact HH3.out),by rw [hbr.block _ hlH];exact HK3.out,by rw [hbr.block _ (by omega)];exact HR3.out,HO.out,HB3.out.trans (hbr.mono HB3.out.size)⟩
     have hshp:∃ g,a4=some ⟨g,0,none⟩∧B.length≤c4:=by
      rcases HO.out.2 with ⟨h1,h2⟩ | ⟨g,c,cur,h1,_,_,h3,_⟩
      ·omega
      ·simp only [Value.slice.injEq] at h1
       exact ⟨g,h1.1,by rw [h1.2.2];exact h3⟩
     obtain ⟨g,rfl,hgc⟩:=hshp;clear hWL hBd hB64 hbr HO HH3 HK3 HR3 HB3 HV3 HL HLL HNN hs3;generalize w3.heap.size=Z at *;clear hT hBl;have hHZ:H < Z:=by omega
     go_upto_region 16 with fail
     go_loopw [10] (fun va wr=>∃ t:Nat,t≤T∧va=.int .i64 ((64 * t:Nat):Int)∧Hid (OfSt w wr H Z (.slice (some ⟨g,0,none⟩) B.length c4) B (blocksL startL B t))) (fun va _=>B.length - (intOf va).toNat)
     case atStart=>exact ⟨0,Nat.zero_le _,rfl,HST⟩
     case round =>
      clear HST;obtain ⟨t,ht,rfl,HS⟩:=hrel
      by_cases htT:t < T
      ·obtain ⟨z,hz⟩:∃ z,64 * t=z:=⟨_,rfl⟩
       have hzB:z+64≤B.length:=by have:=HTT.out;omega
       obtain ⟨V,hV⟩:∃ V,blocksL startL B t=V:=⟨_,rfl⟩;have hVl:V.length=8:=by rw [← hV];exact blocksL_len rfl t
       have HVW:Hid (∀ x∈V,W32 x):=Lib.hid (by rw [← hV];exact blocks_word B t);have HN:Hid (blocksL startL B (t+1)=blockL ((B.drop z).take 64) V):=Lib.hid (by rw [blocksL,hV,hz]);rw [hV] at HS
       obtain ⟨v0,v1,v2,v3,v4,v5,v6,v7,rfl⟩:∃ x0 x1 x2 x3 x4 x5 x6 x7,V=[x0,x1,x2,x3,x4,x5,x6,x7]:=by
        match V,hVl with
        | [x0,x1,x2,x3,x4,x5,x6,x7],_=>exact ⟨x0,x1,x2,x3,x4,x5,x6,x7,rfl⟩
       have hd64:((B.drop z).take 64).length=64:=by rw [List.length_take,List.length_drop];omega
       have KR:Hid (∀ W,Below wr.heap.size wr W→Calls Tryz.prog 117 #[.agg #[V32 v0,V32 v1,V32 v2,V32 v3,V32 v4,V32 v5,V32 v6,V32 v7],.agg keysV,.slice (some ⟨g,z,none⟩) 64 (c4 - z)] W fun e w'=>∃ y0 y1 y2 y3 y4 y5 y6 y7,e=.returned (.agg #[V32 y0,V32 y1,V32 y2,V32 y3,V32 y4,V32 y5,V32 y6,V32 y7])∧blockL ((B.drop z).take 64) [v0,v1,v2,v3,v4,v5,v6,v7]=[y0,y1,y2,y3,y4,y5,y6,y7]∧Below W.heap.size W w'):=Lib.hid (fun W hW=>by
        refine (rround_any ((B.drop z).take 64) v0 v1 v2 v3 v4 v5 v6 v7 ⟨g,z,none⟩ (c4 - z) W hd64 ((HS.out.later hW).block HBB.out z hzB) HVW.out).mono ?_;rintro e w' ⟨rfl,hb⟩;have hl:(blockL ((B.drop z).take 64) [v0,v1,v2,v3,v4,v5,v6,v7]).length=8:=by unfold blockL addL;simp
        generalize blockL ((B.drop z).take 64) [v0,v1,v2,v3,v4,v5,v6,v7]=Y at *
        match Y,hl with
        | [y0,y1,y2,y3,y4,y5,y6,y7],_=>exact ⟨y0,y1,y2,y3,y4,y5,y6,y7,rfl,rfl,hb⟩)
       have SK:Hid (∀ W',Below wr.heap.size wr W'→(W'.cell? ⟨H,0,none⟩=some (V32 v0)∧W'.cell? ⟨H,1,none⟩=some (V32 v1)∧W'.cell? ⟨H,2,none⟩=some (V32 v2)∧W'.cell? ⟨H,3,none⟩=some (V32 v3)∧W'.cell? ⟨H,4,none⟩=some (V32 v4)∧W'.cell? ⟨H,5,none⟩=some (V32 v5)∧W'.cell? ⟨H,6,none⟩=some (V32 v6)∧W'.cell? ⟨H,7,none⟩=some (V32 v7))∧W'.heap[H+1]?=some (.cells keysV 159 (0,0))):=Lib.hid (fun W' h =>
        ⟨⟨(HS.out.later h).h.cell (j:=0) rfl,(HS.out.later h).h.cell (j:=1) rfl,(HS.out.later h).h.cell (j:=2) rfl,(HS.out.later h).h.cell (j:=3) rfl,(HS.out.later h).h.cell (j:=4) rfl,(HS.out.later h).h.cell (j:=5) rfl,(HS.out.later h).h.cell (j:=6) rfl,(HS.out.later h).h.cell (j:=7) rfl⟩,(HS.out.later h).k⟩)
       have hz0:(0:Int)≤(z:Int):=by omega
       have hz1:(z:Int)+64≤(B.length:Int):=by omega
       have hz2:(z:Int) < (B.length:Int):=by omega
       have hz3:(z:Int)+64≤(c4:Int):=by omega
       have hw64:IntKind.i64.wrap ((z:Int)+64)=(z:Int)+64:=by rw [IntKind.wrap_i64];omega
       have hs64:((z:Int)+64 - (z:Int)).toNat=64:=by omega
       have hzc:¬ (c4=z):=by omega
       rw [hz];go_upto_region 18 with fail;refine wp_region_heldS 8 (S:=(fun W'=>(W'.cell? ⟨H,0,none⟩=some (V32 v0)∧W'.cell? ⟨H,1,none⟩=some (V32 v1)∧W'.cell? ⟨H,2,none⟩=some (V32 v2)∧W'.cell? ⟨H,3,none⟩=some (V32 v3)∧W'.cell? ⟨H,4,none⟩=some (V32 v4)∧W'.cell? ⟨H,5,none⟩=some (V32 v5)∧W'.cell? ⟨H,6,none⟩=some (V32 v6)∧W'.cell? ⟨H,7,none⟩=some (V32 v7))∧W'.heap[H+1]?=some (.cells keysV 159 (0,0)))) (by kernel_rfl) (SK.out _ ((Below.refl wr.heap.size wr).drew)) (fun hHeld=>?_);refine heldS_take (i:=0) (v:=?_) rfl rfl (by kernel_rfl) (by kernel_rfl) (by kernel_rfl) (by kernel_rfl) (by kernel_rfl) (fun _ _ _ h=>h) (by rfl) hHeld ?_ ?_;rotate_left
       ·rintro wh ⟨⟨d0,d1,d2,d3,d4,d5,d6,d7⟩,dk⟩
        go_simp
        (try with_reducible rfl)
       simp only [Act.put,aS1,aS2,aS3];refine heldS_take (i:=1) (v:=?_) rfl rfl (by kernel_rfl) (by kernel_rfl) (by kernel_rfl) (by kernel_rfl) (by kernel_rfl) (fun _ _ _ h=>h) (by rfl) hHeld ?_ ?_;rotate_left
       ·rintro wh ⟨⟨d0,d1,d2,d3,d4,d5,d6,d7⟩,dk⟩
        refine exec_loadR 159 (.tmp 4) ?_ (H+1) ?_ keysV 159 (.array 64 34) dk ?_ ?_ ?_
        ·rfl
        ·rfl
        ·exact Tryz.underlying159
        ·rfl
        ·kernel_rfl
       simp only [Act.put,aS1,aS2,aS3];refine heldS_take (i:=2) (v:=?_) rfl rfl (by kernel_rfl) (by kernel_rfl) (by kernel_rfl) (by kernel_rfl) (by kernel_rfl) (fun _ _ _ h=>h) (by rfl) hHeld ?_ ?_;rotate_left
       ·rintro wh ⟨⟨d0,d1,d2,d3,d4,d5,d6,d7⟩,dk⟩
        go_simp
        (try with_reducible rfl)
       simp only [Act.put,aS1,aS2,aS3];refine heldS_take (i:=3) (v:=?_) rfl rfl (by kernel_rfl) (by kernel_rfl) (by kernel_rfl) (by kernel_rfl) (by kernel_rfl) (fun _ _ _ h=>h) (by rfl) hHeld ?_ ?_;rotate_left
       ·rintro wh ⟨⟨d0,d1,d2,d3,d4,d5,d6,d7⟩,dk⟩
        go_simp
        (try with_reducible rfl)
       simp only [Act.put,aS1,aS2,aS3];refine heldS_take (i:=4) (v:=?_) rfl rfl (by kernel_rfl) (by kernel_rfl) (by kernel_rfl) (by kernel_rfl) (by kernel_rfl) (fun _ _ _ h=>h) (by rfl) hHeld ?_ ?_;rotate_left
       ·rintro wh ⟨⟨d0,d1,d2,d3,d4,d5,d6,d7⟩,dk⟩
        go_simp
        (try with_reducible rfl)
       simp only [Act.put,aS1,aS2,aS3];refine heldS_take (i:=5) (v:=?_) rfl rfl (by kernel_rfl) (by kernel_rfl) (by kernel_rfl) (by kernel_rfl) (by kernel_rfl) (fun _ _ _ h=>h) (by rfl) hHeld ?_ ?_;rotate_left
       ·rintro wh ⟨⟨d0,d1,d2,d3,d4,d5,d6,d7⟩,dk⟩
        go_simp
        (try with_reducible rfl)
       simp only [Act.put,aS1,aS2,aS3];refine heldS_take (i:=6) (v:=?_) rfl rfl (by kernel_rfl) (by kernel_rfl) (by kernel_rfl) (by kernel_rfl) (by kernel_rfl) (fun _ _ _ h=>h) (by rfl) hHeld ?_ ?_;rotate_left
       ·rintro wh ⟨⟨d0,d1,d2,d3,d4,d5,d6,d7⟩,dk⟩
        go_simp;rw [if_pos (by omega),if_pos (by omega),show ((z:Int)+64).toNat - z=64 by omega]
       simp only [Act.put,aS1,aS2,aS3];refine heldS_step (i:=7) rfl (by kernel_rfl) (fun K hK=>?_);go_simp;refine (KR.out _ ((Below.refl wr.heap.size wr).drew)).mono ?_;rintro e u ⟨y0,y1,y2,y3,y4,y5,y6,y7,rfl,hbl,hb⟩;have hq1:Below wr.heap.size wr u:=((Below.refl wr.heap.size wr).drew).trans (hb.mono ((Below.refl wr.heap.size wr).drew).size);have HQ1:=Lib.hid hq1;have HBL:=Lib.hid hbl;clear hb hq1 hbl;refine hK.out _ _ (SK.out _ HQ1.out) (fun hHeld=>?_);clear hK K
       (try simp only [Act.put,aS1])
       refine heldS_last (i:=8) rfl (by kernel_rfl) (by kernel_rfl) (fun K hK=>?_);obtain ⟨c0,c1,c2,c3,c4',c5,c6,c7⟩:=(SK.out _ HQ1.out).1;have f0:=(HS.out.later HQ1.out).h.free 0;have f1:=(HS.out.later HQ1.out).h.free 1;have f2:=(HS.out.later HQ1.out).h.free 2;have f3:=(HS.out.later HQ1.out).h.free 3;have f4:=(HS.out.later HQ1.out).h.free 4;have f5:=(HS.out.later HQ1.out).h.free 5;have f6:=(HS.out.later HQ1.out).h.free 6;have f7:=(HS.out.later HQ1.out).h.free 7;go_simp;refine hK.out _ _ ?_;clear hK K
       (try simp only [Act.put,aS1])
       refine wpAnyEnd_done (by kernel_rfl) ?_ _
       have HS8:Hid (OfSt w ((((((((u.setCell ⟨H,0,none⟩ (V32 y0)).setCell ⟨H,1,none⟩ (V32 y1)).setCell ⟨H,2,none⟩ (V32 y2)).setCell ⟨H,3,none⟩ (V32 y3)).setCell ⟨H,4,none⟩ (V32 y4)).setCell ⟨H,5,none⟩ (V32 y5)).setCell ⟨H,6,none⟩ (V32 y6)).setCell ⟨H,7,none⟩ (V32 y7)) H Z (.slice (some ⟨g,0,none⟩) B.length c4) B (blocksL startL B (t+1))):=Lib.hid (by
        rw [HN.out,HBL.out];exact ((((((((HS.out.later HQ1.out).put hlt2 hHZ 0 y0).put hlt2 hHZ 1 y1).put hlt2 hHZ 2 y2).put hlt2 hHZ 3 y3).put hlt2 hHZ 4 y4).put hlt2 hHZ 5 y5).put hlt2 hHZ 6 y6).put hlt2 hHZ 7 y7)
       clear HS KR SK HVW HN HBL HQ1 c0 c1 c2 c3 c4' c5 c6 c7 f0 f1 f2 f3 f4 f5 f6 f7;have hzw:(z:Int)+64=((64 * (t+1):Nat):Int):=by omega
       try simp only [Act.put,aS1,aS2,aS3]
       go_wp2;go_roundw
       case rel=>exact ⟨t+1,by omega,by first | (congr 1;omega) | go_num,HS8⟩
       case measure=>(simp [intOf];try omega)
      ·obtain rfl:t=T:=by omega
       rw [show ((64 * t:Nat):Int)=(B.length:Int) by rw [HTT.out]];obtain ⟨X,hX⟩:∃ X,blocksL startL B t=X:=⟨_,rfl⟩;have hXl:X.length=8:=by rw [← hX];exact blocksL_len rfl t
       have HXW:Hid (∀ x∈X,W32 x):=Lib.hid (by rw [← hX];exact blocks_word B t)
       have HFIN:Hid (ofL bs=outL X 32):=Lib.hid (by
        rw [of_whole,HBD.out,← hX,HTT.out,Nat.mul_div_cancel_left _ (by decide)])
       rw [hX] at HS;have hO0:=heap_alloc_new wr (.cells (Array.replicate 32 (.int .u8 0)) 133);have hla:=aBq wr (.cells (Array.replicate 32 (.int .u8 0)) 133);have HO3:Hid (ORow (wr.alloc (.cells (Array.replicate 32 (.int .u8 0)) 133)) wr.heap.size (outL X 0)):=Lib.hid (orow_new hO0 X);have HV4:=Lib.hid (HS.out.later hla).h;have HR4:=Lib.hid (HS.out.later hla).r;have HB4:=Lib.hid (HS.out.later hla).b;have hHO:H < wr.heap.size:=HS.out.h.lt;have hwO:w.heap.size < wr.heap.size:=by omega
       clear hO0 hla HS hX HBB;go_upto_region 21 with fail;change Code.wp _ _ _ _ (wr.alloc (.cells (Array.replicate 32 (.int .u8 0)) 133));obtain ⟨O,hO⟩:∃ O,wr.heap.size=O:=⟨_,rfl⟩;rw [hO] at HO3 hHO hwO ⊢;generalize wr.alloc (.cells (Array.replicate 32 (.int .u8 0)) 133)=wa at *;clear hO
       go_loopw [12] (fun vi wr=>∃ k:Nat,k≤32∧vi=.int .i64 k∧Hid (ORow wr O (outL X k))∧Hid (VR wr H X 157)∧Hid (wr.heap[w.heap.size]?=some (.cells (Array.replicate 32 (.int .u8 0)) 133 (0,0)))∧Hid (Below w.heap.size w wr)) (fun vi _=>32 - (intOf vi).toNat)
       case atStart=>exact ⟨0,Nat.zero_le _,rfl,HO3,HV4,HR4,HB4⟩
       case round =>
        clear HO3 HV4 HR4 HB4;obtain ⟨k,hk,rfl,HO,HV,HR,HB⟩:=hrel
        by_cases hkl:k < 32
        ·obtain ⟨q,hq⟩:∃ q,k / 4=q:=⟨_,rfl⟩
         obtain ⟨r,hr⟩:∃ r,k % 4=r:=⟨_,rfl⟩;have hq1:(k:Int) / 4=(q:Int):=by omega
         have hr1:(k:Int) % 4=(r:Int):=by omega
         have hq8:q < 8:=by omega
         have hI1:(q:Int) < 8:=by omega
         have hI2:(k:Int) < 32:=by omega
         have hr3:r≤3:=by omega
         have hXq:X[q]?=some (X.getD q 0):=by rw [List.getD_eq_getElem?_getD,List.getElem?_eq_getElem (by omega)];rfl
         have hyw:=HXW.out (X.getD q 0) (List.mem_of_getElem? hXq);have hcell:=HV.out.cell hXq;obtain ⟨y,hy⟩:∃ y:Nat,X.getD q 0=(y:Int):=⟨(X.getD q 0).toNat,by have:=hyw.1;omega⟩;rw [hy] at hcell hyw;have hy32:y < 4294967296:=by have:=hyw.2;omega
         have HYX:Hid (outAt X k=(y:Int) / 2 ^ (24 - 8 * r) % 256):=Lib.hid (by unfold outAt;rw [hq,hr,hy]);clear hXq hyw hy;go_upto_region 25 with fail
         go_loopw [14,13] (fun vj vn wr'=>∃ e:Nat,e+r≤3∧vj=.int .i64 (3 - (e:Int))∧vn=.int .u32 ((y / 256 ^ e:Nat):Int)∧wr'=wr) (fun vj _ _=>(intOf vj).toNat)
         case atStart=>exact ⟨0,by omega,rfl,by rw [Nat.pow_zero,Nat.div_one],by first | rfl | trivial⟩
         case round =>
          obtain ⟨e,he,rfl,rfl,rfl⟩:=hrel;have HND:Hid (y / 256 ^ (e+1)=y / 256 ^ e / 256):=Lib.hid (by rw [Nat.pow_succ,Nat.div_div_eq_div_mul]);have hnb:y / 256 ^ e≤y:=Nat.div_le_self _ _;obtain ⟨n',hn'⟩:∃ n',y / 256 ^ e=n':=⟨_,rfl⟩;rw [hn'] at HND hnb ⊢;have hn0:(0:Int)≤(n':Int):=by omega
          have hn1:(n':Int) < 4294967296:=by omega
          obtain ⟨j,hj⟩:∃ j:Nat,j+e=3:=⟨3 - e,by omega⟩;have hje:3 - (e:Int)=(j:Int):=by omega
          rw [hje]
          by_cases hjr:r < j
          ·have hjr':(r:Int) < (j:Int):=by omega
           clear hn';go_wp2;go_roundw
           case rel=>exact ⟨e+1,by omega,by first | (congr 1;omega) | go_num,by rw [HND.out];rfl,by first | rfl | trivial⟩
           case measure=>(simp [intOf];try omega)
          ·obtain rfl:j=r:=by omega
           have HBT:Hid ((n':Int) % 256=(y:Int) / 2 ^ (24 - 8 * j) % 256):=Lib.hid (by
            rw [← hn',show 24 - 8 * j=8 * e by omega,Int.natCast_ediv,Int.natCast_pow,Int.pow_mul];rfl)
           obtain ⟨x,hx⟩:∃ x,(n':Int) % 256=x:=⟨_,rfl⟩;have hx0:0≤x:=by omega
           have hx1:x < 256:=by omega
           have HX2:Hid (outAt X k=x):=Lib.hid (by rw [HYX.out,← HBT.out,hx]);have hwx:IntKind.u8.wrap x=x:=by rw [IntKind.wrap_u8'];omega
           have g2:=HO.out.old k (by simp [outL]) hkl;have f2:=HO.out.free k;have HST:=Lib.hid (HO.out.store (k:=k) (by simp [outL]) hkl x);have HV2:=Lib.hid (HV.out.else_ (g':=O) (by omega) k (V8 x));have hR2:=Lib.hid ((heap_setCell_other wr ⟨O,k,none⟩ w.heap.size (V8 x) (by show w.heap.size≠O;omega)).trans HR.out);have hB2:=Lib.hid (HB.out.trans (below_setCell (B:=w.heap.size) wr O k (V8 x) (by omega)));clear hn' HND HBT HO HV HR HB HYX;go_wp2;go_roundw
           case rel =>
            refine ⟨k+1,by omega,by go_num,Lib.hid ?_,HV2,hR2,hB2⟩;rw [outL_succ,HX2.out];exact HST.out
           case measure=>(simp [intOf];try omega)
        ·obtain rfl:k=32:=by omega
         rw [show ((32:Nat):Int)=32 from rfl];have hO5:wr.heap[O]?=some (.cells ((outL X 32).map V8).toArray 133 (0,0)):=by have:=HO.out.2;rw [outL_len] at this;simpa using this
         go_upto_region 29 with fail;have hOl:((outL X 32).map V8).toArray.size=32:=by simp [outL]
         have hI9:(Tryz.prog.info? 133).map (·.size)=some ((outL X 32).map V8).toArray.size:=by rw [hOl];kernel_rfl
         apply wp_region_lit
         refine wpList_load_row rfl 133 (.tmp 11) rfl O rfl 133 ((outL X 32).map V8).toArray (0,0) _ hO5 Tryz.underlying133 rfl hI9 ?_;refine wpList_store_row rfl 133 (.tmp 2) (.tmp 85) rfl w.heap.size ((outL X 32).map V8).toArray rfl rfl 133 _ HR.out hI9 (by rw [hOl];rfl) (all_oneCell_toArray (v8_cells _)) ?_;have hg2:=setRow_heap wr w.heap.size _ ((outL X 32).map V8).toArray _ _ HR.out;have hb2:Below w.heap.size w (wr.setRow w.heap.size ((outL X 32).map V8).toArray):=below_setRow HB.out (Nat.le_refl _) _;generalize wr.setRow w.heap.size ((outL X 32).map V8).toArray=w1 at *;simp only [Act.put,aS1,aS2,aS3];show Exit.then _ _ Exit.normal _ _;simp only [Exit.then];refine (by assumption:∀ (a:Act) (w:World),Code.wp _ Code.ret _ a w→_) _ _ ?_;go_wp2;refine bodyPost_ret (results_cell_row rfl _ _ w.heap.size 133 ((outL X 32).map V8).toArray (0,0) (.array 32 5) rfl hg2 Tryz.underlying133 rfl hI9) rfl ?_;exact ⟨by rw [HFIN.out],hb2⟩
theorem shortS_add (n x:Nat) (hn:n < 72057594037927936) (hx:x < 256):shortS (n:Int) (x:Int)=((n * 256+x:Nat):Int):=by
 unfold shortS;have e:IntKind.u64.wrap ((n:Int) * 256)=((2 ^ 8 * n:Nat):Int):=by rw [IntKind.wrap_u64];omega
 rw [e,bits_or_u64_nat _ _ (by omega) (by omega),← Nat.two_pow_add_eq_or_of_lt hx]
 congr 1
 omega
theorem shortK_nat {F:List Int} (hF:ByteL F) (hl:F.length=32):∀ k,k≤8→∃ n:Nat,shortK F k=(n:Int)∧n < 256 ^ k
 | 0,_=>⟨0,rfl,by decide⟩
 | k+1,hk=>by
  obtain ⟨n,hn,hb⟩:=shortK_nat hF hl k (by omega)
  have hx:0≤F.getD k 0∧F.getD k 0 < 256:=by
   rw [List.getD_eq_getElem?_getD,List.getElem?_eq_getElem (by omega)];exact hF _ (List.getElem_mem _)
  obtain ⟨x,hx2⟩:∃ x:Nat,F.getD k 0=(x:Int):=⟨(F.getD k 0).toNat,by omega⟩;have h56:256 ^ k≤256 ^ 7:=Nat.pow_le_pow_right (by decide) (by omega);refine ⟨n * 256+x,?_,?_⟩
  ·rw [shortK,hn,hx2,shortS_add n x (by omega) (by omega)]
  ·rw [Nat.pow_succ];omega
set_option maxHeartbeats 6400000 in
set_option maxRecDepth 100000 in
theorem refid_any (src:ByteArray) (fl:List Fld) (lv:Int) (c:Nat) (fr til:Int) (v:Value) (w:World) (hv:FldsAt w v fl) (hl:(idB src fl).length≤4000000) :
  Calls Tryz.prog 69 #[.agg #[.string src,v,.int .i64 lv,.int .u32 c,.int .i64 fr,.int .i64 til]] w fun e w'=>e=.returned (.int .u64 (shortL (idB src fl)))∧Below w.heap.size w w':=by
 obtain ⟨fa,fc,rfl,hfc,hfr⟩:=RdAt.shape hv;obtain ⟨i0,hi,hz0,hz1,hz2⟩:=info_parts info_u8;have HF:=Lib.hid hfr;clear hfr hv;have hsl:src.size≤4000000:=by have:=idB_le src fl 0;simp [idB,byL_len] at this hl;omega
 have hfl:fl.length≤4000000:=by
  have:fl.length≤(fl.flatMap fldB).length:=by
   clear hl HF hfc
   induction fl with
   | nil=>simp
   | cons f l ih=>simp only [List.flatMap_cons,List.length_append,fldB,List.length_cons,List.length_nil];omega
  unfold idB at hl;rw [List.length_append] at hl
  omega
 have kc:=fun W=>cv_run W src;have HL:=Lib.hid hl;clear hl
 go_enter Tryz.func69,Tryz.ntmps69
 go_upto_region 1 with fail;have hbx:=aBq w (.cells #[.string src,.slice fa fl.length fc,.int .i64 lv,.int .u32 c,.int .i64 fr,.int .i64 til] 58);have hbox:=box6 (Below.refl (w.alloc (.cells #[.string src,.slice fa fl.length fc,.int .i64 lv,.int .u32 c,.int .i64 fr,.int .i64 til] 58)).heap.size _);obtain ⟨⟨x0,x1,x2,x3,x4,x5⟩,hlt0,_⟩:=hbox;change Code.wp _ _ _ _ (w.alloc (.cells #[.string src,.slice fa fl.length fc,.int .i64 lv,.int .u32 c,.int .i64 fr,.int .i64 til] 58));generalize w.alloc (.cells #[.string src,.slice fa fl.length fc,.int .i64 lv,.int .u32 c,.int .i64 fr,.int .i64 til] 58)=w0 at *;have hcv:=cv_ownM w0 src hsl;have hca:=hcv.later (aBq (cvW w0 src) (.cells #[V8 0] 5));have hcb:Below w0.heap.size w0 ((cvW w0 src).alloc (.cells #[V8 0] 5)):=(cv_below w0 src).trans ((aBq (cvW w0 src) (.cells #[V8 0] 5)).mono (cv_below w0 src).size);have hs1:=src_one (cvW w0 src) 0;have hl1:(byL src).length+[(0:Int)].length≤8000000:=by rw [byL_len];simp;omega
 go_upto_region 3 with (at_builtin;(refine wpList_append_M rfl (.tmp 10) (.tmp 11) 100 rfl i0 hi hz0 hz1 hz2 w0.heap.size _ _ rfl hca _ [0] rfl hs1 hl1 hcb.size ?_);intro v1 w1 hO1 hB1);have hB0:=hcb.trans (hB1.mono (by omega));have HO0:Hid (OwnM w1 w0.heap.size v1 (idB src (fl.take 0))):=Lib.hid (by simpa [idB] using hO1);have HX1:=Lib.hid x1;clear hcv hca hcb hs1 hl1 hO1 hB1 x0 x1 x2 x3 x4 x5;have HB0:=Lib.hid hB0;clear hB0
 go_loopw [4,3] (fun vi vo wr=>∃ k:Nat,k≤fl.length∧vi=.int .i64 k∧Hid (OwnM wr w0.heap.size vo (idB src (fl.take k)))∧Hid (Below w0.heap.size w0 wr)) (fun vi _ _=>fl.length - (intOf vi).toNat)
 case atStart=>exact ⟨0,Nat.zero_le _,rfl,HO0,HB0⟩
 case round =>
  clear HO0 HB0;obtain ⟨k,hk,rfl,HO,HB⟩:=hrel;have x1:=kCq HX1.out HB.out hlt0
  by_cases hkl:k < fl.length
  ·obtain ⟨b,o,rfl,hb,hcell⟩:=HF.out (by omega)
   obtain ⟨x,hxe⟩:∃ x,fl[k].1=x:=⟨_,rfl⟩;obtain ⟨y,hye⟩:∃ y,fl[k].2=y:=⟨_,rfl⟩;obtain ⟨hx0,hy0⟩:=fldCells_at fl k hkl;rw [hxe] at hx0;rw [hye] at hy0;have hbw0:Below w.heap.size w wr:=hbx.trans (HB.out.mono hbx.size);have hcx:wr.cell? ⟨b,o+k * 2,none⟩=some (.string x):=kCq (hcell _ _ hx0) hbw0 hb;have hcy:wr.cell? ⟨b,o+k * 2+1,none⟩=some (.string y):=kCq (hcell _ _ hy0) hbw0 hb;have HYW:=Lib.hid (hcell _ _ hy0);have hE:Hid (idB src (fl.take (k+1))=idB src (fl.take k) ++ byL x ++ [61] ++ byL y ++ [0]):=Lib.hid (by rw [idB_take src hkl];unfold fldB;rw [hxe,hye];simp only [List.append_assoc]);have hlen:=idB_le src fl (k+1);rw [hE.out] at hlen;obtain ⟨L,hL⟩:∃ L,idB src (fl.take k)=L:=⟨_,rfl⟩;rw [hL] at hE hlen HO;have hlen2:L.length+(byL x).length+1+(byL y).length+1≤4000000:=by have:=HL.out;simp only [List.length_append,List.length_cons,List.length_nil] at hlen;omega
   have hL1:L.length+(byL x).length≤8000000:=by omega
   have hL2:(L ++ byL x).length+[(61:Int)].length≤8000000:=by simp only [List.length_append,List.length_cons,List.length_nil];omega
   have hL3:(L ++ byL x ++ [61]).length+(byL y).length≤8000000:=by simp only [List.length_append,List.length_cons,List.length_nil];omega
   have hL4:(L ++ byL x ++ [61] ++ byL y).length+[(0:Int)].length≤8000000:=by simp only [List.length_append,List.length_cons,List.length_nil];omega
   have hOr:=HO.out;have hbr:=HB.out;have ho0:w0.heap.size≤wr.heap.size:=hbr.size;have hi2:(k:Int) < (fl.length:Int):=by omega
   have hx1lt:w.heap.size < wr.heap.size:=by omega
   have hblt:b < wr.heap.size:=by have:=hbw0.size;omega
   clear hcell hxe hye hx0 hy0 hlen hlen2 hL HO HB
   go_wp2_with (first
    | (at_builtin;(refine wpList_append_M rfl (.tmp 20) (.tmp 26) 9 rfl i0 hi hz0 hz1 hz2 w0.heap.size _ _ rfl hOr _ _ rfl (src_str _ x) hL1 ho0 ?_);intro v1 u1 hO1 hB1;have hB1a:Below w0.heap.size w0 (u1.alloc (.cells #[V8 61] 5)):=(hbr.trans hB1).alloc (hbr.trans hB1).size _;have hO1a:=hO1.later (aBq u1 (.cells #[V8 61] 5)))
    | (at_builtin;(refine wpList_append_M rfl (.tmp 27) (.tmp 28) 100 rfl i0 hi hz0 hz1 hz2 w0.heap.size _ _ rfl hO1a _ [61] rfl (src_one u1 61) hL2 hB1a.size ?_);intro v2 u2 hO2 hB2';have hB2:=hB1a.trans hB2';have x12:=kCq HX1.out hB2 hlt0;have hcy2:u2.cell? ⟨b,o+k * 2+1,none⟩=some (.string y):=kCq HYW.out (hbx.trans (hB2.mono hbx.size)) hb)
    | (at_builtin;(refine wpList_append_M rfl (.tmp 30) (.tmp 36) 9 rfl i0 hi hz0 hz1 hz2 w0.heap.size _ _ rfl hO2 _ _ rfl (src_str _ y) hL3 hB2.size ?_);intro v3 u3 hO3 hB3';have hB3a:Below w0.heap.size w0 (u3.alloc (.cells #[V8 0] 5)):=(hB2.trans hB3').alloc (hB2.trans hB3').size _;have hO3a:=hO3.later (aBq u3 (.cells #[V8 0] 5)))
    | (at_builtin;(refine wpList_append_M rfl (.tmp 37) (.tmp 38) 100 rfl i0 hi hz0 hz1 hz2 w0.heap.size _ _ rfl hO3a _ [0] rfl (src_one u3 0) hL4 hB3a.size ?_);intro v4 u4 hO4 hB4';have hB4:=hB3a.trans hB4'))
   have HO4:Hid (OwnM u4 w0.heap.size v4 (idB src (fl.take (k+1)))):=Lib.hid (by rw [hE.out];exact hO4);have HB4:=Lib.hid hB4;clear hO1 hO1a hO2 hO3 hO3a hO4 hB1 hB1a hB2 hB2' hB3' hB3a hB4 hB4' x12 hcy2 hcx hcy hOr hbr;go_roundw
   case rel=>exact ⟨k+1,by omega,by go_num,HO4,HB4⟩
   case measure=>(simp [intOf];try omega)
  ·obtain rfl:k=fl.length:=by omega
   have hbs:=HO.out.at
   rw [List.take_length] at hbs;have hbr:=HB.out;have hof:=rof2_any (idB src fl) _ wr hbs (idB_byte src fl) (by have:=HL.out;omega);clear hbs HO HB;go_wp2_with fail
   refine hof.mono ?_;rintro e w2 ⟨rfl,hb2⟩;have hB2:=hbx.trans ((hbr.trans (hb2.mono hbr.size)).mono hbx.size);have hbyte:Hid (ByteL (ofL (idB src fl))):=Lib.hid (outL_byte _ _);obtain ⟨F,hF⟩:∃ F,ofL (idB src fl)=F:=⟨_,rfl⟩;have hFl:F.length=32:=by rw [← hF];exact ofL_len _
   have HSH:Hid (shortL (idB src fl)=shortK F 8):=Lib.hid (by unfold shortL;rw [hF]);rw [hF] at hbyte ⊢;have hOl:(F.map V8).toArray.size=32:=by simp [hFl]
   have hI9:(Tryz.prog.info? 133).map (·.size)=some (F.map V8).toArray.size:=by rw [hOl];kernel_rfl
   have hcs:=all_oneCell_toArray (v8_cells F)
   have hcell:∀ k,k < 32→(F.map V8).toArray[k]?=some (V8 (F.getD k 0)):=fun k hk=>by
    rw [List.getElem?_toArray,List.getElem?_map,List.getD_eq_getElem?_getD,List.getElem?_eq_getElem (by omega)];rfl
   have HC:=Lib.hid hcell;generalize (F.map V8).toArray=C at *;clear hof hF hcell
   rename_i hKK
   refine hKK _ _ ?_;refine Go.Great.wpList_allocTo rfl (some 5) rfl (.pointer (some ⟨w2.heap.size,0,none⟩)) (.cells (Array.replicate 32 (.int .u8 0)) 133) (by go_simp;rfl) ?_;refine wpList_store_row rfl 133 (.tmp 5) (.tmp 41) rfl w2.heap.size C rfl rfl 133 _ (heap_alloc_new _ _) hI9 (by rw [hOl];rfl) hcs ?_;have hg2:=setRow_heap (w2.alloc (.cells (Array.replicate 32 (.int .u8 0)) 133)) w2.heap.size _ C _ _ (heap_alloc_new _ _);have hb3:Below w.heap.size w ((w2.alloc (.cells (Array.replicate 32 (.int .u8 0)) 133)).setRow w2.heap.size C):=below_setRow (hB2.alloc hB2.size _) hB2.size _;generalize (w2.alloc (.cells (Array.replicate 32 (.int .u8 0)) 133)).setRow w2.heap.size C=w4 at *;show Exit.then _ _ Exit.normal _ _;simp only [Exit.then];have hc4:Hid (∀ k,k < 32→w4.cell? ⟨w2.heap.size,k,none⟩=some (V8 (F.getD k 0))):=Lib.hid (fun k hk=>by rw [cell_row hg2];exact HC.out k hk);clear hg2 hI9 hcs hOl HC x1;go_wp2
   go_loopw [7,6] (fun i n wr=>∃ k:Nat,k≤8∧i=.int .i64 k∧n=.int .u64 (shortK F k)∧wr=w4) (fun i _ _=>8 - (intOf i).toNat)
   case atStart=>exact ⟨0,Nat.zero_le _,rfl,rfl,rfl⟩
   case round =>
    obtain ⟨k,hk,rfl,rfl,rfl⟩:=hrel;obtain ⟨N,hN,hNb⟩:=shortK_nat hbyte.out hFl k hk;have HNN:=Lib.hid hN
    by_cases hkl:k < 8
    ·have h56:256 ^ k≤256 ^ 7:=Nat.pow_le_pow_right (by decide) (by omega)
     have hN56:N < 72057594037927936:=by omega
     have hI:(k:Int) < 8:=by omega
     have g:=hc4.out k (by omega)
     have hxb:0≤F.getD k 0∧F.getD k 0 < 256:=by
      rw [List.getD_eq_getElem?_getD,List.getElem?_eq_getElem (by omega)];exact hbyte.out _ (List.getElem_mem _)
     obtain ⟨x,hx⟩:∃ x:Nat,F.getD k 0=(x:Int):=⟨(F.getD k 0).toNat,by omega⟩;have hx256:x < 256:=by omega
     have HS:Hid (shortK F (k+1)=((N * 256+x:Nat):Int)):=Lib.hid (by rw [shortK,hN,hx,shortS_add N x hN56 hx256]);have q1:IntKind.u64.wrap (x:Int)=(x:Int):=by rw [IntKind.wrap_u64];omega
     have q2:IntKind.u64.wrap ((N:Int) * 256)=(N:Int) * 256:=by rw [IntKind.wrap_u64];omega
     have q3:IntKind.u64.wrap ((N:Int) * 256+(x:Int))=(N:Int) * 256+(x:Int):=by rw [IntKind.wrap_u64];omega
     rw [hx] at g;rw [hN];clear hx hN hxb h56 hNb;go_wp2;go_roundw
     case rel=>exact ⟨k+1,by omega,by go_num,by rw [HS.out];(first | rfl | (congr 1;omega)),by first | trivial | rfl⟩
     case measure=>(simp [intOf];try omega)
    ·obtain rfl:k=8:=by omega
     clear hNb;go_wp2;go_ret;exact ⟨by rw [HSH.out];rfl,hb3⟩
open Go.Maps
theorem fld_right {l:List Fld} (h:rightF l=true) {f:Fld} (hf:f∈l):f.2.size≤900:=by
 obtain ⟨j,hj,rfl⟩:=List.getElem_of_mem hf;unfold rightF at h;simp only [Bool.and_eq_true,List.all_eq_true] at h;have h2:=h.2 j (List.mem_range.2 hj);unfold fldOk at h2;simp only [Bool.and_eq_true,decide_eq_true_eq] at h2;have h3:=h2.1.2;rw [List.getD_eq_getElem?_getD,List.getElem?_eq_getElem hj] at h3;exact Nat.le_trans h3 (by decide)
theorem value_some {l:List Fld} (h:∀ f∈l,f.2.size≤900) (n:ByteArray):(valueF l n).size≤900:=by
 unfold valueF
 split
 ·rename_i x hf
  exact h x (List.mem_of_find?_eq_some hf)
 ·exact Nat.zero_le _
theorem rcut_l (s0 s1 s2 s4 s5:Option Addr × Nat × Nat) (rs:List Nmd) (rv:Value) (x:Al) (fv:Value) (t:Int × Nat) (m:Al) (ok:Bool) (w:World) (hv:NmdsAt w rv rs) (hl:rs.length≤maxLen) (hf:FldsAt w fv x.fl) (hfl:x.fl.length≤1000000) (hfit:NmdFit rs) (hc:x.c < 4294967296) (htc:t.2 < 4294967296)
  (hok:cutOk rs x.fl (x.lv,x.c) t=ok) (hm:cutAl rs x t=m) :
  Calls Tryz.prog 65 #[.agg #[SV s0,SV s1,SV s2,rv,SV s4,SV s5],AlV x fv,Lab t.1 t.2] w fun e w' =>
   ∃ pa pc,e=.returned (.tuple #[AlV m (.slice pa m.fl.length pc),.bool ok])∧FldsAt w' (.slice pa m.fl.length pc) m.fl∧(∀ q,(Value.slice pa m.fl.length pc).ownBlock=some q→w.heap.size≤q)∧Below w.heap.size w w':=by
 refine (rcutA_any s0 s1 s2 s4 s5 rs rv x.src x.fl fv x.lv x.c x.fr x.til t.1 t.2 w hv hl hf hfl hfit hc htc).mono ?_;rintro e w' ⟨v',h1,h2,h3,rfl⟩;rw [show (t.1,t.2)=t from rfl] at h1 ⊢;rw [hok];unfold cutAl at hm;rw [hok] at hm;subst hm
 cases ok
 ·exact ⟨none,0,rfl,RdAt.nil w' 2,(fun q h=>by cases h),h3⟩
 ·obtain ⟨pa,pc,rfl,_,_⟩:=RdAt.shape h1
  exact ⟨pa,pc,rfl,h1,h2,h3⟩
noncomputable def byA (p:PD) (l:List (Al × Value)) (a:Al) (x:PIh) (t:Int × Nat) (now:Int):Bool:=cutOk p.ra a.fl (a.lv,a.c) t&&rightA a&&ruleQ p.ra l a t now x
theorem any_step {α:Type} (f g:α→Bool) (l:List α) {n:Nat} (h:n < l.length):((l.take (n+1)).filter g).any f=(((l.take n).filter g).any f || (g l[n]&&f l[n])):=by
 rw [List.take_succ_eq_append_getElem h,List.filter_append,List.any_append]
 congr 1
 rw [List.filter_cons,List.filter_nil]
 cases g l[n] <;> simp
theorem any_end {α:Type} (f g:α→Bool) (l:List α) {n:Nat} (h:n < l.length) (hg:g l[n]=true) (hf:f l[n]=true):(l.filter g).any f=true :=
 List.any_eq_true.2 ⟨l[n],List.mem_filter.2 ⟨List.getElem_mem h,hg⟩,hf⟩
set_option maxHeartbeats 6400000 in
set_option maxRecDepth 100000 in
theorem rby_any (v:PV) (p:PD) (l:List (Al × Value)) (lv:Value) (j:Nat) (x:PIh) (tl:Int) (tc:Nat) (now:Int) (w:World) (hj:j < l.length) (hp:PolAt w v p) (hpf:PolFitD p) (hl:AlsAt w lv l) (hlen:l.length≤maxLen) (h12:∀ q∈l,q.1.fl.length≤12) (hx:IhIn w x) (hxf:IhFit x) (hok:badIh x=false) (htc:tc < 4294967296) :
  Calls Tryz.prog 31 #[v.v,lv,.int .i64 j,.agg #[x.bv,.int .i64 x.lv,.int .u32 x.c,x.fv,x.wv],Lab tl tc,.int .i64 now] w fun e w'=>e=.returned (.bool (byA p l l[j].1 x (tl,tc) now))∧Below w.heap.size w w':=by
 obtain ⟨n1,n2,n3⟩:=ih_len hok;have HR:Hid (byA p l l[j].1 x (tl,tc) now=(cutOk p.ra l[j].1.fl (l[j].1.lv,l[j].1.c) (tl,tc)&&rightA l[j].1&&(flowsL x.lv x.c tl tc&&(allM (cutAl p.ra l[j].1 (tl,tc)).fl x.whn&&(l.filter (goesA now)).any fun q=>goodBy x (idA l[j].1) (cutAl p.ra l[j].1 (tl,tc)).fl q.1)))):=Lib.hid rfl;have KAL:=Lib.hid (fun (fl:List Fld) (fv mv:Value) (ms:List Mt) W (h1:FldsAt W fv fl) (h2:fl.length≤1000000) (h3:∀ n,(valueF fl n).size≤900) (h4:MtsAt W mv ms) (h5:ms.length≤12) (h6:MtsFit ms)=>all6_any fl ms fv mv W h1 h2 (fun m _=>h3 m.nm) h4 (by omega) h6);obtain ⟨v0,v1,v2,v3,v4,v5⟩:=v;obtain ⟨h0,h1,h2,h3,⟨h4,_⟩,h5,_⟩:=hp;dsimp only at h0 h1 h2 h3 h4 h5;obtain ⟨a0,c0,rfl,_,_⟩:=RdAt.shape h0;obtain ⟨a1,c1,rfl,_,_⟩:=RdAt.shape h1;obtain ⟨a2,c2,rfl,_,_⟩:=RdAt.shape h2;obtain ⟨a3,c3,rfl,_,_⟩:=RdAt.shape h3;obtain ⟨a4,c4,rfl,_,_⟩:=RdAt.shape h4;obtain ⟨a5,c5,rfl,_,_⟩:=RdAt.shape h5;obtain ⟨la,lc,rfl,hlc,hlr⟩:=RdAt.shape hl.row;obtain ⟨b,o,rfl,hbl,hcell⟩:=hlr (by omega);have HCE:Hid (∀ i (h:i < l.length) (c:Nat) (z:Value),(alC l[i].1 l[i].2)[c]?=some z→w.cell? ⟨b,o+(i * 6+c),none⟩=some z):=Lib.hid (fun i h c z hz=>hcell _ _ (alCells_at l i h c z hz));have HFL:=Lib.hid hl.fld;have H12:=Lib.hid h12
 have KCUT:Hid (∀ (y m:Al) (ok:Bool) (fa:Option Addr) (fc:Nat) (W:World),Below w.heap.size w W→FldsAt W (.slice fa y.fl.length fc) y.fl→y.fl.length≤12→y.c < 4294967296→cutOk p.ra y.fl (y.lv,y.c) (tl,tc)=ok→cutAl p.ra y (tl,tc)=m →
   Calls Tryz.prog 65 #[.agg #[.slice a0 p.so.length c0,.slice a1 p.re.length c1,.slice a2 p.pe.length c2,.slice a3 p.ra.length c3,.slice a4 p.ro.length c4,.slice a5 p.ih.length c5],.agg #[.string y.src,.slice fa y.fl.length fc,.int .i64 y.lv,.int .u32 y.c,.int .i64 y.fr,.int .i64 y.til],Lab tl tc] W fun e w' =>
    ∃ pa pc,e=.returned (.tuple #[.agg #[.string m.src,.slice pa m.fl.length pc,.int .i64 m.lv,.int .u32 m.c,.int .i64 m.fr,.int .i64 m.til],.bool ok])∧FldsAt w' (.slice pa m.fl.length pc) m.fl∧(∀ q,(Value.slice pa m.fl.length pc).ownBlock=some q→W.heap.size≤q)∧Below W.heap.size W w') :=
  Lib.hid (fun y m ok fa fc W hW hF hy hyc hok hm=>rcut_l (a0,p.so.length,c0) (a1,p.re.length,c1) (a2,p.pe.length,c2) (a4,p.ro.length,c4) (a5,p.ih.length,c5) p.ra (.slice a3 p.ra.length c3) y (.slice fa y.fl.length fc) (tl,tc) m ok W (h3.later hW) hpf.h3.1 hF (by omega) hpf.h3.2.1 hyc htc hok hm)
 have HXB:=Lib.hid hx.b;have HXF:=Lib.hid hx.f;have HXM:=Lib.hid hx.m;have HXFIT:=Lib.hid hxf;obtain ⟨bys,xlv,xc,frm,whn,bv,fv,wv⟩:=x;dsimp only at *;obtain ⟨ba,bc,hba,hbcl,hbr⟩:=RdAt.shape hx.b;dsimp only at hba hbr;subst hba;obtain ⟨ra,rc,hra,_,_⟩:=RdAt.shape hx.f;dsimp only at hra;subst hra;obtain ⟨wa,wk,hwa,_,_⟩:=RdAt.shape hx.m;dsimp only at hwa;subst hwa;have HBR:=Lib.hid hbr;obtain ⟨W1,hW1⟩:∃ z,w.alloc (.cells #[.slice a0 p.so.length c0,.slice a1 p.re.length c1,.slice a2 p.pe.length c2,.slice a3 p.ra.length c3,.slice a4 p.ro.length c4,.slice a5 p.ih.length c5] 26)=z:=⟨_,rfl⟩;have g1:C6 w.heap.size (.slice a0 p.so.length c0) (.slice a1 p.re.length c1) (.slice a2 p.pe.length c2) (.slice a3 p.ra.length c3) (.slice a4 p.ro.length c4) (.slice a5 p.ih.length c5) W1:=by rw [← hW1];exact box6n w _ _ _ _ _ _ _
 have s1:W1.heap.size=w.heap.size+1:=by rw [← hW1,World.size_alloc]
 have b1:Below w.heap.size w W1:=by rw [← hW1];exact aBq _ _
 obtain ⟨W2,hW2⟩:∃ z,W1.alloc (.cells #[.slice ba bys.length bc,.int .i64 xlv,.int .u32 xc,.slice ra frm.length rc,.slice wa whn.length wk] 51)=z:=⟨_,rfl⟩;have g2:C5 (w.heap.size+1) (.slice ba bys.length bc) (.int .i64 xlv) (.int .u32 xc) (.slice ra frm.length rc) (.slice wa whn.length wk) W2:=by rw [← hW2,← s1];exact box5n W1 _ _ _ _ _ _
 have s2:W2.heap.size=w.heap.size+1+1:=by rw [← hW2,World.size_alloc,s1]
 have b2:Below W1.heap.size W1 W2:=by rw [← hW2];exact aBq _ _
 obtain ⟨W3,hW3⟩:∃ z,W2.alloc (.cells #[.int .i64 tl,.int .u32 tc] 36)=z:=⟨_,rfl⟩;have b3:Below W2.heap.size W2 W3:=by rw [← hW3];exact aBq _ _
 have s3:W3.heap.size=w.heap.size+1+1+1:=by rw [← hW3,World.size_alloc,s2]
 have g3:W3.cell? ⟨W2.heap.size,0,none⟩=some (.int .i64 tl):=by rw [← hW3];exact World.cell?_alloc_at _ _ _ _ rfl
 have g4:W3.cell? ⟨W2.heap.size,1,none⟩=some (.int .u32 tc):=by rw [← hW3];exact World.cell?_alloc_at _ _ _ _ rfl
 rw [s2] at g3 g4;have c13:Below W1.heap.size W1 W3:=b2.trans (b3.mono b2.size);have hB3:Below w.heap.size w W3:=b1.trans (c13.mono b1.size);obtain ⟨q0,q1,q2,q3,q4,q5⟩:=g1.later c13 (by omega);obtain ⟨r0,r1,r2,r3,r4⟩:=g2.later b3 (by omega);have t0:=g3;have t1:=g4;have HR3:=Lib.hid (show C5 (w.heap.size+1) (.slice ba bys.length bc) (.int .i64 xlv) (.int .u32 xc) (.slice ra frm.length rc) (.slice wa whn.length wk) W3 from ⟨r0,r1,r2,r3,r4⟩);have HT3:=Lib.hid (And.intro t0 t1);have HB3:=Lib.hid hB3;have hzz:w.heap.size+1+1 < W3.heap.size:=by omega
 have HW1:=Lib.hid hW1;have HW2:=Lib.hid hW2;have HW3:=Lib.hid hW3;have hmem:=List.getElem_mem hj;obtain ⟨hfk,hfit⟩:=HFL.out _ hmem;have hf12:=H12.out _ hmem;have p0:=HCE.out j hj 0 _ rfl;have p1:=HCE.out j hj 1 _ rfl;have p2:=HCE.out j hj 2 _ rfl;have p3:=HCE.out j hj 3 _ rfl;have p4:=HCE.out j hj 4 _ rfl;have p5:=HCE.out j hj 5 _ rfl;rw [Nat.add_zero] at p0;rw [← Nat.add_assoc] at p1 p2 p3 p4 p5;have HGA:Hid (∀ q:Al × Value,goesA now q=(rightA q.1&&firesA q.1 now)):=Lib.hid (fun _=>rfl);generalize l[j]=y at *;obtain ⟨⟨src,fl,alv,ac,fr,til⟩,fv⟩:=y;dsimp only at *;obtain ⟨fa,fc,rfl,hfc,_⟩:=RdAt.shape hfk;have HKC:=Lib.hid (And.intro p0 (And.intro p1 (And.intro p2 (And.intro p3 (And.intro p4 p5)))));have p0:=kCq p0 hB3 hbl;have p1:=kCq p1 hB3 hbl;have p2:=kCq p2 hB3 hbl;have p3:=kCq p3 hB3 hbl;have p4:=kCq p4 hB3 hbl;have p5:=kCq p5 hB3 hbl;have HFK:=Lib.hid hfk;have HFIT:=Lib.hid hfit;have HBL:=Lib.hid hbl;obtain ⟨m,hm⟩:∃ m,cutAl p.ra ⟨src,fl,alv,ac,fr,til⟩ (tl,tc)=m:=⟨_,rfl⟩;obtain ⟨ok,hok2⟩:∃ z,cutOk p.ra fl (alv,ac) (tl,tc)=z:=⟨_,rfl⟩;have CM:=Lib.hid (fun W (h:Below W3.heap.size W3 W)=>KCUT.out ⟨src,fl,alv,ac,fr,til⟩ m ok fa fc W (HB3.out.trans (h.mono HB3.out.size)) ((hfk.later HB3.out).later h) hf12 hfit.c hok2 hm);rw [hm,hok2] at HR;have HIN:=Lib.hid (cutAl_in hm);obtain ⟨us,uL,ql,qc,uf,ut⟩:=m;dsimp only at CM HIN HR;have ltq:w.heap.size < W3.heap.size:=by omega
 have ltr:w.heap.size+1 < W3.heap.size:=by omega
 have ltt:w.heap.size+1+1 < W3.heap.size:=hzz;have ltb:b < W3.heap.size:=by omega
 have hi0:(0:Int)≤(j:Int):=by omega
 have hi1:(j:Int) < (l.length:Int):=by omega
 generalize byA p l ⟨src,fl,alv,ac,fr,til⟩ ⟨bys,xlv,xc,frm,whn,.slice ba bys.length bc,.slice ra frm.length rc,.slice wa whn.length wk⟩ (tl,tc) now=RES at *;clear h0 h1 h2 h3 h4 h5 g1 g2 g3 g4 s1 s2 s3 b1 b2 b3 c13 hB3 hzz hmem hfk hfit hbl hlr hcell hl h12 hx hxf hbr hm hok2 KCUT hok hW1 hW2 hW3 r0 r1 r2 r3 r4 hpf;unfold maxLen at hlen
 go_enter Tryz.func31,Tryz.ntmps31
 go_upto_region 1 with fail;rw [HW1.out,HW2.out,HW3.out];clear HW1 HW2 HW3
 go_cut [13,14] (fun s13 s14 wx=>∃ gu ua ud,s13=.pointer (some ⟨gu,0,none⟩)∧s14=.bool ok∧C6 gu (.string us) (.slice ua uL.length ud) (.int .i64 ql) (.int .u32 qc) (.int .i64 uf) (.int .i64 ut) wx∧FldsAt wx (.slice ua uL.length ud) uL∧gu < wx.heap.size∧Below W3.heap.size W3 wx)
 case first =>
  refine wp_region_held_drew (S:=(fun W=>W.cell? ⟨w.heap.size,0,none⟩=some (.slice a0 p.so.length c0)∧W.cell? ⟨w.heap.size,1,none⟩=some (.slice a1 p.re.length c1)∧W.cell? ⟨w.heap.size,2,none⟩=some (.slice a2 p.pe.length c2)∧W.cell? ⟨w.heap.size,3,none⟩=some (.slice a3 p.ra.length c3)∧W.cell? ⟨w.heap.size,4,none⟩=some (.slice a4 p.ro.length c4)∧W.cell? ⟨w.heap.size,5,none⟩=some (.slice a5 p.ih.length c5)∧W.cell? ⟨w.heap.size+1+1,0,none⟩=some (.int .i64 tl)∧W.cell? ⟨w.heap.size+1+1,1,none⟩=some (.int .u32 tc)∧W.cell? ⟨b,o+j * 6,none⟩=some (.string src)∧W.cell? ⟨b,o+j * 6+1,none⟩=some (.slice fa fl.length fc)∧W.cell? ⟨b,o+j * 6+2,none⟩=some (.int .i64 alv)∧W.cell? ⟨b,o+j * 6+3,none⟩=some (.int .u32 ac)∧W.cell? ⟨b,o+j * 6+4,none⟩=some (.int .i64 fr)∧W.cell? ⟨b,o+j * 6+5,none⟩=some (.int .i64 til))) (by kernel_rfl) ⟨q0,q1,q2,q3,q4,q5,t0,t1,p0,p1,p2,p3,p4,p5⟩ (fun hHeld=>?_);have hd:Below W3.heap.size W3 W3.drew:=(Below.refl _ _).drew;generalize W3.drew=wd at *;refine plIn [0,1,2,3,4,5] ?_
  iterate 6
   refine hP (v:=?_) rfl rfl hHeld ?_ ?_;rotate_left
   ·intro wh hz;iterate 13 obtain ⟨_,hz⟩:=hz
    go_simp
    (try with_reducible rfl)
   simp only [Act.put,aS1,aS2,aS3]
  refine plOut ?_;refine held_two (i:=6) (j:=10) rfl rfl (by kernel_rfl) (fun K hK=>?_) (fun K hK=>?_)
  ·go_simp;go_at_call 65;refine (CM.out _ hd).mono ?_;rintro e w_1 ⟨ua,ud,rfl,hF_1,hO_1,hb_1⟩
   have hB_1:=hd.trans (hb_1.mono hd.size);refine hK.out _ _ ⟨kCq q0 hB_1 ltq,kCq q1 hB_1 ltq,kCq q2 hB_1 ltq,kCq q3 hB_1 ltq,kCq q4 hB_1 ltq,kCq q5 hB_1 ltq,kCq t0 hB_1 ltt,kCq t1 hB_1 ltt,kCq p0 hB_1 ltb,kCq p1 hB_1 ltb,kCq p2 hB_1 ltb,kCq p3 hB_1 ltb,kCq p4 hB_1 ltb,kCq p5 hB_1 ltb⟩ (fun hHeld=>?_);clear hK K
   (try simp only [Act.put,aS1,aS2,aS3])
   refine plIn [7,8,9] ?_
   iterate 3
    refine hP (v:=?_) rfl rfl hHeld ?_ ?_;rotate_left
    ·intro wh hz;iterate 13 obtain ⟨_,hz⟩:=hz
     go_simp
     (try with_reducible rfl)
    simp only [Act.put,aS1,aS2,aS3]
   refine plOut ?_;refine held_step (i:=10) rfl (by kernel_rfl) (fun K hK=>?_);have hb_2:=aBq w_1 (.cells #[.string ⟨#[]⟩,.slice none 0 0,.int .i64 0,.int .u32 0,.int .i64 0,.int .i64 0] 58);have hT_2:=box_there (Below.refl (w_1.alloc (.cells #[.string ⟨#[]⟩,.slice none 0 0,.int .i64 0,.int .u32 0,.int .i64 0,.int .i64 0] 58)).heap.size (w_1.alloc (.cells #[.string ⟨#[]⟩,.slice none 0 0,.int .i64 0,.int .u32 0,.int .i64 0,.int .i64 0] 58)));have hL_2:w_1.heap.size < (w_1.alloc (.cells #[.string ⟨#[]⟩,.slice none 0 0,.int .i64 0,.int .u32 0,.int .i64 0,.int .i64 0] 58)).heap.size:=by rw [World.size_alloc];omega
   have hG_2:=hB_1.size;have hB_2:=hB_1.trans (hb_2.mono hB_1.size);have hP_2:=hF_1.later (below_puts (g:=w_1.heap.size) (o:=0) hb_2 (Nat.le_refl _) [.string us,.slice ua uL.length ud,.int .i64 ql,.int .u32 qc,.int .i64 uf,.int .i64 ut]);go_simp;refine hK.out _ _ ⟨kCq q0 hB_2 ltq,kCq q1 hB_2 ltq,kCq q2 hB_2 ltq,kCq q3 hB_2 ltq,kCq q4 hB_2 ltq,kCq q5 hB_2 ltq,kCq t0 hB_2 ltt,kCq t1 hB_2 ltt,kCq p0 hB_2 ltb,kCq p1 hB_2 ltb,kCq p2 hB_2 ltb,kCq p3 hB_2 ltb,kCq p4 hB_2 ltb,kCq p5 hB_2 ltb⟩ (fun hHeld=>?_);clear hK K
   (try simp only [Act.put,aS1,aS2,aS3])
   generalize w_1.alloc (.cells #[.string ⟨#[]⟩,.slice none 0 0,.int .i64 0,.int .u32 0,.int .i64 0,.int .i64 0] 58)=w_2 at *;have rv_0:=tFq hT_2 0 (by decide);have rv_1:=tFq hT_2 1 (by decide);have rv_2:=tFq hT_2 2 (by decide);have rv_3:=tFq hT_2 3 (by decide);have rv_4:=tFq hT_2 4 (by decide);have rv_5:=tFq hT_2 5 (by decide);obtain ⟨yv_0,hyv_0⟩:=there_cell hT_2 0 (by decide);obtain ⟨yv_1,hyv_1⟩:=there_cell hT_2 1 (by decide);obtain ⟨yv_2,hyv_2⟩:=there_cell hT_2 2 (by decide);obtain ⟨yv_3,hyv_3⟩:=there_cell hT_2 3 (by decide);obtain ⟨yv_4,hyv_4⟩:=there_cell hT_2 4 (by decide);obtain ⟨yv_5,hyv_5⟩:=there_cell hT_2 5 (by decide);have HB_3:Hid (Below W3.heap.size W3 (w_2.setCells w_1.heap.size 0 [.string us,.slice ua uL.length ud,.int .i64 ql,.int .u32 qc,.int .i64 uf,.int .i64 ut])):=Lib.hid (below_puts (g:=w_1.heap.size) (o:=0) hB_2 hG_2 [.string us,.slice ua uL.length ud,.int .i64 ql,.int .u32 qc,.int .i64 uf,.int .i64 ut]);have HZ_3:=Lib.hid (below_puts_base (g:=w_1.heap.size) (o:=0) (Below.refl 0 w_2) (Nat.zero_le _) [.string us,.slice ua uL.length ud,.int .i64 ql,.int .u32 qc,.int .i64 uf,.int .i64 ut]).size;have HC_3:=Lib.hid (c6_puts w_2 w_1.heap.size (.string us) (.slice ua uL.length ud) (.int .i64 ql) (.int .u32 qc) (.int .i64 uf) (.int .i64 ut) hT_2);have HF_3:Hid (FldsAt (w_2.setCells w_1.heap.size 0 [.string us,.slice ua uL.length ud,.int .i64 ql,.int .u32 qc,.int .i64 uf,.int .i64 ut]) (.slice ua uL.length ud) uL):=Lib.hid hP_2;refine held_step (i:=11) rfl (by kernel_rfl) (fun K hK=>?_);go_simp;refine hK.out _ (w_2.setCells w_1.heap.size 0 [.string us,.slice ua uL.length ud,.int .i64 ql,.int .u32 qc,.int .i64 uf,.int .i64 ut]) ⟨kCq q0 HB_3.out ltq,kCq q1 HB_3.out ltq,kCq q2 HB_3.out ltq,kCq q3 HB_3.out ltq,kCq q4 HB_3.out ltq,kCq q5 HB_3.out ltq,kCq t0 HB_3.out ltt,kCq t1 HB_3.out ltt,kCq p0 HB_3.out ltb,kCq p1 HB_3.out ltb,kCq p2 HB_3.out ltb,kCq p3 HB_3.out ltb,kCq p4 HB_3.out ltb,kCq p5 HB_3.out ltb⟩ (fun hHeld=>?_);clear hK K
   (try simp only [Act.put,aS1,aS2,aS3])
   generalize (w_2.setCells w_1.heap.size 0 [.string us,.slice ua uL.length ud,.int .i64 ql,.int .u32 qc,.int .i64 uf,.int .i64 ut])=w_3 at *;refine hT (i:=12) (v:=?_) rfl rfl hHeld ?_ ?_;rotate_left
   ·intro wh hz;iterate 13 obtain ⟨_,hz⟩:=hz
    go_simp
    (try with_reducible rfl)
   simp only [Act.put,aS1,aS2,aS3];refine wpAnyH_done (by kernel_rfl) ?_ _;go_wp2
   go_meet
   exact ⟨w_1.heap.size,ua,ud,rfl,rfl,HC_3.out,HF_3.out,Nat.lt_of_lt_of_le hL_2 HZ_3.out,HB_3.out⟩
  ·have hb_4:=aBq wd (.cells #[.string ⟨#[]⟩,.slice none 0 0,.int .i64 0,.int .u32 0,.int .i64 0,.int .i64 0] 58)
   have hT_4:=box_there (Below.refl (wd.alloc (.cells #[.string ⟨#[]⟩,.slice none 0 0,.int .i64 0,.int .u32 0,.int .i64 0,.int .i64 0] 58)).heap.size (wd.alloc (.cells #[.string ⟨#[]⟩,.slice none 0 0,.int .i64 0,.int .u32 0,.int .i64 0,.int .i64 0] 58)));have hL_4:wd.heap.size < (wd.alloc (.cells #[.string ⟨#[]⟩,.slice none 0 0,.int .i64 0,.int .u32 0,.int .i64 0,.int .i64 0] 58)).heap.size:=by rw [World.size_alloc];omega
   have hG_4:=hd.size;have hB_4:=hd.trans (hb_4.mono hd.size);go_simp;refine hK.out _ _ ⟨kCq q0 hB_4 ltq,kCq q1 hB_4 ltq,kCq q2 hB_4 ltq,kCq q3 hB_4 ltq,kCq q4 hB_4 ltq,kCq q5 hB_4 ltq,kCq t0 hB_4 ltt,kCq t1 hB_4 ltt,kCq p0 hB_4 ltb,kCq p1 hB_4 ltb,kCq p2 hB_4 ltb,kCq p3 hB_4 ltb,kCq p4 hB_4 ltb,kCq p5 hB_4 ltb⟩ (fun hHeld=>?_);clear hK K
   (try simp only [Act.put,aS1,aS2,aS3])
   generalize wd.alloc (.cells #[.string ⟨#[]⟩,.slice none 0 0,.int .i64 0,.int .u32 0,.int .i64 0,.int .i64 0] 58)=w_4 at *;refine held_step (i:=6) rfl (by kernel_rfl) (fun K hK=>?_);go_simp;go_at_call 65;refine (CM.out _ hB_4).mono ?_;rintro e w_5 ⟨ua,ud,rfl,hF_5,hO_5,hb_5⟩;have hB_5:=hB_4.trans (hb_5.mono hB_4.size);have hTA_5:=there_later hT_4 hb_5 hL_4;have hLA_5:=Nat.lt_of_lt_of_le hL_4 hb_5.size;have hFar_5:∀ q,(Value.slice ua uL.length ud).ownBlock=some q→q≠wd.heap.size:=fun q hq=>by have:=hO_5 q hq;have:=hL_4;omega
   refine hK.out _ _ ⟨kCq q0 hB_5 ltq,kCq q1 hB_5 ltq,kCq q2 hB_5 ltq,kCq q3 hB_5 ltq,kCq q4 hB_5 ltq,kCq q5 hB_5 ltq,kCq t0 hB_5 ltt,kCq t1 hB_5 ltt,kCq p0 hB_5 ltb,kCq p1 hB_5 ltb,kCq p2 hB_5 ltb,kCq p3 hB_5 ltb,kCq p4 hB_5 ltb,kCq p5 hB_5 ltb⟩ (fun hHeld=>?_);clear hK K
   (try simp only [Act.put,aS1,aS2,aS3])
   refine plIn [7,8,9] ?_
   iterate 3
    refine hP (v:=?_) rfl rfl hHeld ?_ ?_;rotate_left
    ·intro wh hz;iterate 13 obtain ⟨_,hz⟩:=hz
     go_simp
     (try with_reducible rfl)
    simp only [Act.put,aS1,aS2,aS3]
   refine plOut ?_;have rv_0:=tFq hTA_5 0 (by decide);have rv_1:=tFq hTA_5 1 (by decide);have rv_2:=tFq hTA_5 2 (by decide);have rv_3:=tFq hTA_5 3 (by decide);have rv_4:=tFq hTA_5 4 (by decide);have rv_5:=tFq hTA_5 5 (by decide);obtain ⟨yv_0,hyv_0⟩:=there_cell hTA_5 0 (by decide);obtain ⟨yv_1,hyv_1⟩:=there_cell hTA_5 1 (by decide);obtain ⟨yv_2,hyv_2⟩:=there_cell hTA_5 2 (by decide);obtain ⟨yv_3,hyv_3⟩:=there_cell hTA_5 3 (by decide);obtain ⟨yv_4,hyv_4⟩:=there_cell hTA_5 4 (by decide);obtain ⟨yv_5,hyv_5⟩:=there_cell hTA_5 5 (by decide);have HB_6:Hid (Below W3.heap.size W3 (w_5.setCells wd.heap.size 0 [.string us,.slice ua uL.length ud,.int .i64 ql,.int .u32 qc,.int .i64 uf,.int .i64 ut])):=Lib.hid (below_puts (g:=wd.heap.size) (o:=0) hB_5 hG_4 [.string us,.slice ua uL.length ud,.int .i64 ql,.int .u32 qc,.int .i64 uf,.int .i64 ut]);have HZ_6:=Lib.hid (below_puts_base (g:=wd.heap.size) (o:=0) (Below.refl 0 w_5) (Nat.zero_le _) [.string us,.slice ua uL.length ud,.int .i64 ql,.int .u32 qc,.int .i64 uf,.int .i64 ut]).size;have HC_6:=Lib.hid (c6_puts w_5 wd.heap.size (.string us) (.slice ua uL.length ud) (.int .i64 ql) (.int .u32 qc) (.int .i64 uf) (.int .i64 ut) hTA_5);have HF_6:Hid (FldsAt (w_5.setCells wd.heap.size 0 [.string us,.slice ua uL.length ud,.int .i64 ql,.int .u32 qc,.int .i64 uf,.int .i64 ut]) (.slice ua uL.length ud) uL):=Lib.hid (rd_puts hF_5 hFar_5 [.string us,.slice ua uL.length ud,.int .i64 ql,.int .u32 qc,.int .i64 uf,.int .i64 ut]);refine held_step (i:=11) rfl (by kernel_rfl) (fun K hK=>?_);go_simp;refine hK.out _ (w_5.setCells wd.heap.size 0 [.string us,.slice ua uL.length ud,.int .i64 ql,.int .u32 qc,.int .i64 uf,.int .i64 ut]) ⟨kCq q0 HB_6.out ltq,kCq q1 HB_6.out ltq,kCq q2 HB_6.out ltq,kCq q3 HB_6.out ltq,kCq q4 HB_6.out ltq,kCq q5 HB_6.out ltq,kCq t0 HB_6.out ltt,kCq t1 HB_6.out ltt,kCq p0 HB_6.out ltb,kCq p1 HB_6.out ltb,kCq p2 HB_6.out ltb,kCq p3 HB_6.out ltb,kCq p4 HB_6.out ltb,kCq p5 HB_6.out ltb⟩ (fun hHeld=>?_);clear hK K
   (try simp only [Act.put,aS1,aS2,aS3])
   generalize (w_5.setCells wd.heap.size 0 [.string us,.slice ua uL.length ud,.int .i64 ql,.int .u32 qc,.int .i64 uf,.int .i64 ut])=w_6 at *;refine hT (i:=12) (v:=?_) rfl rfl hHeld ?_ ?_;rotate_left
   ·intro wh hz;iterate 13 obtain ⟨_,hz⟩:=hz
    go_simp
    (try with_reducible rfl)
   simp only [Act.put,aS1,aS2,aS3];refine wpAnyH_done (by kernel_rfl) ?_ _;go_wp2
   go_meet
   exact ⟨wd.heap.size,ua,ud,rfl,rfl,HC_6.out,HF_6.out,Nat.lt_of_lt_of_le hLA_5 HZ_6.out,HB_6.out⟩
 case rest =>
  obtain ⟨gu,ua,ud,rfl,rfl,hX,hF,hlu,hbu⟩:=hcut;have HX4:=Lib.hid hX;have HF4:=Lib.hid hF;have HLU:=Lib.hid hlu;have HR4:=Lib.hid (HR3.out.later hbu ltr);have HT4:=Lib.hid (And.intro (kCq HT3.out.1 hbu ltt) (kCq HT3.out.2 hbu ltt));have HB4:=Lib.hid (HB3.out.trans (hbu.mono HB3.out.size));have ltr:w.heap.size+1 < wc.heap.size:=Nat.lt_of_lt_of_le ltr hbu.size;have ltt:w.heap.size+1+1 < wc.heap.size:=Nat.lt_of_lt_of_le ltt hbu.size;clear CM q0 q1 q2 q3 q4 q5 t0 t1 p0 p1 p2 p3 p4 p5 hX hF hlu hbu HB3 HR3 HT3 ltq;have KEEP:Hid (∀ {q:Nat} {u:Value} {V:World},w.cell? ⟨b,q,none⟩=some u→Below w.heap.size w V→V.cell? ⟨b,q,none⟩=some u):=Lib.hid (fun h hV=>kCq h hV HBL.out)
  cases ok
  ·have HN:Hid (RES=false):=Lib.hid (by rw [HR.out];rfl)
   go_wp2;go_ret;exact ⟨by rw [HN.out];rfl,HB4.out⟩
  ·obtain ⟨p0,p1,p2,p3,p4,p5⟩:=HKC.out
   have p0:=KEEP.out p0 HB4.out;have p1:=KEEP.out p1 HB4.out;have p2:=KEEP.out p2 HB4.out;have p3:=KEEP.out p3 HB4.out;have p4:=KEEP.out p4 HB4.out;have p5:=KEEP.out p5 HB4.out;have kr:=r9right_any src fl alv ac fr til _ wc HFIT.out.src (HFK.out.later HB4.out) HFIT.out.fl HFIT.out.len;have hR:rightA ⟨src,fl,alv,ac,fr,til⟩=(whoA src fl alv&&beginsA fr&&endsA fr til):=rfl;rw [← hR] at kr;clear hR
   cases hra:rightA ⟨src,fl,alv,ac,fr,til⟩
   ·rw [hra] at kr
    have HN:Hid (RES=false):=Lib.hid (by rw [HR.out,hra];rfl);clear hra;go_wp2_with fail
    refine kr.mono ?_;rintro e w5 ⟨rfl,hb5⟩;have HB5:=Lib.hid (HB4.out.trans (hb5.mono HB4.out.size));clear kr hb5 p0 p1 p2 p3 p4 p5;go_wp2;go_ret;exact ⟨by rw [HN.out];rfl,HB5.out⟩
   rw [hra] at kr HR;have HRF:=Lib.hid ((whoA_iff.1 (rightA_who hra)).2.2.1:rightF fl=true);have HIDB:=Lib.hid (idB_bound (rightA_who hra):(idB src fl).length≤4000000);clear hra;go_wp2_with fail
   refine kr.mono ?_;rintro e w5 ⟨rfl,hb5⟩;have HB5:=Lib.hid (HB4.out.trans (hb5.mono HB4.out.size));have HX5:=Lib.hid (HX4.out.later hb5 HLU.out);have HF5:=Lib.hid (HF4.out.later hb5);have HLU5:=Lib.hid (Nat.lt_of_lt_of_le HLU.out hb5.size);have HR5:=Lib.hid (HR4.out.later hb5 ltr);have HT5:=Lib.hid (And.intro (kCq HT4.out.1 hb5 ltt) (kCq HT4.out.2 hb5 ltt));have ltr:w.heap.size+1 < w5.heap.size:=Nat.lt_of_lt_of_le ltr hb5.size;clear kr hb5 p0 p1 p2 p3 p4 p5 HB4 HX4 HF4 HLU HR4 HT4 ltt;obtain ⟨r0,r1,r2,r3,r4⟩:=HR5.out;obtain ⟨t0,t1⟩:=HT5.out;have kf:=rflows_any xlv xc tl tc w5 HXFIT.out.c htc
   cases hfl:flowsL xlv xc tl tc
   ·rw [hfl] at kf
    have HN:Hid (RES=false):=Lib.hid (by rw [HR.out,hfl];rfl);clear hfl;go_wp2_with fail
    refine kf.mono ?_;rintro e w6 ⟨rfl,hb6⟩;have HB6:=Lib.hid (HB5.out.trans (hb6.mono HB5.out.size));clear kf hb6 r0 r1 r2 r3 r4 t0 t1;go_wp2;go_ret;exact ⟨by rw [HN.out];rfl,HB6.out⟩
   rw [hfl] at kf HR;clear hfl;go_wp2_with fail
   refine kf.mono ?_;rintro e w6 ⟨rfl,hb6⟩;have HB6:=Lib.hid (HB5.out.trans (hb6.mono HB5.out.size));have HX6:=Lib.hid (HX5.out.later hb6 HLU5.out);have HF6:=Lib.hid (HF5.out.later hb6);have HLU6:=Lib.hid (Nat.lt_of_lt_of_le HLU5.out hb6.size);have HR6:=Lib.hid (HR5.out.later hb6 ltr);have ltr:w.heap.size+1 < w6.heap.size:=Nat.lt_of_lt_of_le ltr hb6.size;clear kf hb6 r0 r1 r2 r3 r4 t0 t1 HB5 HX5 HF5 HLU5 HR5 HT5;obtain ⟨r0,r1,r2,r3,r4⟩:=HR6.out;obtain ⟨x0,x1,x2,x3,x4,x5⟩:=HX6.out;have hul:=Nat.le_trans HIN.out.2 hf12;have HVU:Hid (∀ n,(valueF uL n).size≤900):=Lib.hid (value_some (fun f hf=>fld_right HRF.out (HIN.out.1 f hf)));have ka:=KAL.out uL _ _ whn w6 HF6.out (by omega) HVU.out (HXM.out.later HB6.out) n3 HXFIT.out.whn
   cases haw:allM uL whn
   ·rw [haw] at ka
    have HN:Hid (RES=false):=Lib.hid (by rw [HR.out,haw];rfl);clear haw;go_wp2_with fail
    refine ka.mono ?_;rintro e w7 ⟨rfl,hb7⟩;have HB7:=Lib.hid (HB6.out.trans (hb7.mono HB6.out.size));clear ka hb7 r0 r1 r2 r3 r4 x0 x1 x2 x3 x4 x5;go_wp2;go_ret;exact ⟨by rw [HN.out];rfl,HB7.out⟩
   rw [haw] at ka HR;clear haw;go_wp2_with fail
   refine ka.mono ?_;rintro e w7 ⟨rfl,hb7⟩;have HB7:=Lib.hid (HB6.out.trans (hb7.mono HB6.out.size));have HX7:=Lib.hid (HX6.out.later hb7 HLU6.out);have HF7:=Lib.hid (HF6.out.later hb7);have HLU7:=Lib.hid (Nat.lt_of_lt_of_le HLU6.out hb7.size);have HR7:=Lib.hid (HR6.out.later hb7 ltr);have ltr7:w.heap.size+1 < w7.heap.size:=Nat.lt_of_lt_of_le ltr hb7.size;clear ka hb7 r0 r1 r2 r3 r4 x0 x1 x2 x3 x4 x5 HB6 HX6 HF6 HLU6 HR6 ltr;have HRR:Hid (RES=(l.filter (goesA now)).any fun q=>goodBy ⟨bys,xlv,xc,frm,whn,.slice ba bys.length bc,.slice ra frm.length rc,.slice wa whn.length wk⟩ (idA ⟨src,fl,alv,ac,fr,til⟩) uL q.1):=Lib.hid (by rw [HR.out];simp);have HGE:Hid (∀ q:Al × Value,(fun q=>goodBy ⟨bys,xlv,xc,frm,whn,.slice ba bys.length bc,.slice ra frm.length rc,.slice wa whn.length wk⟩ (idA ⟨src,fl,alv,ac,fr,til⟩) uL q.1) q=(allM q.1.fl frm&&alikeM bys q.1.fl uL&&(idA q.1 != shortL (idB src fl)))):=Lib.hid (fun q=>rfl);generalize (fun q:Al × Value=>goodBy ⟨bys,xlv,xc,frm,whn,.slice ba bys.length bc,.slice ra frm.length rc,.slice wa whn.length wk⟩ (idA ⟨src,fl,alv,ac,fr,til⟩) uL q.1)=GD at *;generalize goesA now=GO at *;clear HR;go_wp2
   go_loopw [15] (fun i wr=>∃ (n:Nat),i=.int .i64 n∧n≤l.length∧Hid (((l.take n).filter GO).any GD=false)∧Hid (Below w7.heap.size w7 wr)) (fun i _=>l.length - (intOf i).toNat)
   case atStart=>exact ⟨0,rfl,Nat.zero_le _,Lib.hid rfl,Lib.hid (Below.refl _ _)⟩
   case round =>
    obtain ⟨n,rfl,hn,HNO,HB⟩:=hrel
    by_cases hnl:n < l.length
    ·have HBW:=Lib.hid (HB7.out.trans (HB.out.mono HB7.out.size))
     have HST:=Lib.hid (any_step GD GO l hnl);have HEND:=Lib.hid (fun h1 h2=>any_end GD GO l hnl h1 h2);have HGO:=Lib.hid (HGA.out l[n]);have HGD:=Lib.hid (HGE.out l[n]);have n0:=HCE.out n hnl 0 _ rfl;have n1:=HCE.out n hnl 1 _ rfl;have n2z:=HCE.out n hnl 2 _ rfl;have n3z:=HCE.out n hnl 3 _ rfl;have n4:=HCE.out n hnl 4 _ rfl;have n5:=HCE.out n hnl 5 _ rfl;rw [Nat.add_zero] at n0;rw [← Nat.add_assoc] at n1 n2z n3z n4 n5;have hmem:=List.getElem_mem hnl;obtain ⟨hyk,hyfit⟩:=HFL.out _ hmem;have hy12:=H12.out _ hmem;generalize GO l[n]=GOn at *;generalize GD l[n]=GDn at *;generalize l[n]=y at *;obtain ⟨⟨ys,yl,ylv,yac,yfr,ytil⟩,yv⟩:=y;dsimp only at *;obtain ⟨ya,yc,rfl,_,_⟩:=RdAt.shape hyk;have HNC:=Lib.hid (And.intro n0 (And.intro n1 (And.intro n2z (And.intro n3z (And.intro n4 n5)))));have n0:=KEEP.out n0 HBW.out;have n1:=KEEP.out n1 HBW.out;have n2z:=KEEP.out n2z HBW.out;have n3z:=KEEP.out n3z HBW.out;have n4:=KEEP.out n4 HBW.out;have n5:=KEEP.out n5 HBW.out;have KR:=Lib.hid (fun V (h:Below wr.heap.size wr V)=>r9right_any ys yl ylv yac yfr ytil _ V hyfit.src (hyk.later (HBW.out.trans (h.mono HBW.out.size))) hyfit.fl hyfit.len);have hR:rightA ⟨ys,yl,ylv,yac,yfr,ytil⟩=(whoA ys yl ylv&&beginsA yfr&&endsA yfr ytil):=rfl;rw [← hR] at KR;have KF:=Lib.hid (fun V=>r9fires_any ys ya yl.length yc ylv yac yfr ytil now V);have hF:firesA ⟨ys,yl,ylv,yac,yfr,ytil⟩ now=(decide (yfr≤now)&&(decide (ytil=0) || decide (now < ytil))):=rfl;rw [← hF] at KF;have HRY:Hid (rightA ⟨ys,yl,ylv,yac,yfr,ytil⟩=true→rightF yl=true∧(idB ys yl).length≤4000000):=Lib.hid (fun h=>⟨(whoA_iff.1 (rightA_who h)).2.2.1,idB_bound (rightA_who h)⟩);have KAM:=Lib.hid (fun (h:rightF yl=true) V (hb:Below wr.heap.size wr V)=>KAL.out yl _ _ frm V (hyk.later (HBW.out.trans (hb.mono HBW.out.size))) (by omega) (value_some (fun f hf=>fld_right h hf)) (HXF.out.later (HBW.out.trans (hb.mono HBW.out.size))) n2 HXFIT.out.frm);have HIY:Hid (idA ⟨ys,yl,ylv,yac,yfr,ytil⟩=shortL (idB ys yl)):=Lib.hid rfl;rw [HIY.out] at HGD;have HYK:=Lib.hid hyk;generalize rightA ⟨ys,yl,ylv,yac,yfr,ytil⟩=R at *;generalize firesA ⟨ys,yl,ylv,yac,yfr,ytil⟩ now=F at *;generalize allM yl frm=AM at *;obtain ⟨r0,r1,r2,r3,r4⟩:=HR7.out.later HB.out ltr7;have ltr:w.heap.size+1 < wr.heap.size:=Nat.lt_of_lt_of_le ltr7 HB.out.size;have ltb:b < wr.heap.size:=Nat.lt_of_lt_of_le HBL.out HBW.out.size;have hi2:(0:Int)≤(n:Int):=by omega
     have hi3:(n:Int) < (l.length:Int):=by omega
     clear hR hF hmem hyk hyfit HIY;go_upto_region 7 with fail
     cases R
     ·refine wp_region_held_drew (S:=(fun W=>W.cell? ⟨b,o+n * 6,none⟩=some (.string ys)∧W.cell? ⟨b,o+n * 6+1,none⟩=some (.slice ya yl.length yc)∧W.cell? ⟨b,o+n * 6+2,none⟩=some (.int .i64 ylv)∧W.cell? ⟨b,o+n * 6+3,none⟩=some (.int .u32 yac)∧W.cell? ⟨b,o+n * 6+4,none⟩=some (.int .i64 yfr)∧W.cell? ⟨b,o+n * 6+5,none⟩=some (.int .i64 ytil)∧W.cell? ⟨w.heap.size+1,0,none⟩=some (.slice ba bys.length bc)∧W.cell? ⟨w.heap.size+1,1,none⟩=some (.int .i64 xlv)∧W.cell? ⟨w.heap.size+1,2,none⟩=some (.int .u32 xc)∧W.cell? ⟨w.heap.size+1,3,none⟩=some (.slice ra frm.length rc)∧W.cell? ⟨w.heap.size+1,4,none⟩=some (.slice wa whn.length wk))) (by kernel_rfl) ⟨n0,n1,n2z,n3z,n4,n5,r0,r1,r2,r3,r4⟩ (fun hHeld=>?_)
      have hd:Below wr.heap.size wr wr.drew:=(Below.refl _ _).drew;refine plIn [0,1,2,3] ?_
      iterate 4
       refine hP (v:=?_) rfl rfl hHeld ?_ ?_;rotate_left
       ·intro wh hz;iterate 10 obtain ⟨_,hz⟩:=hz
        go_simp
        (try with_reducible rfl)
       simp only [Act.put,aS1,aS2,aS3]
      refine plOut ?_;refine held_call (i:=4) rfl (by kernel_rfl) (by rfl) (fun K hK=>?_)
      (go_simp;go_at_call 21;refine (KR.out _ hd).mono ?_;rintro e v8 ⟨rfl,hb8⟩;have hB8:=hd.trans (hb8.mono hd.size))
      refine hK.out _ _ ⟨kCq n0 hB8 ltb,kCq n1 hB8 ltb,kCq n2z hB8 ltb,kCq n3z hB8 ltb,kCq n4 hB8 ltb,kCq n5 hB8 ltb,kCq r0 hB8 ltr,kCq r1 hB8 ltr,kCq r2 hB8 ltr,kCq r3 hB8 ltr,kCq r4 hB8 ltr⟩ (fun hHeld=>?_);clear hK K
      (try simp only [Act.put,aS1,aS2,aS3])
      refine plIn [5,6] ?_
      iterate 2
       refine hP (v:=?_) rfl rfl hHeld ?_ ?_;rotate_left
       ·intro wh hz;iterate 10 obtain ⟨_,hz⟩:=hz
        go_simp
        (try with_reducible rfl)
       simp only [Act.put,aS1,aS2,aS3]
      refine plOut ?_;refine plIn [7,8,9,10,11,12,13] ?_
      iterate 7
       refine hK rfl rfl hHeld ?_;simp only [Act.put,aS1,aS2,aS3]
      refine plOut ?_;refine plIn [14,15] ?_
      iterate 2
       refine hP (v:=?_) rfl rfl hHeld ?_ ?_;rotate_left
       ·intro wh hz;iterate 10 obtain ⟨_,hz⟩:=hz
        go_simp
        (try with_reducible rfl)
       simp only [Act.put,aS1,aS2,aS3]
      refine plOut ?_;refine plIn [16,17,18,19,20,21,22,23,24] ?_
      iterate 9
       refine hK rfl rfl hHeld ?_;simp only [Act.put,aS1,aS2,aS3]
      refine plOut ?_;refine hT (i:=25) (v:=?_) rfl rfl hHeld ?_ ?_;rotate_left
      ·intro wh hz;iterate 10 obtain ⟨_,hz⟩:=hz
       go_simp
       (try with_reducible rfl)
      simp only [Act.put,aS1,aS2,aS3];refine wpAnyH_done (by kernel_rfl) ?_ _;have HBZ:=Lib.hid (HB.out.trans (hB8.mono HB.out.size));have HNN:Hid (((l.take (n+1)).filter GO).any GD=false):=Lib.hid (by rw [HST.out,HNO.out,HGO.out];simp);clear n0 n1 n2z n3z n4 n5 r0 r1 r2 r3 r4 KR KF KAM hd hb8 hB8 HB;go_wp2;go_roundw
      case rel=>exact ⟨n+1,by go_num,by omega,HNN,HBZ⟩
      case measure=>(simp [intOf];try omega)
     have HRT:=Lib.hid (HRY.out rfl)
     cases F
     ·refine wp_region_held_drew (S:=(fun W=>W.cell? ⟨b,o+n * 6,none⟩=some (.string ys)∧W.cell? ⟨b,o+n * 6+1,none⟩=some (.slice ya yl.length yc)∧W.cell? ⟨b,o+n * 6+2,none⟩=some (.int .i64 ylv)∧W.cell? ⟨b,o+n * 6+3,none⟩=some (.int .u32 yac)∧W.cell? ⟨b,o+n * 6+4,none⟩=some (.int .i64 yfr)∧W.cell? ⟨b,o+n * 6+5,none⟩=some (.int .i64 ytil)∧W.cell? ⟨w.heap.size+1,0,none⟩=some (.slice ba bys.length bc)∧W.cell? ⟨w.heap.size+1,1,none⟩=some (.int .i64 xlv)∧W.cell? ⟨w.heap.size+1,2,none⟩=some (.int .u32 xc)∧W.cell? ⟨w.heap.size+1,3,none⟩=some (.slice ra frm.length rc)∧W.cell? ⟨w.heap.size+1,4,none⟩=some (.slice wa whn.length wk))) (by kernel_rfl) ⟨n0,n1,n2z,n3z,n4,n5,r0,r1,r2,r3,r4⟩ (fun hHeld=>?_)
      have hd:Below wr.heap.size wr wr.drew:=(Below.refl _ _).drew;refine plIn [0,1,2,3] ?_
      iterate 4
       refine hP (v:=?_) rfl rfl hHeld ?_ ?_;rotate_left
       ·intro wh hz;iterate 10 obtain ⟨_,hz⟩:=hz
        go_simp
        (try with_reducible rfl)
       simp only [Act.put,aS1,aS2,aS3]
      refine plOut ?_;refine held_call (i:=4) rfl (by kernel_rfl) (by rfl) (fun K hK=>?_)
      (go_simp;go_at_call 21;refine (KR.out _ hd).mono ?_;rintro e v8 ⟨rfl,hb8⟩;have hB8:=hd.trans (hb8.mono hd.size))
      refine hK.out _ _ ⟨kCq n0 hB8 ltb,kCq n1 hB8 ltb,kCq n2z hB8 ltb,kCq n3z hB8 ltb,kCq n4 hB8 ltb,kCq n5 hB8 ltb,kCq r0 hB8 ltr,kCq r1 hB8 ltr,kCq r2 hB8 ltr,kCq r3 hB8 ltr,kCq r4 hB8 ltr⟩ (fun hHeld=>?_);clear hK K
      (try simp only [Act.put,aS1,aS2,aS3])
      refine plIn [5,6,7,8,9,10,11] ?_
      iterate 7
       refine hP (v:=?_) rfl rfl hHeld ?_ ?_;rotate_left
       ·intro wh hz;iterate 10 obtain ⟨_,hz⟩:=hz
        go_simp
        (try with_reducible rfl)
       simp only [Act.put,aS1,aS2,aS3]
      refine plOut ?_;refine held_call (i:=12) rfl (by kernel_rfl) (by rfl) (fun K hK=>?_)
      (go_simp;go_at_call 67;refine (KF.out _).mono ?_;rintro e v9 ⟨rfl,hb9⟩;have hB9:=hB8.trans (hb9.mono hB8.size))
      refine hK.out _ _ ⟨kCq n0 hB9 ltb,kCq n1 hB9 ltb,kCq n2z hB9 ltb,kCq n3z hB9 ltb,kCq n4 hB9 ltb,kCq n5 hB9 ltb,kCq r0 hB9 ltr,kCq r1 hB9 ltr,kCq r2 hB9 ltr,kCq r3 hB9 ltr,kCq r4 hB9 ltr⟩ (fun hHeld=>?_);clear hK K
      (try simp only [Act.put,aS1,aS2,aS3])
      refine plIn [13,14,15] ?_
      iterate 3
       refine hP (v:=?_) rfl rfl hHeld ?_ ?_;rotate_left
       ·intro wh hz;iterate 10 obtain ⟨_,hz⟩:=hz
        go_simp
        (try with_reducible rfl)
       simp only [Act.put,aS1,aS2,aS3]
      refine plOut ?_;refine plIn [16,17,18,19,20,21,22,23,24] ?_
      iterate 9
       refine hK rfl rfl hHeld ?_;simp only [Act.put,aS1,aS2,aS3]
      refine plOut ?_;refine hT (i:=25) (v:=?_) rfl rfl hHeld ?_ ?_;rotate_left
      ·intro wh hz;iterate 10 obtain ⟨_,hz⟩:=hz
       go_simp
       (try with_reducible rfl)
      simp only [Act.put,aS1,aS2,aS3];refine wpAnyH_done (by kernel_rfl) ?_ _;have HBZ:=Lib.hid (HB.out.trans (hB9.mono HB.out.size));have HNN:Hid (((l.take (n+1)).filter GO).any GD=false):=Lib.hid (by rw [HST.out,HNO.out,HGO.out];simp);clear n0 n1 n2z n3z n4 n5 r0 r1 r2 r3 r4 KR KF KAM hd hb8 hB8 hb9 hB9 HB;go_wp2;go_roundw
      case rel=>exact ⟨n+1,by go_num,by omega,HNN,HBZ⟩
      case measure=>(simp [intOf];try omega)
     cases AM
     ·refine wp_region_held_drew (S:=(fun W=>W.cell? ⟨b,o+n * 6,none⟩=some (.string ys)∧W.cell? ⟨b,o+n * 6+1,none⟩=some (.slice ya yl.length yc)∧W.cell? ⟨b,o+n * 6+2,none⟩=some (.int .i64 ylv)∧W.cell? ⟨b,o+n * 6+3,none⟩=some (.int .u32 yac)∧W.cell? ⟨b,o+n * 6+4,none⟩=some (.int .i64 yfr)∧W.cell? ⟨b,o+n * 6+5,none⟩=some (.int .i64 ytil)∧W.cell? ⟨w.heap.size+1,0,none⟩=some (.slice ba bys.length bc)∧W.cell? ⟨w.heap.size+1,1,none⟩=some (.int .i64 xlv)∧W.cell? ⟨w.heap.size+1,2,none⟩=some (.int .u32 xc)∧W.cell? ⟨w.heap.size+1,3,none⟩=some (.slice ra frm.length rc)∧W.cell? ⟨w.heap.size+1,4,none⟩=some (.slice wa whn.length wk))) (by kernel_rfl) ⟨n0,n1,n2z,n3z,n4,n5,r0,r1,r2,r3,r4⟩ (fun hHeld=>?_)
      have hd:Below wr.heap.size wr wr.drew:=(Below.refl _ _).drew;refine plIn [0,1,2,3] ?_
      iterate 4
       refine hP (v:=?_) rfl rfl hHeld ?_ ?_;rotate_left
       ·intro wh hz;iterate 10 obtain ⟨_,hz⟩:=hz
        go_simp
        (try with_reducible rfl)
       simp only [Act.put,aS1,aS2,aS3]
      refine plOut ?_;refine held_call (i:=4) rfl (by kernel_rfl) (by rfl) (fun K hK=>?_)
      (go_simp;go_at_call 21;refine (KR.out _ hd).mono ?_;rintro e v8 ⟨rfl,hb8⟩;have hB8:=hd.trans (hb8.mono hd.size))
      refine hK.out _ _ ⟨kCq n0 hB8 ltb,kCq n1 hB8 ltb,kCq n2z hB8 ltb,kCq n3z hB8 ltb,kCq n4 hB8 ltb,kCq n5 hB8 ltb,kCq r0 hB8 ltr,kCq r1 hB8 ltr,kCq r2 hB8 ltr,kCq r3 hB8 ltr,kCq r4 hB8 ltr⟩ (fun hHeld=>?_);clear hK K
      (try simp only [Act.put,aS1,aS2,aS3])
      refine plIn [5,6,7,8,9,10,11] ?_
      iterate 7
       refine hP (v:=?_) rfl rfl hHeld ?_ ?_;rotate_left
       ·intro wh hz;iterate 10 obtain ⟨_,hz⟩:=hz
        go_simp
        (try with_reducible rfl)
       simp only [Act.put,aS1,aS2,aS3]
      refine plOut ?_;refine held_call (i:=12) rfl (by kernel_rfl) (by rfl) (fun K hK=>?_)
      (go_simp;go_at_call 67;refine (KF.out _).mono ?_;rintro e v9 ⟨rfl,hb9⟩;have hB9:=hB8.trans (hb9.mono hB8.size))
      refine hK.out _ _ ⟨kCq n0 hB9 ltb,kCq n1 hB9 ltb,kCq n2z hB9 ltb,kCq n3z hB9 ltb,kCq n4 hB9 ltb,kCq n5 hB9 ltb,kCq r0 hB9 ltr,kCq r1 hB9 ltr,kCq r2 hB9 ltr,kCq r3 hB9 ltr,kCq r4 hB9 ltr⟩ (fun hHeld=>?_);clear hK K
      (try simp only [Act.put,aS1,aS2,aS3])
      refine plIn [13,14,15,16,17,18,19,20,21,22] ?_
      iterate 10
       refine hP (v:=?_) rfl rfl hHeld ?_ ?_;rotate_left
       ·intro wh hz;iterate 10 obtain ⟨_,hz⟩:=hz
        go_simp
        (try with_reducible rfl)
       simp only [Act.put,aS1,aS2,aS3]
      refine plOut ?_;refine held_call (i:=23) rfl (by kernel_rfl) (by rfl) (fun K hK=>?_)
      (go_simp;go_at_call 66;refine (KAM.out HRT.out.1 _ hB9).mono ?_;rintro e v10 ⟨rfl,hb10⟩;have hB10:=hB9.trans (hb10.mono hB9.size))
      refine hK.out _ _ ⟨kCq n0 hB10 ltb,kCq n1 hB10 ltb,kCq n2z hB10 ltb,kCq n3z hB10 ltb,kCq n4 hB10 ltb,kCq n5 hB10 ltb,kCq r0 hB10 ltr,kCq r1 hB10 ltr,kCq r2 hB10 ltr,kCq r3 hB10 ltr,kCq r4 hB10 ltr⟩ (fun hHeld=>?_);clear hK K
      (try simp only [Act.put,aS1,aS2,aS3])
      refine plIn [24,25] ?_
      iterate 2
       refine hP (v:=?_) rfl rfl hHeld ?_ ?_;rotate_left
       ·intro wh hz;iterate 10 obtain ⟨_,hz⟩:=hz
        go_simp
        (try with_reducible rfl)
       simp only [Act.put,aS1,aS2,aS3]
      refine plOut ?_;refine wpAnyH_done (by kernel_rfl) ?_ _;have HBZ:=Lib.hid (HB.out.trans (hB10.mono HB.out.size));have HNN:Hid (((l.take (n+1)).filter GO).any GD=false):=Lib.hid (by rw [HST.out,HNO.out,HGD.out];simp);clear n0 n1 n2z n3z n4 n5 r0 r1 r2 r3 r4 KR KF KAM hd hb8 hB8 hb9 hB9 hb10 hB10 HB;go_wp2;go_roundw
      case rel=>exact ⟨n+1,by go_num,by omega,HNN,HBZ⟩
      case measure=>(simp [intOf];try omega)
     refine wp_region_held_drew (S:=(fun W=>W.cell? ⟨b,o+n * 6,none⟩=some (.string ys)∧W.cell? ⟨b,o+n * 6+1,none⟩=some (.slice ya yl.length yc)∧W.cell? ⟨b,o+n * 6+2,none⟩=some (.int .i64 ylv)∧W.cell? ⟨b,o+n * 6+3,none⟩=some (.int .u32 yac)∧W.cell? ⟨b,o+n * 6+4,none⟩=some (.int .i64 yfr)∧W.cell? ⟨b,o+n * 6+5,none⟩=some (.int .i64 ytil)∧W.cell? ⟨w.heap.size+1,0,none⟩=some (.slice ba bys.length bc)∧W.cell? ⟨w.heap.size+1,1,none⟩=some (.int .i64 xlv)∧W.cell? ⟨w.heap.size+1,2,none⟩=some (.int .u32 xc)∧W.cell? ⟨w.heap.size+1,3,none⟩=some (.slice ra frm.length rc)∧W.cell? ⟨w.heap.size+1,4,none⟩=some (.slice wa whn.length wk))) (by kernel_rfl) ⟨n0,n1,n2z,n3z,n4,n5,r0,r1,r2,r3,r4⟩ (fun hHeld=>?_);have hd:Below wr.heap.size wr wr.drew:=(Below.refl _ _).drew;refine plIn [0,1,2,3] ?_
     iterate 4
      refine hP (v:=?_) rfl rfl hHeld ?_ ?_;rotate_left
      ·intro wh hz;iterate 10 obtain ⟨_,hz⟩:=hz
       go_simp
       (try with_reducible rfl)
      simp only [Act.put,aS1,aS2,aS3]
     refine plOut ?_;refine held_call (i:=4) rfl (by kernel_rfl) (by rfl) (fun K hK=>?_)
     (go_simp;go_at_call 21;refine (KR.out _ hd).mono ?_;rintro e v8 ⟨rfl,hb8⟩;have hB8:=hd.trans (hb8.mono hd.size))
     refine hK.out _ _ ⟨kCq n0 hB8 ltb,kCq n1 hB8 ltb,kCq n2z hB8 ltb,kCq n3z hB8 ltb,kCq n4 hB8 ltb,kCq n5 hB8 ltb,kCq r0 hB8 ltr,kCq r1 hB8 ltr,kCq r2 hB8 ltr,kCq r3 hB8 ltr,kCq r4 hB8 ltr⟩ (fun hHeld=>?_);clear hK K
     (try simp only [Act.put,aS1,aS2,aS3])
     refine plIn [5,6,7,8,9,10,11] ?_
     iterate 7
      refine hP (v:=?_) rfl rfl hHeld ?_ ?_;rotate_left
      ·intro wh hz;iterate 10 obtain ⟨_,hz⟩:=hz
       go_simp
       (try with_reducible rfl)
      simp only [Act.put,aS1,aS2,aS3]
     refine plOut ?_;refine held_call (i:=12) rfl (by kernel_rfl) (by rfl) (fun K hK=>?_)
     (go_simp;go_at_call 67;refine (KF.out _).mono ?_;rintro e v9 ⟨rfl,hb9⟩;have hB9:=hB8.trans (hb9.mono hB8.size))
     refine hK.out _ _ ⟨kCq n0 hB9 ltb,kCq n1 hB9 ltb,kCq n2z hB9 ltb,kCq n3z hB9 ltb,kCq n4 hB9 ltb,kCq n5 hB9 ltb,kCq r0 hB9 ltr,kCq r1 hB9 ltr,kCq r2 hB9 ltr,kCq r3 hB9 ltr,kCq r4 hB9 ltr⟩ (fun hHeld=>?_);clear hK K
     (try simp only [Act.put,aS1,aS2,aS3])
     refine plIn [13,14,15,16,17,18,19,20,21,22] ?_
     iterate 10
      refine hP (v:=?_) rfl rfl hHeld ?_ ?_;rotate_left
      ·intro wh hz;iterate 10 obtain ⟨_,hz⟩:=hz
       go_simp
       (try with_reducible rfl)
      simp only [Act.put,aS1,aS2,aS3]
     refine plOut ?_;refine held_call (i:=23) rfl (by kernel_rfl) (by rfl) (fun K hK=>?_)
     (go_simp;go_at_call 66;refine (KAM.out HRT.out.1 _ hB9).mono ?_;rintro e v10 ⟨rfl,hb10⟩;have hB10:=hB9.trans (hb10.mono hB9.size))
     refine hK.out _ _ ⟨kCq n0 hB10 ltb,kCq n1 hB10 ltb,kCq n2z hB10 ltb,kCq n3z hB10 ltb,kCq n4 hB10 ltb,kCq n5 hB10 ltb,kCq r0 hB10 ltr,kCq r1 hB10 ltr,kCq r2 hB10 ltr,kCq r3 hB10 ltr,kCq r4 hB10 ltr⟩ (fun hHeld=>?_);clear hK K
     (try simp only [Act.put,aS1,aS2,aS3])
     refine plIn [24,25] ?_
     iterate 2
      refine hP (v:=?_) rfl rfl hHeld ?_ ?_;rotate_left
      ·intro wh hz;iterate 10 obtain ⟨_,hz⟩:=hz
       go_simp
       (try with_reducible rfl)
      simp only [Act.put,aS1,aS2,aS3]
     refine plOut ?_;refine wpAnyH_done (by kernel_rfl) ?_ _;have HBq:=Lib.hid (HB.out.trans (hB10.mono HB.out.size));clear n0 n1 n2z n3z n4 n5 r0 r1 r2 r3 r4 KR KF KAM hd hb8 hB8 hb9 hB9 hb10 hB10 HB ltr ltb HBW;obtain ⟨wo,hwo⟩:∃ z,z=wr:=⟨_,rfl⟩;clear hwo;go_wp2
     go_loopw [16,17] (fun al i wr=>∃ (k:Nat),i=.int .i64 k∧k≤bys.length∧al=.bool ((bys.take k).all (sameV yl uL))∧Hid (Below w7.heap.size w7 wr)) (fun _ i _=>bys.length - (intOf i).toNat)
     case atStart=>exact ⟨0,rfl,Nat.zero_le _,by rfl,HBq⟩
     case round =>
      clear HBq;obtain ⟨k,rfl,hk,rfl,HB⟩:=hrel;have HBW:=Lib.hid (HB7.out.trans (HB.out.mono HB7.out.size));obtain ⟨r0,r1,r2,r3,r4⟩:=HR7.out.later HB.out ltr7;have ltr:w.heap.size+1 < wr.heap.size:=Nat.lt_of_lt_of_le ltr7 HB.out.size;have ltb:b < wr.heap.size:=Nat.lt_of_lt_of_le HBL.out HBW.out.size
      by_cases hkl:k < bys.length
      ·obtain ⟨bb,ob,rfl,hbb,hbc⟩:=HBR.out (by omega)
       have y0:=kCq (hbc k _ (by rw [List.getElem?_map,List.getElem?_eq_getElem hkl];rfl)) HBW.out hbb;have HTK:Hid ((bys.take (k+1)).all (sameV yl uL)=((bys.take k).all (sameV yl uL)&&sameV yl uL bys[k])):=Lib.hid (by rw [List.take_succ_eq_append_getElem hkl,List.all_append];simp);have HSV:Hid (sameV yl uL bys[k]=((valueF yl bys[k]).toList==(valueF uL bys[k]).toList)):=Lib.hid rfl;have KV1:=Lib.hid (fun V (hb:Below wr.heap.size wr V)=>val6_any yl bys[k] V _ (HYK.out.later (HBW.out.trans (hb.mono HBW.out.size))) (by omega));have KV2:=Lib.hid (fun V (hb:Below wr.heap.size wr V)=>val6_any uL bys[k] V _ (HF7.out.later (HB.out.trans (hb.mono HB.out.size))) (by omega));have ltu:gu < wr.heap.size:=Nat.lt_of_lt_of_le HLU7.out HB.out.size;have lty:bb < wr.heap.size:=Nat.lt_of_lt_of_le hbb HBW.out.size;obtain ⟨_,u1,_,_,_,_⟩:=HX7.out.later HB.out HLU7.out;have n1:=KEEP.out (HNC.out.2.1) HBW.out;generalize (bys.take k).all (sameV yl uL)=A0 at *;generalize sameV yl uL bys[k]=SV at *;generalize valueF yl bys[k]=s1 at *;generalize valueF uL bys[k]=s2 at *;generalize bys[k]=byk at *;have hi4:(0:Int)≤(k:Int):=by omega
       have hi5:(k:Int) < (bys.length:Int):=by omega
       clear hbc;go_upto_region 12 with fail
       cases A0
       ·refine wp_region_held_drew (S:=(fun W=>W.cell? ⟨b,o+n * 6+1,none⟩=some (.slice ya yl.length yc)∧W.cell? ⟨gu,1,none⟩=some (.slice ua uL.length ud)∧W.cell? ⟨w.heap.size+1,0,none⟩=some (.slice (some ⟨bb,ob,none⟩) bys.length bc)∧W.cell? ⟨bb,ob+k,none⟩=some (.string byk))) (by kernel_rfl) ⟨n1,u1,r0,y0⟩ (fun hHeld=>?_)
        have hd:Below wr.heap.size wr wr.drew:=(Below.refl _ _).drew;refine plIn [0,1] ?_
        iterate 2
         refine hP (v:=?_) rfl rfl hHeld ?_ ?_;rotate_left
         ·rintro wh ⟨z_0,z_1,z_2,z_3⟩
          go_simp
          (try with_reducible rfl)
         simp only [Act.put,aS1,aS2,aS3]
        refine plOut ?_;refine plIn [2,3,4,5,6,7,8,9,10,11,12,13,14,15,16,17,18,19,20,21] ?_
        iterate 20
         refine hK rfl rfl hHeld ?_;simp only [Act.put,aS1,aS2,aS3]
        refine plOut ?_;refine plIn [22,23] ?_
        iterate 2
         refine hP (v:=?_) rfl rfl hHeld ?_ ?_;rotate_left
         ·rintro wh ⟨z_0,z_1,z_2,z_3⟩
          go_simp
          (try with_reducible rfl)
         simp only [Act.put,aS1,aS2,aS3]
        refine plOut ?_;refine wpAnyH_done (by kernel_rfl) ?_ _;have HBZ:=Lib.hid (HB.out.trans (hd.mono HB.out.size));have HNN:Hid ((bys.take (k+1)).all (sameV yl uL)=false):=Lib.hid (by rw [HTK.out];rfl);clear r0 r1 r2 r3 r4 n1 u1 y0 hd HB KV1 KV2;go_wp2;go_roundw
        case rel=>exact ⟨k+1,by go_num,by omega,(by rw [HNN.out]),HBZ⟩
        case measure=>(simp [intOf];try omega)
       ·refine wp_region_held_drew (S:=(fun W=>W.cell? ⟨b,o+n * 6+1,none⟩=some (.slice ya yl.length yc)∧W.cell? ⟨gu,1,none⟩=some (.slice ua uL.length ud)∧W.cell? ⟨w.heap.size+1,0,none⟩=some (.slice (some ⟨bb,ob,none⟩) bys.length bc)∧W.cell? ⟨bb,ob+k,none⟩=some (.string byk))) (by kernel_rfl) ⟨n1,u1,r0,y0⟩ (fun hHeld=>?_)
        have hd:Below wr.heap.size wr wr.drew:=(Below.refl _ _).drew;refine plIn [0,1,2,3,4,5,6,7,8,9,10,11,13,14,15,16,17,18,19] ?_
        iterate 19
         refine hP (v:=?_) rfl rfl hHeld ?_ ?_;rotate_left
         ·rintro wh ⟨z_0,z_1,z_2,z_3⟩
          go_simp
          (try with_reducible rfl)
         simp only [Act.put,aS1,aS2,aS3]
        refine plOut ?_;refine held_call (i:=12) rfl (by kernel_rfl) (by rfl) (fun K hK=>?_)
        (go_simp;go_at_call 68;refine (KV1.out _ hd).mono ?_;rintro e v8 ⟨rfl,hb8⟩;have hB8:=hd.trans (hb8.mono hd.size))
        refine hK.out _ _ ⟨kCq n1 hB8 ltb,kCq u1 hB8 ltu,kCq r0 hB8 ltr,kCq y0 hB8 lty⟩ (fun hHeld=>?_);clear hK K
        (try simp only [Act.put,aS1,aS2,aS3])
        refine held_call (i:=20) rfl (by kernel_rfl) (by rfl) (fun K hK=>?_)
        (go_simp;go_at_call 68;refine (KV2.out _ hB8).mono ?_;rintro e v9 ⟨rfl,hb9⟩;have hB9:=hB8.trans (hb9.mono hB8.size))
        refine hK.out _ _ ⟨kCq n1 hB9 ltb,kCq u1 hB9 ltu,kCq r0 hB9 ltr,kCq y0 hB9 lty⟩ (fun hHeld=>?_);clear hK K
        (try simp only [Act.put,aS1,aS2,aS3])
        refine plIn [21,22,23] ?_
        iterate 3
         refine hP (v:=?_) rfl rfl hHeld ?_ ?_;rotate_left
         ·rintro wh ⟨z_0,z_1,z_2,z_3⟩
          go_simp
          (try with_reducible rfl)
         simp only [Act.put,aS1,aS2,aS3]
        refine plOut ?_;refine wpAnyH_done (by kernel_rfl) ?_ _;have HBZ:=Lib.hid (HB.out.trans (hB9.mono HB.out.size));have HNN:Hid ((bys.take (k+1)).all (sameV yl uL)=SV):=Lib.hid (by rw [HTK.out];rfl);clear r0 r1 r2 r3 r4 n1 u1 y0 hd hb8 hB8 hb9 hB9 HB KV1 KV2;have HSVE:Hid ((s1.toList==s2.toList)=SV):=Lib.hid HSV.out.symm;go_wp2;go_roundw
        case rel=>exact ⟨k+1,by go_num,by omega,(by rw [HNN.out,← HSVE.out]),HBZ⟩
        case measure=>(simp [intOf];try omega)
      ·obtain rfl:k=bys.length:=by omega
       have HAK:Hid ((bys.take bys.length).all (sameV yl uL)=alikeM bys yl uL):=Lib.hid (by rw [List.take_length];rfl);rw [HAK.out];obtain ⟨n0,n1,n2z,n3z,n4,n5⟩:=HNC.out;have n0:=KEEP.out n0 HBW.out;have n1:=KEEP.out n1 HBW.out;have n2z:=KEEP.out n2z HBW.out;have n3z:=KEEP.out n3z HBW.out;have n4:=KEEP.out n4 HBW.out;have n5:=KEEP.out n5 HBW.out;obtain ⟨p0,p1,p2,p3,p4,p5⟩:=HKC.out;have p0:=KEEP.out p0 HBW.out;have p1:=KEEP.out p1 HBW.out;have p2:=KEEP.out p2 HBW.out;have p3:=KEEP.out p3 HBW.out;have p4:=KEEP.out p4 HBW.out;have p5:=KEEP.out p5 HBW.out;have KI1:=Lib.hid (fun V (hb:Below wr.heap.size wr V)=>refid_any ys yl ylv yac yfr ytil _ V (HYK.out.later (HBW.out.trans (hb.mono HBW.out.size))) HRT.out.2);have KI2:=Lib.hid (fun V (hb:Below wr.heap.size wr V)=>refid_any src fl alv ac fr til _ V (HFK.out.later (HBW.out.trans (hb.mono HBW.out.size))) HIDB.out);generalize alikeM bys yl uL=AK at *;generalize shortL (idB ys yl)=i1 at *;generalize shortL (idB src fl)=i2 at *;go_upto_region 13 with fail;clear r0 r1 r2 r3 r4
       cases AK
       ·refine wp_region_held_drew (S:=(fun W=>W.cell? ⟨b,o+n * 6,none⟩=some (.string ys)∧W.cell? ⟨b,o+n * 6+1,none⟩=some (.slice ya yl.length yc)∧W.cell? ⟨b,o+n * 6+2,none⟩=some (.int .i64 ylv)∧W.cell? ⟨b,o+n * 6+3,none⟩=some (.int .u32 yac)∧W.cell? ⟨b,o+n * 6+4,none⟩=some (.int .i64 yfr)∧W.cell? ⟨b,o+n * 6+5,none⟩=some (.int .i64 ytil)∧W.cell? ⟨b,o+j * 6,none⟩=some (.string src)∧W.cell? ⟨b,o+j * 6+1,none⟩=some (.slice fa fl.length fc)∧W.cell? ⟨b,o+j * 6+2,none⟩=some (.int .i64 alv)∧W.cell? ⟨b,o+j * 6+3,none⟩=some (.int .u32 ac)∧W.cell? ⟨b,o+j * 6+4,none⟩=some (.int .i64 fr)∧W.cell? ⟨b,o+j * 6+5,none⟩=some (.int .i64 til))) (by kernel_rfl) ⟨n0,n1,n2z,n3z,n4,n5,p0,p1,p2,p3,p4,p5⟩ (fun hHeld=>?_)
        have hd:Below wr.heap.size wr wr.drew:=(Below.refl _ _).drew;refine plIn [0,1] ?_
        iterate 2
         refine hP (v:=?_) rfl rfl hHeld ?_ ?_;rotate_left
         ·intro wh hz;iterate 11 obtain ⟨_,hz⟩:=hz
          go_simp
          (try with_reducible rfl)
         simp only [Act.put,aS1,aS2,aS3]
        refine plOut ?_;refine plIn [2,3,4,5,6,7,8,9,10,11,12] ?_
        iterate 11
         refine hK rfl rfl hHeld ?_;simp only [Act.put,aS1,aS2,aS3]
        refine plOut ?_;refine hT (i:=13) (v:=?_) rfl rfl hHeld ?_ ?_;rotate_left
        ·intro wh hz;iterate 11 obtain ⟨_,hz⟩:=hz
         go_simp
         (try with_reducible rfl)
        simp only [Act.put,aS1,aS2,aS3];refine wpAnyH_done (by kernel_rfl) ?_ _;have HBZ:=Lib.hid (HB.out.trans (hd.mono HB.out.size));have HNN:Hid (((l.take (n+1)).filter GO).any GD=false):=Lib.hid (by rw [HST.out,HNO.out,HGD.out];simp);clear n0 n1 n2z n3z n4 n5 p0 p1 p2 p3 p4 p5 hd HB KI1 KI2;go_wp2;go_roundw
        case rel=>exact ⟨n+1,by go_num,by omega,HNN,HBZ⟩
        case measure=>(simp [intOf];try omega)
       ·by_cases hne:i1=i2
        ·have hnb:(i1 != i2)=false:=by simp [hne]
         have HNB:=Lib.hid hnb;clear hne;refine wp_region_held_drew (S:=(fun W=>W.cell? ⟨b,o+n * 6,none⟩=some (.string ys)∧W.cell? ⟨b,o+n * 6+1,none⟩=some (.slice ya yl.length yc)∧W.cell? ⟨b,o+n * 6+2,none⟩=some (.int .i64 ylv)∧W.cell? ⟨b,o+n * 6+3,none⟩=some (.int .u32 yac)∧W.cell? ⟨b,o+n * 6+4,none⟩=some (.int .i64 yfr)∧W.cell? ⟨b,o+n * 6+5,none⟩=some (.int .i64 ytil)∧W.cell? ⟨b,o+j * 6,none⟩=some (.string src)∧W.cell? ⟨b,o+j * 6+1,none⟩=some (.slice fa fl.length fc)∧W.cell? ⟨b,o+j * 6+2,none⟩=some (.int .i64 alv)∧W.cell? ⟨b,o+j * 6+3,none⟩=some (.int .u32 ac)∧W.cell? ⟨b,o+j * 6+4,none⟩=some (.int .i64 fr)∧W.cell? ⟨b,o+j * 6+5,none⟩=some (.int .i64 til))) (by kernel_rfl) ⟨n0,n1,n2z,n3z,n4,n5,p0,p1,p2,p3,p4,p5⟩ (fun hHeld=>?_);have hd:Below wr.heap.size wr wr.drew:=(Below.refl _ _).drew;refine plIn [0,1,2,3,4,5,7,8,9,10] ?_
         iterate 10
          refine hP (v:=?_) rfl rfl hHeld ?_ ?_;rotate_left
          ·intro wh hz;iterate 11 obtain ⟨_,hz⟩:=hz
           go_simp
           (try with_reducible rfl)
          simp only [Act.put,aS1,aS2,aS3]
         refine plOut ?_;refine held_call (i:=6) rfl (by kernel_rfl) (by rfl) (fun K hK=>?_)
         (go_simp;go_at_call 69;refine (KI1.out _ hd).mono ?_;rintro e v8 ⟨rfl,hb8⟩;have hB8:=hd.trans (hb8.mono hd.size))
         refine hK.out _ _ ⟨kCq n0 hB8 ltb,kCq n1 hB8 ltb,kCq n2z hB8 ltb,kCq n3z hB8 ltb,kCq n4 hB8 ltb,kCq n5 hB8 ltb,kCq p0 hB8 ltb,kCq p1 hB8 ltb,kCq p2 hB8 ltb,kCq p3 hB8 ltb,kCq p4 hB8 ltb,kCq p5 hB8 ltb⟩ (fun hHeld=>?_);clear hK K
         (try simp only [Act.put,aS1,aS2,aS3])
         refine held_call (i:=11) rfl (by kernel_rfl) (by rfl) (fun K hK=>?_)
         (go_simp;go_at_call 69;refine (KI2.out _ hB8).mono ?_;rintro e v9 ⟨rfl,hb9⟩;have hB9:=hB8.trans (hb9.mono hB8.size))
         refine hK.out _ _ ⟨kCq n0 hB9 ltb,kCq n1 hB9 ltb,kCq n2z hB9 ltb,kCq n3z hB9 ltb,kCq n4 hB9 ltb,kCq n5 hB9 ltb,kCq p0 hB9 ltb,kCq p1 hB9 ltb,kCq p2 hB9 ltb,kCq p3 hB9 ltb,kCq p4 hB9 ltb,kCq p5 hB9 ltb⟩ (fun hHeld=>?_);clear hK K
         (try simp only [Act.put,aS1,aS2,aS3])
         refine plIn [12,13] ?_
         iterate 2
          refine hP (v:=?_) rfl rfl hHeld ?_ ?_;rotate_left
          ·intro wh hz;iterate 11 obtain ⟨_,hz⟩:=hz
           go_simp
           (try with_reducible rfl)
          simp only [Act.put,aS1,aS2,aS3]
         refine plOut ?_;refine wpAnyH_done (by kernel_rfl) ?_ _;have HBZ:=Lib.hid (HB.out.trans (hB9.mono HB.out.size));have HNN:Hid (((l.take (n+1)).filter GO).any GD=false):=Lib.hid (by rw [HST.out,HNO.out,HGD.out];simp [HNB.out]);clear n0 n1 n2z n3z n4 n5 p0 p1 p2 p3 p4 p5 hd hb8 hB8 hb9 hB9 HB KI1 KI2;go_wp2;go_roundw
         case rel=>exact ⟨n+1,by go_num,by omega,HNN,HBZ⟩
         case measure=>(simp [intOf];try omega)
        ·have hnb:(i1 != i2)=true:=by simp [hne]
         have HNB:=Lib.hid hnb;clear hne;refine wp_region_held_drew (S:=(fun W=>W.cell? ⟨b,o+n * 6,none⟩=some (.string ys)∧W.cell? ⟨b,o+n * 6+1,none⟩=some (.slice ya yl.length yc)∧W.cell? ⟨b,o+n * 6+2,none⟩=some (.int .i64 ylv)∧W.cell? ⟨b,o+n * 6+3,none⟩=some (.int .u32 yac)∧W.cell? ⟨b,o+n * 6+4,none⟩=some (.int .i64 yfr)∧W.cell? ⟨b,o+n * 6+5,none⟩=some (.int .i64 ytil)∧W.cell? ⟨b,o+j * 6,none⟩=some (.string src)∧W.cell? ⟨b,o+j * 6+1,none⟩=some (.slice fa fl.length fc)∧W.cell? ⟨b,o+j * 6+2,none⟩=some (.int .i64 alv)∧W.cell? ⟨b,o+j * 6+3,none⟩=some (.int .u32 ac)∧W.cell? ⟨b,o+j * 6+4,none⟩=some (.int .i64 fr)∧W.cell? ⟨b,o+j * 6+5,none⟩=some (.int .i64 til))) (by kernel_rfl) ⟨n0,n1,n2z,n3z,n4,n5,p0,p1,p2,p3,p4,p5⟩ (fun hHeld=>?_);have hd:Below wr.heap.size wr wr.drew:=(Below.refl _ _).drew;refine plIn [0,1,2,3,4,5,7,8,9,10] ?_
         iterate 10
          refine hP (v:=?_) rfl rfl hHeld ?_ ?_;rotate_left
          ·intro wh hz;iterate 11 obtain ⟨_,hz⟩:=hz
           go_simp
           (try with_reducible rfl)
          simp only [Act.put,aS1,aS2,aS3]
         refine plOut ?_;refine held_call (i:=6) rfl (by kernel_rfl) (by rfl) (fun K hK=>?_)
         (go_simp;go_at_call 69;refine (KI1.out _ hd).mono ?_;rintro e v8 ⟨rfl,hb8⟩;have hB8:=hd.trans (hb8.mono hd.size))
         refine hK.out _ _ ⟨kCq n0 hB8 ltb,kCq n1 hB8 ltb,kCq n2z hB8 ltb,kCq n3z hB8 ltb,kCq n4 hB8 ltb,kCq n5 hB8 ltb,kCq p0 hB8 ltb,kCq p1 hB8 ltb,kCq p2 hB8 ltb,kCq p3 hB8 ltb,kCq p4 hB8 ltb,kCq p5 hB8 ltb⟩ (fun hHeld=>?_);clear hK K
         (try simp only [Act.put,aS1,aS2,aS3])
         refine held_call (i:=11) rfl (by kernel_rfl) (by rfl) (fun K hK=>?_)
         (go_simp;go_at_call 69;refine (KI2.out _ hB8).mono ?_;rintro e v9 ⟨rfl,hb9⟩;have hB9:=hB8.trans (hb9.mono hB8.size))
         refine hK.out _ _ ⟨kCq n0 hB9 ltb,kCq n1 hB9 ltb,kCq n2z hB9 ltb,kCq n3z hB9 ltb,kCq n4 hB9 ltb,kCq n5 hB9 ltb,kCq p0 hB9 ltb,kCq p1 hB9 ltb,kCq p2 hB9 ltb,kCq p3 hB9 ltb,kCq p4 hB9 ltb,kCq p5 hB9 ltb⟩ (fun hHeld=>?_);clear hK K
         (try simp only [Act.put,aS1,aS2,aS3])
         refine plIn [12,13] ?_
         iterate 2
          refine hP (v:=?_) rfl rfl hHeld ?_ ?_;rotate_left
          ·intro wh hz;iterate 11 obtain ⟨_,hz⟩:=hz
           go_simp
           (try with_reducible rfl)
          simp only [Act.put,aS1,aS2,aS3]
         refine plOut ?_;refine wpAnyH_done (by kernel_rfl) ?_ _;have HBZ:=Lib.hid (HB.out.trans (hB9.mono HB.out.size));have HN:Hid (RES=true):=Lib.hid (by rw [HRR.out];exact HEND.out (by rw [HGO.out];rfl) (by rw [HGD.out,HNB.out];rfl));clear n0 n1 n2z n3z n4 n5 p0 p1 p2 p3 p4 p5 hd hb8 hB8 hb9 hB9 HB KI1 KI2;go_wp2;go_ret;exact ⟨by rw [HN.out];rfl,HB7.out.trans (HBZ.out.mono HB7.out.size)⟩
    ·obtain rfl:n=l.length:=by omega
     have HN:Hid (RES=false):=Lib.hid (by have h:=HNO.out;rw [List.take_length] at h;rw [HRR.out];exact h);go_wp2;go_ret;exact ⟨by rw [HN.out];rfl,HB7.out.trans (HB.out.mono HB7.out.size)⟩
def toldA (ra:List Nmd) (t:Int × Nat) (now:Int) (q:Al × Value):Bool:=cutOk ra q.1.fl (q.1.lv,q.1.c) t&&rightA q.1&&firesA q.1 now
set_option maxHeartbeats 6400000 in
set_option maxRecDepth 100000 in
theorem told_any (v:PV) (p:PD) (l:List (Al × Value)) (lv:Value) (tl:Int) (tc:Nat) (now:Int) (w:World) (hp:PolAt w v p) (hpf:PolFitD p) (hl:AlsAt w lv l) (hlen:l.length≤1000000) (h12:∀ q∈l,q.1.fl.length≤12) :
  Calls Tryz.prog 32 #[v.v,lv,Lab tl tc,.int .i64 now] w fun e w'=>∃ r,e=.returned r∧w'.ownsRow w.heap.size 3 1 r (idxF (toldA p.ra (tl,tc) now) l).length ((idxF (toldA p.ra (tl,tc) now) l).map I)∧Below w.heap.size w w':=by
 obtain ⟨v0,v1,v2,v3,v4,v5⟩:=v;obtain ⟨h0,h1,h2,h3,⟨h4,_⟩,h5,_⟩:=hp;dsimp only at h0 h1 h2 h3 h4 h5;obtain ⟨a0,c0,rfl,_,_⟩:=RdAt.shape h0;obtain ⟨a1,c1,rfl,_,_⟩:=RdAt.shape h1;obtain ⟨a2,c2,rfl,_,_⟩:=RdAt.shape h2;obtain ⟨a3,c3,rfl,_,_⟩:=RdAt.shape h3;obtain ⟨a4,c4,rfl,_,_⟩:=RdAt.shape h4;obtain ⟨a5,c5,rfl,_,_⟩:=RdAt.shape h5;obtain ⟨la,lc,rfl,hlc,hlr⟩:=RdAt.shape hl.row;have HLR:=Lib.hid hlr;have HFL:=Lib.hid hl.fld;have H12:=Lib.hid h12
 have KCUT:Hid (∀ (x m:Al) (ok:Bool) (fa:Option Addr) (fc:Nat) (W:World),Below w.heap.size w W→FldsAt W (.slice fa x.fl.length fc) x.fl→x.fl.length≤12→cutOk p.ra x.fl (x.lv,x.c) (tl,tc)=ok→cutAl p.ra x (tl,tc)=m →
   Calls Tryz.prog 20 #[.agg #[.slice a0 p.so.length c0,.slice a1 p.re.length c1,.slice a2 p.pe.length c2,.slice a3 p.ra.length c3,.slice a4 p.ro.length c4,.slice a5 p.ih.length c5],.agg #[.string x.src,.slice fa x.fl.length fc,.int .i64 x.lv,.int .u32 x.c,.int .i64 x.fr,.int .i64 x.til],Lab tl tc] W fun e w' =>
    ∃ pa pc,e=.returned (.tuple #[.agg #[.string m.src,.slice pa m.fl.length pc,.int .i64 m.lv,.int .u32 m.c,.int .i64 m.fr,.int .i64 m.til],.bool ok])∧FldsAt w' (.slice pa m.fl.length pc) m.fl∧(∀ q,(Value.slice pa m.fl.length pc).ownBlock=some q→W.heap.size≤q)∧Below W.heap.size W w') :=
  Lib.hid (fun x m ok fa fc W hW hF hx hok hm=>cut_l (a0,p.so.length,c0) (a1,p.re.length,c1) (a2,p.pe.length,c2) (a4,p.ro.length,c4) (a5,p.ih.length,c5) p.ra (.slice a3 p.ra.length c3) x (.slice fa x.fl.length fc) (tl,tc) m ok W (h3.later hW) hpf.h3.1 hF (by omega) hok hm)
 obtain ⟨W0,hW0⟩:∃ z,(w.alloc (.cells #[.slice a0 p.so.length c0,.slice a1 p.re.length c1,.slice a2 p.pe.length c2,.slice a3 p.ra.length c3,.slice a4 p.ro.length c4,.slice a5 p.ih.length c5] 26)).alloc (.cells #[.int .i64 tl,.int .u32 tc] 36)=z:=⟨_,rfl⟩;have HS0:Hid (QPt w (.slice a0 p.so.length c0) (.slice a1 p.re.length c1) (.slice a2 p.pe.length c2) (.slice a3 p.ra.length c3) (.slice a4 p.ro.length c4) (.slice a5 p.ih.length c5) tl tc W0):=Lib.hid (by rw [← hW0];exact qpt_new w _ _ _ _ _ _ _ _ _ _);have HW0:=Lib.hid hW0;obtain ⟨i0,hi,hz0,hz1,hz2⟩:=info_parts infoInt13;clear h0 h1 h2 h3 h4 h5 hW0 hlr hl h12
 go_enter Tryz.func32,Tryz.ntmps32
 go_upto_region 1 with fail;rw [HW0.out];clear HW0;go_wp2
 go_loopw [9,16] (fun s9 i wr=>∃ (n:Nat),i=.int .i64 n∧n≤l.length∧Hid (wr.ownsRow W0.heap.size 3 1 s9 (idxTo (toldA p.ra (tl,tc) now) l n).length ((idxTo (toldA p.ra (tl,tc) now) l n).map I))∧Hid (Below W0.heap.size W0 wr)) (fun _ i _=>l.length - (intOf i).toNat)
 case atStart=>exact ⟨0,rfl,Nat.zero_le _,Lib.hid (World.ownsRow_nil _ _ _ _),Lib.hid (Below.refl _ _)⟩
 case round =>
  obtain ⟨n,rfl,hn,HO,HB⟩:=hrel
  by_cases hnl:n < l.length
  ·obtain ⟨b,o,rfl,hbl,hcell⟩:=HLR.out (by omega)
   have hat:=alCells_at l n hnl;have hBw:=HS0.out.below.trans (HB.out.mono HS0.out.below.size);have p0:=kCq (hcell _ _ (hat 0 _ rfl)) hBw hbl;have p1:=kCq (hcell _ _ (hat 1 _ rfl)) hBw hbl;have p2:=kCq (hcell _ _ (hat 2 _ rfl)) hBw hbl;have p3:=kCq (hcell _ _ (hat 3 _ rfl)) hBw hbl;have p4:=kCq (hcell _ _ (hat 4 _ rfl)) hBw hbl;have p5:=kCq (hcell _ _ (hat 5 _ rfl)) hBw hbl;rw [Nat.add_zero] at p0;rw [← Nat.add_assoc] at p1 p2 p3 p4 p5;have hmem:=List.getElem_mem hnl;obtain ⟨hfk,hfit⟩:=HFL.out _ hmem;have hf12:=H12.out _ hmem;have HST:=Lib.hid (idxTo_step (toldA p.ra (tl,tc) now) l hnl);have hil:=idxTo_len (toldA p.ra (tl,tc) now) l n;have HG:Hid (toldA p.ra (tl,tc) now l[n]=(cutOk p.ra l[n].1.fl (l[n].1.lv,l[n].1.c) (tl,tc)&&rightA l[n].1&&firesA l[n].1 now)):=Lib.hid rfl;generalize toldA p.ra (tl,tc) now=F at *;generalize l[n]=y at *;obtain ⟨⟨src,fl,alv,ac,fr,til⟩,fv⟩:=y;dsimp only at *;obtain ⟨fa,fc,rfl,hfc,_⟩:=RdAt.shape hfk;obtain ⟨W1,hW1⟩:∃ z,wr.alloc (.cells #[.string src,.slice fa fl.length fc,.int .i64 alv,.int .u32 ac,.int .i64 fr,.int .i64 til] 54)=z:=⟨_,rfl⟩;have hx:C6 wr.heap.size (.string src) (.slice fa fl.length fc) (.int .i64 alv) (.int .u32 ac) (.int .i64 fr) (.int .i64 til) W1:=by rw [← hW1];exact box6n wr _ _ _ _ _ _ _
   have hs1:wr.heap.size < W1.heap.size:=by rw [← hW1,World.size_alloc];omega
   have hb1:Below wr.heap.size wr W1:=by rw [← hW1];exact aBq _ _
   have HB1:=Lib.hid (HB.out.trans (hb1.mono HB.out.size));have HO1:=Lib.hid (own_later HO.out hb1);have HS1:=Lib.hid (HS0.out.later HB1.out);have HX1:=Lib.hid hx;have HL1:=Lib.hid hs1;have HFK:=Lib.hid hfk;obtain ⟨m,hm⟩:∃ m,cutAl p.ra ⟨src,fl,alv,ac,fr,til⟩ (tl,tc)=m:=⟨_,rfl⟩;obtain ⟨ok,hok⟩:∃ z,cutOk p.ra fl (alv,ac) (tl,tc)=z:=⟨_,rfl⟩;have kc:=KCUT.out ⟨src,fl,alv,ac,fr,til⟩ m ok fa fc W1 HS1.out.below (hfk.later HS1.out.below) hf12 hok hm;have KR:=Lib.hid (fun V (h:Below w.heap.size w V)=>aright_any src fl alv ac fr til _ V hfit.src (hfk.later h) hfit.fl hfit.len);have KF:=Lib.hid (fun V=>fires_any src fa fl.length fc alv ac fr til now V);have hR:rightA ⟨src,fl,alv,ac,fr,til⟩=(whoA src fl alv&&beginsA fr&&endsA fr til):=rfl;have hF:firesA ⟨src,fl,alv,ac,fr,til⟩ now=(decide (fr≤now)&&(decide (til=0) || decide (now < til))):=rfl;rw [← hR] at KR;rw [← hF] at KF;rw [hok] at HG;generalize rightA ⟨src,fl,alv,ac,fr,til⟩=R at *;generalize firesA ⟨src,fl,alv,ac,fr,til⟩ now=FI at *;generalize F (⟨src,fl,alv,ac,fr,til⟩,Value.slice fa fl.length fc)=G at *;obtain ⟨us,uL,ql,qc,uf,ut⟩:=m;dsimp only at kc;have t0:=HS1.out.t0;have t1:=HS1.out.t1;obtain ⟨q0,q1,q2,q3,q4,q5⟩:=HS1.out.p;obtain ⟨x0,x1,x2,x3,x4,x5⟩:=hx;clear hmem hfk hfit hat hcell hBw hb1 hR hF hm hok HO HB hs1;go_wp2_with fail
   refine kc.mono ?_;rintro e w2 ⟨ua,ud,rfl,hFu,hOu,hb2⟩;have hHB2:=HB1.out.trans (hb2.mono HB1.out.size);have hO2:=own_later HO1.out hb2;have hX2:=HX1.out.later hb2 HL1.out;have hL2:=Nat.lt_of_lt_of_le HL1.out hb2.size;clear kc hb2 hFu hOu HO1 HB1 HS1 HX1 HL1 p0 p1 p2 p3 p4 p5 t0 t1 q0 q1 q2 q3 q4 q5 x0 x1 x2 x3 x4 x5 hW1;have hb3:=aBq w2 (.cells #[.string us,.slice ua uL.length ud,.int .i64 ql,.int .u32 qc,.int .i64 uf,.int .i64 ut] 54);have HB3:=Lib.hid (hHB2.trans (hb3.mono hHB2.size));have HO3:=Lib.hid (own_later hO2 hb3);have HX3:=Lib.hid (hX2.later hb3 hL2);have HL3:=Lib.hid (Nat.lt_of_lt_of_le hL2 hb3.size);clear hb3 hHB2 hO2 hX2 hL2;go_upto_region 6 with fail;change Code.wp _ _ _ _ (w2.alloc (.cells #[.string us,.slice ua uL.length ud,.int .i64 ql,.int .u32 qc,.int .i64 uf,.int .i64 ut] 54));generalize w2.alloc (.cells #[.string us,.slice ua uL.length ud,.int .i64 ql,.int .u32 qc,.int .i64 uf,.int .i64 ut] 54)=w3 at *
   cases ok
   ·clear KR KF HX3 HL3
    have HN1:Hid (idxTo F l (n+1)=idxTo F l n):=Lib.hid (by rw [HST.out,show G=false from by rw [HG.out];rfl];simp);go_wp2;go_roundw
    case rel=>exact ⟨n+1,by go_num,by omega,Lib.hid (by rw [HN1.out];exact HO3.out),HB3⟩
    case measure=>(simp [intOf];try omega)
   ·obtain ⟨x0,x1,x2,x3,x4,x5⟩:=HX3.out
    have kr:=KR.out w3 (HS0.out.below.trans (HB3.out.mono HS0.out.below.size));go_wp2_with fail
    refine kr.mono ?_;rintro e w4 ⟨rfl,hb4⟩;have HB4:=Lib.hid (HB3.out.trans (hb4.mono HB3.out.size));have HO4:=Lib.hid (own_later HO3.out hb4);have HX4:=Lib.hid (HX3.out.later hb4 HL3.out);clear kr hb4 x0 x1 x2 x3 x4 x5 HX3 HL3 HO3 HB3
    cases R
    ·clear KR KF HX4
     have HN1:Hid (idxTo F l (n+1)=idxTo F l n):=Lib.hid (by rw [HST.out,show G=false from by rw [HG.out];rfl];simp);go_wp2;go_roundw
     case rel=>exact ⟨n+1,by go_num,by omega,Lib.hid (by rw [HN1.out];exact HO4.out),HB4⟩
     case measure=>(simp [intOf];try omega)
    ·obtain ⟨x0,x1,x2,x3,x4,x5⟩:=HX4.out
     have kf:=KF.out w4;go_wp2_with fail
     refine kf.mono ?_;rintro e w5 ⟨rfl,hb5⟩;have hB5:=HB4.out.trans (hb5.mono HB4.out.size);have hO5:=own_later HO4.out hb5;have HB5:=Lib.hid hB5;have HO5:=Lib.hid hO5;clear kf hb5 x0 x1 x2 x3 x4 x5 HX4 HO4 HB4
     cases FI
     ·clear KR KF hB5 hO5
      have HN1:Hid (idxTo F l (n+1)=idxTo F l n):=Lib.hid (by rw [HST.out,show G=false from by rw [HG.out];rfl];simp);go_wp2;go_roundw
      case rel=>exact ⟨n+1,by go_num,by omega,Lib.hid (by rw [HN1.out];exact HO5.out),HB5⟩
      case measure=>(simp [intOf];try omega)
     ·have HN1:Hid (idxTo F l (n+1)=idxTo F l n ++ [(n:Int)]):=Lib.hid (by rw [HST.out,show G=true from by rw [HG.out];rfl];simp)
      have hb8:=aBq w5 (.cells #[I n] 3);have hown8:=hO5.alloc (.cells #[I n] 3);have hsz8:=hB5.size;clear hO5 KR KF;go_wp2_with (at_builtin;(refine wpList_append_own _ rfl _ _ 38 rfl W0.heap.size 3 i0 (.int .i64 0) 1 8 Tryz.underlying38 hi hz0 hz1 hz2 rfl (by decide) _ _ _ rfl hown8 ⟨w5.heap.size,0,none⟩ 1 1 [I n] rfl rfl (cell_one_new _ _ _) (by simp [Value.oneCell']) (by unfold maxLen;omega) (by omega) (by simp;omega) ?_);intro v' w8 hown' hg8 hnil8)
      have HB8:=Lib.hid ((hB5.trans (hb8.mono hB5.size)).grown hg8 (by simp;omega) (fun j e=>(hown8.lt j e).1));have HO8:Hid (w8.ownsRow W0.heap.size 3 1 v' (idxTo F l (n+1)).length ((idxTo F l (n+1)).map I)):=Lib.hid (by rw [HN1.out];simpa using hown');clear hown' hg8 hnil8 hown8 hb8 hB5 HO5 HB5;go_wp2;go_roundw
      case rel=>exact ⟨n+1,by go_num,by omega,HO8,HB8⟩
      case measure=>(simp [intOf];try omega)
  ·obtain rfl:n=l.length:=by omega
   go_wp2;go_ret;exact ⟨_,rfl,World.ownsRow.mono HO.out (by have:=HS0.out.below.size;omega),HS0.out.below.trans (HB.out.mono HS0.out.below.size)⟩
end Go.Proofs.YtipnhpfpppblhaaGreat
