/- What several claims of this seat share: contracts of the functions that they reach. -/
import Derived.Test.YtipnhpfpppblhaaGreatQ13P4
import Derived.Maps.OwnOps
import Derived.Maps.Views
import Derived.ProofKit
import Derived.OpenShut
import Derived.Deep.Slices
import Derived.Deep.Fields
import Derived.ChangeSame
import Derived.Laws.IdiomArrays
import Derived.Maps.AppendAt
import Derived.SliceStrings
import Derived.Deep.Onto
import Derived.Deep.AppendSrc
import Derived.Deep.MidRow
import Derived.Laws.IdiomCopy
import Derived.Laws.Bits64b

namespace Go.Proofs.YtipnhpfpppblhaaGreat
open Go.RowKit Go.Shelf
attribute [local go_sem] Oper.semAt_some
theorem rightA_len {x:Al} (h:rightA x=true):x.fl.length≤8:=by
 obtain ⟨_,_,h3,_⟩:=whoA_iff.1 (rightA_who h);exact (rightF_at h3).1
theorem ih_len {x:PIh} (h:badIh x=false):x.bys.length≤8∧x.frm.length≤12∧x.whn.length≤12:=by
 unfold badIh byP whenP at h;simp only [Bool.or_eq_false_iff,Bool.not_eq_false',Bool.and_eq_true,decide_eq_true_eq] at h;exact ⟨h.1.1.1.2,h.1.2.2,h.2.2⟩
noncomputable def goodBy (x:PIh) (id:Int) (c:List Fld) (p:Al):Bool:=allM p.fl x.frm&&alikeM x.bys p.fl c&&(idA p != id)
noncomputable def byM (x:PIh) (l:List (Al × Value)) (id:Int) (c:List Fld) (now:Int):Bool:=allM c x.whn&&(l.filter (goesA now)).any fun p=>goodBy x id c p.1
set_option maxHeartbeats 3200000 in
set_option maxRecDepth 100000 in
theorem by_any (x:PIh) (l:List (Al × Value)) (id:Int) (c:Al) (lv:Value) (fa:Option Addr) (fc:Nat) (now:Int) (w:World) (hx:IhIn w x) (hxf:IhFit x) (hok:badIh x=false) (hl:AlsAt w lv l) (hlen:l.length≤maxLen) (hc:FldsAt w (.slice fa c.fl.length fc) c.fl) (hcf:FldsFit c.fl) (hcl:c.fl.length≤1000000000000) :
  Calls Tryz.prog 30 #[.agg #[x.bv,.int .i64 x.lv,.int .u32 x.c,x.fv,x.wv],lv,.int .u64 id,AlV c (.slice fa c.fl.length fc),.int .i64 now] w fun e w'=>e=.returned (.bool (byM x l id c.fl now))∧Below w.heap.size w w':=by
 obtain ⟨n1,n2,n3⟩:=ih_len hok;have KW:=Lib.hid (fun V (h:Below w.heap.size w V)=>all_any c.fl x.whn _ x.wv V (hc.later h) hcl hcf (hx.m.later h) (by omega) hxf.whn);have KM:=Lib.hid (fun (p:Al × Value) (hp:p∈l) (hr:rightA p.1=true) V (h:Below w.heap.size w V)=>all_any p.1.fl x.frm p.2 x.fv V ((hl.fld p hp).1.later h) (by have:=rightA_len hr;omega) (hl.fld p hp).2.fl (hx.f.later h) (by omega) hxf.frm);have KA:=Lib.hid (fun (p:Al × Value) (hp:p∈l) (hr:rightA p.1=true) V (h:Below w.heap.size w V)=>alike_any x.bys p.1.fl c.fl x.bv p.2 _ V (RdAt.later hx.b h) ((hl.fld p hp).1.later h) (hc.later h) (by omega) (by have:=rightA_len hr;omega) hcl);have KI:=Lib.hid (fun (p:Al × Value) (hp:p∈l) (hr:rightA p.1=true) V (h:Below w.heap.size w V)=>id_any p.1.src p.1.fl p.1.lv p.1.c p.1.fr p.1.til p.2 V ((hl.fld p hp).1.later h) (idB_bound (rightA_who hr)));have HBY:Hid (byM x l id c.fl now=(allM c.fl x.whn&&(l.filter (goesA now)).any fun p=>goodBy x id c.fl p.1)):=Lib.hid rfl;have HGD:Hid (∀ p,goodBy x id c.fl p=(allM p.fl x.frm&&alikeM x.bys p.fl c.fl&&(idA p != id))):=Lib.hid (fun _=>rfl);obtain ⟨la,lc,rfl,hlc,_⟩:=RdAt.shape hl.row;have HL:=Lib.hid hl;have HFD:=Lib.hid (fun p hp=>(hl.fld p hp).1);generalize goodBy x id c.fl=GD at *;generalize byM x l id c.fl now=R at *;obtain ⟨bys,xlv,xc,frm,whn,bv,fv,wv⟩:=x;dsimp only at *;obtain ⟨ba,bc,hba,_,_⟩:=RdAt.shape hx.b;dsimp only at hba;subst hba;obtain ⟨ra,rc,hra,_,_⟩:=RdAt.shape hx.f;dsimp only at hra;subst hra;obtain ⟨wa,wc,hwa,_,_⟩:=RdAt.shape hx.m;dsimp only at hwa;subst hwa;obtain ⟨src,fl,alv,ac,fr,til⟩:=c;dsimp only at *;obtain ⟨W1,hW1⟩:∃ z,w.alloc (.cells #[.slice ba bys.length bc,.int .i64 xlv,.int .u32 xc,.slice ra frm.length rc,.slice wa whn.length wc] 51)=z:=⟨_,rfl⟩;have g1:C5 w.heap.size (.slice ba bys.length bc) (.int .i64 xlv) (.int .u32 xc) (.slice ra frm.length rc) (.slice wa whn.length wc) W1:=by rw [← hW1];exact box5n w _ _ _ _ _ _
 have s1:W1.heap.size=w.heap.size+1:=by rw [← hW1,World.size_alloc]
 have b1:Below w.heap.size w W1:=by rw [← hW1];exact aBq _ _
 obtain ⟨W2,hW2⟩:∃ z,W1.alloc (.cells #[.int .u64 id] 69)=z:=⟨_,rfl⟩;have g2:W2.cell? ⟨w.heap.size+1,0,none⟩=some (.int .u64 id):=by rw [← s1,← hW2,cell_of_row _ _ _ _ _ _ (heap_alloc_new W1 _)];rfl
 have s2:W2.heap.size=w.heap.size+1+1:=by rw [← hW2,World.size_alloc,s1]
 have b2:Below W1.heap.size W1 W2:=by rw [← hW2];exact aBq _ _
 obtain ⟨W3,hW3⟩:∃ z,W2.alloc (.cells #[.string src,.slice fa fl.length fc,.int .i64 alv,.int .u32 ac,.int .i64 fr,.int .i64 til] 54)=z:=⟨_,rfl⟩;have g3:C6 (w.heap.size+1+1) (.string src) (.slice fa fl.length fc) (.int .i64 alv) (.int .u32 ac) (.int .i64 fr) (.int .i64 til) W3:=by rw [← s2,← hW3];exact box6n W2 _ _ _ _ _ _ _
 have s3:W3.heap.size=w.heap.size+1+1+1:=by rw [← hW3,World.size_alloc,s2]
 have b3:Below W2.heap.size W2 W3:=by rw [← hW3];exact aBq _ _
 obtain ⟨W4,hW4⟩:∃ z,W3.alloc (.cells #[.bool false] 4)=z:=⟨_,rfl⟩;have g4:W4.heap[w.heap.size+1+1+1]?=some (.cells #[.bool false] 4 (0,0)):=by rw [← s3,← hW4];exact World.alloc_heap_new W3 _
 have s4:W4.heap.size=w.heap.size+1+1+1+1:=by rw [← hW4,World.size_alloc,s3]
 have b4:Below W3.heap.size W3 W4:=by rw [← hW4];exact aBq _ _
 have hB4:Below w.heap.size w W4:=((b1.trans (b2.mono b1.size)).trans (b3.mono (by omega))).trans (b4.mono (by omega));have G1:=Lib.hid (((g1.later b2 (by omega)).later b3 (by omega)).later b4 (by omega));have G2:=Lib.hid (kCq (kCq g2 b3 (by show w.heap.size+1 < W2.heap.size;omega)) b4 (by show w.heap.size+1 < W3.heap.size;omega));have G3:=Lib.hid (g3.later b4 (by omega));have G4:Boxed W4 (w.heap.size+1+1+1) 4 (.bool false):=g4;have S4:=Lib.hid s4;have B4:=Lib.hid hB4;clear hx hxf hok hl hc hcf n1 n2 n3 g1 g2 g3 g4 b1 b2 b3 b4 hB4;obtain ⟨r0,r1,r2,r3,r4⟩:=G1.out;obtain ⟨x0,x1,x2,x3,x4,x5⟩:=G3.out;have c4:=G4.cell;have f4:=G4.frozen;refine (callsIn_wide (n:=6)).1 ?_;refine callsIn_of_wp_marks Tryz.func30 rfl trivial ?_ rfl;simp only [Tryz.ntmps30,List.size_toArray,List.length_cons,List.length_nil,Nat.reduceAdd,Nat.reduceSub,Array.replicate_succ,Array.replicate_zero,List.push_toArray,List.append_toArray,List.nil_append,List.cons_append]
 gi_wp2_with fail
 refine ⟨trivial,?_⟩;have kk:=KW.out _ B4.out
 cases hwh:allM fl whn
 ·have HF:Hid (R=false):=Lib.hid (by rw [HBY.out,hwh];rfl)
  rw [hwh] at kk;clear hwh;refine (callsIn_wide.2 kk).mono ?_;rintro e w5 ⟨rfl,hb5⟩;have G5:=G4.kept (below_grown hb5 none) (by simp);have HB5:=Lib.hid (B4.out.trans (hb5.mono B4.out.size));have c4:=G5.cell;have f4:=G5.frozen;clear kk hb5 r0 r1 r2 r3 r4 x0 x1 x2 x3 x4 x5 hW1 hW2 hW3 hW4 s1 s2 s3 s4
  gi_wp2
  refine ⟨.bool false,?_,by rw [HF.out],HB5.out.setCell (p:=⟨w.heap.size+1+1+1,0,none⟩) (by show w.heap.size≤w.heap.size+1+1+1;omega) _⟩;have hc:=(G5.set (.bool false)).cell
  simp [results,Tryz.f30,go_sem,hc]
 ·rw [hwh] at kk
  have HWH:=Lib.hid hwh;clear hwh;refine (callsIn_wide.2 kk).mono ?_;rintro e w5 ⟨rfl,hb5⟩;have hB5:=B4.out.trans (hb5.mono B4.out.size);have G5:=G4.kept (below_grown hb5 none) (by simp);have hs5:=hb5.size;have D1:=Lib.hid (C5.later G1.out hb5 (by omega));have D2:=Lib.hid (kCq G2.out hb5 (by omega));have D3:=Lib.hid (C6.later G3.out hb5 (by omega));rw [s4] at hs5;have HB5:=Lib.hid hB5;clear kk hb5 hB5 r0 r1 r2 r3 r4 x0 x1 x2 x3 x4 x5 hW1 hW2 hW3 hW4 s1 s2 s3 s4 G4 c4 f4
  gi_wp2_with fail
  refine ⟨trivial,?_⟩;refine (callsIn_wide.2 (firing_any la l.length lc now _)).mono ?_;rintro e w6 ⟨rfl,hw6⟩
  have e0:w6.cell? ⟨w5.heap.size,0,none⟩=some (.slice la l.length lc):=by
   rw [hw6,World.cell?_alloc_lt _ _ _ (by rw [World.size_alloc];exact Nat.lt_succ_self _),cell_of_row _ _ _ _ _ _ (heap_alloc_new w5 _)];rfl
  have e1:w6.cell? ⟨w5.heap.size+1,0,none⟩=some (.int .i64 now):=by
   rw [hw6,← World.size_alloc w5 (.cells #[.slice la l.length lc] 31),cell_of_row _ _ _ _ _ _ (heap_alloc_new _ _)];rfl
  have hb6:Below w5.heap.size w5 w6:=by rw [hw6];exact (aBq _ _).trans ((aBq _ _).mono (by rw [World.size_alloc];omega))
  have hs6:w6.heap.size=w5.heap.size+1+1:=by rw [hw6,World.size_alloc,World.size_alloc]
  have G6:=G5.kept (below_grown hb6 none) (by simp);have D1:=Lib.hid (C5.later D1.out hb6 (by omega));have D2:=Lib.hid (kCq D2.out hb6 (by show w.heap.size+1 < w5.heap.size;omega));have D3:=Lib.hid (C6.later D3.out hb6 (by omega));have hB6:=HB5.out.trans (hb6.mono HB5.out.size);have HL6:=HL.out.later hB6;clear hw6 hb6 G5
  gi_wp2_with fail
  refine wpIn_rangeFunc_ownH rfl (by omega) (gf:=92) (lb:=#[.pointer (some ⟨w5.heap.size,0,none⟩),.pointer (some ⟨w5.heap.size+1,0,none⟩)]) rfl trivial (enters_of Tryz.func92 (by kernel_rfl) rfl)
   (firing_stops (6 - 1) (by omega) l now w5.heap.size w6 _ HL6 hlen e0 e1 (by omega)) belowK_t (belowK_b (Nat.le_refl _)) (Below.refl _ _) (fun _=>rfl)
   (fun pre W=>Below w6.heap.size w6 W∧∀ y∈pre,GD y.1.1=false)
   (fun c pre W=>c=.ret∧(∃ y∈pre,GD y.1.1=true)∧W.cell? ⟨w.heap.size+1+1+1,0,none⟩=some (.bool true)∧Below w.heap.size w W)
   (OwnFrom.and (ownFrom_below (Nat.le_refl _) (Nat.le_refl _)) (ownFrom_pure _ _))
   (fun c=>OwnFrom.and (ownFrom_pure _ (fun _=>c=.ret)) (OwnFrom.and (ownFrom_pure _ _) (OwnFrom.and (Own.from (fun s A B row hs hg hr=>cell_kept hs hg hr) _) (ownFrom_below (Nat.le_refl _) (by omega)))))
   ⟨Below.refl _ _,fun y hy=>by cases hy⟩
   (fun x a' W=>∃ Bx,w6.heap.size≤Bx∧Bx < W.heap.size∧C6 Bx (.string x.1.1.src) x.1.2 (.int .i64 x.1.1.lv) (.int .u32 x.1.1.c) (.int .i64 x.1.1.fr) (.int .i64 x.1.1.til) W∧a'={ tmps:=#[.agg #[.slice ba bys.length bc,.int .i64 xlv,.int .u32 xc,.slice ra frm.length rc,.slice wa whn.length wc],.slice la l.length lc,.int .u64 id,AlV { src:=src,fl:=fl,lv:=alv,c:=ac,fr:=fr,til:=til } (.slice fa fl.length fc),.int .i64 now,.pointer (some ⟨w.heap.size,0,none⟩),undef,.pointer (some ⟨w.heap.size+1,0,none⟩),.pointer (some ⟨w.heap.size+1+1,0,none⟩),undef,.pointer (some ⟨w.heap.size+1+1+1,0,none⟩),.pointer (some ⟨Bx,0,none⟩),.pointer (some ⟨w.heap.size+1+1,1,none⟩),.slice fa fl.length fc,.pointer (some ⟨w.heap.size,4,none⟩),.slice wa whn.length wc,.bool true,.bool false,.slice la l.length lc,.int .i64 now,.func (.func 92) #[] #[.pointer (some ⟨w5.heap.size,0,none⟩),.pointer (some ⟨w5.heap.size+1,0,none⟩)],AlV x.1.1 x.1.2,undef,undef,undef,undef,undef,undef,undef,undef,undef,undef,undef,undef,undef,undef,undef,undef,undef,undef,undef,undef],defers:=[] })
   (fun x a' _ X Y row hs hg hr=>by
    obtain ⟨Bx,h1,h2,⟨z0,z1,z2,z3,z4,z5⟩,h4⟩:=hs;have hr':=fun r e=>(hr r e).2;exact ⟨Bx,h1,Nat.lt_of_lt_of_le h2 hg.size,⟨cell_kept z0 hg hr',cell_kept z1 hg hr',cell_kept z2 hg hr',cell_kept z3 hg hr',cell_kept z4 hg hr',cell_kept z5 hg hr'⟩,h4⟩)
   ?assign ?body ?done ?stop
  case assign =>
   rintro id' pre ⟨⟨⟨src',fl',lv',c',fr',til'⟩,fv'⟩,hp,hright⟩ W K ⟨hB,hno⟩ hK;obtain ⟨fa',fc',hfv,_,_⟩:=RdAt.shape (HFD.out _ hp);dsimp only at hfv;subst hfv;have hKK:=Lib.hid hK;clear hK
   gi_wp2
   refine hKK.out _ _ ((KeepsOthers.alloc _ _).from _) ((Below.refl _ W).alloc hB.size _) ⟨hB.alloc hB.size _,hno⟩ ⟨W.heap.size,hB.size,by rw [World.size_alloc];omega,box6n W _ _ _ _ _ _ _,rfl⟩
  case body =>
   rintro id' pre ⟨⟨⟨src',fl',lv',c',fr',til'⟩,fv'⟩,hp,hright⟩ a' W hid ⟨rr,hrr⟩ ⟨hB,hno⟩ ⟨Bx,hBx,hBl,hCA,rfl⟩ hlt;obtain ⟨fa',fc',hfv,_,_⟩:=RdAt.shape (HFD.out _ hp);dsimp only at hfv;subst hfv;have KM':=Lib.hid (fun V h=>KM.out _ hp hright V h);have KA':=Lib.hid (fun V h=>KA.out _ hp hright V h);have KI':=Lib.hid (fun V h=>KI.out _ hp hright V h);have HG1:=Lib.hid (HGD.out ⟨src',fl',lv',c',fr',til'⟩);have hId:idA ⟨src',fl',lv',c',fr',til'⟩=shortL (idB src' fl'):=rfl;rw [hId] at HG1;dsimp only at *;have HNO:=Lib.hid hno;have HBW:=Lib.hid hB;have hBw:=hB6.trans (hB.mono hB6.size);have HBw:=Lib.hid hBw;obtain ⟨r0,r1,r2,r3,r4⟩:=C5.later D1.out hB (by omega);have i0:=kCq D2.out hB (by show w.heap.size+1 < w6.heap.size;omega);obtain ⟨x0,x1,x2,x3,x4,x5⟩:=C6.later D3.out hB (by omega);have G7:=G6.kept (below_grown hB none) (by simp);obtain ⟨y0,y1,y2,y3,y4,y5⟩:=hCA;have hsw:=hB.size;have ltr:w.heap.size < W.heap.size:=by omega
   have lti:w.heap.size+1 < W.heap.size:=by omega
   have ltx:w.heap.size+1+1 < W.heap.size:=by omega
   have KEEP:Hid (∀ (e:Bool) (V:World),Below W.heap.size W V→(GD ⟨src',fl',lv',c',fr',til'⟩=e)→e=false→KeepsFrom w6.heap.size W V∧Below w6.heap.size W V∧Below w6.heap.size w6 V∧∀ y∈pre ++ [(⟨(⟨src',fl',lv',c',fr',til'⟩,.slice fa' fl'.length fc'),hp,hright⟩:AlIn l)],GD y.1.1=false):=Lib.hid (by
    intro e V hV hg he;refine ⟨(KeepsOthers.of_grownBy (below_grown hV none) (fun j o e=>by cases e)).from _,hV.mono hsw,hB.trans (hV.mono hsw),?_⟩;intro y hy
    rcases List.mem_append.1 hy with h | h
    ·exact hno y h
    ·rw [List.mem_singleton.1 h];rw [← he,← hg])
   have LEAVE:Hid (∀ (V:World),Below W.heap.size W V→(GD ⟨src',fl',lv',c',fr',til'⟩=true)→KeepsFrom w6.heap.size W (V.setCell ⟨w.heap.size+1+1+1,0,none⟩ (.bool true))∧Code.ret=Code.ret∧(∃ y∈pre ++ [(⟨(⟨src',fl',lv',c',fr',til'⟩,.slice fa' fl'.length fc'),hp,hright⟩:AlIn l)],GD y.1.1=true)∧(V.setCell ⟨w.heap.size+1+1+1,0,none⟩ (.bool true)).cell? ⟨w.heap.size+1+1+1,0,none⟩=some (.bool true)∧Below w.heap.size w (V.setCell ⟨w.heap.size+1+1+1,0,none⟩ (.bool true))):=Lib.hid (by
    intro V hV hg;have G8:=G7.kept (below_grown hV none) (by simp);refine ⟨((KeepsOthers.of_grownBy (below_grown hV none) (fun j o e=>by cases e)).trans (KeepsOthers.setCell _ _ _)).from _,rfl,⟨_,List.mem_append.2 (.inr (List.mem_singleton.2 rfl)),hg⟩,(G8.set (.bool true)).cell,?_⟩;exact (hBw.trans (hV.mono hBw.size)).setCell (p:=⟨w.heap.size+1+1+1,0,none⟩) (by show w.heap.size≤w.heap.size+1+1+1;omega) _)
   have GG7:=Lib.hid G7;have c4:=G7.cell;have f4:=G7.frozen;clear hB hno hBw HNO HL6 e0 e1 D1 D2 D3 hB6 HFD KM KA KI HGD G6 G7 hId
   gi_wp2_with fail
   cases hAM:allM fl' frm
   ·have HF:Hid (GD ⟨src',fl',lv',c',fr',til'⟩=false):=Lib.hid (by rw [HG1.out,hAM];rfl)
    have kk:=KM'.out W.drew (HBw.out.trans ((Below.refl _ _).drew.mono HBw.out.size));rw [hAM] at kk;clear hAM HG1;refine region_inRound (S:=(fun W=>W.cell? ⟨w.heap.size,0,none⟩=some (.slice ba bys.length bc)∧W.cell? ⟨w.heap.size,1,none⟩=some (.int .i64 xlv)∧W.cell? ⟨w.heap.size,2,none⟩=some (.int .u32 xc)∧W.cell? ⟨w.heap.size,3,none⟩=some (.slice ra frm.length rc)∧W.cell? ⟨w.heap.size,4,none⟩=some (.slice wa whn.length wc)∧W.cell? ⟨w.heap.size+1,0,none⟩=some (.int .u64 id)∧W.cell? ⟨w.heap.size+1+1,0,none⟩=some (.string src)∧W.cell? ⟨w.heap.size+1+1,1,none⟩=some (.slice fa fl.length fc)∧W.cell? ⟨w.heap.size+1+1,2,none⟩=some (.int .i64 alv)∧W.cell? ⟨w.heap.size+1+1,3,none⟩=some (.int .u32 ac)∧W.cell? ⟨w.heap.size+1+1,4,none⟩=some (.int .i64 fr)∧W.cell? ⟨w.heap.size+1+1,5,none⟩=some (.int .i64 til)∧W.cell? ⟨Bx,0,none⟩=some (.string src')∧W.cell? ⟨Bx,1,none⟩=some (.slice fa' fl'.length fc')∧W.cell? ⟨Bx,2,none⟩=some (.int .i64 lv')∧W.cell? ⟨Bx,3,none⟩=some (.int .u32 c')∧W.cell? ⟨Bx,4,none⟩=some (.int .i64 fr')∧W.cell? ⟨Bx,5,none⟩=some (.int .i64 til'))) (by kernel_rfl) (fun ⟨_,_,h⟩=>h) (by kernel_rfl) ⟨r0,r1,r2,r3,r4,i0,x0,x1,x2,x3,x4,x5,y0,y1,y2,y3,y4,y5⟩ (fun hHeld=>?_);have hd:Below W.heap.size W W.drew:=(Below.refl _ _).drew;refine plIn [0,1,2,3] ?_
    iterate 4
     refine hP (v:=?_) rfl rfl hHeld ?_ ?_;rotate_left
     ·intro wh hz;iterate 17 obtain ⟨_,hz⟩:=hz
      go_simp
      (try with_reducible rfl)
     simp only [Act.put,aS1,aS2,aS3]
    refine plOut ?_;refine held_call (i:=4) rfl (by kernel_rfl) (by rfl) (fun K hK=>?_)
    (go_simp;go_at_call 62;refine kk.mono ?_;rintro e w7 ⟨rfl,hb7⟩;have hB7:=hd.trans (hb7.mono hd.size))
    refine hK.out _ _ ⟨kCq r0 hB7 ltr,kCq r1 hB7 ltr,kCq r2 hB7 ltr,kCq r3 hB7 ltr,kCq r4 hB7 ltr,kCq i0 hB7 lti,kCq x0 hB7 ltx,kCq x1 hB7 ltx,kCq x2 hB7 ltx,kCq x3 hB7 ltx,kCq x4 hB7 ltx,kCq x5 hB7 ltx,kCq y0 hB7 hBl,kCq y1 hB7 hBl,kCq y2 hB7 hBl,kCq y3 hB7 hBl,kCq y4 hB7 hBl,kCq y5 hB7 hBl⟩ (fun hHeld=>?_);clear hK K
    (try simp only [Act.put,aS1,aS2,aS3])
    refine hT (i:=5) (v:=?_) rfl rfl hHeld ?_ ?_;rotate_left
    ·intro wh hz;iterate 17 obtain ⟨_,hz⟩:=hz
     go_simp
     (try with_reducible rfl)
    simp only [Act.put,aS1,aS2,aS3];refine plIn [6,7,8,9,10,11,12] ?_
    iterate 7
     refine hK rfl rfl hHeld ?_;simp only [Act.put,aS1,aS2,aS3]
    refine plOut ?_;refine plIn [13,14] ?_
    iterate 2
     refine hP (v:=?_) rfl rfl hHeld ?_ ?_;rotate_left
     ·intro wh hz;iterate 17 obtain ⟨_,hz⟩:=hz
      go_simp
      (try with_reducible rfl)
     simp only [Act.put,aS1,aS2,aS3]
    refine plOut ?_;refine plIn [15,16,17,18] ?_
    iterate 4
     refine hK rfl rfl hHeld ?_;simp only [Act.put,aS1,aS2,aS3]
    refine plOut ?_;refine hT (i:=19) (v:=?_) rfl rfl hHeld ?_ ?_;rotate_left
    ·intro wh hz;iterate 17 obtain ⟨_,hz⟩:=hz
     go_simp
     (try with_reducible rfl)
    simp only [Act.put,aS1,aS2,aS3];refine wpAnyH_done (by kernel_rfl) ?_ _;have HB7:=Lib.hid hB7;clear hB7 c4 f4
    gi_wp2
    exact KEEP.out _ _ HB7.out HF.out rfl
   cases hAK:alikeM bys fl' fl
   ·have HF:Hid (GD ⟨src',fl',lv',c',fr',til'⟩=false):=Lib.hid (by rw [HG1.out,hAM,hAK];rfl)
    have kk:=KM'.out W.drew (HBw.out.trans ((Below.refl _ _).drew.mono HBw.out.size));rw [hAM] at kk;have KAK:=Lib.hid (fun V (h:Below W.heap.size W V)=>KA'.out V (HBw.out.trans (h.mono HBw.out.size)));rw [hAK] at KAK;have KID:=Lib.hid (fun V (h:Below W.heap.size W V)=>KI'.out V (HBw.out.trans (h.mono HBw.out.size)));clear hAM hAK HG1;refine region_inRound (S:=(fun W=>W.cell? ⟨w.heap.size,0,none⟩=some (.slice ba bys.length bc)∧W.cell? ⟨w.heap.size,1,none⟩=some (.int .i64 xlv)∧W.cell? ⟨w.heap.size,2,none⟩=some (.int .u32 xc)∧W.cell? ⟨w.heap.size,3,none⟩=some (.slice ra frm.length rc)∧W.cell? ⟨w.heap.size,4,none⟩=some (.slice wa whn.length wc)∧W.cell? ⟨w.heap.size+1,0,none⟩=some (.int .u64 id)∧W.cell? ⟨w.heap.size+1+1,0,none⟩=some (.string src)∧W.cell? ⟨w.heap.size+1+1,1,none⟩=some (.slice fa fl.length fc)∧W.cell? ⟨w.heap.size+1+1,2,none⟩=some (.int .i64 alv)∧W.cell? ⟨w.heap.size+1+1,3,none⟩=some (.int .u32 ac)∧W.cell? ⟨w.heap.size+1+1,4,none⟩=some (.int .i64 fr)∧W.cell? ⟨w.heap.size+1+1,5,none⟩=some (.int .i64 til)∧W.cell? ⟨Bx,0,none⟩=some (.string src')∧W.cell? ⟨Bx,1,none⟩=some (.slice fa' fl'.length fc')∧W.cell? ⟨Bx,2,none⟩=some (.int .i64 lv')∧W.cell? ⟨Bx,3,none⟩=some (.int .u32 c')∧W.cell? ⟨Bx,4,none⟩=some (.int .i64 fr')∧W.cell? ⟨Bx,5,none⟩=some (.int .i64 til'))) (by kernel_rfl) (fun ⟨_,_,h⟩=>h) (by kernel_rfl) ⟨r0,r1,r2,r3,r4,i0,x0,x1,x2,x3,x4,x5,y0,y1,y2,y3,y4,y5⟩ (fun hHeld=>?_);have hd:Below W.heap.size W W.drew:=(Below.refl _ _).drew;refine plIn [0,1,2,3] ?_
    iterate 4
     refine hP (v:=?_) rfl rfl hHeld ?_ ?_;rotate_left
     ·intro wh hz;iterate 17 obtain ⟨_,hz⟩:=hz
      go_simp
      (try with_reducible rfl)
     simp only [Act.put,aS1,aS2,aS3]
    refine plOut ?_;refine held_call (i:=4) rfl (by kernel_rfl) (by rfl) (fun K hK=>?_)
    (go_simp;go_at_call 62;refine kk.mono ?_;rintro e w7 ⟨rfl,hb7⟩;have hB7:=hd.trans (hb7.mono hd.size))
    refine hK.out _ _ ⟨kCq r0 hB7 ltr,kCq r1 hB7 ltr,kCq r2 hB7 ltr,kCq r3 hB7 ltr,kCq r4 hB7 ltr,kCq i0 hB7 lti,kCq x0 hB7 ltx,kCq x1 hB7 ltx,kCq x2 hB7 ltx,kCq x3 hB7 ltx,kCq x4 hB7 ltx,kCq x5 hB7 ltx,kCq y0 hB7 hBl,kCq y1 hB7 hBl,kCq y2 hB7 hBl,kCq y3 hB7 hBl,kCq y4 hB7 hBl,kCq y5 hB7 hBl⟩ (fun hHeld=>?_);clear hK K
    (try simp only [Act.put,aS1,aS2,aS3])
    refine plIn [5,6,7,8,9,10,11] ?_
    iterate 7
     refine hP (v:=?_) rfl rfl hHeld ?_ ?_;rotate_left
     ·intro wh hz;iterate 17 obtain ⟨_,hz⟩:=hz
      go_simp
      (try with_reducible rfl)
     simp only [Act.put,aS1,aS2,aS3]
    refine plOut ?_;refine held_call (i:=12) rfl (by kernel_rfl) (by rfl) (fun K hK=>?_)
    (go_simp;go_at_call 64;refine (KAK.out _ hB7).mono ?_;rintro e w8 ⟨rfl,hb8⟩;have hB8:=hB7.trans (hb8.mono hB7.size))
    refine hK.out _ _ ⟨kCq r0 hB8 ltr,kCq r1 hB8 ltr,kCq r2 hB8 ltr,kCq r3 hB8 ltr,kCq r4 hB8 ltr,kCq i0 hB8 lti,kCq x0 hB8 ltx,kCq x1 hB8 ltx,kCq x2 hB8 ltx,kCq x3 hB8 ltx,kCq x4 hB8 ltx,kCq x5 hB8 ltx,kCq y0 hB8 hBl,kCq y1 hB8 hBl,kCq y2 hB8 hBl,kCq y3 hB8 hBl,kCq y4 hB8 hBl,kCq y5 hB8 hBl⟩ (fun hHeld=>?_);clear hK K
    (try simp only [Act.put,aS1,aS2,aS3])
    refine plIn [13,14] ?_
    iterate 2
     refine hP (v:=?_) rfl rfl hHeld ?_ ?_;rotate_left
     ·intro wh hz;iterate 17 obtain ⟨_,hz⟩:=hz
      go_simp
      (try with_reducible rfl)
     simp only [Act.put,aS1,aS2,aS3]
    refine plOut ?_;refine plIn [15,16,17,18] ?_
    iterate 4
     refine hK rfl rfl hHeld ?_;simp only [Act.put,aS1,aS2,aS3]
    refine plOut ?_;refine hT (i:=19) (v:=?_) rfl rfl hHeld ?_ ?_;rotate_left
    ·intro wh hz;iterate 17 obtain ⟨_,hz⟩:=hz
     go_simp
     (try with_reducible rfl)
    simp only [Act.put,aS1,aS2,aS3];refine wpAnyH_done (by kernel_rfl) ?_ _;have HB8:=Lib.hid hB8;clear hB8 c4 f4
    gi_wp2
    exact KEEP.out _ _ HB8.out HF.out rfl
   have HF:Hid (GD ⟨src',fl',lv',c',fr',til'⟩=(shortL (idB src' fl') != id)):=Lib.hid (by rw [HG1.out,hAM,hAK];rfl);have kk:=KM'.out W.drew (HBw.out.trans ((Below.refl _ _).drew.mono HBw.out.size));rw [hAM] at kk;have KAK:=Lib.hid (fun V (h:Below W.heap.size W V)=>KA'.out V (HBw.out.trans (h.mono HBw.out.size)));rw [hAK] at KAK;have KID:=Lib.hid (fun V (h:Below W.heap.size W V)=>KI'.out V (HBw.out.trans (h.mono HBw.out.size)));generalize shortL (idB src' fl')=sid at *;clear hAM hAK HG1;refine region_inRound (S:=(fun W=>W.cell? ⟨w.heap.size,0,none⟩=some (.slice ba bys.length bc)∧W.cell? ⟨w.heap.size,1,none⟩=some (.int .i64 xlv)∧W.cell? ⟨w.heap.size,2,none⟩=some (.int .u32 xc)∧W.cell? ⟨w.heap.size,3,none⟩=some (.slice ra frm.length rc)∧W.cell? ⟨w.heap.size,4,none⟩=some (.slice wa whn.length wc)∧W.cell? ⟨w.heap.size+1,0,none⟩=some (.int .u64 id)∧W.cell? ⟨w.heap.size+1+1,0,none⟩=some (.string src)∧W.cell? ⟨w.heap.size+1+1,1,none⟩=some (.slice fa fl.length fc)∧W.cell? ⟨w.heap.size+1+1,2,none⟩=some (.int .i64 alv)∧W.cell? ⟨w.heap.size+1+1,3,none⟩=some (.int .u32 ac)∧W.cell? ⟨w.heap.size+1+1,4,none⟩=some (.int .i64 fr)∧W.cell? ⟨w.heap.size+1+1,5,none⟩=some (.int .i64 til)∧W.cell? ⟨Bx,0,none⟩=some (.string src')∧W.cell? ⟨Bx,1,none⟩=some (.slice fa' fl'.length fc')∧W.cell? ⟨Bx,2,none⟩=some (.int .i64 lv')∧W.cell? ⟨Bx,3,none⟩=some (.int .u32 c')∧W.cell? ⟨Bx,4,none⟩=some (.int .i64 fr')∧W.cell? ⟨Bx,5,none⟩=some (.int .i64 til'))) (by kernel_rfl) (fun ⟨_,_,h⟩=>h) (by kernel_rfl) ⟨r0,r1,r2,r3,r4,i0,x0,x1,x2,x3,x4,x5,y0,y1,y2,y3,y4,y5⟩ (fun hHeld=>?_);have hd:Below W.heap.size W W.drew:=(Below.refl _ _).drew;refine plIn [0,1,2,3] ?_
   iterate 4
    refine hP (v:=?_) rfl rfl hHeld ?_ ?_;rotate_left
    ·intro wh hz;iterate 17 obtain ⟨_,hz⟩:=hz
     go_simp
     (try with_reducible rfl)
    simp only [Act.put,aS1,aS2,aS3]
   refine plOut ?_;refine held_call (i:=4) rfl (by kernel_rfl) (by rfl) (fun K hK=>?_)
   (go_simp;go_at_call 62;refine kk.mono ?_;rintro e w7 ⟨rfl,hb7⟩;have hB7:=hd.trans (hb7.mono hd.size))
   refine hK.out _ _ ⟨kCq r0 hB7 ltr,kCq r1 hB7 ltr,kCq r2 hB7 ltr,kCq r3 hB7 ltr,kCq r4 hB7 ltr,kCq i0 hB7 lti,kCq x0 hB7 ltx,kCq x1 hB7 ltx,kCq x2 hB7 ltx,kCq x3 hB7 ltx,kCq x4 hB7 ltx,kCq x5 hB7 ltx,kCq y0 hB7 hBl,kCq y1 hB7 hBl,kCq y2 hB7 hBl,kCq y3 hB7 hBl,kCq y4 hB7 hBl,kCq y5 hB7 hBl⟩ (fun hHeld=>?_);clear hK K
   (try simp only [Act.put,aS1,aS2,aS3])
   refine plIn [5,6,7,8,9,10,11] ?_
   iterate 7
    refine hP (v:=?_) rfl rfl hHeld ?_ ?_;rotate_left
    ·intro wh hz;iterate 17 obtain ⟨_,hz⟩:=hz
     go_simp
     (try with_reducible rfl)
    simp only [Act.put,aS1,aS2,aS3]
   refine plOut ?_;refine held_call (i:=12) rfl (by kernel_rfl) (by rfl) (fun K hK=>?_)
   (go_simp;go_at_call 64;refine (KAK.out _ hB7).mono ?_;rintro e w8 ⟨rfl,hb8⟩;have hB8:=hB7.trans (hb8.mono hB7.size))
   refine hK.out _ _ ⟨kCq r0 hB8 ltr,kCq r1 hB8 ltr,kCq r2 hB8 ltr,kCq r3 hB8 ltr,kCq r4 hB8 ltr,kCq i0 hB8 lti,kCq x0 hB8 ltx,kCq x1 hB8 ltx,kCq x2 hB8 ltx,kCq x3 hB8 ltx,kCq x4 hB8 ltx,kCq x5 hB8 ltx,kCq y0 hB8 hBl,kCq y1 hB8 hBl,kCq y2 hB8 hBl,kCq y3 hB8 hBl,kCq y4 hB8 hBl,kCq y5 hB8 hBl⟩ (fun hHeld=>?_);clear hK K
   (try simp only [Act.put,aS1,aS2,aS3])
   refine plIn [13,14,15,17] ?_
   iterate 4
    refine hP (v:=?_) rfl rfl hHeld ?_ ?_;rotate_left
    ·intro wh hz;iterate 17 obtain ⟨_,hz⟩:=hz
     go_simp
     (try with_reducible rfl)
    simp only [Act.put,aS1,aS2,aS3]
   refine plOut ?_;refine held_call (i:=16) rfl (by kernel_rfl) (by rfl) (fun K hK=>?_)
   (go_simp;go_at_call 28;refine (KID.out _ hB8).mono ?_;rintro e w9 ⟨rfl,hb9⟩;have hB9:=hB8.trans (hb9.mono hB8.size))
   refine hK.out _ _ ⟨kCq r0 hB9 ltr,kCq r1 hB9 ltr,kCq r2 hB9 ltr,kCq r3 hB9 ltr,kCq r4 hB9 ltr,kCq i0 hB9 lti,kCq x0 hB9 ltx,kCq x1 hB9 ltx,kCq x2 hB9 ltx,kCq x3 hB9 ltx,kCq x4 hB9 ltx,kCq x5 hB9 ltx,kCq y0 hB9 hBl,kCq y1 hB9 hBl,kCq y2 hB9 hBl,kCq y3 hB9 hBl,kCq y4 hB9 hBl,kCq y5 hB9 hBl⟩ (fun hHeld=>?_);clear hK K
   (try simp only [Act.put,aS1,aS2,aS3])
   refine plIn [18,19] ?_
   iterate 2
    refine hP (v:=?_) rfl rfl hHeld ?_ ?_;rotate_left
    ·intro wh hz;iterate 17 obtain ⟨_,hz⟩:=hz
     go_simp
     (try with_reducible rfl)
    simp only [Act.put,aS1,aS2,aS3]
   refine plOut ?_;refine wpAnyH_done (by kernel_rfl) ?_ _;have HB9:=Lib.hid hB9;have G9:=GG7.out.kept (below_grown hB9 none) (by simp);clear hB9 c4 f4;have c4:=G9.cell;have f4:=G9.frozen;generalize (sid != id)=q at *
   cases q
   ·gi_wp2
    exact KEEP.out _ _ HB9.out HF.out rfl
   ·gi_wp2
    obtain ⟨la1,_,la2⟩:=LEAVE.out _ HB9.out HF.out;exact ⟨la1,rfl,la2⟩
  case done =>
   rintro D xs W hD hS ⟨hB,hno⟩ hK;have G7:=G6.kept (below_grown hB none) (by simp);have c4:=G7.cell;have f4:=G7.frozen;have hBw:=hB6.trans (hB.mono hB6.size)
   have HF:Hid (R=false):=Lib.hid (by
    rw [HBY.out,HWH.out,Bool.true_and,← hS,List.any_map,List.any_eq_false];intro y hy;rw [Function.comp,hno y hy];decide)
   gi_wp2
   have hK':=(KeepsOthers.setCell W ⟨w.heap.size+1+1+1,0,none⟩ (.bool false)).same D _ hK rfl;refine ⟨by simp,.inl ⟨_,_,rfl,run_takeDeferred hK',?_⟩⟩;have hc5:=cell_kept (G7.set (.bool false)).cell (grownBy_putObj' _ D (.deferred none)) (fun r e=>by cases e;exact ⟨_,hK',rfl⟩);refine ⟨.bool false,?_,by rw [HF.out],(hBw.setCell (p:=⟨w.heap.size+1+1+1,0,none⟩) (by show w.heap.size≤w.heap.size+1+1+1;omega) _).trans (belowK_b (w:=w) (Nat.le_refl _) _ D _ _ (by omega) hK' rfl rfl)⟩
   simp [results,Tryz.f30,go_sem,hc5]
  case stop =>
   rintro D c pre W hD hS ⟨rfl,⟨y,hy,hyg⟩,hc,hB⟩ hK
   have HF:Hid (R=true):=Lib.hid (by
    rw [HBY.out,HWH.out,Bool.true_and,List.any_eq_true];exact ⟨y.1,hS.subset (List.mem_map_of_mem hy),hyg⟩)
   gi_wp2
   refine ⟨by simp,.inl ⟨_,_,rfl,run_takeDeferred hK,?_⟩⟩;have hc5:=cell_kept hc (grownBy_putObj' _ D (.deferred none)) (fun r e=>by cases e;exact ⟨_,hK,rfl⟩);refine ⟨.bool true,?_,by rw [HF.out],hB.trans (belowK_b (w:=w) (Nat.le_refl _) W D _ _ (by omega) hK rfl rfl)⟩
   simp [results,Tryz.f30,go_sem,hc5]
end Go.Proofs.YtipnhpfpppblhaaGreat
namespace Go.Proofs.YtipnhpfpppblhaaGreat
open Go.RowKit Go.Maps
def keyS (x:ByteArray):Lit:=.string x.data.toList
theorem keyS_isKey (x:ByteArray):WideAt.IsKeyLit (keyS x):=by simp [WideAt.IsKeyLit,keyS]
def seenD (xs:List ByteArray):DataW Unit:=setOf (.lit (.bool true)) (xs.map keyS)
theorem seenD_snoc (xs:List ByteArray) (x:ByteArray):seenD (xs ++ [x])=(seenD xs).put (keyS x) (.lit (.bool true)):=by
 rw [seenD,List.map_append,List.map_singleton,setOf_snoc];rfl
theorem keyS_inj {x y:ByteArray} (h:keyS x=keyS y):x=y:=by
 simp only [keyS,Lit.string.injEq] at h;exact ByteArray.ext (Array.toList_inj.1 h)
theorem seenD_isMap (xs:List ByteArray):IsMap (seenD xs):=(tidy_setOf _ _ (fun x hx=>by obtain ⟨y,_,rfl⟩:=List.mem_map.1 hx;exact keyS_isKey y)).isMap
def seenB (xs:List ByteArray) (x:ByteArray):Bool:=xs.any fun y=>decide (y=x)
theorem seenD_at (xs:List ByteArray) (x:ByteArray):(seenD xs).atKey (keyS x) (.lit (.bool false))=.lit (.bool (seenB xs x)):=by
 induction xs using snocInd with
 | h0=>rfl
 | h1 l y ih =>
  rw [seenD_snoc]
  by_cases h:x=y
  ·subst h
   rw [atKey_put_same (seenD_isMap l) (keyS_isKey x)]
   simp [seenB]
  ·rw [atKey_put_other (fun e=>h (keyS_inj e)),ih]
   simp [seenB,Ne.symm h]
theorem plainElem_bool_inv {H:Type} {P:Program} {e:TypeId} (he:P.underlying e=some .bool) {v:Value} {z:DataW H × List MemPlace} (h:plainElem P e v=some z):∃ x,v=.bool x∧z=(.lit (.bool x),[]):=by
 unfold plainElem at h;rw [he] at h
 cases v <;> simp at h
 subst h;exact ⟨_,rfl,rfl⟩
theorem seen_lookup {P:Program} {t k e:TypeId} {w:World} {b n:Nat} {xs:List ByteArray} (h:w.ownsMap P k (plainElem P e) b n (seenD xs)) (ht:P.underlying t=some (.map k e)) (hk:P.underlying k=some .string)
  (he:P.underlying e=some .bool) (hz:(zeroValue e).run P w=.ok (.bool false) w) (x:ByteArray) (hx:x.size≤maxLen) :
  (Instr.lookup t (.map (some b)) (.string x) false).run P w=.ok (.bool (seenB xs x)) w:=by
 obtain ⟨v,ps,hrun,hv⟩:=h.lookup (string_keyed hk) ht hz (plainElem_bool he false) (kl:=keyS x) (WideMaps.keyOf_string_mk hk hx);obtain ⟨c,rfl,hc⟩:=plainElem_bool_inv he hv;rw [seenD_at] at hc;simp only [Prod.mk.injEq,DataW.lit.injEq,Lit.bool.injEq] at hc;rw [hrun,hc.1]
theorem seen_take {α:Type} (nm:α→ByteArray) (l:List α) (k:Nat) (x:ByteArray):seenB ((l.map nm).take k) x=true↔∃ (j:Nat) (hj:j < l.length),j < k∧nm l[j]=x:=by
 unfold seenB;rw [List.any_eq_true]
 constructor
 ·rintro ⟨y,hy,h⟩
  obtain ⟨j,hj,rfl⟩:=List.mem_iff_getElem.1 hy;rw [List.length_take,List.length_map] at hj;refine ⟨j,by omega,by omega,?_⟩
  have:=of_decide_eq_true h
  rwa [List.getElem_take,List.getElem_map] at this
 ·rintro ⟨j,hj,hjk,rfl⟩
  refine ⟨nm l[j],?_,decide_eq_true rfl⟩;exact List.mem_iff_getElem.2 ⟨j,by rw [List.length_take,List.length_map];omega,by rw [List.getElem_take,List.getElem_map]⟩
set_option maxHeartbeats 1600000 in
set_option maxRecDepth 100000 in
theorem pnamed_any (l:List Nmd) (v:Value) (w:World) (hv:NmdsAt w v l) (hw:NmdWide l) :
  Calls Tryz.prog 50 #[v] w fun e w'=>e=.returned (.bool (namedP l))∧Below w.heap.size w w':=by
 obtain ⟨hl,_,hsz⟩:=hw;have HE:Hid (namedP l=okAll (fun x:Nmd=>x.1) (fun x:Nmd=>nameL (B x.1)&&rightL x.2.1) l):=Lib.hid (namedP_eq l);obtain ⟨a,c,rfl,hc,hr⟩:=RdAt.shape hv;have HR:=Lib.hid hr;have HSZ:=Lib.hid hsz;have hl47:l.length≤maxLen:=hl;unfold maxLen at hl47;have hmm:=@run_makeMap Tryz.prog;clear hr hv hl hsz
 go_enter Tryz.func50,Tryz.ntmps50
 go_wp2
 go_loopw [9] (fun i wr=>∃ k:Nat,i=.int .i64 k∧k≤l.length∧Hid (okUp (fun x:Nmd=>x.1) (fun x:Nmd=>nameL (B x.1)&&rightL x.2.1) l k)∧Hid (wr.ownsMap Tryz.prog 9 (plainElem Tryz.prog 4) w.heap.size k (seenD ((l.map (fun x:Nmd=>x.1)).take k)))∧Hid (Below w.heap.size w wr)) (fun i _=>l.length - (intOf i).toNat)
 case atStart=>exact ⟨0,rfl,Nat.zero_le _,Lib.hid okUp_zero,Lib.hid (World.ownsMap_made _ _ _ _),Lib.hid (aBq _ _)⟩
 case round =>
  obtain ⟨k,rfl,hk,HT,HOWN,HBR⟩:=hrel
  by_cases hkl:k < l.length
  ·obtain ⟨b,o,rfl,hb,hcell⟩:=HR.out (by omega)
   have hstep:=okUp_succ HT.out hkl;have hbad:=okAll_bad (nm:=(fun x:Nmd=>x.1)) (p:=(fun x:Nmd=>nameL (B x.1)&&rightL x.2.1)) hkl;have htw:=fun j hj hjk=>okAll_twice (nm:=(fun x:Nmd=>x.1)) (p:=(fun x:Nmd=>nameL (B x.1)&&rightL x.2.1)) (j:=j) hj hkl hjk;have hxs:=HSZ.out _ (List.getElem_mem hkl);have htk:(l.map (fun x:Nmd=>x.1)).take (k+1)=(l.map (fun x:Nmd=>x.1)).take k ++ [(fun x:Nmd=>x.1) l[k]]:=by rw [List.take_succ_eq_append_getElem (by simpa using hkl),List.getElem_map]
   have HC:=nmdCells_at l k hkl;obtain ⟨x,hx⟩:∃ x,l[k]=x:=⟨_,rfl⟩;rw [hx] at HC hstep hbad hxs htk;simp only [hx] at htw;have q:∀ i v,(nmdC x)[i]?=some v→wr.cell? ⟨b,o+k * 3+i,none⟩=some v:=fun i v hi=>kCq (by have:=hcell _ _ (HC i v hi);rwa [← Nat.add_assoc] at this) HBR.out hb;obtain ⟨nx,lx,cx⟩:=x;dsimp only at *;have q0:wr.cell? ⟨b,o+k * 3,none⟩=some (.string nx):=q 0 _ rfl;have q1:wr.cell? ⟨b,o+k * 3+1,none⟩=some (.int .i64 lx):=q 1 _ rfl;have q2:wr.cell? ⟨b,o+k * 3+2,none⟩=some (.int .u32 cx):=q 2 _ rfl;clear q HC;have HBAD:Hid ((nameL (B nx)&&rightL lx)=false→namedP l=false):=Lib.hid (fun h=>by rw [HE.out,hbad h])
   have HTW:Hid (seenB ((l.map (fun x:Nmd=>x.1)).take k) nx=true→namedP l=false):=Lib.hid (fun h=>by
    obtain ⟨j,hj,hjk,he⟩:=(seen_take (fun x:Nmd=>x.1) l k nx).1 h;rw [HE.out,htw j hj hjk he])
   have HNS:Hid (seenB ((l.map (fun x:Nmd=>x.1)).take k) nx=false→∀ j (hj:j < l.length),j < k→(fun x:Nmd=>x.1) l[j]≠nx):=Lib.hid (fun h j hj hjk he=>by
    have:=(seen_take (fun x:Nmd=>x.1) l k nx).2 ⟨j,hj,hjk,he⟩
    rw [h] at this;cases this)
   have HST:=Lib.hid hstep;have HSN:Hid (seenD ((l.map (fun x:Nmd=>x.1)).take (k+1))=(seenD ((l.map (fun x:Nmd=>x.1)).take k)).put (keyS nx) (.lit (.bool true))):=Lib.hid (by rw [htk,seenD_snoc]);have HXS:=Lib.hid hxs;have hkey:keyOf Tryz.prog 9 (.string nx)=some (keyS nx):=WideMaps.keyOf_string_mk Tryz.underlying9 hxs;have HKEY:=Lib.hid hkey
   have HLK:Hid (∀ W,Below wr.heap.size wr W→(Instr.lookup 124 (.map (some w.heap.size)) (.string nx) false).run Tryz.prog W=.ok (.bool (seenB ((l.map (fun x:Nmd=>x.1)).take k) nx)) W):=Lib.hid (fun W h =>
    seen_lookup (HOWN.out.kept (below_grown h none) (by simp)) Tryz.underlying124 Tryz.underlying9 Tryz.underlying4 (Tryz.zeroValue4 _) nx hxs)
   clear hcell hstep hbad htw hx hxs htk hkey;go_upto_region 5 with fail;change Code.wp _ _ _ _ (wr.alloc (.cells #[.string nx,.int .i64 lx,.int .u32 cx] 120));have hba:=aBq wr (.cells #[.string nx,.int .i64 lx,.int .u32 cx] 120);have hca:∀ (i:Nat),(wr.alloc (.cells #[.string nx,.int .i64 lx,.int .u32 cx] 120)).cell? ⟨wr.heap.size,i,none⟩=_:=fun i=>World.cell?_alloc_at _ _ _ _ rfl;have r0:=hca 0;have r1:=hca 1;have r2:=hca 2;have hsa:=World.size_alloc wr (.cells #[.string nx,.int .i64 lx,.int .u32 cx] 120);clear hca;generalize wr.alloc (.cells #[.string nx,.int .i64 lx,.int .u32 cx] 120)=wa at *;have HBA:=Lib.hid hba;have hgx:wr.heap.size < wa.heap.size:=by omega
   have HGX:=Lib.hid hgx;have r0':wa.cell? ⟨wr.heap.size,0,none⟩=some (.string nx):=r0;have r1':wa.cell? ⟨wr.heap.size,1,none⟩=some (.int .i64 lx):=r1;have r2':wa.cell? ⟨wr.heap.size,2,none⟩=some (.int .u32 cx):=r2;have lk:=HLK.out _ hba;clear hba hsa q0 q1 q2 r0 r1 r2 hgx;have HR0:=Lib.hid (And.intro r0' (And.intro r1' r2'))
   cases hsn:seenB ((l.map (fun x:Nmd=>x.1)).take k) nx
   ·rw [hsn] at lk
    have HN1:=Lib.hid (HNS.out hsn);clear hsn HLK HTW HNS;have kn:=name_any nx wa HXS.out
    cases hnm:nameL (B nx)
    ·rw [hnm] at kn
     have HF:=Lib.hid (HBAD.out (by rw [hnm];rfl));clear hnm;go_wp2_with fail
     refine kn.mono ?_;rintro e w2 ⟨rfl,hb2⟩;have HB2:=Lib.hid (HBR.out.trans ((HBA.out.trans (hb2.mono HBA.out.size)).mono HBR.out.size));clear hb2 kn lk r0' r1' r2';go_wp2;go_ret;exact ⟨by rw [HF.out];rfl,HB2.out⟩
    ·rw [hnm] at kn
     go_wp2_with fail
     refine kn.mono ?_;rintro e w2 ⟨rfl,hb2⟩;have HA2:=Lib.hid (HBA.out.trans (hb2.mono HBA.out.size));have s0:=kCq r0' hb2 HGX.out;have s1:=kCq r1' hb2 HGX.out;have s2:=kCq r2' hb2 HGX.out;have HG2:=Lib.hid (Nat.lt_of_lt_of_le HGX.out hb2.size);clear hb2 kn lk r0' r1' r2' HR0;have kr:=right_any lx cx w2
     cases hrl:rightL lx
     ·rw [hrl] at kr
      have HF:=Lib.hid (HBAD.out (by rw [hnm,hrl];rfl));clear hnm hrl;go_wp2_with fail
      refine kr.mono ?_;rintro e w3 ⟨rfl,hb3⟩;have HB3:=Lib.hid (HBR.out.trans ((HA2.out.trans (hb3.mono HA2.out.size)).mono HBR.out.size));clear hb3 kr s0 s1 s2;go_wp2;go_ret;exact ⟨by rw [HF.out];rfl,HB3.out⟩
     ·rw [hrl] at kr
      have HOK:=Lib.hid (HST.out (fun j hj h=>HN1.out j hj h) (by rw [hnm,hrl];rfl));clear hnm hrl;go_wp2_with fail
      refine kr.mono ?_;rintro e w3 ⟨rfl,hb3⟩;have HA3:=Lib.hid (HA2.out.trans (hb3.mono HA2.out.size));have u0:=kCq s0 hb3 HG2.out;have u1:=kCq s1 hb3 HG2.out;have u2:=kCq s2 hb3 HG2.out;clear hb3 kr s0 s1 s2;have hown3:=HOWN.out.kept (below_grown HA3.out none) (by simp);have hkey:=HKEY.out
      go_wp2_with (first
       | (at_mapUpdate;refine wpList_mapUpdate_own _ rfl _ _ _ 124 rfl 9 4 (string_keyed Tryz.underlying9) Tryz.underlying124 (plainElem Tryz.prog 4) w.heap.size k _ rfl hown3 (by unfold maxLen;omega) _ _ (keyS nx) rfl rfl hkey _ [] (plainElem_bool Tryz.underlying4 true) ?_;intro w4 hown4 hg4))
      have HO4:=Lib.hid (by have h:=hown4;rw [← HSN.out] at h;exact h);have HB4:=Lib.hid ((HBR.out.trans (HA3.out.mono HBR.out.size)).grown hg4 (HBR.out.trans (HA3.out.mono HBR.out.size)).size (fun j e=>by cases e;exact Nat.le_refl _));clear hown3 hown4 hg4 hkey u0 u1 u2;go_wp2;go_roundw
      case rel=>exact ⟨k+1,by go_num,by omega,HOK,HO4,HB4⟩
      case measure=>(simp [intOf];try omega)
   ·rw [hsn] at lk
    have HF:=Lib.hid (HTW.out hsn);clear hsn HLK HNS;have HB2:=Lib.hid (HBR.out.trans (HBA.out.mono HBR.out.size));go_wp2;go_ret;exact ⟨by rw [HF.out];rfl,HB2.out⟩
  ·obtain rfl:k=l.length:=by omega
   have HF:Hid (namedP l=true):=Lib.hid (by rw [HE.out];exact okUp_all HT.out);clear HT;go_wp2;go_ret;exact ⟨by rw [HF.out];rfl,HBR.out⟩
set_option maxHeartbeats 1600000 in
set_option maxRecDepth 100000 in
theorem pby_any (l:List ByteArray) (v:Value) (w:World) (hv:StrsG w v l) (hw:StrsFit l) :
  Calls Tryz.prog 54 #[v] w fun e w'=>e=.returned (.bool (byP l))∧Below w.heap.size w w':=by
 obtain ⟨hl,hsz⟩:=hw;have HE:Hid (byP l=(okAll (fun x:ByteArray=>x) (fun x:ByteArray=>nameL (B x)) l&&decide (l.length≤8))):=Lib.hid (byP_eq l);obtain ⟨a,c,rfl,hc,hr⟩:=RdAt.shape hv;have HR:=Lib.hid hr;have HSZ:=Lib.hid hsz;have hl47:l.length≤maxLen:=hl;unfold maxLen at hl47;have hmm:=@run_makeMap Tryz.prog;clear hr hv hl hsz
 go_enter Tryz.func54,Tryz.ntmps54
 go_wp2
 go_loopw [9] (fun i wr=>∃ k:Nat,i=.int .i64 k∧k≤l.length∧Hid (okUp (fun x:ByteArray=>x) (fun x:ByteArray=>nameL (B x)) l k)∧Hid (wr.ownsMap Tryz.prog 9 (plainElem Tryz.prog 4) w.heap.size k (seenD ((l.map (fun x:ByteArray=>x)).take k)))∧Hid (Below w.heap.size w wr)) (fun i _=>l.length - (intOf i).toNat)
 case atStart=>exact ⟨0,rfl,Nat.zero_le _,Lib.hid okUp_zero,Lib.hid (World.ownsMap_made _ _ _ _),Lib.hid (aBq _ _)⟩
 case round =>
  obtain ⟨k,rfl,hk,HT,HOWN,HBR⟩:=hrel
  by_cases hkl:k < l.length
  ·obtain ⟨b,o,rfl,hb,hcell⟩:=HR.out (by omega)
   have hstep:=okUp_succ HT.out hkl;have hbad:=okAll_bad (nm:=(fun x:ByteArray=>x)) (p:=(fun x:ByteArray=>nameL (B x))) hkl;have htw:=fun j hj hjk=>okAll_twice (nm:=(fun x:ByteArray=>x)) (p:=(fun x:ByteArray=>nameL (B x))) (j:=j) hj hkl hjk;have hxs:=HSZ.out _ (List.getElem_mem hkl);have htk:(l.map (fun x:ByteArray=>x)).take (k+1)=(l.map (fun x:ByteArray=>x)).take k ++ [(fun x:ByteArray=>x) l[k]]:=by rw [List.take_succ_eq_append_getElem (by simpa using hkl),List.getElem_map]
   obtain ⟨nx,hx⟩:∃ x,l[k]=x:=⟨_,rfl⟩;have q0:wr.cell? ⟨b,o+k,none⟩=some (.string nx):=kCq (hcell _ _ (by rw [List.getElem?_map,List.getElem?_eq_getElem hkl,hx];rfl)) HBR.out hb;rw [hx] at hstep hbad hxs htk;simp only [hx] at htw;have HBAD:Hid (nameL (B nx)=false→byP l=false):=Lib.hid (fun h=>by rw [HE.out,hbad h];rfl)
   have HTW:Hid (seenB ((l.map (fun x:ByteArray=>x)).take k) nx=true→byP l=false):=Lib.hid (fun h=>by
    obtain ⟨j,hj,hjk,he⟩:=(seen_take (fun x:ByteArray=>x) l k nx).1 h;rw [HE.out,htw j hj hjk he];rfl)
   have HNS:Hid (seenB ((l.map (fun x:ByteArray=>x)).take k) nx=false→∀ j (hj:j < l.length),j < k→(fun x:ByteArray=>x) l[j]≠nx):=Lib.hid (fun h j hj hjk he=>by
    have:=(seen_take (fun x:ByteArray=>x) l k nx).2 ⟨j,hj,hjk,he⟩
    rw [h] at this;cases this)
   have HST:=Lib.hid hstep;have HSN:Hid (seenD ((l.map (fun x:ByteArray=>x)).take (k+1))=(seenD ((l.map (fun x:ByteArray=>x)).take k)).put (keyS nx) (.lit (.bool true))):=Lib.hid (by rw [htk,seenD_snoc]);have HXS:=Lib.hid hxs;have hkey:keyOf Tryz.prog 9 (.string nx)=some (keyS nx):=WideMaps.keyOf_string_mk Tryz.underlying9 hxs;have HKEY:=Lib.hid hkey
   have HLK:Hid (∀ W,Below wr.heap.size wr W→(Instr.lookup 124 (.map (some w.heap.size)) (.string nx) false).run Tryz.prog W=.ok (.bool (seenB ((l.map (fun x:ByteArray=>x)).take k) nx)) W):=Lib.hid (fun W h =>
    seen_lookup (HOWN.out.kept (below_grown h none) (by simp)) Tryz.underlying124 Tryz.underlying9 Tryz.underlying4 (Tryz.zeroValue4 _) nx hxs)
   clear hcell hstep hbad htw hx hxs htk hkey;have lk:=HLK.out _ (Below.refl _ _);obtain ⟨wa,rfl⟩:∃ z,z=wr:=⟨_,rfl⟩;have HBA:Hid (Below wa.heap.size wa wa):=Lib.hid (Below.refl _ _)
   cases hsn:seenB ((l.map (fun x:ByteArray=>x)).take k) nx
   ·rw [hsn] at lk
    have HN1:=Lib.hid (HNS.out hsn);clear hsn HLK HTW HNS;have kn:=name_any nx wa HXS.out
    cases hnm:nameL (B nx)
    ·rw [hnm] at kn
     have HF:=Lib.hid (HBAD.out (by exact hnm));clear hnm;go_wp2_with fail
     refine kn.mono ?_;rintro e w2 ⟨rfl,hb2⟩;have HB2:=Lib.hid (HBR.out.trans ((HBA.out.trans (hb2.mono HBA.out.size)).mono HBR.out.size));clear hb2 kn lk;go_wp2;go_ret;exact ⟨by rw [HF.out];rfl,HB2.out⟩
    ·rw [hnm] at kn
     have HOK:=Lib.hid (HST.out (fun j hj h=>HN1.out j hj h) hnm);clear hnm;go_wp2_with fail
     refine kn.mono ?_;rintro e w3 ⟨rfl,hb3⟩;have HA3:=Lib.hid hb3;clear hb3 kn lk;have hown3:=HOWN.out.kept (below_grown HA3.out none) (by simp);have hkey:=HKEY.out
     go_wp2_with (first
      | (at_mapUpdate;refine wpList_mapUpdate_own _ rfl _ _ _ 124 rfl 9 4 (string_keyed Tryz.underlying9) Tryz.underlying124 (plainElem Tryz.prog 4) w.heap.size k _ rfl hown3 (by unfold maxLen;omega) _ _ (keyS nx) rfl rfl hkey _ [] (plainElem_bool Tryz.underlying4 true) ?_;intro w4 hown4 hg4))
     have HO4:=Lib.hid (by have h:=hown4;rw [← HSN.out] at h;exact h);have HB4:=Lib.hid ((HBR.out.trans (HA3.out.mono HBR.out.size)).grown hg4 (HBR.out.trans (HA3.out.mono HBR.out.size)).size (fun j e=>by cases e;exact Nat.le_refl _));clear hown3 hown4 hg4 hkey;go_wp2;go_roundw
     case rel=>exact ⟨k+1,by go_num,by omega,HOK,HO4,HB4⟩
     case measure=>(simp [intOf];try omega)
   ·rw [hsn] at lk
    have HF:=Lib.hid (HTW.out hsn);clear hsn HLK HNS;have HB2:=Lib.hid (HBR.out.trans (HBA.out.mono HBR.out.size));go_wp2;go_ret;exact ⟨by rw [HF.out];rfl,HB2.out⟩
  ·obtain rfl:k=l.length:=by omega
   have HF:Hid (byP l=decide (l.length≤8)):=Lib.hid (by rw [HE.out,show okAll (fun x:ByteArray=>x) (fun x:ByteArray=>nameL (B x)) l=true from okUp_all HT.out];rfl);clear HT
   by_cases h8:l.length≤8
   ·have hi8:(l.length:Int)≤8:=by omega
    go_wp2;go_ret;exact ⟨by rw [HF.out,decide_eq_true h8];rfl,HBR.out⟩
   ·have hi8:¬ (l.length:Int)≤8:=by omega
    go_wp2;go_ret;exact ⟨by rw [HF.out,decide_eq_false h8];rfl,HBR.out⟩
def lowN (x:Nat):Bool:=decide ((x:Int) < 32)
theorem low_any (x:Nat) (w:World) :
  Calls Tryz.prog 83 #[.int .i32 x] w fun e w'=>e=.returned (.bool (lowN x))∧∃ q,w'=w.drewN q:=by
 have H:Hid (lowN x=decide ((x:Int) < 32)):=rfl
 by_cases h:(x:Int) < 32
 ·go_enter Tryz.func83,Tryz.ntmps83
  go_wp2;go_ret;exact ⟨by rw [H.out,decide_eq_true h];rfl,0,rfl⟩
 ·go_enter Tryz.func83,Tryz.ntmps83
  go_wp2;go_ret;exact ⟨by rw [H.out,decide_eq_false (show ¬ (x:Int) < 32 by omega)];rfl,0,rfl⟩
theorem low_plain (s:ByteArray):((B s).any fun c=>lowN c.toNat)=!plainT s:=by
 unfold plainT;rw [List.not_all_eq_any_not]
 congr 1
 funext c
 unfold lowN
 by_cases h:c.toNat < 32
 ·rw [decide_eq_true (by omega),decide_eq_false (by omega)];rfl
 ·rw [decide_eq_false (by omega),decide_eq_true (by omega)];rfl
theorem has_low (s:ByteArray) (w:World) :
  Calls Tryz.prog 77 #[.string s,.func (.func 83) #[] #[]] w fun e w'=>e=.returned (.bool (!plainT s))∧Below w.heap.size w w':=by
 have h:=Tryz.strings_ContainsFunc_runes 83 #[] (enters_of Tryz.func83 (by kernel_rfl) rfl) lowN s w (fun W x hx _=>low_any x W);rw [idxFunc_bytes lowN false (fun x hx=>by unfold lowN;exact decide_eq_false (by omega)) s] at h;rw [← low_plain];exact h
def oddM (m:Mt):Bool:=!(plainT m.val&&fineM m)
set_option maxHeartbeats 800000 in
theorem whenc_any (m:Mt) (w:World) (hf:MtFit m) :
  Calls Tryz.prog 81 #[.agg #[.string m.nm,.int .i64 m.op,.string m.val]] w fun e w'=>e=.returned (.bool (oddM m))∧Below w.heap.size w w':=by
 have HE:Hid (oddM m=!(plainT m.val&&fineM m)):=rfl;have kf:=fun W=>mfine_any m W hf;have ks:=has_low m.val;obtain ⟨nm,op,val⟩:=m;dsimp only at kf ks HE;have KF:=Lib.hid kf;have KS:=Lib.hid ks;obtain ⟨W0,hW0⟩:∃ z,w.alloc (.cells #[.string nm,.int .i64 op,.string val] 92)=z:=⟨_,rfl⟩;have hd:=(Below.refl W0.heap.size W0);rw [← hW0] at hd;obtain ⟨⟨c0,c1,c2⟩,hlt,hB⟩:=box3m hd;rw [hW0] at c0 c1 c2 hlt hB;have HB:=Lib.hid hB;have HLT:=Lib.hid hlt;have HC:=Lib.hid c2;clear kf ks hd hlt hB
 go_enter Tryz.func81,Tryz.ntmps81
 go_upto_region 1 with fail;clear hW0;have kk:=KF.out W0
 cases hfm:fineM ⟨nm,op,val⟩
 ·have HF:Hid (oddM ⟨nm,op,val⟩=true):=Lib.hid (by rw [HE.out,hfm,Bool.and_false];rfl)
  rw [hfm] at kk;clear hfm;go_wp2_with fail
  refine kk.mono ?_;rintro e w1 ⟨rfl,hb1⟩;have HB1:=Lib.hid (HB.out.trans (hb1.mono HB.out.size));clear hb1 kk c0 c1 c2 HC;go_wp2;go_ret;exact ⟨by rw [HF.out];rfl,HB1.out⟩
 ·have HF:Hid (oddM ⟨nm,op,val⟩=!plainT val):=Lib.hid (by rw [HE.out,hfm,Bool.and_true])
  rw [hfm] at kk;clear hfm;go_wp2_with fail
  refine kk.mono ?_;rintro e w1 ⟨rfl,hb1⟩;have HB1:=Lib.hid (HB.out.trans (hb1.mono HB.out.size));have d2:=kCq HC.out hb1 HLT.out;clear hb1 kk c0 c1 c2 HC;generalize (!plainT val)=o at *;go_wp2_with fail
  refine (KS.out w1).mono ?_;rintro e w2 ⟨rfl,hb2⟩;have HB2:=Lib.hid (HB1.out.trans (hb2.mono HB1.out.size));clear hb2 d2;go_wp2;go_ret;exact ⟨by rw [HF.out];rfl,HB2.out⟩
set_option maxHeartbeats 800000 in
theorem pwhen_any (l:List Mt) (v:Value) (w:World) (hv:MtsAt w v l) (hl:l.length≤maxLen) (hfit:MtsFit l) :
  Calls Tryz.prog 55 #[v] w fun e w'=>e=.returned (.bool (whenP l))∧Below w.heap.size w w':=by
 have hkey:whenP l=(decide (l.length≤12)&&!l.any oddM):=by
  unfold whenP;rw [Bool.and_comm]
  congr 1
  rw [List.not_any_eq_all_not]
  congr 1
  funext m
  unfold oddM;rw [Bool.not_not]
 have HE:=Lib.hid hkey;have kk:=fun (h:l.length≤12)=>hasm_gen l hfit oddM 81 #[] (enters_of Tryz.func81 (by kernel_rfl) rfl) v w hv (by omega) (fun W m hm _=>whenc_any m W hm);obtain ⟨a,c,rfl,_,_⟩:=RdAt.shape hv;have KK:=Lib.hid kk;unfold maxLen at hl;clear hkey kk hv hfit
 by_cases h12:l.length≤12
 ·have hi:(l.length:Int)≤12:=by omega
  have kk:=KK.out h12;have HF:Hid (whenP l=!l.any oddM):=Lib.hid (by rw [HE.out,decide_eq_true h12];rfl);generalize l.any oddM=o at *;clear KK HE
  go_enter Tryz.func55,Tryz.ntmps55
  go_wp2_with fail
  refine kk.mono ?_;rintro e w1 ⟨rfl,hb1⟩;clear kk;go_wp2;go_ret;exact ⟨by rw [HF.out];rfl,hb1⟩
 ·have hi:¬ (l.length:Int)≤12:=by omega
  have HF:Hid (whenP l=false):=Lib.hid (by rw [HE.out,decide_eq_false h12];rfl);clear KK HE
  go_enter Tryz.func55,Tryz.ntmps55
  go_wp2;go_ret;exact ⟨by rw [HF.out];rfl,Below.refl _ _⟩
theorem betw_any (n lo hi:Int) (b:Bool) (hb:(decide (lo≤n)&&decide (n≤hi))=b) (w:World) :
  Calls Tryz.prog 53 #[.int .i64 n,.int .i64 lo,.int .i64 hi] w fun e w'=>e=.returned (.bool b)∧w=w':=by
 have H:=Lib.hid hb;clear hb
 rcases (show n < lo∨(lo≤n∧hi < n)∨(lo≤n∧n≤hi) by omega) with h | ⟨h,h'⟩ | ⟨h,h'⟩
 ·go_enter Tryz.func53,Tryz.ntmps53
  go_wp2;go_ret;exact ⟨by rw [← H.out,decide_eq_false (show ¬ lo≤n by omega)];rfl,rfl⟩
 ·go_enter Tryz.func53,Tryz.ntmps53
  go_wp2;go_ret;exact ⟨by rw [← H.out,decide_eq_true (show lo≤n by omega),decide_eq_false (show ¬ n≤hi by omega)];rfl,rfl⟩
 ·go_enter Tryz.func53,Tryz.ntmps53
  go_wp2;go_ret;exact ⟨by rw [← H.out,decide_eq_true (show lo≤n by omega),decide_eq_true (show n≤hi by omega)];rfl,rfl⟩
theorem check1_any (l:List Nmd) (v:Value) (w:World) (hv:NmdsAt w v l) (hw:NmdWide l) :
  Calls Tryz.prog 49 #[v] w fun e w'=>e=.returned (.bool (!namedP l))∧Below w.heap.size w w':=by
 have kk:=pnamed_any l v w hv hw;obtain ⟨a,c,rfl,_,_⟩:=RdAt.shape hv;generalize namedP l=o at *;clear hv hw
 go_enter Tryz.func49,Tryz.ntmps49
 go_wp2_with fail
 refine kk.mono ?_;rintro e w1 ⟨rfl,hb1⟩;clear kk;go_wp2;go_ret;exact ⟨rfl,hb1⟩
set_option maxHeartbeats 1600000 in
set_option maxRecDepth 100000 in
theorem check3_any (x:PIh) (w:World) (hin:IhIn w x) (hf:IhFit x) :
  Calls Tryz.prog 56 #[.agg #[x.bv,.int .i64 x.lv,.int .u32 x.c,x.fv,x.wv]] w fun e w'=>e=.returned (.bool (badIh x))∧Below w.heap.size w w':=by
 have KBY:=Lib.hid (fun W (h:Below w.heap.size w W)=>pby_any x.bys x.bv W (RdAt.later hin.b h) hf.bys);have KW1:=Lib.hid (fun W (h:Below w.heap.size w W)=>pwhen_any x.frm x.fv W (hin.f.later h) hf.lf hf.frm);have KW2:=Lib.hid (fun W (h:Below w.heap.size w W)=>pwhen_any x.whn x.wv W (hin.m.later h) hf.lw hf.whn);have KRL:=Lib.hid (right_any x.lv x.c);have HE:Hid (badIh x=(!byP x.bys || !rightL x.lv || !whenP x.frm || !whenP x.whn)):=rfl;obtain ⟨bys,lv,c,frm,whn,bv,fv,wv⟩:=x;dsimp only at *;obtain ⟨ba,bc,hba,_,_⟩:=RdAt.shape hin.b;dsimp only at hba;subst hba;obtain ⟨fa,fc,hfa,_,_⟩:=RdAt.shape hin.f;dsimp only at hfa;subst hfa;obtain ⟨wa,wc,hwa,_,_⟩:=RdAt.shape hin.m;dsimp only at hwa;subst hwa;clear hin hf;generalize badIh _=R at *;obtain ⟨W0,hW0⟩:∃ z,w.alloc (.cells #[.slice ba bys.length bc,.int .i64 lv,.int .u32 c,.slice fa frm.length fc,.slice wa whn.length wc] 51)=z:=⟨_,rfl⟩;have hB0:Below w.heap.size w W0:=by rw [← hW0];exact aBq _ _
 have hC:C5 w.heap.size (.slice ba bys.length bc) (.int .i64 lv) (.int .u32 c) (.slice fa frm.length fc) (.slice wa whn.length wc) W0:=by rw [← hW0];exact box5n w _ _ _ _ _ _
 have hlt:w.heap.size < W0.heap.size:=by rw [← hW0,World.size_alloc];omega
 have HB0:=Lib.hid hB0;have HC0:=Lib.hid hC;have HL0:=Lib.hid hlt;clear hB0 hC hlt
 go_enter Tryz.func56,Tryz.ntmps56
 go_upto_region 1 with fail;clear hW0;obtain ⟨r0,r1,r2,r3,r4⟩:=HC0.out;have kk:=KBY.out _ HB0.out
 cases hq1:byP bys
 ·have HF:Hid (R=true):=Lib.hid (by rw [HE.out];simp [hq1])
  rw [hq1] at kk;clear hq1;go_wp2_with fail
  refine kk.mono ?_;rintro e w1 ⟨rfl,hb1⟩;have HB:=Lib.hid (HB0.out.trans (hb1.mono HB0.out.size));clear hb1 kk r0 r1 r2 r3 r4;go_wp2;go_ret;exact ⟨by rw [HF.out];rfl,HB.out⟩
 ·rw [hq1] at kk
  have HQ1:=Lib.hid hq1;clear hq1;go_wp2_with fail
  refine kk.mono ?_;rintro e w1 ⟨rfl,hb1⟩;have HB1:=Lib.hid (HB0.out.trans (hb1.mono HB0.out.size));have HC1:=Lib.hid (C5.later HC0.out hb1 HL0.out);have HL1:=Lib.hid (Nat.lt_of_lt_of_le HL0.out hb1.size);clear hb1 kk r0 r1 r2 r3 r4 HC0 HL0;obtain ⟨r0,r1,r2,r3,r4⟩:=HC1.out;have kk:=KRL.out w1
  cases hq2:rightL lv
  ·have HF:Hid (R=true):=Lib.hid (by rw [HE.out];simp [hq2])
   rw [hq2] at kk;clear hq2;go_wp2_with fail
   refine kk.mono ?_;rintro e w2 ⟨rfl,hb2⟩;have HB:=Lib.hid (HB1.out.trans (hb2.mono HB1.out.size));clear hb2 kk r0 r1 r2 r3 r4;go_wp2;go_ret;exact ⟨by rw [HF.out];rfl,HB.out⟩
  ·rw [hq2] at kk
   have HQ2:=Lib.hid hq2;clear hq2;go_wp2_with fail
   refine kk.mono ?_;rintro e w2 ⟨rfl,hb2⟩;have HB2:=Lib.hid (HB1.out.trans (hb2.mono HB1.out.size));have HC2:=Lib.hid (C5.later HC1.out hb2 HL1.out);have HL2:=Lib.hid (Nat.lt_of_lt_of_le HL1.out hb2.size);clear hb2 kk r0 r1 r2 r3 r4 HC1 HL1;obtain ⟨r0,r1,r2,r3,r4⟩:=HC2.out;have kk:=KW1.out _ HB2.out
   cases hq3:whenP frm
   ·have HF:Hid (R=true):=Lib.hid (by rw [HE.out];simp [hq3])
    rw [hq3] at kk;clear hq3;go_wp2_with fail
    refine kk.mono ?_;rintro e w3 ⟨rfl,hb3⟩;have HB:=Lib.hid (HB2.out.trans (hb3.mono HB2.out.size));clear hb3 kk r0 r1 r2 r3 r4;go_wp2;go_ret;exact ⟨by rw [HF.out];rfl,HB.out⟩
   ·rw [hq3] at kk
    have HQ3:=Lib.hid hq3;clear hq3;go_wp2_with fail
    refine kk.mono ?_;rintro e w3 ⟨rfl,hb3⟩;have HB3:=Lib.hid (HB2.out.trans (hb3.mono HB2.out.size));have HC3:=Lib.hid (C5.later HC2.out hb3 HL2.out);have HL3:=Lib.hid (Nat.lt_of_lt_of_le HL2.out hb3.size);clear hb3 kk r0 r1 r2 r3 r4 HC2 HL2;obtain ⟨r0,r1,r2,r3,r4⟩:=HC3.out;have kk:=KW2.out _ HB3.out
    cases hq4:whenP whn
    ·have HF:Hid (R=true):=Lib.hid (by rw [HE.out];simp [hq4])
     rw [hq4] at kk;clear hq4;go_wp2_with fail
     refine kk.mono ?_;rintro e w4 ⟨rfl,hb4⟩;have HB:=Lib.hid (HB3.out.trans (hb4.mono HB3.out.size));clear hb4 kk r0 r1 r2 r3 r4;go_wp2;go_ret;exact ⟨by rw [HF.out];rfl,HB.out⟩
    ·rw [hq4] at kk
     have HQ4:=Lib.hid hq4;clear hq4;go_wp2_with fail
     refine kk.mono ?_;rintro e w4 ⟨rfl,hb4⟩;have HB4:=Lib.hid (HB3.out.trans (hb4.mono HB3.out.size));have HC4:=Lib.hid (C5.later HC3.out hb4 HL3.out);have HL4:=Lib.hid (Nat.lt_of_lt_of_le HL3.out hb4.size);clear hb4 kk r0 r1 r2 r3 r4 HC3 HL3;have HF:Hid (R=false):=Lib.hid (by rw [HE.out,HQ1.out,HQ2.out,HQ3.out,HQ4.out];rfl);go_wp2;go_ret;exact ⟨by rw [HF.out];rfl,HB4.out⟩
set_option maxHeartbeats 1600000 in
set_option maxRecDepth 100000 in
theorem check2_any (re:List Nmd) (rv:Value) (bp:Nat) (x:PRt) (w:World) (hre:NmdsAt w rv re) (hrl:re.length≤maxLen) (hbx:w.cell? ⟨bp,1,none⟩=some rv) (hbl:bp < w.heap.size) (hin:RtIn w x) (hf:RtFit x) :
  Calls Tryz.prog 51 #[.agg #[.string x.rcv,x.bv,.int .i64 x.wait,.int .i64 x.every,.int .i64 x.again,x.wv],.pointer (some ⟨bp,0,none⟩)] w fun e w'=>e=.returned (.bool (badRt re x))∧Below w.heap.size w w':=by
 have KBY:=Lib.hid (fun W (h:Below w.heap.size w W)=>pby_any x.bys x.bv W (RdAt.later hin.b h) hf.bys);have KWH:=Lib.hid (fun W (h:Below w.heap.size w W)=>pwhen_any x.whn x.wv W (hin.m.later h) hf.len hf.whn);have KFD:=Lib.hid (fun W (h:Below w.heap.size w W)=>find_any re x.rcv rv W (hre.later h) hrl);have HE:Hid (badRt re x=(!(findL re x.rcv).isSome || !byP x.bys || !timesP x || !whenP x.whn)):=rfl;have HTI:Hid (timesP x=(decide (0≤x.wait)&&decide (x.wait≤1000)&&decide (1≤x.every)&&decide (x.every≤1000)&&decide (x.every≤x.again)&&decide (x.again≤100000))):=rfl;obtain ⟨ra,rc,rfl,_,_⟩:=RdAt.shape hre;generalize timesP x=T at *;generalize badRt re x=R at *;obtain ⟨rcv,bys,wait,every,again,whn,bv,wv⟩:=x;dsimp only at *;obtain ⟨ba,bc,hba,_,_⟩:=RdAt.shape hin.b;dsimp only at hba;subst hba;obtain ⟨wa,wc,hwa,_,_⟩:=RdAt.shape hin.m;dsimp only at hwa;subst hwa;clear hin hf hre hrl;obtain ⟨W0,hW0⟩:∃ z,w.alloc (.cells #[.string rcv,.slice ba bys.length bc,.int .i64 wait,.int .i64 every,.int .i64 again,.slice wa whn.length wc] 84)=z:=⟨_,rfl⟩;have hB0:Below w.heap.size w W0:=by rw [← hW0];exact aBq _ _
 have hC:C6 w.heap.size (.string rcv) (.slice ba bys.length bc) (.int .i64 wait) (.int .i64 every) (.int .i64 again) (.slice wa whn.length wc) W0:=by rw [← hW0];exact box6n w _ _ _ _ _ _ _
 have hlt:w.heap.size < W0.heap.size:=by rw [← hW0,World.size_alloc];omega
 have p1:=kCq hbx hB0 hbl;have HB0:=Lib.hid hB0;have HC0:=Lib.hid hC;have HL0:=Lib.hid hlt;clear hB0 hC hlt hbx hbl
 go_enter Tryz.func51,Tryz.ntmps51
 go_upto_region 1 with fail;clear hW0;obtain ⟨r0,r1,r2,r3,r4,r5⟩:=HC0.out;have kk:=KFD.out _ HB0.out
 obtain ⟨fl,fc',fs,hfs,hfv⟩:∃ (fl:Int) (fc':Nat) (fs:Bool),(findL re rcv).isSome=fs∧findV (findL re rcv)=.agg #[.int .i64 fl,.int .u32 fc']:=by
  cases findL re rcv with
  | none=>exact ⟨0,0,false,rfl,rfl⟩
  | some y=>exact ⟨y.2.1,y.2.2,true,rfl,rfl⟩
 rw [hfs] at HE;rw [hfs,hfv] at kk;clear hfs hfv;go_wp2_with fail
 refine kk.mono ?_;rintro e w1 ⟨rfl,hb1⟩;have HB1:=Lib.hid (HB0.out.trans (hb1.mono HB0.out.size));have HC1:=Lib.hid (C6.later HC0.out hb1 HL0.out);have HL1:=Lib.hid (Nat.lt_of_lt_of_le HL0.out hb1.size);clear hb1 kk r0 r1 r2 r3 r4 r5 p1 HC0 HL0 HB0;go_upto_region 2 with fail;change Code.wp _ _ _ _ (w1.alloc (.cells #[.int .i64 fl,.int .u32 fc'] 36));have hb2:=aBq w1 (.cells #[.int .i64 fl,.int .u32 fc'] 36);generalize w1.alloc (.cells #[.int .i64 fl,.int .u32 fc'] 36)=w2 at *;have HB2:=Lib.hid (HB1.out.trans (hb2.mono HB1.out.size));have HC2:=Lib.hid (C6.later HC1.out hb2 HL1.out);have HL2:=Lib.hid (Nat.lt_of_lt_of_le HL1.out hb2.size);clear hb2 HB1 HC1 HL1;obtain ⟨r0,r1,r2,r3,r4,r5⟩:=HC2.out
 go_cut [6] (fun s6 wx=>s6=.bool T∧wx=w2)
 case first =>
  have kb1:=fun b h W=>betw_any wait 0 1000 b h W;have kb2:=fun b h W=>betw_any every 1 1000 b h W;have kb3:=fun b h W=>betw_any again every 100000 b h W;clear HE KBY KWH KFD
  cases h1:(decide (0≤wait)&&decide (wait≤1000))
  ·obtain rfl:T=false:=by rw [HTI.out,h1];rfl
   have k1:=kb1 _ h1;clear h1 HTI kb1 kb2 kb3;go_wp2_with fail
   refine (k1 _).mono ?_;rintro e w3 ⟨rfl,rfl⟩;go_wp2
   go_meet
   exact ⟨rfl,rfl⟩
  ·have k1:=kb1 _ h1
   cases h2:(decide (1≤every)&&decide (every≤1000))
   ·obtain rfl:T=false:=by rw [HTI.out,h1,Bool.true_and,h2];rfl
    have k2:=kb2 _ h2;clear h1 h2 HTI kb1 kb2 kb3;go_wp2_with fail
    refine (k1 _).mono ?_;rintro e w3 ⟨rfl,rfl⟩;go_wp2_with fail
    refine (k2 _).mono ?_;rintro e w3 ⟨rfl,rfl⟩;go_wp2
    go_meet
    exact ⟨rfl,rfl⟩
   ·have k2:=kb2 _ h2
    obtain ⟨b3,h3⟩:∃ b,(decide (every≤again)&&decide (again≤100000))=b:=⟨_,rfl⟩;have k3:=kb3 _ h3;obtain rfl:T=b3:=by rw [HTI.out,h1,Bool.true_and,h2,Bool.true_and,h3]
    clear h1 h2 h3 HTI kb1 kb2 kb3;go_wp2_with fail
    refine (k1 _).mono ?_;rintro e w3 ⟨rfl,rfl⟩;go_wp2_with fail
    refine (k2 _).mono ?_;rintro e w3 ⟨rfl,rfl⟩;go_wp2_with fail
    refine (k3 _).mono ?_;rintro e w3 ⟨rfl,rfl⟩;go_wp2
    go_meet
    exact ⟨rfl,rfl⟩
 case rest =>
  obtain ⟨rfl,rfl⟩:=hcut;clear HTI KFD
  cases fs
  ·have HF:Hid (R=true):=Lib.hid (by rw [HE.out];rfl)
   clear HE;go_wp2;go_ret;exact ⟨by rw [HF.out];rfl,HB2.out⟩
  ·have kk:=KBY.out _ HB2.out
   cases hby:byP bys
   ·have HF:Hid (R=true):=Lib.hid (by rw [HE.out];simp [hby])
    rw [hby] at kk
    clear HE hby
    go_wp2_with fail
    refine kk.mono ?_;rintro e w4 ⟨rfl,hb4⟩;have HB4:=Lib.hid (HB2.out.trans (hb4.mono HB2.out.size));clear hb4 kk r0 r1 r2 r3 r4 r5;go_wp2;go_ret;exact ⟨by rw [HF.out];rfl,HB4.out⟩
   ·rw [hby] at kk HE
    clear hby
    go_wp2_with fail
    refine kk.mono ?_;rintro e w4 ⟨rfl,hb4⟩;have HB4:=Lib.hid (HB2.out.trans (hb4.mono HB2.out.size));have q5:=kCq r5 hb4 HL2.out;clear hb4 kk r0 r1 r2 r3 r4 r5
    cases T
    ·have HF:Hid (R=true):=Lib.hid (by rw [HE.out];rfl)
     clear HE;go_wp2;go_ret;exact ⟨by rw [HF.out];rfl,HB4.out⟩
    ·have kk:=KWH.out _ HB4.out
     have HF:Hid (R=!whenP whn):=Lib.hid (by rw [HE.out];rfl);generalize whenP whn=o at *;clear HE;go_wp2_with fail
     refine kk.mono ?_;rintro e w5 ⟨rfl,hb5⟩;have HB5:=Lib.hid (HB4.out.trans (hb5.mono HB4.out.size));clear hb5 kk q5;go_wp2;go_ret;exact ⟨by rw [HF.out];rfl,HB5.out⟩
def l4 (p:PD) (v:PV):List (List Nmd × Value):=[(p.so,v.v0),(p.re,v.v1),(p.pe,v.v2),(p.ra,v.v3)]
def lgR (p:PD):Bool:=decide (12 < max p.ro.length p.ih.length)
theorem long_l4 (p:PD) (v:PV):longP p=(lgR p || (l4 p v).any fun x=>decide (12 < x.1.length)):=by
 have h:decide (12 < max p.ro.length p.ih.length)=(decide (12 < p.ro.length) || decide (12 < p.ih.length)):=by
  rw [Bool.eq_iff_iff];simp only [decide_eq_true_eq,Bool.or_eq_true];omega
 unfold longP lgR l4;rw [h];simp only [List.any_cons,List.any_nil,Bool.or_false]
 cases decide (12 < p.so.length) <;> cases decide (12 < p.re.length) <;> cases decide (12 < p.pe.length) <;> cases decide (12 < p.ra.length) <;> cases decide (12 < p.ro.length) <;> cases decide (12 < p.ih.length) <;> rfl
theorem names_l4 (p:PD) (v:PV):((l4 p v).any fun x=>!namedP x.1)=!namesP p:=by
 unfold namesP l4;simp only [List.any_cons,List.any_nil,Bool.or_false]
 cases namedP p.so <;> cases namedP p.re <;> cases namedP p.pe <;> cases namedP p.ra <;> rfl
theorem longs_no {p:PD} (h:longP p=false):p.ro.length≤12∧p.ih.length≤12:=by
 unfold longP at h;simp only [Bool.or_eq_false_iff,decide_eq_false_iff_not] at h
 omega
set_option maxHeartbeats 1600000 in
set_option maxRecDepth 100000 in
theorem pcheck_any (v:PV) (p:PD) (w:World) (hv:PolAt w v p) (hf:PolFitD p) :
  Calls Tryz.prog 27 #[v.v] w fun e w'=>e=.returned (.int .i64 (checkP p))∧Below w.heap.size w w':=by
 have HLG:=Lib.hid (long_l4 p v);have HNM:=Lib.hid (names_l4 p v)
 have hmem:∀ x∈l4 p v,NmdsAt w x.2 x.1∧NmdWide x.1:=by
  intro x hx;simp only [l4,List.mem_cons,List.not_mem_nil,or_false] at hx
  rcases hx with rfl | rfl | rfl | rfl
  ·exact ⟨hv.h0,hf.h0⟩
  ·exact ⟨hv.h1,hf.h1⟩
  ·exact ⟨hv.h2,hf.h2⟩
  ·exact ⟨hv.h3,hf.h3⟩
 have HM:=Lib.hid hmem;have HV:=Lib.hid hv;have HFT:=Lib.hid hf;have hl4:(l4 p v).map (·.2)=[v.v0,v.v1,v.v2,v.v3]:=rfl;have hlen4:(l4 p v).length=4:=rfl;generalize l4 p v=L at *;obtain ⟨v0,v1,v2,v3,v4,v5⟩:=v;obtain ⟨a0,c0,h0,_,_⟩:=RdAt.shape hv.h0;obtain ⟨a1,c1,h1,_,_⟩:=RdAt.shape hv.h1;obtain ⟨a2,c2,h2,_,_⟩:=RdAt.shape hv.h2;obtain ⟨a3,c3,h3,_,_⟩:=RdAt.shape hv.h3;obtain ⟨a4,c4,h4,_,_⟩:=RdAt.shape hv.h4.1;obtain ⟨a5,c5,h5,_,_⟩:=RdAt.shape hv.h5.1;dsimp only at h0 h1 h2 h3 h4 h5 hl4;subst h0 h1 h2 h3 h4 h5;have hro:=hf.l4;have hih:=hf.l5;unfold maxLen at hro hih;obtain ⟨W0,hW0⟩:∃ z,w.alloc (.cells #[.slice a0 p.so.length c0,.slice a1 p.re.length c1,.slice a2 p.pe.length c2,.slice a3 p.ra.length c3,.slice a4 p.ro.length c4,.slice a5 p.ih.length c5] 26)=z:=⟨_,rfl⟩;have hB0:Below w.heap.size w W0:=by rw [← hW0];exact aBq _ _
 have hC0:C6 w.heap.size (.slice a0 p.so.length c0) (.slice a1 p.re.length c1) (.slice a2 p.pe.length c2) (.slice a3 p.ra.length c3) (.slice a4 p.ro.length c4) (.slice a5 p.ih.length c5) W0:=by rw [← hW0];exact box6n w _ _ _ _ _ _ _
 have hlt0:w.heap.size < W0.heap.size:=by rw [← hW0,World.size_alloc];omega
 have hT:NlsAt (W0.alloc (.cells #[.slice a0 p.so.length c0,.slice a1 p.re.length c1,.slice a2 p.pe.length c2,.slice a3 p.ra.length c3] 22)) (.slice (some ⟨W0.heap.size,0,none⟩) 4 4) L:=by
  unfold NlsAt;rw [hlen4,hl4]
  exact RdAt.mk rfl (Nat.le_refl _) (by rw [World.size_alloc];omega) (fun j x hj=>by
   have hc:(W0.alloc (.cells #[.slice a0 p.so.length c0,.slice a1 p.re.length c1,.slice a2 p.pe.length c2,.slice a3 p.ra.length c3] 22)).cell? ⟨W0.heap.size,j,none⟩=_:=World.cell?_alloc_at _ _ _ _ rfl;rw [Nat.zero_add,hc,← Array.getElem?_toList];exact hj)
 have hb1:=aBq W0 (.cells #[.slice a0 p.so.length c0,.slice a1 p.re.length c1,.slice a2 p.pe.length c2,.slice a3 p.ra.length c3] 22);obtain ⟨q0,q1,q2,q3,q4,q5⟩:=hC0;have HW0:=Lib.hid hW0;have HT:=Lib.hid hT;have HB1:=Lib.hid (hB0.trans (hb1.mono hB0.size));have HC1:=Lib.hid (C6.later ⟨q0,q1,q2,q3,q4,q5⟩ hb1 hlt0);have HL1:=Lib.hid (Nat.lt_of_lt_of_le hlt0 hb1.size);have HLEN:=Lib.hid hlen4;clear hv hf hmem hl4 hlen4 hW0 hB0 hlt0 hT hb1
 go_enter Tryz.func27,Tryz.ntmps27
 go_upto_region 1 with fail;rw [HW0.out];go_upto_region 2 with fail;change Code.wp _ _ _ _ (W0.alloc (.cells #[.slice a0 p.so.length c0,.slice a1 p.re.length c1,.slice a2 p.pe.length c2,.slice a3 p.ra.length c3] 22));clear q0 q1 q2 q3 q4 q5 HW0;generalize W0.alloc (.cells #[.slice a0 p.so.length c0,.slice a1 p.re.length c1,.slice a2 p.pe.length c2,.slice a3 p.ra.length c3] 22)=w1 at *;generalize W0.heap.size=g at *;obtain ⟨q0,q1,q2,q3,q4,q5⟩:=HC1.out;obtain ⟨lg,hlg⟩:∃ z,lgR p=z:=⟨_,rfl⟩;have HLR:=Lib.hid hlg;rw [hlg] at HLG;unfold lgR at hlg;have hmx:max (p.ro.length:Int) (p.ih.length:Int)=((max p.ro.length p.ih.length:Nat):Int):=by omega
 go_cut [4] (fun s4 wx=>s4=.bool lg∧wx=w1)
 case first =>
  by_cases h12:12 < max p.ro.length p.ih.length
  ·obtain rfl:lg=true:=by rw [← hlg,decide_eq_true h12]
   have hi:(12:Int) < ((max p.ro.length p.ih.length:Nat):Int):=by omega
   generalize max p.ro.length p.ih.length=mx at *;clear hlg;go_wp2
   go_meet
   exact ⟨rfl,rfl⟩
  ·obtain rfl:lg=false:=by rw [← hlg,decide_eq_false h12]
   have hi:¬ (12:Int) < ((max p.ro.length p.ih.length:Nat):Int):=by omega
   generalize max p.ro.length p.ih.length=mx at *;clear hlg;go_wp2
   go_meet
   exact ⟨rfl,rfl⟩
 case rest =>
  obtain ⟨rfl,rfl⟩:=hcut;clear hlg hmx q0 q1 q2 q3 q4 q5;obtain ⟨ta,tc,hsl,_,htr⟩:=RdAt.shape HT.out;simp only [Value.slice.injEq] at hsl;obtain ⟨hs1,hs2,hs3⟩:=hsl;subst hs1;clear hs2 hs3;have HTR:=Lib.hid htr;clear htr;go_wp2
  go_loopw [4,29] (fun s4 i wr=>∃ (k:Nat) (b:Bool),i=.int .i64 k∧k≤4∧s4=.bool b∧Hid (b=(lg || (L.take k).any fun x=>decide (12 < x.1.length)))∧wr=wc) (fun _ i _=>4 - (intOf i).toNat)
  case atStart=>exact ⟨0,lg,rfl,Nat.zero_le _,rfl,Lib.hid (by simp),rfl⟩
  case round =>
   obtain ⟨k,b,rfl,hk,rfl,HBV,hwr⟩:=hrel;subst hwr
   by_cases hkl:k < 4
   ·have hkL:k < L.length:=by rw [HLEN.out];exact hkl
    obtain ⟨b',o',hbo,hbl,hcell⟩:=HTR.out (by omega);simp only [Option.some.injEq,Addr.mk.injEq,and_true] at hbo;obtain ⟨rfl,rfl⟩:=hbo;have c0:=hcell k _ (by rw [List.getElem?_map,List.getElem?_eq_getElem hkL];rfl);rw [Nat.zero_add] at c0;obtain ⟨na,nc,hsh,_,_⟩:=RdAt.shape (HM.out L[k] (List.getElem_mem hkL)).1;have d0:wr.cell? ⟨g,k,none⟩=some L[k].2:=c0;rw [hsh] at d0;clear c0
    have hstep:(L.take (k+1)).any (fun x=>decide (12 < x.1.length))=((L.take k).any (fun x=>decide (12 < x.1.length)) || decide (12 < L[k].1.length)):=by
     rw [List.take_succ_eq_append_getElem hkL,List.any_append];simp
    generalize L[k].1.length=nn at *;have HST:=Lib.hid hstep;clear hcell hsh hstep hbl
    cases b
    ·by_cases hn:12 < nn
     ·have HN:Hid (true=(lg || (L.take (k+1)).any fun x=>decide (12 < x.1.length))):=Lib.hid (by rw [HST.out,decide_eq_true hn];simp)
      have hi:(12:Int) < (nn:Int):=by omega
      go_wp2;go_roundw
      case rel=>exact ⟨k+1,true,by go_num,by omega,rfl,HN,trivial⟩
      case measure=>(simp [intOf];try omega)
     ·have HN:Hid (false=(lg || (L.take (k+1)).any fun x=>decide (12 < x.1.length))):=Lib.hid (by rw [HST.out,decide_eq_false hn,Bool.or_false];exact HBV.out)
      have hi:¬ (12:Int) < (nn:Int):=by omega
      go_wp2;go_roundw
      case rel=>exact ⟨k+1,false,by go_num,by omega,rfl,HN,trivial⟩
      case measure=>(simp [intOf];try omega)
    ·have HN:Hid (true=(lg || (L.take (k+1)).any fun x=>decide (12 < x.1.length))):=Lib.hid (by rw [HST.out,← Bool.or_assoc,← HBV.out];rfl)
     go_wp2;go_roundw
     case rel=>exact ⟨k+1,true,by go_num,by omega,rfl,HN,trivial⟩
     case measure=>(simp [intOf];try omega)
   ·obtain rfl:k=4:=by omega
    have HLP:Hid (longP p=b):=Lib.hid (by rw [HLG.out,HBV.out,List.take_of_length_le (by rw [HLEN.out];exact Nat.le_refl _)]);clear HBV HTR hk hkl
    cases b
    ·obtain ⟨hr12,hi12⟩:=longs_no HLP.out
     obtain ⟨q0,q1,q2,q3,q4,q5⟩:=HC1.out;have kk:=hasL_gen L (fun x=>!namedP x.1) 49 #[] (enters_of Tryz.func49 (by kernel_rfl) rfl) _ wr HT.out (by rw [HLEN.out];decide) (fun W x hx hW=>check1_any x.1 x.2 W ((HM.out x hx).1.later (HB1.out.trans (hW.mono HB1.out.size))) (HM.out x hx).2);rw [HNM.out] at kk
     cases hnp:namesP p
     ·have HF:Hid (checkP p=1):=Lib.hid (check_names HLP.out hnp)
      rw [hnp] at kk;clear hnp;go_wp2_with fail
      refine kk.mono ?_;rintro e w2 ⟨rfl,hb2⟩;have HB2:=Lib.hid (HB1.out.trans (hb2.mono HB1.out.size));clear hb2 kk q0 q1 q2 q3 q4 q5;go_wp2;go_ret;exact ⟨by rw [HF.out];rfl,HB2.out⟩
     ·rw [hnp] at kk
      have HNP:=Lib.hid hnp;clear hnp;go_wp2_with fail
      refine kk.mono ?_;rintro e w2 ⟨rfl,hb2⟩;have HB2:=Lib.hid (HB1.out.trans (hb2.mono HB1.out.size));have HC2:=Lib.hid (C6.later HC1.out hb2 HL1.out);have HL2:=Lib.hid (Nat.lt_of_lt_of_le HL1.out hb2.size);clear hb2 kk q0 q1 q2 q3 q4 q5 HC1 HL1 HB1;obtain ⟨q0,q1,q2,q3,q4,q5⟩:=HC2.out;have kk:=hasR_gen p.ro (badRt p.re) 51 #[.pointer (some ⟨w.heap.size,0,none⟩)] (enters_of Tryz.func51 (by kernel_rfl) rfl) _ w2 (HV.out.later HB2.out).h4.1 (by omega) (fun W x hx hW=>check2_any p.re _ w.heap.size x W (HV.out.later (HB2.out.trans (hW.mono HB2.out.size))).h1 HFT.out.h1.1 (kCq HC2.out.2.1 hW HL2.out) (Nat.lt_of_lt_of_le HL2.out hW.size) ((HV.out.later (HB2.out.trans (hW.mono HB2.out.size))).h4.2 x hx) (HFT.out.h4 x hx));dsimp only at kk
      cases hrt:p.ro.any (badRt p.re)
      ·rw [hrt] at kk
       have HRT:=Lib.hid hrt;clear hrt;go_wp2_with fail
       refine kk.mono ?_;rintro e w3 ⟨rfl,hb3⟩;have HB3:=Lib.hid (HB2.out.trans (hb3.mono HB2.out.size));have HC3:=Lib.hid (C6.later HC2.out hb3 HL2.out);clear hb3 kk q0 q1 q2 q3 q4 q5 HC2 HL2 HB2;obtain ⟨q0,q1,q2,q3,q4,q5⟩:=HC3.out;have kk:=hasI_gen p.ih badIh 56 #[] (enters_of Tryz.func56 (by kernel_rfl) rfl) _ w3 (HV.out.later HB3.out).h5.1 (by omega) (fun W x hx hW=>check3_any x W ((HV.out.later (HB3.out.trans (hW.mono HB3.out.size))).h5.2 x hx) (HFT.out.h5 x hx));dsimp only at kk;have HF:Hid (checkP p=if p.ih.any badIh then 1 else 0):=Lib.hid (by unfold checkP;rw [HLP.out,HNP.out,HRT.out];rfl);generalize p.ih.any badIh=o at *;go_wp2_with fail
       refine kk.mono ?_;rintro e w4 ⟨rfl,hb4⟩;have HB4:=Lib.hid (HB3.out.trans (hb4.mono HB3.out.size));clear hb4 kk q0 q1 q2 q3 q4 q5
       cases o
       ·go_wp2
        go_ret;exact ⟨by rw [HF.out];rfl,HB4.out⟩
       ·go_wp2
        go_ret;exact ⟨by rw [HF.out];rfl,HB4.out⟩
      ·have HF:Hid (checkP p=1):=Lib.hid (by unfold checkP;rw [HLP.out,HNP.out,hrt];rfl)
       rw [hrt] at kk;clear hrt;go_wp2_with fail
       refine kk.mono ?_;rintro e w3 ⟨rfl,hb3⟩;have HB3:=Lib.hid (HB2.out.trans (hb3.mono HB2.out.size));clear hb3 kk q0 q1 q2 q3 q4 q5;go_wp2;go_ret;exact ⟨by rw [HF.out];rfl,HB3.out⟩
    ·have HF:Hid (checkP p=4):=Lib.hid (check_long HLP.out)
     go_wp2;go_ret;exact ⟨by rw [HF.out];rfl,HB1.out⟩
end Go.Proofs.YtipnhpfpppblhaaGreat
namespace Go.Proofs.YtipnhpfpppblhaaGreat
open Go.RowKit Go.WideShapes Go.ChangeShapes Go.Deep
theorem cell_ltA {w:World} {a:Addr} {v:Value} (h:w.cell? a=some v):a.block < w.heap.size:=by
 rcases Nat.lt_or_ge a.block w.heap.size with h' | h'
 ·exact h'
 ·simp [World.cell?,Array.getElem?_eq_none h'] at h
section
variable {H:Type} {enc:TypeId × Value→H} {P:Program} {w:World} {base:Nat} {spare:Nat→Bool} {held:Bool}
theorem open_slice_structs {t e:TypeId} {fs:Array Field} {fuel:Nat} {cs:List Value} {x:DataW H × List MemPlace} (ht:P.underlying t=some (.slice e)) (he:P.underlying e=some (.struct fs))
  (h:DataW.trod enc P w base spare held fuel t cs=some x) :
  cs=[.slice none 0 0] ∨
  ∃ (a:Addr) (len cap:Nat),cs=[.slice (some a) len cap]∧len≤cap∧cap≤maxLen ∧
   ∀ i,i < len→∃ (es:List Value) (n:Nat),es.length=P.cellsOf e∧(∀ j,j < P.cellsOf e→w.cell? (a.add (i * P.cellsOf e+j))=es[j]?) ∧
    ∀ (j:Nat) (f:Field),fs[j]?=some f→∃ y,DataW.trod enc P w base spare held n f.type ((es.drop f.offset).take (P.cellsOf f.type))=some y:=by
 rcases open_slice ht h with ⟨h0,_⟩ | ⟨a,len,cap,m,n,D,Pl,hcs,hb,hl,hm,hmm,hx,hi⟩
 ·exact .inl h0
 ·refine .inr ⟨a,len,cap,hcs,hl,hm,fun i hil=>?_⟩
  obtain ⟨cs',hc,ht'⟩:=hi i (by rw [hmm];split <;> omega)
  obtain ⟨ys,n',hn',hy,hlen,hyl,hf⟩:=DataW.trod_struct he ht';obtain ⟨_,hcl,hat⟩:=World.cells?_some hc;refine ⟨cs',n',by omega,fun j hj=>?_,fun j f hj=>?_⟩
  ·rw [← Go.Deep.add_add];exact hat j hj
  ·have hjl:j < fs.size:=(Array.getElem?_eq_some_iff.1 hj).1
   have h1:=hf j f hj;exact ⟨_,h1.trans (List.getElem?_eq_getElem (by omega))⟩
end
def ArgFlds (w:World) (v:Value) (fl:List Fld):Prop:=FldsAt w v fl∧fl.length≤maxLen∧FldsFit fl
theorem add_off {b o j:Nat}:(⟨b,o,none⟩:Addr).add j=⟨b,o+j,none⟩:=Go.WideShapes.add_plain ..
set_option maxRecDepth 100000 in
theorem flds_of_trod {H:Type} {enc:TypeId × Value→H} {W:World} {n:Nat} {v:Value} {x:DataW H × List MemPlace} (h:DataW.trod enc Tryz.prog W 0 (fun _=>true) true n 52 [v]=some x):∃ fl,ArgFlds W v fl:=by
 have hC:Tryz.prog.cellsOf 90=2:=by kernel_rfl
 have hcs1:Tryz.prog.cellsOf 9=1:=by kernel_rfl
 rcases open_slice_structs Tryz.underlying52 Tryz.underlying90 h with hcs | ⟨a,len,cap,hcs,hl,hm,hf⟩
 ·cases hcs
  exact ⟨[],RdAt.nil W 2,Nat.zero_le _,fun _ h=>by cases h⟩
 ·cases hcs
  rw [hC] at hf
  have hone:∀ i,i < len→∃ s:Fld,W.cell? (a.add (i * 2))=some (.string s.1)∧W.cell? (a.add (i * 2+1))=some (.string s.2)∧s.1.size≤maxLen∧s.2.size≤maxLen:=by
   intro i hi;obtain ⟨es,n,hlen,hat,hfs⟩:=hf i hi
   match es,hlen with
   | [e0,e1],_ =>
    obtain ⟨y0,t0⟩:=hfs 0 _ rfl;obtain ⟨y1,t1⟩:=hfs 1 _ rfl;obtain ⟨s0,q0,_,z0⟩:=DataW.trod_string Tryz.underlying9 t0;obtain ⟨s1,q1,_,z1⟩:=DataW.trod_string Tryz.underlying9 t1
    simp [hcs1] at q0 q1
    subst q0 q1;exact ⟨(s0,s1),hat 0 (by omega),hat 1 (by omega),z0,z1⟩
  have hg:∃ g:Nat→Fld,∀ i,i < len→W.cell? (a.add (i * 2))=some (.string (g i).1)∧W.cell? (a.add (i * 2+1))=some (.string (g i).2)∧(g i).1.size≤maxLen∧(g i).2.size≤maxLen :=
   ⟨fun i=>if h:i < len then Classical.choose (hone i h) else default,fun i h=>by have:=Classical.choose_spec (hone i h);simpa only [dif_pos h] using this⟩
  obtain ⟨g,hg⟩:=hg;have hgl:((List.range len).map g).length=len:=by simp
  refine ⟨(List.range len).map g,⟨fldCells_len _,.inr ⟨a,cap,by rw [hgl],by omega,fun hn=>?_⟩⟩,by rw [hgl];omega,fun s hs=>?_⟩
  ·rw [hgl] at hn
   obtain ⟨b,off,spot⟩:=a;have h0:=(hg 0 hn).1;have hspot:spot=none:=by simpa [Addr.add] using World.cell?_spot h0
   subst hspot;refine ⟨b,off,rfl,by have:=cell_ltA h0;simpa [Addr.add] using this,fun j x hj=>?_⟩;have hjl:=(List.getElem?_eq_some_iff.1 hj).1;rw [fldCells_len,hgl] at hjl;obtain ⟨m,r,hr2,rfl⟩:∃ m r,r < 2∧j=m * 2+r:=⟨j / 2,j % 2,Nat.mod_lt _ (by decide),by omega⟩;obtain ⟨q0,q1⟩:=fldCells_at ((List.range len).map g) m (by rw [hgl];omega);obtain ⟨h1,h2,_⟩:=hg m (by omega);simp only [List.getElem_map,List.getElem_range] at q0 q1;rw [add_off] at h1 h2
   match r,hr2 with
   | 0,_=>rw [Nat.add_zero] at hj ⊢;rw [q0] at hj;rw [← Option.some.inj hj];exact h1
   | 1,_=>rw [q1] at hj;rw [← Option.some.inj hj];exact h2
  ·obtain ⟨i,hi,rfl⟩:=List.mem_map.1 hs
   exact (hg i (List.mem_range.1 hi)).2.2
theorem lit_u32 {c:Int} (h:(Lit.int .u32 c).wf=true):∃ n:Nat,c=n∧n < 4294967296:=by
 have:0≤c∧c≤4294967295:=by
  simp [Lit.wf,IntKind.min,IntKind.max,IntKind.signed,IntKind.bits] at h;omega
 exact ⟨c.toNat,by omega,by omega⟩
theorem lab_of_trod {H:Type} {enc:TypeId × Value→H} {W:World} {n:Nat} {c0 c1:Value} {x:DataW H × List MemPlace} (h:DataW.trod enc Tryz.prog W 0 (fun _=>true) true n 36 [c0,c1]=some x):∃ (l:Int) (c:Nat),c0=.int .i64 l∧c1=.int .u32 c∧c < 4294967296:=by
 have hci:Tryz.prog.cellsOf 3=1:=by kernel_rfl
 have hcu:Tryz.prog.cellsOf 34=1:=by kernel_rfl
 obtain ⟨ys,n',hn',hy,hlen,hyl,hf⟩:=DataW.trod_struct Tryz.underlying36 h;have t0:=hf 0 _ rfl;have t1:=hf 1 _ rfl
 match ys,hyl with
 | [y0,y1],_ =>
  obtain ⟨k0,q0,_,_⟩:=DataW.trod_int Tryz.underlying3 t0;obtain ⟨k1,q1,_,w1⟩:=DataW.trod_int Tryz.underlying34 t1
  simp [hci] at q0
  simp [hcu] at q1
  subst q0 q1;obtain ⟨m,rfl,hm⟩:=lit_u32 w1;exact ⟨k0,m,rfl,rfl,hm⟩
end Go.Proofs.YtipnhpfpppblhaaGreat
namespace Go.Proofs.YtipnhpfpppblhaaGreat
open Go.RowKit Go.WideShapes Go.ChangeShapes Go.Deep
theorem nmdCells_eq (l:List Nmd):nmdCells l=cellsG nmdC l:=by
 induction l with
 | nil=>rfl
 | cons x l ih=>simp only [nmdCells,cellsG,ih]
theorem mtCells_eq (l:List Mt):mtCells l=cellsG mtC l:=by
 induction l with
 | nil=>rfl
 | cons x l ih=>simp only [mtCells,cellsG,ih];rfl
section
variable {H:Type} {enc:TypeId × Value→H} {P:Program} {W:World} {base:Nat} {spare:Nat→Bool} {held:Bool}
theorem row_cellsG {a:Addr} {len size:Nat} {f:Nat→List Value} (h0:0 < size) (hlen:∀ i,i < len→(f i).length=size) (hat:∀ i,i < len→∀ j,j < size→W.cell? (a.add (i * size+j))=(f i)[j]?) (hp:0 < len) :
  ∃ b o,a=⟨b,o,none⟩∧b < W.heap.size∧∀ i,i < len→∀ j x,(f i)[j]?=some x→W.cell? ⟨b,o+(i * size+j),none⟩=some x:=by
 obtain ⟨b,off,spot⟩:=a;obtain ⟨x0,hx0⟩:∃ x,(f 0)[0]?=some x:=⟨_,List.getElem?_eq_getElem (by rw [hlen 0 hp];exact h0)⟩;have hc:=hat 0 hp 0 h0;rw [hx0] at hc;have hspot:spot=none:=by simpa [Addr.add] using World.cell?_spot hc
 subst hspot;refine ⟨b,off,rfl,by have:=cell_ltA hc;simpa [Addr.add] using this,fun i hi j x hx=>?_⟩;have hj:j < size:=by have:=(List.getElem?_eq_some_iff.1 hx).1;rw [hlen i hi] at this;exact this
 have:=hat i hi j hj
 rw [add_off,hx] at this;exact this
theorem rows_of_trod {α:Type} [Inhabited α] (f:α→List Value) (k:Nat) (hk:∀ x,(f x).length=k) (h0:0 < k) {t e:TypeId} {fs:Array Field} {fuel:Nat} {v:Value} {x:DataW H × List MemPlace}
  (ht:P.underlying t=some (.slice e)) (he:P.underlying e=some (.struct fs)) (hC:P.cellsOf e=k) (Q:α→Prop)
  (hel:∀ (es:List Value) (n:Nat),es.length=k→(∀ (j:Nat) (fd:Field),fs[j]?=some fd→∃ y,DataW.trod enc P W base spare held n fd.type ((es.drop fd.offset).take (P.cellsOf fd.type))=some y)→∃ x,f x=es∧Q x)
  (h:DataW.trod enc P W base spare held fuel t [v]=some x) :
  ∃ (l:List α) (a:Option Addr) (c:Nat),v=.slice a l.length c∧l.length≤c∧c≤maxLen∧RdAt W v l.length k (cellsG f l)∧∀ x∈l,Q x:=by
 rcases open_slice_structs ht he h with hcs | ⟨a,len,cap,hcs,hl,hm,hf⟩
 ·cases hcs
  exact ⟨[],none,0,rfl,Nat.le_refl _,Nat.zero_le _,RdAt.nil W k,fun _ h=>by cases h⟩
 ·cases hcs
  rw [hC] at hf
  have hone:∀ i,i < len→∃ s:α,(∀ j,j < k→W.cell? (a.add (i * k+j))=(f s)[j]?)∧Q s:=by
   intro i hi;obtain ⟨es,n,hlen,hat,hfs⟩:=hf i hi;obtain ⟨x,hx,hq⟩:=hel es n hlen hfs;exact ⟨x,by rw [hx];exact hat,hq⟩
  obtain ⟨g,hg⟩:∃ g:Nat→α,∀ i,i < len→(∀ j,j < k→W.cell? (a.add (i * k+j))=(f (g i))[j]?)∧Q (g i) :=
   ⟨fun i=>if h:i < len then Classical.choose (hone i h) else default,fun i h=>by have:=Classical.choose_spec (hone i h);simpa only [dif_pos h] using this⟩
  have hgl:((List.range len).map g).length=len:=by simp
  refine ⟨(List.range len).map g,some a,cap,by rw [hgl],by omega,hm,⟨by rw [cellsG_len hk],.inr ⟨a,cap,by rw [hgl],by omega,fun hn=>?_⟩⟩,fun s hs=>?_⟩
  ·rw [hgl] at hn
   obtain ⟨b,o,rfl,hlt,hcell⟩:=row_cellsG (f:=fun i=>f (g i)) (size:=k) h0 (fun _ _=>hk _) (fun i hi=>(hg i hi).1) hn;refine ⟨b,o,rfl,hlt,fun j x hj=>?_⟩;have hjl:=(List.getElem?_eq_some_iff.1 hj).1;rw [cellsG_len hk,hgl] at hjl;have hr:j % k < k:=Nat.mod_lt _ h0;have hjk:j / k * k+j % k=j:=by rw [Nat.mul_comm];exact Nat.div_add_mod j k
   have hmk:j / k < len:=Nat.div_lt_of_lt_mul (by rw [Nat.mul_comm];exact hjl);obtain ⟨y,hy⟩:∃ y,(f (g (j / k)))[j % k]?=some y:=⟨_,List.getElem?_eq_getElem (by rw [hk];exact hr)⟩;have hq:=cellsG_at hk ((List.range len).map g) (j / k) (by rw [hgl];exact hmk) (j % k) y (by simpa using hy);rw [hjk,hj] at hq;obtain rfl:=Option.some.inj hq
   have:=hcell (j / k) hmk (j % k) x hy
   rwa [hjk] at this
  ·obtain ⟨i,hi,rfl⟩:=List.mem_map.1 hs
   exact (hg i (List.mem_range.1 hi)).2
end
instance:Inhabited Mt:=⟨⟨⟨#[]⟩,0,⟨#[]⟩⟩⟩
instance:Inhabited PRt:=⟨⟨⟨#[]⟩,[],0,0,0,[],undef,undef⟩⟩
instance:Inhabited PIh:=⟨⟨[],0,0,[],[],undef,undef,undef⟩⟩
set_option maxRecDepth 100000 in
theorem mtsG_of_trod {H:Type} {enc:TypeId × Value→H} {W:World} {n:Nat} {v:Value} {x:DataW H × List MemPlace} (h:DataW.trod enc Tryz.prog W 0 (fun _=>true) true n 49 [v]=some x):∃ l,MtsAt W v l∧l.length≤maxLen∧MtsFit l:=by
 have hcs1:Tryz.prog.cellsOf 9=1:=by kernel_rfl
 have hci:Tryz.prog.cellsOf 3=1:=by kernel_rfl
 obtain ⟨l,a,c,hv,h1,h2,h3,h4⟩:=rows_of_trod mtC 3 (fun _=>rfl) (by decide) Tryz.underlying49 Tryz.underlying92 (by kernel_rfl) MtFit (fun es n hlen hfs=>by
  match es,hlen with
  | [e0,e1,e2],_ =>
   obtain ⟨y0,t0⟩:=hfs 0 _ rfl;obtain ⟨y1,t1⟩:=hfs 1 _ rfl;obtain ⟨y2,t2⟩:=hfs 2 _ rfl;obtain ⟨s0,q0,_,z0⟩:=DataW.trod_string Tryz.underlying9 t0;obtain ⟨k1,q1,_,_⟩:=DataW.trod_int Tryz.underlying3 t1;obtain ⟨s2,q2,_,z2⟩:=DataW.trod_string Tryz.underlying9 t2
   simp [hcs1] at q0 q2
   simp [hci] at q1
   subst q0 q1 q2;exact ⟨⟨s0,k1,s2⟩,rfl,z0,z2⟩) h
 exact ⟨l,by unfold MtsAt;rw [mtCells_eq];exact h3,Nat.le_trans h1 h2,h4⟩
set_option maxRecDepth 100000 in
theorem nmdsG_of_trod {H:Type} {enc:TypeId × Value→H} {W:World} {n:Nat} {v:Value} {x:DataW H × List MemPlace} (h:DataW.trod enc Tryz.prog W 0 (fun _=>true) true n 22 [v]=some x):∃ l,NmdsAt W v l∧NmdWide l:=by
 have hcs1:Tryz.prog.cellsOf 9=1:=by kernel_rfl
 have hcl:Tryz.prog.cellsOf 36=2:=by kernel_rfl
 obtain ⟨l,a,c,hv,h1,h2,h3,h4⟩:=rows_of_trod nmdC 3 (fun _=>rfl) (by decide) Tryz.underlying22 Tryz.underlying120 (by kernel_rfl) (fun y=>y.2.2 < 4294967296∧y.1.size≤maxLen) (fun es n hlen hfs=>by
  match es,hlen with
  | [e0,e1,e2],_ =>
   obtain ⟨y0,t0⟩:=hfs 0 _ rfl;obtain ⟨y1,t1⟩:=hfs 1 _ rfl;obtain ⟨s0,q0,_,z0⟩:=DataW.trod_string Tryz.underlying9 t0
   simp [hcs1] at q0
   subst q0;have t1':DataW.trod enc Tryz.prog W 0 (fun _=>true) true n 36 [e1,e2]=some y1:=by simpa [hcl] using t1
   obtain ⟨l,c,r1,r2,hc⟩:=lab_of_trod t1';subst r1 r2;exact ⟨(s0,l,c),rfl,hc,z0⟩) h
 exact ⟨l,by unfold NmdsAt;rw [nmdCells_eq];exact h3,Nat.le_trans h1 h2,fun x hx=>(h4 x hx).1,fun x hx=>(h4 x hx).2⟩
set_option maxRecDepth 100000 in
theorem strsG_of_trod {H:Type} {enc:TypeId × Value→H} {W:World} {n:Nat} {v:Value} {x:DataW H × List MemPlace} (h:DataW.trod enc Tryz.prog W 0 (fun _=>true) true n 48 [v]=some x):∃ l,StrsG W v l∧StrsFit l:=by
 rcases open_strings Tryz.underlying48 Tryz.underlying9 (by kernel_rfl) h with ⟨hcs,_⟩ | ⟨a,len,cap,ss,hcs,_,hl,hm,hz,_,hcell,hws⟩
 ·cases hcs
  exact ⟨[],RdAt.nil W 1,Nat.zero_le _,by simp⟩
 ·cases hcs
  simp only [if_true] at hz;have hlen:(ss.take len).length=len:=by rw [List.length_take];omega
  refine ⟨ss.take len,⟨by simp,.inr ⟨a,cap,by rw [hlen],by omega,fun hn=>?_⟩⟩,by rw [hlen];omega,fun x hx=>hws x (List.mem_of_mem_take hx)⟩;rw [hlen] at hn;obtain ⟨b,off,spot⟩:=a;have hspot:spot=none:=by simpa [Addr.add] using World.cell?_spot (hcell 0 (by omega))
  subst hspot;have hall:∀ j,j < ss.length→W.cell? ⟨b,off+j,none⟩=some (.string (ss.getD j ByteArray.empty)):=fun j hj=>by rw [← Go.WideShapes.add_plain];exact hcell j hj
  refine ⟨b,off,rfl,cell_ltA (a:=⟨b,off+0,none⟩) (hall 0 (by omega)),fun j x hx=>?_⟩;rw [List.getElem?_map,Option.map_eq_some_iff] at hx;obtain ⟨y,hy,rfl⟩:=hx;have hj:j < len:=by have:=(List.getElem?_eq_some_iff.1 hy).1;rw [hlen] at this;exact this
  rw [hall j (by omega)];rw [List.getElem?_take_of_lt hj] at hy
  simp [List.getD,hy]
set_option maxRecDepth 100000 in
theorem rts_of_trod {H:Type} {enc:TypeId × Value→H} {W:World} {n:Nat} {v:Value} {x:DataW H × List MemPlace} (h:DataW.trod enc Tryz.prog W 0 (fun _=>true) true n 23 [v]=some x):∃ l,RtsAt W v l∧l.length≤maxLen∧∀ r∈l,RtFit r:=by
 have hcs1:Tryz.prog.cellsOf 9=1:=by kernel_rfl
 have hci:Tryz.prog.cellsOf 3=1:=by kernel_rfl
 have hcm:Tryz.prog.cellsOf 49=1:=by kernel_rfl
 have hcn:Tryz.prog.cellsOf 48=1:=by kernel_rfl
 obtain ⟨l,a,c,hv,h1,h2,h3,h4⟩:=rows_of_trod rtC 6 (fun _=>rfl) (by decide) Tryz.underlying23 Tryz.underlying84 (by kernel_rfl) (fun r=>RtIn W r∧RtFit r) (fun es n hlen hfs=>by
  match es,hlen with
  | [e0,e1,e2,e3,e4,e5],_ =>
   obtain ⟨y0,t0⟩:=hfs 0 _ rfl;obtain ⟨y1,t1⟩:=hfs 1 _ rfl;obtain ⟨y2,t2⟩:=hfs 2 _ rfl;obtain ⟨y3,t3⟩:=hfs 3 _ rfl;obtain ⟨y4,t4⟩:=hfs 4 _ rfl;obtain ⟨y5,t5⟩:=hfs 5 _ rfl;obtain ⟨s0,q0,_,z0⟩:=DataW.trod_string Tryz.underlying9 t0;obtain ⟨k2,q2,_,_⟩:=DataW.trod_int Tryz.underlying3 t2;obtain ⟨k3,q3,_,_⟩:=DataW.trod_int Tryz.underlying3 t3;obtain ⟨k4,q4,_,_⟩:=DataW.trod_int Tryz.underlying3 t4
   simp [hcs1] at q0
   simp [hci] at q2 q3 q4
   subst q0 q2 q3 q4;have t1':DataW.trod enc Tryz.prog W 0 (fun _=>true) true n 48 [e1]=some y1:=by simpa [hcn] using t1
   have t5':DataW.trod enc Tryz.prog W 0 (fun _=>true) true n 49 [e5]=some y5:=by simpa [hcm] using t5
   obtain ⟨bs,b1,b2⟩:=strsG_of_trod t1';obtain ⟨ms,m1,m2,m3⟩:=mtsG_of_trod t5';exact ⟨⟨s0,bs,k2,k3,k4,ms,e1,e5⟩,rfl,⟨b1,m1⟩,⟨z0,b2,m3,m2⟩⟩) h
 exact ⟨l,⟨h3,fun r hr=>(h4 r hr).1⟩,Nat.le_trans h1 h2,fun r hr=>(h4 r hr).2⟩
set_option maxRecDepth 100000 in
theorem ihs_of_trod {H:Type} {enc:TypeId × Value→H} {W:World} {n:Nat} {v:Value} {x:DataW H × List MemPlace} (h:DataW.trod enc Tryz.prog W 0 (fun _=>true) true n 24 [v]=some x):∃ l,IhsAt W v l∧l.length≤maxLen∧∀ r∈l,IhFit r:=by
 have hcl:Tryz.prog.cellsOf 36=2:=by kernel_rfl
 have hcm:Tryz.prog.cellsOf 49=1:=by kernel_rfl
 have hcn:Tryz.prog.cellsOf 48=1:=by kernel_rfl
 obtain ⟨l,a,c,hv,h1,h2,h3,h4⟩:=rows_of_trod ihC 5 (fun _=>rfl) (by decide) Tryz.underlying24 Tryz.underlying51 (by kernel_rfl) (fun r=>IhIn W r∧IhFit r) (fun es n hlen hfs=>by
  match es,hlen with
  | [e0,e1,e2,e3,e4],_ =>
   obtain ⟨y0,t0⟩:=hfs 0 _ rfl;obtain ⟨y1,t1⟩:=hfs 1 _ rfl;obtain ⟨y2,t2⟩:=hfs 2 _ rfl;obtain ⟨y3,t3⟩:=hfs 3 _ rfl;have t0':DataW.trod enc Tryz.prog W 0 (fun _=>true) true n 48 [e0]=some y0:=by simpa [hcn] using t0
   have t1':DataW.trod enc Tryz.prog W 0 (fun _=>true) true n 36 [e1,e2]=some y1:=by simpa [hcl] using t1
   have t2':DataW.trod enc Tryz.prog W 0 (fun _=>true) true n 49 [e3]=some y2:=by simpa [hcm] using t2
   have t3':DataW.trod enc Tryz.prog W 0 (fun _=>true) true n 49 [e4]=some y3:=by simpa [hcm] using t3
   obtain ⟨bs,b1,b2⟩:=strsG_of_trod t0';obtain ⟨l,c,r1,r2,hc⟩:=lab_of_trod t1';obtain ⟨fs,f1,f2,f3⟩:=mtsG_of_trod t2';obtain ⟨ms,m1,m2,m3⟩:=mtsG_of_trod t3';subst r1 r2;exact ⟨⟨bs,l,c,fs,ms,e0,e3,e4⟩,rfl,⟨b1,f1,m1⟩,⟨b2,hc,f3,m3,f2,m2⟩⟩) h
 exact ⟨l,⟨h3,fun r hr=>(h4 r hr).1⟩,Nat.le_trans h1 h2,fun r hr=>(h4 r hr).2⟩
def ArgPolD (w:World) (v:Value) (x:PV) (p:PD):Prop:=v=x.v∧PolAt w x p∧PolFitD p
theorem polD_of_trod {H:Type} {enc:TypeId × Value→H} {W:World} {n:Nat} {e0 e1 e2 e3 e4 e5:Value} {x:DataW H × List MemPlace} (h:DataW.trod enc Tryz.prog W 0 (fun _=>true) true n 26 [e0,e1,e2,e3,e4,e5]=some x):∃ x p,ArgPolD W (.agg #[e0,e1,e2,e3,e4,e5]) x p:=by
 have hcn:Tryz.prog.cellsOf 22=1:=by kernel_rfl
 have hcr:Tryz.prog.cellsOf 23=1:=by kernel_rfl
 have hci:Tryz.prog.cellsOf 24=1:=by kernel_rfl
 obtain ⟨ys,n',hn',hy,hlen,hyl,hf⟩:=DataW.trod_struct Tryz.underlying26 h;have t0:=hf 0 _ rfl;have t1:=hf 1 _ rfl;have t2:=hf 2 _ rfl;have t3:=hf 3 _ rfl;have t4:=hf 4 _ rfl;have t5:=hf 5 _ rfl
 match ys,hyl with
 | [y0,y1,y2,y3,y4,y5],_ =>
  have t0':DataW.trod enc Tryz.prog W 0 (fun _=>true) true n' 22 [e0]=some y0:=by simpa [hcn] using t0
  have t1':DataW.trod enc Tryz.prog W 0 (fun _=>true) true n' 22 [e1]=some y1:=by simpa [hcn] using t1
  have t2':DataW.trod enc Tryz.prog W 0 (fun _=>true) true n' 22 [e2]=some y2:=by simpa [hcn] using t2
  have t3':DataW.trod enc Tryz.prog W 0 (fun _=>true) true n' 22 [e3]=some y3:=by simpa [hcn] using t3
  have t4':DataW.trod enc Tryz.prog W 0 (fun _=>true) true n' 23 [e4]=some y4:=by simpa [hcr] using t4
  have t5':DataW.trod enc Tryz.prog W 0 (fun _=>true) true n' 24 [e5]=some y5:=by simpa [hci] using t5
  obtain ⟨l0,a0,b0⟩:=nmdsG_of_trod t0';obtain ⟨l1,a1,b1⟩:=nmdsG_of_trod t1';obtain ⟨l2,a2,b2⟩:=nmdsG_of_trod t2';obtain ⟨l3,a3,b3⟩:=nmdsG_of_trod t3';obtain ⟨l4,a4,b4,c4⟩:=rts_of_trod t4';obtain ⟨l5,a5,b5,c5⟩:=ihs_of_trod t5';exact ⟨⟨e0,e1,e2,e3,e4,e5⟩,⟨l0,l1,l2,l3,l4,l5⟩,rfl,⟨a0,a1,a2,a3,a4,a5⟩,⟨b0,b1,b2,b3,b4,c4,b5,c5⟩⟩
end Go.Proofs.YtipnhpfpppblhaaGreat
namespace Go.Proofs.YtipnhpfpppblhaaGreat
open Go.RowKit Go.WideShapes Go.ChangeShapes Go.Deep
def PD.cut (p:PD):PD:=⟨p.so.take 14,p.re.take 14,p.pe.take 14,p.ra.take 14,p.ro.take 14,p.ih.take 14⟩
theorem nmdG_take {w:World} {a:Option Addr} {c:Nat} {l:List Nmd} (h:NmdsAt w (.slice a l.length c) l):NmdsAt w (.slice a (l.take 14).length c) (l.take 14):=by
 unfold NmdsAt at *;rw [nmdCells_eq] at *
 have:=rdG_take (f:=nmdC) (fun _=>rfl) h 14
 rwa [show min l.length 14=(l.take 14).length by rw [List.length_take,Nat.min_comm]] at this
theorem wide_take {l:List Nmd} (h:NmdWide l):NmdWide (l.take 14):=⟨by rw [List.length_take];have:=h.1;omega,fun x hx=>h.2.1 x (List.mem_of_mem_take hx),fun x hx=>h.2.2 x (List.mem_of_mem_take hx)⟩
theorem cutD_fit {p:PD} (h:PolFitD p):PolFitD p.cut :=
 ⟨wide_take h.h0,wide_take h.h1,wide_take h.h2,wide_take h.h3,(by show (p.ro.take 14).length≤_;rw [List.length_take];have:=h.l4;omega),fun r hr=>h.h4 r (List.mem_of_mem_take hr),(by show (p.ih.take 14).length≤_;rw [List.length_take];have:=h.l5;omega),fun r hr=>h.h5 r (List.mem_of_mem_take hr)⟩
structure PA where
 a0:Option Addr
 c0:Nat
 a1:Option Addr
 c1:Nat
 a2:Option Addr
 c2:Nat
 a3:Option Addr
 c3:Nat
 a4:Option Addr
 c4:Nat
 a5:Option Addr
 c5:Nat
abbrev PA.pv (x:PA) (p:PD):PV:=⟨.slice x.a0 p.so.length x.c0,.slice x.a1 p.re.length x.c1,.slice x.a2 p.pe.length x.c2,.slice x.a3 p.ra.length x.c3,.slice x.a4 p.ro.length x.c4,.slice x.a5 p.ih.length x.c5⟩
theorem pol_shape {w:World} {v:PV} {p:PD} (h:PolAt w v p):∃ x:PA,v=x.pv p∧p.so.length≤x.c0∧p.re.length≤x.c1∧p.pe.length≤x.c2∧p.ra.length≤x.c3∧p.ro.length≤x.c4∧p.ih.length≤x.c5:=by
 obtain ⟨v0,v1,v2,v3,v4,v5⟩:=v;obtain ⟨a0,c0,e0,l0,_⟩:=RdAt.shape h.h0;obtain ⟨a1,c1,e1,l1,_⟩:=RdAt.shape h.h1;obtain ⟨a2,c2,e2,l2,_⟩:=RdAt.shape h.h2;obtain ⟨a3,c3,e3,l3,_⟩:=RdAt.shape h.h3;obtain ⟨a4,c4,e4,l4,_⟩:=RdAt.shape h.h4.1;obtain ⟨a5,c5,e5,l5,_⟩:=RdAt.shape h.h5.1;dsimp only at e0 e1 e2 e3 e4 e5;subst e0 e1 e2 e3 e4 e5;exact ⟨⟨a0,c0,a1,c1,a2,c2,a3,c3,a4,c4,a5,c5⟩,rfl,l0,l1,l2,l3,l4,l5⟩
theorem pol_cut {w:World} {x:PA} {p:PD} (h:PolAt w (x.pv p) p):PolAt w (x.pv p.cut) p.cut:=by
 refine ⟨nmdG_take h.h0,nmdG_take h.h1,nmdG_take h.h2,nmdG_take h.h3,⟨?_,fun r hr=>h.h4.2 r (List.mem_of_mem_take hr)⟩,⟨?_,fun r hr=>h.h5.2 r (List.mem_of_mem_take hr)⟩⟩
 ·have:=rdG_take (f:=rtC) rtC_len h.h4.1 14
  rwa [show min p.ro.length 14=(p.ro.take 14).length by rw [List.length_take,Nat.min_comm]] at this
 ·have:=rdG_take (f:=ihC) ihC_len h.h5.1 14
  rwa [show min p.ih.length 14=(p.ih.take 14).length by rw [List.length_take,Nat.min_comm]] at this
def PCap (x:PV):Prop:=(∃ a n c,x.v0=.slice a n c∧c≤maxLen)∧(∃ a n c,x.v1=.slice a n c∧c≤maxLen)∧(∃ a n c,x.v2=.slice a n c∧c≤maxLen)∧(∃ a n c,x.v3=.slice a n c∧c≤maxLen)∧(∃ a n c,x.v4=.slice a n c∧c≤maxLen)∧(∃ a n c,x.v5=.slice a n c∧c≤maxLen)
section
variable {H:Type} {enc:TypeId × Value→H} {P:Program} {w:World} {base:Nat} {spare:Nat→Bool} {held:Bool}
theorem slice_of_trodC {t e:TypeId} {fuel:Nat} {v:Value} {x:DataW H × List MemPlace} (ht:P.underlying t=some (.slice e)) (h:DataW.trod enc P w base spare held fuel t [v]=some x) :
  ∃ a n c,v=.slice a n c∧c≤maxLen:=by
 rcases open_slice ht h with ⟨h0,_⟩ | ⟨a,len,cap,m,n,D,Pl,hcs,hb,hl,hm,hmm,hx,hi⟩
 ·cases h0;exact ⟨none,0,0,rfl,Nat.zero_le _⟩
 ·cases hcs;exact ⟨some a,len,cap,rfl,hm⟩
end
def ArgPolC (w:World) (v:Value) (x:PV) (p:PD):Prop:=ArgPolD w v x p∧PCap x
set_option maxRecDepth 100000 in
theorem polC_of_arg {H:Type} {enc:TypeId × Value→H} {W:World} {base:Nat} {v:Value} {d:DataW H} {p:List MemPlace} (hval:Value.okWide Tryz.prog W .any base 26 v) (h:DataW.Trod enc Tryz.prog W 0 (fun _=>true) true 26 v d p):∃ x y,ArgPolC W v x y:=by
 have hcn:Tryz.prog.cellsOf 22=1:=by kernel_rfl
 have hcr:Tryz.prog.cellsOf 23=1:=by kernel_rfl
 have hci:Tryz.prog.cellsOf 24=1:=by kernel_rfl
 obtain ⟨cs,rfl,hsz,_⟩:∃ cs,v=.agg cs∧cs.size=Tryz.prog.cellsOf 26∧Row.okWide Tryz.prog W .any base 26 cs:=by
  simpa [Value.okWide,Tryz.underlying26] using hval
 rw [show Tryz.prog.cellsOf 26=6 by kernel_rfl] at hsz;obtain ⟨fuel,hf⟩:=h;obtain ⟨l⟩:=cs
 match l,hsz with
 | [e0,e1,e2,e3,e4,e5],_ =>
  obtain ⟨x,y,hxy⟩:=polD_of_trod hf;obtain ⟨ys,n',hn',hy,hlen,hyl,hg⟩:=DataW.trod_struct Tryz.underlying26 hf;have t0:=hg 0 _ rfl;have t1:=hg 1 _ rfl;have t2:=hg 2 _ rfl;have t3:=hg 3 _ rfl;have t4:=hg 4 _ rfl;have t5:=hg 5 _ rfl
  match ys,hyl with
  | [y0,y1,y2,y3,y4,y5],_ =>
   have s0:=slice_of_trodC Tryz.underlying22 (show DataW.trod enc Tryz.prog W 0 (fun _=>true) true n' 22 [e0]=some y0 by simpa [hcn,Value.cells] using t0);have s1:=slice_of_trodC Tryz.underlying22 (show DataW.trod enc Tryz.prog W 0 (fun _=>true) true n' 22 [e1]=some y1 by simpa [hcn,Value.cells] using t1);have s2:=slice_of_trodC Tryz.underlying22 (show DataW.trod enc Tryz.prog W 0 (fun _=>true) true n' 22 [e2]=some y2 by simpa [hcn,Value.cells] using t2);have s3:=slice_of_trodC Tryz.underlying22 (show DataW.trod enc Tryz.prog W 0 (fun _=>true) true n' 22 [e3]=some y3 by simpa [hcn,Value.cells] using t3);have s4:=slice_of_trodC Tryz.underlying23 (show DataW.trod enc Tryz.prog W 0 (fun _=>true) true n' 23 [e4]=some y4 by simpa [hcr,Value.cells] using t4);have s5:=slice_of_trodC Tryz.underlying24 (show DataW.trod enc Tryz.prog W 0 (fun _=>true) true n' 24 [e5]=some y5 by simpa [hci,Value.cells] using t5);refine ⟨x,y,hxy,?_⟩;have he:=hxy.1;obtain ⟨v0,v1,v2,v3,v4,v5⟩:=x;simp only [PV.v,Value.agg.injEq,Array.mk.injEq,List.cons.injEq,and_true] at he;obtain ⟨rfl,rfl,rfl,rfl,rfl,rfl⟩:=he;exact ⟨s0,s1,s2,s3,s4,s5⟩
theorem rcutD_any (x:PA) (p:PD) (w:World) (h:PolAt w (x.pv p) p) (hc:PCap (x.pv p)) :
  Calls Tryz.prog 10 #[(x.pv p).v,.int .i64 14] w fun e w'=>e=.returned (x.pv p.cut).v∧Below w.heap.size w w':=by
 have cap:∀ {a:Option Addr} {n c:Nat},(∃ a' n' c',Value.slice a n c=.slice a' n' c'∧c'≤maxLen)→c≤maxLen:=by
  rintro a n c ⟨a',n',c',h1,h2⟩;simp only [Value.slice.injEq] at h1;rw [h1.2.2];exact h2
 have le:∀ {v:Value} {a:Option Addr} {n c k:Nat} {xs:List Value},v=.slice a n c→RdAt w v n k xs→n≤c:=by
  rintro v a n c k xs rfl h1;obtain ⟨a',c',h2,h3,_⟩:=RdAt.shape h1;simp only [Value.slice.injEq] at h2;rw [h2.2.2];exact h3
 obtain ⟨q0,q1,q2,q3,q4,q5⟩:=hc;have hh:=rcut_any x.a0 x.a1 x.a2 x.a3 x.a4 x.a5 p.so.length p.re.length p.pe.length p.ra.length p.ro.length p.ih.length x.c0 x.c1 x.c2 x.c3 x.c4 x.c5 w ⟨le rfl h.h0,cap q0⟩ ⟨le rfl h.h1,cap q1⟩ ⟨le rfl h.h2,cap q2⟩ ⟨le rfl h.h3,cap q3⟩ ⟨le rfl h.h4.1,cap q4⟩ ⟨le rfl h.h5.1,cap q5⟩;refine hh.mono ?_;rintro e w' ⟨rfl,hb⟩;refine ⟨?_,hb⟩;unfold PD.cut;dsimp only [PA.pv,PV.v];simp only [List.length_take];rw [Nat.min_comm p.so.length,Nat.min_comm p.re.length,Nat.min_comm p.pe.length,Nat.min_comm p.ra.length,Nat.min_comm p.ro.length,Nat.min_comm p.ih.length]
end Go.Proofs.YtipnhpfpppblhaaGreat
namespace Go.Proofs.YtipnhpfpppblhaaGreat
open Go.RowKit Go.Maps
def idxTo {α:Type} (f:α→Bool) (l:List α) (k:Nat):List Int:=((List.range k).filter fun i=>(l[i]?.map f).getD false).map fun (i:Nat)=>(i:Int)
def idxF {α:Type} (f:α→Bool) (l:List α):List Int:=idxTo f l l.length
theorem idxTo_step {α:Type} (f:α→Bool) (l:List α) {k:Nat} (h:k < l.length):idxTo f l (k+1)=idxTo f l k ++ (if f l[k] then [(k:Int)] else []):=by
 unfold idxTo;rw [List.range_succ,List.filter_append,List.map_append]
 congr 1
 rw [List.filter_cons,List.getElem?_eq_getElem h]
 cases hf:f l[k] <;> simp [hf]
theorem idxTo_len {α:Type} (f:α→Bool) (l:List α) (k:Nat):(idxTo f l k).length≤k:=by
 unfold idxTo;rw [List.length_map];exact Nat.le_trans (List.length_filter_le _ _) (by simp)
noncomputable def ruleQ (ra:List Nmd) (l:List (Al × Value)) (a:Al) (t:Int × Nat) (now:Int) (x:PIh):Bool:=flowsL x.lv x.c t.1 t.2&&byM x l (idA a) (cutAl ra a t).fl now
noncomputable def quietX (p:PD) (l:List (Al × Value)) (a:Al) (t:Int × Nat) (now:Int):List Int:=if rightA a&&decide (checkP p=0)&&cutOk p.ra a.fl (a.lv,a.c) t then idxF (ruleQ p.ra l a t now) p.ih else []
noncomputable def quietK (p:PD) (l:List (Al × Value)) (k:Int) (t:Int × Nat) (now:Int):List Int:=if 0≤k then (match l[k.toNat]? with | some a=>quietX p l a.1 t now | none=>[]) else []
theorem quietK_neg {p:PD} {l:List (Al × Value)} {k:Int} {t:Int × Nat} {now:Int} (h:k < 0):quietK p l k t now=[]:=by unfold quietK;rw [if_neg (by omega)]
theorem quietK_far {p:PD} {l:List (Al × Value)} {k:Int} {t:Int × Nat} {now:Int} (h:(l.length:Int)≤k):quietK p l k t now=[]:=by unfold quietK;rw [if_pos (by omega),List.getElem?_eq_none (by omega)]
theorem quietK_at {p:PD} {l:List (Al × Value)} {j:Nat} {t:Int × Nat} {now:Int} (h:j < l.length):quietK p l (j:Int) t now=quietX p l l[j].1 t now:=by unfold quietK;rw [if_pos (by omega),Int.toNat_natCast,List.getElem?_eq_getElem h]
theorem check_zero {p:PD} (h:checkP p=0):p.ih.length≤12∧∀ x∈p.ih,badIh x=false:=by
 unfold checkP at h
 split at h
 ·cases h
 ·rename_i hl
  split at h
  ·cases h
  ·split at h
   ·cases h
   ·split at h
    ·cases h
    ·rename_i hi
     refine ⟨(longs_no (by simpa using hl)).2,fun x hx=>?_⟩;rw [Bool.not_eq_true,List.any_eq_false] at hi
     simpa using hi x hx
structure QPt (w:World) (v0 v1 v2 v3 v4 v5:Value) (tl:Int) (tc:Nat) (W:World):Prop where
 p:C6 w.heap.size v0 v1 v2 v3 v4 v5 W
 t0:W.cell? ⟨w.heap.size+1,0,none⟩=some (.int .i64 tl)
 t1:W.cell? ⟨w.heap.size+1,1,none⟩=some (.int .u32 tc)
 ge:w.heap.size+1 < W.heap.size
 below:Below w.heap.size w W
theorem QPt.later {w W W':World} {v0 v1 v2 v3 v4 v5:Value} {tl:Int} {tc:Nat} (h:QPt w v0 v1 v2 v3 v4 v5 tl tc W) (hb:Below W.heap.size W W'):QPt w v0 v1 v2 v3 v4 v5 tl tc W':=by
 have h1:=h.ge;exact ⟨h.p.later hb (by omega),kCq h.t0 hb h1,kCq h.t1 hb h1,Nat.lt_of_lt_of_le h1 hb.size,h.below.trans (hb.mono h.below.size)⟩
theorem qpt_new (w:World) (v0 v1 v2 v3 v4 v5:Value) (tl:Int) (tc:Nat) (s t:TypeId):QPt w v0 v1 v2 v3 v4 v5 tl tc ((w.alloc (.cells #[v0,v1,v2,v3,v4,v5] s)).alloc (.cells #[.int .i64 tl,.int .u32 tc] t)):=by
 obtain ⟨W1,h1⟩:∃ z,w.alloc (.cells #[v0,v1,v2,v3,v4,v5] s)=z:=⟨_,rfl⟩;obtain ⟨W2,h2⟩:∃ z,W1.alloc (.cells #[.int .i64 tl,.int .u32 tc] t)=z:=⟨_,rfl⟩;rw [h1,h2];have s1:W1.heap.size=w.heap.size+1:=by rw [← h1,World.size_alloc]
 have b1:Below w.heap.size w W1:=by rw [← h1];exact aBq _ _
 have b2:Below W1.heap.size W1 W2:=by rw [← h2];exact aBq _ _
 have hc0:W2.cell? ⟨W1.heap.size,0,none⟩=some (.int .i64 tl):=by rw [← h2];exact World.cell?_alloc_at _ _ _ _ rfl
 have hc1:W2.cell? ⟨W1.heap.size,1,none⟩=some (.int .u32 tc):=by rw [← h2];exact World.cell?_alloc_at _ _ _ _ rfl
 have x6:C6 w.heap.size v0 v1 v2 v3 v4 v5 W1:=by rw [← h1];exact box6n w _ _ _ _ _ _ _
 refine ⟨x6.later b2 (by omega),by rw [← s1];exact hc0,by rw [← s1];exact hc1,by rw [← h2,World.size_alloc];omega,b1.trans (b2.mono (by omega))⟩
theorem cutAl_in {rs:List Nmd} {x m:Al} {t:Int × Nat} (h:cutAl rs x t=m):(∀ f∈m.fl,f∈x.fl)∧m.fl.length≤x.fl.length:=by
 rw [← h];unfold cutAl
 split
 ·exact ⟨fun f hf=>(List.mem_filter.1 hf).1,vis_le _ _ _ _⟩
 ·exact ⟨fun f hf=>(by cases hf),Nat.zero_le _⟩
theorem infoInt13:(Tryz.prog.info? 3).map (fun i=>(i.zero,i.size,i.bytes))=some (some (.int .i64 0),1,8):=by kernel_rfl
set_option maxHeartbeats 6400000 in
set_option maxRecDepth 100000 in
theorem iquiet_any (v:PV) (p:PD) (l:List (Al × Value)) (lv:Value) (k:Int) (tl:Int) (tc:Nat) (now:Int) (w:World) (hp:PolAt w v p) (hpf:PolFitD p) (hl:AlsAt w lv l) (hlen:l.length≤maxLen) :
  Calls Tryz.prog 13 #[v.v,lv,.int .i64 k,Lab tl tc,.int .i64 now] w fun e w'=>∃ r,e=.returned r∧w'.ownsRow w.heap.size 3 1 r (quietK p l k (tl,tc) now).length ((quietK p l k (tl,tc) now).map I)∧Below w.heap.size w w':=by
 have kk:=fun W (h:Below w.heap.size w W)=>pcheck_any v p W (hp.later h) hpf;have KBY:=Lib.hid (fun (x:PIh) (hx:x∈p.ih) (hok:badIh x=false) (id:Int) (c:Al) (fa:Option Addr) (fc:Nat) (W:World) (h:Below w.heap.size w W) (hc:FldsAt W (.slice fa c.fl.length fc) c.fl) (hcf:FldsFit c.fl) (hcl:c.fl.length≤8)=>by_any x l id c lv fa fc now W ((hp.h5.2 x hx).later h) (hpf.h5 x hx) hok (hl.later h) hlen hc hcf (by omega));have KCHK:=Lib.hid (check_zero (p:=p));obtain ⟨v0,v1,v2,v3,v4,v5⟩:=v;obtain ⟨h0,h1,h2,h3,⟨h4,_⟩,h5,h5b⟩:=hp;have KFI:=Lib.hid hpf.h5;dsimp only at h0 h1 h2 h3 h4 h5 kk;obtain ⟨a0,c0,rfl,_,_⟩:=RdAt.shape h0;obtain ⟨a1,c1,rfl,_,_⟩:=RdAt.shape h1;obtain ⟨a2,c2,rfl,_,_⟩:=RdAt.shape h2;obtain ⟨a3,c3,rfl,_,_⟩:=RdAt.shape h3;obtain ⟨a4,c4,rfl,_,_⟩:=RdAt.shape h4;obtain ⟨a5,c5,rfl,_,hir⟩:=RdAt.shape h5;have KIR:=Lib.hid hir;have KIN:=Lib.hid h5b;obtain ⟨i0,hi,hz0,hz1,hz2⟩:=info_parts infoInt13;clear hir h5b;obtain ⟨la,lc,rfl,hlc,hlr⟩:=RdAt.shape hl.row;have HLR:=Lib.hid hlr;have HFL:=Lib.hid hl.fld
 have KCUT:Hid (∀ (x m:Al) (ok:Bool) (fa:Option Addr) (fc:Nat) (W:World),Below w.heap.size w W→FldsAt W (.slice fa x.fl.length fc) x.fl→x.fl.length≤8→cutOk p.ra x.fl (x.lv,x.c) (tl,tc)=ok→cutAl p.ra x (tl,tc)=m →
   Calls Tryz.prog 20 #[.agg #[.slice a0 p.so.length c0,.slice a1 p.re.length c1,.slice a2 p.pe.length c2,.slice a3 p.ra.length c3,.slice a4 p.ro.length c4,.slice a5 p.ih.length c5],.agg #[.string x.src,.slice fa x.fl.length fc,.int .i64 x.lv,.int .u32 x.c,.int .i64 x.fr,.int .i64 x.til],Lab tl tc] W fun e w' =>
    ∃ pa pc,e=.returned (.tuple #[.agg #[.string m.src,.slice pa m.fl.length pc,.int .i64 m.lv,.int .u32 m.c,.int .i64 m.fr,.int .i64 m.til],.bool ok])∧FldsAt w' (.slice pa m.fl.length pc) m.fl∧(∀ q,(Value.slice pa m.fl.length pc).ownBlock=some q→W.heap.size≤q)∧Below W.heap.size W w') :=
  Lib.hid (fun x m ok fa fc W hW hF hx hok hm=>cut_l (a0,p.so.length,c0) (a1,p.re.length,c1) (a2,p.pe.length,c2) (a4,p.ro.length,c4) (a5,p.ih.length,c5) p.ra (.slice a3 p.ra.length c3) x (.slice fa x.fl.length fc) (tl,tc) m ok W (h3.later hW) hpf.h3.1 hF (by omega) hok hm)
 have KK:=Lib.hid kk;obtain ⟨W0,hW0⟩:∃ z,(w.alloc (.cells #[.slice a0 p.so.length c0,.slice a1 p.re.length c1,.slice a2 p.pe.length c2,.slice a3 p.ra.length c3,.slice a4 p.ro.length c4,.slice a5 p.ih.length c5] 26)).alloc (.cells #[.int .i64 tl,.int .u32 tc] 36)=z:=⟨_,rfl⟩;have HS0:Hid (QPt w (.slice a0 p.so.length c0) (.slice a1 p.re.length c1) (.slice a2 p.pe.length c2) (.slice a3 p.ra.length c3) (.slice a4 p.ro.length c4) (.slice a5 p.ih.length c5) tl tc W0):=Lib.hid (by rw [← hW0];exact qpt_new w _ _ _ _ _ _ _ _ _ _);have HW0:=Lib.hid hW0;unfold maxLen at hlen;clear kk h0 h1 h2 h3 h4 h5 hW0 hlr
 go_enter Tryz.func13,Tryz.ntmps13
 go_upto_region 1 with fail;rw [HW0.out];clear HW0
 by_cases hk0:k < 0
 ·have HQ:Hid (quietK p l k (tl,tc) now=[]):=Lib.hid (quietK_neg hk0)
  go_wp2;go_ret;exact ⟨_,rfl,by rw [HQ.out];exact World.ownsRow_nil _ _ _ _,HS0.out.below⟩
 by_cases hk1:(l.length:Int)≤k
 ·have HQ:Hid (quietK p l k (tl,tc) now=[]):=Lib.hid (quietK_far hk1)
  go_wp2;go_ret;exact ⟨_,rfl,by rw [HQ.out];exact World.ownsRow_nil _ _ _ _,HS0.out.below⟩
 obtain ⟨j,rfl⟩:∃ j:Nat,k=(j:Int):=⟨k.toNat,by omega⟩;have hj:j < l.length:=by omega
 have HQ:Hid (quietK p l (j:Int) (tl,tc) now=quietX p l l[j].1 (tl,tc) now):=Lib.hid (quietK_at hj);obtain ⟨hfk,hfit⟩:=HFL.out _ (List.getElem_mem hj);have hQX:quietX p l l[j].1 (tl,tc) now=if rightA l[j].1&&decide (checkP p=0)&&cutOk p.ra l[j].1.fl (l[j].1.lv,l[j].1.c) (tl,tc) then idxF (ruleQ p.ra l l[j].1 (tl,tc) now) p.ih else []:=rfl;rw [hQX] at HQ;clear hQX;obtain ⟨b,o,rfl,hbl,hcell⟩:=HLR.out (by omega);have hat:=alCells_at l j hj;have e0:=hcell _ _ (hat 0 _ rfl);have e1:=hcell _ _ (hat 1 _ rfl);have e2:=hcell _ _ (hat 2 _ rfl);have e3:=hcell _ _ (hat 3 _ rfl);have e4:=hcell _ _ (hat 4 _ rfl);have e5:=hcell _ _ (hat 5 _ rfl);rw [Nat.add_zero] at e0;rw [← Nat.add_assoc] at e1 e2 e3 e4 e5;have HX:Hid (l[j]=l[j]):=rfl;generalize l[j]=y at *;obtain ⟨⟨src,fl,alv,ac,fr,til⟩,fv⟩:=y;dsimp only at *;obtain ⟨fa,fc,rfl,hfc,_⟩:=RdAt.shape hfk;have HE:=Lib.hid (And.intro e0 (And.intro e1 (And.intro e2 (And.intro e3 (And.intro e4 e5)))));have HFK:=Lib.hid hfk;have HFIT:=Lib.hid hfit;have hk2:(0:Int)≤(j:Int):=by omega
 have hk3:(j:Int) < (l.length:Int):=by omega
 have KEEP:Hid (∀ {q:Nat} {u:Value} {V:World},w.cell? ⟨b,q,none⟩=some u→Below w.heap.size w V→V.cell? ⟨b,q,none⟩=some u):=Lib.hid (fun h hV=>kCq h hV hbl);obtain ⟨p0,p1,p2,p3,p4,p5⟩:=HE.out;have p0:=KEEP.out p0 HS0.out.below;have p1:=KEEP.out p1 HS0.out.below;have p2:=KEEP.out p2 HS0.out.below;have p3:=KEEP.out p3 HS0.out.below;have p4:=KEEP.out p4 HS0.out.below;have p5:=KEEP.out p5 HS0.out.below;have kr:=aright_any src fl alv ac fr til _ W0 hfit.src (hfk.later HS0.out.below) hfit.fl hfit.len;have hR:rightA ⟨src,fl,alv,ac,fr,til⟩=(whoA src fl alv&&beginsA fr&&endsA fr til):=rfl;rw [← hR] at kr;have HR8:Hid (rightA ⟨src,fl,alv,ac,fr,til⟩=true→fl.length≤8∧(idB src fl).length≤4000000):=Lib.hid (fun h=>⟨rightA_len h,idB_bound (rightA_who h)⟩);clear hR e0 e1 e2 e3 e4 e5 hcell hat hfk hfit HX
 cases hra:rightA ⟨src,fl,alv,ac,fr,til⟩
 ·rw [hra] at kr HQ
  have HN:Hid (quietK p l (j:Int) (tl,tc) now=[]):=Lib.hid (by rw [HQ.out];rfl);clear hra HR8;go_wp2_with fail
  refine kr.mono ?_;rintro e w1 ⟨rfl,hb1⟩;have HB:=Lib.hid (HS0.out.below.trans (hb1.mono HS0.out.below.size));clear kr hb1 p0 p1 p2 p3 p4 p5;go_wp2;go_ret;exact ⟨_,rfl,by rw [HN.out];exact World.ownsRow_nil _ _ _ _,HB.out⟩
 rw [hra] at kr HQ;obtain ⟨hr8,hid8⟩:=HR8.out hra;have HID8:=Lib.hid hid8;clear HR8 hid8;go_wp2_with fail
 refine kr.mono ?_;rintro e w1 ⟨rfl,hb1⟩;have HS1:=Lib.hid (HS0.out.later hb1);clear kr hb1 p0 p1 p2 p3 p4 p5 HS0;obtain ⟨q0,q1,q2,q3,q4,q5⟩:=HS1.out.p;have kk:=KK.out w1 HS1.out.below
 cases hck:decide (checkP p=0)
 ·have hne:checkP p≠0:=of_decide_eq_false hck
  rw [hck] at HQ;have HN:Hid (quietK p l (j:Int) (tl,tc) now=[]):=Lib.hid (by rw [HQ.out];rfl);generalize checkP p=ck at *;go_wp2_with fail
  refine kk.mono ?_;rintro e w2 ⟨rfl,hb2⟩;have HB:=Lib.hid (HS1.out.below.trans (hb2.mono HS1.out.below.size));clear kk hb2 q0 q1 q2 q3 q4 q5;go_wp2;go_ret;exact ⟨_,rfl,by rw [HN.out];exact World.ownsRow_nil _ _ _ _,HB.out⟩
 have hck0:checkP p=0:=of_decide_eq_true hck;rw [hck] at HQ;rw [hck0] at kk;have HCK:=Lib.hid (KCHK.out hck0);clear hck hck0 KCHK;go_wp2_with fail
 refine kk.mono ?_;rintro e w2 ⟨rfl,hb2⟩;have HS2:=Lib.hid (HS1.out.later hb2);clear kk hb2 q0 q1 q2 q3 q4 q5 HS1 KK;go_upto_region 3 with fail;obtain ⟨m,hm⟩:∃ m,cutAl p.ra ⟨src,fl,alv,ac,fr,til⟩ (tl,tc)=m:=⟨_,rfl⟩;obtain ⟨ok,hok⟩:∃ z,cutOk p.ra fl (alv,ac) (tl,tc)=z:=⟨_,rfl⟩;have hru:∀ x,ruleQ p.ra l ⟨src,fl,alv,ac,fr,til⟩ (tl,tc) now x=(flowsL x.lv x.c tl tc&&byM x l (shortL (idB src fl)) (cutAl p.ra ⟨src,fl,alv,ac,fr,til⟩ (tl,tc)).fl now):=fun x=>rfl;rw [hm] at hru;have HIN:=Lib.hid (cutAl_in hm);have CM0:=Lib.hid (fun W (h:Below w.heap.size w W)=>KCUT.out ⟨src,fl,alv,ac,fr,til⟩ m ok fa fc W h (HFK.out.later h) hr8 hok hm);rw [hok] at HQ;obtain ⟨us,uL,ql,qc,uf,ut⟩:=m;dsimp only at CM0 HIN hru;have HRU:=Lib.hid hru;generalize ruleQ p.ra l ⟨src,fl,alv,ac,fr,til⟩ (tl,tc) now=F at *;have CM:=Lib.hid (fun W (h:Below w2.heap.size w2 W)=>CM0.out W (HS2.out.below.trans (h.mono HS2.out.below.size)));have hlq:w.heap.size < w2.heap.size:=by have:=HS2.out.ge;omega
 have hlt:w.heap.size+1 < w2.heap.size:=HS2.out.ge;have hlb:b < w2.heap.size:=by omega
 obtain ⟨p0,p1,p2,p3,p4,p5⟩:=HE.out;have p0:=KEEP.out p0 HS2.out.below;have p1:=KEEP.out p1 HS2.out.below;have p2:=KEEP.out p2 HS2.out.below;have p3:=KEEP.out p3 HS2.out.below;have p4:=KEEP.out p4 HS2.out.below;have p5:=KEEP.out p5 HS2.out.below;obtain ⟨q0,q1,q2,q3,q4,q5⟩:=HS2.out.p;have t0:=HS2.out.t0;have t1:=HS2.out.t1;clear hru hm hok KCUT CM0
 go_cut [11,12] (fun s11 s12 wx=>∃ gu ua ud,s11=.pointer (some ⟨gu,0,none⟩)∧s12=.bool ok∧C6 gu (.string us) (.slice ua uL.length ud) (.int .i64 ql) (.int .u32 qc) (.int .i64 uf) (.int .i64 ut) wx∧FldsAt wx (.slice ua uL.length ud) uL∧gu < wx.heap.size∧Below w2.heap.size w2 wx)
 case first =>
  refine wp_region_held_drew (S:=(fun W=>W.cell? ⟨w.heap.size,0,none⟩=some (.slice a0 p.so.length c0)∧W.cell? ⟨w.heap.size,1,none⟩=some (.slice a1 p.re.length c1)∧W.cell? ⟨w.heap.size,2,none⟩=some (.slice a2 p.pe.length c2)∧W.cell? ⟨w.heap.size,3,none⟩=some (.slice a3 p.ra.length c3)∧W.cell? ⟨w.heap.size,4,none⟩=some (.slice a4 p.ro.length c4)∧W.cell? ⟨w.heap.size,5,none⟩=some (.slice a5 p.ih.length c5)∧W.cell? ⟨b,o+j * 6,none⟩=some (.string src)∧W.cell? ⟨b,o+j * 6+1,none⟩=some (.slice fa fl.length fc)∧W.cell? ⟨b,o+j * 6+2,none⟩=some (.int .i64 alv)∧W.cell? ⟨b,o+j * 6+3,none⟩=some (.int .u32 ac)∧W.cell? ⟨b,o+j * 6+4,none⟩=some (.int .i64 fr)∧W.cell? ⟨b,o+j * 6+5,none⟩=some (.int .i64 til)∧W.cell? ⟨w.heap.size+1,0,none⟩=some (.int .i64 tl)∧W.cell? ⟨w.heap.size+1,1,none⟩=some (.int .u32 tc))) (by kernel_rfl) ⟨q0,q1,q2,q3,q4,q5,p0,p1,p2,p3,p4,p5,t0,t1⟩ (fun hHeld=>?_);have hd:Below w2.heap.size w2 w2.drew:=(Below.refl _ _).drew;generalize w2.drew=wd at *;refine plIn [0,1,2,3,4,5] ?_
  iterate 6
   refine hP (v:=?_) rfl rfl hHeld ?_ ?_;rotate_left
   ·intro wh hz;iterate 13 obtain ⟨_,hz⟩:=hz
    go_simp
    (try with_reducible rfl)
   simp only [Act.put,aS1,aS2,aS3]
  refine plOut ?_;refine held_two (i:=6) (j:=10) rfl rfl (by kernel_rfl) (fun K hK=>?_) (fun K hK=>?_)
  ·go_simp;go_at_call 20;refine (CM.out _ hd).mono ?_;rintro e w_1 ⟨ua,ud,rfl,hF_1,hO_1,hb_1⟩
   have hB_1:=hd.trans (hb_1.mono hd.size);refine hK.out _ _ ⟨kCq q0 hB_1 hlq,kCq q1 hB_1 hlq,kCq q2 hB_1 hlq,kCq q3 hB_1 hlq,kCq q4 hB_1 hlq,kCq q5 hB_1 hlq,kCq p0 hB_1 hlb,kCq p1 hB_1 hlb,kCq p2 hB_1 hlb,kCq p3 hB_1 hlb,kCq p4 hB_1 hlb,kCq p5 hB_1 hlb,kCq t0 hB_1 hlt,kCq t1 hB_1 hlt⟩ (fun hHeld=>?_);clear hK K
   (try simp only [Act.put,aS1,aS2,aS3])
   refine plIn [7,8,9] ?_
   iterate 3
    refine hP (v:=?_) rfl rfl hHeld ?_ ?_;rotate_left
    ·intro wh hz;iterate 13 obtain ⟨_,hz⟩:=hz
     go_simp
     (try with_reducible rfl)
    simp only [Act.put,aS1,aS2,aS3]
   refine plOut ?_;refine held_step (i:=10) rfl (by kernel_rfl) (fun K hK=>?_);have hb_2:=aBq w_1 (.cells #[.string ⟨#[]⟩,.slice none 0 0,.int .i64 0,.int .u32 0,.int .i64 0,.int .i64 0] 54);have hT_2:=box_there (Below.refl (w_1.alloc (.cells #[.string ⟨#[]⟩,.slice none 0 0,.int .i64 0,.int .u32 0,.int .i64 0,.int .i64 0] 54)).heap.size (w_1.alloc (.cells #[.string ⟨#[]⟩,.slice none 0 0,.int .i64 0,.int .u32 0,.int .i64 0,.int .i64 0] 54)));have hL_2:w_1.heap.size < (w_1.alloc (.cells #[.string ⟨#[]⟩,.slice none 0 0,.int .i64 0,.int .u32 0,.int .i64 0,.int .i64 0] 54)).heap.size:=by rw [World.size_alloc];omega
   have hG_2:=hB_1.size;have hB_2:=hB_1.trans (hb_2.mono hB_1.size);have hP_2:=hF_1.later (below_puts (g:=w_1.heap.size) (o:=0) hb_2 (Nat.le_refl _) [.string us,.slice ua uL.length ud,.int .i64 ql,.int .u32 qc,.int .i64 uf,.int .i64 ut]);go_simp;refine hK.out _ _ ⟨kCq q0 hB_2 hlq,kCq q1 hB_2 hlq,kCq q2 hB_2 hlq,kCq q3 hB_2 hlq,kCq q4 hB_2 hlq,kCq q5 hB_2 hlq,kCq p0 hB_2 hlb,kCq p1 hB_2 hlb,kCq p2 hB_2 hlb,kCq p3 hB_2 hlb,kCq p4 hB_2 hlb,kCq p5 hB_2 hlb,kCq t0 hB_2 hlt,kCq t1 hB_2 hlt⟩ (fun hHeld=>?_);clear hK K
   (try simp only [Act.put,aS1,aS2,aS3])
   generalize w_1.alloc (.cells #[.string ⟨#[]⟩,.slice none 0 0,.int .i64 0,.int .u32 0,.int .i64 0,.int .i64 0] 54)=w_2 at *;have r0:=tFq hT_2 0 (by decide);have r1:=tFq hT_2 1 (by decide);have r2:=tFq hT_2 2 (by decide);have r3:=tFq hT_2 3 (by decide);have r4:=tFq hT_2 4 (by decide);have r5:=tFq hT_2 5 (by decide);obtain ⟨y0,hy0⟩:=there_cell hT_2 0 (by decide);obtain ⟨y1,hy1⟩:=there_cell hT_2 1 (by decide);obtain ⟨y2,hy2⟩:=there_cell hT_2 2 (by decide);obtain ⟨y3,hy3⟩:=there_cell hT_2 3 (by decide);obtain ⟨y4,hy4⟩:=there_cell hT_2 4 (by decide);obtain ⟨y5,hy5⟩:=there_cell hT_2 5 (by decide);have HB_3:Hid (Below w2.heap.size w2 (w_2.setCells w_1.heap.size 0 [.string us,.slice ua uL.length ud,.int .i64 ql,.int .u32 qc,.int .i64 uf,.int .i64 ut])):=Lib.hid (below_puts (g:=w_1.heap.size) (o:=0) hB_2 hG_2 [.string us,.slice ua uL.length ud,.int .i64 ql,.int .u32 qc,.int .i64 uf,.int .i64 ut]);have HZ_3:=Lib.hid (below_puts_base (g:=w_1.heap.size) (o:=0) (Below.refl 0 w_2) (Nat.zero_le _) [.string us,.slice ua uL.length ud,.int .i64 ql,.int .u32 qc,.int .i64 uf,.int .i64 ut]).size;have HC_3:=Lib.hid (c6_puts w_2 w_1.heap.size (.string us) (.slice ua uL.length ud) (.int .i64 ql) (.int .u32 qc) (.int .i64 uf) (.int .i64 ut) hT_2);have HF_3:Hid (FldsAt (w_2.setCells w_1.heap.size 0 [.string us,.slice ua uL.length ud,.int .i64 ql,.int .u32 qc,.int .i64 uf,.int .i64 ut]) (.slice ua uL.length ud) uL):=Lib.hid hP_2;refine held_step (i:=11) rfl (by kernel_rfl) (fun K hK=>?_);go_simp;refine hK.out _ (w_2.setCells w_1.heap.size 0 [.string us,.slice ua uL.length ud,.int .i64 ql,.int .u32 qc,.int .i64 uf,.int .i64 ut]) ⟨kCq q0 HB_3.out hlq,kCq q1 HB_3.out hlq,kCq q2 HB_3.out hlq,kCq q3 HB_3.out hlq,kCq q4 HB_3.out hlq,kCq q5 HB_3.out hlq,kCq p0 HB_3.out hlb,kCq p1 HB_3.out hlb,kCq p2 HB_3.out hlb,kCq p3 HB_3.out hlb,kCq p4 HB_3.out hlb,kCq p5 HB_3.out hlb,kCq t0 HB_3.out hlt,kCq t1 HB_3.out hlt⟩ (fun hHeld=>?_);clear hK K
   (try simp only [Act.put,aS1,aS2,aS3])
   generalize (w_2.setCells w_1.heap.size 0 [.string us,.slice ua uL.length ud,.int .i64 ql,.int .u32 qc,.int .i64 uf,.int .i64 ut])=w_3 at *;refine hT (i:=12) (v:=?_) rfl rfl hHeld ?_ ?_;rotate_left
   ·intro wh hz;iterate 13 obtain ⟨_,hz⟩:=hz
    go_simp
    (try with_reducible rfl)
   simp only [Act.put,aS1,aS2,aS3];refine wpAnyH_done (by kernel_rfl) ?_ _;go_wp2
   go_meet
   exact ⟨w_1.heap.size,ua,ud,rfl,rfl,HC_3.out,HF_3.out,Nat.lt_of_lt_of_le hL_2 HZ_3.out,HB_3.out⟩
  ·have hb_4:=aBq wd (.cells #[.string ⟨#[]⟩,.slice none 0 0,.int .i64 0,.int .u32 0,.int .i64 0,.int .i64 0] 54)
   have hT_4:=box_there (Below.refl (wd.alloc (.cells #[.string ⟨#[]⟩,.slice none 0 0,.int .i64 0,.int .u32 0,.int .i64 0,.int .i64 0] 54)).heap.size (wd.alloc (.cells #[.string ⟨#[]⟩,.slice none 0 0,.int .i64 0,.int .u32 0,.int .i64 0,.int .i64 0] 54)));have hL_4:wd.heap.size < (wd.alloc (.cells #[.string ⟨#[]⟩,.slice none 0 0,.int .i64 0,.int .u32 0,.int .i64 0,.int .i64 0] 54)).heap.size:=by rw [World.size_alloc];omega
   have hG_4:=hd.size;have hB_4:=hd.trans (hb_4.mono hd.size);go_simp;refine hK.out _ _ ⟨kCq q0 hB_4 hlq,kCq q1 hB_4 hlq,kCq q2 hB_4 hlq,kCq q3 hB_4 hlq,kCq q4 hB_4 hlq,kCq q5 hB_4 hlq,kCq p0 hB_4 hlb,kCq p1 hB_4 hlb,kCq p2 hB_4 hlb,kCq p3 hB_4 hlb,kCq p4 hB_4 hlb,kCq p5 hB_4 hlb,kCq t0 hB_4 hlt,kCq t1 hB_4 hlt⟩ (fun hHeld=>?_);clear hK K
   (try simp only [Act.put,aS1,aS2,aS3])
   generalize wd.alloc (.cells #[.string ⟨#[]⟩,.slice none 0 0,.int .i64 0,.int .u32 0,.int .i64 0,.int .i64 0] 54)=w_4 at *;refine held_step (i:=6) rfl (by kernel_rfl) (fun K hK=>?_);go_simp;go_at_call 20;refine (CM.out _ hB_4).mono ?_;rintro e w_5 ⟨ua,ud,rfl,hF_5,hO_5,hb_5⟩;have hB_5:=hB_4.trans (hb_5.mono hB_4.size);have hTA_5:=there_later hT_4 hb_5 hL_4;have hLA_5:=Nat.lt_of_lt_of_le hL_4 hb_5.size;have hFar_5:∀ q,(Value.slice ua uL.length ud).ownBlock=some q→q≠wd.heap.size:=fun q hq=>by have:=hO_5 q hq;have:=hL_4;omega
   refine hK.out _ _ ⟨kCq q0 hB_5 hlq,kCq q1 hB_5 hlq,kCq q2 hB_5 hlq,kCq q3 hB_5 hlq,kCq q4 hB_5 hlq,kCq q5 hB_5 hlq,kCq p0 hB_5 hlb,kCq p1 hB_5 hlb,kCq p2 hB_5 hlb,kCq p3 hB_5 hlb,kCq p4 hB_5 hlb,kCq p5 hB_5 hlb,kCq t0 hB_5 hlt,kCq t1 hB_5 hlt⟩ (fun hHeld=>?_);clear hK K
   (try simp only [Act.put,aS1,aS2,aS3])
   refine plIn [7,8,9] ?_
   iterate 3
    refine hP (v:=?_) rfl rfl hHeld ?_ ?_;rotate_left
    ·intro wh hz;iterate 13 obtain ⟨_,hz⟩:=hz
     go_simp
     (try with_reducible rfl)
    simp only [Act.put,aS1,aS2,aS3]
   refine plOut ?_;have r0:=tFq hTA_5 0 (by decide);have r1:=tFq hTA_5 1 (by decide);have r2:=tFq hTA_5 2 (by decide);have r3:=tFq hTA_5 3 (by decide);have r4:=tFq hTA_5 4 (by decide);have r5:=tFq hTA_5 5 (by decide);obtain ⟨y0,hy0⟩:=there_cell hTA_5 0 (by decide);obtain ⟨y1,hy1⟩:=there_cell hTA_5 1 (by decide);obtain ⟨y2,hy2⟩:=there_cell hTA_5 2 (by decide);obtain ⟨y3,hy3⟩:=there_cell hTA_5 3 (by decide);obtain ⟨y4,hy4⟩:=there_cell hTA_5 4 (by decide);obtain ⟨y5,hy5⟩:=there_cell hTA_5 5 (by decide);have HB_6:Hid (Below w2.heap.size w2 (w_5.setCells wd.heap.size 0 [.string us,.slice ua uL.length ud,.int .i64 ql,.int .u32 qc,.int .i64 uf,.int .i64 ut])):=Lib.hid (below_puts (g:=wd.heap.size) (o:=0) hB_5 hG_4 [.string us,.slice ua uL.length ud,.int .i64 ql,.int .u32 qc,.int .i64 uf,.int .i64 ut]);have HZ_6:=Lib.hid (below_puts_base (g:=wd.heap.size) (o:=0) (Below.refl 0 w_5) (Nat.zero_le _) [.string us,.slice ua uL.length ud,.int .i64 ql,.int .u32 qc,.int .i64 uf,.int .i64 ut]).size;have HC_6:=Lib.hid (c6_puts w_5 wd.heap.size (.string us) (.slice ua uL.length ud) (.int .i64 ql) (.int .u32 qc) (.int .i64 uf) (.int .i64 ut) hTA_5);have HF_6:Hid (FldsAt (w_5.setCells wd.heap.size 0 [.string us,.slice ua uL.length ud,.int .i64 ql,.int .u32 qc,.int .i64 uf,.int .i64 ut]) (.slice ua uL.length ud) uL):=Lib.hid (rd_puts hF_5 hFar_5 [.string us,.slice ua uL.length ud,.int .i64 ql,.int .u32 qc,.int .i64 uf,.int .i64 ut]);refine held_step (i:=11) rfl (by kernel_rfl) (fun K hK=>?_);go_simp;refine hK.out _ (w_5.setCells wd.heap.size 0 [.string us,.slice ua uL.length ud,.int .i64 ql,.int .u32 qc,.int .i64 uf,.int .i64 ut]) ⟨kCq q0 HB_6.out hlq,kCq q1 HB_6.out hlq,kCq q2 HB_6.out hlq,kCq q3 HB_6.out hlq,kCq q4 HB_6.out hlq,kCq q5 HB_6.out hlq,kCq p0 HB_6.out hlb,kCq p1 HB_6.out hlb,kCq p2 HB_6.out hlb,kCq p3 HB_6.out hlb,kCq p4 HB_6.out hlb,kCq p5 HB_6.out hlb,kCq t0 HB_6.out hlt,kCq t1 HB_6.out hlt⟩ (fun hHeld=>?_);clear hK K
   (try simp only [Act.put,aS1,aS2,aS3])
   generalize (w_5.setCells wd.heap.size 0 [.string us,.slice ua uL.length ud,.int .i64 ql,.int .u32 qc,.int .i64 uf,.int .i64 ut])=w_6 at *;refine hT (i:=12) (v:=?_) rfl rfl hHeld ?_ ?_;rotate_left
   ·intro wh hz;iterate 13 obtain ⟨_,hz⟩:=hz
    go_simp
    (try with_reducible rfl)
   simp only [Act.put,aS1,aS2,aS3];refine wpAnyH_done (by kernel_rfl) ?_ _;go_wp2
   go_meet
   exact ⟨wd.heap.size,ua,ud,rfl,rfl,HC_6.out,HF_6.out,Nat.lt_of_lt_of_le hLA_5 HZ_6.out,HB_6.out⟩
 case rest =>
  obtain ⟨gu,ua,ud,rfl,rfl,hX,hF,hlu,hbu⟩:=hcut;have HS3:=Lib.hid (HS2.out.later hbu);have HX:=Lib.hid hX;have HF:=Lib.hid hF;have HLU:=Lib.hid hlu;clear CM q0 q1 q2 q3 q4 q5 t0 t1 p0 p1 p2 p3 p4 p5 hX hF hlu hbu HS2 hlq hlt hlb
  cases ok
  ·have HN:Hid (quietK p l (j:Int) (tl,tc) now=[]):=Lib.hid (by rw [HQ.out];rfl)
   go_wp2;go_ret;exact ⟨_,rfl,by rw [HN.out];exact World.ownsRow_nil _ _ _ _,HS3.out.below⟩
  ·have HN:Hid (quietK p l (j:Int) (tl,tc) now=idxTo F p.ih p.ih.length):=Lib.hid (by rw [HQ.out];rfl)
   obtain ⟨p0,p1,p2,p3,p4,p5⟩:=HE.out;have p0:=KEEP.out p0 HS3.out.below;have p1:=KEEP.out p1 HS3.out.below;have p2:=KEEP.out p2 HS3.out.below;have p3:=KEEP.out p3 HS3.out.below;have p4:=KEEP.out p4 HS3.out.below;have p5:=KEEP.out p5 HS3.out.below;have kid:=id_any src fl alv ac fr til _ wc (HFK.out.later HS3.out.below) HID8.out;generalize shortL (idB src fl)=sid at *;go_wp2_with fail
   refine kid.mono ?_;rintro e w4 ⟨rfl,hb4⟩;have HS4:=Lib.hid (HS3.out.later hb4);have HX4:=Lib.hid (HX.out.later hb4 HLU.out);have HF4:=Lib.hid (HF.out.later hb4);have HLU4:=Lib.hid (Nat.lt_of_lt_of_le HLU.out hb4.size);clear kid hb4 p0 p1 p2 p3 p4 p5 HS3 HX HF HLU HQ;obtain ⟨q0,q1,q2,q3,q4,q5⟩:=HS4.out.p;go_wp2;clear q0 q1 q2 q3 q4 q5
   go_loopw [13,58] (fun s13 i wr=>∃ (n:Nat),i=.int .i64 n∧n≤p.ih.length∧Hid (wr.ownsRow w4.heap.size 3 1 s13 (idxTo F p.ih n).length ((idxTo F p.ih n).map I))∧Hid (Below w4.heap.size w4 wr)) (fun _ i _=>p.ih.length - (intOf i).toNat)
   case atStart=>exact ⟨0,rfl,Nat.zero_le _,Lib.hid (World.ownsRow_nil _ _ _ _),Lib.hid (Below.refl _ _)⟩
   case round =>
    obtain ⟨n,rfl,hn,HO,HB⟩:=hrel
    by_cases hnl:n < p.ih.length
    ·obtain ⟨b5,o5,rfl,hb5,hc5⟩:=KIR.out (by omega)
     have hBw:=HS4.out.below.trans (HB.out.mono HS4.out.below.size);have hat:=fun i v h=>cellsG_at ihC_len p.ih n hnl i v h;have z0:=kCq (hc5 _ _ (hat 0 _ rfl)) hBw hb5;have z1:=kCq (hc5 _ _ (hat 1 _ rfl)) hBw hb5;have z2:=kCq (hc5 _ _ (hat 2 _ rfl)) hBw hb5;have z3:=kCq (hc5 _ _ (hat 3 _ rfl)) hBw hb5;have z4:=kCq (hc5 _ _ (hat 4 _ rfl)) hBw hb5;rw [Nat.add_zero] at z0;rw [← Nat.add_assoc] at z1 z2 z3 z4;have hmem:=List.getElem_mem hnl;have hin:=KIN.out _ hmem;have hbad:=HCK.out.2 _ hmem;have HST:=Lib.hid (idxTo_step F p.ih hnl);have hlen12:=HCK.out.1;have hil:=idxTo_len F p.ih n;have KB:=Lib.hid (fun (c:Al) fa fc W h1 h2 h3 h4=>KBY.out _ hmem hbad sid c fa fc W h1 h2 h3 h4);have HFX:=Lib.hid (HRU.out p.ih[n]);generalize p.ih[n]=x at *;obtain ⟨bys,xlv,xc,frm,whn,bv,fv,wv⟩:=x;dsimp only at *;obtain ⟨ba,bc,hba,_,_⟩:=RdAt.shape hin.b;dsimp only at hba;subst hba;obtain ⟨ra,rc,hra,_,_⟩:=RdAt.shape hin.f;dsimp only at hra;subst hra;obtain ⟨wa,wc,hwa,_,_⟩:=RdAt.shape hin.m;dsimp only at hwa;subst hwa;have HBW:=Lib.hid hBw;obtain ⟨W5,hW5⟩:∃ z,wr.alloc (.cells #[.slice ba bys.length bc,.int .i64 xlv,.int .u32 xc,.slice ra frm.length rc,.slice wa whn.length wc] 51)=z:=⟨_,rfl⟩;have hx5:C5 wr.heap.size (.slice ba bys.length bc) (.int .i64 xlv) (.int .u32 xc) (.slice ra frm.length rc) (.slice wa whn.length wc) W5:=by rw [← hW5];exact box5n wr _ _ _ _ _ _
     have hs5:wr.heap.size < W5.heap.size:=by rw [← hW5,World.size_alloc];omega
     have hb5w:Below wr.heap.size wr W5:=by rw [← hW5];exact aBq _ _
     have hB5:=HB.out.trans (hb5w.mono HB.out.size);have HS5:=Lib.hid (HS4.out.later hB5);have HO5:=Lib.hid (own_later HO.out hb5w);have HB5:=Lib.hid hB5;obtain ⟨x0,x1,x2,x3,x4⟩:=hx5;have HX5:=Lib.hid (show C5 wr.heap.size (.slice ba bys.length bc) (.int .i64 xlv) (.int .u32 xc) (.slice ra frm.length rc) (.slice wa whn.length wc) W5 from ⟨x0,x1,x2,x3,x4⟩);have HLX:=Lib.hid hs5;have t0:=HS5.out.t0;have t1:=HS5.out.t1;clear hmem hin hbad hat hc5 hBw hb5w hB5 HO HB hs5;have kf:=flows_any xlv xc tl tc W5
     cases hfl:flowsL xlv xc tl tc
     ·have HN1:Hid (idxTo F p.ih (n+1)=idxTo F p.ih n):=Lib.hid (by rw [HST.out,HFX.out,hfl];simp)
      rw [hfl] at kf;clear hfl;go_wp2_with fail
      refine kf.mono ?_;rintro e w6 ⟨rfl,hb6⟩;have HB6:=Lib.hid (HB5.out.trans (hb6.mono HB5.out.size));have HO6:=Lib.hid (own_later HO5.out hb6);clear kf hb6 z0 z1 z2 z3 z4 x0 x1 x2 x3 x4 t0 t1 HS5 hW5;go_wp2;go_roundw
      case rel=>exact ⟨n+1,by go_num,by omega,Lib.hid (by rw [HN1.out];exact HO6.out),HB6⟩
      case measure=>(simp [intOf];try omega)
     ·rw [hfl] at kf
      have HFX2:Hid (F ⟨bys,xlv,xc,frm,whn,.slice ba bys.length bc,.slice ra frm.length rc,.slice wa whn.length wc⟩=byM ⟨bys,xlv,xc,frm,whn,.slice ba bys.length bc,.slice ra frm.length rc,.slice wa whn.length wc⟩ l sid uL now):=Lib.hid (by rw [HFX.out,hfl,Bool.true_and]);clear hfl;go_wp2_with fail
      refine kf.mono ?_;rintro e w6 ⟨rfl,hb6⟩;have HB6:=Lib.hid (HB5.out.trans (hb6.mono HB5.out.size));have HO6:=Lib.hid (own_later HO5.out hb6);have HX6:=Lib.hid (HX5.out.later hb6 HLX.out);clear kf hb6 z0 z1 z2 z3 z4 x0 x1 x2 x3 x4 t0 t1 HS5 hW5 HX5 HB5 HO5 HFX;obtain ⟨x0,x1,x2,x3,x4⟩:=HX6.out;obtain ⟨y0,y1,y2,y3,y4,y5⟩:=HX4.out.later HB6.out HLU4.out;have kb:=KB.out ⟨us,uL,ql,qc,uf,ut⟩ ua ud w6 (HS4.out.below.trans (HB6.out.mono HS4.out.below.size)) (HF4.out.later HB6.out) (fun f hf=>HFIT.out.fl f (HIN.out.1 f hf)) (Nat.le_trans HIN.out.2 hr8);dsimp only at kb;generalize byM ⟨bys,xlv,xc,frm,whn,.slice ba bys.length bc,.slice ra frm.length rc,.slice wa whn.length wc⟩ l sid uL now=BM at *;go_wp2_with fail
      refine kb.mono ?_;rintro e w7 ⟨rfl,hb7⟩;have hB7:=HB6.out.trans (hb7.mono HB6.out.size);have hO7:=own_later HO6.out hb7;have HB7:=Lib.hid hB7;have HO7:=Lib.hid hO7;clear kb hb7 x0 x1 x2 x3 x4 y0 y1 y2 y3 y4 y5 HX6 HB6 HO6
      cases BM
      ·have HN1:Hid (idxTo F p.ih (n+1)=idxTo F p.ih n):=Lib.hid (by rw [HST.out,HFX2.out];simp)
       clear hB7 hO7;go_wp2;go_roundw
       case rel=>exact ⟨n+1,by go_num,by omega,Lib.hid (by rw [HN1.out];exact HO7.out),HB7⟩
       case measure=>(simp [intOf];try omega)
      ·have HN1:Hid (idxTo F p.ih (n+1)=idxTo F p.ih n ++ [(n:Int)]):=Lib.hid (by rw [HST.out,HFX2.out];simp)
       have hb8:=aBq w7 (.cells #[I n] 3);have hown8:=hO7.alloc (.cells #[I n] 3);have hsz8:=hB7.size;clear hO7;go_wp2_with (at_builtin;(refine wpList_append_own _ rfl _ _ 38 rfl w4.heap.size 3 i0 (.int .i64 0) 1 8 Tryz.underlying38 hi hz0 hz1 hz2 rfl (by decide) _ _ _ rfl hown8 ⟨w7.heap.size,0,none⟩ 1 1 [I n] rfl rfl (cell_one_new _ _ _) (by simp [Value.oneCell']) (by unfold maxLen;omega) (by omega) (by simp;omega) ?_);intro v' w8 hown' hg8 hnil8)
       have HB8:=Lib.hid ((hB7.trans (hb8.mono hB7.size)).grown hg8 (by simp;omega) (fun j e=>(hown8.lt j e).1));have HO8:Hid (w8.ownsRow w4.heap.size 3 1 v' (idxTo F p.ih (n+1)).length ((idxTo F p.ih (n+1)).map I)):=Lib.hid (by rw [HN1.out];simpa using hown');clear hown' hg8 hnil8 hown8 hb8 hB7 HO7 HB7;go_wp2;go_roundw
       case rel=>exact ⟨n+1,by go_num,by omega,HO8,HB8⟩
       case measure=>(simp [intOf];try omega)
    ·obtain rfl:n=p.ih.length:=by omega
     go_wp2;go_ret;exact ⟨_,rfl,by rw [HN.out];exact World.ownsRow.mono HO.out HS4.out.below.size,HS4.out.below.trans (HB.out.mono HS4.out.below.size)⟩
end Go.Proofs.YtipnhpfpppblhaaGreat
namespace Go.Proofs.YtipnhpfpppblhaaGreat
open Go.RowKit
theorem visL_step {rs:List Nmd} {fl:List Fld} {f t:Int × Nat} {k:Nat} (h:k < fl.length):visL rs (fl.take (k+1)) f t=visL rs (fl.take k) f t ++ (if seesL rs f t fl[k] then [fl[k]] else []):=by
 unfold visL;rw [List.take_succ_eq_append_getElem h,List.filter_append]
 congr 1
 cases hp:seesL rs f t fl[k] <;> simp [hp]
theorem visL_len (rs:List Nmd) (fl:List Fld) (f t:Int × Nat):(visL rs fl f t).length≤fl.length:=List.length_filter_le _ _
set_option maxHeartbeats 1600000 in
set_option maxRecDepth 100000 in
theorem rvis_any (s0 s1 s2 s4 s5:Option Addr × Nat × Nat) (rs:List Nmd) (rv:Value) (fl:List Fld) (fv:Value) (lv:Int) (c:Nat) (tl:Int) (tc:Nat) (w:World) (hv:NmdsAt w rv rs) (hl:rs.length≤maxLen) (hfit:NmdFit rs) (hc:c < 4294967296) (htc:tc < 4294967296) (hf:FldsAt w fv fl) (hfl:fl.length≤1000000) :
  Calls Tryz.prog 96 #[.agg #[SV s0,SV s1,SV s2,rv,SV s4,SV s5],fv,Lab lv c,Lab tl tc] w fun e w'=>∃ v',e=.returned v'∧FldsAt w' v' (visL rs fl (lv,c) (tl,tc))∧(∀ q,v'.ownBlock=some q→w.heap.size≤q)∧Below w.heap.size w w':=by
 obtain ⟨i0,hi,hz0,hz1,hz2⟩:=info_parts info_fld;obtain ⟨ra,rc,rfl,_,_⟩:=RdAt.shape hv;obtain ⟨fa,fc,rfl,hfc,hfr⟩:=RdAt.shape hf;obtain ⟨a0,n0,c0⟩:=s0;obtain ⟨a1,n1,c1⟩:=s1;obtain ⟨a2,n2,c2⟩:=s2;obtain ⟨a4,n4,c4⟩:=s4;obtain ⟨a5,n5,c5⟩:=s5;obtain ⟨W0,hW0⟩:∃ z,((w.alloc (.cells #[.slice a0 n0 c0,.slice a1 n1 c1,.slice a2 n2 c2,.slice ra rs.length rc,.slice a4 n4 c4,.slice a5 n5 c5] 26)).alloc (.cells #[.int .i64 lv,.int .u32 c] 36)).alloc (.cells #[.int .i64 tl,.int .u32 tc] 36)=z:=⟨_,rfl⟩;have hb0:Below w.heap.size w W0:=by rw [← hW0];exact ((aBq _ _).trans ((aBq _ _).mono (by simp))).trans ((aBq _ _).mono (by simp;omega))
 have hz:W0.heap.size=w.heap.size+1+1+1:=by rw [← hW0];simp
 have hbb:=(Below.refl W0.heap.size W0);rw [← hW0] at hbb;obtain ⟨h1,h2,h3⟩:=box_cells hbb;obtain ⟨h4,h5,h6,h7⟩:=box_two h3;rw [hW0] at h1 h4 h5;simp only [World.size_alloc] at h1;have hC6:C6 w.heap.size (.slice a0 n0 c0) (.slice a1 n1 c1) (.slice a2 n2 c2) (.slice ra rs.length rc) (.slice a4 n4 c4) (.slice a5 n5 c5) W0:=⟨h4 0 _ rfl,h4 1 _ rfl,h4 2 _ rfl,h4 3 _ rfl,h4 4 _ rfl,h4 5 _ rfl⟩;have HC6:=Lib.hid hC6;have hf0:=h5 0 _ rfl;have hf1:=h5 1 _ rfl;have ht0:=h1 0 _ rfl;have ht1:=h1 1 _ rfl;have HL0:=Lib.hid (And.intro hf0 (And.intro hf1 (And.intro ht0 ht1)));have HB0:=Lib.hid hb0;have HZ:=Lib.hid hz;have HFR:=Lib.hid hfr;have HV:=Lib.hid hv;have HW0:=Lib.hid hW0;have HFIT:=Lib.hid hfit;have HCC:=Lib.hid hc;have HTC:=Lib.hid htc;clear h1 h2 h3 h4 h5 h6 h7 hbb hf hv hfr hC6 hf0 hf1 ht0 ht1 hb0 hz hW0 hfit hc htc
 go_enter Tryz.func96,Tryz.ntmps96
 go_upto_region 1 with fail;rw [HW0.out];clear HW0;go_wp2
 go_loopw [9,10] (fun v i wr=>∃ k:Nat,i=.int .i64 k∧k≤fl.length∧wr.ownsRow W0.heap.size 90 2 v (visL rs (fl.take k) (lv,c) (tl,tc)).length (fldCells (visL rs (fl.take k) (lv,c) (tl,tc)))∧Below W0.heap.size W0 wr) (fun _ i _=>fl.length - (intOf i).toNat)
 case atStart=>exact ⟨0,rfl,Nat.zero_le _,World.ownsRow_nil _ _ _ _,Below.refl _ _⟩
 case round =>
  obtain ⟨k,rfl,hk,hown,hbr⟩:=hrel;have hzs:=HZ.out
  by_cases hkl:k < fl.length
  ·obtain ⟨b,o,rfl,hb,hcell⟩:=HFR.out (by omega)
   obtain ⟨q0,q1⟩:=fldCells_at fl k hkl;obtain ⟨⟨fx,fy⟩,hfx⟩:∃ z,fl[k]=z:=⟨_,rfl⟩;have HBw:=Lib.hid (HB0.out.trans (hbr.mono HB0.out.size));have e0:wr.cell? ⟨b,o+k * 2,none⟩=some (.string fx):=kCq (by have:=hcell _ _ q0;rw [hfx] at this;exact this) HBw.out hb;have e1:wr.cell? ⟨b,o+k * 2+1,none⟩=some (.string fy):=kCq (by have:=hcell _ _ q1;rw [hfx,← Nat.add_assoc] at this;exact this) HBw.out hb;have hvs:=visL_step (rs:=rs) (f:=(lv,c)) (t:=(tl,tc)) hkl;rw [hfx] at hvs;obtain ⟨jl,hjl⟩:∃ z,raisedL rs fx (lv,c)=z:=⟨_,rfl⟩;have hsee:seesL rs (lv,c) (tl,tc) (fx,fy)=flowsL jl.1 jl.2 tl tc:=by unfold seesL;rw [hjl]
   obtain ⟨j1,j2⟩:=jl
   have hj2:j2 < 4294967296:=by
    have:(raisedL rs fx (lv,c)).2 < 4294967296:=by
     unfold raisedL
     split
     ·exact (joinL_right _ _).2
     ·exact HCC.out
    rw [hjl] at this;exact this
   obtain ⟨q,hq⟩:∃ q,flowsL j1 j2 tl tc=q:=⟨_,rfl⟩;rw [hsee,hq] at hvs
   have k1:∀ W,Below W0.heap.size W0 W→Calls Tryz.prog 113 #[.agg #[.slice a0 n0 c0,.slice a1 n1 c1,.slice a2 n2 c2,.slice ra rs.length rc,.slice a4 n4 c4,.slice a5 n5 c5],.string fx,Lab lv c] W fun e w'=>e=.returned (Lab j1 j2)∧Below W.heap.size W w':=fun W h=>by
    have:=rraised_any (a0,n0,c0) (a1,n1,c1) (a2,n2,c2) (a4,n4,c4) (a5,n5,c5) rs (.slice ra rs.length rc) fx lv c W (HV.out.later (HB0.out.trans (h.mono HB0.out.size))) hl HFIT.out HCC.out
    rw [hjl] at this;exact this
   have k2:∀ W,Calls Tryz.prog 19 #[Lab j1 j2,Lab tl tc] W fun e w'=>e=.returned (.bool q)∧Below W.heap.size W w':=fun W=>by
    have:=rflows_any j1 j2 tl tc W hj2 HTC.out
    rw [hq] at this;exact this
   have HVS:=Lib.hid hvs;have hlen:=visL_len rs (fl.take k) (lv,c) (tl,tc);rw [List.length_take] at hlen;have HO:=Lib.hid hown;have HBR:=Lib.hid hbr;obtain ⟨va,vc,rfl,_,_⟩:=RdAt.shape (RdAt.own hown);have hP:=HC6.out.later hbr (by omega);obtain ⟨p0,p1,p2,p3,p4,p5⟩:=hP;obtain ⟨l0,l1,t0,t1⟩:=HL0.out;have L0:=kCq l0 hbr (by omega);have L1:=kCq l1 hbr (by omega);have T0:=kCq t0 hbr (by omega);have T1:=kCq t1 hbr (by omega);have hbl:b < wr.heap.size:=Nat.lt_of_lt_of_le hb HBw.out.size;have hzr:w.heap.size+1+1 < wr.heap.size:=by have:=hbr.size;omega
   clear q0 q1 hcell hfx hvs hsee hjl hj2 hq hown hbr l0 l1 t0 t1;go_upto_region 5 with fail;refine wp_region_held_drew (S:=(fun W=>W.cell? ⟨w.heap.size,0,none⟩=some (.slice a0 n0 c0)∧W.cell? ⟨w.heap.size,1,none⟩=some (.slice a1 n1 c1)∧W.cell? ⟨w.heap.size,2,none⟩=some (.slice a2 n2 c2)∧W.cell? ⟨w.heap.size,3,none⟩=some (.slice ra rs.length rc)∧W.cell? ⟨w.heap.size,4,none⟩=some (.slice a4 n4 c4)∧W.cell? ⟨w.heap.size,5,none⟩=some (.slice a5 n5 c5)∧W.cell? ⟨w.heap.size+1,0,none⟩=some (.int .i64 lv)∧W.cell? ⟨w.heap.size+1,1,none⟩=some (.int .u32 c)∧W.cell? ⟨w.heap.size+1+1,0,none⟩=some (.int .i64 tl)∧W.cell? ⟨w.heap.size+1+1,1,none⟩=some (.int .u32 tc)∧W.cell? ⟨b,o+k * 2,none⟩=some (.string fx))) (by kernel_rfl) ⟨p0,p1,p2,p3,p4,p5,L0,L1,T0,T1,e0⟩ (fun hHeld=>?_);refine plIn [0,1,2,3,4,5,6,8] ?_
   iterate 8
    refine hP (v:=?_) rfl rfl hHeld ?_ ?_;rotate_left
    ·intro wh hz;iterate 10 obtain ⟨_,hz⟩:=hz
     go_simp
     (try with_reducible rfl)
    simp only [Act.put,aS1,aS2,aS3]
   refine plOut ?_;refine held_call (i:=7) rfl (by kernel_rfl) (by rfl) (fun K hK=>?_)
   (go_simp;go_at_call 113;refine (k1 _ (HBR.out.trans (((Below.refl _ wr).drew).mono HBR.out.size))).mono ?_;rintro e w3 ⟨rfl,hb3⟩;have hb3':Below wr.heap.size wr w3:=((Below.refl _ wr).drew).trans hb3)
   refine hK.out _ _ ⟨kCq p0 hb3' (by omega),kCq p1 hb3' (by omega),kCq p2 hb3' (by omega),kCq p3 hb3' (by omega),kCq p4 hb3' (by omega),kCq p5 hb3' (by omega),kCq L0 hb3' (by omega),kCq L1 hb3' (by omega),kCq T0 hb3' (by omega),kCq T1 hb3' (by omega),kCq e0 hb3' hbl⟩ (fun hHeld=>?_);clear hK K
   (try simp only [Act.put,aS1,aS2,aS3])
   refine held_call (i:=9) rfl (by kernel_rfl) (by rfl) (fun K hK=>?_)
   (go_simp;go_at_call 19;refine (k2 _).mono ?_;rintro e w4 ⟨rfl,hb4⟩;have hb34:=hb3'.trans (hb4.mono hb3'.size))
   refine hK.out _ _ ⟨kCq p0 hb34 (by omega),kCq p1 hb34 (by omega),kCq p2 hb34 (by omega),kCq p3 hb34 (by omega),kCq p4 hb34 (by omega),kCq p5 hb34 (by omega),kCq L0 hb34 (by omega),kCq L1 hb34 (by omega),kCq T0 hb34 (by omega),kCq T1 hb34 (by omega),kCq e0 hb34 hbl⟩ (fun hHeld=>?_);clear hK K
   (try simp only [Act.put,aS1,aS2,aS3])
   refine wpAnyH_done (by kernel_rfl) ?_ _;have HB4:=Lib.hid hb34;clear hb34 hb3' hb4 hb3 p0 p1 p2 p3 p4 p5 L0 L1 T0 T1 k1 k2;have E0:=kCq e0 HB4.out hbl;have E1:=kCq e1 HB4.out hbl;clear e0 e1
   cases q
   ·go_wp2
    go_roundw
    case rel=>exact ⟨k+1,by go_num,by omega,by rw [HVS.out];simpa using own_later HO.out HB4.out,HBR.out.trans (HB4.out.mono HBR.out.size)⟩
    case measure=>(simp [intOf];try omega)
   ·have hb9:=aBq w4 (.cells #[.string fx,.string fy] 90)
    have hown9:=(own_later HO.out HB4.out).alloc (.cells #[.string fx,.string fy] 90)
    have hrd:RdAt (w4.alloc (.cells #[.string fx,.string fy] 90)) (.slice (some ⟨w4.heap.size,0,none⟩) 1 1) 1 2 [.string fx,.string fy]:=by
     refine RdAt.mk rfl (Nat.le_refl _) (by simp) (fun j x hj=>?_);rw [Nat.zero_add]
     exact (World.cell?_alloc_at _ _ _ _ rfl).trans (by
      match j,hj with
      | 0,hj=>exact hj
      | 1,hj=>exact hj
      | j+2,hj=>simp at hj)
    go_wp2_with (at_builtin;(refine wpList_append_rd rfl (.tmp 27) (.tmp 32) 52 rfl W0.heap.size 90 i0 (.agg #[.string ⟨#[]⟩,.string ⟨#[]⟩]) 2 32 Tryz.underlying52 hi hz0 hz1 hz2 rfl (by decide) _ _ _ rfl hown9 _ 1 [.string fx,.string fy] rfl hrd (by simp [Value.oneCell']) (by unfold maxLen;omega) (by omega) (by have:=HBR.out.size;have:=HB4.out.size;simp;omega) ?_);intro v' w8 hown' hg8)
    have hB8:Below W0.heap.size W0 w8:=((HBR.out.trans (HB4.out.mono HBR.out.size)).trans (hb9.mono (by have:=HBR.out.size;have:=HB4.out.size;omega))).grown hg8 (by have:=HBR.out.size;have:=HB4.out.size;simp;omega) (fun j e=>(hown9.lt j e).1);go_wp2;go_roundw
    case rel=>exact ⟨k+1,by go_num,by omega,by
     rw [HVS.out,if_pos rfl,List.length_append,fldCells_append];exact hown',hB8⟩
    case measure=>(simp [intOf];try omega)
  ·obtain rfl:k=fl.length:=by omega
   rw [List.take_length] at hown;go_wp2;go_ret;exact ⟨_,rfl,RdAt.own hown,fun q hq=>by have:=(hown.lt q hq).1;omega,HB0.out.trans (hbr.mono HB0.out.size)⟩
set_option maxRecDepth 100000 in
theorem rcutA_any (s0 s1 s2 s4 s5:Option Addr × Nat × Nat) (rs:List Nmd) (rv:Value) (src:ByteArray) (fl:List Fld) (fv:Value) (lv:Int) (c:Nat) (fr til:Int) (tl:Int) (tc:Nat) (w:World) (hv:NmdsAt w rv rs) (hl:rs.length≤maxLen) (hf:FldsAt w fv fl) (hfl:fl.length≤1000000) (hfit:NmdFit rs) (hc:c < 4294967296) (htc:tc < 4294967296) :
  Calls Tryz.prog 65 #[.agg #[SV s0,SV s1,SV s2,rv,SV s4,SV s5],.agg #[.string src,fv,.int .i64 lv,.int .u32 c,.int .i64 fr,.int .i64 til],Lab tl tc] w fun e w' =>
   ∃ v',FldsAt w' v' (visL rs fl (lv,c) (tl,tc))∧(∀ q,v'.ownBlock=some q→w.heap.size≤q)∧Below w.heap.size w w'∧e=.returned (.tuple #[cutR (cutOk rs fl (lv,c) (tl,tc)) src v' lv c fr til,.bool (cutOk rs fl (lv,c) (tl,tc))]):=by
 have k1:=fun W (hb:Below w.heap.size w W)=>rvis_any s0 s1 s2 s4 s5 rs rv fl fv lv c tl tc W (hv.later hb) hl hfit hc htc (hf.later hb) hfl;have k2:=fun W=>rflows_any lv c tl tc W hc htc;obtain ⟨ra,rc,rfl,_,_⟩:=RdAt.shape hv;obtain ⟨fa,fc,rfl,_,_⟩:=RdAt.shape hf;obtain ⟨a0,n0,c0⟩:=s0;obtain ⟨a1,n1,c1⟩:=s1;obtain ⟨a2,n2,c2⟩:=s2;obtain ⟨a4,n4,c4⟩:=s4;obtain ⟨a5,n5,c5⟩:=s5;have hX:=cutBox w (.slice a0 n0 c0) (.slice a1 n1 c1) (.slice a2 n2 c2) (.slice ra rs.length rc) (.slice a4 n4 c4) (.slice a5 n5 c5) (.string src) (.slice fa fl.length fc) (.int .i64 lv) (.int .u32 c) (.int .i64 fr) (.int .i64 til) (.int .i64 tl) (.int .u32 tc) 26 58 36 58;have k1:=k1 _ hX.below;have HX:=Lib.hid hX;clear hX hv hf hfit hc htc
 go_enter Tryz.func65,Tryz.ntmps65
 go_wp2_with fail
 refine k1.mono ?_;rintro e w1 ⟨v1,rfl,hF,hO,hb1⟩;have HX1:=Lib.hid (HX.out.later hb1);clear k1 HX hb1;obtain ⟨va,vc,rfl,_,_⟩:=RdAt.shape hF;obtain ⟨V,hV⟩:∃ V,visL rs fl (lv,c) (tl,tc)=V:=⟨_,rfl⟩;have HC:Hid (cutOk rs fl (lv,c) (tl,tc)=(decide (0 < V.length)&&flowsL lv c tl tc)):=by show _=_;unfold cutOk;rw [hV]
 rw [hV] at hF hO ⊢;have HF:=Lib.hid hF;have HV:=Lib.hid hV
 have hO':∀ q,(Value.slice va V.length vc).ownBlock=some q→w.heap.size+1+1+1+1≤q:=fun q hq=>by
  have:=hO q hq
  simpa using this
 have HO:=Lib.hid hO';clear hF hV hO hO';have HX1':=Lib.hid (Nat.lt_of_le_of_lt (Nat.le_refl _) HX1.out.lt);obtain ⟨⟨p0,p1,p2,p3,p4,p5⟩,⟨x0,x1,x2,x3,x4,x5⟩,l0,l1,⟨r0,r1,r2,r3,r4,r5⟩,ta,tr,_,_⟩:=HX1.out;obtain ⟨n,hn⟩:∃ n,V.length=n:=⟨_,rfl⟩;rw [hn] at HF HO HC ⊢;clear hn;clear ta tr p0 p1 p2 p3 p4 p5 r0 r1 r2 r3 r4 r5;obtain ⟨q,hq⟩:∃ q,flowsL lv c tl tc=q:=⟨_,rfl⟩;rw [hq] at HC;simp only [hq] at k2;clear hq;go_wp2_with fail
 refine (k2 _).mono ?_;rintro e w2 ⟨rfl,hb2⟩;have HX2:=Lib.hid (HX1.out.later hb2);have HF2:=Lib.hid (HF.out.later hb2);clear x0 x1 x2 x3 x4 x5 l0 l1 hb2 HF HX1 HX1' k2;obtain ⟨_,⟨x0,x1,x2,x3,x4,x5⟩,_,_,⟨r0,r1,r2,r3,r4,r5⟩,ta,tr,_,_⟩:=HX2.out;have f0:=tFq tr 0 (by decide);have f1:=tFq tr 1 (by decide);have f2:=tFq tr 2 (by decide);have f3:=tFq tr 3 (by decide);have f4:=tFq tr 4 (by decide);have f5:=tFq tr 5 (by decide);have g1:=tFq ta 1 (by decide);clear ta tr
 cases q
 ·rw [Bool.and_false] at HC
  go_wp2;refine bodyPost_ret (results_agg2 rfl _ _ (w.heap.size+1+1+1) [.string ⟨#[]⟩,.slice none 0 0,.int .i64 0,.int .u32 0,.int .i64 0,.int .i64 0] (.struct _) rfl (World.rangeAt_setCells_same w2 (w.heap.size+1+1+1) 0 [.string ⟨#[]⟩,.slice none 0 0,.int .i64 0,.int .u32 0,.int .i64 0,.int .i64 0] HX2.out.tr) Tryz.underlying58 rfl (by kernel_rfl)) rfl ?_;have hbb:=below_puts (g:=w.heap.size+1+1+1) (o:=0) HX2.out.below (by omega) [.string ⟨#[]⟩,.slice none 0 0,.int .i64 0,.int .u32 0,.int .i64 0,.int .i64 0];have hF3:=rd_puts (g:=w.heap.size+1+1+1) (o:=0) HF2.out (fun q hq=>by have:=HO.out q hq;omega) [.string ⟨#[]⟩,.slice none 0 0,.int .i64 0,.int .u32 0,.int .i64 0,.int .i64 0]
  refine ⟨_,by first | exact hF3 | (rw [HV.out];exact hF3),fun q hq=>by have:=HO.out q hq;omega,hbb,?_⟩
  first
   | rfl
   | (rw [HC.out];rfl)
   | (rw [HC.out,hn];rfl)
 ·rcases Nat.eq_zero_or_pos n with h0 | h0
  ·subst h0
   go_wp2;refine bodyPost_ret (results_agg2 rfl _ _ (w.heap.size+1+1+1) [.string ⟨#[]⟩,.slice none 0 0,.int .i64 0,.int .u32 0,.int .i64 0,.int .i64 0] (.struct _) rfl (World.rangeAt_setCells_same w2 (w.heap.size+1+1+1) 0 [.string ⟨#[]⟩,.slice none 0 0,.int .i64 0,.int .u32 0,.int .i64 0,.int .i64 0] HX2.out.tr) Tryz.underlying58 rfl (by kernel_rfl)) rfl ?_;have hbb:=below_puts (g:=w.heap.size+1+1+1) (o:=0) HX2.out.below (by omega) [.string ⟨#[]⟩,.slice none 0 0,.int .i64 0,.int .u32 0,.int .i64 0,.int .i64 0];have hF3:=rd_puts (g:=w.heap.size+1+1+1) (o:=0) HF2.out (fun q hq=>by have:=HO.out q hq;omega) [.string ⟨#[]⟩,.slice none 0 0,.int .i64 0,.int .u32 0,.int .i64 0,.int .i64 0]
   refine ⟨_,by first | exact hF3 | (rw [HV.out];exact hF3),fun q hq=>by have:=HO.out q hq;omega,hbb,?_⟩
   first
    | rfl
    | (rw [HC.out];rfl)
    | (rw [HC.out,hn];rfl)
  ·rw [decide_eq_true h0,Bool.true_and] at HC
   have hz:((n:Int)==0)=false:=by rw [beq_eq_false_iff_ne];omega
   go_wp2;have hT:=World.there_setCells HX2.out.tr (w.heap.size+1) 1 [.slice va n vc];refine bodyPost_ret (results_agg2 rfl _ _ (w.heap.size+1+1+1) [.string src,.slice va n vc,.int .i64 lv,.int .u32 c,.int .i64 fr,.int .i64 til] (.struct _) rfl (World.rangeAt_setCells_same _ (w.heap.size+1+1+1) 0 [.string src,.slice va n vc,.int .i64 lv,.int .u32 c,.int .i64 fr,.int .i64 til] hT) Tryz.underlying58 rfl (by kernel_rfl)) rfl ?_;have hba:=below_puts (g:=w.heap.size+1) (o:=1) HX2.out.below (by omega) [.slice va n vc];have hbb:=below_puts (g:=w.heap.size+1+1+1) (o:=0) hba (by omega) [.string src,.slice va n vc,.int .i64 lv,.int .u32 c,.int .i64 fr,.int .i64 til];have hF3:=rd_puts (g:=w.heap.size+1) (o:=1) HF2.out (fun q hq=>by have:=HO.out q hq;omega) [.slice va n vc];have hF4:=rd_puts (g:=w.heap.size+1+1+1) (o:=0) hF3 (fun q hq=>by have:=HO.out q hq;omega) [.string src,.slice va n vc,.int .i64 lv,.int .u32 c,.int .i64 fr,.int .i64 til]
   refine ⟨_,by first | exact hF4 | (rw [HV.out];exact hF4),fun q hq=>by have:=HO.out q hq;omega,hbb,?_⟩
   first
    | rfl
    | (rw [HC.out];rfl)
theorem al6r (W:World) (a b c d e f:Value) (t:TypeId):C6 W.heap.size a b c d e f (W.alloc (.cells #[a,b,c,d,e,f] t)):=by
 have hc:∀ (i:Nat),(W.alloc (.cells #[a,b,c,d,e,f] t)).cell? ⟨W.heap.size,i,none⟩=_:=fun i=>World.cell?_alloc_at _ _ _ _ rfl;exact ⟨hc 0,hc 1,hc 2,hc 3,hc 4,hc 5⟩
set_option maxHeartbeats 3200000 in
set_option maxRecDepth 100000 in
theorem r9right_any (src:ByteArray) (fl:List Fld) (lv:Int) (c:Nat) (fr til:Int) (v:Value) (w:World) (hs:src.size≤maxLen) (hv:FldsAt w v fl) (hfit:FldsFit fl) (hl:fl.length≤maxLen) :
  Calls Tryz.prog 21 #[.agg #[.string src,v,.int .i64 lv,.int .u32 c,.int .i64 fr,.int .i64 til]] w fun e w'=>e=.returned (.bool (whoA src fl lv&&beginsA fr&&endsA fr til))∧Below w.heap.size w w':=by
 have k1:=refName.name_any src (w.alloc (.cells #[.string src,v,.int .i64 lv,.int .u32 c,.int .i64 fr,.int .i64 til] 58)) hs;have hB0:=aBq w (.cells #[.string src,v,.int .i64 lv,.int .u32 c,.int .i64 fr,.int .i64 til] 58);have hz0:=World.size_alloc w (.cells #[.string src,v,.int .i64 lv,.int .u32 c,.int .i64 fr,.int .i64 til] 58);have x:=al6r w (.string src) v (.int .i64 lv) (.int .u32 c) (.int .i64 fr) (.int .i64 til) 58;have k2:=fun W (hb:Below w.heap.size w W)=>rright6_any fl W v (hv.later hb) hfit hl;have k3:=rright_any lv c;obtain ⟨fa,fc,rfl,hfc,_⟩:=RdAt.shape hv;obtain ⟨W0,hW0⟩:∃ z,w.alloc (.cells #[.string src,.slice fa fl.length fc,.int .i64 lv,.int .u32 c,.int .i64 fr,.int .i64 til] 58)=z:=⟨_,rfl⟩;rw [hW0] at k1 hB0 hz0 x;have K2:=Lib.hid k2;have hl63:fl.length≤9223372036854775807:=by unfold maxLen at hl;omega
 have HX:=Lib.hid x;have HB:=Lib.hid hB0;obtain ⟨x0,x1,x2,x3,x4,x5⟩:=x;clear hv hfit k2 hB0 hl
 go_enter Tryz.func21,Tryz.ntmps21
 go_upto_region 1 with fail
 try rw [hW0]
 clear hW0;have hlt:w.heap.size < W0.heap.size:=by omega
 clear hz0
 cases hn:nameL (B src)
 ·have HW:Hid (whoA src fl lv=false):=by show _=_;unfold whoA;rw [hn];rfl
  rw [hn] at k1;clear hn;go_wp2_with fail
  refine k1.mono ?_;rintro e w1 ⟨rfl,rfl⟩;go_wp2;go_ret;exact ⟨by rw [HW.out];rfl,HB.out⟩
 rw [hn] at k1
 by_cases h0:0 < fl.length
 case neg =>
  have HW:Hid (whoA src fl lv=false):=by show _=_;unfold whoA;rw [decide_eq_false h0,Bool.and_false];rfl
  obtain rfl:fl=[]:=List.length_eq_zero_iff.1 (by omega);clear hn h0;go_wp2_with fail
  refine k1.mono ?_;rintro e w1 ⟨rfl,rfl⟩;go_wp2;go_ret;exact ⟨by rw [HW.out];rfl,HB.out⟩
 have h0':(1:Int)≤(fl.length:Int):=by omega
 have k2:=K2.out W0 HB.out
 cases hr:rightF fl
 ·have HW:Hid (whoA src fl lv=false):=by show _=_;unfold whoA;rw [hr,Bool.and_false];rfl
  rw [hr] at k2;clear hn hr;go_wp2_with fail
  refine k1.mono ?_;rintro e w1 ⟨rfl,rfl⟩;go_wp2_with fail
  refine k2.mono ?_;rintro e w2 ⟨rfl,hb2⟩;have HB2:=Lib.hid (HB.out.trans (hb2.mono HB.out.size));clear hb2 k1 k2 x0 x1 x2 x3 x4 x5;go_wp2;go_ret;exact ⟨by rw [HW.out];rfl,HB2.out⟩
 have HW:Hid (whoA src fl lv=rightL lv):=by show _=_;unfold whoA;rw [hn,hr,decide_eq_true h0];rfl
 rw [hr] at k2;clear hn hr;go_wp2_with fail
 refine k1.mono ?_;rintro e w1 ⟨rfl,rfl⟩;go_wp2_with fail
 refine k2.mono ?_;rintro e w2 ⟨rfl,hb2⟩;have HB2:=Lib.hid (HB.out.trans (hb2.mono HB.out.size));have HX2:=Lib.hid (HX.out.later hb2 hlt);have hlt2:w.heap.size < w2.heap.size:=Nat.lt_of_lt_of_le hlt hb2.size;clear hb2 k1 k2 K2 x0 x1 x2 x3 x4 x5 HB HX;obtain ⟨x0,x1,x2,x3,x4,x5⟩:=HX2.out;have k3:=k3 w2;go_wp2_with fail
 refine k3.mono ?_;rintro e w3 ⟨rfl,hb3⟩;have HB3:=Lib.hid (HB2.out.trans (hb3.mono HB2.out.size));have HX3:=Lib.hid (HX2.out.later hb3 hlt2);clear k3 hb3 x0 x1 x2 x3 x4 x5 HB2 HX2 hlt hlt2
 cases hrl:rightL lv
 ·rw [hrl] at HW
  clear hrl;go_wp2;go_ret;exact ⟨by rw [HW.out];rfl,HB3.out⟩
 rw [hrl] at HW;clear hrl;go_upto_region 3 with fail;obtain ⟨x0,x1,x2,x3,x4,x5⟩:=HX3.out;have HWH:=HW;clear HX3 HW h0 h0'
 by_cases h1:0≤fr
 case neg =>
  have HW:Hid (beginsA fr=false):=by show _=_;unfold beginsA;rw [decide_eq_false h1,Bool.false_and]
  have h1':fr < 0:=by omega
  clear h1;go_wp2;go_ret;exact ⟨by rw [HWH.out,HW.out];rfl,HB3.out⟩
 by_cases h2:fr≤1099511627776
 case neg =>
  have HW:Hid (beginsA fr=false):=by show _=_;unfold beginsA;rw [decide_eq_false h2,Bool.and_false]
  have h2':(1099511627776:Int) < fr:=by omega
  clear h2;go_wp2;go_ret;exact ⟨by rw [HWH.out,HW.out];rfl,HB3.out⟩
 have HBG:Hid (beginsA fr=true):=by show _=_;unfold beginsA;rw [decide_eq_true h1,decide_eq_true h2];rfl
 by_cases h3:til=0
 ·subst h3
  go_wp2;go_ret;exact ⟨by rw [HWH.out,HBG.out];rfl,HB3.out⟩
 have hz:(til==0)=false:=by rw [beq_eq_false_iff_ne];exact h3
 by_cases h4:fr < til
 ·by_cases h5:til≤1099511627776
  ·have HW:Hid (endsA fr til=true):=by show _=_;unfold endsA;rw [decide_eq_true h4,decide_eq_true h5];simp
   clear h3;go_wp2;go_ret
   exact ⟨by rw [HWH.out,HBG.out,HW.out];first | rfl | (simp;omega),HB3.out⟩
  ·have HW:Hid (endsA fr til=false):=by show _=_;unfold endsA;rw [decide_eq_false h3,decide_eq_false h5];simp
   have h5':(1099511627776:Int) < til:=by omega
   clear h3 h5;go_wp2;go_ret
   exact ⟨by rw [HWH.out,HBG.out,HW.out];first | rfl | (simp;omega),HB3.out⟩
 ·have HW:Hid (endsA fr til=false):=by show _=_;unfold endsA;rw [decide_eq_false h3,decide_eq_false h4];simp
  have h4':til≤fr:=by omega
  clear h3 h4;go_wp2;go_ret
  exact ⟨by rw [HWH.out,HBG.out,HW.out];first | rfl | (simp;omega),HB3.out⟩
set_option maxHeartbeats 800000 in
theorem r9fires_any (src:ByteArray) (a:Option Addr) (n m:Nat) (lv:Int) (c:Nat) (fr til now:Int) (w:World) :
  Calls Tryz.prog 67 #[.agg #[.string src,.slice a n m,.int .i64 lv,.int .u32 c,.int .i64 fr,.int .i64 til],.int .i64 now] w fun e w'=>e=.returned (.bool (decide (fr≤now)&&(decide (til=0) || decide (now < til))))∧Below w.heap.size w w':=by
 by_cases h1:fr≤now
 ·by_cases h2:til=0
  ·subst h2
   go_enter Tryz.func67,Tryz.ntmps67
   go_wp2;go_ret
   exact ⟨by first | rfl | (simp;omega),(Below.refl _ _).alloc (Nat.le_refl _) _⟩
  ·have hz:(til==0)=false:=by rw [beq_eq_false_iff_ne];exact h2
   have hz2:=h2;clear h2
   by_cases h3:now < til
   ·go_enter Tryz.func67,Tryz.ntmps67
    go_wp2;go_ret
    exact ⟨by first | rfl | (simp;omega) | (simp [*]),(Below.refl _ _).alloc (Nat.le_refl _) _⟩
   ·have h3':til≤now:=by omega
    go_enter Tryz.func67,Tryz.ntmps67
    go_wp2;go_ret
    exact ⟨by first | rfl | (simp;omega) | (simp [*]),(Below.refl _ _).alloc (Nat.le_refl _) _⟩
 ·have h1':now < fr:=by omega
  go_enter Tryz.func67,Tryz.ntmps67
  go_wp2;go_ret
  exact ⟨by first | rfl | (simp;omega) | (simp [*]),(Below.refl _ _).alloc (Nat.le_refl _) _⟩
def OwnM (w:World) (base:Nat) (v:Value) (bs:List Int):Prop :=
 ∃ g cap,v=.slice (some ⟨g,0,none⟩) bs.length cap∧base≤g∧g < w.heap.size∧bs.length≤cap∧cap≤maxLen ∧
  (∀ j y,(bs.map V8)[j]?=some y→w.cell? ⟨g,j,none⟩=some y)∧(∀ j,j < cap→(w.cell? ⟨g,j,none⟩).isSome=true∧w.frozen? ⟨g,j,none⟩=false)
theorem OwnM.later {w w':World} {base:Nat} {v:Value} {bs:List Int} (h:OwnM w base v bs) (hb:Below w.heap.size w w'):OwnM w' base v bs:=by
 obtain ⟨g,cap,rfl,h1,h2,h3,h4,h5,h6⟩:=h;refine ⟨g,cap,rfl,h1,Nat.lt_of_lt_of_le h2 hb.size,h3,h4,fun j y hj=>?_,fun j hj=>?_⟩
 ·rw [hb.cell (p:=⟨g,j,none⟩) h2];exact h5 j y hj
 ·rw [hb.cell (p:=⟨g,j,none⟩) h2,World.frozen?_of_block (a:=⟨g,j,none⟩) (hb.block _ h2)];exact h6 j hj
theorem OwnM.at {w:World} {base:Nat} {v:Value} {bs:List Int} (h:OwnM w base v bs):ByAt w v bs:=by
 obtain ⟨g,cap,rfl,h1,h2,h3,h4,h5,h6⟩:=h;have h:=RdAt.mk (w:=w) (b:=g) (o:=0) (n:=bs.length) (c:=cap) (k:=1) (xs:=bs.map V8) (by simp) h3 h2 (fun j y hj=>by rw [Nat.zero_add];exact h5 j y hj);exact h
theorem cv_ownM (w:World) (s:ByteArray) (hs:s.size≤4000000):OwnM (cvW w s) w.heap.size (.slice (some ⟨w.heap.size,0,none⟩) s.size (cvC w s)) (byL s):=by
 refine ⟨w.heap.size,cvC w s,by rw [byL_len],Nat.le_refl _,by rw [cv_size];omega,by rw [byL_len];exact cv_cap w s,grownCap_le_maxLen w s.size 0 _ (by unfold maxLen;omega),fun j y hj=>?_,fun j hj=>cv_free w s j hj⟩;obtain ⟨h1,rfl⟩:=byL_at s j y hj;exact Lib.bytesWorld_cell w 5 s j h1
theorem below_setCells {B g:Nat} {w0:World} (hB:B≤g):∀ (vs:List Value) (o:Nat) (w:World),Below B w0 w→Below B w0 (w.setCells g o vs)
 | [],_,_,h=>h
 | v :: vs,o,w,h=>below_setCells hB vs (o+1) _ (h.trans (below_setCell w g o v hB))
theorem byteCells_byL (s:ByteArray):byteCells s=(byL s).map V8:=by
 unfold byteCells byL;rw [List.map_map]
 rfl
theorem run_append_M {w:World} {base:Nat} {v:Value} {bs new:List Int} (hown:OwnM w base v bs) (tx:TypeId) (x:Value) (ty:TypeId) (i0:TypeInfo)
  (hi:Tryz.prog.info? 5=some i0) (hz0:i0.zero=some (.int .u8 0)) (hz1:i0.size=1) (hz2:i0.bytes=1)
  (hs:Src Tryz.prog 1 tx x new.length (new.map V8) w) (hl:bs.length+new.length≤8000000) (hbase:base≤w.heap.size) :
  ∃ v' w',(Builtin.append_ #[100,tx] ty #[v,x]).run Tryz.prog w=.ok v' w'∧OwnM w' base v' (bs ++ new)∧Below base w w':=by
 obtain ⟨g,cap,rfl,hbg,hg,hc,hcm,hcell,hfree⟩:=hown
 by_cases hroom:bs.length+new.length≤cap
 ·have hr:=run_append_room_src (P:=Tryz.prog) (w:=w) 100 tx ty 5 i0 Tryz.underlying100 hi g 0 bs.length cap x new.length (new.map V8) (by rw [hz1];exact hs) hroom
   (fun j hj=>by rw [List.length_map] at hj;rw [hz1,Nat.mul_one,Nat.zero_add];exact (hfree _ (by omega)).1)
   (fun j hj=>by rw [List.length_map] at hj;rw [hz1,Nat.mul_one,Nat.zero_add];exact (hfree _ (by omega)).2)
  rw [hz1,Nat.mul_one,Nat.zero_add] at hr;have hbw:Below base w (w.setCells g bs.length (new.map V8)):=below_setCells hbg _ _ _ (Below.refl _ _);refine ⟨_,_,hr,⟨g,cap,by rw [List.length_append],hbg,Nat.lt_of_lt_of_le hg hbw.size,by rw [List.length_append];exact hroom,hcm,fun j y hj=>?_,fun j hj=>?_⟩,hbw⟩
  ·rw [List.map_append] at hj
   by_cases hjs:j < bs.length
   ·rw [World.cell?_setCells_out _ _ _ _ _ (fun _ _=>.inl hjs)]
    rw [List.getElem?_append_left (by simpa using hjs)] at hj;exact hcell j y hj
   ·obtain ⟨k,rfl⟩:∃ k,j=bs.length+k:=⟨j - bs.length,by omega⟩
    rw [List.getElem?_append_right (by simp)] at hj;simp only [List.length_map,Nat.add_sub_cancel_left] at hj;obtain ⟨hk,rfl⟩:=List.getElem?_eq_some_iff.1 hj;have hkn:k < new.length:=by simpa using hk
    exact World.cell?_setCells_in g (new.map V8) bs.length w (fun i hi=>(hfree _ (by rw [List.length_map] at hi;omega)).1) k hk
  ·exact ⟨World.isSome_setCells _ _ _ _ _ (hfree j hj).1,by rw [World.frozen?_setCells];exact (hfree j hj).2⟩
 ·have hr:=run_append_grow_src (P:=Tryz.prog) w 100 tx ty 5 i0 (.int .u8 0) Tryz.underlying100 hi hz0 (some ⟨g,0,none⟩) bs.length cap (bs.map V8)
   (by rw [hz1];exact run_firstCells_some w.drew 1 bs.length ⟨g,0,none⟩ bs.length cap (bs.map V8) (by simp) (by intro j y hj;have:=hcell j y hj;rw [Addr.add_mid,Nat.zero_add];simpa using this))
   x new.length (new.map V8) (by rw [hz1];exact hs) (by omega) (by omega) (by rw [hz2];exact growslice_fits (by omega) (by omega))
  have hge:=grownCap_ge w (bs.length+new.length) cap 5;have hcm2:grownCap w (bs.length+new.length) cap 5≤maxLen:=grownCap_le_maxLen w _ cap _ (by unfold maxLen;omega);generalize grownCap w (bs.length+new.length) cap 5=c2 at *;obtain ⟨cur,hcur⟩:∃ z,((bs.map V8 ++ new.map V8).toArray ++ Builtin.zeroCells (Value.int .u8 0).cells (c2 - (bs.length+new.length)):Array Value)=z:=⟨_,rfl⟩
  have hcs:cur.size=c2:=by
   have hz1:(Value.int IntKind.u8 0).cells.size=1:=rfl;rw [← hcur];simp only [Array.size_append,List.size_toArray,List.length_append,List.length_map,size_zeroCells,hz1]
   omega
  have hcj:∀ j y,((bs ++ new).map V8)[j]?=some y→cur[j]?=some y:=fun j y hj=>by
   rw [List.map_append] at hj;have hjl:=(List.getElem?_eq_some_iff.1 hj).1;rw [← hcur,Array.getElem?_append_left (by simpa using hjl)]
   simpa using hj
  rw [hcur] at hr;have hgn:=heap_alloc_new w.drew (.cells cur 5);have hbw:Below base w (w.drew.alloc (.cells cur 5)):=((Below.refl base w).drew).alloc (by simpa using hbase) _;refine ⟨_,_,hr,⟨w.heap.size,c2,by rw [List.length_append],hbase,by rw [World.size_alloc];simp,by rw [List.length_append];exact hge,hcm2,fun j y hj=>?_,fun j hj=>⟨?_,?_⟩⟩,hbw⟩
  ·rw [cell_of_row _ w.heap.size j cur _ _ hgn];exact hcj j y hj
  ·rw [cell_of_row _ w.heap.size j cur _ _ hgn,Array.getElem?_eq_getElem (by omega)];rfl
  ·have hgn':(w.drew.alloc (.cells cur 5)).heap[w.heap.size]?=some (.cells cur 5 (0,0)):=hgn
   unfold World.frozen?;rw [hgn']
   simp
theorem wpList_append_M {w:World} {ops:Array Oper} {rest:List Oper} {o:Oper} {a:Act} {Q:Exit→Act→World→Prop} (hgd:o.guard=none) (s x:Operand) (tx:TypeId)
  (ho:o.op=.call { callee:=.builtin .append,args:=#[s,x],argTypes:=#[100,tx] }) (i0:TypeInfo)
  (hi:Tryz.prog.info? 5=some i0) (hz0:i0.zero=some (.int .u8 0)) (hz1:i0.size=1) (hz2:i0.bytes=1)
  (base:Nat) (v:Value) (bs:List Int) (hs:a.eval s=v) (hown:OwnM w base v bs) (u:Value) (new:List Int) (hx:a.eval x=u) (hu:Src Tryz.prog 1 tx u new.length (new.map V8) w)
  (hl:bs.length+new.length≤8000000) (hbase:base≤w.heap.size)
  (h:∀ v' w',OwnM w' base v' (bs ++ new)→Below base w w'→wpList Tryz.prog ops Q rest (a.put o.dst v') w'):wpList Tryz.prog ops Q (o :: rest) a w:=by
 refine wpList_plain hgd fun K hK=>?_;obtain ⟨v',w',hr,h2,h3⟩:=run_append_M hown tx u o.type i0 hi hz0 hz1 hz2 hu hl hbase;unfold Oper.wp execOp;simp only [ho,resolve,invoke,builtin,Sem.run_bind,Sem.run_pure,Result.andThen_ok,List.map_toArray,List.map_cons,List.map_nil,hs,hx,hr];exact hK _ _ (h v' w' h2 h3)
theorem src_str (w:World) (s:ByteArray):Src Tryz.prog 1 9 (.string s) (byL s).length ((byL s).map V8) w:=by
 rw [byL_len,← byteCells_byL];exact Src.ofString w Tryz.underlying9 s
theorem src_one (w:World) (x:Int):Src Tryz.prog 1 100 (.slice (some ⟨w.heap.size,0,none⟩) 1 1) [x].length ([x].map V8) (w.alloc (.cells #[V8 x] 5)) :=
 Src.ofSlice _ Tryz.underlying100 ⟨w.heap.size,0,none⟩ 1 1 [V8 x] rfl (fun j y hj=>by
  have hj0:j=0:=by have:=(List.getElem?_eq_some_iff.1 hj).1;simpa using this
  subst hj0
  have:V8 x=y:=by simpa using hj
  subst this;rw [Addr.add_mid,Nat.zero_add];exact World.cell?_alloc_at _ _ _ _ rfl) (by simp [Value.oneCell'])
theorem bits_or_u32_nat (a b:Nat) (ha:a < 4294967296) (hb:b < 4294967296):bits .or .u32 (a:Int) (b:Int)=((a ||| b:Nat):Int):=by
 have hx:a ||| b < 2 ^ 32:=Nat.or_lt_two_pow (by omega) (by omega)
 have h1:(BitVec.ofInt 32 (a:Int)).toNat=a:=by
  rw [BitVec.ofInt_natCast,BitVec.toNat_ofNat];exact Nat.mod_eq_of_lt (by omega)
 have h2:(BitVec.ofInt 32 (b:Int)).toNat=b:=by
  rw [BitVec.ofInt_natCast,BitVec.toNat_ofNat];exact Nat.mod_eq_of_lt (by omega)
 show IntKind.u32.wrap ((BitVec.ofInt 32 (a:Int) ||| BitVec.ofInt 32 (b:Int)).toNat:Int)=_;rw [BitVec.toNat_or,h1,h2,IntKind.wrap_u32]
 omega
theorem bits_xor_u32_nat (a b:Nat) (ha:a < 4294967296) (hb:b < 4294967296):bits .xor .u32 (a:Int) (b:Int)=((a ^^^ b:Nat):Int):=by
 have hx:a ^^^ b < 2 ^ 32:=Nat.xor_lt_two_pow (by omega) (by omega)
 have h1:(BitVec.ofInt 32 (a:Int)).toNat=a:=by
  rw [BitVec.ofInt_natCast,BitVec.toNat_ofNat];exact Nat.mod_eq_of_lt (by omega)
 have h2:(BitVec.ofInt 32 (b:Int)).toNat=b:=by
  rw [BitVec.ofInt_natCast,BitVec.toNat_ofNat];exact Nat.mod_eq_of_lt (by omega)
 show IntKind.u32.wrap ((BitVec.ofInt 32 (a:Int) ^^^ BitVec.ofInt 32 (b:Int)).toNat:Int)=_;rw [BitVec.toNat_xor,h1,h2,IntKind.wrap_u32]
 omega
theorem or_sum (k a b:Nat) (hb:b < 2 ^ k) (h:2 ^ k * a+b < 4294967296):bits .or .u32 ((2 ^ k * a:Nat):Int) (b:Int)=((2 ^ k * a+b:Nat):Int):=by
 rw [bits_or_u32_nat _ _ (by omega) (by omega),Nat.two_pow_add_eq_or_of_lt hb]
def turnN:Nat→Nat→Nat
 | 0,x=>x
 | n+1,x=>turnN n x / 2+turnN n x % 2 * 2147483648
theorem turnN_eq (x:Nat):∀ k,k≤32→turnN k x=x / 2 ^ k+x % 2 ^ k * 2 ^ (32 - k):=by
 intro k
 induction k with
 | zero=>intro _;simp [turnN,Nat.mod_one]
 | succ k ih =>
  intro hk;have hq:2 ^ (k+1)=2 ^ k * 2:=Nat.pow_succ 2 k;have e:2 ^ (32 - k)=2 * 2 ^ (32 - (k+1)):=by rw [show 32 - k=(32 - (k+1))+1 by omega,Nat.pow_succ,Nat.mul_comm]
  have e2:2 ^ k * 2 ^ (32 - (k+1))=2147483648:=by rw [← Nat.pow_add,show k+(32 - (k+1))=31 by omega]
  rw [turnN,ih (by omega),hq,← Nat.div_div_eq_div_mul,Nat.mod_mul,e];generalize 2 ^ (32 - (k+1))=p at *;generalize 2 ^ k=q at *;have h1:x % q * (2 * p)=2 * (x % q * p):=by ac_rfl
  have h2:(x % q+q * (x / q % 2)) * p=x % q * p+(x / q % 2) * 2147483648:=by rw [Nat.add_mul,← e2];ac_rfl
  rw [h1,h2];generalize x % q * p=y;generalize x / q=z
  omega
theorem turnN_lt {x k:Nat} (hx:x < 4294967296):turnN k x < 4294967296:=by
 induction k with
 | zero=>exact hx
 | succ k ih=>rw [turnN];omega
theorem turnN_rot (x k:Nat) (h0:0 < k) (hk:k < 32) (hx:x < 4294967296):((turnN k x:Nat):Int)=rotW (x:Int) (32 - k):=by
 unfold rotW;rw [show 32 - (32 - k)=k by omega];have hp:0 < 2 ^ k:=Nat.two_pow_pos k;have e:2 ^ k * 2 ^ (32 - k)=4294967296:=by rw [← Nat.pow_add,show k+(32 - k)=32 by omega]
 have hq:0 < 2 ^ (32 - k):=Nat.two_pow_pos _
 have h1:x * 2 ^ (32 - k) % 4294967296=2 ^ (32 - k) * (x % 2 ^ k):=by
  rw [← e,Nat.mul_mod_mul_right,Nat.mul_comm]
 have h2:x / 2 ^ k < 2 ^ (32 - k):=by rw [Nat.div_lt_iff_lt_mul hp,Nat.mul_comm,e];exact hx
 have h3:x % 2 ^ k < 2 ^ k:=Nat.mod_lt _ hp
 have h4:2 ^ (32 - k) * (x % 2 ^ k)+x / 2 ^ k < 4294967296:=by
  have:2 ^ (32 - k) * (x % 2 ^ k+1)≤2 ^ (32 - k) * 2 ^ k:=Nat.mul_le_mul_left _ h3
  rw [Nat.mul_comm (2 ^ (32 - k)) (2 ^ k),e,Nat.mul_add] at this
  omega
 have h5:=or_sum (32 - k) (x % 2 ^ k) (x / 2 ^ k) h2 h4;have c1:(x:Int) * 2 ^ (32 - k) % 4294967296=((2 ^ (32 - k) * (x % 2 ^ k):Nat):Int):=by rw [← h1,Int.natCast_emod,Int.natCast_mul,Int.natCast_pow];rfl
 have c2:(x:Int) / 2 ^ k=((x / 2 ^ k:Nat):Int):=by rw [Int.natCast_ediv,Int.natCast_pow];rfl
 rw [c1,c2,h5,turnN_eq x k (by omega)];rw [Nat.mul_comm (x % 2 ^ k),Nat.add_comm]
def W32 (x:Int):Prop:=0≤x∧x < 4294967296
theorem W32.nat {x:Int} (h:W32 x):∃ n:Nat,x=n∧n < 4294967296:=⟨x.toNat,by have:=h.1;omega,by have:=h.2;have:=h.1;omega⟩
theorem w32_mod (x:Int):W32 (x % 4294967296):=⟨by omega,by omega⟩
theorem not_word {x:Int} (h:W32 x):bits BinOp.xor .u32 4294967295 x=4294967295 - x:=by
 obtain ⟨n,rfl,hn⟩:=h.nat
 have:=bits_xor_u32_nat 4294967295 n (by omega) hn
 have e:4294967295 ^^^ n=4294967295 - n:=by
  have h:(BitVec.allOnes 32 ^^^ BitVec.ofNat 32 n).toNat=(~~~ (BitVec.ofNat 32 n)).toNat:=by rw [BitVec.allOnes_xor]
  rw [BitVec.toNat_xor,BitVec.toNat_not,BitVec.toNat_allOnes,BitVec.toNat_ofNat,Nat.mod_eq_of_lt (by omega)] at h;exact h
 rw [e] at this;rw [show ((4294967295:Int))=((4294967295:Nat):Int) by rfl,this]
 omega
theorem word4_eq {a b c d:Int} (ha:0≤a∧a < 256) (hb:0≤b∧b < 256) (hc:0≤c∧c < 256) (hd:0≤d∧d < 256):word4 a b c d=((a * 256+b) * 256+c) * 256+d:=by
 obtain ⟨a,rfl⟩:=Int.eq_ofNat_of_zero_le ha.1;obtain ⟨b,rfl⟩:=Int.eq_ofNat_of_zero_le hb.1;obtain ⟨c,rfl⟩:=Int.eq_ofNat_of_zero_le hc.1;obtain ⟨d,rfl⟩:=Int.eq_ofNat_of_zero_le hd.1;unfold word4;have h1:(a:Int) * 16777216 % 4294967296=((2 ^ 24 * a:Nat):Int):=by omega
 have h2:(b:Int) * 65536 % 4294967296=((2 ^ 16 * b:Nat):Int):=by omega
 have h3:(c:Int) * 256 % 4294967296=((2 ^ 8 * c:Nat):Int):=by omega
 have g1:=or_sum 24 a (2 ^ 16 * b) (by omega) (by omega);have g2:=or_sum 16 (2 ^ 8 * a+b) (2 ^ 8 * c) (by omega) (by omega);have g3:=or_sum 8 (2 ^ 16 * a+2 ^ 8 * b+c) d (by omega) (by omega);rw [h1,h2,h3,g1,show 2 ^ 24 * a+2 ^ 16 * b=2 ^ 16 * (2 ^ 8 * a+b) by omega,g2,show 2 ^ 16 * (2 ^ 8 * a+b)+2 ^ 8 * c=2 ^ 8 * (2 ^ 16 * a+2 ^ 8 * b+c) by omega,g3]
 omega
theorem blocks_app (V A B:List Int) (k:Nat) (hA:A.length=64 * k):∀ m,blocksL (blocksL V A k) B m=blocksL V (A ++ B) (k+m):=by
 have h0:∀ j,j≤k→blocksL V (A ++ B) j=blocksL V A j:=by
  intro j
  induction j with
  | zero=>intro _;rfl
  | succ j ih =>
   intro hj;rw [blocksL,blocksL,ih (by omega)]
   congr 1
   rw [List.drop_append_of_le_length (by omega),List.take_append_of_le_length (by rw [List.length_drop];omega)]
 intro m
 induction m with
 | zero=>exact (h0 k (Nat.le_refl _)).symm
 | succ m ih =>
  rw [blocksL,ih,show k+(m+1)=(k+m)+1 by omega,blocksL]
  congr 1
  rw [show 64 * (k+m)=A.length+64 * m by omega,List.drop_append,(show A.drop (A.length+64 * m)=[] from List.drop_eq_nil_of_le (by omega)),List.nil_append,show A.length+64 * m - A.length=64 * m by omega]
def wholeL (bs:List Int):List Int:=bs ++ [128] ++ List.replicate (padN (bs.length % 64)) 0 ++ lenL (IntKind.u64.wrap (IntKind.u64.wrap bs.length * 8)) 8
theorem lenL_len (N:Int) (k:Nat):(lenL N k).length=k:=by simp [lenL]
theorem padN_sum (n:Nat) (h:n < 64):n+1+padN n+8=64∨n+1+padN n+8=128:=by unfold padN;split <;> omega
theorem wholeL_len (bs:List Int):64 ∣ (wholeL bs).length:=by
 have h:=padN_sum (bs.length % 64) (Nat.mod_lt _ (by omega));unfold wholeL;simp only [List.length_append,List.length_replicate,lenL_len,List.length_singleton]
 omega
theorem of_whole (bs:List Int):ofL bs=outL (blocksL startL (wholeL bs) ((wholeL bs).length / 64)) 32:=by
 have hd:(bs.drop (64 * (bs.length / 64))).length=bs.length % 64:=by rw [List.length_drop];omega
 have ht:(bs.take (64 * (bs.length / 64))).length=64 * (bs.length / 64):=by rw [List.length_take];omega
 unfold ofL sumOut
 congr 1
 rw [hd]
 have hb:blocksL startL bs (bs.length / 64)=blocksL startL (bs.take (64 * (bs.length / 64))) (bs.length / 64):=by
  have:=blocks_app startL (bs.take (64 * (bs.length / 64))) (bs.drop (64 * (bs.length / 64))) (bs.length / 64) ht 0
  rw [List.take_append_drop] at this;exact this.symm
 rw [hb,blocks_app _ _ _ _ ht]
 have e:bs.take (64 * (bs.length / 64)) ++ padL (bs.drop (64 * (bs.length / 64))) (padN (bs.length % 64)) bs.length=wholeL bs:=by
  unfold padL wholeL;simp only [← List.append_assoc,List.take_append_drop]
 have hl:(wholeL bs).length=64 * (bs.length / 64)+(padL (bs.drop (64 * (bs.length / 64))) (padN (bs.length % 64)) bs.length).length:=by
  rw [← e,List.length_append,ht]
 rw [e,hl]
 congr 1
 omega
set_option maxHeartbeats 800000 in
theorem rturn_any (x n:Nat) (w:World) (hx:x < 4294967296) (hn:n≤32) :
  Calls Tryz.prog 129 #[.int .u32 (x:Int),.int .i64 (n:Int)] w fun e w'=>e=.returned (.int .u32 ((turnN n x:Nat):Int))∧w=w':=by
 go_enter Tryz.func129,Tryz.ntmps129
 go_wp2
 go_loop [0,5] (fun vx vi=>∃ k:Nat,k≤n∧vi=.int .i64 k∧vx=.int .u32 ((turnN k x:Nat):Int)) (fun _ vi=>n - (intOf vi).toNat)
 case atStart=>exact ⟨0,Nat.zero_le _,rfl,rfl⟩
 case round =>
  obtain ⟨k,hk,rfl,rfl⟩:=hrel;have hlt:=turnN_lt (k:=k) hx;have HS:Hid (turnN (k+1) x=turnN k x / 2+turnN k x % 2 * 2147483648):=Lib.hid rfl
  by_cases hkn:k < n
  ·generalize turnN k x=y at *
   have h0:(0:Int)≤(y:Int):=by omega
   have h1:(y:Int) < 4294967296:=by omega
   have hy:IntKind.u32.wrap ((y:Int) / 2+(y:Int) % 2 * 2147483648)=(y:Int) / 2+(y:Int) % 2 * 2147483648:=by rw [IntKind.wrap_u32'];omega
   have hz:IntKind.u32.wrap ((y:Int) % 2 * 2147483648)=(y:Int) % 2 * 2147483648:=by rw [IntKind.wrap_u32'];omega
   go_wp2
   go_round
   case rel=>exact ⟨k+1,by omega,by go_num,by rw [HS.out];first | rfl | (congr 1;omega)⟩
   case measure=>(simp [intOf];try omega)
  ·obtain rfl:k=n:=by omega
   go_wp2;go_ret;exact ⟨rfl,rfl⟩
set_option maxHeartbeats 1600000 in
set_option maxRecDepth 100000 in
theorem rstart_any (w:World):Calls Tryz.prog 115 #[] w fun e w'=>e=.returned (.agg startV)∧Below w.heap.size w w':=by
 go_enter Tryz.func115,Tryz.ntmps115
 go_wp2;refine bodyPost_ret (results_cell_row rfl _ _ w.heap.size 157 startV (0,0) (.array 8 34) rfl (heap_alloc_new _ _) Tryz.underlying157 rfl (by kernel_rfl)) rfl ?_;exact ⟨rfl,(Below.refl _ _).alloc (Nat.le_refl _) _⟩
set_option maxHeartbeats 1600000 in
set_option maxRecDepth 100000 in
theorem rkeys_any (w:World):Calls Tryz.prog 116 #[] w fun e w'=>e=.returned (.agg keysV)∧Below w.heap.size w w':=by
 go_enter Tryz.func116,Tryz.ntmps116
 go_upto_region 1 with fail;have h1:∃ z:Array Value,z.size=64∧(w.alloc (.cells (Array.replicate 64 (V32 0)) 159)).heap[w.heap.size]?=some (.cells z 159 (0,0)):=⟨_,by simp,heap_alloc_new _ _⟩;have hb:=(Below.refl w.heap.size w).alloc (Nat.le_refl _) (.cells (Array.replicate 64 (V32 0)) 159);change Code.wp _ _ _ _ (w.alloc (.cells (Array.replicate 64 (V32 0)) 159));generalize w.alloc (.cells (Array.replicate 64 (V32 0)) 159)=w0 at *;obtain ⟨z,hz,hg⟩:=h1
 apply wp_region_lit
 refine wpList_build rfl 159 _ rfl (by kernel_rfl) ?_;refine wpList_store_row rfl 159 (.tmp 0) (.tmp 1) rfl w.heap.size keysV rfl (by kernel_rfl) 159 z hg (by kernel_rfl) hz (by kernel_rfl) ?_;have hg2:=setRow_heap w0 w.heap.size z keysV _ _ hg;have hb2:Below w.heap.size w (w0.setRow w.heap.size keysV):=below_setRow hb (Nat.le_refl _) _;generalize w0.setRow w.heap.size keysV=w1 at *;generalize (Tryz.prog.built 159 _).getD #[]=X;simp only [Act.put,aS1,aS2,aS3];show Exit.then _ _ Exit.normal _ _;simp only [Exit.then];refine (by assumption:∀ (a:Act) (w:World),Code.wp _ Code.ret _ a w→_) _ _ ?_;go_wp2;refine bodyPost_ret (results_cell_row rfl _ _ w.heap.size 159 keysV (0,0) (.array 64 34) rfl hg2 Tryz.underlying159 rfl (by kernel_rfl)) rfl ?_;exact ⟨rfl,hb2⟩
end Go.Proofs.YtipnhpfpppblhaaGreat
