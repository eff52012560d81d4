/- What several claims of this seat share: contracts of the functions that they reach. -/
import Derived.Test.YtipnhpfpppblhaaGreatQ13P3
import Derived.Test.YtipnhpfpppblhaaGreatShelf
import Derived.Sort.WalkA
import Derived.Sort.AssemblyPlain
import Derived.WalkKit
import Derived.BigGuard
import Derived.BigCall
import Derived.CellFam
import Derived.Deep.Draws
import Derived.Deep.QuietTactic
import Derived.BigQuiet
import Derived.Shelf.SlIter.Collect
import Derived.RangeFuncFrom
import Derived.RangeFuncBox
import Derived.RangeFuncNested
import Derived.Maps.OwnIn
import Derived.Sort.OwnSorted
import Derived.Lib.Hide
import Derived.DeepKeys4
import Derived.Maps.Ext
import Derived.Maps.OwnOps
import Derived.Test.YtipnhpfpppblhaaGreatRows
import Derived.WalkSpells
import Derived.Laws.Rows
import Derived.Laws.Tables
import Derived.Laws.CopyOwn
import Derived.Deep.DeepCutAuto
import Derived.StillTailTactics
import Derived.Deep.RegionHeld3
import Derived.Lib.SliceRun
import Derived.Shelf.Spec.SlicesGrow
import Derived.Laws.AppendOwn
import Derived.Deep.LoopGhost
import Derived.Lib.ConvBytes
import Derived.Lib.JoinLaws
import Derived.Great.Walk

namespace Go.Proofs.YtipnhpfpppblhaaGreat
open Go.RowKit
theorem exec_loadN {o:Oper} {a:Act} {w:World} (x:Operand) (ho:o.op=.load 143 x) (b i:Nat) (hx:a.eval x=.pointer (some ⟨b,i,none⟩)) (cs:List Value) (hc:w.rangeAt b i cs) (hl:cs.length=258):(execOp a.eval o).run Tryz.prog w=.ok (.value (.agg cs.toArray)) w:=by
 unfold execOp;simp only [ho,hx];rw [Sem.run_bind,run_loadAt_mid w b i 143 cs _ hc Tryz.underlying143 rfl (by rw [hl];exact node_size)]
 rfl
set_option maxHeartbeats 1600000 in
set_option maxRecDepth 100000 in
theorem fine6_any (m:Mt) (w:World) (hf:MtFit m):Calls Tryz.prog 76 #[.agg #[.string m.nm,.int .i64 m.op,.string m.val]] w fun e w'=>e=.returned (.bool (fineM m))∧Below w.heap.size w w':=by
 have kr:=fun W=>rread_any m.val W;have hz:=hf.2;have HF:Hid (fineM m=(nameL (B m.nm)&&decide (0≤m.op)&&decide (m.op≤3)&&decide (m.val.size≤200)&&(decide (m.op < 2) || decide (errM m.val=0)))):=Lib.hid rfl;have kn0:=refName.name_any m.nm (w.alloc (.cells #[.string m.nm,.int .i64 m.op,.string m.val] 92)) hf.1;obtain ⟨nm,op,val⟩:=m;dsimp only at *;generalize fineM ⟨nm,op,val⟩=R at *;generalize nameL (B nm)=N at *;have HR:=Lib.hid kr;unfold maxLen at hz;have hbx:=box3m (Below.refl _ (w.alloc (.cells #[.string nm,.int .i64 op,.string val] 92)));clear hf kr
 go_enter Tryz.func76,Tryz.ntmps76
 go_wp2_with fail
 refine kn0.mono ?_;rintro e w1 ⟨rfl,hw1⟩;obtain ⟨⟨x0,x1,x2⟩,hlt,hB1⟩:=hbx;rw [hw1] at x0 x1 x2 hlt hB1;have HB:=Lib.hid hB1;clear kn0 hw1 hB1
 cases N with
 | false =>
  go_wp2;go_ret;exact ⟨by rw [HF.out];rfl,HB.out⟩
 | true =>
  by_cases h0:op < 0
  ·rw [show decide (0≤op)=false from decide_eq_false (by omega)] at HF
   go_wp2;go_ret;exact ⟨by rw [HF.out];rfl,HB.out⟩
  ·rw [show decide (0≤op)=true from decide_eq_true (by omega)] at HF
   by_cases h3:3 < op
   ·rw [show decide (op≤3)=false from decide_eq_false (by omega)] at HF
    go_wp2;go_ret;exact ⟨by rw [HF.out];rfl,HB.out⟩
   ·rw [show decide (op≤3)=true from decide_eq_true (by omega)] at HF
    by_cases hs:200 < val.size
    ·rw [show decide (val.size≤200)=false from decide_eq_false (by omega)] at HF
     have hsi:(200:Int) < (val.size:Int):=by omega
     go_wp2;go_ret;exact ⟨by rw [HF.out];rfl,HB.out⟩
    ·rw [show decide (val.size≤200)=true from decide_eq_true (by omega)] at HF
     have hsi:(val.size:Int)≤200:=by omega
     have kr:=HR.out w1;have hde:Hid ((errM val==0)=decide (errM val=0)):=Lib.hid (by rw [Bool.eq_iff_iff];simp);generalize errM val=E at *;go_wp2_with fail
     refine kr.mono ?_;rintro e w2 ⟨cs,rfl,hl,hone,-,hb2⟩;have hlt2:=hb2.size;have y1:=kCq x1 hb2 hlt
     have HBN:Hid (Below w.heap.size w ((w2.alloc (.cells (zeroN 0) 143)).setCells w2.heap.size 0 cs)):=Lib.hid (by
      have h1:=HB.out.trans (hb2.mono HB.out.size);exact below_puts (h1.trans ((aBq w2 _).mono h1.size)) (by have:=h1.size;omega) _)
     have HY1:Hid (((w2.alloc (.cells (zeroN 0) 143)).setCells w2.heap.size 0 cs).cell? ⟨w.heap.size,1,none⟩=some (.int .i64 op)):=Lib.hid ((World.cell?_of_block (a:=⟨w.heap.size,1,none⟩) (heap_setCells _ _ _ (by show w.heap.size≠w2.heap.size;omega) _ _)).trans (kCq y1 (aBq w2 _) (by omega)));have HTH:=Lib.hid (there_new w2 0 143);clear kr x0 x1 x2 y1
     go_upto_region 4 with (first
      | (with_reducible refine wpList_allocN rfl rfl _ rfl w2.heap.size rfl ?_)
      | ((with_reducible refine wpList_storeN rfl _ _ rfl _ rfl w2.heap.size 0 cs ?hx ?hy ?ht hl hone ?_);(case hx=>rfl);(case hy=>rfl);(case ht=>exact HTH.out)))
     (try simp only [Act.put,aS1,aS2,aS3])
     refine wp_forget3 (fun W=>W.cell? ⟨w.heap.size,1,none⟩=some (.int .i64 op)∧Below w.heap.size w W) ⟨HY1.out,HBN.out⟩ (fun w3 hw3=>?_);obtain ⟨y1,hB3⟩:=hw3;have HB3:=Lib.hid hB3;clear HBN HY1 HTH hB3 hb2
     by_cases h2:op < 2
     ·rw [show decide (op < 2)=true from decide_eq_true h2] at HF
      go_wp2;go_ret;exact ⟨by rw [HF.out];rfl,HB3.out⟩
     ·rw [show decide (op < 2)=false from decide_eq_false h2] at HF
      go_wp2;go_ret
      exact ⟨by rw [HF.out,← hde.out];first | rfl | (simp),HB3.out⟩
theorem valueF_at {l:List Fld} {n:ByteArray} {i:Nat} (h:i < l.length) (hb:∀ j (hj:j < l.length),j < i→(l[j].1.toList==n.toList)=false) (he:(l[i].1.toList==n.toList)=true):valueF l n=l[i].2:=by
 unfold valueF
 have:(l.find? fun f=>f.1.toList==n.toList)=some l[i]:=by
  rw [List.find?_eq_some_iff_getElem];exact ⟨he,i,h,rfl,fun j hj=>by rw [hb j (by omega) hj];rfl⟩
 rw [this]
theorem valueF_no {l:List Fld} {n:ByteArray} (hb:∀ j (hj:j < l.length),(l[j].1.toList==n.toList)=false):valueF l n=⟨#[]⟩:=by
 unfold valueF
 have:(l.find? fun f=>f.1.toList==n.toList)=none:=by
  rw [List.find?_eq_none];intro x hx;obtain ⟨j,hj,rfl⟩:=List.getElem_of_mem hx;rw [hb j hj]
  decide
 rw [this]
set_option maxHeartbeats 1600000 in
set_option maxRecDepth 100000 in
theorem val6_any (l:List Fld) (n:ByteArray) (w:World) (v:Value) (hv:FldsAt w v l) (hl:l.length≤1000000) :
  Calls Tryz.prog 68 #[v,.string n] w fun e w'=>e=.returned (.string (valueF l n))∧Below w.heap.size w w':=by
 obtain ⟨a,c,rfl,hc,hr⟩:=RdAt.shape hv;have HR:=Lib.hid hr;clear hr hv
 go_enter Tryz.func68,Tryz.ntmps68
 go_wp2
 go_loopw [5] (fun i wr=>∃ k:Nat,k≤l.length∧i=.int .i64 (k:Nat)∧Hid (∀ j (hj:j < l.length),j < k→(l[j].1.toList==n.toList)=false)∧Below w.heap.size w wr) (fun i _=>l.length+1 - (intOf i).toNat)
 case atStart=>exact ⟨0,Nat.zero_le _,rfl,Lib.hid (fun j _ hj=>absurd hj (Nat.not_lt_zero j)),Below.refl _ _⟩
 case round =>
  obtain ⟨k,hk,rfl,HT,hbr⟩:=hrel
  by_cases hkl:k < l.length
  ·obtain ⟨b,o,rfl,hb,hcell⟩:=HR.out (by omega)
   have HV:=Lib.hid (fun he=>valueF_at (n:=n) hkl HT.out he)
   have HNO:Hid ((l[k].1.toList==n.toList)=false→∀ j (hj:j < l.length),j < k+1→(l[j].1.toList==n.toList)=false):=Lib.hid (fun he j hj h2=>by
    by_cases e:j=k
    ·subst e;exact he
    ·exact HT.out j hj (by omega))
   obtain ⟨x,hxe⟩:∃ x,l[k].1=x:=⟨_,rfl⟩;obtain ⟨y,hye⟩:∃ y,l[k].2=y:=⟨_,rfl⟩;obtain ⟨hx0,hy0⟩:=fldCells_at l k hkl;rw [hxe] at hx0 HV HNO;rw [hye] at hy0 HV;have a0:wr.cell? ⟨b,o+k * 2,none⟩=some (.string x):=kCq (hcell _ _ hx0) hbr hb;have a1:wr.cell? ⟨b,o+k * 2+1,none⟩=some (.string y):=kCq (by have:=hcell _ _ hy0;rwa [← Nat.add_assoc] at this) hbr hb;have hi0:(0:Int)≤(k:Int):=by omega
   have hi1:(k:Int) < (l.length:Int):=by omega
   have HBR:=Lib.hid hbr;clear hcell hx0 hy0 hbr hxe hye HT
   cases he:(x.toList==n.toList) with
   | true =>
    rw [he] at HV;go_wp2;go_ret
    exact ⟨by first | (rw [HV.out (by trivial)];done) | (rw [HV.out (by trivial)];rfl),HBR.out⟩
   | false =>
    rw [he] at HNO;go_wp2;go_roundw
    case rel=>exact ⟨k+1,by omega,by go_num,Lib.hid (HNO.out (by trivial)),HBR.out⟩
    case measure=>(simp [intOf];try omega)
  ·have HV:=Lib.hid (valueF_no (n:=n) (fun j hj=>HT.out j hj (by omega)))
   have hi1:¬ (k:Int) < (l.length:Int):=by omega
   have HBR:=Lib.hid hbr;clear HT hbr;go_wp2;go_ret
   exact ⟨by first | (rw [HV.out];done) | (rw [HV.out];rfl),HBR.out⟩
theorem opM_fit {m:Mt} {v:ByteArray} {b:Bool} (h0:errM m.val=0) (hb:b=true↔Lr (reT m.val) (bytesN v)):b=fitB m.val v:=by
 rw [Bool.eq_iff_iff,fitB_iff,fits_re,hb];exact ⟨fun h=>⟨h0,h⟩,fun h=>h.2⟩
set_option maxHeartbeats 3200000 in
set_option maxRecDepth 100000 in
theorem fit6_any (l:List Fld) (m:Mt) (v:Value) (w:World) (hv:FldsAt w v l) (hl:l.length≤1000000) (hvs:(valueF l m.nm).size≤900) (hf:MtFit m) :
  Calls Tryz.prog 97 #[v,.agg #[.string m.nm,.int .i64 m.op,.string m.val]] w fun e w'=>e=.returned (.bool (fitM l m))∧Below w.heap.size w w':=by
 obtain ⟨fa,fc,rfl,_,_⟩:=RdAt.shape hv;have hba:=aBq w (.cells #[.string m.nm,.int .i64 m.op,.string m.val] 92);have kf:=fine6_any m (w.alloc (.cells #[.string m.nm,.int .i64 m.op,.string m.val] 92)) hf;have KV:=Lib.hid (fun W (h:Below w.heap.size w W)=>val6_any l m.nm W _ (hv.later h) hl);have KR:=Lib.hid (fun W=>rread_any m.val W);have HM:Hid (fitM l m=(fineM m&&opM m (valueF l m.nm))):=Lib.hid rfl;have HO:Hid (opM m (valueF l m.nm)=if m.op=0 then (valueF l m.nm).toList==m.val.toList else if m.op=1 then !((valueF l m.nm).toList==m.val.toList) else if m.op=2 then fitB m.val (valueF l m.nm) else !(fitB m.val (valueF l m.nm))):=Lib.hid rfl;have HFT:=Lib.hid (fun h=>@fineM_true m h);have HOF:=Lib.hid (fun b h0 hb=>@opM_fit m (valueF l m.nm) b h0 hb);have KF:=Lib.hid (fun W P cs a h hl=>rtree_any W P cs a (valueF l m.nm) h hl hvs);obtain ⟨nm,op,val⟩:=m;dsimp only at *;generalize fitM l ⟨nm,op,val⟩=R at *;generalize opM ⟨nm,op,val⟩ (valueF l nm)=OM at *;generalize fineM ⟨nm,op,val⟩=N at *;generalize valueF l nm=vv at *;generalize l.length=ln at *;have HB0:=Lib.hid hba;clear hv hba hf
 go_enter Tryz.func97,Tryz.ntmps97
 have hbx:=box3m (Below.refl _ (w.alloc (.cells #[.string nm,.int .i64 op,.string val] 92)));obtain ⟨⟨x0,x1,x2⟩,hlt,-⟩:=hbx;go_wp2_with fail
 refine kf.mono ?_;rintro e w1 ⟨rfl,hb1⟩;have hb0:=HB0.out.trans (hb1.mono HB0.out.size);have y0:=kCq x0 hb1 hlt;have y1:=kCq x1 hb1 hlt;have y2:=kCq x2 hb1 hlt;have hlt1:w.heap.size < w1.heap.size:=by have:=hb1.size;omega
 have HB1:=Lib.hid hb0;clear kf hb1 x0 x1 x2 hlt hb0 HB0
 cases N with
 | false =>
  go_wp2;go_ret;exact ⟨by rw [HM.out];rfl,HB1.out⟩
 | true =>
  obtain ⟨-,h0,h3,-,h5⟩:=HFT.out rfl;have kv:=KV.out w1 HB1.out;clear HFT KV;go_wp2_with fail
  refine kv.mono ?_;rintro e w2 ⟨rfl,hb2⟩;have z0:=kCq y0 hb2 hlt1;have z1:=kCq y1 hb2 hlt1;have z2:=kCq y2 hb2 hlt1;have hlt2:w.heap.size < w2.heap.size:=by have:=hb2.size;omega
  have HB2:=Lib.hid (HB1.out.trans (hb2.mono HB1.out.size));clear kv hb2 y0 y1 y2 hlt1 HB1
  by_cases h2:op < 2
  ·by_cases e0:op=0
   ·subst e0
    have HO2:Hid (OM=(vv.toList==val.toList)):=Lib.hid (by rw [HO.out,if_pos rfl]);go_wp2;go_ret;exact ⟨by rw [HM.out,HO2.out,Bool.true_and];rfl,HB2.out⟩
   ·obtain rfl:op=1:=by omega
    have HO2:Hid (OM=!(vv.toList==val.toList)):=Lib.hid (by rw [HO.out,if_neg (by decide),if_pos rfl]);go_wp2;go_ret;exact ⟨by rw [HM.out,HO2.out,Bool.true_and];rfl,HB2.out⟩
  ·have hE0:errM val=0:=by rcases h5 with h | h;(· exact absurd h h2);exact h
   have kr:=KR.out w2;have HE0:=Lib.hid hE0;rw [hE0] at kr;clear h5 hE0;go_wp2_with fail
   refine kr.mono ?_;rintro e w3 ⟨cs,rfl,hln,hone,hna,hb3⟩;have hna:=hna (by trivial);have u1:=kCq z1 hb3 hlt2;have hlt3:w.heap.size < w3.heap.size:=by have:=hb3.size;omega
   have hb3':=HB2.out.trans (hb3.mono HB2.out.size);have hnd:NdAt ((w3.alloc (.cells (zeroN 0) 143)).setCells w3.heap.size 0 cs) w3.heap.size cs:=(NdAt.new w3 0 143).stored hln;have HTH:=Lib.hid (there_new w3 0 143);have HBN:Hid (Below w.heap.size w ((w3.alloc (.cells (zeroN 0) 143)).setCells w3.heap.size 0 cs)):=Lib.hid (below_puts (hb3'.trans ((aBq w3 _).mono hb3'.size)) (by omega) _);have HY1:Hid (((w3.alloc (.cells (zeroN 0) 143)).setCells w3.heap.size 0 cs).cell? ⟨w.heap.size,1,none⟩=some (.int .i64 op)):=Lib.hid ((World.cell?_of_block (a:=⟨w.heap.size,1,none⟩) (heap_setCells _ _ _ (by show w.heap.size≠w3.heap.size;omega) _ _)).trans (kCq u1 (aBq w3 _) (by omega)));have HNA:Hid (NA ((w3.alloc (.cells (zeroN 0) 143)).setCells w3.heap.size 0 cs) (fun q=>w2.heap.size≤q∧q < w3.heap.size) 0 [cs] (reT val)):=Lib.hid ((hna.later (aBq w3 _)).keep (by rw [size_setCells];exact Nat.le_refl _) (fun q hq _=>heap_setCells _ _ _ (by omega) _ _));have HND0:=Lib.hid hnd;have HLN:=Lib.hid hln;have HON:=Lib.hid hone;clear kr z0 z1 z2 u1 hna hnd hb3 hb3' hln hone
   go_upto_region 7 with (first
    | (with_reducible refine wpList_allocN rfl rfl _ rfl w3.heap.size rfl ?_)
    | ((with_reducible refine wpList_storeN rfl _ _ rfl _ rfl w3.heap.size 0 cs ?hx ?hy ?ht HLN.out HON.out ?_);(case hx=>rfl);(case hy=>rfl);(case ht=>exact HTH.out)))
   (try simp only [Act.put,aS1,aS2,aS3])
   have hsz4:w.heap.size < ((w3.alloc (.cells (zeroN 0) 143)).setCells w3.heap.size 0 cs).heap.size:=by rw [size_setCells,World.size_alloc];omega
   clear HTH HB2;generalize ((w3.alloc (.cells (zeroN 0) 143)).setCells w3.heap.size 0 cs)=w4 at *;generalize w3.heap.size=nb at *;have HND:=HND0;have HOP:=HY1;have HWL:=Lib.hid hsz4;clear HND0 HY1 hsz4
   rcases (show op=2∨op=3 by omega) with rfl | rfl
   ·have HO2:Hid (OM=fitB val vv):=Lib.hid (by rw [HO.out];rfl)
    refine wp_region_held_drew (S:=(fun W=>W.rangeAt nb 0 cs∧W.cell? ⟨w.heap.size,1,none⟩=some (.int .i64 2))) (by kernel_rfl) ⟨HND.out.at_,HOP.out⟩ (fun hHeld=>?_);refine hT (i:=0) (v:=?_) rfl rfl hHeld ?_ ?_;rotate_left
    ·rintro wh ⟨z0,-⟩
     refine exec_loadN (.tmp 6) ?_ nb 0 ?_ cs z0 HLN.out <;> rfl
    simp only [Act.put,aS1,aS2,aS3];refine plIn [1,3,4,5] ?_
    iterate 4
     refine hP (v:=?_) rfl rfl hHeld ?_ ?_;rotate_left
     ·rintro wh ⟨z0,z1⟩
      go_simp
      (try with_reducible rfl)
     simp only [Act.put,aS1,aS2,aS3]
    refine plOut ?_;refine held_step (i:=2) rfl (by kernel_rfl) (fun K hK=>?_);go_simp;refine (KF.out _ _ _ _ (HNA.out.later ((Below.refl w4.heap.size w4).drew)) HLN.out).mono ?_;rintro e w6 ⟨b,rfl,hb,hbl⟩;have HBB:=Lib.hid hb;have HBL:=Lib.hid (((Below.refl w4.heap.size w4).drew).trans (hbl.mono ((Below.refl w4.heap.size w4).drew).size));clear hb hbl;refine hK.out _ _ ⟨range_later HND.out.at_ HBL.out HND.out.lt,kCq HOP.out HBL.out HWL.out⟩ (fun hHeld=>?_);clear hK K
    (try simp only [Act.put,aS1])
    refine plIn [6,7] ?_
    iterate 2
     refine hP (v:=?_) rfl rfl hHeld ?_ ?_;rotate_left
     ·rintro wh ⟨z0,z1⟩
      go_simp
      (try with_reducible rfl)
     simp only [Act.put,aS1,aS2,aS3]
    refine plOut ?_;refine wpAnyH_done (by kernel_rfl) ?_ _;have hb:=HOF.out b HE0.out HBB.out;clear HBB;subst hb;go_wp2;go_ret
    exact ⟨by rw [HM.out,HO2.out];cases fitB val vv <;> rfl,HBN.out.trans (HBL.out.mono HBN.out.size)⟩
   ·have HO2:Hid (OM=!(fitB val vv)):=Lib.hid (by rw [HO.out];rfl)
    refine wp_region_held_drew (S:=(fun W=>W.rangeAt nb 0 cs∧W.cell? ⟨w.heap.size,1,none⟩=some (.int .i64 3))) (by kernel_rfl) ⟨HND.out.at_,HOP.out⟩ (fun hHeld=>?_);refine hT (i:=0) (v:=?_) rfl rfl hHeld ?_ ?_;rotate_left
    ·rintro wh ⟨z0,-⟩
     refine exec_loadN (.tmp 6) ?_ nb 0 ?_ cs z0 HLN.out <;> rfl
    simp only [Act.put,aS1,aS2,aS3];refine plIn [1,3,4,5] ?_
    iterate 4
     refine hP (v:=?_) rfl rfl hHeld ?_ ?_;rotate_left
     ·rintro wh ⟨z0,z1⟩
      go_simp
      (try with_reducible rfl)
     simp only [Act.put,aS1,aS2,aS3]
    refine plOut ?_;refine held_step (i:=2) rfl (by kernel_rfl) (fun K hK=>?_);go_simp;refine (KF.out _ _ _ _ (HNA.out.later ((Below.refl w4.heap.size w4).drew)) HLN.out).mono ?_;rintro e w6 ⟨b,rfl,hb,hbl⟩;have HBB:=Lib.hid hb;have HBL:=Lib.hid (((Below.refl w4.heap.size w4).drew).trans (hbl.mono ((Below.refl w4.heap.size w4).drew).size));clear hb hbl;refine hK.out _ _ ⟨range_later HND.out.at_ HBL.out HND.out.lt,kCq HOP.out HBL.out HWL.out⟩ (fun hHeld=>?_);clear hK K
    (try simp only [Act.put,aS1])
    refine plIn [6,7] ?_
    iterate 2
     refine hP (v:=?_) rfl rfl hHeld ?_ ?_;rotate_left
     ·rintro wh ⟨z0,z1⟩
      go_simp
      (try with_reducible rfl)
     simp only [Act.put,aS1,aS2,aS3]
    refine plOut ?_;refine wpAnyH_done (by kernel_rfl) ?_ _;have hb:=HOF.out b HE0.out HBB.out;clear HBB;subst hb;go_wp2;go_ret
    exact ⟨by rw [HM.out,HO2.out];cases fitB val vv <;> rfl,HBN.out.trans (HBL.out.mono HBN.out.size)⟩
set_option maxHeartbeats 1600000 in
set_option maxRecDepth 100000 in
theorem all6_any (l:List Fld) (ms:List Mt) (v mv:Value) (w:World) (hv:FldsAt w v l) (hl:l.length≤1000000) (hvs:∀ m∈ms,(valueF l m.nm).size≤900) (hm:MtsAt w mv ms) (hml:ms.length≤1000000) (hmf:MtsFit ms) :
  Calls Tryz.prog 66 #[v,mv] w fun e w'=>e=.returned (.bool (allM l ms))∧Below w.heap.size w w':=by
 obtain ⟨ma,mc,rfl,_,hr⟩:=RdAt.shape hm;obtain ⟨fa,fc,rfl,_,_⟩:=RdAt.shape hv;have HR:=Lib.hid hr;have KF:=Lib.hid (fun (m:Mt) (h:m∈ms) W (hW:Below w.heap.size w W)=>fit6_any l m _ W (hv.later hW) hl (hvs m h) (hmf m h));clear hr hm hv hvs hmf
 go_enter Tryz.func66,Tryz.ntmps66
 go_wp2
 go_loopw [5] (fun i wr=>∃ k:Nat,k≤ms.length∧i=.int .i64 (k:Nat)∧Hid (allM l (ms.take k)=true)∧Hid (Below w.heap.size w wr)) (fun i _=>ms.length+1 - (intOf i).toNat)
 case atStart=>exact ⟨0,Nat.zero_le _,rfl,Lib.hid rfl,Lib.hid (Below.refl _ _)⟩
 case round =>
  obtain ⟨k,hk,rfl,HT,HBR⟩:=hrel
  by_cases hkl:k < ms.length
  ·obtain ⟨b,o,rfl,hb,hcell⟩:=HR.out (by omega)
   have HTK:Hid (allM l (ms.take (k+1))=(allM l (ms.take k)&&fitM l ms[k])):=Lib.hid (by unfold allM;rw [List.take_add_one,List.getElem?_eq_getElem hkl,List.all_append];simp);have HNO:Hid (fitM l ms[k]=false→allM l ms=false):=Lib.hid (fun h=>by unfold allM;rw [List.all_eq_false];exact ⟨_,List.getElem_mem hkl,by rw [h];decide⟩);have kf:=KF.out ms[k] (List.getElem_mem hkl) wr HBR.out;obtain ⟨h0,h1,h2⟩:=mtCells_at ms k hkl;have a0:=kCq (hcell _ _ h0) HBR.out hb;have a1:wr.cell? ⟨b,o+k * 3+1,none⟩=_:=kCq (by have:=hcell _ _ h1;rwa [← Nat.add_assoc] at this) HBR.out hb;have a2:wr.cell? ⟨b,o+k * 3+2,none⟩=_:=kCq (by have:=hcell _ _ h2;rwa [← Nat.add_assoc] at this) HBR.out hb;have hi0:(0:Int)≤(k:Int):=by omega
   have hi1:(k:Int) < (ms.length:Int):=by omega
   clear hcell h0 h1 h2;generalize ms[k]=m at *;obtain ⟨nm,op,val⟩:=m;dsimp only at *;go_wp2_with fail
   refine kf.mono ?_;rintro e w2 ⟨rfl,hb2⟩;have HB2:=Lib.hid (HBR.out.trans (hb2.mono HBR.out.size));clear kf hb2 a0 a1 a2
   cases hfm:fitM l ⟨nm,op,val⟩ with
   | true =>
    rw [hfm] at HTK;go_wp2;go_roundw
    case rel=>exact ⟨k+1,by omega,by go_num,Lib.hid (by rw [HTK.out,HT.out];rfl),HB2⟩
    case measure=>(simp [intOf];try omega)
   | false =>
    rw [hfm] at HNO;go_wp2;go_ret
    exact ⟨by first | (rw [HNO.out (by trivial)];done) | (rw [HNO.out (by trivial)];rfl),HB2.out⟩
  ·obtain rfl:k=ms.length:=by omega
   have hi1:¬ (ms.length:Int) < (ms.length:Int):=by omega
   have HA:Hid (allM l ms=true):=Lib.hid (by have:=HT.out;rwa [List.take_length] at this);clear HT;go_wp2;go_ret
   exact ⟨by first | (rw [HA.out];done) | (rw [HA.out];rfl),HBR.out⟩
theorem strC_at (l:List ByteArray) (j:Nat) (h:j < l.length):(l.map Value.string)[j]?=some (.string l[j]):=by rw [List.getElem?_map,List.getElem?_eq_getElem h];rfl
set_option maxHeartbeats 1600000 in
set_option maxRecDepth 100000 in
theorem by8_any (l:List ByteArray) (v:Value) (w:World) (hv:StrsG w v l) (hw:StrsFit l) :
  Calls Tryz.prog 44 #[v] w fun e w'=>e=.returned (.bool (byP l))∧Below w.heap.size w w':=by
 obtain ⟨hl,hsz⟩:=hw;have HE:=Lib.hid (byP_eq l);obtain ⟨a,c,rfl,hc,hr⟩:=RdAt.shape hv;have HR:=Lib.hid hr;have HSZ:=Lib.hid hsz;have hl63:l.length≤9223372036854775807:=by unfold maxLen at hl;omega
 clear hr hv hl hsz
 go_enter Tryz.func44,Tryz.ntmps44
 go_wp2
 go_loopw [3] (fun i wr=>∃ k:Nat,i=.int .i64 k∧k≤l.length∧Hid (okUp id (fun x=>nameL (B x)) l k)∧Below w.heap.size w wr) (fun i _=>l.length - (intOf i).toNat)
 case atStart=>exact ⟨0,rfl,Nat.zero_le _,Lib.hid okUp_zero,Below.refl _ _⟩
 case round =>
  obtain ⟨k,rfl,hk,HT,hbr⟩:=hrel
  by_cases hkl:k < l.length
  ·obtain ⟨b,o,rfl,hb,hcell⟩:=HR.out (by omega)
   have HCELL:=Lib.hid hcell;have hstep:=okUp_succ HT.out hkl;have hbad:=okAll_bad (nm:=fun x:ByteArray=>id x) (p:=fun x=>nameL (B x)) hkl;have htw:=fun j hj hjk=>okAll_twice (nm:=fun x:ByteArray=>id x) (p:=fun x=>nameL (B x)) (j:=j) hj hkl hjk;have hxs:=HSZ.out _ (List.getElem_mem hkl);have HC:=strC_at l k hkl;obtain ⟨x,hx⟩:∃ x,l[k]=x:=⟨_,rfl⟩;rw [hx] at HC hstep hbad hxs;simp only [hx,id] at htw hstep;have HQ:Hid (∀ W,Below w.heap.size w W→W.cell? ⟨b,o+k,none⟩=some (.string x)):=Lib.hid (fun W hW=>kCq (hcell _ _ HC) hW hb);have HST:=Lib.hid hstep;have HBAD:Hid (nameL (B x)=false→byP l=false):=Lib.hid (fun h=>by rw [HE.out,show okAll id (fun x=>nameL (B x)) l=false from hbad h];rfl);have HTW:Hid (∀ j (hj:j < l.length),j < k→l[j]=x→byP l=false):=Lib.hid (fun j hj h1 h2=>by rw [HE.out,show okAll id (fun x=>nameL (B x)) l=false from htw j hj h1 h2];rfl);have HBR:=Lib.hid hbr;have HXS:=Lib.hid hxs;clear hcell HC hstep hbad htw hx hbr hxs HT;go_wp2;obtain ⟨wo,rfl⟩:∃ z,z=wr:=⟨_,rfl⟩
   go_loopw [4] (fun i wi=>∃ m:Nat,i=.int .i64 m∧m≤k∧Hid (∀ j (_:j < l.length),j < m→l[j]≠x)∧Below wo.heap.size wo wi) (fun i _=>k - (intOf i).toNat)
   case atStart=>exact ⟨0,rfl,Nat.zero_le _,Lib.hid (fun _ _ h=>absurd h (Nat.not_lt_zero _)),Below.refl _ _⟩
   case round =>
    obtain ⟨m,rfl,hm,HN,hbi⟩:=hrel;have hbw:=HBR.out.trans (hbi.mono HBR.out.size)
    by_cases hmk:m < k
    ·have hml:m < l.length:=by omega
     have c0:=HQ.out _ hbw;have HCM:=strC_at l m hml;obtain ⟨y,hy⟩:∃ y,l[m]=y:=⟨_,rfl⟩;rw [hy] at HCM;have d0:wr.cell? ⟨b,o+m,none⟩=some (.string y):=kCq (HCELL.out _ _ HCM) hbw hb;have HY:=Lib.hid hy;clear HCM hy
     by_cases hxy:y=x
     ·have hbq:(y.toList==x.toList)=true:=bytes_eq_iff.2 hxy
      have HF:Hid (byP l=false):=Lib.hid (HTW.out m hml hmk (by rw [HY.out];exact hxy));clear hxy;go_wp2
      go_quiet (fail)
      have hb2:Below w.heap.size w (wr.drewN nq):=bl_drewN hbw nq;generalize wr.drewN nq=wq at *;go_wp2;go_ret;exact ⟨by rw [HF.out];rfl,hb2⟩
     ·have hbq:(y.toList==x.toList)=false:=by rw [bytes_beq];exact decide_eq_false hxy
      have HN':Hid (∀ j (_:j < l.length),j < m+1→l[j]≠x):=Lib.hid (fun j hj h=>by
       rcases Nat.lt_or_ge j m with h' | h'
       ·exact HN.out j hj h'
       ·obtain rfl:j=m:=by omega
        rw [HY.out];exact hxy)
      clear hxy;go_wp2
      go_quiet (fail)
      have hb2:Below wo.heap.size wo (wr.drewN nq):=bl_drewN hbi nq;generalize wr.drewN nq=wq at *;go_wp2;go_roundw
      case rel=>exact ⟨m+1,by go_num,by omega,HN',hb2⟩
      case measure=>(simp [intOf];try omega)
    ·obtain rfl:m=k:=by omega
     have kn:∀ W,Calls Tryz.prog 40 #[.string x] W fun e w'=>e=.returned (.bool (nameL (B x)))∧w'=W:=fun W=>(refName.name_any x W HXS.out).mono (by rintro e w' ⟨h1,h2⟩;exact ⟨h1,h2.symm⟩);have c0:=HQ.out _ hbw;have HBW:=Lib.hid hbw;clear hbw hbi
     cases hnm:nameL (B x)
     ·rw [hnm] at kn
      have HF:Hid (byP l=false):=Lib.hid (HBAD.out hnm);clear hnm;go_wp2_with fail
      refine (kn _).mono ?_;rintro e w2 ⟨rfl,rfl⟩;go_wp2;go_ret;exact ⟨by rw [HF.out];rfl,HBW.out⟩
     ·rw [hnm] at kn
      have HN':=Lib.hid (HST.out (fun j hj h=>HN.out j hj h) hnm);clear hnm;go_wp2_with fail
      refine (kn _).mono ?_;rintro e w2 ⟨rfl,rfl⟩;go_wp2;go_roundw
      case rel=>exact ⟨m+1,by go_num,by omega,HN',HBW.out⟩
      case measure=>(simp [intOf];try omega)
  ·obtain rfl:k=l.length:=by omega
   have HF:Hid (byP l=decide (l.length≤8)):=Lib.hid (by rw [HE.out,show okAll id (fun x=>nameL (B x)) l=true from okUp_all HT.out];rfl);clear HT
   by_cases h8:l.length≤8
   ·have hi8:(l.length:Int)≤8:=by omega
    go_wp2;go_ret;exact ⟨by rw [HF.out,decide_eq_true h8];rfl,hbr⟩
   ·have hi8:¬ (l.length:Int)≤8:=by omega
    go_wp2;go_ret;exact ⟨by rw [HF.out,decide_eq_false h8];rfl,hbr⟩
theorem plainT_bad {s:ByteArray} {m:Nat} (h:m < s.size) (hx:s[m].toNat < 32):plainT s=false:=by
 unfold plainT;rw [List.all_eq_false];exact ⟨s[m],by rw [List.mem_iff_getElem];exact ⟨m,by rw [len_B];exact h,rfl⟩,by simp;omega⟩
theorem plainT_all {s:ByteArray} (h:∀ j (_:j < s.size),32≤s[j].toNat):plainT s=true:=by
 unfold plainT;rw [List.all_eq_true];intro c hc;obtain ⟨i,hi,rfl⟩:=List.mem_iff_getElem.1 hc;rw [len_B] at hi;exact decide_eq_true (h i hi)
set_option maxHeartbeats 1600000 in
set_option maxRecDepth 100000 in
theorem when8_any (l:List Mt) (v:Value) (w:World) (hv:MtsAt w v l) (hl:l.length≤maxLen) (hfit:MtsFit l) :
  Calls Tryz.prog 45 #[v] w fun e w'=>e=.returned (.bool (whenP l))∧Below w.heap.size w w':=by
 obtain ⟨a,c,rfl,hc,hr⟩:=RdAt.shape hv;have HR:=Lib.hid hr;have HFT:=Lib.hid hfit;have hl63:l.length≤9223372036854775807:=by unfold maxLen at hl;omega
 clear hr hv hl hfit
 go_enter Tryz.func45,Tryz.ntmps45
 go_wp2
 go_loopw [3] (fun i wr=>∃ k:Nat,i=.int .i64 k∧k≤l.length∧Hid (∀ j (_:j < l.length),j < k→(plainT l[j].val&&fineM l[j])=true)∧Below w.heap.size w wr) (fun i _=>l.length - (intOf i).toNat)
 case atStart=>exact ⟨0,rfl,Nat.zero_le _,Lib.hid (fun _ _ h=>absurd h (Nat.not_lt_zero _)),Below.refl _ _⟩
 case round =>
  obtain ⟨k,rfl,hk,HT,hbr⟩:=hrel
  by_cases hkl:k < l.length
  ·obtain ⟨b,o,rfl,hb,hcell⟩:=HR.out (by omega)
   have hbad:∀ x,l[k]=x→(plainT x.val&&fineM x)=false→whenP l=false:=fun x hx h=>by
    unfold whenP;rw [Bool.and_eq_false_iff]
    left
    rw [List.all_eq_false];exact ⟨_,List.getElem_mem hkl,by rw [hx,h];decide⟩
   have hfx:=HFT.out _ (List.getElem_mem hkl);obtain ⟨h0,h1,h2⟩:=mtCells_at l k hkl;obtain ⟨x,hx⟩:∃ x,l[k]=x:=⟨_,rfl⟩;have hbad:=hbad x hx;rw [hx] at h0 h1 h2 hfx;obtain ⟨nm,op,val⟩:=x;dsimp only at h0 h1 h2 hbad;have kf:=fun W=>fine6_any ⟨nm,op,val⟩ W hfx;have hvl:val.size≤9223372036854775807:=by have:=hfx.2;unfold maxLen at this;dsimp only at this;omega
   have HQ:Hid (∀ W,Below w.heap.size w W→W.cell? ⟨b,o+k * 3,none⟩=some (.string nm)∧W.cell? ⟨b,o+k * 3+1,none⟩=some (.int .i64 op)∧W.cell? ⟨b,o+k * 3+2,none⟩=some (.string val)):=Lib.hid (fun W hW =>
    ⟨kCq (hcell _ _ h0) hW hb,kCq (by have:=hcell _ _ h1;rwa [← Nat.add_assoc] at this) hW hb,kCq (by have:=hcell _ _ h2;rwa [← Nat.add_assoc] at this) hW hb⟩)
   have HBAD:=Lib.hid hbad;have HBR:=Lib.hid hbr;have HX:=Lib.hid hx;have KF:=Lib.hid kf;clear hcell h0 h1 h2 hbad hx hbr hfx kf;go_wp2;obtain ⟨wo,rfl⟩:∃ z,z=wr:=⟨_,rfl⟩
   go_loopw [4] (fun i wi=>∃ m:Nat,i=.int .i64 m∧m≤val.size∧Hid (∀ j (_:j < val.size),j < m→32≤val[j].toNat)∧wi=wo) (fun i _=>val.size - (intOf i).toNat)
   case atStart=>exact ⟨0,rfl,Nat.zero_le _,Lib.hid (fun _ _ h=>absurd h (Nat.not_lt_zero _)),rfl⟩
   case round =>
    obtain ⟨m,rfl,hm,HN,hwi⟩:=hrel;subst hwi;obtain ⟨c0,c1,c2⟩:=HQ.out _ HBR.out
    by_cases hmk:m < val.size
    ·by_cases hxy:(val[m]'hmk).toNat < 32
     ·have HF:Hid (whenP l=false):=Lib.hid (HBAD.out (by rw [plainT_bad hmk hxy];rfl))
      have hiy:(((val[m]'hmk).toNat:Nat):Int) < 32:=by omega
      go_wp2;go_ret;exact ⟨by rw [HF.out];rfl,HBR.out⟩
     ·have hiy:¬ (((val[m]'hmk).toNat:Nat):Int) < 32:=by omega
      have HN':Hid (∀ j (_:j < val.size),j < m+1→32≤val[j].toNat):=Lib.hid (fun j hj h=>by
       rcases Nat.lt_or_ge j m with h' | h'
       ·exact HN.out j hj h'
       ·obtain rfl:j=m:=by omega
        omega)
      go_wp2;go_roundw
      case rel=>exact ⟨m+1,by go_num,by omega,HN',trivial⟩
      case measure=>(simp [intOf];try omega)
    ·obtain rfl:m=val.size:=by omega
     have hpt:plainT val=true:=plainT_all (fun j hj=>HN.out j hj hj)
     cases hfm:fineM ⟨nm,op,val⟩
     ·have HF:Hid (whenP l=false):=Lib.hid (HBAD.out (by rw [hfm,Bool.and_false]))
      have kf:=KF.out wr;rw [hfm] at kf;clear hfm hpt;go_wp2_with fail
      refine kf.mono ?_;rintro e w2 ⟨rfl,hb2⟩;have HB2:=Lib.hid (HBR.out.trans (hb2.mono HBR.out.size));clear hb2 c0 c1 c2;go_wp2;go_ret;exact ⟨by rw [HF.out];rfl,HB2.out⟩
     ·have HN':Hid (∀ j (_:j < l.length),j < k+1→(plainT l[j].val&&fineM l[j])=true):=Lib.hid (fun j hj h=>by
       rcases Nat.lt_or_ge j k with h' | h'
       ·exact HT.out j hj h'
       ·obtain rfl:j=k:=by omega
        rw [HX.out,hfm];dsimp only;rw [hpt];rfl)
      have kf:=KF.out wr;rw [hfm] at kf;clear hfm hpt;go_wp2_with fail
      refine kf.mono ?_;rintro e w2 ⟨rfl,hb2⟩;have HB2:=Lib.hid (HBR.out.trans (hb2.mono HBR.out.size));clear hb2 c0 c1 c2;go_wp2;go_roundw
      case rel=>exact ⟨k+1,by go_num,by omega,HN',HB2.out⟩
      case measure=>(simp [intOf];try omega)
  ·obtain rfl:k=l.length:=by omega
   have HF:Hid (whenP l=decide (l.length≤12)):=Lib.hid (by
    unfold whenP;rw [List.all_eq_true.2 (fun m hm=>by obtain ⟨i,hi,rfl⟩:=List.mem_iff_getElem.1 hm;exact HT.out i hi hi)];rfl)
   clear HT
   by_cases h8:l.length≤12
   ·have hi8:(l.length:Int)≤12:=by omega
    go_wp2;go_ret;exact ⟨by rw [HF.out,decide_eq_true h8];rfl,hbr⟩
   ·have hi8:¬ (l.length:Int)≤12:=by omega
    go_wp2;go_ret;exact ⟨by rw [HF.out,decide_eq_false h8];rfl,hbr⟩
theorem check_long {p:PD} (h:longP p=true):checkP p=4:=by unfold checkP;rw [if_pos h]
theorem check_names {p:PD} (h1:longP p=false) (h:namesP p=false):checkP p=1:=by unfold checkP;rw [if_neg (by rw [h1];decide),if_pos (by rw [h];rfl)]
theorem check_rt {p:PD} (h1:longP p=false) (h2:namesP p=true) {k:Nat} (hk:k < p.ro.length) (h:badRt p.re p.ro[k]=true):checkP p=1:=by
 unfold checkP;rw [if_neg (by rw [h1];decide),if_neg (by rw [h2];decide),if_pos (List.any_eq_true.2 ⟨_,List.getElem_mem hk,h⟩)]
theorem check_ih {p:PD} (h1:longP p=false) (h2:namesP p=true) {k:Nat} (hk:k < p.ih.length) (h:badIh p.ih[k]=true):checkP p=1:=by
 unfold checkP;rw [if_neg (by rw [h1];decide),if_neg (by rw [h2];decide)]
 split
 ·rfl
 ·rw [if_pos (List.any_eq_true.2 ⟨_,List.getElem_mem hk,h⟩)]
theorem check_ok {p:PD} (h1:longP p=false) (h2:namesP p=true) (h3:∀ j (_:j < p.ro.length),badRt p.re p.ro[j]=false) (h4:∀ j (_:j < p.ih.length),badIh p.ih[j]=false):checkP p=0:=by
 unfold checkP;rw [if_neg (by rw [h1];decide),if_neg (by rw [h2];decide),if_neg,if_neg]
 ·rw [Bool.not_eq_true,List.any_eq_false]
  intro x hx;obtain ⟨i,hi,rfl⟩:=List.mem_iff_getElem.1 hx;rw [h4 i hi];decide
 ·rw [Bool.not_eq_true,List.any_eq_false]
  intro x hx;obtain ⟨i,hi,rfl⟩:=List.mem_iff_getElem.1 hx;rw [h3 i hi];decide
theorem timesP_no {r:PRt} (h:¬ (0≤r.wait∧r.wait≤1000∧1≤r.every∧r.every≤1000∧r.every≤r.again∧r.again≤100000)):timesP r=false:=by
 rw [Bool.eq_false_iff];intro hc;unfold timesP at hc;simp only [Bool.and_eq_true,decide_eq_true_eq] at hc
 omega
theorem timesP_yes {r:PRt} (h:0≤r.wait∧r.wait≤1000∧1≤r.every∧r.every≤1000∧r.every≤r.again∧r.again≤100000):timesP r=true:=by
 unfold timesP;simp only [Bool.and_eq_true,decide_eq_true_eq]
 omega
theorem findL_some {re:List Nmd} {n:ByteArray} (hf:NmdFit re) {y:Nmd} (h:findL re n=some y):y.2.2 < 4294967296:=hf y (List.mem_of_find?_eq_some h)
def C5 (p:Nat) (a b c d e:Value) (W:World):Prop:=W.cell? ⟨p,0,none⟩=some a∧W.cell? ⟨p,1,none⟩=some b∧W.cell? ⟨p,2,none⟩=some c∧W.cell? ⟨p,3,none⟩=some d∧W.cell? ⟨p,4,none⟩=some e
theorem C5.later {p:Nat} {a b c d e:Value} {W W':World} (h:C5 p a b c d e W) (hb:Below W.heap.size W W') (hp:p < W.heap.size):C5 p a b c d e W':=by
 obtain ⟨h0,h1,h2,h3,h4⟩:=h;exact ⟨kCq h0 hb hp,kCq h1 hb hp,kCq h2 hb hp,kCq h3 hb hp,kCq h4 hb hp⟩
theorem box6n (W:World) (a b c d e f:Value) (t:TypeId):C6 W.heap.size a b c d e f (W.alloc (.cells #[a,b,c,d,e,f] t)):=by
 have hc:∀ (i:Nat),(W.alloc (.cells #[a,b,c,d,e,f] t)).cell? ⟨W.heap.size,i,none⟩=_:=fun i=>World.cell?_alloc_at _ _ _ _ rfl;exact ⟨hc 0,hc 1,hc 2,hc 3,hc 4,hc 5⟩
theorem box5n (W:World) (a b c d e:Value) (t:TypeId):C5 W.heap.size a b c d e (W.alloc (.cells #[a,b,c,d,e] t)):=by
 have hc:∀ (i:Nat),(W.alloc (.cells #[a,b,c,d,e] t)).cell? ⟨W.heap.size,i,none⟩=_:=fun i=>World.cell?_alloc_at _ _ _ _ rfl;exact ⟨hc 0,hc 1,hc 2,hc 3,hc 4⟩
set_option maxHeartbeats 3200000 in
set_option maxRecDepth 100000 in
theorem check8_any (v:PV) (p:PD) (w:World) (hv:PolAt w v p) (hf:PolFitD p) :
  Calls Tryz.prog 23 #[v.v] w fun e w'=>e=.returned (.int .i64 (checkP p))∧Below w.heap.size w w':=by
 obtain ⟨v0,v1,v2,v3,v4,v5⟩:=v;obtain ⟨h0,h1,h2,h3,⟨h4,h4i⟩,h5,h5i⟩:=hv;obtain ⟨f0,f1,f2,f3,fl4,f4,fl5,f5⟩:=hf;dsimp only at h0 h1 h2 h3 h4 h4i h5 h5i;have k0:=fun W (h:Below w.heap.size w W)=>named8_any p.so v0 W (h0.later h) f0;have k1:=fun W (h:Below w.heap.size w W)=>named8_any p.re v1 W (h1.later h) f1;have k2:=fun W (h:Below w.heap.size w W)=>named8_any p.pe v2 W (h2.later h) f2;have k3:=fun W (h:Below w.heap.size w W)=>named8_any p.ra v3 W (h3.later h) f3;have kf:=fun n W (h:Below w.heap.size w W)=>rfind_any p.re n v1 W (h1.later h) f1.1;have kfit:=fun n y=>findL_some (n:=n) (y:=y) f1.2.1;have HL:=Lib.hid (And.intro f0.1 (And.intro f1.1 (And.intro f2.1 (And.intro f3.1 (And.intro fl4 fl5)))));obtain ⟨a0,c0,rfl,_,_⟩:=RdAt.shape h0;obtain ⟨a1,c1,rfl,_,_⟩:=RdAt.shape h1;obtain ⟨a2,c2,rfl,_,_⟩:=RdAt.shape h2;obtain ⟨a3,c3,rfl,_,_⟩:=RdAt.shape h3;obtain ⟨a4,c4,rfl,_,hr4⟩:=RdAt.shape h4;obtain ⟨a5,c5,rfl,_,hr5⟩:=RdAt.shape h5;have HR4:=Lib.hid hr4;have HR5:=Lib.hid hr5;have HI4:=Lib.hid h4i;have HI5:=Lib.hid h5i;have HF4:=Lib.hid f4;have HF5:=Lib.hid f5;have K0:=Lib.hid k0;have K1:=Lib.hid k1;have K2:=Lib.hid k2;have K3:=Lib.hid k3;have KF:=Lib.hid kf;have KFIT:=Lib.hid kfit;obtain ⟨W0,hW0⟩:∃ z,w.alloc (.cells #[.slice a0 p.so.length c0,.slice a1 p.re.length c1,.slice a2 p.pe.length c2,.slice a3 p.ra.length c3,.slice a4 p.ro.length c4,.slice a5 p.ih.length c5] 26)=z:=⟨_,rfl⟩;have hB0:Below w.heap.size w W0:=by rw [← hW0];exact aBq _ _
 have hd:=(Below.refl W0.heap.size W0);rw [← hW0] at hd;obtain ⟨hC,hlt,_⟩:=box6 hd;rw [hW0] at hC hlt;have HC:Hid (∀ W,Below W0.heap.size W0 W→C6 w.heap.size (.slice a0 p.so.length c0) (.slice a1 p.re.length c1) (.slice a2 p.pe.length c2) (.slice a3 p.ra.length c3) (.slice a4 p.ro.length c4) (.slice a5 p.ih.length c5) W):=Lib.hid (fun W h=>C6.later hC h hlt);have HB0:=Lib.hid hB0;have HW0:=Lib.hid hW0;have HLT:=Lib.hid hlt;clear h0 h1 h2 h3 h4 h4i h5 h5i f0 f1 f2 f3 f4 f5 fl4 fl5 hr4 hr5 k0 k1 k2 k3 kf kfit hB0 hW0 hd hC hlt
 go_enter Tryz.func23,Tryz.ntmps23
 go_upto_region 1 with fail;rw [HW0.out];clear HW0;obtain ⟨p0,p1,p2,p3,p4,p5⟩:=HC.out W0 (Below.refl _ _)
 rcases (show 12 < p.so.length∨(p.so.length≤12∧12 < p.re.length)∨(p.so.length≤12∧p.re.length≤12∧12 < p.pe.length)∨(p.so.length≤12∧p.re.length≤12∧p.pe.length≤12∧12 < p.ra.length)∨(p.so.length≤12∧p.re.length≤12∧p.pe.length≤12∧p.ra.length≤12∧12 < p.ro.length)∨(p.so.length≤12∧p.re.length≤12∧p.pe.length≤12∧p.ra.length≤12∧p.ro.length≤12∧12 < p.ih.length)∨(p.so.length≤12∧p.re.length≤12∧p.pe.length≤12∧p.ra.length≤12∧p.ro.length≤12∧p.ih.length≤12) by omega) with l0 | ⟨l0,l1⟩ | ⟨l0,l1,l2⟩ | ⟨l0,l1,l2,l3⟩ | ⟨l0,l1,l2,l3,l4⟩ | ⟨l0,l1,l2,l3,l4,l5⟩ | ⟨l0,l1,l2,l3,l4,l5⟩
 iterate 6
  ·have HX:Hid (checkP p=4):=Lib.hid (check_long (by unfold longP;simp only [Bool.or_eq_true,decide_eq_true_eq];omega))
   have g0:(12:Int) < (p.so.length:Int)∨True:=Or.inr trivial;clear g0 HC;go_wp2;go_ret;exact ⟨by rw [HX.out];rfl,HB0.out⟩
 ·have HLP:Hid (longP p=false):=Lib.hid (by unfold longP;simp only [Bool.or_eq_false_iff,decide_eq_false_iff_not];omega)
  have HNO:Hid (namesP p=false→checkP p=1):=Lib.hid (fun h=>check_names HLP.out h);go_upto_region 3 with fail;clear l0 l1 l2 l3 l4 l5
  cases n0:namedP p.so
  ·have HX:Hid (checkP p=1):=Lib.hid (HNO.out (by unfold namesP;rw [n0];rfl))
   have kk:=K0.out _ HB0.out;rw [n0] at kk;clear n0;go_wp2_with fail
   refine kk.mono ?_;rintro e w1 ⟨rfl,hb1⟩;have HB1:=Lib.hid (HB0.out.trans (hb1.mono HB0.out.size));clear hb1 p0 p1 p2 p3 p4 p5;go_wp2;go_ret;exact ⟨by rw [HX.out];rfl,HB1.out⟩
  ·have kk:=K0.out _ HB0.out
   rw [n0] at kk;have N0:=Lib.hid n0;clear n0;go_wp2_with fail
   refine kk.mono ?_;rintro e w1 ⟨rfl,hb1⟩;have HS1:=Lib.hid hb1;have HB1:=Lib.hid (HB0.out.trans (hb1.mono HB0.out.size));clear hb1 kk p0 p1 p2 p3 p4 p5;obtain ⟨p0,p1,p2,p3,p4,p5⟩:=HC.out _ HS1.out
   cases n1:namedP p.re
   ·have HX:Hid (checkP p=1):=Lib.hid (HNO.out (by unfold namesP;rw [n1,Bool.and_false];rfl))
    have kk:=K1.out _ HB1.out;rw [n1] at kk;clear n1;go_wp2_with fail
    refine kk.mono ?_;rintro e w2 ⟨rfl,hb2⟩;have HB2:=Lib.hid (HB1.out.trans (hb2.mono HB1.out.size));clear hb2 p0 p1 p2 p3 p4 p5;go_wp2;go_ret;exact ⟨by rw [HX.out];rfl,HB2.out⟩
   ·have kk:=K1.out _ HB1.out
    rw [n1] at kk;have N1:=Lib.hid n1;clear n1;go_wp2_with fail
    refine kk.mono ?_;rintro e w2 ⟨rfl,hb2⟩;have HS2:=Lib.hid (HS1.out.trans (hb2.mono HS1.out.size));have HB2:=Lib.hid (HB1.out.trans (hb2.mono HB1.out.size));clear hb2 kk p0 p1 p2 p3 p4 p5;obtain ⟨p0,p1,p2,p3,p4,p5⟩:=HC.out _ HS2.out
    cases n2:namedP p.pe
    ·have HX:Hid (checkP p=1):=Lib.hid (HNO.out (by unfold namesP;rw [n2,Bool.and_false];rfl))
     have kk:=K2.out _ HB2.out;rw [n2] at kk;clear n2;go_wp2_with fail
     refine kk.mono ?_;rintro e w3 ⟨rfl,hb3⟩;have HB3:=Lib.hid (HB2.out.trans (hb3.mono HB2.out.size));clear hb3 p0 p1 p2 p3 p4 p5;go_wp2;go_ret;exact ⟨by rw [HX.out];rfl,HB3.out⟩
    ·have kk:=K2.out _ HB2.out
     rw [n2] at kk;have N2:=Lib.hid n2;clear n2;go_wp2_with fail
     refine kk.mono ?_;rintro e w3 ⟨rfl,hb3⟩;have HS3:=Lib.hid (HS2.out.trans (hb3.mono HS2.out.size));have HB3:=Lib.hid (HB2.out.trans (hb3.mono HB2.out.size));clear hb3 kk p0 p1 p2 p3 p4 p5;obtain ⟨p0,p1,p2,p3,p4,p5⟩:=HC.out _ HS3.out
     cases n3:namedP p.ra
     ·have HX:Hid (checkP p=1):=Lib.hid (HNO.out (by unfold namesP;rw [n3,Bool.and_false]))
      have kk:=K3.out _ HB3.out;rw [n3] at kk;clear n3;go_wp2_with fail
      refine kk.mono ?_;rintro e w4 ⟨rfl,hb4⟩;have HB4:=Lib.hid (HB3.out.trans (hb4.mono HB3.out.size));clear hb4 p0 p1 p2 p3 p4 p5;go_wp2;go_ret;exact ⟨by rw [HX.out];rfl,HB4.out⟩
     ·have HNP:Hid (namesP p=true):=Lib.hid (by unfold namesP;rw [N0.out,N1.out,N2.out,n3];rfl)
      have kk:=K3.out _ HB3.out;rw [n3] at kk;clear n3;go_wp2_with fail
      refine kk.mono ?_;rintro e w4 ⟨rfl,hb4⟩;have HS4:=Lib.hid (HS3.out.trans (hb4.mono HS3.out.size));have HB4:=Lib.hid (HB3.out.trans (hb4.mono HB3.out.size));clear hb4 kk p0 p1 p2 p3 p4 p5 N0 N1 N2 HNO K0 K1 K2 K3 HS1 HS2 HS3 HB1 HB2 HB3;have hl4:p.ro.length≤9223372036854775807:=by have:=HL.out.2.2.2.2.1;unfold maxLen at this;omega
      have hl5:p.ih.length≤9223372036854775807:=by have:=HL.out.2.2.2.2.2;unfold maxLen at this;omega
      go_wp2
      go_loopw [3] (fun i wr=>∃ k:Nat,i=.int .i64 k∧k≤p.ro.length∧Hid (∀ j (_:j < p.ro.length),j < k→badRt p.re p.ro[j]=false)∧Below W0.heap.size W0 wr) (fun i _=>p.ro.length - (intOf i).toNat)
      case atStart=>exact ⟨0,rfl,Nat.zero_le _,Lib.hid (fun _ _ h=>absurd h (Nat.not_lt_zero _)),HS4.out⟩
      case round =>
       obtain ⟨k,rfl,hk,HT,hbr⟩:=hrel;have HBR:=Lib.hid hbr;obtain ⟨p0,p1,p2,p3,p4,p5⟩:=HC.out _ hbr;have HBW:Hid (Below w.heap.size w wr):=Lib.hid (HB0.out.trans (hbr.mono HB0.out.size));clear hbr
       by_cases hkl:k < p.ro.length
       ·obtain ⟨b,o,rfl,hb,hcell⟩:=HR4.out (by omega)
        have hbad:badRt p.re p.ro[k]=true→checkP p=1:=fun h=>check_rt HLP.out HNP.out hkl h;have HC4:=cellsG_at rtC_len p.ro k hkl;have hri:=HI4.out _ (List.getElem_mem hkl);have hrf:=HF4.out _ (List.getElem_mem hkl);obtain ⟨x,hx⟩:∃ x,p.ro[k]=x:=⟨_,rfl⟩;rw [hx] at HC4 hbad hri hrf;have HX:=Lib.hid hx;have HBAD:=Lib.hid hbad;have kby:=fun W (h:Below w.heap.size w W)=>by8_any x.bys x.bv W (RdAt.later hri.b h) hrf.bys;have kwh:=fun W (h:Below w.heap.size w W)=>when8_any x.whn x.wv W (hri.m.later h) hrf.len hrf.whn;have kfd:=KF.out x.rcv
        have KBY:=Lib.hid kby
        have KWH:=Lib.hid kwh;have q:∀ i v,(rtC x)[i]?=some v→wr.cell? ⟨b,o+k * 6+i,none⟩=some v:=fun i v hi=>kCq (by have:=hcell _ _ (HC4 i v hi);rwa [← Nat.add_assoc] at this) HBW.out hb;obtain ⟨rcv,bys,wait,every,again,whn,bv,wv⟩:=x;dsimp only at *;have r0:wr.cell? ⟨b,o+k * 6,none⟩=some (.string rcv):=q 0 _ rfl;have r1:wr.cell? ⟨b,o+k * 6+1,none⟩=some bv:=q 1 _ rfl;have r2:wr.cell? ⟨b,o+k * 6+2,none⟩=some (.int .i64 wait):=q 2 _ rfl;have r3:wr.cell? ⟨b,o+k * 6+3,none⟩=some (.int .i64 every):=q 3 _ rfl;have r4:wr.cell? ⟨b,o+k * 6+4,none⟩=some (.int .i64 again):=q 4 _ rfl;have r5:wr.cell? ⟨b,o+k * 6+5,none⟩=some wv:=q 5 _ rfl;obtain ⟨ba,bc,hba,_,_⟩:=RdAt.shape hri.b;dsimp only at hba;subst hba;obtain ⟨wa,wc,hwa,_,_⟩:=RdAt.shape hri.m;dsimp only at hwa;subst hwa;have KFD:=Lib.hid kfd;clear q HC4 hcell hbad hri hrf hx kby kwh kfd;go_upto_region 9 with fail;change Code.wp _ _ _ _ (wr.alloc (.cells #[.string rcv,.slice ba bys.length bc,.int .i64 wait,.int .i64 every,.int .i64 again,.slice wa whn.length wc] 84));have hbx:=aBq wr (.cells #[.string rcv,.slice ba bys.length bc,.int .i64 wait,.int .i64 every,.int .i64 again,.slice wa whn.length wc] 84);have hrx:=box6n wr (.string rcv) (.slice ba bys.length bc) (.int .i64 wait) (.int .i64 every) (.int .i64 again) (.slice wa whn.length wc) 84;have hsx:=World.size_alloc wr (.cells #[.string rcv,.slice ba bys.length bc,.int .i64 wait,.int .i64 every,.int .i64 again,.slice wa whn.length wc] 84);generalize wr.alloc (.cells #[.string rcv,.slice ba bys.length bc,.int .i64 wait,.int .i64 every,.int .i64 again,.slice wa whn.length wc] 84)=wx at *;have hltx:wr.heap.size < wx.heap.size:=by omega
        have HSX:=Lib.hid (HBR.out.trans (hbx.mono HBR.out.size));have HBX:=Lib.hid (HBW.out.trans (hbx.mono HBW.out.size));have HRX:=Lib.hid hrx;have HLX:=Lib.hid hltx;clear p0 p1 p2 p3 p4 p5 r0 r1 r2 r3 r4 r5 hbx hsx hrx hltx HBR;obtain ⟨p0,p1,p2,p3,p4,p5⟩:=HC.out _ HSX.out;obtain ⟨r0,r1,r2,r3,r4,r5⟩:=HRX.out;generalize wr.heap.size=bx at *;have kk:=KFD.out _ HBX.out
        cases hfl:findL p.re rcv with
        | none =>
         have HX1:Hid (checkP p=1):=Lib.hid (HBAD.out (by unfold badRt;dsimp only;rw [hfl];rfl));rw [hfl] at kk;clear hfl;go_wp2_with fail
         refine kk.mono ?_;rintro e w5 ⟨rfl,hb5⟩;have HB5:=Lib.hid (HBX.out.trans (hb5.mono HBX.out.size));clear hb5 p0 p1 p2 p3 p4 p5 r0 r1 r2 r3 r4 r5 kk;unfold findV;dsimp only [Option.isSome];go_wp2;go_ret;refine ⟨by rw [HX1.out];rfl,?_⟩;exact HB5.out.trans ((aBq w5 _).mono HB5.out.size)
        | some y =>
         rw [hfl] at kk;have HFL:=Lib.hid hfl;clear hfl;go_wp2_with fail
         refine kk.mono ?_;rintro e w5 ⟨rfl,hb5⟩;have HB5:=Lib.hid (HBX.out.trans (hb5.mono HBX.out.size));have HS5:=Lib.hid (HSX.out.trans (hb5.mono HSX.out.size));have HR5':=Lib.hid (C6.later HRX.out hb5 HLX.out);have HL5:=Lib.hid (Nat.lt_of_lt_of_le HLX.out hb5.size);clear hb5 p0 p1 p2 p3 p4 p5 r0 r1 r2 r3 r4 r5 kk;obtain ⟨yn,yl,yc⟩:=y;unfold findV;dsimp only [Option.isSome];go_upto_region 10 with fail;change Code.wp _ _ _ _ (w5.alloc (.cells #[.int .i64 yl,.int .u32 yc] 36));have hb6:=aBq w5 (.cells #[.int .i64 yl,.int .u32 yc] 36);generalize w5.alloc (.cells #[.int .i64 yl,.int .u32 yc] 36)=w6 at *;have HB6:=Lib.hid (HB5.out.trans (hb6.mono HB5.out.size));have HS6:=Lib.hid (HS5.out.trans (hb6.mono HS5.out.size));have HR6:=Lib.hid (C6.later HR5'.out hb6 HL5.out);have HL6:=Lib.hid (Nat.lt_of_lt_of_le HL5.out hb6.size);clear hb6 HB5 HS5 HR5' HL5 HRX HLX HBX HSX;obtain ⟨r0,r1,r2,r3,r4,r5⟩:=HR6.out;have kk:=KBY.out _ HB6.out
         cases hby:byP bys
         ·have HX1:Hid (checkP p=1):=Lib.hid (HBAD.out (by unfold badRt;dsimp only;rw [hby];simp))
          rw [hby] at kk
          clear hby
          go_wp2_with fail
          refine kk.mono ?_;rintro e w7 ⟨rfl,hb7⟩;have HB7:=Lib.hid (HB6.out.trans (hb7.mono HB6.out.size));clear hb7 r0 r1 r2 r3 r4 r5 kk;go_wp2;go_ret;exact ⟨by rw [HX1.out];rfl,HB7.out⟩
         ·rw [hby] at kk
          have HBY:=Lib.hid hby
          clear hby
          go_wp2_with fail
          refine kk.mono ?_;rintro e w7 ⟨rfl,hb7⟩;have HB7:=Lib.hid (HB6.out.trans (hb7.mono HB6.out.size));have HS7:=Lib.hid (HS6.out.trans (hb7.mono HS6.out.size));have HR7:=Lib.hid (C6.later HR6.out hb7 HL6.out);clear hb7 r0 r1 r2 r3 r4 r5 kk HR6 HL6 HS6 HB6;obtain ⟨r0,r1,r2,r3,r4,r5⟩:=HR7.out
          rcases (show wait < 0∨(0≤wait∧1000 < wait)∨(0≤wait∧wait≤1000∧every < 1)∨(0≤wait∧wait≤1000∧1≤every∧1000 < every)∨(0≤wait∧wait≤1000∧1≤every∧every≤1000∧again < every)∨(0≤wait∧wait≤1000∧1≤every∧every≤1000∧every≤again∧100000 < again)∨(0≤wait∧wait≤1000∧1≤every∧every≤1000∧every≤again∧again≤100000) by omega) with g0 | ⟨g0,g1⟩ | ⟨g0,g1,g2⟩ | ⟨g0,g1,g2,g3⟩ | ⟨g0,g1,g2,g3,g4⟩ | ⟨g0,g1,g2,g3,g4,g5⟩ | ⟨g0,g1,g2,g3,g4,g5⟩
          iterate 6
           ·have HX1:Hid (checkP p=1):=Lib.hid (HBAD.out (by unfold badRt;rw [timesP_no (by dsimp only;omega)];simp))
            clear KWH HBAD;go_wp2;go_ret;exact ⟨by rw [HX1.out];rfl,HB7.out⟩
          ·have HTY:Hid (timesP ⟨rcv,bys,wait,every,again,whn,.slice ba bys.length bc,.slice wa whn.length wc⟩=true):=Lib.hid (timesP_yes (by dsimp only;omega))
           have kk:=KWH.out _ HB7.out
           cases hwh:whenP whn
           ·have HX1:Hid (checkP p=1):=Lib.hid (HBAD.out (by unfold badRt;dsimp only;rw [hwh];simp))
            rw [hwh] at kk;clear hwh;go_wp2_with fail
            refine kk.mono ?_;rintro e w8 ⟨rfl,hb8⟩;have HB8:=Lib.hid (HB7.out.trans (hb8.mono HB7.out.size));clear hb8 r0 r1 r2 r3 r4 r5 kk;go_wp2;go_ret;exact ⟨by rw [HX1.out];rfl,HB8.out⟩
           ·have HOK:Hid (∀ j (_:j < p.ro.length),j < k+1→badRt p.re p.ro[j]=false):=Lib.hid (fun j hj h=>by
             rcases Nat.lt_or_ge j k with h' | h'
             ·exact HT.out j hj h'
             ·obtain rfl:j=k:=by omega
              rw [HX.out];unfold badRt;rw [HTY.out];dsimp only;rw [HFL.out,HBY.out,hwh];rfl)
            rw [hwh] at kk;clear hwh;go_wp2_with fail
            refine kk.mono ?_;rintro e w8 ⟨rfl,hb8⟩;have HS8:=Lib.hid (HS7.out.trans (hb8.mono HS7.out.size));clear hb8 r0 r1 r2 r3 r4 r5 kk;go_wp2;go_roundw
            case rel=>exact ⟨k+1,by go_num,by omega,HOK,HS8.out⟩
            case measure=>(simp [intOf];try omega)
       ·obtain rfl:k=p.ro.length:=by omega
        have HRO:Hid (∀ j (_:j < p.ro.length),badRt p.re p.ro[j]=false):=Lib.hid (fun j hj=>HT.out j hj hj);clear HT hk hkl;go_wp2;obtain ⟨wo,rfl⟩:∃ z,z=wr:=⟨_,rfl⟩
        go_loopw [7] (fun i wr=>∃ k:Nat,i=.int .i64 k∧k≤p.ih.length∧Hid (∀ j (_:j < p.ih.length),j < k→badIh p.ih[j]=false)∧Below W0.heap.size W0 wr) (fun i _=>p.ih.length - (intOf i).toNat)
        case atStart=>exact ⟨0,rfl,Nat.zero_le _,Lib.hid (fun _ _ h=>absurd h (Nat.not_lt_zero _)),HBR.out⟩
        case round =>
         clear HBR HBW p0 p1 p2 p3 p4 p5;obtain ⟨k,rfl,hk,HT,hbr⟩:=hrel;have HBR:=Lib.hid hbr;obtain ⟨p0,p1,p2,p3,p4,p5⟩:=HC.out _ hbr;have HBW:Hid (Below w.heap.size w wr):=Lib.hid (HB0.out.trans (hbr.mono HB0.out.size));clear hbr
         by_cases hkl:k < p.ih.length
         ·obtain ⟨b,o,rfl,hb,hcell⟩:=HR5.out (by omega)
          have hbad:badIh p.ih[k]=true→checkP p=1:=fun h=>check_ih HLP.out HNP.out hkl h;have HC5:=cellsG_at ihC_len p.ih k hkl;have hri:=HI5.out _ (List.getElem_mem hkl);have hrf:=HF5.out _ (List.getElem_mem hkl);obtain ⟨x,hx⟩:∃ x,p.ih[k]=x:=⟨_,rfl⟩;rw [hx] at HC5 hbad hri hrf;have HX:=Lib.hid hx;have HBAD:=Lib.hid hbad;have KBY:=Lib.hid (fun W (h:Below w.heap.size w W)=>by8_any x.bys x.bv W (RdAt.later hri.b h) hrf.bys);have KW1:=Lib.hid (fun W (h:Below w.heap.size w W)=>when8_any x.frm x.fv W (hri.f.later h) hrf.lf hrf.frm);have KW2:=Lib.hid (fun W (h:Below w.heap.size w W)=>when8_any x.whn x.wv W (hri.m.later h) hrf.lw hrf.whn);have KRL:=Lib.hid (rright_any x.lv x.c);have q:∀ i v,(ihC x)[i]?=some v→wr.cell? ⟨b,o+k * 5+i,none⟩=some v:=fun i v hi=>kCq (by have:=hcell _ _ (HC5 i v hi);rwa [← Nat.add_assoc] at this) HBW.out hb;obtain ⟨bys,lv,c,frm,whn,bv,fv,wv⟩:=x;dsimp only at *;have r0:wr.cell? ⟨b,o+k * 5,none⟩=some bv:=q 0 _ rfl;have r1:wr.cell? ⟨b,o+k * 5+1,none⟩=some (.int .i64 lv):=q 1 _ rfl;have r2:wr.cell? ⟨b,o+k * 5+2,none⟩=some (.int .u32 c):=q 2 _ rfl;have r3:wr.cell? ⟨b,o+k * 5+3,none⟩=some fv:=q 3 _ rfl;have r4:wr.cell? ⟨b,o+k * 5+4,none⟩=some wv:=q 4 _ rfl;obtain ⟨ba,bc,hba,_,_⟩:=RdAt.shape hri.b;dsimp only at hba;subst hba;obtain ⟨fa,fc,hfa,_,_⟩:=RdAt.shape hri.f;dsimp only at hfa;subst hfa;obtain ⟨wa,wc,hwa,_,_⟩:=RdAt.shape hri.m;dsimp only at hwa;subst hwa;clear q HC5 hcell hbad hri hrf hx;go_upto_region 16 with fail;change Code.wp _ _ _ _ (wr.alloc (.cells #[.slice ba bys.length bc,.int .i64 lv,.int .u32 c,.slice fa frm.length fc,.slice wa whn.length wc] 51));have hbx:=aBq wr (.cells #[.slice ba bys.length bc,.int .i64 lv,.int .u32 c,.slice fa frm.length fc,.slice wa whn.length wc] 51);have hrx:=box5n wr (.slice ba bys.length bc) (.int .i64 lv) (.int .u32 c) (.slice fa frm.length fc) (.slice wa whn.length wc) 51;have hsx:=World.size_alloc wr (.cells #[.slice ba bys.length bc,.int .i64 lv,.int .u32 c,.slice fa frm.length fc,.slice wa whn.length wc] 51);generalize wr.alloc (.cells #[.slice ba bys.length bc,.int .i64 lv,.int .u32 c,.slice fa frm.length fc,.slice wa whn.length wc] 51)=w5 at *;have hltx:wr.heap.size < w5.heap.size:=by omega
          have HS5:=Lib.hid (HBR.out.trans (hbx.mono HBR.out.size));have HB5:=Lib.hid (HBW.out.trans (hbx.mono HBW.out.size));have HR5':=Lib.hid hrx;have HL5:=Lib.hid hltx;clear p0 p1 p2 p3 p4 p5 r0 r1 r2 r3 r4 hbx hsx hrx hltx HBR;obtain ⟨r0,r1,r2,r3,r4⟩:=HR5'.out;generalize wr.heap.size=bx at *;have kk:=KBY.out _ HB5.out
          cases hby:byP bys
          ·have HX1:Hid (checkP p=1):=Lib.hid (HBAD.out (by unfold badIh;dsimp only;rw [hby];rfl))
           rw [hby] at kk
           clear hby
           go_wp2_with fail
           refine kk.mono ?_;rintro e w6 ⟨rfl,hb6⟩;have HB6:=Lib.hid (HB5.out.trans (hb6.mono HB5.out.size));clear hb6 r0 r1 r2 r3 r4 kk;go_wp2;go_ret;exact ⟨by rw [HX1.out];rfl,HB6.out⟩
          ·rw [hby] at kk
           have HBY:=Lib.hid hby
           clear hby
           go_wp2_with fail
           refine kk.mono ?_;rintro e w6 ⟨rfl,hb6⟩;have HB6:=Lib.hid (HB5.out.trans (hb6.mono HB5.out.size));have HS6:=Lib.hid (HS5.out.trans (hb6.mono HS5.out.size));have HR6:=Lib.hid (C5.later HR5'.out hb6 HL5.out);have HL6:=Lib.hid (Nat.lt_of_lt_of_le HL5.out hb6.size);clear hb6 r0 r1 r2 r3 r4 kk HR5' HL5 HS5 HB5;obtain ⟨r0,r1,r2,r3,r4⟩:=HR6.out;have kk:=KRL.out w6
           cases hrl:rightL lv
           ·have HX1:Hid (checkP p=1):=Lib.hid (HBAD.out (by unfold badIh;dsimp only;rw [hrl];simp))
            rw [hrl] at kk;clear hrl;go_wp2_with fail
            refine kk.mono ?_;rintro e w7 ⟨rfl,hb7⟩;have HB7:=Lib.hid (HB6.out.trans (hb7.mono HB6.out.size));clear hb7 r0 r1 r2 r3 r4 kk;go_wp2;go_ret;exact ⟨by rw [HX1.out];rfl,HB7.out⟩
           ·rw [hrl] at kk
            have HRLt:=Lib.hid hrl;clear hrl;go_wp2_with fail
            refine kk.mono ?_;rintro e w7 ⟨rfl,hb7⟩;have HB7:=Lib.hid (HB6.out.trans (hb7.mono HB6.out.size));have HS7:=Lib.hid (HS6.out.trans (hb7.mono HS6.out.size));have HR7:=Lib.hid (C5.later HR6.out hb7 HL6.out);have HL7:=Lib.hid (Nat.lt_of_lt_of_le HL6.out hb7.size);clear hb7 r0 r1 r2 r3 r4 kk HR6 HL6 HS6 HB6;obtain ⟨r0,r1,r2,r3,r4⟩:=HR7.out;have kk:=KW1.out _ HB7.out
            cases hw1:whenP frm
            ·have HX1:Hid (checkP p=1):=Lib.hid (HBAD.out (by unfold badIh;dsimp only;rw [hw1];simp))
             rw [hw1] at kk;clear hw1;go_wp2_with fail
             refine kk.mono ?_;rintro e w8 ⟨rfl,hb8⟩;have HB8:=Lib.hid (HB7.out.trans (hb8.mono HB7.out.size));clear hb8 r0 r1 r2 r3 r4 kk;go_wp2;go_ret;exact ⟨by rw [HX1.out];rfl,HB8.out⟩
            ·rw [hw1] at kk
             have HW1:=Lib.hid hw1;clear hw1;go_wp2_with fail
             refine kk.mono ?_;rintro e w8 ⟨rfl,hb8⟩;have HB8:=Lib.hid (HB7.out.trans (hb8.mono HB7.out.size));have HS8:=Lib.hid (HS7.out.trans (hb8.mono HS7.out.size));have HR8:=Lib.hid (C5.later HR7.out hb8 HL7.out);clear hb8 r0 r1 r2 r3 r4 kk HR7 HL7 HS7 HB7;obtain ⟨r0,r1,r2,r3,r4⟩:=HR8.out;have kk:=KW2.out _ HB8.out
             cases hw2:whenP whn
             ·have HX1:Hid (checkP p=1):=Lib.hid (HBAD.out (by unfold badIh;dsimp only;rw [hw2];simp))
              rw [hw2] at kk;clear hw2;go_wp2_with fail
              refine kk.mono ?_;rintro e w9 ⟨rfl,hb9⟩;have HB9:=Lib.hid (HB8.out.trans (hb9.mono HB8.out.size));clear hb9 r0 r1 r2 r3 r4 kk;go_wp2;go_ret;exact ⟨by rw [HX1.out];rfl,HB9.out⟩
             ·have HOK:Hid (∀ j (_:j < p.ih.length),j < k+1→badIh p.ih[j]=false):=Lib.hid (fun j hj h=>by
               rcases Nat.lt_or_ge j k with h' | h'
               ·exact HT.out j hj h'
               ·obtain rfl:j=k:=by omega
                rw [HX.out];unfold badIh;dsimp only;rw [HBY.out,HRLt.out,HW1.out,hw2];rfl)
              rw [hw2] at kk;clear hw2;go_wp2_with fail
              refine kk.mono ?_;rintro e w9 ⟨rfl,hb9⟩;have HS9:=Lib.hid (HS8.out.trans (hb9.mono HS8.out.size));clear hb9 r0 r1 r2 r3 r4 kk;go_wp2;go_roundw
              case rel=>exact ⟨k+1,by go_num,by omega,HOK,HS9.out⟩
              case measure=>(simp [intOf];try omega)
         ·obtain rfl:k=p.ih.length:=by omega
          have HX1:Hid (checkP p=0):=Lib.hid (check_ok HLP.out HNP.out HRO.out (fun j hj=>HT.out j hj hj));clear HT hk hkl;go_wp2;go_ret;exact ⟨by rw [HX1.out];rfl,HBW.out⟩
open Go.Sort
abbrev U (x:Int):Value:=.int .u64 x
open Go.Maps Go.Shelf
attribute [local go_sem] Oper.semAt_some
section
variable {H:Type} {D0:DataW H} {left:Lit→Bool} {ss:List Int}
variable {P:Program} {k:TypeId} {R:Value→Option (DataW H × List MemPlace)} {w:World} {b n:Nat}
end
end Go.Proofs.YtipnhpfpppblhaaGreat
namespace Go.Proofs.YtipnhpfpppblhaaGreat
open Go.RowKit Go.Maps
def wfL (x:Int × Nat):Prop:=(Lit.int .i64 x.1).wf=true∧(Lit.int .u32 x.2).wf=true
def kL (x:Int × Nat):Lit:=.string (keyBytes [.int .i64 x.1,.int .u32 x.2])
def R2:Value→Option (DataW Unit × List MemPlace)
 | .map none=>some (.nil,[])
 | .map (some b)=>some (.lit (.int .i64 b),[])
 | _=>none
structure Ent where
 x:Int × Nat
 b:Nat
 ids:List Int
abbrev yes:DataW Unit:=.lit (.bool true)
def idsD (ids:List Int):DataW Unit:=setOf yes (ids.map (Lit.int .u64))
def DT:List Ent→DataW Unit
 | []=>.map []
 | e :: T=>(DT T).put (kL e.x) (.lit (.int .i64 e.b))
structure ApM (w:World) (base m:Nat) (T:List Ent):Prop where
 outer:w.ownsMap Tryz.prog 36 R2 m T.length (DT T)
 inner:∀ e∈T,w.ownsMap Tryz.prog 69 (plainElem Tryz.prog 4) e.b e.ids.length (idsD e.ids)
 far:∀ e∈T,base≤e.b∧e.b≠m
 apart:T.Pairwise (fun e f=>e.b≠f.b)
 once:T.Pairwise (fun e f=>e.x≠f.x)
 wf:∀ e∈T,wfL e.x∧∀ i∈e.ids,(Lit.int .u64 i).wf=true
 low:base≤m
end Go.Proofs.YtipnhpfpppblhaaGreat
namespace Go.Proofs.YtipnhpfpppblhaaGreat
open Go.RowKit
def rotW (x:Int) (s:Nat):Int:=bits BinOp.or .u32 (x * 2 ^ s % 4294967296) (x / 2 ^ (32 - s))
set_option maxHeartbeats 800000 in
theorem rot_any (x k:Int) (s:Nat) (w:World) (hs:s≤31) (hk:bits BinOp.and IntKind.u64 (IntKind.u64.wrap k) 31=(s:Int)) :
  Calls Tryz.prog 146 #[.int .u32 x,.int .i64 k] w fun e w'=>e=.returned (.int .u32 (rotW x s))∧w'=w:=by
 have h1:IntKind.u64.wrap (32 - (s:Int))=((32 - s:Nat):Int):=by rw [IntKind.wrap_u64];omega
 go_enter Tryz.func146,Tryz.ntmps146
 go_wp2;go_ret;exact ⟨rfl,rfl⟩
theorem neg_and:∀ k:Nat,k < 32→0 < k→bits BinOp.and IntKind.u64 (IntKind.u64.wrap (-(k:Int))) 31=((32 - k:Nat):Int):=by decide +kernel
theorem rotr_any (x:Int) (k:Nat) (w:World) (h0:0 < k) (hk:k < 32) :
  Calls Tryz.prog 146 #[.int .u32 x,.int .i64 (-(k:Int))] w fun e w'=>e=.returned (.int .u32 (rotW x (32 - k)))∧w'=w :=
 rot_any x (-(k:Int)) (32 - k) w (by omega) (neg_and k hk h0)
def mixW (a b c sh:Nat) (x:Int):Int:=bits BinOp.xor .u32 (bits BinOp.xor .u32 (rotW x (32 - a)) (rotW x (32 - b))) (if 0 < sh then x / 2 ^ sh else rotW x (32 - c))
set_option maxHeartbeats 1600000 in
set_option maxRecDepth 100000 in
theorem of_sh (a b c sh:Nat) (x:Int) (w:World) (ha:0 < a∧a < 32) (hb:0 < b∧b < 32) (hs:0 < sh∧sh < 32) :
  Calls Tryz.prog 134 #[.agg #[.int .i64 a,.int .i64 b,.int .i64 c,.int .i64 sh],.int .u32 x] w fun e w'=>e=.returned (.int .u32 (mixW a b c sh x))∧Below w.heap.size w w':=by
 have HM:Hid (mixW a b c sh x=bits BinOp.xor .u32 (bits BinOp.xor .u32 (rotW x (32 - a)) (rotW x (32 - b))) (x / 2 ^ sh)):=by show _=_;unfold mixW;rw [if_pos hs.1]
 have hs0:(0:Int) < (sh:Int):=by omega
 have hwa:IntKind.i64.wrap (-(a:Int))=-(a:Int):=by rw [IntKind.wrap_i64];omega
 have hwb:IntKind.i64.wrap (-(b:Int))=-(b:Int):=by rw [IntKind.wrap_i64];omega
 have ka:=fun W=>rotr_any x a W ha.1 ha.2;have kb:=fun W=>rotr_any x b W hb.1 hb.2
 go_enter Tryz.func134,Tryz.ntmps134
 go_wp2;have hc:∀ (i:Nat),(w.alloc (.cells #[.int .i64 a,.int .i64 b,.int .i64 c,.int .i64 sh] 189)).cell? ⟨w.heap.size,i,none⟩=(#[.int .i64 a,.int .i64 b,.int .i64 c,.int .i64 sh]:Array Value)[i]?:=fun i=>World.cell?_alloc_at _ _ _ _ rfl;have a0:=hc 0;have a1:=hc 1;have a2:=hc 2;have a3:=hc 3;have hba:=aBq w (.cells #[.int .i64 a,.int .i64 b,.int .i64 c,.int .i64 sh] 189);generalize w.alloc (.cells #[.int .i64 a,.int .i64 b,.int .i64 c,.int .i64 sh] 189)=wa at *;change wa.cell? _=some _ at a0;change wa.cell? _=some _ at a1;change wa.cell? _=some _ at a2;change wa.cell? _=some _ at a3;refine wp_region_held_drew (S:=(fun w'=>w'.cell? ⟨w.heap.size,0,none⟩=some (.int .i64 a)∧w'.cell? ⟨w.heap.size,1,none⟩=some (.int .i64 b)∧w'.cell? ⟨w.heap.size,2,none⟩=some (.int .i64 c)∧w'.cell? ⟨w.heap.size,3,none⟩=some (.int .i64 sh))) (by kernel_rfl) ⟨a0,a1,a2,a3⟩ (fun hHeld=>?_);refine plIn [0,1,2,3,5,6,7,8] ?_
 iterate 8
  refine hP (v:=?_) rfl rfl hHeld ?_ ?_;rotate_left
  ·rintro wh ⟨z0,z1,z2,z3⟩
   go_simp
   (try with_reducible rfl)
  simp only [Act.put,aS1,aS2,aS3]
 refine plOut ?_;refine held_call (i:=4) rfl (by kernel_rfl) (by rfl) (fun K hK=>?_)
 (go_simp;go_at_call 146;refine (ka _).mono ?_;rintro e w1 ⟨rfl,rfl⟩)
 refine hK.out _ _ ⟨a0,a1,a2,a3⟩ (fun hHeld=>?_);clear hK K
 (try simp only [Act.put,aS1,aS2,aS3])
 refine held_call (i:=9) rfl (by kernel_rfl) (by rfl) (fun K hK=>?_)
 (go_simp;go_at_call 146;refine (kb _).mono ?_;rintro e w1 ⟨rfl,rfl⟩)
 refine hK.out _ _ ⟨a0,a1,a2,a3⟩ (fun hHeld=>?_);clear hK K
 (try simp only [Act.put,aS1,aS2,aS3])
 refine plIn [10,11] ?_
 iterate 2
  refine hP (v:=?_) rfl rfl hHeld ?_ ?_;rotate_left
  ·rintro wh ⟨z0,z1,z2,z3⟩
   go_simp
   (try with_reducible rfl)
  simp only [Act.put,aS1,aS2,aS3]
 refine plOut ?_;refine wpAnyH_done (by kernel_rfl) ?_ _;go_wp2;go_ret;exact ⟨by rw [HM.out];rfl,hba.drew⟩
set_option maxHeartbeats 1600000 in
set_option maxRecDepth 100000 in
theorem of_rot (a b c:Nat) (x:Int) (w:World) (ha:0 < a∧a < 32) (hb:0 < b∧b < 32) (hc:0 < c∧c < 32) :
  Calls Tryz.prog 134 #[.agg #[.int .i64 a,.int .i64 b,.int .i64 c,.int .i64 0],.int .u32 x] w fun e w'=>e=.returned (.int .u32 (mixW a b c 0 x))∧Below w.heap.size w w':=by
 have HM:Hid (mixW a b c 0 x=bits BinOp.xor .u32 (bits BinOp.xor .u32 (rotW x (32 - a)) (rotW x (32 - b))) (rotW x (32 - c))):=by show _=_;unfold mixW;rw [if_neg (Nat.lt_irrefl 0)]
 have hwc:IntKind.i64.wrap (-(c:Int))=-(c:Int):=by rw [IntKind.wrap_i64];omega
 have hwc':wrap64 (-(c:Int))=-(c:Int):=by unfold wrap64;omega
 have kc:=fun W=>rotr_any x c W hc.1 hc.2;have hwa:IntKind.i64.wrap (-(a:Int))=-(a:Int):=by rw [IntKind.wrap_i64];omega
 have hwb:IntKind.i64.wrap (-(b:Int))=-(b:Int):=by rw [IntKind.wrap_i64];omega
 have ka:=fun W=>rotr_any x a W ha.1 ha.2;have kb:=fun W=>rotr_any x b W hb.1 hb.2
 go_enter Tryz.func134,Tryz.ntmps134
 go_wp2;have hcell:∀ (i:Nat),(w.alloc (.cells #[.int .i64 a,.int .i64 b,.int .i64 c,.int .i64 0] 189)).cell? ⟨w.heap.size,i,none⟩=(#[.int .i64 a,.int .i64 b,.int .i64 c,.int .i64 0]:Array Value)[i]?:=fun i=>World.cell?_alloc_at _ _ _ _ rfl;have a0:=hcell 0;have a1:=hcell 1;have a2:=hcell 2;have a3:=hcell 3;have hba:=aBq w (.cells #[.int .i64 a,.int .i64 b,.int .i64 c,.int .i64 0] 189);generalize w.alloc (.cells #[.int .i64 a,.int .i64 b,.int .i64 c,.int .i64 0] 189)=wa at *;change wa.cell? _=some _ at a0;change wa.cell? _=some _ at a1;change wa.cell? _=some _ at a2;change wa.cell? _=some _ at a3;refine wp_region_held_drew (S:=(fun w'=>w'.cell? ⟨w.heap.size,0,none⟩=some (.int .i64 a)∧w'.cell? ⟨w.heap.size,1,none⟩=some (.int .i64 b)∧w'.cell? ⟨w.heap.size,2,none⟩=some (.int .i64 c)∧w'.cell? ⟨w.heap.size,3,none⟩=some (.int .i64 0))) (by kernel_rfl) ⟨a0,a1,a2,a3⟩ (fun hHeld=>?_);refine plIn [0,1,2,3,5,6,7,8] ?_
 iterate 8
  refine hP (v:=?_) rfl rfl hHeld ?_ ?_;rotate_left
  ·rintro wh ⟨z0,z1,z2,z3⟩
   go_simp
   (try with_reducible rfl)
  simp only [Act.put,aS1,aS2,aS3]
 refine plOut ?_;refine held_call (i:=4) rfl (by kernel_rfl) (by rfl) (fun K hK=>?_)
 (go_simp;go_at_call 146;refine (ka _).mono ?_;rintro e w1 ⟨rfl,rfl⟩)
 refine hK.out _ _ ⟨a0,a1,a2,a3⟩ (fun hHeld=>?_);clear hK K
 (try simp only [Act.put,aS1,aS2,aS3])
 refine held_call (i:=9) rfl (by kernel_rfl) (by rfl) (fun K hK=>?_)
 (go_simp;go_at_call 146;refine (kb _).mono ?_;rintro e w1 ⟨rfl,rfl⟩)
 refine hK.out _ _ ⟨a0,a1,a2,a3⟩ (fun hHeld=>?_);clear hK K
 (try simp only [Act.put,aS1,aS2,aS3])
 refine plIn [10,11] ?_
 iterate 2
  refine hP (v:=?_) rfl rfl hHeld ?_ ?_;rotate_left
  ·rintro wh ⟨z0,z1,z2,z3⟩
   go_simp
   (try with_reducible rfl)
  simp only [Act.put,aS1,aS2,aS3]
 refine plOut ?_;refine wpAnyH_done (by kernel_rfl) ?_ _;go_wp2_with fail
 refine (kc _).mono ?_;rintro e w1 ⟨rfl,rfl⟩;go_wp2;go_ret;exact ⟨by rw [HM.out];rfl,hba.drew⟩
abbrev V32 (x:Int):Value:=.int .u32 x
def startL:List Int:=[1779033703,3144134277,1013904242,2773480762,1359893119,2600822924,528734635,1541459225]
def startV:Array Value:=(startL.map V32).toArray
def keysV:Array Value:=#[.int .u32 1116352408,.int .u32 1899447441,.int .u32 3049323471,.int .u32 3921009573,.int .u32 961987163,.int .u32 1508970993,.int .u32 2453635748,.int .u32 2870763221,.int .u32 3624381080,.int .u32 310598401,.int .u32 607225278,.int .u32 1426881987,.int .u32 1925078388,.int .u32 2162078206,.int .u32 2614888103,.int .u32 3248222580,.int .u32 3835390401,.int .u32 4022224774,.int .u32 264347078,.int .u32 604807628,.int .u32 770255983,.int .u32 1249150122,.int .u32 1555081692,.int .u32 1996064986,.int .u32 2554220882,.int .u32 2821834349,.int .u32 2952996808,.int .u32 3210313671,.int .u32 3336571891,.int .u32 3584528711,.int .u32 113926993,.int .u32 338241895,.int .u32 666307205,.int .u32 773529912,.int .u32 1294757372,.int .u32 1396182291,.int .u32 1695183700,.int .u32 1986661051,.int .u32 2177026350,.int .u32 2456956037,.int .u32 2730485921,.int .u32 2820302411,.int .u32 3259730800,.int .u32 3345764771,.int .u32 3516065817,.int .u32 3600352804,.int .u32 4094571909,.int .u32 275423344,.int .u32 430227734,.int .u32 506948616,.int .u32 659060556,.int .u32 883997877,.int .u32 958139571,.int .u32 1322822218,.int .u32 1537002063,.int .u32 1747873779,.int .u32 1955562222,.int .u32 2024104815,.int .u32 2227730452,.int .u32 2361852424,.int .u32 2428436474,.int .u32 2756734187,.int .u32 3204031479,.int .u32 3329325298]
def keyL (i:Nat):Int:=match keysV[i]? with | some (.int _ x)=>x | _=>0
theorem keysV_at (i:Nat) (h:i < 64):keysV[i]?=some (V32 (keyL i)):=by
 have hk:∀ i,i < 64→(match keysV[i]? with | some (.int .u32 _)=>true | _=>false)=true:=by decide +kernel
 have:=hk i h
 unfold keyL
 split at this
 ·next x hx=>rw [hx]
 ·cases this
set_option maxHeartbeats 1600000 in
set_option maxRecDepth 100000 in
theorem start_any (w:World):Calls Tryz.prog 122 #[] w fun e w'=>e=.returned (.agg startV)∧Below w.heap.size w w':=by
 go_enter Tryz.func122,Tryz.ntmps122
 go_wp2;refine bodyPost_ret (results_cell_row rfl _ _ w.heap.size 157 startV (0,0) (.array 8 34) rfl (heap_alloc_new _ _) Tryz.underlying157 rfl (by kernel_rfl)) rfl ?_;exact ⟨rfl,(Below.refl _ _).alloc (Nat.le_refl _) _⟩
set_option maxHeartbeats 1600000 in
set_option maxRecDepth 100000 in
theorem keys_any (w:World):Calls Tryz.prog 135 #[] w fun e w'=>e=.returned (.agg keysV)∧Below w.heap.size w w':=by
 go_enter Tryz.func135,Tryz.ntmps135
 go_upto_region 1 with fail;have h1:∃ z:Array Value,z.size=64∧(w.alloc (.cells (Array.replicate 64 (V32 0)) 159)).heap[w.heap.size]?=some (.cells z 159 (0,0)):=⟨_,by simp,heap_alloc_new _ _⟩;have hb:=(Below.refl w.heap.size w).alloc (Nat.le_refl _) (.cells (Array.replicate 64 (V32 0)) 159);change Code.wp _ _ _ _ (w.alloc (.cells (Array.replicate 64 (V32 0)) 159));generalize w.alloc (.cells (Array.replicate 64 (V32 0)) 159)=w0 at *;obtain ⟨z,hz,hg⟩:=h1
 apply wp_region_lit
 refine wpList_build rfl 159 _ rfl (by kernel_rfl) ?_;refine wpList_store_row rfl 159 (.tmp 0) (.tmp 1) rfl w.heap.size keysV rfl (by kernel_rfl) 159 z hg (by kernel_rfl) hz (by kernel_rfl) ?_;have hg2:=setRow_heap w0 w.heap.size z keysV _ _ hg;have hb2:Below w.heap.size w (w0.setRow w.heap.size keysV):=below_setRow hb (Nat.le_refl _) _;generalize w0.setRow w.heap.size keysV=w1 at *;generalize (Tryz.prog.built 159 _).getD #[]=X;simp only [Act.put,aS1,aS2,aS3];show Exit.then _ _ Exit.normal _ _;simp only [Exit.then];refine (by assumption:∀ (a:Act) (w:World),Code.wp _ Code.ret _ a w→_) _ _ ?_;go_wp2;refine bodyPost_ret (results_cell_row rfl _ _ w.heap.size 159 keysV (0,0) (.array 64 34) rfl hg2 Tryz.underlying159 rfl (by kernel_rfl)) rfl ?_;exact ⟨rfl,hb2⟩
theorem run_index_keys (k:Nat) (h:k < 64) (w:World):(Instr.index 159 (.agg keysV) (.int .i64 k)).run Tryz.prog w=.ok (V32 (keyL k)) w:=by
 have hk:=keysV_at k h;have h1:(0:Int)≤(k:Int)∧(k:Int) < ((64:Nat):Int):=by omega
 simp [Instr.index,run_underlying Tryz.underlying159,asIntOf,go_sem,h1,part,Tryz.isAgg34,Tryz.sizeOf34,hk]
 intro h2;omega
def WAt (w:World) (g:Nat) (S:List Int):Prop:=S.length≤64∧w.heap[g]?=some (.cells ((S.map V32 ++ List.replicate (64 - S.length) (V32 0)).toArray) 159 (0,0))
theorem WAt.later {w w':World} {g:Nat} {S:List Int} (h:WAt w g S) (hb:Below w.heap.size w w'):WAt w' g S :=
 ⟨h.1,by rw [hb.block g (Array.getElem?_eq_some_iff.1 h.2).1];exact h.2⟩
theorem WAt.lt {w:World} {g:Nat} {S:List Int} (h:WAt w g S):g < w.heap.size:=(Array.getElem?_eq_some_iff.1 h.2).1
theorem cell_row {w:World} {p j:Nat} {cs:Array Value} {t:TypeId} {fr:Nat × Nat} (h:w.heap[p]?=some (.cells cs t fr)):w.cell? ⟨p,j,none⟩=cs[j]?:=by
 simp [World.cell?,h]
theorem WAt.cell {w:World} {g:Nat} {S:List Int} (h:WAt w g S) (j:Nat) (hj:j < S.length):w.cell? ⟨g,j,none⟩=some (V32 S[j]):=by
 rw [cell_row h.2,List.getElem?_toArray,List.getElem?_append_left (by simpa using hj),List.getElem?_map,List.getElem?_eq_getElem hj];rfl
theorem WAt.free {w:World} {g:Nat} {S:List Int} (h:WAt w g S) (j:Nat):w.frozen? ⟨g,j,none⟩=false:=by simp [World.frozen?,h.2]
theorem WAt.old {w:World} {g:Nat} {S:List Int} (h:WAt w g S) (hj:S.length < 64):w.cell? ⟨g,S.length,none⟩=some (V32 0):=by
 rw [cell_row h.2,List.getElem?_toArray,List.getElem?_append_right (by simp)];rw [List.length_map,Nat.sub_self,List.getElem?_replicate,if_pos (by omega)]
theorem WAt.store {w:World} {g:Nat} {S:List Int} (h:WAt w g S) (hj:S.length < 64) (x:Int):WAt (w.setCell ⟨g,S.length,none⟩ (V32 x)) g (S ++ [x]):=by
 refine ⟨by simp;omega,?_⟩;rw [heap_setCell_same w g S.length _ _ _ h.2];have e:64 - S.length=(64 - (S ++ [x]).length)+1:=by simp;omega
 rw [e,List.replicate_succ]
 congr 2
 simp [List.setIfInBounds_toArray]
theorem below_setCell {B:Nat} (w:World) (g j:Nat) (v:Value) (hB:B≤g):Below B w (w.setCell ⟨g,j,none⟩ v) :=
 ⟨rfl,rfl,rfl,by simp [World.setCell],fun k hk=>by have:=Below.heap_setCell w ⟨g,j,none⟩ v k (by show k≠g;omega);exact this⟩
def word4 (a b c d:Int):Int:=bits BinOp.or .u32 (bits BinOp.or .u32 (bits BinOp.or .u32 (a * 16777216 % 4294967296) (b * 65536 % 4294967296)) (c * 256 % 4294967296)) d
def wordAt (bs:List Int) (k:Nat):Int:=word4 (bs.getD (4 * k) 0) (bs.getD (4 * k+1) 0) (bs.getD (4 * k+2) 0) (bs.getD (4 * k+3) 0)
def wordsL (bs:List Int) (k:Nat):List Int:=(List.range k).map (wordAt bs)
theorem wordsL_succ (bs:List Int) (k:Nat):wordsL bs (k+1)=wordsL bs k ++ [wordAt bs k]:=by simp [wordsL,List.range_succ]
theorem wordsL_len (bs:List Int) (k:Nat):(wordsL bs k).length=k:=by simp [wordsL]
def Bytes8 (w:World) (a:Addr) (bs:List Int):Prop:=∃ b o,a=⟨b,o,none⟩∧b < w.heap.size∧∀ j (h:j < bs.length),w.cell? ⟨b,o+j,none⟩=some (.int .u8 bs[j])∧0≤bs[j]∧bs[j] < 256
def nextW (S:List Int):Int :=
 (((S.getD (S.length - 16) 0+mixW 7 18 0 3 (S.getD (S.length - 15) 0)) % 4294967296+S.getD (S.length - 7) 0) % 4294967296+mixW 17 19 0 10 (S.getD (S.length - 2) 0)) % 4294967296
def schedL (bs:List Int):Nat→List Int
 | 0=>wordsL bs 16
 | k+1=>schedL bs k ++ [nextW (schedL bs k)]
theorem schedL_len (bs:List Int) (k:Nat):(schedL bs k).length=16+k:=by
 induction k with
 | zero=>exact wordsL_len bs 16
 | succ k ih=>rw [schedL,List.length_append,ih];simp;omega
def C4 (p:Nat) (a b c d:Value) (W:World):Prop:=W.cell? ⟨p,0,none⟩=some a∧W.cell? ⟨p,1,none⟩=some b∧W.cell? ⟨p,2,none⟩=some c∧W.cell? ⟨p,3,none⟩=some d
theorem C4.later {p:Nat} {a b c d:Value} {W W':World} (h:C4 p a b c d W) (hb:Below W.heap.size W W') (hp:p < W.heap.size):C4 p a b c d W' :=
 ⟨kCq h.1 hb hp,kCq h.2.1 hb hp,kCq h.2.2.1 hb hp,kCq h.2.2.2 hb hp⟩
theorem C4.beside {p g j:Nat} {a b c d v:Value} {W:World} (h:C4 p a b c d W) (hne:p≠g):C4 p a b c d (W.setCell ⟨g,j,none⟩ v):=by
 obtain ⟨h0,h1,h2,h3⟩:=h
 refine ⟨?_,?_,?_,?_⟩ <;> (rw [World.cell?_setCell_far _ _ _ _ (by show g≠p;omega)];assumption)
def SumAt (w:World) (p:Nat) (V:List Int) (rv:Value) (cnt:Int):Prop:=V.length=8∧w.heap[p]?=some (.cells (V.map V32 ++ [rv,.int .i64 cnt]).toArray 172 (0,0))
theorem SumAt.later {w w':World} {p:Nat} {V:List Int} {rv:Value} {cnt:Int} (h:SumAt w p V rv cnt) (hb:Below w.heap.size w w'):SumAt w' p V rv cnt :=
 ⟨h.1,by rw [hb.block p (Array.getElem?_eq_some_iff.1 h.2).1];exact h.2⟩
theorem SumAt.lt {w:World} {p:Nat} {V:List Int} {rv:Value} {cnt:Int} (h:SumAt w p V rv cnt):p < w.heap.size:=(Array.getElem?_eq_some_iff.1 h.2).1
theorem SumAt.word {w:World} {p:Nat} {V:List Int} {rv:Value} {cnt:Int} (h:SumAt w p V rv cnt) (j:Nat) (hj:j < 8):w.cell? ⟨p,j,none⟩=some (V32 (V.getD j 0)):=by
 have hl:=h.1;rw [cell_row h.2,List.getElem?_toArray,List.getElem?_append_left (by simp;omega),List.getElem?_map,List.getD_eq_getElem?_getD,List.getElem?_eq_getElem (by omega)];rfl
theorem SumAt.rest {w:World} {p:Nat} {V:List Int} {rv:Value} {cnt:Int} (h:SumAt w p V rv cnt):w.cell? ⟨p,8,none⟩=some rv:=by
 have hl:=h.1;rw [cell_row h.2,List.getElem?_toArray,List.getElem?_append_right (by simp;omega)];simp [hl]
theorem SumAt.count {w:World} {p:Nat} {V:List Int} {rv:Value} {cnt:Int} (h:SumAt w p V rv cnt):w.cell? ⟨p,9,none⟩=some (.int .i64 cnt):=by
 have hl:=h.1;rw [cell_row h.2,List.getElem?_toArray,List.getElem?_append_right (by simp;omega)];simp [hl]
theorem SumAt.free {w:World} {p:Nat} {V:List Int} {rv:Value} {cnt:Int} (h:SumAt w p V rv cnt) (j:Nat):w.frozen? ⟨p,j,none⟩=false:=by simp [World.frozen?,h.2]
theorem SumAt.put {w:World} {p:Nat} {V:List Int} {rv:Value} {cnt:Int} (h:SumAt w p V rv cnt) (j:Nat) (hj:j < 8) (x:Int):SumAt (w.setCell ⟨p,j,none⟩ (V32 x)) p (V.set j x) rv cnt:=by
 have hl:=h.1;refine ⟨by simp [hl],?_⟩;rw [heap_setCell_same w p j _ _ _ h.2]
 congr 2
 rw [List.setIfInBounds_toArray,List.set_append_left _ _ (by simp;omega),List.map_set]
def tL (m:Int) (v4 v5 v6 v7 k x:Int):Int:=IntKind.u32.wrap (IntKind.u32.wrap (IntKind.u32.wrap (IntKind.u32.wrap (v7+m)+bits BinOp.xor .u32 (bits BinOp.and .u32 v4 v5) (bits BinOp.and .u32 (bits BinOp.xor .u32 (if IntKind.u32.signed=true then -1 else IntKind.u32.max) v4) v6))+k)+x)
def uL (m:Int) (v0 v1 v2:Int):Int:=IntKind.u32.wrap (m+bits BinOp.xor .u32 (bits BinOp.xor .u32 (bits BinOp.and .u32 v0 v1) (bits BinOp.and .u32 v0 v2)) (bits BinOp.and .u32 v1 v2))
def roundL:List Int→Int→Int→List Int
 | [v0,v1,v2,v3,v4,v5,v6,v7],k,x =>
  [(tL (mixW 6 11 25 0 v4) v4 v5 v6 v7 k x+uL (mixW 2 13 22 0 v0) v0 v1 v2) % 4294967296,v0,v1,v2,(v3+tL (mixW 6 11 25 0 v4) v4 v5 v6 v7 k x) % 4294967296,v4,v5,v6]
 | v,_,_=>v
def roundsL (W V:List Int):Nat→List Int
 | 0=>V
 | k+1=>roundL (roundsL W V k) (keyL k) (W.getD k 0)
def VAt (w:World) (g:Nat) (v:List Int):Prop:=v.length=8∧w.heap[g]?=some (.cells (v.map V32).toArray 157 (0,0))
theorem VAt.later {w w':World} {g:Nat} {v:List Int} (h:VAt w g v) (hb:Below w.heap.size w w'):VAt w' g v :=
 ⟨h.1,by rw [hb.block g (Array.getElem?_eq_some_iff.1 h.2).1];exact h.2⟩
theorem VAt.cell {w:World} {g:Nat} {v:List Int} (h:VAt w g v) (j:Nat) (x:Int) (hj:v[j]?=some x):w.cell? ⟨g,j,none⟩=some (V32 x):=by
 rw [cell_row h.2,List.getElem?_toArray,List.getElem?_map,hj];rfl
theorem VAt.free {w:World} {g:Nat} {v:List Int} (h:VAt w g v) (j:Nat):w.frozen? ⟨g,j,none⟩=false:=by simp [World.frozen?,h.2]
theorem VAt.put {w:World} {g:Nat} {v:List Int} (h:VAt w g v) (j:Nat) (x:Int):VAt (w.setCell ⟨g,j,none⟩ (V32 x)) g (v.set j x):=by
 refine ⟨by simp [h.1],?_⟩;rw [heap_setCell_same w g j _ _ _ h.2,List.setIfInBounds_toArray,List.map_set]
theorem VAt.src {w:World} {g:Nat} {x0 x1 x2 x3 x4 x5 x6 x7:Int} (h:VAt w g [x0,x1,x2,x3,x4,x5,x6,x7]):∀ j v,[V32 x0,V32 x1,V32 x2,V32 x3,V32 x4,V32 x5,V32 x6][j]?=some v→w.cell? ((⟨g,0,none⟩:Addr).add j)=some v:=by
 intro j v hj;rw [Addr.add_mid,Nat.zero_add]
 match j,hj with
 | 0,hj=>exact (h.cell 0 _ rfl).trans hj
 | 1,hj=>exact (h.cell 1 _ rfl).trans hj
 | 2,hj=>exact (h.cell 2 _ rfl).trans hj
 | 3,hj=>exact (h.cell 3 _ rfl).trans hj
 | 4,hj=>exact (h.cell 4 _ rfl).trans hj
 | 5,hj=>exact (h.cell 5 _ rfl).trans hj
 | 6,hj=>exact (h.cell 6 _ rfl).trans hj
 | j+7,hj=>simp at hj
theorem heap_else (w:World) (g j k:Nat) (v:Value) (h:k≠g):(w.setCell ⟨g,j,none⟩ v).heap[k]?=w.heap[k]?:=Below.heap_setCell w ⟨g,j,none⟩ v k h
theorem WAt.of_heap {w w':World} {g:Nat} {S:List Int} (h:WAt w g S) (he:w'.heap[g]?=w.heap[g]?):WAt w' g S:=⟨h.1,he.trans h.2⟩
theorem VAt.of_heap {w w':World} {g:Nat} {S:List Int} (h:VAt w g S) (he:w'.heap[g]?=w.heap[g]?):VAt w' g S:=⟨h.1,he.trans h.2⟩
theorem SumAt.of_heap {w w':World} {p:Nat} {V:List Int} {rv:Value} {cnt:Int} (h:SumAt w p V rv cnt) (he:w'.heap[p]?=w.heap[p]?):SumAt w' p V rv cnt:=⟨h.1,he.trans h.2⟩
theorem C4.of_heap {p:Nat} {a b c d:Value} {W W':World} (h:C4 p a b c d W) (he:W'.heap[p]?=W.heap[p]?):C4 p a b c d W':=by
 have hk:∀ j,W'.cell? ⟨p,j,none⟩=W.cell? ⟨p,j,none⟩:=fun j=>World.cell?_of_block (a:=⟨p,j,none⟩) he;exact ⟨(hk 0).trans h.1,(hk 1).trans h.2.1,(hk 2).trans h.2.2.1,(hk 3).trans h.2.2.2⟩
theorem grown_two {w w1 w2:World} {r:Option Nat} (h1:w.grownBy w1 r) (h2:w1.grownBy w2 r):w.grownBy w2 r :=
 ⟨h2.os.trans h1.os,h2.tape.trans h1.tape,h2.output.trans h1.output,Nat.le_trans h1.size h2.size,fun k hk hr=>(h2.block k (Nat.lt_of_lt_of_le hk h1.size) hr).trans (h1.block k hk hr)⟩
theorem grown_setCell (w:World) (p i:Nat) (v:Value):w.grownBy (w.setCell ⟨p,i,none⟩ v) (some p):=⟨rfl,rfl,rfl,by simp,fun k _ hne=>Below.heap_setCell w ⟨p,i,none⟩ v k (fun e=>hne (by rw [e]))⟩
theorem three_boxes {w W:World} {xs ys zs:Array Value} {t u v:TypeId} (hb:Below (((w.alloc (.cells xs t)).alloc (.cells ys u)).alloc (.cells zs v)).heap.size (((w.alloc (.cells xs t)).alloc (.cells ys u)).alloc (.cells zs v)) W) :
  Below w.heap.size w W∧W.heap[w.heap.size+1+1]?=some (.cells zs v (0,0))∧(xs.size=4→C4 w.heap.size (xs.getD 0 undef) (xs.getD 1 undef) (xs.getD 2 undef) (xs.getD 3 undef) W)∧(ys.size=4→C4 (w.heap.size+1) (ys.getD 0 undef) (ys.getD 1 undef) (ys.getD 2 undef) (ys.getD 3 undef) W)∧w.heap.size+1+1 < W.heap.size:=by
 have hs:(((w.alloc (.cells xs t)).alloc (.cells ys u)).alloc (.cells zs v)).heap.size=w.heap.size+1+1+1:=by rw [World.size_alloc,World.size_alloc,World.size_alloc]
 obtain ⟨h1,h2,h3⟩:=box_cells hb;obtain ⟨h4,h5,h6,h7⟩:=box_two h3;refine ⟨h7,?_,fun hx=>⟨h4 0 _ (by simp [hx]),h4 1 _ (by simp [hx]),h4 2 _ (by simp [hx]),h4 3 _ (by simp [hx])⟩,fun hx=>⟨h5 0 _ (by simp [hx]),h5 1 _ (by simp [hx]),h5 2 _ (by simp [hx]),h5 3 _ (by simp [hx])⟩,by rw [World.size_alloc,World.size_alloc] at h2;exact h2⟩;rw [hb.block (w.heap.size+1+1) (by omega)]
 have:=heap_alloc_new ((w.alloc (.cells xs t)).alloc (.cells ys u)) (.cells zs v)
 rwa [World.size_alloc,World.size_alloc] at this
def addL (V U:List Int):List Int:=(List.range 8).map fun i=>(V.getD i 0+U.getD i 0) % 4294967296
def partL (V U:List Int) (k:Nat):List Int:=(List.range 8).map fun i=>if i < k then (V.getD i 0+U.getD i 0) % 4294967296 else V.getD i 0
theorem partL_zero {V U:List Int} (h:V.length=8):partL V U 0=V:=by
 match V,h with
 | [a,b,c,d,e,f,g,h],_=>rfl
theorem partL_all (V U:List Int):partL V U 8=addL V U:=by
 unfold partL addL;exact List.map_congr_left (fun i hi=>by rw [if_pos (List.mem_range.1 hi)])
theorem partL_at (V U:List Int) (k:Nat) (hk:k < 8):(partL V U k).getD k 0=V.getD k 0:=by
 unfold partL;rw [List.getD_eq_getElem?_getD,List.getElem?_map,List.getElem?_range hk];simp
theorem partL_succ (V U:List Int) (k:Nat) (hk:k < 8):(partL V U k).set k ((V.getD k 0+U.getD k 0) % 4294967296)=partL V U (k+1):=by
 unfold partL
 apply List.ext_getElem?
 intro j;rw [List.getElem?_set,List.length_map,List.length_range,List.getElem?_map,List.getElem?_map]
 by_cases hj:k=j
 ·subst hj
  rw [if_pos rfl,if_pos hk,List.getElem?_range hk];simp
 ·rw [if_neg hj]
  by_cases h8:j < 8
  ·rw [List.getElem?_range h8]
   have e:(j < k)=(j < k+1):=by rw [eq_iff_iff];omega
   simp only [Option.map_some,e]
  ·rw [List.getElem?_eq_none (by simp;omega)];simp
def blockL (bs V:List Int):List Int:=addL V (roundsL (schedL bs 48) V 64)
set_option maxHeartbeats 40000000 in
set_option maxRecDepth 100000 in
theorem round_any (bs:List Int) (V:List Int) (p:Nat) (a:Addr) (c:Nat) (w:World) (hb:bs.length=64) (hB:Bytes8 w a bs) (rv:Value) (cnt:Int) (hS:SumAt w p V rv cnt) :
  Calls Tryz.prog 123 #[.pointer (some ⟨p,0,none⟩),.slice (some a) 64 c] w fun e w'=>e=.returned (.tuple #[])∧SumAt w' p (blockL bs V) rv cnt∧w.grownBy w' (some p):=by
 obtain ⟨b,o,rfl,hlt,hcell⟩:=hB;have HC:=Lib.hid hcell;have HS:=Lib.hid hS;have hpl:=hS.lt;clear hcell hS
 go_enter Tryz.func123,Tryz.ntmps123
 go_wp2
 go_loopw [17] (fun i wr=>∃ k:Nat,k≤16∧i=.int .i64 k∧Hid (WAt wr w.heap.size (wordsL bs k))∧Below w.heap.size w wr) (fun i _=>16 - (intOf i).toNat)
 case atStart=>exact ⟨0,Nat.zero_le _,rfl,Lib.hid ⟨by simp [wordsL],heap_alloc_new _ _⟩,(Below.refl _ _).alloc (Nat.le_refl _) _⟩
 case round =>
  obtain ⟨k,hk,rfl,HW,hbr⟩:=hrel
  by_cases hkl:k < 16
  ·have hB4:∀ i,i < 4→∃ x:Int,bs.getD (4 * k+i) 0=x∧wr.cell? ⟨b,o+(4 * k+i),none⟩=some (.int .u8 x)∧0≤x∧x < 256:=fun i hi=>by
    obtain ⟨h1,h2,h3⟩:=HC.out (4 * k+i) (by omega);refine ⟨_,?_,kCq h1 hbr hlt,h2,h3⟩;rw [List.getD_eq_getElem?_getD,List.getElem?_eq_getElem (by omega)];rfl
   obtain ⟨x0,e0,c0,l0,u0⟩:=hB4 0 (by decide);obtain ⟨x1,e1,c1,l1,u1⟩:=hB4 1 (by decide);obtain ⟨x2,e2,c2,l2,u2⟩:=hB4 2 (by decide);obtain ⟨x3,e3,c3,l3,u3⟩:=hB4 3 (by decide);rw [Nat.add_zero] at e0 c0
   have HN:Hid (wordsL bs (k+1)=wordsL bs k ++ [word4 x0 x1 x2 x3]):=by
    show _=_;rw [wordsL_succ];unfold wordAt;rw [e0,e1,e2,e3]
   have hwl:=wordsL_len bs k;obtain ⟨q,hq⟩:∃ q,4 * k=q:=⟨_,rfl⟩;obtain ⟨q1,hq1⟩:∃ q,4 * k+1=q:=⟨_,rfl⟩;obtain ⟨q2,hq2⟩:∃ q,4 * k+2=q:=⟨_,rfl⟩;obtain ⟨q3,hq3⟩:∃ q,4 * k+3=q:=⟨_,rfl⟩;rw [hq] at c0;rw [hq1] at c1;rw [hq2] at c2;rw [hq3] at c3;have hw0:IntKind.i64.wrap (4 * (k:Int))=(q:Int):=by rw [IntKind.wrap_i64];omega
   have hw1:IntKind.i64.wrap ((q:Int)+1)=(q1:Int):=by rw [IntKind.wrap_i64];omega
   have hw2:IntKind.i64.wrap ((q:Int)+2)=(q2:Int):=by rw [IntKind.wrap_i64];omega
   have hw3:IntKind.i64.wrap ((q:Int)+3)=(q3:Int):=by rw [IntKind.wrap_i64];omega
   have hI0:(q:Int) < 64:=by omega
   have hI1:(q1:Int) < 64:=by omega
   have hI2:(q2:Int) < 64:=by omega
   have hI3:(q3:Int) < 64:=by omega
   have hI4:(k:Int) < 64:=by omega
   have v0:IntKind.u32.wrap x0=x0:=by rw [IntKind.wrap_u32'];omega
   have v1:IntKind.u32.wrap x1=x1:=by rw [IntKind.wrap_u32'];omega
   have v2:IntKind.u32.wrap x2=x2:=by rw [IntKind.wrap_u32'];omega
   have v3:IntKind.u32.wrap x3=x3:=by rw [IntKind.wrap_u32'];omega
   have y0:IntKind.u32.wrap (x0 * 16777216)=x0 * 16777216 % 4294967296:=by rw [IntKind.wrap_u32']
   have y1:IntKind.u32.wrap (x1 * 65536)=x1 * 65536 % 4294967296:=by rw [IntKind.wrap_u32']
   have y2:IntKind.u32.wrap (x2 * 256)=x2 * 256 % 4294967296:=by rw [IntKind.wrap_u32']
   clear hB4 e0 e1 e2 e3 hq hq1 hq2 hq3;go_wp2
   go_still_tail 35,(by kernel_rfl)
   have HW2:Hid (WAt wr.drew w.heap.size (wordsL bs k)):=HW.out;have hbr2:Below w.heap.size w wr.drew:=hbr.drew;change wpList _ _ _ _ _ wr.drew;clear HW hbr c0 c1 c2 c3;generalize wr.drew=w2 at *;have hold:=HW2.out.old (by omega);have hfree:=HW2.out.free k;rw [hwl] at hold;have HST:=Lib.hid (HW2.out.store (by omega) (word4 x0 x1 x2 x3));rw [hwl] at HST;have hbs:=hbr2.trans (below_setCell (B:=w.heap.size) w2 w.heap.size k (V32 (word4 x0 x1 x2 x3)) (Nat.le_refl _));unfold word4 at HST hbs;go_wp2;go_roundw
   case rel=>exact ⟨k+1,by omega,by go_num,by rw [HN.out];exact HST,hbs⟩
   case measure=>(simp [intOf];try omega)
  ·obtain rfl:k=16:=by omega
   rw [show ((16:Nat):Int)=16 from rfl];go_wp2;have hba:Below wr.heap.size wr ((wr.alloc (.cells #[.int .i64 7,.int .i64 18,.int .i64 0,.int .i64 3] 189)).alloc (.cells #[.int .i64 17,.int .i64 19,.int .i64 0,.int .i64 10] 189)):=((Below.refl _ _).alloc (Nat.le_refl _) _).alloc (by simp) _;have hbox:=box_two (Below.refl ((wr.alloc (.cells #[.int .i64 7,.int .i64 18,.int .i64 0,.int .i64 3] 189)).alloc (.cells #[.int .i64 17,.int .i64 19,.int .i64 0,.int .i64 10] 189)).heap.size ((wr.alloc (.cells #[.int .i64 7,.int .i64 18,.int .i64 0,.int .i64 3] 189)).alloc (.cells #[.int .i64 17,.int .i64 19,.int .i64 0,.int .i64 10] 189)));have hm1:C4 wr.heap.size (.int .i64 7) (.int .i64 18) (.int .i64 0) (.int .i64 3) ((wr.alloc (.cells #[.int .i64 7,.int .i64 18,.int .i64 0,.int .i64 3] 189)).alloc (.cells #[.int .i64 17,.int .i64 19,.int .i64 0,.int .i64 10] 189)):=⟨hbox.1 0 _ rfl,hbox.1 1 _ rfl,hbox.1 2 _ rfl,hbox.1 3 _ rfl⟩;have hm2:C4 (wr.heap.size+1) (.int .i64 17) (.int .i64 19) (.int .i64 0) (.int .i64 10) ((wr.alloc (.cells #[.int .i64 7,.int .i64 18,.int .i64 0,.int .i64 3] 189)).alloc (.cells #[.int .i64 17,.int .i64 19,.int .i64 0,.int .i64 10] 189)):=⟨hbox.2.1 0 _ rfl,hbox.2.1 1 _ rfl,hbox.2.1 2 _ rfl,hbox.2.1 3 _ rfl⟩;have hglt:=hbox.2.2.1;have HWa:Hid (WAt ((wr.alloc (.cells #[.int .i64 7,.int .i64 18,.int .i64 0,.int .i64 3] 189)).alloc (.cells #[.int .i64 17,.int .i64 19,.int .i64 0,.int .i64 10] 189)) w.heap.size (schedL bs 0)):=HW.out.later hba;have hbra:=hbr.trans (hba.mono hbr.size);have hgG:w.heap.size < wr.heap.size:=HW.out.lt;have HM1:=Lib.hid hm1;have HM2:=Lib.hid hm2;obtain ⟨G1,hG1⟩:∃ g,g=wr.heap.size:=⟨_,rfl⟩;clear hba hbox hm1 hm2 HW hbr;rw [← hG1] at HM1 HM2 hglt hgG ⊢;generalize (wr.alloc (.cells #[.int .i64 7,.int .i64 18,.int .i64 0,.int .i64 3] 189)).alloc (.cells #[.int .i64 17,.int .i64 19,.int .i64 0,.int .i64 10] 189)=wa at *;clear hG1
   go_loopw [8] (fun i wr=>∃ k:Nat,k≤48∧i=.int .i64 ((16+k:Nat):Int)∧Hid (WAt wr w.heap.size (schedL bs k))∧Hid (C4 G1 (.int .i64 7) (.int .i64 18) (.int .i64 0) (.int .i64 3) wr)∧Hid (C4 (G1+1) (.int .i64 17) (.int .i64 19) (.int .i64 0) (.int .i64 10) wr)∧G1+1 < wr.heap.size∧Below w.heap.size w wr) (fun i _=>64 - (intOf i).toNat)
   case atStart=>exact ⟨0,Nat.zero_le _,rfl,HWa,HM1,HM2,hglt,hbra⟩
   case round =>
    obtain ⟨k,hk,rfl,HW,HM1,HM2,hglt,hbr⟩:=hrel
    by_cases hkl:k < 48
    ·obtain ⟨L,hL⟩:∃ L,schedL bs k=L:=⟨_,rfl⟩
     have hLl:L.length=16+k:=by rw [← hL];exact schedL_len bs k
     have HN:Hid (schedL bs (k+1)=L ++ [nextW L]):=by show _=_;rw [schedL,hL]
     rw [hL] at HW
     have hx:∀ d,0 < d→d≤16→∃ q x,q+d=16+k∧L.getD (16+k - d) 0=x∧q < L.length∧∀ W L',(∀ j,j < L.length→L'[j]?=L[j]?)→WAt W w.heap.size L'→W.cell? ⟨w.heap.size,q,none⟩=some (V32 x):=fun d h1 h2=>by
      refine ⟨16+k - d,_,by omega,rfl,by omega,fun W L' hag hW=>?_⟩;have h3:=hag (16+k - d) (by omega);rw [List.getElem?_eq_getElem (by omega:16+k - d < L.length)] at h3;have h4:=(List.getElem?_eq_some_iff.1 h3).1;rw [hW.cell (16+k - d) h4,List.getD_eq_getElem?_getD,List.getElem?_eq_getElem (by omega)];rw [List.getElem?_eq_getElem h4] at h3;rw [Option.some.inj h3];rfl
     obtain ⟨q16,x16,i16,e16,l16,c16⟩:=hx 16 (by decide) (by decide);obtain ⟨q15,x15,i15,e15,l15,c15⟩:=hx 15 (by decide) (by decide);obtain ⟨q7,x7,i7,e7,l7,c7⟩:=hx 7 (by decide) (by decide);obtain ⟨q2,x2,i2,e2,l2,c2⟩:=hx 2 (by decide) (by decide)
     have HX:Hid (nextW L=(((x16+mixW 7 18 0 3 x15) % 4294967296+x7) % 4294967296+mixW 17 19 0 10 x2) % 4294967296):=by
      show _=_;unfold nextW;rw [hLl,e16,e15,e7,e2]
     have kA:=fun W=>of_sh 7 18 0 3 x15 W (by decide) (by decide) (by decide);have kB:=fun W=>of_sh 17 19 0 10 x2 W (by decide) (by decide) (by decide);obtain ⟨n,hn⟩:∃ n,16+k=n:=⟨_,rfl⟩;rw [hn] at hLl i16 i15 i7 i2 ⊢;have hw16:IntKind.i64.wrap ((n:Int) - 16)=(q16:Int):=by rw [IntKind.wrap_i64];omega
     have hI16:(q16:Int) < 64:=by omega
     have hw15:IntKind.i64.wrap ((n:Int) - 15)=(q15:Int):=by rw [IntKind.wrap_i64];omega
     have hI15:(q15:Int) < 64:=by omega
     have hw7:IntKind.i64.wrap ((n:Int) - 7)=(q7:Int):=by rw [IntKind.wrap_i64];omega
     have hI7:(q7:Int) < 64:=by omega
     have hw2:IntKind.i64.wrap ((n:Int) - 2)=(q2:Int):=by rw [IntKind.wrap_i64];omega
     have hI2:(q2:Int) < 64:=by omega
     have hIn:(n:Int) < 64:=by omega
     obtain ⟨mA,hmA⟩:∃ z,mixW 7 18 0 3 x15=z:=⟨_,rfl⟩;obtain ⟨mB,hmB⟩:∃ z,mixW 17 19 0 10 x2=z:=⟨_,rfl⟩;rw [hmA] at kA HX;rw [hmB] at kB HX;obtain ⟨s1,hs1⟩:∃ z,(x16+mA) % 4294967296=z:=⟨_,rfl⟩;obtain ⟨s2,hs2⟩:∃ z,(s1+x7) % 4294967296=z:=⟨_,rfl⟩;obtain ⟨s3,hs3⟩:∃ z,(s2+mB) % 4294967296=z:=⟨_,rfl⟩;rw [hs1,hs2,hs3] at HX;have y1:IntKind.u32.wrap (x16+mA)=s1:=by rw [IntKind.wrap_u32'];exact hs1
     have y2:IntKind.u32.wrap (s1+x7)=s2:=by rw [IntKind.wrap_u32'];exact hs2
     have y3:IntKind.u32.wrap (s2+mB)=s3:=by rw [IntKind.wrap_u32'];exact hs3
     have hcs:∀ W L',(∀ j,j < L.length→L'[j]?=L[j]?)→WAt W w.heap.size L'→C4 G1 (.int .i64 7) (.int .i64 18) (.int .i64 0) (.int .i64 3) W→C4 (G1+1) (.int .i64 17) (.int .i64 19) (.int .i64 0) (.int .i64 10) W →
       W.cell? ⟨w.heap.size,q16,none⟩=some (V32 x16)∧W.cell? ⟨w.heap.size,q15,none⟩=some (V32 x15)∧W.cell? ⟨w.heap.size,q7,none⟩=some (V32 x7)∧W.cell? ⟨w.heap.size,q2,none⟩=some (V32 x2)∧C4 G1 (.int .i64 7) (.int .i64 18) (.int .i64 0) (.int .i64 3) W∧C4 (G1+1) (.int .i64 17) (.int .i64 19) (.int .i64 0) (.int .i64 10) W:=fun W L' h0 h1 h2 h3=>⟨c16 W L' h0 h1,c15 W L' h0 h1,c7 W L' h0 h1,c2 W L' h0 h1,h2,h3⟩
     have HCS:=Lib.hid hcs;have HWd:Hid (WAt wr.drew w.heap.size L):=HW.out;have HMd1:Hid (C4 G1 (.int .i64 7) (.int .i64 18) (.int .i64 0) (.int .i64 3) wr.drew):=HM1.out;have HMd2:Hid (C4 (G1+1) (.int .i64 17) (.int .i64 19) (.int .i64 0) (.int .i64 10) wr.drew):=HM2.out;clear hx hL e16 e15 e7 e2 c16 c15 c7 c2 hcs hmA hmB hs1 hs2 hs3;go_wp2;refine wp_region_held_drew (S:=(fun w'=>w'.cell? ⟨w.heap.size,q16,none⟩=some (V32 x16)∧w'.cell? ⟨w.heap.size,q15,none⟩=some (V32 x15)∧w'.cell? ⟨w.heap.size,q7,none⟩=some (V32 x7)∧w'.cell? ⟨w.heap.size,q2,none⟩=some (V32 x2)∧C4 G1 (.int .i64 7) (.int .i64 18) (.int .i64 0) (.int .i64 3) w'∧C4 (G1+1) (.int .i64 17) (.int .i64 19) (.int .i64 0) (.int .i64 10) w')) (by kernel_rfl) (HCS.out _ L (fun _ _=>rfl) HWd.out HMd1.out HMd2.out) (fun hHeld=>?_);refine plIn [0,1,2,3,4,5,6,7,8,9,12,13,14,15,17,18,19,20,21] ?_
     iterate 19
      refine hP (v:=?_) rfl rfl hHeld ?_ ?_;rotate_left
      ·rintro wh ⟨z16,z15,z7,z2,⟨s0,s1,s2,s3⟩,⟨r0,r1,r2,r3⟩⟩
       go_simp
       (try with_reducible rfl)
      simp only [Act.put,aS1,aS2,aS3]
     refine plOut ?_;refine held_call (i:=10) rfl (by kernel_rfl) (by rfl) (fun K hK=>?_)
     (go_simp;go_at_call 134;refine (kA _).mono ?_;rintro e w1 ⟨rfl,hb1⟩;have HW1:=Lib.hid (HWd.out.later hb1);have HN1:=Lib.hid (HMd1.out.later hb1 (by show G1 < wr.heap.size;omega));have HN2:=Lib.hid (HMd2.out.later hb1 hglt);have hg1:=Nat.lt_of_lt_of_le hglt hb1.size)
     refine hK.out _ _ (HCS.out _ L (fun _ _=>rfl) HW1.out HN1.out HN2.out) (fun hHeld=>?_);clear hK K
     (try simp only [Act.put,aS1,aS2,aS3])
     refine plIn [11,16] ?_
     iterate 2
      refine hP (v:=?_) rfl rfl hHeld ?_ ?_;rotate_left
      ·rintro wh ⟨z16,z15,z7,z2,⟨s0,s1,s2,s3⟩,⟨r0,r1,r2,r3⟩⟩
       go_simp
       (try with_reducible rfl)
      simp only [Act.put,aS1,aS2,aS3]
     refine plOut ?_;refine held_call (i:=22) rfl (by kernel_rfl) (by rfl) (fun K hK=>?_)
     (go_simp;go_at_call 134;refine (kB _).mono ?_;rintro e w2 ⟨rfl,hb2⟩;have HW2:=Lib.hid (HW1.out.later hb2);have HO1:=Lib.hid (HN1.out.later hb2 (by omega));have HO2:=Lib.hid (HN2.out.later hb2 hg1);have hg2:=Nat.lt_of_lt_of_le hg1 hb2.size)
     refine hK.out _ _ (HCS.out _ L (fun _ _=>rfl) HW2.out HO1.out HO2.out) (fun hHeld=>?_);clear hK K
     (try simp only [Act.put,aS1,aS2,aS3])
     refine plIn [23,24] ?_
     iterate 2
      refine hP (v:=?_) rfl rfl hHeld ?_ ?_;rotate_left
      ·rintro wh ⟨z16,z15,z7,z2,⟨s0,s1,s2,s3⟩,⟨r0,r1,r2,r3⟩⟩
       go_simp
       (try with_reducible rfl)
      simp only [Act.put,aS1,aS2,aS3]
     refine plOut ?_;refine held_call (i:=25) rfl (by kernel_rfl) (by rfl) (fun K hK=>?_)
     (have hold:=HW2.out.old (by omega);rw [hLl] at hold;have hfree:=HW2.out.free n;have HST:=Lib.hid (HW2.out.store (by omega) s3);rw [hLl] at HST;have HP1:=Lib.hid (HO1.out.beside (g:=w.heap.size) (j:=n) (v:=V32 s3) (by omega));have HP2:=Lib.hid (HO2.out.beside (g:=w.heap.size) (j:=n) (v:=V32 s3) (by omega));have hbs:=(hbr.drew.trans (hb1.mono hbr.size)).trans (hb2.mono (by have:=hb1.size;have:=hbr.size;simp at *;omega));have hbs2:=hbs.trans (below_setCell (B:=w.heap.size) w2 w.heap.size n (V32 s3) (Nat.le_refl _));go_simp)
     refine hK.out _ _ (HCS.out _ (L ++ [s3]) (fun j h=>List.getElem?_append_left h) HST.out HP1.out HP2.out) (fun hHeld=>?_);clear hK K
     (try simp only [Act.put,aS1,aS2,aS3])
     refine wpAnyH_done (by kernel_rfl) ?_ _;have hg3:G1+1 < (w2.setCell ⟨w.heap.size,n,none⟩ (V32 s3)).heap.size:=by rw [World.size_setCell];exact hg2
     generalize w2.setCell ⟨w.heap.size,n,none⟩ (V32 s3)=w3 at *;have R:Hid (WAt w3 w.heap.size (schedL bs (k+1))):=by rw [HN.out,HX.out];exact HST
     go_wp2;go_roundw
     case rel=>exact ⟨k+1,by omega,by (first | go_num | (congr 1;omega)),R,HP1,HP2,hg3,hbs2⟩
     case measure=>(simp [intOf];try omega)
    ·obtain rfl:k=48:=by omega
     rw [show ((16+48:Nat):Int)=64 from rfl];have HSr:=Lib.hid (HS.out.later hbr)
     obtain ⟨h0,h1,h2,h3,h4,h5,h6,h7,rfl⟩:∃ h0 h1 h2 h3 h4 h5 h6 h7,V=[h0,h1,h2,h3,h4,h5,h6,h7]:=by
      have hl:=HS.out.1
      match V,hl with
      | [a,b,c,d,e,f,g,h],_=>exact ⟨a,b,c,d,e,f,g,h,rfl⟩
     have g0:wr.cell? ⟨p,0,none⟩=some (V32 h0):=HSr.out.word 0 (by decide);have g1:wr.cell? ⟨p,1,none⟩=some (V32 h1):=HSr.out.word 1 (by decide);have g2:wr.cell? ⟨p,2,none⟩=some (V32 h2):=HSr.out.word 2 (by decide);have g3:wr.cell? ⟨p,3,none⟩=some (V32 h3):=HSr.out.word 3 (by decide);have g4:wr.cell? ⟨p,4,none⟩=some (V32 h4):=HSr.out.word 4 (by decide);have g5:wr.cell? ⟨p,5,none⟩=some (V32 h5):=HSr.out.word 5 (by decide);have g6:wr.cell? ⟨p,6,none⟩=some (V32 h6):=HSr.out.word 6 (by decide);have g7:wr.cell? ⟨p,7,none⟩=some (V32 h7):=HSr.out.word 7 (by decide);have hpr:p < wr.heap.size:=HSr.out.lt;go_wp2_with fail
     refine (keys_any _).mono ?_;rintro e w3 ⟨rfl,hb3⟩;clear g0 g1 g2 g3 g4 g5 g6 g7;obtain ⟨hB3,hV3,hA3,hN3,hlt3⟩:=three_boxes hb3;have hW3:=Lib.hid (HW.out.later hB3);have hS3:=Lib.hid (HSr.out.later hB3);have hbr3:=hbr.trans (hB3.mono hbr.size);obtain ⟨gA,hgA⟩:∃ g,g=wr.heap.size:=⟨_,rfl⟩;have hGA:w.heap.size < gA:=by rw [hgA];exact HW.out.lt
     rw [← hgA] at hV3 hA3 hN3 hlt3 ⊢;have HV3:Hid (VAt w3 (gA+1+1) (roundsL (schedL bs 48) [h0,h1,h2,h3,h4,h5,h6,h7] 0)):=⟨rfl,hV3⟩;have HA3:=Lib.hid (hA3 rfl);have HN3:=Lib.hid (hN3 rfl);clear hB3 hb3 HW HM1 HM2 HSr hbr hgA hV3 hA3 hN3 hglt;obtain ⟨WL,hWL⟩:∃ W,schedL bs 48=W:=⟨_,rfl⟩;have hWl:WL.length=64:=by rw [← hWL];exact schedL_len bs 48
     rw [hWL] at hW3 HV3;have HWL:=Lib.hid hWL;clear hWL;go_wp2
     go_loopw [94] (fun i wr=>∃ k:Nat,k≤64∧i=.int .i64 k∧Hid (WAt wr w.heap.size WL)∧Hid (VAt wr (gA+1+1) (roundsL WL [h0,h1,h2,h3,h4,h5,h6,h7] k))∧Hid (C4 gA (.int .i64 6) (.int .i64 11) (.int .i64 25) (.int .i64 0) wr)∧Hid (C4 (gA+1) (.int .i64 2) (.int .i64 13) (.int .i64 22) (.int .i64 0) wr)∧Hid (SumAt wr p [h0,h1,h2,h3,h4,h5,h6,h7] rv cnt)∧gA+1+1 < wr.heap.size∧Below w.heap.size w wr) (fun i _=>64 - (intOf i).toNat)
     case atStart=>exact ⟨0,Nat.zero_le _,rfl,hW3,HV3,HA3,HN3,hS3,hlt3,hbr3⟩
     case round =>
      obtain ⟨k,hk,rfl,HW,HV,HA,HN,HS3,hlt3,hbr⟩:=hrel
      by_cases hkl:k < 64
      ·obtain ⟨x0,x1,x2,x3,x4,x5,x6,x7,hv⟩:∃ x0 x1 x2 x3 x4 x5 x6 x7,roundsL WL [h0,h1,h2,h3,h4,h5,h6,h7] k=[x0,x1,x2,x3,x4,x5,x6,x7]:=by
        have hl:=HV.out.1
        match roundsL WL [h0,h1,h2,h3,h4,h5,h6,h7] k,hl with
        | [a,b,c,d,e,f,g,h],_=>exact ⟨a,b,c,d,e,f,g,h,rfl⟩
       have HNX:Hid (roundsL WL [h0,h1,h2,h3,h4,h5,h6,h7] (k+1)=roundL [x0,x1,x2,x3,x4,x5,x6,x7] (keyL k) (WL.getD k 0)):=by show _=_;rw [roundsL,hv]
       rw [hv] at HV;have hkv:=keysV_at k hkl;obtain ⟨xk,hxk⟩:∃ x,WL.getD k 0=x:=⟨_,rfl⟩
       have hck:∀ W,WAt W w.heap.size WL→W.cell? ⟨w.heap.size,k,none⟩=some (V32 xk):=fun W hW=>by
        rw [hW.cell k (by omega),← hxk,List.getD_eq_getElem?_getD,List.getElem?_eq_getElem (by omega)];rfl
       rw [hxk] at HNX;obtain ⟨kk,hkk⟩:∃ x,keyL k=x:=⟨_,rfl⟩;have hidx:=run_index_keys k hkl wr;rw [hkk] at hkv HNX hidx;have hI:(k:Int) < 64:=by omega
       clear hv hxk hkk;have kA:=fun W=>of_rot 6 11 25 x4 W (by decide) (by decide) (by decide);have kN:=fun W=>of_rot 2 13 22 x0 W (by decide) (by decide) (by decide);obtain ⟨mA,hmA⟩:∃ z,mixW 6 11 25 0 x4=z:=⟨_,rfl⟩;obtain ⟨mN,hmN⟩:∃ z,mixW 2 13 22 0 x0=z:=⟨_,rfl⟩;rw [hmA] at kA;rw [hmN] at kN;obtain ⟨t1,e1⟩:∃ z,IntKind.u32.wrap (x7+mA)=z:=⟨_,rfl⟩;obtain ⟨n1,e2⟩:∃ z,bits BinOp.and .u32 x4 x5=z:=⟨_,rfl⟩;obtain ⟨n2,e3⟩:∃ z,bits BinOp.xor .u32 (if IntKind.u32.signed=true then -1 else IntKind.u32.max) x4=z:=⟨_,rfl⟩;obtain ⟨n3,e4⟩:∃ z,bits BinOp.and .u32 n2 x6=z:=⟨_,rfl⟩;obtain ⟨n4,e5⟩:∃ z,bits BinOp.xor .u32 n1 n3=z:=⟨_,rfl⟩;obtain ⟨t2,e6⟩:∃ z,IntKind.u32.wrap (t1+n4)=z:=⟨_,rfl⟩;obtain ⟨t3,e7⟩:∃ z,IntKind.u32.wrap (t2+kk)=z:=⟨_,rfl⟩;obtain ⟨T,e8⟩:∃ z,IntKind.u32.wrap (t3+xk)=z:=⟨_,rfl⟩;have hT:tL mA x4 x5 x6 x7 kk xk=T:=by unfold tL;rw [e1,e2,e3,e4,e5,e6,e7,e8]
       obtain ⟨m1,f1⟩:∃ z,bits BinOp.and .u32 x0 x1=z:=⟨_,rfl⟩;obtain ⟨m2,f2⟩:∃ z,bits BinOp.and .u32 x0 x2=z:=⟨_,rfl⟩;obtain ⟨m3,f3⟩:∃ z,bits BinOp.xor .u32 m1 m2=z:=⟨_,rfl⟩;obtain ⟨m4,f4⟩:∃ z,bits BinOp.and .u32 x1 x2=z:=⟨_,rfl⟩;obtain ⟨m5,f5⟩:∃ z,bits BinOp.xor .u32 m3 m4=z:=⟨_,rfl⟩;obtain ⟨U,f6⟩:∃ z,IntKind.u32.wrap (mN+m5)=z:=⟨_,rfl⟩;have hU:uL mN x0 x1 x2=U:=by unfold uL;rw [f1,f2,f3,f4,f5,f6]
       have HR:Hid (roundsL WL [h0,h1,h2,h3,h4,h5,h6,h7] (k+1)=[(T+U) % 4294967296,x0,x1,x2,(x3+T) % 4294967296,x4,x5,x6]):=by
        show _=_;rw [HNX.out];simp only [roundL];rw [hmA,hmN,hT,hU]
       clear hmA hmN hT hU HNX
       have hcs:∀ W,VAt W (gA+1+1) [x0,x1,x2,x3,x4,x5,x6,x7]→C4 gA (.int .i64 6) (.int .i64 11) (.int .i64 25) (.int .i64 0) W→WAt W w.heap.size WL →
         W.cell? ⟨gA+1+1,7,none⟩=some (V32 x7)∧W.cell? ⟨gA+1+1,4,none⟩=some (V32 x4)∧W.cell? ⟨gA+1+1,5,none⟩=some (V32 x5)∧W.cell? ⟨gA+1+1,6,none⟩=some (V32 x6)∧C4 gA (.int .i64 6) (.int .i64 11) (.int .i64 25) (.int .i64 0) W∧W.cell? ⟨w.heap.size,k,none⟩=some (V32 xk):=fun W h1 h2 h3=>⟨h1.cell 7 _ rfl,h1.cell 4 _ rfl,h1.cell 5 _ rfl,h1.cell 6 _ rfl,h2,hck W h3⟩
       have HCS:=Lib.hid hcs;have HVd:Hid (VAt wr.drew (gA+1+1) [x0,x1,x2,x3,x4,x5,x6,x7]):=HV.out;have HAd:Hid (C4 gA (.int .i64 6) (.int .i64 11) (.int .i64 25) (.int .i64 0) wr.drew):=HA.out;have HWd:Hid (WAt wr.drew w.heap.size WL):=HW.out;clear hcs hck hkv;go_wp2;refine wp_region_held_drew (S:=(fun w'=>w'.cell? ⟨gA+1+1,7,none⟩=some (V32 x7)∧w'.cell? ⟨gA+1+1,4,none⟩=some (V32 x4)∧w'.cell? ⟨gA+1+1,5,none⟩=some (V32 x5)∧w'.cell? ⟨gA+1+1,6,none⟩=some (V32 x6)∧C4 gA (.int .i64 6) (.int .i64 11) (.int .i64 25) (.int .i64 0) w'∧w'.cell? ⟨w.heap.size,k,none⟩=some (V32 xk))) (by kernel_rfl) (HCS.out _ HVd.out HAd.out HWd.out) (fun hHeld=>?_);refine plIn [0,1,2,3,4,7,8,9,10,11,12,13,14,15,16,17,18,20,22,23,24] ?_
       iterate 21
        refine hP (v:=?_) rfl rfl hHeld ?_ ?_;rotate_left
        ·rintro wh ⟨z7,z4,z5,z6,⟨s0,s1,s2,s3⟩,zk⟩
         go_simp
         (try with_reducible rfl)
        simp only [Act.put,aS1,aS2,aS3]
       refine plOut ?_;refine held_call (i:=5) rfl (by kernel_rfl) (by rfl) (fun K hK=>?_)
       (go_simp;go_at_call 134;refine (kA _).mono ?_;rintro e w1 ⟨rfl,hb1⟩;have HV1:=Lib.hid (HVd.out.later hb1);have HA1:=Lib.hid (HAd.out.later hb1 (by show gA < wr.heap.size;omega));have HW1:=Lib.hid (HWd.out.later hb1))
       refine hK.out _ _ (HCS.out _ HV1.out HA1.out HW1.out) (fun hHeld=>?_);clear hK K
       (try simp only [Act.put,aS1,aS2,aS3])
       refine plIn [6,19,21,25,26] ?_
       iterate 5
        refine hP (v:=?_) rfl rfl hHeld ?_ ?_;rotate_left
        ·rintro wh ⟨z7,z4,z5,z6,⟨s0,s1,s2,s3⟩,zk⟩
         go_simp
         (try with_reducible rfl)
        simp only [Act.put,aS1,aS2,aS3]
       refine plOut ?_;refine wpAnyH_done (by kernel_rfl) ?_ _;clear e1 e2 e3 e4 e5 e6 e7 e8;have hlt1:=Nat.lt_of_lt_of_le hlt3 hb1.size;have HN1:=Lib.hid (HN.out.later (bl_drewN (Below.refl wr.heap.size wr) 1) (by omega) |>.later hb1 (by show gA+1 < wr.heap.size;omega));have HS1:=Lib.hid ((HS3.out.later (bl_drewN (Below.refl wr.heap.size wr) 1)).later hb1);have hbr1:=(hbr.drew).trans (hb1.mono hbr.size);have HNd:Hid (C4 (gA+1) (.int .i64 2) (.int .i64 13) (.int .i64 22) (.int .i64 0) w1.drew):=HN1.out;have HV1d:Hid (VAt w1.drew (gA+1+1) [x0,x1,x2,x3,x4,x5,x6,x7]):=HV1.out
       have hcs2:∀ W,VAt W (gA+1+1) [x0,x1,x2,x3,x4,x5,x6,x7]→C4 (gA+1) (.int .i64 2) (.int .i64 13) (.int .i64 22) (.int .i64 0) W →
         W.cell? ⟨gA+1+1,0,none⟩=some (V32 x0)∧W.cell? ⟨gA+1+1,1,none⟩=some (V32 x1)∧W.cell? ⟨gA+1+1,2,none⟩=some (V32 x2)∧C4 (gA+1) (.int .i64 2) (.int .i64 13) (.int .i64 22) (.int .i64 0) W:=fun W h1 h2=>⟨h1.cell 0 _ rfl,h1.cell 1 _ rfl,h1.cell 2 _ rfl,h2⟩
       have HC2:=Lib.hid hcs2;clear hcs2 hHeld HV HA HN HS3 HW hbr kA HCS HVd HAd HWd hidx;go_wp2;refine wp_region_held_drew (S:=(fun w'=>w'.cell? ⟨gA+1+1,0,none⟩=some (V32 x0)∧w'.cell? ⟨gA+1+1,1,none⟩=some (V32 x1)∧w'.cell? ⟨gA+1+1,2,none⟩=some (V32 x2)∧C4 (gA+1) (.int .i64 2) (.int .i64 13) (.int .i64 22) (.int .i64 0) w')) (by kernel_rfl) (HC2.out _ HV1d.out HNd.out) (fun hHeld=>?_);refine plIn [0,1,2,4,5,6,7,8,9,10,11,12,13,14,15,16,17,18,19,20] ?_
       iterate 20
        refine hP (v:=?_) rfl rfl hHeld ?_ ?_;rotate_left
        ·rintro wh ⟨z0,z1,z2,⟨s0,s1,s2,s3⟩⟩
         go_simp
         (try with_reducible rfl)
        simp only [Act.put,aS1,aS2,aS3]
       refine plOut ?_;refine held_call (i:=3) rfl (by kernel_rfl) (by rfl) (fun K hK=>?_)
       (go_simp;go_at_call 134;refine (kN _).mono ?_;rintro e w2 ⟨rfl,hb2⟩;have HV2:=Lib.hid (HV1d.out.later hb2);have HN2:=Lib.hid (HNd.out.later hb2 (by show gA+1 < w1.heap.size;omega)))
       refine hK.out _ _ (HC2.out _ HV2.out HN2.out) (fun hHeld=>?_);clear hK K
       (try simp only [Act.put,aS1,aS2,aS3])
       refine plIn [21,22] ?_
       iterate 2
        refine hP (v:=?_) rfl rfl hHeld ?_ ?_;rotate_left
        ·rintro wh ⟨z0,z1,z2,⟨s0,s1,s2,s3⟩⟩
         go_simp
         (try with_reducible rfl)
        simp only [Act.put,aS1,aS2,aS3]
       refine plOut ?_;refine wpAnyH_done (by kernel_rfl) ?_ _;clear f1 f2 f3 f4 f5 f6;have hlt2:=Nat.lt_of_lt_of_le hlt1 hb2.size;have HA2:=Lib.hid (HA1.out.later (bl_drewN (Below.refl w1.heap.size w1) 1) (by omega) |>.later hb2 (by show gA < w1.heap.size;omega));have HW2:=Lib.hid ((HW1.out.later (bl_drewN (Below.refl w1.heap.size w1) 1)).later hb2);have HS2:=Lib.hid ((HS1.out.later (bl_drewN (Below.refl w1.heap.size w1) 1)).later hb2);have hbr2:=(hbr1.drew).trans (hb2.mono hbr1.size);clear hHeld HV1 HA1 HN1 HS1 HW1 hbr1 kN HC2 HNd HV1d hb1 hb2 hlt3 hlt1;have HV2d:Hid (VAt w2.drew (gA+1+1) [x0,x1,x2,x3,x4,x5,x6,x7]):=HV2.out;have hv2h:=HV2d.out.2;have HV2s:=Lib.hid HV2d.out.src;have HH2:=Lib.hid hv2h;clear hv2h;go_wp2;refine wp_region_held_drew (S:=(fun _=>True)) (by kernel_rfl) trivial (fun hHeld=>?_);refine plIn [0,1] ?_
       iterate 2
        refine hP (v:=?_) rfl rfl hHeld ?_ ?_;rotate_left
        ·rintro wh _
         go_simp
         (try with_reducible rfl)
        simp only [Act.put,aS1,aS2,aS3]
       refine plOut ?_;refine held_step (i:=2) rfl (by kernel_rfl) (fun K hK=>?_)
       (refine step_copy_splice rfl (.tmp 146) (.tmp 147) 191 191 rfl 34 Tryz.underlying191 (by kernel_rfl) (some ⟨gA+1+1,1,none⟩) (some ⟨gA+1+1,0,none⟩) 7 7 7 8 rfl rfl (gA+1+1) 1 [V32 x0,V32 x1,V32 x2,V32 x3,V32 x4,V32 x5,V32 x6,V32 x7] 157 HH2.out [V32 x0,V32 x1,V32 x2,V32 x3,V32 x4,V32 x5,V32 x6] rfl (fun _=>⟨rfl,_,rfl,HV2s.out⟩) (by simp) (by simp [Value.oneCell']) (gA+1+1) w2 ((Below.refl _ _).drew) (Nat.le_refl _) ?_;intro w4 hg4 hb4)
       refine hK.out _ _ trivial (fun hHeld=>?_);clear hK K
       (try simp only [Act.put,aS1])
       refine wpAnyH_done (by kernel_rfl) ?_ _;have HV4:Hid (VAt w4 (gA+1+1) [x0,x0,x1,x2,x3,x4,x5,x6]):=⟨rfl,hg4.out⟩;have HA4:=Lib.hid (HA2.out.of_heap (hb4.block gA (by omega)));have HN4:=Lib.hid (HN2.out.of_heap (hb4.block (gA+1) (by omega)));have HW4:=Lib.hid (HW2.out.of_heap (hb4.block w.heap.size (by omega)));have HS4:=Lib.hid (HS2.out.of_heap (hb4.block p (by omega)));have hlt4:=Nat.lt_of_lt_of_le hlt2 hb4.size;have hbr4:=hbr2.trans (hb4.mono (by omega));have d4:=HV4.out.cell 4 x3 rfl;have f4:=HV4.out.free 4;have HV5:=Lib.hid (HV4.out.put 4 ((x3+T) % 4294967296));clear hHeld HV2 HA2 HN2 HW2 HS2 HV2d HV2s HH2 hg4 hb4 hbr2 hlt2;go_upto_region 20 with fail;have HA5:=Lib.hid (HA4.out.of_heap (heap_else w4 (gA+1+1) 4 gA (V32 ((x3+T) % 4294967296)) (by omega)));have HN5:=Lib.hid (HN4.out.of_heap (heap_else w4 (gA+1+1) 4 (gA+1) (V32 ((x3+T) % 4294967296)) (by omega)));have HW5:=Lib.hid (HW4.out.of_heap (heap_else w4 (gA+1+1) 4 w.heap.size (V32 ((x3+T) % 4294967296)) (by omega)));have HS5:=Lib.hid (HS4.out.of_heap (heap_else w4 (gA+1+1) 4 p (V32 ((x3+T) % 4294967296)) (by omega)));have hbr5:=hbr4.trans (below_setCell (B:=w.heap.size) w4 (gA+1+1) 4 (V32 ((x3+T) % 4294967296)) (by omega));have hlt5:gA+1+1 < (w4.setCell ⟨gA+1+1,4,none⟩ (V32 ((x3+T) % 4294967296))).heap.size:=by rw [World.size_setCell];exact hlt4
       clear d4 f4 HV4 HA4 HN4 HW4 HS4 hbr4 hlt4;generalize w4.setCell ⟨gA+1+1,4,none⟩ (V32 ((x3+T) % 4294967296))=w5 at *;have d0:=HV5.out.cell 0 x0 rfl;have f0:=HV5.out.free 0;have HV6:Hid (VAt (w5.setCell ⟨gA+1+1,0,none⟩ (V32 ((T+U) % 4294967296))) (gA+1+1) (roundsL WL [h0,h1,h2,h3,h4,h5,h6,h7] (k+1))):=by rw [HR.out];exact HV5.out.put 0 ((T+U) % 4294967296)
       have HA6:=Lib.hid (HA5.out.of_heap (heap_else w5 (gA+1+1) 0 gA (V32 ((T+U) % 4294967296)) (by omega)));have HN6:=Lib.hid (HN5.out.of_heap (heap_else w5 (gA+1+1) 0 (gA+1) (V32 ((T+U) % 4294967296)) (by omega)));have HW6:=Lib.hid (HW5.out.of_heap (heap_else w5 (gA+1+1) 0 w.heap.size (V32 ((T+U) % 4294967296)) (by omega)));have HS6:=Lib.hid (HS5.out.of_heap (heap_else w5 (gA+1+1) 0 p (V32 ((T+U) % 4294967296)) (by omega)));have hbr6:=hbr5.trans (below_setCell (B:=w.heap.size) w5 (gA+1+1) 0 (V32 ((T+U) % 4294967296)) (by omega));have hlt6:gA+1+1 < (w5.setCell ⟨gA+1+1,0,none⟩ (V32 ((T+U) % 4294967296))).heap.size:=by rw [World.size_setCell];exact hlt5
       clear HV5 HA5 HN5 HW5 HS5 hbr5 hlt5;go_wp2;go_roundw
       case rel=>exact ⟨k+1,by omega,by go_num,HW6,HV6,HA6,HN6,HS6,hlt6,hbr6⟩
       case measure=>(simp [intOf];try omega)
      ·obtain rfl:k=64:=by omega
       rw [show ((64:Nat):Int)=64 from rfl];have HVl:=HV.out.1;obtain ⟨UL,hUL⟩:∃ u,roundsL WL [h0,h1,h2,h3,h4,h5,h6,h7] 64=u:=⟨_,rfl⟩;obtain ⟨VL,hVL⟩:∃ v,[h0,h1,h2,h3,h4,h5,h6,h7]=v:=⟨_,rfl⟩;have HUL:Hid (blockL bs [h0,h1,h2,h3,h4,h5,h6,h7]=addL VL UL):=by show _=_;unfold blockL;rw [HWL.out,hUL,hVL]
       rw [hUL] at HV HVl;rw [hVL] at HS3;have hg:=below_grown hbr (some p);have HVg:=Lib.hid HV.out;have HSg:Hid (SumAt wr p (partL VL UL 0) rv cnt):=by rw [partL_zero HS3.out.1];exact HS3
       have hgvp:gA+1+1≠p:=by omega
       clear HV HS3 HW HA HN hUL hVL hbr;go_wp2
       go_loopw [159] (fun i wr=>∃ k:Nat,k≤8∧i=.int .i64 k∧Hid (SumAt wr p (partL VL UL k) rv cnt)∧Hid (VAt wr (gA+1+1) UL)∧w.grownBy wr (some p)) (fun i _=>8 - (intOf i).toNat)
       case atStart=>exact ⟨0,Nat.zero_le _,rfl,HSg,HVg,hg⟩
       case round =>
        obtain ⟨k,hk,rfl,HS,HV,hg⟩:=hrel
        by_cases hkl:k < 8
        ·obtain ⟨x,hx⟩:∃ x,VL.getD k 0=x:=⟨_,rfl⟩
         obtain ⟨y,hy⟩:∃ y,UL.getD k 0=y:=⟨_,rfl⟩;obtain ⟨z,hz⟩:∃ z,(x+y) % 4294967296=z:=⟨_,rfl⟩;have HN:Hid ((partL VL UL k).set k z=partL VL UL (k+1)):=by show _=_;rw [← hz,← hx,← hy];exact partL_succ VL UL k hkl
         have c1:wr.cell? ⟨p,k,none⟩=some (V32 x):=by rw [HS.out.word k hkl,partL_at _ _ k hkl,hx]
         have c2:wr.cell? ⟨gA+1+1,k,none⟩=some (V32 y):=HV.out.cell k y (by rw [← hy,List.getD_eq_getElem?_getD,List.getElem?_eq_getElem (by rw [HV.out.1];exact hkl)];rfl);have hwz:IntKind.u32.wrap (x+y)=z:=by rw [IntKind.wrap_u32'];exact hz
         have hI:(k:Int) < 8:=by omega
         clear hx hy hz;go_wp2
         go_still_tail 13,(by kernel_rfl)
         have HSd:Hid (SumAt wr.drew p (partL VL UL k) rv cnt):=HS.out;have HVd:Hid (VAt wr.drew (gA+1+1) UL):=HV.out;have hgd:w.grownBy wr.drew (some p):=grown_two hg (below_grown ((Below.refl _ _).drew) (some p));change wpList _ _ _ _ _ wr.drew;clear HS HV hg c2;have c1:wr.drew.cell? ⟨p,k,none⟩=some (V32 x):=c1;generalize wr.drew=w2 at *;have f1:=HSd.out.free k;have HS2:Hid (SumAt (w2.setCell ⟨p,k,none⟩ (V32 z)) p (partL VL UL (k+1)) rv cnt):=by rw [← HN.out];exact HSd.out.put k hkl z
         have HV2:=Lib.hid (HVd.out.of_heap (heap_else w2 p k (gA+1+1) (V32 z) hgvp));have hg2:=grown_two hgd (grown_setCell w2 p k (V32 z));go_wp2;go_roundw
         case rel=>exact ⟨k+1,by omega,by go_num,HS2,HV2,hg2⟩
         case measure=>(simp [intOf];try omega)
        ·obtain rfl:k=8:=by omega
         rw [partL_all] at HS;go_wp2
         go_end0
         exact ⟨rfl,by rw [HUL.out];exact HS.out,hg⟩
abbrev V8 (x:Int):Value:=.int .u8 x
def ByteL (bs:List Int):Prop:=∀ x∈bs,0≤x∧x < 256
theorem v8_cells (z:List Int):∀ y∈z.map V8,y.oneCell'=true:=by
 intro y hy;obtain ⟨x,_,rfl⟩:=List.mem_map.1 hy
 rfl
def ByAt (w:World) (v:Value) (l:List Int):Prop:=RdAt w v l.length 1 (l.map V8)
theorem ByAt.later {w w':World} {v:Value} {l:List Int} (h:ByAt w v l) (hb:Below w.heap.size w w'):ByAt w' v l:=RdAt.later h hb
def blocksL (V bs:List Int):Nat→List Int
 | 0=>V
 | k+1=>blockL ((bs.drop (64 * k)).take 64) (blocksL V bs k)
theorem blocksL_len {V bs:List Int} (hV:V.length=8) (k:Nat):(blocksL V bs k).length=8:=by
 cases k with
 | zero=>exact hV
 | succ k=>simp [blocksL,blockL,addL]
theorem info_u8:(Tryz.prog.info? 5).map (fun i=>(i.zero,i.size,i.bytes))=some (some (.int .u8 0),1,1):=by kernel_rfl
theorem by_block {w:World} {v:Value} {l:List Int} (h:ByAt w v l) (h0:64≤l.length) (hB:ByteL l):∃ b o c,v=.slice (some ⟨b,o,none⟩) l.length c∧l.length≤c∧b < w.heap.size∧Bytes8 w ⟨b,o,none⟩ (l.take 64) ∧
  ∀ j x,l[j]?=some x→w.cell? ⟨b,o+j,none⟩=some (V8 x):=by
 obtain ⟨b,o,c,hv,hc,hlt,hcell⟩:=RdAt.some h (by omega);have hx:∀ j x,l[j]?=some x→w.cell? ⟨b,o+j,none⟩=some (V8 x):=fun j x hx=>hcell j _ (by rw [List.getElem?_map,hx];rfl);refine ⟨b,o,c,hv,hc,hlt,⟨b,o,rfl,hlt,fun j hj=>?_⟩,hx⟩;have hj':j < l.length:=by rw [List.length_take] at hj;omega
 rw [List.getElem_take];exact ⟨hx j _ (List.getElem?_eq_getElem hj'),hB _ (List.getElem_mem hj')⟩
theorem SumAt.setCount {w:World} {p:Nat} {V:List Int} {rv:Value} {cnt:Int} (h:SumAt w p V rv cnt) (c:Int):SumAt (w.setCell ⟨p,9,none⟩ (.int .i64 c)) p V rv c:=by
 refine ⟨h.1,?_⟩;rw [heap_setCell_same w p 9 _ _ _ h.2];have hl:=h.1
 match V,hl with
 | [x0,x1,x2,x3,x4,x5,x6,x7],_=>rfl
theorem SumAt.setRest {w:World} {p:Nat} {V:List Int} {rv:Value} {cnt:Int} (h:SumAt w p V rv cnt) (r:Value):SumAt (w.setCell ⟨p,8,none⟩ r) p V r cnt:=by
 refine ⟨h.1,?_⟩;rw [heap_setCell_same w p 8 _ _ _ h.2];have hl:=h.1
 match V,hl with
 | [x0,x1,x2,x3,x4,x5,x6,x7],_=>rfl
def restLen (w:World) (p:Nat):Nat:=match w.cell? ⟨p,8,none⟩ with | some (.slice _ n _)=>n | _=>0
theorem SumAt.restLen {w:World} {p:Nat} {V:List Int} {a:Option Addr} {n c:Nat} {cnt:Int} (h:SumAt w p V (.slice a n c) cnt):Go.Proofs.YtipnhpfpppblhaaGreat.restLen w p=n:=by
 unfold Go.Proofs.YtipnhpfpppblhaaGreat.restLen;rw [h.rest]
theorem row_apart {w:World} {base p:Nat} {e t:TypeId} {size n:Nat} {v:Value} {xs:List Value} {cs:Array Value} {fr:Nat × Nat} (h:w.ownsRow base e size v n xs) (hp:w.heap[p]?=some (.cells cs t fr)) (hne:e≠t):v.ownBlock≠some p:=by
 rcases h.2 with ⟨rfl,_⟩ | ⟨g,cap,cur,rfl,_,hg,_⟩
 ·simp [Value.ownBlock]
 ·intro hk
  have:g=p:=by simpa [Value.ownBlock] using hk
  subst this;rw [hg] at hp;simp only [Option.some.injEq,Obj.cells.injEq] at hp;exact hne hp.2.1
theorem rd_beside {w w':World} {v:Value} {n k:Nat} {xs:List Value} {p:Nat} (h:RdAt w v n k xs) (hg:w.grownBy w' (some p)) (hne:v.ownBlock≠some p):RdAt w' v n k xs:=by
 refine ⟨h.1,?_⟩
 rcases h.2 with h | ⟨a,c,rfl,hc,hr⟩
 ·exact .inl h
 ·refine .inr ⟨a,c,rfl,hc,fun hn=>?_⟩
  obtain ⟨b,o,rfl,hlt,hcell⟩:=hr hn;refine ⟨b,o,rfl,Nat.lt_of_lt_of_le hlt hg.size,fun j x hx=>?_⟩;rw [World.cell?_of_block (a:=⟨b,o+j,none⟩) (hg.block b hlt (fun e=>hne (by rw [← e];rfl)))];exact hcell j x hx
theorem below_row {w w':World} {base p:Nat} (hg:w.grownBy w' (some p)) (hp:base≤p) (hs:base≤w.heap.size):Below base w w':=(Below.refl base w).grown hg hs (fun k hk=>by cases hk;exact hp)
set_option maxHeartbeats 3200000 in
set_option maxRecDepth 100000 in
theorem add_any (V rb bs:List Int) (cnt:Int) (rv v:Value) (p base:Nat) (w:World) (hS:SumAt w p V rv cnt) (hown:w.ownsRow base 5 1 rv rb.length (rb.map V8)) (hb:ByAt w v bs) (hB:ByteL (rb ++ bs))
  (hvp:v.ownBlock≠some p) (hbp:base≤p) (hbw:base≤w.heap.size) (hl:rb.length+bs.length≤140737488355328) (hc:0≤cnt∧cnt+bs.length≤4611686018427387904) :
  Calls Tryz.prog 106 #[.pointer (some ⟨p,0,none⟩),v] w fun e w'=>∃ rv' k,e=.returned (.int .i64 (cnt+bs.length))∧k=(rb ++ bs).length / 64∧SumAt w' p (blocksL V (rb ++ bs) k) rv' (cnt+bs.length)∧ByAt w' rv' ((rb ++ bs).drop (64 * k))∧Below base w w':=by
 obtain ⟨a,c,rfl,hcap,_⟩:=RdAt.shape hb;obtain ⟨i0,hi,hz0,hz1,hz2⟩:=info_parts info_u8;have hne1:rv.ownBlock≠some p:=row_apart hown hS.2 (by decide);have g9:=hS.count;have f9:=hS.free 9;have hS1:=hS.setCount (cnt+bs.length);have hg1:=grown_setCell w p 9 (.int .i64 (cnt+bs.length));have hown1:(w.setCell ⟨p,9,none⟩ (.int .i64 (cnt+bs.length))).ownsRow base 5 1 rv rb.length (rb.map V8):=hown.kept hg1 (.inr hne1);have hb1:ByAt (w.setCell ⟨p,9,none⟩ (.int .i64 (cnt+bs.length))) (.slice a bs.length c) bs:=rd_beside hb hg1 hvp;have hbl1:Below base w (w.setCell ⟨p,9,none⟩ (.int .i64 (cnt+bs.length))):=below_row hg1 hbp hbw;have hww:(w.setCell ⟨p,9,none⟩ (.int .i64 (cnt+bs.length))).heap.size=w.heap.size:=World.size_setCell _ _ _;have hcn:cnt+(bs.length:Int)≤4611686018427387904:=hc.2;have HB:=Lib.hid hB;clear hS hown hb hg1 hB
 go_enter Tryz.func106,Tryz.ntmps106
 go_upto_region 4 with fail;clear g9 f9;generalize w.setCell ⟨p,9,none⟩ (.int .i64 (cnt+bs.length))=w1 at *;generalize hC:cnt+(bs.length:Int)=C at *;have HC:=Lib.hid hC;clear hC;have g8:=hS1.rest;go_wp2_with (at_builtin;(refine wpList_append_rd rfl (.tmp 20) (.tmp 21) 100 rfl base 5 i0 (.int .u8 0) 1 1 Tryz.underlying100 hi hz0 hz1 hz2 rfl (by decide) _ _ _ rfl hown1 _ bs.length (bs.map V8) rfl hb1 (v8_cells bs) (by unfold maxLen;omega) (by omega) (by omega) ?_);intro v2 w2 hown2 hgrow2;obtain ⟨a2,c2,rfl,hc2,_⟩:=RdAt.shape (RdAt.own hown2);have hS2:=hS1.of_heap (hgrow2.block p hS1.lt (fun e=>hne1 e.symm));have g8:=hS2.rest;have f8:=hS2.free 8)
 have hne2:=row_apart hown2 hS2.2 (by decide);have hbl2:Below base w w2:=hbl1.trans ((Below.refl base w1).grown hgrow2 (by omega) (fun k hk=>(hown1.lt k hk).1));have hbs2:base≤w2.heap.size:=by have:=hgrow2.size;omega
 have hS3:=hS2.setRest (.slice a2 (rb.length+bs.length) c2);have hg3:=grown_setCell w2 p 8 (.slice a2 (rb.length+bs.length) c2);have hrd3:=rd_beside (RdAt.own hown2) hg3 hne2;have hbl3:Below base w (w2.setCell ⟨p,8,none⟩ (.slice a2 (rb.length+bs.length) c2)):=hbl2.trans (below_row hg3 hbp hbs2);have hbs3:base≤(w2.setCell ⟨p,8,none⟩ (.slice a2 (rb.length+bs.length) c2)).heap.size:=by rw [World.size_setCell];exact hbs2
 clear hS1 hS2 hown1 hown2 hgrow2 hbl1 hbl2 hbs2 hg3 g8 f8 hb1 hww;generalize w2.setCell ⟨p,8,none⟩ (.slice a2 (rb.length+bs.length) c2)=w3 at *;obtain ⟨BS,hBS⟩:∃ l,rb ++ bs=l:=⟨_,rfl⟩;have hBl:rb.length+bs.length=BS.length:=by rw [← hBS,List.length_append]
 have hrd:ByAt w3 (.slice a2 BS.length c2) (BS.drop (64 * 0)):=by
  have e:rb.map V8 ++ bs.map V8=BS.map V8:=by rw [← hBS,List.map_append]
  rw [hBl,e] at hrd3;exact hrd3
 rw [hBl] at hS3 hne2;rw [hBS] at HB;have hSl:SumAt w3 p (blocksL V BS 0) (.slice a2 BS.length c2) C:=hS3;have hblen:Hid ((rb ++ bs)=BS):=Lib.hid hBS;have hBl2:BS.length≤140737488355328:=by omega
 clear hrd3 hS3 hBS hBl;have hrd0:Hid (ByAt w3 (.slice a2 BS.length c2) (BS.drop (64 * 0))):=Lib.hid hrd;have hSl0:=Lib.hid hSl;clear hrd hSl;go_wp2
 go_loopw [25] (fun _ wr=>∃ (k n c':Nat) (a':Option Addr),n+64 * k=BS.length∧Hid (SumAt wr p (blocksL V BS k) (.slice a' n c') C)∧Hid (ByAt wr (.slice a' n c') (BS.drop (64 * k)))∧(Value.slice a' n c').ownBlock≠some p∧Below base w wr∧base≤wr.heap.size) (fun _ wr=>restLen wr p)
 case atStart=>exact ⟨0,BS.length,c2,a2,by omega,hSl0,hrd0,hne2,hbl3,hbs3⟩
 case round =>
  obtain ⟨k,n,c',a',hn,HS,HR,hne,hbl,hbs⟩:=hrel;have hdl:(BS.drop (64 * k)).length=n:=by rw [List.length_drop];omega
  have hrl:=HS.out.restLen;have g8:=HS.out.rest
  by_cases h64:64≤n
  ·have hBk:ByteL (BS.drop (64 * k)):=fun x hx=>HB.out x (List.mem_of_mem_drop hx)
   obtain ⟨b,o,c'',hv,hcc,hlt,h8,hcell⟩:=by_block HR.out (by omega) hBk;rw [hdl] at hv hcc
   cases hv
   have hbp2:b≠p:=fun e=>hne (by rw [e];rfl);have hround:=round_any ((BS.drop (64 * k)).take 64) (blocksL V BS k) p ⟨b,o,none⟩ c' wr (by rw [List.length_take];omega) h8 (.slice (some ⟨b,o,none⟩) n c') C HS.out;have hI1:(64:Int)≤(n:Int):=by omega
   have hI2:(64:Int)≤(c':Int):=by omega
   have hI3:(n:Int)≤(c':Int):=by omega
   have HCELL:=Lib.hid hcell;clear hcell h8 hBk;go_wp2_with fail
   refine hround.mono ?_;rintro e w4 ⟨rfl,hS4,hg4⟩;have hbl4:=hbl.trans (below_row hg4 hbp hbs);have hbs4:base≤w4.heap.size:=Nat.le_trans hbs hg4.size;have g8':=hS4.rest;have f8:=hS4.free 8;have hb4:b < w4.heap.size:=Nat.lt_of_lt_of_le hlt hg4.size
   have hc4:Hid (∀ j x,(BS.drop (64 * k))[j]?=some x→w4.cell? ⟨b,o+j,none⟩=some (V8 x)):=Lib.hid (fun j x hx=>by
    rw [World.cell?_of_block (a:=⟨b,o+j,none⟩) (hg4.block b hlt (fun e=>hbp2 (by cases e;rfl)))];exact HCELL.out j x hx)
   have hst:∀ (oa:Option Addr) (c9:Nat),n - 64≤c9→(∃ a9,oa=some a9∧(0 < n - 64→a9=⟨b,o+64,none⟩)∧a9.block=b)→(∃ (k n' c':Nat) (a':Option Addr),n'+64 * k=BS.length∧Hid (SumAt (w4.setCell ⟨p,8,none⟩ (.slice oa (n - 64) c9)) p (blocksL V BS k) (.slice a' n' c') C)∧Hid (ByAt (w4.setCell ⟨p,8,none⟩ (.slice oa (n - 64) c9)) (.slice a' n' c') (BS.drop (64 * k)))∧(Value.slice a' n' c').ownBlock≠some p∧Below base w (w4.setCell ⟨p,8,none⟩ (.slice oa (n - 64) c9))∧base≤(w4.setCell ⟨p,8,none⟩ (.slice oa (n - 64) c9)).heap.size):=by
    rintro oa c9 h9 ⟨a9,rfl,ha,hab⟩;have hg9:=grown_setCell w4 p 8 (.slice (some a9) (n - 64) c9);refine ⟨k+1,n - 64,c9,some a9,by omega,Lib.hid (hS4.setRest _),Lib.hid ?_,?_,hbl4.trans (below_row hg9 hbp hbs4),by rw [World.size_setCell];exact hbs4⟩
    ·refine ⟨by simp,.inr ⟨a9,c9,by rw [List.length_drop];congr 1;omega,by rw [List.length_drop];omega,fun h0=>?_⟩⟩
     rw [List.length_drop] at h0;refine ⟨b,o+64,ha (by omega),by rw [World.size_setCell];exact hb4,fun j x hx=>?_⟩;rw [World.cell?_of_block (a:=⟨b,o+64+j,none⟩) (hg9.block b hb4 (fun e=>hbp2 (by cases e;rfl)))];rw [List.getElem?_map,Option.map_eq_some_iff] at hx;obtain ⟨y,hy,rfl⟩:=hx
     have:=hc4.out (64+j) y (by rw [List.getElem?_drop] at hy ⊢;rw [← hy];congr 1;omega)
     rw [Nat.add_assoc];exact this
    ·intro e
     have:a9.block=p:=by simpa [Value.ownBlock] using e
     exact hbp2 (by rw [← hab,this])
   have HST:=Lib.hid hst;have hrl2:∀ (a9:Option Addr) (c9:Nat),Go.Proofs.YtipnhpfpppblhaaGreat.restLen (w4.setCell ⟨p,8,none⟩ (.slice a9 (n - 64) c9)) p=n - 64:=fun a9 c9=>(hS4.setRest (.slice a9 (n - 64) c9)).restLen;have HRL:=Lib.hid hrl2;clear hst hrl2 hS4 hg4 HS HR hround g8 hbl HCELL;go_wp2;go_roundw
   case rel=>exact HST.out _ _ (by omega) (by split;exact ⟨_,rfl,fun h=>by omega,rfl⟩;exact ⟨_,rfl,fun _=>rfl,rfl⟩)
   case measure=>rw [HRL.out,hrl];omega
  ·have hI1:(n:Int) < 64:=by omega
   have g9:=HS.out.count;clear hrl;go_wp2;go_ret;rw [HC.out,hblen.out];exact ⟨_,k,rfl,by omega,HS.out,HR.out,hbl⟩
set_option maxHeartbeats 800000 in
theorem new_any (w:World):Calls Tryz.prog 105 #[] w fun e w'=>∃ p,e=.returned (.pointer (some ⟨p,0,none⟩))∧w.heap.size≤p∧SumAt w' p startL (.slice none 0 0) 0∧Below w.heap.size w w':=by
 go_enter Tryz.func105,Tryz.ntmps105
 go_wp2_with fail
 refine (start_any _).mono ?_;rintro e w1 ⟨rfl,hb1⟩;have hs:startV=#[V32 1779033703,V32 3144134277,V32 1013904242,V32 2773480762,V32 1359893119,V32 2600822924,V32 528734635,V32 1541459225]:=rfl;rw [hs];go_wp2;go_ret;exact ⟨w1.heap.size,rfl,hb1.size,⟨rfl,heap_alloc_new _ _⟩,hb1.alloc hb1.size _⟩
theorem own_empty (w:World) (t:TypeId):(w.alloc (.cells #[] t)).ownsRow w.heap.size t 1 (.slice (some ⟨w.heap.size,0,none⟩) 0 0) 0 [] :=
 ⟨rfl,.inr ⟨w.heap.size,0,#[],rfl,Nat.le_refl _,heap_alloc_new _ _,Nat.le_refl _,by decide,rfl,rfl⟩⟩
set_option maxHeartbeats 800000 in
set_option maxRecDepth 100000 in
theorem clone8 (l:List Int) (w:World) (v:Value) (h:ByAt w v l) (hl:l.length≤140737488355328) :
  Calls Tryz.prog 124 #[v] w fun e w'=>∃ v',e=.returned v'∧w'.ownsRow w.heap.size 5 1 v' l.length (l.map V8)∧Below w.heap.size w w':=by
 obtain ⟨i0,hi,hz0,hz1,hz2⟩:=info_parts info_u8;have q22:∀ (w:World) (a:Option Addr) (n c n' c':Nat),(binOp .eql 100 (.slice a n c) (.slice none n' c')).run Tryz.prog w=.ok (.bool a.isNone) w:=fun w a n c n' c'=>Lib.run_eql_slice_nil w _ _ a n c n' c' Tryz.underlying100
 rcases h.2 with ⟨rfl,h0⟩ | ⟨a,c,rfl,hc,hr⟩
 ·have hnil:l=[]:=List.length_eq_zero_iff.1 h0
  subst hnil
  go_enter Tryz.func124,Tryz.ntmps124
  go_wp2;go_ret;exact ⟨_,rfl,World.ownsRow_nil _ _ _ _,Below.refl _ _⟩
 ·have h1:=h.later (aBq w (.cells #[] 5))
  have h2:=own_empty w 5;have hb:=aBq w (.cells #[] 5)
  go_enter Tryz.func124,Tryz.ntmps124
  go_wp2_with (at_builtin;(refine wpList_append_rd rfl (.tmp 5) (.tmp 6) 100 rfl w.heap.size 5 i0 (.int .u8 0) 1 1 Tryz.underlying100 hi hz0 hz1 hz2 rfl (by decide) _ 0 [] rfl h2 _ l.length (l.map V8) rfl h1 (v8_cells l) (by unfold maxLen;omega) (by omega) (by simp) ?_);intro v2 w2 hown2 hgrow2)
  go_ret;refine ⟨_,rfl,?_,hb.grown hgrow2 hb.size (fun k hk=>(h2.lt k hk).1)⟩;have e:0+l.length=l.length:=Nat.zero_add _;rw [e] at hown2;exact hown2
theorem rd_one8 (w:World) (x:Value) (t:TypeId):RdAt (w.alloc (.cells #[x] t)) (.slice (some ⟨w.heap.size,0,none⟩) 1 1) 1 1 [x] :=
 RdAt.mk rfl (Nat.le_refl _) (by rw [World.size_alloc];omega) (fun j y hj=>by
  have hj0:j=0:=by have:=(List.getElem?_eq_some_iff.1 hj).1;simpa using this
  subst hj0
  have:=cell_one_new w x t 0 y hj
  simpa [Addr.add] using this)
def lenL (N:Int) (k:Nat):List Int:=(List.range k).map (fun (i:Nat)=>N / 2 ^ (56 - 8 * i) % 256)
theorem lenL_succ (N:Int) (k:Nat):lenL N (k+1)=lenL N k ++ [N / 2 ^ (56 - 8 * k) % 256]:=by simp [lenL,List.range_succ]
def outAt (X:List Int) (j:Nat):Int:=X.getD (j / 4) 0 / 2 ^ (24 - 8 * (j % 4)) % 256
def outL (X:List Int) (k:Nat):List Int:=(List.range k).map (outAt X)
theorem outL_succ (X:List Int) (k:Nat):outL X (k+1)=outL X k ++ [outAt X k]:=by simp [outL,List.range_succ]
def ORow (w:World) (g:Nat) (S:List Int):Prop:=S.length≤32∧w.heap[g]?=some (.cells ((S.map V8 ++ List.replicate (32 - S.length) (V8 0)).toArray) 133 (0,0))
theorem outL_len (X:List Int) (k:Nat):(outL X k).length=k:=by simp [outL]
theorem orow_new {w:World} {g:Nat} (h:w.heap[g]?=some (.cells (Array.replicate 32 (.int .u8 0)) 133 (0,0))) (X:List Int):ORow w g (outL X 0):=⟨by simp [outL],by rw [h];rfl⟩
theorem ORow.free {w:World} {g:Nat} {S:List Int} (h:ORow w g S) (j:Nat):w.frozen? ⟨g,j,none⟩=false:=by simp [World.frozen?,h.2]
theorem ORow.old {w:World} {g:Nat} {S:List Int} (h:ORow w g S) (k:Nat) (hk:S.length=k) (hj:k < 32):w.cell? ⟨g,k,none⟩=some (V8 0):=by
 subst hk;rw [cell_row h.2,List.getElem?_toArray,List.getElem?_append_right (by simp)];rw [List.length_map,Nat.sub_self,List.getElem?_replicate,if_pos (by omega)]
theorem ORow.store {w:World} {g:Nat} {S:List Int} (h:ORow w g S) {k:Nat} (hk:S.length=k) (hj:k < 32) (x:Int):ORow (w.setCell ⟨g,k,none⟩ (V8 x)) g (S ++ [x]):=by
 subst hk;refine ⟨by simp;omega,?_⟩;rw [heap_setCell_same w g S.length _ _ _ h.2];have e:32 - S.length=(32 - (S ++ [x]).length)+1:=by simp;omega
 rw [e,List.replicate_succ]
 congr 2
 simp [List.setIfInBounds_toArray]
def padL (rb:List Int) (m:Nat) (cnt:Int):List Int:=rb ++ [128] ++ List.replicate m 0 ++ lenL (IntKind.u64.wrap (IntKind.u64.wrap cnt * 8)) 8
def padN (n:Nat):Nat:=if n < 56 then 55 - n else 119 - n
theorem padN_eq {n m:Nat} (h64:m < 64) (h:(n+1+m) % 64=56) (hn:n < 64):m=padN n:=by
 unfold padN;split <;> omega
def sumOut (V bs:List Int):List Int:=outL (blocksL V bs (bs.length / 64)) 32
theorem pad_bytes {rb:List Int} (hB:ByteL rb) (m:Nat) (N:Int):ByteL ((rb ++ [128] ++ List.replicate m 0 ++ lenL N 8) ++ []):=by
 intro x hx;rw [List.append_nil] at hx;simp only [List.mem_append] at hx
 rcases hx with ((h | h) | h) | h
 ·exact hB x h
 ·obtain rfl:=List.mem_singleton.1 h
  omega
 ·obtain rfl:=(List.mem_replicate.1 h).2
  omega
 ·simp only [lenL,List.mem_map] at h
  obtain ⟨j,_,rfl⟩:=h
  omega
set_option maxHeartbeats 4000000 in
set_option maxRecDepth 100000 in
theorem now_any (V rb:List Int) (cnt:Int) (rv:Value) (p:Nat) (w:World) (hS:SumAt w p V rv cnt) (hr:ByAt w rv rb) (hB:ByteL rb) (hl:rb.length < 64) :
  Calls Tryz.prog 107 #[.pointer (some ⟨p,0,none⟩)] w fun e w'=>e=.returned (.agg ((sumOut V (padL rb (padN rb.length) cnt)).map V8).toArray)∧Below w.heap.size w w':=by
 obtain ⟨h0,h1,h2,h3,h4,h5,h6,h7,rfl⟩:∃ h0 h1 h2 h3 h4 h5 h6 h7,V=[h0,h1,h2,h3,h4,h5,h6,h7]:=by
  have hl:=hS.1
  match V,hl with
  | [a,b,c,d,e,f,g,h],_=>exact ⟨a,b,c,d,e,f,g,h,rfl⟩
 obtain ⟨i0,hi,hz0,hz1,hz2⟩:=info_parts info_u8;obtain ⟨ra,rc,rfl,_,_⟩:=RdAt.shape hr;have hb0:=aBq w (.cells (Array.replicate 32 (.int .u8 0)) 133);have hS0:=hS.later hb0;have hr0:=hr.later hb0;have hR0:(w.alloc (.cells (Array.replicate 32 (.int .u8 0)) 133)).heap[w.heap.size]?=some (.cells (Array.replicate 32 (.int .u8 0)) 133 (0,0)):=heap_alloc_new _ _;have hsz0:=Lib.hid (World.size_alloc w (.cells (Array.replicate 32 (.int .u8 0)) 133));clear hS hr
 go_enter Tryz.func107,Tryz.ntmps107
 go_upto_region 3 with fail;change Code.wp _ _ _ _ (w.alloc (.cells (Array.replicate 32 (.int .u8 0)) 133));generalize w.alloc (.cells (Array.replicate 32 (.int .u8 0)) 133)=w0 at *;have hp0:=hS0.lt
 have g:w0.cell? ⟨p,0,none⟩=some (V32 h0)∧w0.cell? ⟨p,1,none⟩=some (V32 h1)∧w0.cell? ⟨p,2,none⟩=some (V32 h2)∧w0.cell? ⟨p,3,none⟩=some (V32 h3)∧w0.cell? ⟨p,4,none⟩=some (V32 h4)∧w0.cell? ⟨p,5,none⟩=some (V32 h5)∧w0.cell? ⟨p,6,none⟩=some (V32 h6)∧w0.cell? ⟨p,7,none⟩=some (V32 h7)∧w0.cell? ⟨p,8,none⟩=some (.slice ra rb.length rc) :=
  ⟨hS0.word 0 (by decide),hS0.word 1 (by decide),hS0.word 2 (by decide),hS0.word 3 (by decide),hS0.word 4 (by decide),hS0.word 5 (by decide),hS0.word 6 (by decide),hS0.word 7 (by decide),hS0.rest⟩
 have KS:∀ W,Below w0.heap.size w0 W→W.cell? ⟨p,0,none⟩=some (V32 h0)∧W.cell? ⟨p,1,none⟩=some (V32 h1)∧W.cell? ⟨p,2,none⟩=some (V32 h2)∧W.cell? ⟨p,3,none⟩=some (V32 h3)∧W.cell? ⟨p,4,none⟩=some (V32 h4)∧W.cell? ⟨p,5,none⟩=some (V32 h5)∧W.cell? ⟨p,6,none⟩=some (V32 h6)∧W.cell? ⟨p,7,none⟩=some (V32 h7)∧W.cell? ⟨p,8,none⟩=some (.slice ra rb.length rc):=fun W hb =>
  ⟨kCq g.1 hb hp0,kCq g.2.1 hb hp0,kCq g.2.2.1 hb hp0,kCq g.2.2.2.1 hb hp0,kCq g.2.2.2.2.1 hb hp0,kCq g.2.2.2.2.2.1 hb hp0,kCq g.2.2.2.2.2.2.1 hb hp0,kCq g.2.2.2.2.2.2.2.1 hb hp0,kCq g.2.2.2.2.2.2.2.2 hb hp0⟩
 have hcl:∀ W,Below w0.heap.size w0 W→Calls Tryz.prog 124 #[.slice ra rb.length rc] W fun e w'=>∃ v',e=.returned v'∧w'.ownsRow w0.heap.size 5 1 v' rb.length (rb.map V8)∧Below W.heap.size W w':=fun W hb=>(clone8 rb W _ (hr0.later hb) (by omega)).mono (fun e w' ⟨v',h1,h2,h3⟩=>⟨v',h1,own_base h2 hb.size,h3⟩);have HKS:=Lib.hid KS;have HCL:=Lib.hid hcl;have HG:=Lib.hid g;clear KS hcl g
 go_cut [3] (fun s3 wx=>∃ E v2,s3=.pointer (some ⟨E,0,none⟩)∧w0.heap.size≤E∧SumAt wx E [h0,h1,h2,h3,h4,h5,h6,h7] v2 0∧wx.ownsRow w0.heap.size 5 1 v2 (rb.length+1) ((rb ++ [128]).map V8)∧Below w0.heap.size w0 wx)
 case first =>
  go_region_held3 (fun w'=>w'.cell? ⟨p,0,none⟩=some (V32 h0)∧w'.cell? ⟨p,1,none⟩=some (V32 h1)∧w'.cell? ⟨p,2,none⟩=some (V32 h2)∧w'.cell? ⟨p,3,none⟩=some (V32 h3)∧w'.cell? ⟨p,4,none⟩=some (V32 h4)∧w'.cell? ⟨p,5,none⟩=some (V32 h5)∧w'.cell? ⟨p,6,none⟩=some (V32 h6)∧w'.cell? ⟨p,7,none⟩=some (V32 h7)∧w'.cell? ⟨p,8,none⟩=some (.slice ra rb.length rc))
   (first | exact HG.out | exact HKS.out _ ((Below.refl _ _).drew) | exact HKS.out _ (((Below.refl w0.heap.size w0).drew).alloc (Nat.le_refl _) _) | exact HKS.out _ hB2 | exact HKS.out _ hB1 | exact HKS.out _ (hB1.alloc hB1.size _) | exact HKS.out _ (hB2.alloc hB2.size _))
   (first
    | (refine step_append_rd (by rfl) (.tmp 19) (.tmp 20) _ (by rfl) w0.heap.size 5 i0 (.int .u8 0) 1 1 Tryz.underlying100 hi hz0 hz1 hz2 rfl (by decide) _ rb.length (rb.map V8) (by rfl) (by first | exact hown1 | exact own_later hown1 ((Below.refl _ _).alloc (Nat.le_refl _) _)) _ 1 [V8 128] (by rfl) (by first | exact rd_one8 w1 (V8 128) 5 | exact RdAt.later (w:=(w0.alloc (.cells #[V8 128] 5)).drew) (rd_one8 w0 (V8 128) 5) hb1) (by simp [Value.oneCell']) (by unfold maxLen;omega) (by omega) (by first | exact hB1.size | exact Nat.le_trans hB1.size (by simp)) ?_;intro v2 w2 hown2 hgrow2 _;obtain ⟨a2,c2,rfl,_,_⟩:=RdAt.shape (RdAt.own hown2);have hB2:Below w0.heap.size w0 w2:=by first | exact hB1.grown hgrow2 hB1.size (fun m hm=>(hown1.lt m hm).1) | exact (hB1.alloc hB1.size _).grown hgrow2 (Nat.le_trans hB1.size (by simp)) (fun m hm=>(hown1.lt m hm).1))
    | (go_at_call 124;refine (HCL.out _ (by first | exact (Below.refl _ _).drew | exact ((Below.refl w0.heap.size w0).drew).alloc (Nat.le_refl _) _)).mono ?_;rintro e w1 ⟨v1,rfl,hown1,hb1⟩;have hB1:Below w0.heap.size w0 w1:=by first | exact ((Below.refl _ _).drew).trans hb1 | exact (((Below.refl w0.heap.size w0).drew).alloc (Nat.le_refl _) _).trans (hb1.mono (by simp))))
  all_goals (
   clear hown1 hgrow2 hb1 hB1;go_wp2
   go_meet
   exact ⟨_,_,rfl,hB2.size,⟨rfl,heap_alloc_new _ _⟩,by rw [List.map_append];exact own_later hown2 (aBq _ _),hB2.alloc hB2.size _⟩)
 case rest =>
  obtain ⟨E,v2,rfl,hE,hSE,hown,hbE⟩:=hcut
  obtain ⟨M,hM1,hM2⟩:∃ M,(rb.length+1+M) % 64=56∧∀ m,m < M→(rb.length+1+m) % 64≠56:=by
   rcases Nat.lt_or_ge 55 rb.length with h | h
   ·exact ⟨119 - rb.length,by omega,fun m hm=>by omega⟩
   ·exact ⟨55 - rb.length,by omega,fun m hm=>by omega⟩
  have hM64:M < 64:=by
   rcases Nat.lt_or_ge M 64 with h | h
   ·exact h
   ·rcases Nat.lt_or_ge 55 rb.length with h' | h'
    ·exact absurd (by omega) (hM2 (119 - rb.length) (by omega))
    ·exact absurd (by omega) (hM2 (55 - rb.length) (by omega))
  have HR0:=Lib.hid hR0;have hSE':=Lib.hid hSE;have hown':=Lib.hid hown;have HS0:=Lib.hid hS0;clear hSE hown HKS HCL HG hS0 hr0 hR0;go_wp2
  go_loopw [24] (fun _ wr=>∃ (m n:Nat) (v:Value),m≤M∧n=rb.length+1+m∧Hid (SumAt wr E [h0,h1,h2,h3,h4,h5,h6,h7] v 0)∧Hid (wr.ownsRow w0.heap.size 5 1 v n ((rb ++ [128] ++ List.replicate m 0).map V8))∧Below w0.heap.size w0 wr) (fun _ wr=>rb.length+1+M - restLen wr E)
  case atStart=>exact ⟨0,rb.length+1,v2,Nat.zero_le _,rfl,hSE',Lib.hid (by simpa using hown'.out),hbE⟩
  case round =>
   obtain ⟨m,n,v,hm,hn,HS,HO,hbr⟩:=hrel;have HNn:=Lib.hid hn;have hn70:n≤200:=by omega
   clear hn;obtain ⟨a2,c2,rfl,hc2,_⟩:=RdAt.shape (RdAt.own HO.out);have g8:=HS.out.rest;have hrl:=HS.out.restLen;have hne1:(Value.slice a2 n c2).ownBlock≠some E:=row_apart HO.out HS.out.2 (by decide)
   by_cases hmM:m < M
   ·have hne:=hM2 m hmM
    have hnb:((n:Int) % 64 != 56)=true:=by rw [bne_iff_ne];have:=HNn.out;omega
    have hrd:=rd_one8 wr (V8 0) 5;have hoa:=own_later HO.out (aBq wr (.cells #[V8 0] 5));have hSa:=HS.out.later (aBq wr (.cells #[V8 0] 5));have hba:=hbr.alloc hbr.size (.cells #[V8 0] 5);go_wp2_with (at_builtin;(refine wpList_append_rd rfl (.tmp 35) (.tmp 36) 100 rfl w0.heap.size 5 i0 (.int .u8 0) 1 1 Tryz.underlying100 hi hz0 hz1 hz2 rfl (by decide) _ _ _ rfl hoa _ 1 [V8 0] rfl hrd (by simp [Value.oneCell']) (by unfold maxLen;omega) (by omega) hba.size ?_);intro v3 w3 hown3 hgrow3;obtain ⟨a3,c3,rfl,_,_⟩:=RdAt.shape (RdAt.own hown3);have hS3:=hSa.of_heap (hgrow3.block E hSa.lt (fun e=>hne1 e.symm));have g8':=hS3.rest;have f8':=hS3.free 8)
    have hb3:=hba.grown hgrow3 hba.size (fun k hk=>(hoa.lt k hk).1);have hne3:=row_apart hown3 hS3.2 (by decide);have hS4:=Lib.hid (hS3.setRest (.slice a3 (n+1) c3));have hg4:=grown_setCell w3 E 8 (.slice a3 (n+1) c3);have hO4:=Lib.hid (hown3.kept hg4 (.inr hne3));have hb4:=hb3.trans (below_row hg4 hE hb3.size);have hrl4:=hS4.out.restLen;clear hS3 g8' f8' hown3 hgrow3 hg4 hoa hSa hba hrd;generalize w3.setCell ⟨E,8,none⟩ (.slice a3 (n+1) c3)=w4 at *;go_wp2;go_roundw
    case rel =>
     refine ⟨m+1,n+1,_,by omega,by have:=HNn.out;omega,hS4,Lib.hid ?_,hb4⟩
     have:=hO4.out
     rw [List.replicate_succ',← List.append_assoc,List.map_append];exact this
    case measure=>rw [hrl4,hrl];have:=HNn.out;omega
   ·obtain rfl:m=M:=by omega
    have hnb:((n:Int) % 64 != 56)=false:=by rw [bne_eq_false_iff_eq];have:=HNn.out;omega
    have g9:=(HS0.out.later hbr).count;go_wp2;have HM56:=Lib.hid hM1;have HM64:=Lib.hid hM64;clear g8 hrl hne1 hnb hM1 hM2 hM64 hm hmM g9 hown' hSE' HNn;obtain ⟨N,hN⟩:∃ N,IntKind.u64.wrap (IntKind.u64.wrap cnt * 8)=N:=⟨_,rfl⟩;rw [hN];have HN:=Lib.hid hN;clear hN;obtain ⟨L,hL⟩:∃ L,rb ++ [128] ++ List.replicate m 0=L:=⟨_,rfl⟩;have HL:=Lib.hid hL;rw [hL] at HO;clear hL;have HBL:Hid (ByteL ((L ++ lenL N 8) ++ [])):=Lib.hid (by rw [← HL.out];exact pad_bytes hB m N)
    go_loopw [46] (fun i wr=>∃ (k n':Nat) (v:Value),k≤8∧i=.int .i64 k∧n'=n+k∧Hid (SumAt wr E [h0,h1,h2,h3,h4,h5,h6,h7] v 0)∧Hid (wr.ownsRow w0.heap.size 5 1 v n' ((L ++ lenL N k).map V8))∧Below w0.heap.size w0 wr) (fun i _=>8 - (intOf i).toNat)
    case atStart=>exact ⟨0,n,_,Nat.zero_le _,rfl,rfl,HS,Lib.hid (by simpa [lenL] using HO.out),hbr⟩
    case round =>
     clear HS HO hbr;obtain ⟨k,n',v,hk,rfl,hn',HS,HO,hbr⟩:=hrel;have hn270:n'≤300:=by omega
     have HNn:=Lib.hid hn';clear hn';obtain ⟨a2,c2,rfl,hc2,_⟩:=RdAt.shape (RdAt.own HO.out);have g8:=HS.out.rest;have hne1:(Value.slice a2 n' c2).ownBlock≠some E:=row_apart HO.out HS.out.2 (by decide)
     by_cases hk8:k < 8
     ·have hI:(k:Int) < 8:=by omega
      have q1:IntKind.i64.wrap (8 * (k:Int))=8 * (k:Int):=by rw [IntKind.wrap_i64];omega
      obtain ⟨s,hs⟩:∃ s,56 - 8 * (k:Int)=s:=⟨_,rfl⟩;have q2:IntKind.i64.wrap (56 - 8 * (k:Int))=s:=by rw [IntKind.wrap_i64];omega
      have hs0:0≤s:=by omega
      have hs1:s≤64:=by omega
      obtain ⟨x,hx⟩:∃ x,IntKind.u8.wrap (N / 2 ^ s.toNat)=x:=⟨_,rfl⟩;have HX:Hid (x=N / 2 ^ (56 - 8 * k) % 256):=Lib.hid (by rw [← hx,IntKind.wrap_u8'];congr 2;congr 1;omega);have hrd:=rd_one8 wr (V8 x) 5;have hoa:=own_later HO.out (aBq wr (.cells #[V8 x] 5));have hSa:=HS.out.later (aBq wr (.cells #[V8 x] 5));have hba:=hbr.alloc hbr.size (.cells #[V8 x] 5);clear hs;go_upto_region 10 with fail;refine wp_region_heldS 15 (S:=fun W:World=>W.cell? ⟨E,8,none⟩=some (.slice a2 n' c2)) (by kernel_rfl) g8 (fun hHeld=>?_);refine heldS_take (i:=0) (v:=?_) rfl rfl (by kernel_rfl) (by kernel_rfl) (by kernel_rfl) (by kernel_rfl) (by kernel_rfl) (fun _ _ _ h=>h) (by rfl) hHeld ?_ ?_;rotate_left
      ·rintro wh hcw
       go_simp
       (try with_reducible rfl)
      simp only [Act.put,aS1,aS2,aS3];refine heldS_take (i:=1) (v:=?_) rfl rfl (by kernel_rfl) (by kernel_rfl) (by kernel_rfl) (by kernel_rfl) (by kernel_rfl) (fun _ _ _ h=>h) (by rfl) hHeld ?_ ?_;rotate_left
      ·rintro wh hcw
       go_simp
       (try with_reducible rfl)
      simp only [Act.put,aS1,aS2,aS3];refine heldS_take (i:=2) (v:=?_) rfl rfl (by kernel_rfl) (by kernel_rfl) (by kernel_rfl) (by kernel_rfl) (by kernel_rfl) (fun _ _ _ h=>h) (by rfl) hHeld ?_ ?_;rotate_left
      ·rintro wh hcw
       go_simp
       (try with_reducible rfl)
      simp only [Act.put,aS1,aS2,aS3];refine heldS_take (i:=3) (v:=?_) rfl rfl (by kernel_rfl) (by kernel_rfl) (by kernel_rfl) (by kernel_rfl) (by kernel_rfl) (fun _ _ _ h=>h) (by rfl) hHeld ?_ ?_;rotate_left
      ·rintro wh hcw
       go_simp
       (try with_reducible rfl)
      simp only [Act.put,aS1,aS2,aS3];refine heldS_take (i:=4) (v:=?_) rfl rfl (by kernel_rfl) (by kernel_rfl) (by kernel_rfl) (by kernel_rfl) (by kernel_rfl) (fun _ _ _ h=>h) (by rfl) hHeld ?_ ?_;rotate_left
      ·rintro wh hcw
       go_simp
       (try with_reducible rfl)
      simp only [Act.put,aS1,aS2,aS3];refine heldS_take (i:=5) (v:=?_) rfl rfl (by kernel_rfl) (by kernel_rfl) (by kernel_rfl) (by kernel_rfl) (by kernel_rfl) (fun _ _ _ h=>h) (by rfl) hHeld ?_ ?_;rotate_left
      ·rintro wh hcw
       go_simp
       (try with_reducible rfl)
      simp only [Act.put,aS1,aS2,aS3];refine heldS_take (i:=6) (v:=?_) rfl rfl (by kernel_rfl) (by kernel_rfl) (by kernel_rfl) (by kernel_rfl) (by kernel_rfl) (fun _ _ _ h=>h) (by rfl) hHeld ?_ ?_;rotate_left
      ·rintro wh hcw
       go_simp
       (try with_reducible rfl)
      simp only [Act.put,aS1,aS2,aS3];refine heldS_take (i:=7) (v:=?_) rfl rfl (by kernel_rfl) (by kernel_rfl) (by kernel_rfl) (by kernel_rfl) (by kernel_rfl) (fun _ _ _ h=>h) (by rfl) hHeld ?_ ?_;rotate_left
      ·rintro wh hcw
       go_simp
       (try with_reducible rfl)
      simp only [Act.put,aS1,aS2,aS3];refine heldS_take (i:=8) (v:=?_) rfl rfl (by kernel_rfl) (by kernel_rfl) (by kernel_rfl) (by kernel_rfl) (by kernel_rfl) (fun _ _ _ h=>h) (by rfl) hHeld ?_ ?_;rotate_left
      ·rintro wh hcw
       go_simp
       (try with_reducible rfl)
      simp only [Act.put,aS1,aS2,aS3];refine heldS_take (i:=9) (v:=?_) rfl rfl (by kernel_rfl) (by kernel_rfl) (by kernel_rfl) (by kernel_rfl) (by kernel_rfl) (fun _ _ _ h=>h) (by rfl) hHeld ?_ ?_;rotate_left
      ·rintro wh hcw
       go_simp
       (try with_reducible rfl)
      simp only [Act.put,aS1,aS2,aS3];refine heldS_take (i:=10) (v:=?_) rfl rfl (by kernel_rfl) (by kernel_rfl) (by kernel_rfl) (by kernel_rfl) (by kernel_rfl) (fun _ _ _ h=>h) (by rfl) hHeld ?_ ?_;rotate_left
      ·rintro wh hcw
       go_simp
       (try with_reducible rfl)
      simp only [Act.put,aS1,aS2,aS3];refine heldS_step (i:=11) rfl (by kernel_rfl) (fun K hK=>?_);go_simp;refine hK.out _ _ hSa.rest (fun hHeld=>?_);clear hK K
      (try simp only [Act.put,aS1])
      refine heldS_step (i:=12) rfl (by kernel_rfl) (fun K hK=>?_)
      (refine step_append_rd (by rfl) (.tmp 53) (.tmp 60) _ (by rfl) w0.heap.size 5 i0 (.int .u8 0) 1 1 Tryz.underlying100 hi hz0 hz1 hz2 rfl (by decide) _ _ _ (by rfl) hoa _ 1 [V8 x] (by rfl) hrd (by simp [Value.oneCell']) (by unfold maxLen;omega) (by omega) hba.size ?_);intro v3 w3 hown3 hgrow3 _;obtain ⟨a3,c3,rfl,_,_⟩:=RdAt.shape (RdAt.own hown3);have hS3:=hSa.of_heap (hgrow3.block E hSa.lt (fun e=>hne1 e.symm));have g8':=hS3.rest;have f8':=hS3.free 8
      refine hK.out _ _ g8' (fun hHeld=>?_);clear hK K
      (try simp only [Act.put,aS1])
      refine heldS_step (i:=13) rfl (by kernel_rfl) (fun K hK=>?_);go_simp;refine hK.out _ _ g8' (fun hHeld=>?_);clear hK K
      (try simp only [Act.put,aS1])
      refine heldS_step (i:=14) rfl (by kernel_rfl) (fun K hK=>?_);go_simp;refine hK.out _ _ g8' (fun hHeld=>?_);clear hK K
      (try simp only [Act.put,aS1])
      refine heldS_last (i:=15) rfl (by kernel_rfl) (by kernel_rfl) (fun K hK=>?_);go_simp;refine hK.out _ _ ?_;clear hK K
      (try simp only [Act.put,aS1])
      refine wpAnyEnd_done (by kernel_rfl) ?_ _;have hb3:=hba.drew.grown hgrow3 hba.size (fun k hk=>(hoa.lt k hk).1);have hne3:=row_apart hown3 hS3.2 (by decide);have hS4:=Lib.hid (hS3.setRest (.slice a3 (n'+1) c3));have hg4:=grown_setCell w3 E 8 (.slice a3 (n'+1) c3);have hO4:=Lib.hid (hown3.kept hg4 (.inr hne3));have hb4:=hb3.trans (below_row hg4 hE hb3.size);clear hS3 g8' f8' hown3 hgrow3 hg4 hoa hSa hba hrd g8 hb3 hne3 HS HO hbr hHeld q1 q2 hs0 hs1 hx;change Exit.inBlock _ _ _ _ (w3.setCell ⟨E,8,none⟩ (.slice a3 (n'+1) c3));generalize w3.setCell ⟨E,8,none⟩ (.slice a3 (n'+1) c3)=w4 at *;go_wp2;go_roundw
      case rel =>
       refine ⟨k+1,n'+1,_,by omega,by go_num,by have:=HNn.out;omega,hS4,Lib.hid ?_,hb4⟩;rw [lenL_succ,← HX.out,← List.append_assoc,List.map_append];exact hO4.out
      case measure=>(simp [intOf];try omega)
     ·obtain rfl:k=8:=by omega
      rw [show ((8:Nat):Int)=8 from rfl];have hLl:Hid ((L ++ lenL N 8).length=n'):=Lib.hid (by have:=HO.out.1;rw [List.length_map] at this;omega);have hadd:=add_any [h0,h1,h2,h3,h4,h5,h6,h7] (L ++ lenL N 8) [] 0 (.slice a2 n' c2) (.slice none 0 0) E w0.heap.size wr HS.out (by rw [hLl.out];exact HO.out) (RdAt.nil _ _) HBL.out (by simp [Value.ownBlock]) hE hbr.size (by rw [hLl.out];simp;omega) (by simp);clear g8 hne1;go_wp2_with fail
      refine hadd.mono ?_;rintro e wa ⟨rv',kk,rfl,hkk,hSA,_,hba⟩;obtain ⟨X,hX⟩:∃ X,blocksL [h0,h1,h2,h3,h4,h5,h6,h7] ((L ++ lenL N 8) ++ []) kk=X:=⟨_,rfl⟩;rw [hX] at hSA;have HXX:Hid (X=blocksL [h0,h1,h2,h3,h4,h5,h6,h7] (padL rb m cnt) ((padL rb m cnt).length / 64)):=Lib.hid (by rw [← hX,hkk,List.append_nil,← HL.out,← HN.out];rfl);have hbA:=hbr.trans hba;have hR1':=Lib.hid ((hbA.block w.heap.size (by rw [hsz0.out];omega)).trans HR0.out);have hSA2:=hSA.later (aBq wa (.cells (Array.replicate 32 (.int .u8 0)) 133));have hbA2:=hbA.alloc hbA.size (.cells (Array.replicate 32 (.int .u8 0)) 133);have hO2:(wa.alloc (.cells (Array.replicate 32 (.int .u8 0)) 133)).heap[wa.heap.size]?=some (.cells (Array.replicate 32 (.int .u8 0)) 133 (0,0)):=heap_alloc_new _ _;have hEO:E < wa.heap.size:=hSA.lt;have hbw:w0.heap.size≤wa.heap.size:=hbA.size;clear hX hkk hSA hba hadd HBL hLl HO HS hbr hbA;generalize (0:Int)+(([]:List Int).length:Int)=cz at *;have HSA:=Lib.hid hSA2;have HO3:Hid (ORow (wa.alloc (.cells (Array.replicate 32 (.int .u8 0)) 133)) wa.heap.size (outL X 0)):=Lib.hid (orow_new hO2 X);have HbA:=Lib.hid hbA2;have HR2:Hid ((wa.alloc (.cells (Array.replicate 32 (.int .u8 0)) 133)).heap[w.heap.size]?=some (.cells (Array.replicate 32 (.int .u8 0)) 133 (0,0))):=Lib.hid ((hbA2.block w.heap.size (by rw [hsz0.out];omega)).trans HR0.out);clear hSA2 hO2 hbA2 hR1';go_wp2;obtain ⟨O,hO⟩:∃ O,O=wa.heap.size:=⟨_,rfl⟩;have HOO:=Lib.hid hO;rw [← hO] at HO3 hEO hbw ⊢;clear hO
      go_loopw [67] (fun i wr=>∃ (k:Nat),k≤32∧i=.int .i64 k∧Hid (SumAt wr E X rv' cz)∧Hid (ORow wr O (outL X k))∧Hid (wr.heap[w.heap.size]?=some (.cells (Array.replicate 32 (.int .u8 0)) 133 (0,0)))∧Hid (Below w0.heap.size w0 wr)) (fun i _=>32 - (intOf i).toNat)
      case atStart=>exact ⟨0,Nat.zero_le _,rfl,HSA,HO3,HR2,HbA⟩
      case round =>
       clear HSA HO3 HR2 HbA;obtain ⟨k,hk,rfl,HS,HO,HR,HB⟩:=hrel
       by_cases hkl:k < 32
       ·obtain ⟨q,hq⟩:∃ q,k / 4=q:=⟨_,rfl⟩
        have hq1:(k:Int) / 4=(q:Int):=by omega
        have hq8:q < 8:=by omega
        have hI1:(q:Int) < 8:=by omega
        have hI2:(k:Int) < 32:=by omega
        have g1:=HS.out.word q hq8;obtain ⟨y,hy⟩:∃ y,X.getD q 0=y:=⟨_,rfl⟩;rw [hy] at g1;obtain ⟨m8,hm8⟩:∃ m:Int,8 * ((k:Int) % 4)=m:=⟨_,rfl⟩;have q1:IntKind.i64.wrap (8 * ((k:Int) % 4))=m8:=by rw [IntKind.wrap_i64];omega
        obtain ⟨s,hs⟩:∃ s:Int,24 - m8=s:=⟨_,rfl⟩;have q2:IntKind.i64.wrap (24 - m8)=s:=by rw [IntKind.wrap_i64];omega
        have hs0:0≤s:=by omega
        have hs1:s≤32:=by omega
        obtain ⟨x,hx⟩:∃ x,IntKind.u8.wrap (y / 2 ^ s.toNat)=x:=⟨_,rfl⟩;have HX2:Hid (x=outAt X k):=Lib.hid (by rw [← hx,IntKind.wrap_u8'];unfold outAt;rw [hq,hy];congr 3;omega);have g2:=HO.out.old k (by simp [outL]) hkl;have f2:=HO.out.free k;have HST:=Lib.hid (HO.out.store (k:=k) (by simp [outL]) hkl x);have hS2:=Lib.hid (HS.out.of_heap (w':=wr.setCell ⟨O,k,none⟩ (V8 x)) (heap_setCell_other wr ⟨O,k,none⟩ E _ (by show E≠O;omega)));have hR2:=Lib.hid ((heap_setCell_other wr ⟨O,k,none⟩ w.heap.size (V8 x) (by have:=hsz0.out;show w.heap.size≠O;omega)).trans HR.out);have hB2:=Lib.hid (HB.out.trans (below_setCell (B:=w0.heap.size) wr O k (V8 x) (by omega)));clear hq hm8 hs hy HS HO HR HB;go_wp2;go_roundw
        case rel =>
         refine ⟨k+1,by omega,by go_num,hS2,Lib.hid ?_,hR2,hB2⟩;rw [outL_succ,← HX2.out];exact HST.out
        case measure=>(simp [intOf];try omega)
       ·obtain rfl:k=32:=by omega
        rw [show ((32:Nat):Int)=32 from rfl];have hO5:wr.heap[O]?=some (.cells ((outL X 32).map V8).toArray 133 (0,0)):=by have:=HO.out.2;rw [outL_len] at this;simpa using this
        go_upto_region 19 with fail;have hOl:((outL X 32).map V8).toArray.size=32:=by simp [outL]
        have hI9:(Tryz.prog.info? 133).map (·.size)=some ((outL X 32).map V8).toArray.size:=by rw [hOl];kernel_rfl
        apply wp_region_lit
        refine wpList_load_row rfl 133 (.tmp 6) rfl O rfl 133 ((outL X 32).map V8).toArray (0,0) _ hO5 Tryz.underlying133 rfl hI9 ?_;refine wpList_store_row rfl 133 (.tmp 2) (.tmp 86) rfl w.heap.size ((outL X 32).map V8).toArray rfl rfl 133 _ HR.out hI9 (by rw [hOl];rfl) (all_oneCell_toArray (v8_cells _)) ?_;have hg2:=setRow_heap wr w.heap.size _ ((outL X 32).map V8).toArray _ _ HR.out;have hb2:Below w.heap.size w (wr.setRow w.heap.size ((outL X 32).map V8).toArray):=below_setRow (hb0.trans (HB.out.mono hb0.size)) (Nat.le_refl _) _;generalize wr.setRow w.heap.size ((outL X 32).map V8).toArray=w1 at *;have hfin:outL X 32=sumOut [h0,h1,h2,h3,h4,h5,h6,h7] (padL rb m cnt):=by unfold sumOut;rw [← HXX.out]
        have hm56:(rb.length+1+m) % 64=56:=HM56.out;simp only [Act.put,aS1,aS2,aS3];show Exit.then _ _ Exit.normal _ _;simp only [Exit.then];refine (by assumption:∀ (a:Act) (w:World),Code.wp _ Code.ret _ a w→_) _ _ ?_;go_wp2;refine bodyPost_ret (results_cell_row rfl _ _ w.heap.size 133 ((outL X 32).map V8).toArray (0,0) (.array 32 5) rfl hg2 Tryz.underlying133 rfl hI9) rfl ?_;refine ⟨?_,hb2⟩;rw [hfin,padN_eq HM64.out hm56 hl]
open Go.Sort
theorem grow_any (n:Nat) (w:World) (h0:0 < n) (hn:n≤4000000) :
  Calls Tryz.prog 88 #[.slice none 0 0,.int .i64 n] w fun e w'=>∃ g cap,e=.returned (.slice (some ⟨g,0,none⟩) 0 cap)∧w'.ownsRow w.heap.size 5 1 (.slice (some ⟨g,0,none⟩) 0 cap) 0 []∧Below w.heap.size w w':=by
 obtain ⟨i0,hi,hz0,hz1,hz2⟩:=info_parts info_u8;have h:=Any8.slices_Grow_grow Tryz.lays8n4b i0 (.int .u8 0) hi hz0 (by rw [hz1];decide) none 0 0 n [] w (Nat.le_refl _) (by omega) (by rw [hz2];omega) (by omega) (by simp) (fun _=>rfl) (fun _ h=>by cases h);refine Calls.mono h ?_;rintro e w' ⟨rfl,rfl⟩;refine ⟨_,_,rfl,⟨rfl,.inr ⟨w.heap.size,_,_,rfl,Nat.le_refl _,heap_alloc_new _ _,Nat.zero_le _,grownCap_le_maxLen _ _ _ _ (by unfold maxLen;omega),?_,by simp⟩⟩,((Below.refl _ _).drew).alloc (Nat.le_refl _) _⟩;have hge:=grownCap_ge w (0+n) 0 (Tryz.lays8n4b_ren.t 25);have e1:(Value.int IntKind.u8 0).cells.size=1:=rfl
 simp [Builtin.zeroCells,e1] at hge ⊢
 omega
def SlsAt (w:World) (a:Addr) (ls:List (Value × List Int)):Prop :=
 ∃ b o,a=⟨b,o,none⟩∧b < w.heap.size∧∀ j (h:j < ls.length),w.cell? ⟨b,o+j,none⟩=some ls[j].1∧ByAt w ls[j].1 ls[j].2
def sumL (ls:List (Value × List Int)):List Int:=ls.flatMap (·.2)
theorem sumL_take {ls:List (Value × List Int)} {k:Nat} (h:k < ls.length):sumL (ls.take (k+1))=sumL (ls.take k) ++ ls[k].2:=by
 unfold sumL;rw [List.take_succ_eq_append_getElem h,List.flatMap_append];simp
theorem sumL_le (ls:List (Value × List Int)) (k:Nat):(sumL (ls.take k)).length≤(sumL ls).length:=by
 have:sumL ls=sumL (ls.take k) ++ sumL (ls.drop k):=by unfold sumL;rw [← List.flatMap_append,List.take_append_drop]
 rw [this,List.length_append];omega
set_option maxHeartbeats 1600000 in
set_option maxRecDepth 10000000 in
theorem concat_any (ls:List (Value × List Int)) (a:Addr) (c:Nat) (w:World) (hls:SlsAt w a ls) (hne:0 < (sumL ls).length) (hl:(sumL ls).length≤4000000) (hn:ls.length≤4000000) :
  Calls Tryz.prog 60 #[.slice (some a) ls.length c] w fun e w'=>∃ v,e=.returned v∧w'.ownsRow w.heap.size 5 1 v (sumL ls).length ((sumL ls).map V8)∧Below w.heap.size w w':=by
 obtain ⟨b,o,rfl,hb,hcell⟩:=hls;obtain ⟨i0,hi,hz0,hz1,hz2⟩:=info_parts info_u8;have HC:=Lib.hid hcell;clear hcell
 go_enter Tryz.func60,Tryz.ntmps60
 go_wp2
 go_loopw [3,11] (fun s i wr=>∃ k t:Nat,k≤ls.length∧i=.int .i64 k∧s=.int .i64 t∧t≤4000000∧Hid (t=(sumL (ls.take k)).length)∧Below w.heap.size w wr) (fun _ i _=>ls.length - (intOf i).toNat)
 case atStart=>exact ⟨0,0,Nat.zero_le _,rfl,rfl,by omega,Lib.hid rfl,Below.refl _ _⟩
 case round =>
  obtain ⟨k,t,hk,rfl,rfl,ht,HT,hbr⟩:=hrel
  by_cases hkl:k < ls.length
  ·obtain ⟨h1,h2⟩:=HC.out k hkl
   obtain ⟨x,hx⟩:∃ x,ls[k]=x:=⟨_,rfl⟩;have HN:Hid (t+x.2.length=(sumL (ls.take (k+1))).length):=by show _=_;rw [sumL_take hkl,List.length_append,HT.out,hx]
   have hle:t+x.2.length≤4000000:=by rw [HN.out];exact Nat.le_trans (sumL_le ls (k+1)) hl
   rw [hx] at h1 h2;obtain ⟨va,vl⟩:=x;obtain ⟨a1,c1,hva,hc1,_⟩:=RdAt.shape h2;dsimp only at hva hc1;subst hva;have hcr:wr.cell? ⟨b,o+k,none⟩=some (.slice a1 vl.length c1):=kCq h1 hbr hb;have hle':(t:Int)+(vl.length:Int)≤4000000:=by dsimp only at hle;omega
   clear h1 h2 hx HT;go_wp2;go_roundw
   case rel=>exact ⟨k+1,t+vl.length,by omega,by go_num,by go_num,hle,HN,hbr⟩
   case measure=>(simp [intOf];try omega)
  ·obtain rfl:k=ls.length:=by omega
   obtain rfl:t=(sumL ls).length:=by rw [HT.out,List.take_length]
   clear HT;have hg:=grow_any (sumL ls).length wr hne hl;go_wp2_with fail
   refine hg.mono ?_;rintro e w1 ⟨g,cap,rfl,hown,hb1⟩;have hown1:=own_base hown hbr.size;have hbr1:=hbr.trans (hb1.mono hbr.size);clear hg hown hbr hb1;go_wp2
   go_loopw [6,27] (fun v i wr=>∃ k:Nat,k≤ls.length∧i=.int .i64 k∧wr.ownsRow w.heap.size 5 1 v (sumL (ls.take k)).length ((sumL (ls.take k)).map V8)∧Below w.heap.size w wr) (fun _ i _=>ls.length - (intOf i).toNat)
   case atStart=>exact ⟨0,Nat.zero_le _,rfl,hown1,hbr1⟩
   case round =>
    obtain ⟨k,hk,rfl,hown,hbr⟩:=hrel
    by_cases hkl:k < ls.length
    ·obtain ⟨h1,h2⟩:=HC.out k hkl
     have e1:=sumL_take hkl;have hle1:(sumL (ls.take (k+1))).length≤4000000:=Nat.le_trans (sumL_le ls (k+1)) hl;obtain ⟨x,hx⟩:∃ x,ls[k]=x:=⟨_,rfl⟩;rw [hx] at h1 h2 e1;obtain ⟨va,vl⟩:=x;have hcr:wr.cell? ⟨b,o+k,none⟩=some va:=kCq h1 hbr hb;have hrd:ByAt wr va vl:=ByAt.later h2 hbr;have hle:(sumL (ls.take k)).length+vl.length≤4000000:=by rw [e1,List.length_append] at hle1;exact hle1
     have HE:=Lib.hid e1;clear h1 h2 hx e1 hle1;go_wp2_with (at_builtin;(refine wpList_append_rd rfl (.tmp 31) (.tmp 32) 100 rfl w.heap.size 5 i0 (.int .u8 0) 1 1 Tryz.underlying100 hi hz0 hz1 hz2 rfl (by decide) _ _ _ rfl hown _ vl.length (vl.map V8) rfl hrd (v8_cells vl) (by unfold maxLen;omega) (by omega) hbr.size ?_);intro v' w' hown' hgrow)
     have hb':Below w.heap.size w w':=hbr.grown hgrow hbr.size (fun m hm=>(hown.lt m hm).1);clear hown hgrow hbr hrd hcr;go_wp2;go_roundw
     case rel=>exact ⟨k+1,by omega,by go_num,by rw [HE.out,List.length_append,List.map_append];exact hown',hb'⟩
     case measure=>(simp [intOf];try omega)
    ·obtain rfl:k=ls.length:=by omega
     rw [List.take_length] at hown;go_wp2;go_ret;exact ⟨_,rfl,hown,hbr⟩
end Go.Proofs.YtipnhpfpppblhaaGreat
namespace Go.Proofs.YtipnhpfpppblhaaGreat
open Go.RowKit
def byL (s:ByteArray):List Int:=(B s).map (fun c=>(c.toNat:Int))
theorem byL_len (s:ByteArray):(byL s).length=s.size:=by simp [byL]
theorem byL_byte (s:ByteArray):ByteL (byL s):=by
 intro x hx;simp only [byL,List.mem_map] at hx;obtain ⟨c,_,rfl⟩:=hx
 have:=c.toNat_lt
 omega
def cvW (w:World) (s:ByteArray):World:=Lib.bytesWorld w 5 s
def cvC (w:World) (s:ByteArray):Nat:=grownCap w s.size 0 5
theorem cv_run (w:World) (s:ByteArray):(convert 9 100 (.string s)).run Tryz.prog w=.ok (.slice (some ⟨w.heap.size,0,none⟩) s.size (cvC w s)) (cvW w s) :=
 Lib.run_convert_string_bytes (P:=Tryz.prog) w 9 100 5 s Tryz.underlying9 Tryz.underlying100 Tryz.underlying5
theorem cv_below (w:World) (s:ByteArray):Below w.heap.size w (cvW w s) :=
 ⟨rfl,rfl,rfl,by rw [cvW,Lib.bytesWorld_size];omega,fun k hk=>Lib.bytesWorld_at_old w _ s k hk⟩
theorem cv_size (w:World) (s:ByteArray):(cvW w s).heap.size=w.heap.size+1:=Lib.bytesWorld_size _ _ _
theorem cv_cap (w:World) (s:ByteArray):s.size≤cvC w s:=grownCap_ge w s.size 0 _
theorem byL_at (s:ByteArray) (j:Nat) (y:Value) (h:((byL s).map V8)[j]?=some y):j < s.size∧y=.int .u8 (s.data.toList.getD j 0).toNat:=by
 rw [List.getElem?_map,Option.map_eq_some_iff] at h;obtain ⟨x,hx,rfl⟩:=h;have hj:=(List.getElem?_eq_some_iff.1 hx).1;rw [byL_len] at hj;refine ⟨hj,?_⟩;simp only [byL,List.getElem?_map,Option.map_eq_some_iff] at hx;obtain ⟨c,hc,rfl⟩:=hx;rw [List.getD_eq_getElem?_getD,hc];rfl
theorem cv_at (w:World) (s:ByteArray):ByAt (cvW w s) (.slice (some ⟨w.heap.size,0,none⟩) s.size (cvC w s)) (byL s):=by
 have h:=RdAt.mk (w:=cvW w s) (b:=w.heap.size) (o:=0) (n:=s.size) (c:=cvC w s) (k:=1) (xs:=(byL s).map V8) (by simp [byL_len]) (cv_cap w s) (by rw [cv_size];omega) (fun j y hj=>by
  obtain ⟨h1,rfl⟩:=byL_at s j y hj;rw [Nat.zero_add];exact Lib.bytesWorld_cell w 5 s j h1)
 unfold ByAt;rw [byL_len];exact h
theorem cv_free (w:World) (s:ByteArray) (j:Nat) (hj:j < cvC w s):((cvW w s).cell? ⟨w.heap.size,j,none⟩).isSome=true∧(cvW w s).frozen? ⟨w.heap.size,j,none⟩=false:=by
 have hg:=Lib.bytesWorld_at_new w 5 s
 have hs:(Lib.bytesCells w 5 s).size=cvC w s:=by
  have:=cv_cap w s
  unfold cvC at *
  simp [Lib.bytesCells];omega
 constructor
 ·rw [World.cell?,cvW,hg]
  simp [hs,hj]
 ·rw [World.frozen?,cvW,hg]
  simp [hs];omega
theorem run_append_cv (w W:World) (s:ByteArray) (hw:Below (cvW w s).heap.size (cvW w s) W) (hs:s.size≤4000000) (x:Int) (u:Value) (hu:RdAt W u 1 1 [V8 x]) (ty:TypeId) (i0:TypeInfo)
  (hi:Tryz.prog.info? 5=some i0) (hz0:i0.zero=some (.int .u8 0)) (hz1:i0.size=1) (hz2:i0.bytes=1) :
  ∃ a' c' w',(Builtin.append_ #[100,100] ty #[.slice (some ⟨w.heap.size,0,none⟩) s.size (cvC w s),u]).run Tryz.prog W=.ok (.slice (some a') (s.size+1) c') w' ∧
   ByAt w' (.slice (some a') (s.size+1) c') (byL s ++ [x])∧Below w.heap.size w w'∧a'.block < w'.heap.size∧w.heap.size≤a'.block:=by
 have hlt:w.heap.size < (cvW w s).heap.size:=by rw [cv_size];omega
 have hb0:Below w.heap.size w W:=(cv_below w s).trans (hw.mono (Nat.le_of_lt hlt));obtain ⟨b,o,c,rfl,hc,hbl,hcell⟩:=RdAt.some hu (by decide);have hx0:W.cell? ⟨b,o,none⟩=some (V8 x):=hcell 0 _ rfl;have hat:=(cv_at w s).later hw
 have holds:∀ j y,((byL s).map V8)[j]?=some y→W.cell? ⟨w.heap.size,j,none⟩=some y:=fun j y hj=>by
  obtain ⟨h1,rfl⟩:=byL_at s j y hj;rw [hw.cell (p:=⟨w.heap.size,j,none⟩) hlt];exact Lib.bytesWorld_cell w 5 s j h1
 have hbig:w.heap.size < W.heap.size:=Nat.lt_of_lt_of_le hlt hw.size
 have key:∀ w' (g c':Nat),s.size+1≤c'→g < w'.heap.size→(∀ j y,((byL s ++ [x]).map V8)[j]?=some y→w'.cell? ⟨g,j,none⟩=some y)→ByAt w' (.slice (some ⟨g,0,none⟩) (s.size+1) c') (byL s ++ [x]):=fun w' g c' h1 h2 h3=>by
  have h:=RdAt.mk (w:=w') (b:=g) (o:=0) (n:=s.size+1) (c:=c') (k:=1) (xs:=(byL s ++ [x]).map V8) (by simp [byL_len]) h1 h2 (fun j y hj=>by rw [Nat.zero_add];exact h3 j y hj);unfold ByAt;rw [show (byL s ++ [x]).length=s.size+1 by simp [byL_len]];exact h
 have hsrc:Src Tryz.prog i0.size 100 (.slice (some ⟨b,o,none⟩) 1 c) 1 [V8 x] W:=by
  rw [hz1]
  exact Src.ofSlice W Tryz.underlying100 _ _ _ [V8 x] rfl (fun j y hj=>by
   have hj0:j=0:=by have:=(List.getElem?_eq_some_iff.1 hj).1;simpa using this
   subst hj0
   have:V8 x=y:=by simpa using hj
   subst this
   simpa [Addr.add] using hx0) (by simp [Value.oneCell'])
 rcases Nat.lt_or_ge s.size (cvC w s) with hroom | hroom
 ·obtain ⟨hf1,hf2⟩:=cv_free w s s.size hroom
  have hq1:(W.cell? ⟨w.heap.size,s.size,none⟩).isSome=true:=by rw [hw.cell (p:=⟨w.heap.size,s.size,none⟩) hlt];exact hf1
  have hq2:W.frozen? ⟨w.heap.size,s.size,none⟩=false:=by rw [World.frozen?_of_block (a:=⟨w.heap.size,s.size,none⟩) (hw.block _ hlt)];exact hf2
  have hr:=run_append_room_src (P:=Tryz.prog) (w:=W) 100 100 ty 5 i0 Tryz.underlying100 hi w.heap.size 0 s.size (cvC w s) _ 1 [V8 x] hsrc hroom
   (fun j hj=>by have:j=0:=(by simpa using hj);subst this;simpa [hz1] using hq1) (fun j hj=>by have:j=0:=(by simpa using hj);subst this;simpa [hz1] using hq2)
  refine ⟨_,_,_,hr,?_,?_,?_,Nat.le_refl _⟩
  ·refine key _ _ _ hroom ?_ (fun j y hj=>?_)
   ·simp [World.setCells];exact hbig
   ·simp only [World.setCells,hz1,Nat.mul_one,Nat.zero_add]
    rw [List.map_append] at hj
    by_cases hjs:j < s.size
    ·rw [List.getElem?_append_left (by simpa [byL_len] using hjs)] at hj
     rw [World.cell?_setCell_other _ _ _ _ (by intro e;cases e;omega)];exact holds j y hj
    ·have hjl:=(List.getElem?_eq_some_iff.1 hj).1
     have:j=s.size:=by simp [byL_len] at hjl;omega
     subst this;rw [List.getElem?_append_right (by simp [byL_len])] at hj;have hy:V8 x=y:=by simpa [byL_len] using hj
     rw [World.cell?_setCell_same' _ _ _ hq1,hy]
  ·refine hb0.trans ?_
   simp only [World.setCells];exact below_setCell W _ _ _ (Nat.le_refl _)
  ·simp [World.setCells];exact hbig
 ·have e1:cvC w s=s.size:=Nat.le_antisymm hroom (cv_cap w s)
  have hr:=run_append_grow (P:=Tryz.prog) W 100 ty 5 i0 (.int .u8 0) Tryz.underlying100 hi hz0 ⟨w.heap.size,0,none⟩ s.size (cvC w s) ((byL s).map V8) (by simp [byL_len,hz1])
   (fun j y hj=>by rw [Addr.add_mid,Nat.zero_add];exact holds j y hj) ⟨b,o,none⟩ 1 c [V8 x] (by simp [hz1]) (fun j y hj=>by
    have hj0:j=0:=by have:=(List.getElem?_eq_some_iff.1 hj).1;simpa using this
    subst hj0
    have:V8 x=y:=by simpa using hj
    subst this
    simpa [Addr.add] using hx0) (by omega) (by omega) (growslice_fits (by omega) (by rw [hz2];omega))
  have hge:=grownCap_ge W (s.size+1) (cvC w s) 5;refine ⟨_,_,_,hr,?_,?_,?_,Nat.le_of_lt hbig⟩
  ·refine key _ _ _ hge (by simp) (fun j y hj=>?_)
   have e2:(W.drew.alloc (.cells (((byL s).map V8).toArray ++ [V8 x].toArray ++ Builtin.zeroCells (Value.int .u8 0).cells (grownCap W (s.size+1) (cvC w s) 5 - (s.size+1))) 5)).cell? ⟨W.heap.size,j,none⟩=_:=World.cell?_alloc_new W.drew _ _ j;rw [e2];rw [List.map_append] at hj;have hjl:=(List.getElem?_eq_some_iff.1 hj).1;rw [Array.getElem?_append_left (by simpa using hjl)]
   simpa using hj
  ·exact hb0.trans (((Below.refl _ _).drew).alloc (Nat.le_of_lt hbig) _)
  ·simp
def ofL (bs:List Int):List Int:=sumOut (blocksL startL bs (bs.length / 64)) (padL (bs.drop (64 * (bs.length / 64))) (padN (bs.drop (64 * (bs.length / 64))).length) bs.length)
theorem ofL_len (bs:List Int):(ofL bs).length=32:=outL_len _ _
theorem outL_byte (X:List Int) (k:Nat):ByteL (outL X k):=by
 intro x hx;simp only [outL,List.mem_map] at hx;obtain ⟨j,_,rfl⟩:=hx;unfold outAt
 omega
set_option maxHeartbeats 1600000 in
set_option maxRecDepth 100000 in
theorem of_any (bs:List Int) (v:Value) (w:World) (hb:ByAt w v bs) (hB:ByteL bs) (hv:∀ p,v.ownBlock=some p→p < w.heap.size) (hl:bs.length≤1000000000000) :
  Calls Tryz.prog 89 #[v] w fun e w'=>e=.returned (.agg ((ofL bs).map V8).toArray)∧Below w.heap.size w w':=by
 have hb0:=aBq w (.cells (Array.replicate 32 (.int .u8 0)) 133);have hr0:=hb.later hb0;have hR0:(w.alloc (.cells (Array.replicate 32 (.int .u8 0)) 133)).heap[w.heap.size]?=some (.cells (Array.replicate 32 (.int .u8 0)) 133 (0,0)):=heap_alloc_new _ _;have hsz0:=Lib.hid (World.size_alloc w (.cells (Array.replicate 32 (.int .u8 0)) 133));have HR0:=Lib.hid hR0;have HB:=Lib.hid hB;have HL:=Lib.hid hl;clear hb hR0 hB hl
 go_enter Tryz.func89,Tryz.ntmps89
 go_upto_region 1 with fail;change Code.wp _ _ _ _ (w.alloc (.cells (Array.replicate 32 (.int .u8 0)) 133));generalize w.alloc (.cells (Array.replicate 32 (.int .u8 0)) 133)=w0 at *;go_wp2_with fail
 refine (new_any _).mono ?_;rintro e w1 ⟨p,rfl,hp,hS1,hb1⟩;have hv1:v.ownBlock≠some p:=fun e=>by have:=hv p e;have:=hsz0.out;omega
 have hadd:=add_any startL [] bs 0 (.slice none 0 0) v p w0.heap.size w1 hS1 (World.ownsRow_nil _ _ _ _) (hr0.later hb1) HB.out hv1 hp hb1.size (by have:=HL.out;simp;omega) (by have:=HL.out;omega);go_wp2_with fail
 refine hadd.mono ?_;rintro e w2 ⟨rv,k,rfl,hk,hS2,hr2,hb2⟩;rw [List.nil_append] at hk hS2 hr2;rw [Int.zero_add] at hS2;have hlen:(bs.drop (64 * k)).length < 64:=by rw [List.length_drop];omega
 have hnow:=now_any (blocksL startL bs k) (bs.drop (64 * k)) bs.length rv p w2 hS2 hr2 (fun x hx=>HB.out x (List.mem_of_mem_drop hx)) hlen;clear hadd;go_wp2_with fail
 refine hnow.mono ?_;rintro e w3 ⟨rfl,hb3⟩;subst hk;have hE:(sumOut (blocksL startL bs (bs.length / 64)) (padL (bs.drop (64 * (bs.length / 64))) (padN (bs.drop (64 * (bs.length / 64))).length) bs.length))=ofL bs:=rfl;rw [hE];have hB3:Below w0.heap.size w0 w3:=(hb1.trans hb2).trans (hb3.mono (Nat.le_trans hb1.size hb2.size));have hR3:=(hB3.block w.heap.size (by rw [hsz0.out];omega)).trans HR0.out;have hOl:((ofL bs).map V8).toArray.size=32:=by simp [ofL_len]
 have hI9:(Tryz.prog.info? 133).map (·.size)=some ((ofL bs).map V8).toArray.size:=by rw [hOl];kernel_rfl
 have hcs:=all_oneCell_toArray (v8_cells (ofL bs));obtain ⟨C,hC⟩:∃ C,((ofL bs).map V8).toArray=C:=⟨_,rfl⟩;rw [hC] at hOl hI9 hcs ⊢;have HCC:=Lib.hid hC;clear hC hnow hE hS1 hS2 hr2
 rename_i hKK
 refine hKK _ _ ?_;refine wpList_store_row rfl 133 (.tmp 2) (.tmp 9) rfl w.heap.size C rfl rfl 133 _ hR3 hI9 (by rw [hOl];rfl) hcs ?_;have hg2:=setRow_heap w3 w.heap.size _ C _ _ hR3;have hb2:Below w.heap.size w (w3.setRow w.heap.size C):=below_setRow (hb0.trans (hB3.mono hb0.size)) (Nat.le_refl _) _;generalize w3.setRow w.heap.size C=w4 at *;show Exit.then _ _ Exit.normal _ _;simp only [Exit.then];refine (by assumption:∀ (a:Act) (w:World),Code.wp _ Code.ret _ a w→_) _ _ ?_;go_wp2;refine bodyPost_ret (results_cell_row rfl _ _ w.heap.size 133 C (0,0) (.array 32 5) rfl hg2 Tryz.underlying133 rfl hI9) rfl ?_;exact ⟨by rw [HCC.out],hb2⟩
def shortS (n x:Int):Int:=bits BinOp.or .u64 (IntKind.u64.wrap (n * 256)) x
def shortK (l:List Int):Nat→Int
 | 0=>0
 | k+1=>shortS (shortK l k) (l.getD k 0)
def shortL (bs:List Int):Int:=shortK (ofL bs) 8
set_option maxHeartbeats 1600000 in
set_option maxRecDepth 100000 in
theorem short_any (bs:List Int) (v:Value) (w:World) (hb:ByAt w v bs) (hB:ByteL bs) (hv:∀ p,v.ownBlock=some p→p < w.heap.size) (hl:bs.length≤1000000000000) :
  Calls Tryz.prog 61 #[v] w fun e w'=>e=.returned (.int .u64 (shortL bs))∧Below w.heap.size w w':=by
 have hof:=of_any bs v w hb hB hv hl;clear hb hB hv hl
 go_enter Tryz.func61,Tryz.ntmps61
 go_upto_region 2 with fail;go_wp2_with fail
 refine hof.mono ?_;rintro e w1 ⟨rfl,hb1⟩;have hbyte:Hid (ByteL (ofL bs)):=Lib.hid (outL_byte _ _);obtain ⟨F,hF⟩:∃ F,ofL bs=F:=⟨_,rfl⟩;have hFl:F.length=32:=by rw [← hF];exact ofL_len bs
 have HSH:Hid (shortL bs=shortK F 8):=Lib.hid (by unfold shortL;rw [hF]);rw [hF] at hbyte ⊢;have hOl:(F.map V8).toArray.size=32:=by simp [hFl]
 have hI9:(Tryz.prog.info? 133).map (·.size)=some (F.map V8).toArray.size:=by rw [hOl];kernel_rfl
 have hcs:=all_oneCell_toArray (v8_cells F)
 have hcell:∀ k,k < 32→(F.map V8).toArray[k]?=some (V8 (F.getD k 0)):=fun k hk=>by
  rw [List.getElem?_toArray,List.getElem?_map,List.getD_eq_getElem?_getD,List.getElem?_eq_getElem (by omega)];rfl
 have HC:=Lib.hid hcell;generalize (F.map V8).toArray=C at *;clear hof hF hcell
 rename_i hKK
 refine hKK _ _ ?_;refine Go.Great.wpList_allocTo rfl (some 4) rfl (.pointer (some ⟨w1.heap.size,0,none⟩)) (.cells (Array.replicate 32 (.int .u8 0)) 133) (by go_simp;rfl) ?_;refine wpList_store_row rfl 133 (.tmp 4) (.tmp 8) rfl w1.heap.size C rfl rfl 133 _ (heap_alloc_new _ _) hI9 (by rw [hOl];rfl) hcs ?_;have hg2:=setRow_heap (w1.alloc (.cells (Array.replicate 32 (.int .u8 0)) 133)) w1.heap.size _ C _ _ (heap_alloc_new _ _);have hb2:Below w.heap.size w ((w1.alloc (.cells (Array.replicate 32 (.int .u8 0)) 133)).setRow w1.heap.size C):=below_setRow (hb1.alloc hb1.size _) hb1.size _;generalize (w1.alloc (.cells (Array.replicate 32 (.int .u8 0)) 133)).setRow w1.heap.size C=w4 at *;show Exit.then _ _ Exit.normal _ _;simp only [Exit.then];have hc4:Hid (∀ k,k < 32→w4.cell? ⟨w1.heap.size,k,none⟩=some (V8 (F.getD k 0))):=Lib.hid (fun k hk=>by rw [cell_row hg2];exact HC.out k hk);clear hg2 hI9 hcs hOl HC;go_wp2
 go_loopw [11,3] (fun i n wr=>∃ k:Nat,k≤8∧i=.int .i64 k∧n=.int .u64 (shortK F k)∧wr=w4) (fun i _ _=>8 - (intOf i).toNat)
 case atStart=>exact ⟨0,Nat.zero_le _,rfl,rfl,rfl⟩
 case round =>
  obtain ⟨k,hk,rfl,rfl,rfl⟩:=hrel
  by_cases hkl:k < 8
  ·have hI:(k:Int) < 8:=by omega
   have g:=hc4.out k (by omega);obtain ⟨x,hx⟩:∃ x,F.getD k 0=x:=⟨_,rfl⟩
   have hxb:0≤x∧x < 256:=by
    rw [← hx,List.getD_eq_getElem?_getD,List.getElem?_eq_getElem (by omega)];exact hbyte.out _ (List.getElem_mem _)
   have q1:IntKind.u64.wrap x=x:=by simp [IntKind.wrap,IntKind.bits,IntKind.signed];omega
   rw [hx] at g;have HX:=Lib.hid hx;clear hx;go_wp2;go_roundw
   case rel=>exact ⟨k+1,by omega,by go_num,by rw [shortK,HX.out];rfl,trivial⟩
   case measure=>(simp [intOf];try omega)
  ·obtain rfl:k=8:=by omega
   rw [show ((8:Nat):Int)=8 from rfl];go_wp2;go_ret;exact ⟨by rw [HSH.out];rfl,hb2⟩
def fldB (f:Fld):List Int:=byL f.1 ++ [61] ++ byL f.2 ++ [0]
def idB (src:ByteArray) (fl:List Fld):List Int:=byL src ++ [0] ++ fl.flatMap fldB
theorem idB_take {fl:List Fld} {k:Nat} (src:ByteArray) (h:k < fl.length):idB src (fl.take (k+1))=idB src (fl.take k) ++ fldB fl[k]:=by
 unfold idB;rw [List.take_succ_eq_append_getElem h,List.flatMap_append];simp
theorem idB_le (src:ByteArray) (fl:List Fld) (k:Nat):(idB src (fl.take k)).length≤(idB src fl).length:=by
 have:idB src fl=idB src (fl.take k) ++ (fl.drop k).flatMap fldB:=by
  unfold idB;rw [List.append_assoc _ _ ((fl.drop k).flatMap fldB),← List.flatMap_append,List.take_append_drop]
 rw [this,List.length_append];omega
theorem idB_byte (src:ByteArray) (fl:List Fld):ByteL (idB src fl):=by
 intro x hx;simp only [idB,List.mem_append,List.mem_flatMap,fldB] at hx
 rcases hx with (h | h) | ⟨f,_,((h | h) | h) | h⟩
 ·exact byL_byte src x h
 ·obtain rfl:=List.mem_singleton.1 h;omega
 ·exact byL_byte f.1 x h
 ·obtain rfl:=List.mem_singleton.1 h;omega
 ·exact byL_byte f.2 x h
 ·obtain rfl:=List.mem_singleton.1 h;omega
theorem wpList_append_cv {w W:World} {ops:Array Oper} {rest:List Oper} {o:Oper} {a:Act} {Q:Exit→Act→World→Prop} (hgd:o.guard=none) (s x:Operand)
  (ho:o.op=.call { callee:=.builtin .append,args:=#[s,x],argTypes:=#[100,100] }) (i0:TypeInfo)
  (hi:Tryz.prog.info? 5=some i0) (hz0:i0.zero=some (.int .u8 0)) (hz1:i0.size=1) (hz2:i0.bytes=1)
  (str:ByteArray) (hs:a.eval s=.slice (some ⟨w.heap.size,0,none⟩) str.size (cvC w str)) (hw:Below (cvW w str).heap.size (cvW w str) W) (hl:str.size≤4000000)
  (u:Value) (c:Int) (hx:a.eval x=u) (hu:RdAt W u 1 1 [V8 c])
  (h:∀ a' c' w',ByAt w' (.slice (some a') (str.size+1) c') (byL str ++ [c])→Below w.heap.size w w'→a'.block < w'.heap.size→wpList Tryz.prog ops Q rest (a.put o.dst (.slice (some a') (str.size+1) c')) w'):wpList Tryz.prog ops Q (o :: rest) a W:=by
 refine wpList_plain hgd fun K hK=>?_;obtain ⟨a',c',w',hr,h2,h3,h4,_⟩:=run_append_cv w W str hw hl c u hu o.type i0 hi hz0 hz1 hz2;unfold Oper.wp execOp;simp only [ho,resolve,invoke,builtin,Sem.run_bind,Sem.run_pure,Result.andThen_ok,List.map_toArray,List.map_cons,List.map_nil,hs,hx,hr];exact hK _ _ (h a' c' w' h2 h3 h4)
theorem own_ltA {a:Addr} {n c m:Nat} (h:a.block < m):∀ p,(Value.slice (some a) n c).ownBlock=some p→p < m:=by
 intro p hp
 have:a.block=p:=by simpa [Value.ownBlock] using hp
 rw [← this];exact h
theorem by_one (w:World) (x:Int):ByAt (w.alloc (.cells #[V8 x] 5)) (.slice (some ⟨w.heap.size,0,none⟩) 1 1) [x]:=rd_one8 w (V8 x) 5
theorem pieces_at (w:World) (v:Value) (bs:List Int) (hv:ByAt w v bs) (n u:ByteArray) :
  SlsAt ((((((cvW w n).alloc (.cells #[V8 61] 5))) |> fun w2=>((cvW w2 u).alloc (.cells #[V8 0] 5)) |> fun w4=>w4.alloc (.cells #[v,.slice (some ⟨w.heap.size,0,none⟩) n.size (cvC w n),.slice (some ⟨(cvW w n).heap.size,0,none⟩) 1 1,.slice (some ⟨w2.heap.size,0,none⟩) u.size (cvC w2 u),.slice (some ⟨(cvW w2 u).heap.size,0,none⟩) 1 1] 100))))
   ⟨((cvW ((cvW w n).alloc (.cells #[V8 61] 5)) u).alloc (.cells #[V8 0] 5)).heap.size,0,none⟩
   [(v,bs),(.slice (some ⟨w.heap.size,0,none⟩) n.size (cvC w n),byL n),(.slice (some ⟨(cvW w n).heap.size,0,none⟩) 1 1,[61]),(.slice (some ⟨((cvW w n).alloc (.cells #[V8 61] 5)).heap.size,0,none⟩) u.size (cvC ((cvW w n).alloc (.cells #[V8 61] 5)) u),byL u),(.slice (some ⟨(cvW ((cvW w n).alloc (.cells #[V8 61] 5)) u).heap.size,0,none⟩) 1 1,[0])]:=by
 dsimp only
 have b1:=cv_below w n;have b2:=aBq (cvW w n) (.cells #[V8 61] 5);have r1:=cv_at w n;have r2:=by_one (cvW w n) 61;have s1:=cv_size w n;have s2:((cvW w n).alloc (.cells #[V8 61] 5)).heap.size=(cvW w n).heap.size+1:=World.size_alloc _ _;generalize (cvW w n).alloc (.cells #[V8 61] 5)=w2 at *;have b3:=cv_below w2 u;have b4:=aBq (cvW w2 u) (.cells #[V8 0] 5);have r3:=cv_at w2 u;have r4:=by_one (cvW w2 u) 0;have s3:=cv_size w2 u;have s4:((cvW w2 u).alloc (.cells #[V8 0] 5)).heap.size=(cvW w2 u).heap.size+1:=World.size_alloc _ _;generalize (cvW w2 u).alloc (.cells #[V8 0] 5)=w4 at *;generalize hQ:(#[v,.slice (some ⟨w.heap.size,0,none⟩) n.size (cvC w n),.slice (some ⟨(cvW w n).heap.size,0,none⟩) 1 1,.slice (some ⟨w2.heap.size,0,none⟩) u.size (cvC w2 u),.slice (some ⟨(cvW w2 u).heap.size,0,none⟩) 1 1]:Array Value)=Q;have b5:=aBq w4 (.cells Q 100);have hsz:w4.heap.size < (w4.alloc (.cells Q 100)).heap.size:=by rw [World.size_alloc];omega
 have hcell:∀ j,(w4.alloc (.cells Q 100)).cell? ⟨w4.heap.size,0+j,none⟩=Q[j]?:=fun j=>by rw [Nat.zero_add];exact World.cell?_alloc_at _ _ _ _ rfl
 have b24:=b3.trans (b4.mono (by omega));have b25:=b24.trans (b5.mono (by omega));have b12:=b1.trans (b2.mono (by omega));have e0:ByAt (w4.alloc (.cells Q 100)) v bs:=hv.later (b12.trans (b25.mono (by omega)));have e1:=(r1.later b2).later b25;have e2:=r2.later b25;have e3:=(r3.later b4).later b5;have e4:=r4.later b5;refine ⟨w4.heap.size,0,rfl,hsz,fun j hj=>?_⟩
 match j,hj with
 | 0,_=>exact ⟨by rw [hcell,← hQ];rfl,e0⟩
 | 1,_=>exact ⟨by rw [hcell,← hQ];rfl,e1⟩
 | 2,_=>exact ⟨by rw [hcell,← hQ];rfl,e2⟩
 | 3,_=>exact ⟨by rw [hcell,← hQ];rfl,e3⟩
 | 4,_=>exact ⟨by rw [hcell,← hQ];rfl,e4⟩
set_option maxHeartbeats 1600000 in
set_option maxRecDepth 100000 in
theorem id_any (src:ByteArray) (fl:List Fld) (lv:Int) (c:Nat) (fr til:Int) (v:Value) (w:World) (hv:FldsAt w v fl) (hl:(idB src fl).length≤4000000) :
  Calls Tryz.prog 28 #[.agg #[.string src,v,.int .i64 lv,.int .u32 c,.int .i64 fr,.int .i64 til]] w fun e w'=>e=.returned (.int .u64 (shortL (idB src fl)))∧Below w.heap.size w w':=by
 obtain ⟨fa,fc,rfl,hfc,hfr⟩:=RdAt.shape hv;obtain ⟨i0,hi,hz0,hz1,hz2⟩:=info_parts info_u8;have HF:=Lib.hid hfr;clear hfr hv;have hsl:src.size≤4000000:=by have:=idB_le src fl 0;simp [idB,byL_len] at this hl;omega
 have hfl:fl.length≤4000000:=by
  have:fl.length≤(fl.flatMap fldB).length:=by
   clear hl HF hfc
   induction fl with
   | nil=>simp
   | cons f l ih=>simp only [List.flatMap_cons,List.length_append,fldB,List.length_cons,List.length_nil];omega
  unfold idB at hl;rw [List.length_append] at hl
  omega
 have kc:=fun W=>cv_run W src;have HL:=Lib.hid hl;clear hl
 go_enter Tryz.func28,Tryz.ntmps28
 go_upto_region 1 with fail;have hbx:=aBq w (.cells #[.string src,.slice fa fl.length fc,.int .i64 lv,.int .u32 c,.int .i64 fr,.int .i64 til] 54);have hbox:=box6 (Below.refl (w.alloc (.cells #[.string src,.slice fa fl.length fc,.int .i64 lv,.int .u32 c,.int .i64 fr,.int .i64 til] 54)).heap.size _);obtain ⟨⟨x0,x1,x2,x3,x4,x5⟩,hlt0,_⟩:=hbox;generalize w.alloc (.cells #[.string src,.slice fa fl.length fc,.int .i64 lv,.int .u32 c,.int .i64 fr,.int .i64 til] 54)=w0 at *;have hlt:=Lib.hid hlt0;clear hlt0;have hcb:=(cv_below w0 src);have hal:=aBq (cvW w0 src) (.cells #[V8 0] 5);have hrd:=rd_one8 (cvW w0 src) (V8 0) 5;go_wp2_with (at_builtin;(refine wpList_append_cv (w:=w0) rfl (.tmp 8) (.tmp 9) rfl i0 hi hz0 hz1 hz2 src rfl hal hsl _ 0 rfl hrd ?_);intro a1 c1 w1 hby1 hb1 hlt1;have hX1:=kCq x1 hb1 hlt.out)
 have hB1:=hbx.trans (hb1.mono (Nat.le_of_lt hlt.out));have hby1':=Lib.hid hby1;have hlt1':=Lib.hid hlt1;clear x0 x1 x2 x3 x4 x5 hcb hal hrd hby1 hlt1 hb1 hbx;have HL2:=HL.out;have hN0:Hid (src.size+1=(idB src (fl.take 0)).length):=Lib.hid (by simp [idB,byL_len]);have hby2:Hid (ByAt w1 (.slice (some a1) (src.size+1) c1) (idB src (fl.take 0))):=Lib.hid (by have:=hby1'.out;simpa [idB] using this);have hown2:=Lib.hid (own_ltA (n:=src.size+1) (c:=c1) hlt1'.out);clear hby1' HL2 hlt1';generalize hnn:src.size+1=nn at *;clear hnn;have hB1':=Lib.hid hB1;clear hB1 hX1
 go_loopw [3,14] (fun s i wr=>∃ (k n c':Nat) (a':Option Addr),k≤fl.length∧i=.int .i64 k∧s=.slice a' n c'∧Hid (n=(idB src (fl.take k)).length)∧Hid (ByAt wr (.slice a' n c') (idB src (fl.take k)))∧Hid (∀ p,(Value.slice a' n c').ownBlock=some p→p < wr.heap.size)∧Hid (Below w.heap.size w wr)) (fun _ i _=>fl.length - (intOf i).toNat)
 case atStart=>exact ⟨0,nn,c1,some a1,Nat.zero_le _,rfl,rfl,hN0,hby2,hown2,hB1'⟩
 case round =>
  clear hN0 hby2 hown2 hB1';obtain ⟨k,n,c',a',hk,rfl,rfl,HN,HB,HO,Hb⟩:=hrel
  by_cases hkl:k < fl.length
  ·obtain ⟨b,o,rfl,hb,hcell⟩:=HF.out (by omega)
   obtain ⟨x,hxe⟩:∃ x,fl[k].1=x:=⟨_,rfl⟩;obtain ⟨y,hye⟩:∃ y,fl[k].2=y:=⟨_,rfl⟩;obtain ⟨hx0,hy0⟩:=fldCells_at fl k hkl;rw [hxe] at hx0;rw [hye] at hy0;have hcx:wr.cell? ⟨b,o+k * 2,none⟩=some (.string x):=kCq (hcell _ _ hx0) Hb.out hb;have hcy:wr.cell? ⟨b,o+k * 2+1,none⟩=some (.string y):=kCq (hcell _ _ hy0) Hb.out hb;have hE:Hid (fldB fl[k]=byL x ++ [61] ++ byL y ++ [0]):=Lib.hid (by unfold fldB;rw [hxe,hye]);have kcx:=fun W=>cv_run W x;have kcy:=fun W=>cv_run W y;clear hcell hxe hye hx0 hy0;go_upto_region 5 with fail;have hbx:=box2 (Below.refl (wr.alloc (.cells #[.string x,.string y] 90)).heap.size _);obtain ⟨y0,y1,hlw,hbw⟩:=hbx;have HBa:ByAt (wr.alloc (.cells #[.string x,.string y] 90)) (.slice a' n c') (idB src (fl.take k)):=HB.out.later hbw;change Code.wp _ _ _ _ (wr.alloc (.cells #[.string x,.string y] 90));generalize wr.alloc (.cells #[.string x,.string y] 90)=wa at *;have b1:=(cv_below wa x).trans ((aBq (cvW wa x) (.cells #[V8 61] 5)).mono (by rw [cv_size];omega));have y1':=kCq y1 b1 hlw;have hps:=pieces_at wa _ _ HBa x y;dsimp only at hps
   have hE2:sumL [((Value.slice a' n c'),idB src (fl.take k)),(.slice (some ⟨wa.heap.size,0,none⟩) x.size (cvC wa x),byL x),(.slice (some ⟨(cvW wa x).heap.size,0,none⟩) 1 1,[61]),(.slice (some ⟨((cvW wa x).alloc (.cells #[V8 61] 5)).heap.size,0,none⟩) y.size (cvC ((cvW wa x).alloc (.cells #[V8 61] 5)) y),byL y),(.slice (some ⟨(cvW ((cvW wa x).alloc (.cells #[V8 61] 5)) y).heap.size,0,none⟩) 1 1,[0])]=idB src (fl.take (k+1)):=by
    rw [idB_take src hkl,hE.out];simp only [sumL,List.flatMap_cons,List.flatMap_nil,List.append_nil,List.append_assoc]
   have hlen:=idB_le src fl (k+1);have hpos:0 < (idB src (fl.take (k+1))).length:=by unfold idB;simp only [List.length_append,List.length_cons];omega
   have hcc:=concat_any _ _ 5 _ hps (by rw [hE2];exact hpos) (by rw [hE2];have:=HL.out;omega) (by simp);rw [hE2] at hcc;have kcx1:=cv_run wa x;have kcy1:=cv_run ((cvW wa x).alloc (.cells #[V8 61] 5)) y;have hsz:=cv_below wa x;clear hps hE2 HBa hpos b1 y1 hlen hlw HN HB HO HF hE hb kcx kcy;generalize hwb:cvW wa x=wb at *;generalize hwd:cvW (wb.alloc (.cells #[V8 61] 5)) y=wd at *;generalize cvC wa x=cx at *;generalize cvC (wb.alloc (.cells #[V8 61] 5)) y=cy at *;simp only [World.size_alloc] at hcc kcy1;have HCC:=Lib.hid hcc;have HY:=Lib.hid hbw;have HWB:=Lib.hid hwb;have HWD:=Lib.hid hwd;clear hcc hbw hwb hwd hsz;go_wp2_with fail
   refine HCC.out.mono ?_;rintro e w2 ⟨v2,rfl,hown,hb2⟩;have q1:Below wa.heap.size wa wb:=by rw [← HWB.out];exact cv_below wa x
   have q2:=aBq wb (.cells #[V8 61] 5);have q3:Below (wb.alloc (.cells #[V8 61] 5)).heap.size (wb.alloc (.cells #[V8 61] 5)) wd:=by rw [← HWD.out];exact cv_below _ y
   have q4:=aBq wd (.cells #[V8 0] 5);have q5:=((q1.trans (q2.mono q1.size)).trans (q3.mono (by have:=q1.size;have:=q2.size;omega))).trans (q4.mono (by have:=q1.size;have:=q2.size;have:=q3.size;omega));have q6:=q5.trans ((aBq _ (.cells #[.slice a' n c',.slice (some ⟨wa.heap.size,0,none⟩) x.size cx,.slice (some ⟨wb.heap.size,0,none⟩) 1 1,.slice (some ⟨wb.heap.size+1,0,none⟩) y.size cy,.slice (some ⟨wd.heap.size,0,none⟩) 1 1] 100)).mono q5.size);have q6s:=q6.size;simp only [World.size_alloc] at q6s;have q7:=HY.out.trans ((q6.trans (hb2.mono q6s)).mono HY.out.size);have hB2:=Hb.out.trans (q7.mono Hb.out.size);obtain ⟨a2,c2,rfl,_,_⟩:=RdAt.shape (RdAt.own hown);have hO2:∀ p,(Value.slice a2 (idB src (fl.take (k+1))).length c2).ownBlock=some p→p < w2.heap.size:=fun p hp=>(hown.lt p hp).2;have hBy:ByAt w2 (.slice a2 (idB src (fl.take (k+1))).length c2) (idB src (fl.take (k+1))):=RdAt.own hown;have HO2:=Lib.hid hO2;have HBy:=Lib.hid hBy;have HB2:=Lib.hid hB2;obtain ⟨nx,hnx⟩:∃ z,(idB src (fl.take (k+1))).length=z:=⟨_,rfl⟩;rw [hnx] at HO2 HBy;have HNX:=Lib.hid hnx;clear q1 q2 q3 q4 q5 q6 q6s q7 hown hb2 hO2 hBy hB2 HCC HY HWB HWD kcx1 kcy1 y0 y1' hcx hcy Hb
   try rw [hnx]
   clear hnx;go_wp2;go_roundw
   case rel=>exact ⟨k+1,nx,c2,a2,by omega,by go_num,rfl,Lib.hid HNX.out.symm,HBy,HO2,HB2⟩
   case measure=>(simp [intOf];try omega)
  ·obtain rfl:k=fl.length:=by omega
   have hbs:ByAt wr (.slice a' n c') (idB src fl):=by have:=HB.out;rwa [List.take_length] at this
   have hn:n=(idB src fl).length:=by have:=HN.out;rwa [List.take_length] at this
   subst hn;have hsh:=short_any (idB src fl) (.slice a' (idB src fl).length c') wr hbs (idB_byte src fl) HO.out (by have:=HL.out;omega);have HSH:=Lib.hid hsh;clear hsh hbs HB HN HO;go_wp2_with fail
   refine HSH.out.mono ?_;rintro e w2 ⟨rfl,hb2⟩;have hB2:=Hb.out.trans (hb2.mono Hb.out.size);go_wp2;go_ret;exact ⟨rfl,hB2⟩
open Go.Maps
theorem nameL_len {s:ByteArray} (h:nameL (B s)=true):s.size≤12:=by
 unfold nameL at h;simp only [Bool.and_eq_true,decide_eq_true_eq] at h
 have:=h.1.1.2
 rwa [len_B] at this
theorem rightF_at {l:List Fld} (h:rightF l=true):l.length≤8∧∀ j (hj:j < l.length),nameL (B l[j].1)=true∧l[j].2.size≤200:=by
 unfold rightF at h;simp only [Bool.and_eq_true,decide_eq_true_eq,List.all_eq_true,List.mem_range] at h;refine ⟨h.1,fun j hj=>?_⟩
 have:=h.2 j hj
 unfold fldOk at this;simp only [Bool.and_eq_true,decide_eq_true_eq] at this;have e:l.getD j default=l[j]:=by rw [List.getD_eq_getElem?_getD,List.getElem?_eq_getElem hj];rfl
 rw [e] at this;exact ⟨this.1.1,this.1.2⟩
theorem flat_le (l:List Fld) (h:∀ f∈l,f.1.size≤12∧f.2.size≤200):(l.flatMap fldB).length≤l.length * 214:=by
 induction l with
 | nil=>simp
 | cons f l ih =>
  have h1:=ih (fun g hg=>h g (List.mem_cons_of_mem _ hg));obtain ⟨h2,h3⟩:=h f List.mem_cons_self;rw [List.flatMap_cons,List.length_append,List.length_cons]
  have:(fldB f).length=f.1.size+1+f.2.size+1:=by simp [fldB,byL_len];omega
  omega
theorem whoA_iff {src:ByteArray} {fl:List Fld} {lv:Int}:whoA src fl lv=true↔nameL (B src)=true∧0 < fl.length∧rightF fl=true∧rightL lv=true:=by
 unfold whoA;simp only [Bool.and_eq_true,decide_eq_true_eq,and_assoc]
theorem idB_bound {src:ByteArray} {fl:List Fld} {lv:Int} (h:whoA src fl lv=true):(idB src fl).length≤4000000:=by
 obtain ⟨h1,_,h3,_⟩:=whoA_iff.1 h;have h4:=nameL_len h1;obtain ⟨h5,h6⟩:=rightF_at h3
 have h7:=flat_le fl (fun f hf=>by
  obtain ⟨j,hj,rfl⟩:=List.getElem_of_mem hf;obtain ⟨a,b⟩:=h6 j hj;exact ⟨nameL_len a,b⟩)
 unfold idB;simp only [List.length_append,byL_len,List.length_cons,List.length_nil]
 omega
theorem rightA_who {x:Al} (h:rightA x=true):whoA x.src x.fl x.lv=true:=by
 unfold rightA at h;simp only [Bool.and_eq_true] at h;exact h.1.1
def idA (x:Al):Int:=shortL (idB x.src x.fl)
end Go.Proofs.YtipnhpfpppblhaaGreat
