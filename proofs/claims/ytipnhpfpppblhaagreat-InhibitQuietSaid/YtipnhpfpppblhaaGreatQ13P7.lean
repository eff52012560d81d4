/- What several claims of this seat share: contracts of the functions that they reach. -/
import Derived.Test.YtipnhpfpppblhaaGreatQ13P6
import Derived.Lib.Walk
import Derived.Maps.AppendAt
import Derived.Deep.LoopGhost
import Derived.Lib.Hide

namespace Go.Proofs.YtipnhpfpppblhaaGreat
open Go.RowKit Go.Maps
structure TB3 (w:World) (v0 v1 v2 v3 v4 v5 x0 x1 x2 x3 x4 x5:Value) (tl:Int) (tc:Nat) (W:World):Prop where
 p:C6 w.heap.size v0 v1 v2 v3 v4 v5 W
 x:C6 (w.heap.size+1) x0 x1 x2 x3 x4 x5 W
 t0:W.cell? ⟨w.heap.size+1+1,0,none⟩=some (.int .i64 tl)
 t1:W.cell? ⟨w.heap.size+1+1,1,none⟩=some (.int .u32 tc)
 ge:w.heap.size+1+1 < W.heap.size
 below:Below w.heap.size w W
theorem TB3.later {w W W':World} {v0 v1 v2 v3 v4 v5 x0 x1 x2 x3 x4 x5:Value} {tl:Int} {tc:Nat} (h:TB3 w v0 v1 v2 v3 v4 v5 x0 x1 x2 x3 x4 x5 tl tc W) (hb:Below W.heap.size W W'):TB3 w v0 v1 v2 v3 v4 v5 x0 x1 x2 x3 x4 x5 tl tc W':=by
 have h1:=h.ge;exact ⟨h.p.later hb (by omega),h.x.later hb (by omega),kCq h.t0 hb h1,kCq h.t1 hb h1,Nat.lt_of_lt_of_le h1 hb.size,h.below.trans (hb.mono h.below.size)⟩
theorem tb3_new (w:World) (v0 v1 v2 v3 v4 v5 x0 x1 x2 x3 x4 x5:Value) (tl:Int) (tc:Nat) (s t r:TypeId) (W:World) (h:((w.alloc (.cells #[v0,v1,v2,v3,v4,v5] s)).alloc (.cells #[x0,x1,x2,x3,x4,x5] t)).alloc (.cells #[.int .i64 tl,.int .u32 tc] r)=W):TB3 w v0 v1 v2 v3 v4 v5 x0 x1 x2 x3 x4 x5 tl tc W:=by
 subst h;obtain ⟨W1,h1⟩:∃ z,w.alloc (.cells #[v0,v1,v2,v3,v4,v5] s)=z:=⟨_,rfl⟩;obtain ⟨W2,h2⟩:∃ z,W1.alloc (.cells #[x0,x1,x2,x3,x4,x5] t)=z:=⟨_,rfl⟩;obtain ⟨W3,h3⟩:∃ z,W2.alloc (.cells #[.int .i64 tl,.int .u32 tc] r)=z:=⟨_,rfl⟩;rw [h1,h2,h3];have s1:W1.heap.size=w.heap.size+1:=by rw [← h1,World.size_alloc]
 have s2:W2.heap.size=w.heap.size+1+1:=by rw [← h2,World.size_alloc,s1]
 have s3:W3.heap.size=w.heap.size+1+1+1:=by rw [← h3,World.size_alloc,s2]
 have b1:Below w.heap.size w W1:=by rw [← h1];exact aBq _ _
 have b2:Below W1.heap.size W1 W2:=by rw [← h2];exact aBq _ _
 have b3:Below W2.heap.size W2 W3:=by rw [← h3];exact aBq _ _
 have c13:Below W1.heap.size W1 W3:=b2.trans (b3.mono b2.size);have g1:C6 w.heap.size v0 v1 v2 v3 v4 v5 W1:=by rw [← h1];exact box6n w _ _ _ _ _ _ _
 have g2:C6 (w.heap.size+1) x0 x1 x2 x3 x4 x5 W2:=by rw [← h2,← s1];exact box6n W1 _ _ _ _ _ _ _
 have g3:W3.cell? ⟨W2.heap.size,0,none⟩=some (.int .i64 tl):=by rw [← h3];exact World.cell?_alloc_at _ _ _ _ rfl
 have g4:W3.cell? ⟨W2.heap.size,1,none⟩=some (.int .u32 tc):=by rw [← h3];exact World.cell?_alloc_at _ _ _ _ rfl
 rw [s2] at g3 g4;exact ⟨g1.later c13 (by omega),g2.later b3 (by omega),g3,g4,by omega,b1.trans (c13.mono b1.size)⟩
noncomputable def toldC (p:PD) (t:Int × Nat) (now:Int) (q:Al × Value):Bool:=toldA p.ra t now q&&decide (checkP p=0)
set_option maxHeartbeats 3200000 in
set_option maxRecDepth 100000 in
theorem rtold_any (v:PV) (p:PD) (x:Al) (fv:Value) (tl:Int) (tc:Nat) (now:Int) (w:World) (hp:PolAt w v p) (hpf:PolFitD p) (hf:FldsAt w fv x.fl) (hfit:AlFit x) (h12:x.fl.length≤12) (htc:tc < 4294967296) :
  Calls Tryz.prog 33 #[v.v,AlV x fv,Lab tl tc,.int .i64 now] w fun e w'=>e=.returned (.bool (toldC p (tl,tc) now (x,fv)))∧Below w.heap.size w w':=by
 have kk:=fun W (h:Below w.heap.size w W)=>check8_any v p W (hp.later h) hpf;obtain ⟨v0,v1,v2,v3,v4,v5⟩:=v;obtain ⟨h0,h1,h2,h3,⟨h4,_⟩,h5,_⟩:=hp;dsimp only at h0 h1 h2 h3 h4 h5 kk;obtain ⟨a0,c0,rfl,_,_⟩:=RdAt.shape h0;obtain ⟨a1,c1,rfl,_,_⟩:=RdAt.shape h1;obtain ⟨a2,c2,rfl,_,_⟩:=RdAt.shape h2;obtain ⟨a3,c3,rfl,_,_⟩:=RdAt.shape h3;obtain ⟨a4,c4,rfl,_,_⟩:=RdAt.shape h4;obtain ⟨a5,c5,rfl,_,_⟩:=RdAt.shape h5;have HR:Hid (toldC p (tl,tc) now (x,fv)=(cutOk p.ra x.fl (x.lv,x.c) (tl,tc)&&rightA x&&firesA x now&&decide (checkP p=0))):=Lib.hid rfl;generalize toldC p (tl,tc) now (x,fv)=RES at *;obtain ⟨fa,fc,rfl,_,_⟩:=RdAt.shape hf;obtain ⟨m,hm⟩:∃ m,cutAl p.ra x (tl,tc)=m:=⟨_,rfl⟩;obtain ⟨ok,hok⟩:∃ z,cutOk p.ra x.fl (x.lv,x.c) (tl,tc)=z:=⟨_,rfl⟩;rw [hok] at HR;have kc:=fun W (h:Below w.heap.size w W)=>rcut_l (a0,p.so.length,c0) (a1,p.re.length,c1) (a2,p.pe.length,c2) (a4,p.ro.length,c4) (a5,p.ih.length,c5) p.ra (.slice a3 p.ra.length c3) x (.slice fa x.fl.length fc) (tl,tc) m ok W (h3.later h) hpf.h3.1 (hf.later h) (by omega) hpf.h3.2.1 hfit.c htc hok hm;dsimp only [SV] at kc;obtain ⟨us,uL,ql,qc,uf,ut⟩:=m;have KC:=Lib.hid kc;have KK:=Lib.hid kk;obtain ⟨src,fl,lv,c,fr,til⟩:=x;dsimp only at *;have KR:=Lib.hid (fun W (h:Below w.heap.size w W)=>r9right_any src fl lv c fr til _ W hfit.src (hf.later h) hfit.fl hfit.len);have hR:rightA ⟨src,fl,lv,c,fr,til⟩=(whoA src fl lv&&beginsA fr&&endsA fr til):=rfl;rw [← hR] at KR;have KF:=Lib.hid (fun W=>r9fires_any src fa fl.length fc lv c fr til now W);have hF:firesA ⟨src,fl,lv,c,fr,til⟩ now=(decide (fr≤now)&&(decide (til=0) || decide (now < til))):=rfl;rw [← hF] at KF;generalize rightA ⟨src,fl,lv,c,fr,til⟩=R at *;generalize firesA ⟨src,fl,lv,c,fr,til⟩ now=F at *;obtain ⟨W0,hW0⟩:∃ z,((w.alloc (.cells #[.slice a0 p.so.length c0,.slice a1 p.re.length c1,.slice a2 p.pe.length c2,.slice a3 p.ra.length c3,.slice a4 p.ro.length c4,.slice a5 p.ih.length c5] 26)).alloc (.cells #[.string src,.slice fa fl.length fc,.int .i64 lv,.int .u32 c,.int .i64 fr,.int .i64 til] 58)).alloc (.cells #[.int .i64 tl,.int .u32 tc] 36)=z:=⟨_,rfl⟩;have HS0:=Lib.hid (tb3_new w _ _ _ _ _ _ _ _ _ _ _ _ _ _ _ _ _ W0 hW0);have HW0:=Lib.hid hW0;clear h0 h1 h2 h3 h4 h5 hf hfit hpf hR hF hm hok hW0 kc kk h12
 go_enter Tryz.func33,Tryz.ntmps33
 go_upto_region 1 with fail;rw [HW0.out];clear HW0;obtain ⟨q0,q1,q2,q3,q4,q5⟩:=HS0.out.p;obtain ⟨x0,x1,x2,x3,x4,x5⟩:=HS0.out.x;have t0:=HS0.out.t0;have t1:=HS0.out.t1;have kc:=KC.out W0 HS0.out.below;go_wp2_with fail
 refine kc.mono ?_;rintro e w1 ⟨ua,ud,rfl,_,_,hb1⟩;have hb2:=aBq w1 (.cells #[.string us,.slice ua uL.length ud,.int .i64 ql,.int .u32 qc,.int .i64 uf,.int .i64 ut] 58);have HS2:=Lib.hid ((HS0.out.later hb1).later hb2);clear kc hb1 hb2 q0 q1 q2 q3 q4 q5 x0 x1 x2 x3 x4 x5 t0 t1 HS0;go_upto_region 2 with fail;change Code.wp _ _ _ _ (w1.alloc (.cells #[.string us,.slice ua uL.length ud,.int .i64 ql,.int .u32 qc,.int .i64 uf,.int .i64 ut] 58));generalize w1.alloc (.cells #[.string us,.slice ua uL.length ud,.int .i64 ql,.int .u32 qc,.int .i64 uf,.int .i64 ut] 58)=w2 at *
 cases ok
 ·have HN:Hid (RES=false):=Lib.hid (by rw [HR.out];rfl)
  go_wp2;go_ret;exact ⟨by rw [HN.out];rfl,HS2.out.below⟩
 obtain ⟨x0,x1,x2,x3,x4,x5⟩:=HS2.out.x;have kr:=KR.out w2 HS2.out.below
 cases R
 ·have HN:Hid (RES=false):=Lib.hid (by rw [HR.out];rfl)
  go_wp2_with fail
  refine kr.mono ?_;rintro e w3 ⟨rfl,hb3⟩;have HS3:=Lib.hid (HS2.out.later hb3);clear kr hb3 x0 x1 x2 x3 x4 x5;go_wp2;go_ret;exact ⟨by rw [HN.out];rfl,HS3.out.below⟩
 go_wp2_with fail
 refine kr.mono ?_;rintro e w3 ⟨rfl,hb3⟩;have HS3:=Lib.hid (HS2.out.later hb3);clear kr hb3 x0 x1 x2 x3 x4 x5 HS2;obtain ⟨x0,x1,x2,x3,x4,x5⟩:=HS3.out.x;have kf:=KF.out w3
 cases F
 ·have HN:Hid (RES=false):=Lib.hid (by rw [HR.out];rfl)
  go_wp2_with fail
  refine kf.mono ?_;rintro e w4 ⟨rfl,hb4⟩;have HS4:=Lib.hid (HS3.out.later hb4);clear kf hb4 x0 x1 x2 x3 x4 x5;go_wp2;go_ret;exact ⟨by rw [HN.out];rfl,HS4.out.below⟩
 go_wp2_with fail
 refine kf.mono ?_;rintro e w4 ⟨rfl,hb4⟩;have HS4:=Lib.hid (HS3.out.later hb4);clear kf hb4 x0 x1 x2 x3 x4 x5 HS3;obtain ⟨q0,q1,q2,q3,q4,q5⟩:=HS4.out.p;have kk:=KK.out w4 HS4.out.below;have HN:Hid (RES=decide (checkP p=0)):=Lib.hid (by rw [HR.out];simp);generalize checkP p=ck at *;go_wp2_with fail
 refine kk.mono ?_;rintro e w5 ⟨rfl,hb5⟩;have HS5:=Lib.hid (HS4.out.later hb5);clear kk hb5 q0 q1 q2 q3 q4 q5;go_wp2;go_ret;exact ⟨by rw [HN.out];rfl,HS5.out.below⟩
theorem idxTo_and {α:Type} (c:Bool) (f:α→Bool) (l:List α) (k:Nat):idxTo (fun x=>c&&f x) l k=if c then idxTo f l k else []:=by
 cases c
 ·unfold idxTo
  simp only [Bool.false_and,Bool.false_eq_true,if_false];rw [List.map_eq_nil_iff,List.filter_eq_nil_iff];intro a _
  cases l[a]? <;> simp
 ·simp only [Bool.true_and,if_true]
theorem by_quiet {p:PD} {l:List (Al × Value)} {j:Nat} {t:Int × Nat} {now:Int} (hj:j < l.length) (hc:checkP p=0):idxF (fun x=>byA p l l[j].1 x t now) p.ih=quietK p l (j:Int) t now:=by
 rw [quietK_at hj];unfold quietX idxF;have h:=idxTo_and (rightA l[j].1&&cutOk p.ra l[j].1.fl (l[j].1.lv,l[j].1.c) t) (ruleQ p.ra l l[j].1 t now) p.ih p.ih.length
 have e:(fun x=>byA p l l[j].1 x t now)=(fun x=>(rightA l[j].1&&cutOk p.ra l[j].1.fl (l[j].1.lv,l[j].1.c) t)&&ruleQ p.ra l l[j].1 t now x):=by
  funext x
  unfold byA;rw [Bool.and_comm (cutOk p.ra l[j].1.fl (l[j].1.lv,l[j].1.c) t)]
 rw [e,h,decide_eq_true hc,Bool.and_true]
theorem quiet_unch {p:PD} {l:List (Al × Value)} {k:Int} {t:Int × Nat} {now:Int} (hc:checkP p≠0):quietK p l k t now=[]:=by
 rw [List.eq_nil_iff_forall_not_mem];intro x hx
 have h0:0≤k:=by
  apply Classical.byContradiction
  intro hk;rw [quietK_neg (by omega)] at hx
  cases hx
 have h1:k < (l.length:Int):=by
  apply Classical.byContradiction
  intro hk;rw [quietK_far (by omega)] at hx
  cases hx
 obtain ⟨j,rfl⟩:∃ j:Nat,k=(j:Int):=⟨k.toNat,by omega⟩;rw [quietK_at (by omega)] at hx;unfold quietX at hx;rw [decide_eq_false hc] at hx
 simp at hx
set_option maxHeartbeats 3200000 in
set_option maxRecDepth 100000 in
theorem rquiet_any (v:PV) (p:PD) (l:List (Al × Value)) (lv:Value) (k:Int) (tl:Int) (tc:Nat) (now:Int) (w:World) (hp:PolAt w v p) (hpf:PolFitD p) (hl:AlsAt w lv l) (hlen:l.length≤maxLen) (h12:∀ q∈l,q.1.fl.length≤12) (htc:tc < 4294967296) :
  Calls Tryz.prog 14 #[v.v,lv,.int .i64 k,Lab tl tc,.int .i64 now] w fun e w'=>∃ r,e=.returned r∧w'.ownsRow w.heap.size 3 1 r (quietK p l k (tl,tc) now).length ((quietK p l k (tl,tc) now).map I)∧Below w.heap.size w w':=by
 have KK:=Lib.hid (fun W (h:Below w.heap.size w W)=>check8_any v p W (hp.later h) hpf);have KCHK:=Lib.hid (check_zero (p:=p));have KBY:=Lib.hid (fun (j:Nat) (hj:j < l.length) (x:PIh) (hx:x∈p.ih) (hok:badIh x=false) W (h:Below w.heap.size w W)=>rby_any v p l lv j x tl tc now W hj (hp.later h) hpf (hl.later h) hlen h12 ((hp.h5.2 x hx).later h) (hpf.h5 x hx) hok htc);obtain ⟨v0,v1,v2,v3,v4,v5⟩:=v;obtain ⟨h0,h1,h2,h3,⟨h4,_⟩,h5,h5b⟩:=hp;dsimp only at h0 h1 h2 h3 h4 h5 KK KBY;obtain ⟨a0,c0,rfl,_,_⟩:=RdAt.shape h0;obtain ⟨a1,c1,rfl,_,_⟩:=RdAt.shape h1;obtain ⟨a2,c2,rfl,_,_⟩:=RdAt.shape h2;obtain ⟨a3,c3,rfl,_,_⟩:=RdAt.shape h3;obtain ⟨a4,c4,rfl,_,_⟩:=RdAt.shape h4;obtain ⟨a5,c5,rfl,_,hir⟩:=RdAt.shape h5;have KIR:=Lib.hid hir;have KIN:=Lib.hid h5b;obtain ⟨i0,hi,hz0,hz1,hz2⟩:=info_parts infoInt13;obtain ⟨la,lc,rfl,hlc,_⟩:=RdAt.shape hl.row;obtain ⟨W0,hW0⟩:∃ z,(w.alloc (.cells #[.slice a0 p.so.length c0,.slice a1 p.re.length c1,.slice a2 p.pe.length c2,.slice a3 p.ra.length c3,.slice a4 p.ro.length c4,.slice a5 p.ih.length c5] 26)).alloc (.cells #[.int .i64 tl,.int .u32 tc] 36)=z:=⟨_,rfl⟩;have HS0:Hid (QPt w (.slice a0 p.so.length c0) (.slice a1 p.re.length c1) (.slice a2 p.pe.length c2) (.slice a3 p.ra.length c3) (.slice a4 p.ro.length c4) (.slice a5 p.ih.length c5) tl tc W0):=Lib.hid (by rw [← hW0];exact qpt_new w _ _ _ _ _ _ _ _ _ _);have HW0:=Lib.hid hW0;unfold maxLen at hlen;clear h0 h1 h2 h3 h4 h5 h5b hir hl h12 hpf hW0
 go_enter Tryz.func14,Tryz.ntmps14
 go_upto_region 1 with fail;rw [HW0.out];clear HW0
 by_cases hk0:k < 0
 ·have HQ:Hid (quietK p l k (tl,tc) now=[]):=Lib.hid (quietK_neg hk0)
  go_wp2;go_ret;exact ⟨_,rfl,by rw [HQ.out];exact World.ownsRow_nil _ _ _ _,HS0.out.below⟩
 by_cases hk1:(l.length:Int)≤k
 ·have HQ:Hid (quietK p l k (tl,tc) now=[]):=Lib.hid (quietK_far hk1)
  go_wp2;go_ret;exact ⟨_,rfl,by rw [HQ.out];exact World.ownsRow_nil _ _ _ _,HS0.out.below⟩
 obtain ⟨j,rfl⟩:∃ j:Nat,k=(j:Int):=⟨k.toNat,by omega⟩;have hj:j < l.length:=by omega
 have HQE:Hid (checkP p=0→idxF (fun x=>byA p l l[j].1 x (tl,tc) now) p.ih=quietK p l (j:Int) (tl,tc) now):=Lib.hid (fun hc=>by_quiet hj hc);have HQU:Hid (checkP p≠0→quietK p l (j:Int) (tl,tc) now=[]):=Lib.hid (fun hc=>quiet_unch hc);have KBJ:=Lib.hid (KBY.out j hj);have kk:=KK.out W0 HS0.out.below;obtain ⟨q0,q1,q2,q3,q4,q5⟩:=HS0.out.p;have hk2:(0:Int)≤(j:Int):=by omega
 have hk3:(j:Int) < (l.length:Int):=by omega
 generalize l[j].1=Y at *
 cases hck:decide (checkP p=0)
 ·have hne:checkP p≠0:=of_decide_eq_false hck
  have HQ:=Lib.hid (HQU.out hne);clear hck HQE HQU KCHK;generalize checkP p=ck at *;go_wp2_with fail
  refine kk.mono ?_;rintro e w1 ⟨rfl,hb1⟩;have HB:=Lib.hid (HS0.out.below.trans (hb1.mono HS0.out.below.size));clear kk hb1 q0 q1 q2 q3 q4 q5;go_wp2;go_ret;exact ⟨_,rfl,by rw [HQ.out];exact World.ownsRow_nil _ _ _ _,HB.out⟩
 have hck0:checkP p=0:=of_decide_eq_true hck;have HQ:=Lib.hid (HQE.out hck0);have HCK:=Lib.hid (KCHK.out hck0);rw [hck0] at kk;have HF:Hid (∀ x,(fun x=>byA p l Y x (tl,tc) now) x=byA p l Y x (tl,tc) now):=Lib.hid (fun _=>rfl);clear hck hck0 HQE HQU KCHK KK;generalize (fun x=>byA p l Y x (tl,tc) now)=F at *;go_wp2_with fail
 refine kk.mono ?_;rintro e w1 ⟨rfl,hb1⟩;have HS1:=Lib.hid (HS0.out.later hb1);clear kk hb1 q0 q1 q2 q3 q4 q5 HS0;obtain ⟨q0,q1,q2,q3,q4,q5⟩:=HS1.out.p;go_wp2;clear q0 q1 q2 q3 q4 q5
 go_loopw [11,12] (fun s11 i wr=>∃ (n:Nat),i=.int .i64 n∧n≤p.ih.length∧Hid (wr.ownsRow w1.heap.size 3 1 s11 (idxTo F p.ih n).length ((idxTo F p.ih n).map I))∧Hid (Below w1.heap.size w1 wr)) (fun _ i _=>p.ih.length - (intOf i).toNat)
 case atStart=>exact ⟨0,rfl,Nat.zero_le _,Lib.hid (World.ownsRow_nil _ _ _ _),Lib.hid (Below.refl _ _)⟩
 case round =>
  obtain ⟨n,rfl,hn,HO,HB⟩:=hrel;have HSR:=Lib.hid (HS1.out.later HB.out);obtain ⟨q0,q1,q2,q3,q4,q5⟩:=HSR.out.p;have t0:=HSR.out.t0;have t1:=HSR.out.t1;have hlen12:=HCK.out.1
  by_cases hnl:n < p.ih.length
  ·obtain ⟨b5,o5,rfl,hb5,hc5⟩:=KIR.out (by omega)
   have hBw:=HSR.out.below;have hat:=fun i v h=>cellsG_at ihC_len p.ih n hnl i v h;have z0:=kCq (hc5 _ _ (hat 0 _ rfl)) hBw hb5;have z1:=kCq (hc5 _ _ (hat 1 _ rfl)) hBw hb5;have z2:=kCq (hc5 _ _ (hat 2 _ rfl)) hBw hb5;have z3:=kCq (hc5 _ _ (hat 3 _ rfl)) hBw hb5;have z4:=kCq (hc5 _ _ (hat 4 _ rfl)) hBw hb5;rw [Nat.add_zero] at z0;rw [← Nat.add_assoc] at z1 z2 z3 z4;have hmem:=List.getElem_mem hnl;have KB:=Lib.hid (fun W (h:Below wr.heap.size wr W)=>KBJ.out p.ih[n] hmem (HCK.out.2 _ hmem) W (hBw.trans (h.mono hBw.size)));have HST:=Lib.hid (idxTo_step F p.ih hnl);have hil:=idxTo_len F p.ih n;have HFX:=Lib.hid (HF.out p.ih[n]);generalize p.ih[n]=x at *;obtain ⟨bys,xlv,xc,frm,whn,bv,fv,wv⟩:=x;dsimp only at *;generalize byA p l Y ⟨bys,xlv,xc,frm,whn,bv,fv,wv⟩ (tl,tc) now=BY at *;generalize F ⟨bys,xlv,xc,frm,whn,bv,fv,wv⟩=FX at *;have ltq:w.heap.size < wr.heap.size:=by have:=HSR.out.ge;omega
   have ltt:w.heap.size+1 < wr.heap.size:=HSR.out.ge;have ltz:b5 < wr.heap.size:=Nat.lt_of_lt_of_le hb5 hBw.size;have hi0:(0:Int)≤(n:Int):=by omega
   have hi1:(n:Int) < (p.ih.length:Int):=by omega
   clear hmem hat hc5 hBw;go_upto_region 7 with fail;refine wp_region_held_drew (S:=(fun W=>W.cell? ⟨w.heap.size,0,none⟩=some (.slice a0 p.so.length c0)∧W.cell? ⟨w.heap.size,1,none⟩=some (.slice a1 p.re.length c1)∧W.cell? ⟨w.heap.size,2,none⟩=some (.slice a2 p.pe.length c2)∧W.cell? ⟨w.heap.size,3,none⟩=some (.slice a3 p.ra.length c3)∧W.cell? ⟨w.heap.size,4,none⟩=some (.slice a4 p.ro.length c4)∧W.cell? ⟨w.heap.size,5,none⟩=some (.slice (some ⟨b5,o5,none⟩) p.ih.length c5)∧W.cell? ⟨w.heap.size+1,0,none⟩=some (.int .i64 tl)∧W.cell? ⟨w.heap.size+1,1,none⟩=some (.int .u32 tc)∧W.cell? ⟨b5,o5+n * 5,none⟩=some bv∧W.cell? ⟨b5,o5+n * 5+1,none⟩=some (.int .i64 xlv)∧W.cell? ⟨b5,o5+n * 5+2,none⟩=some (.int .u32 xc)∧W.cell? ⟨b5,o5+n * 5+3,none⟩=some fv∧W.cell? ⟨b5,o5+n * 5+4,none⟩=some wv)) (by kernel_rfl) ⟨q0,q1,q2,q3,q4,q5,t0,t1,z0,z1,z2,z3,z4⟩ (fun hHeld=>?_);have hd:Below wr.heap.size wr wr.drew:=(Below.refl _ _).drew;refine plIn [0,1,2,3,4,5,6,7,8,9] ?_
   iterate 10
    refine hP (v:=?_) rfl rfl hHeld ?_ ?_;rotate_left
    ·intro wh hz;iterate 12 obtain ⟨_,hz⟩:=hz
     go_simp
     (try with_reducible rfl)
    simp only [Act.put,aS1,aS2,aS3]
   refine plOut ?_;refine held_call (i:=10) rfl (by kernel_rfl) (by rfl) (fun K hK=>?_)
   (go_simp;go_at_call 31;refine (KB.out _ hd).mono ?_;rintro e w6 ⟨rfl,hb6⟩;have hB6:=hd.trans (hb6.mono hd.size))
   refine hK.out _ _ ⟨kCq q0 hB6 ltq,kCq q1 hB6 ltq,kCq q2 hB6 ltq,kCq q3 hB6 ltq,kCq q4 hB6 ltq,kCq q5 hB6 ltq,kCq t0 hB6 ltt,kCq t1 hB6 ltt,kCq z0 hB6 ltz,kCq z1 hB6 ltz,kCq z2 hB6 ltz,kCq z3 hB6 ltz,kCq z4 hB6 ltz⟩ (fun hHeld=>?_);clear hK K
   (try simp only [Act.put,aS1,aS2,aS3])
   refine wpAnyH_done (by kernel_rfl) ?_ _;have HB6:=Lib.hid (HB.out.trans (hB6.mono HB.out.size));have HO6:=Lib.hid (own_later HO.out hB6);clear hd hb6 hB6 q0 q1 q2 q3 q4 q5 t0 t1 z0 z1 z2 z3 z4 KB HB HO HSR
   cases BY
   ·have HN1:Hid (idxTo F p.ih (n+1)=idxTo F p.ih n):=Lib.hid (by rw [HST.out,HFX.out];simp)
    go_wp2;go_roundw
    case rel=>exact ⟨n+1,by go_num,by omega,Lib.hid (by rw [HN1.out];exact HO6.out),HB6⟩
    case measure=>(simp [intOf];try omega)
   ·have HN1:Hid (idxTo F p.ih (n+1)=idxTo F p.ih n ++ [(n:Int)]):=Lib.hid (by rw [HST.out,HFX.out];simp)
    have hb8:=aBq w6 (.cells #[I n] 3);have hown8:=HO6.out.alloc (.cells #[I n] 3);have hsz8:=HB6.out.size;go_wp2_with (at_builtin;(refine wpList_append_own _ rfl _ _ 38 rfl w1.heap.size 3 i0 (.int .i64 0) 1 8 Tryz.underlying38 hi hz0 hz1 hz2 rfl (by decide) _ _ _ rfl hown8 ⟨w6.heap.size,0,none⟩ 1 1 [I n] rfl rfl (cell_one_new _ _ _) (by simp [Value.oneCell']) (by unfold maxLen;omega) (by omega) (by simp;omega) ?_);intro v' w8 hown' hg8 hnil8)
    have HB8:=Lib.hid ((HB6.out.trans (hb8.mono HB6.out.size)).grown hg8 (by simp;omega) (fun j e=>(hown8.lt j e).1));have HO8:Hid (w8.ownsRow w1.heap.size 3 1 v' (idxTo F p.ih (n+1)).length ((idxTo F p.ih (n+1)).map I)):=Lib.hid (by rw [HN1.out];simpa using hown');clear hown' hg8 hnil8 hown8 hb8;go_wp2;go_roundw
    case rel=>exact ⟨n+1,by go_num,by omega,HO8,HB8⟩
    case measure=>(simp [intOf];try omega)
  ·obtain rfl:n=p.ih.length:=by omega
   go_wp2;go_ret;exact ⟨_,rfl,by rw [← HQ.out];exact World.ownsRow.mono HO.out HS1.out.below.size,HS1.out.below.trans (HB.out.mono HS1.out.below.size)⟩
end Go.Proofs.YtipnhpfpppblhaaGreat
namespace Go.Proofs.YtipnhpfpppblhaaGreat
open Go.RowKit
theorem int_range {w:World} {g o:Nat} {Y:List Int} (h:w.rangeAt g o (Y.map I)) {j:Nat} (hj:j < Y.length):w.cell? ⟨g,o+j,none⟩=some (.int .i64 Y[j]) :=
 h j _ (by rw [List.getElem?_map,List.getElem?_eq_getElem hj];rfl)
theorem set_far {w:World} {p i b j:Nat} {v:Value} (h:¬(p=b∧i=j)):(w.setCell ⟨p,i,none⟩ v).cell? ⟨b,j,none⟩=w.cell? ⟨b,j,none⟩:=by
 apply World.cell?_setCell_other
 intro e;simp only [Addr.mk.injEq,and_true] at e;exact h e
theorem there_set {w:World} {g n:Nat} (h:w.there g 0 n) (p i:Nat) (v:Value):(w.setCell ⟨p,i,none⟩ v).there g 0 n:=fun j hj=>by
 obtain ⟨h1,h2⟩:=h j hj;refine ⟨?_,?_⟩
 ·by_cases e:(⟨p,i,none⟩:Addr)=⟨g,0+j,none⟩
  ·rw [e,World.cell?_setCell_same' _ _ _ h1];rfl
  ·rw [set_far (fun h=>e (by rw [h.1,h.2]))];exact h1
 ·rw [World.frozen?_setCell];exact h2
set_option maxHeartbeats 1600000 in
set_option maxRecDepth 100000 in
theorem idxL_any (l:List Int) (p:Int→Bool) (p1 p2 p3 p4:Value) (v:Value) (w:World) (hv:IntsAt w v l) (hl:l.length≤1000000)
  (hp:∀ W,Below w.heap.size w W→∀ x∈l,Calls Tryz.prog 35 #[.int .i64 x,p1,p2,p3,p4] W fun e w'=>e=.returned (.bool (p x))∧Below W.heap.size W w') :
  Calls Tryz.prog 70 #[v,.func (.func 35) #[] #[p1,p2,p3,p4]] w fun e w' =>
   ∃ i:Int,e=.returned (.int .i64 i)∧((i=-1∧∀ x∈l,p x=false)∨∃ (k:Nat) (h:k < l.length),i=k∧p l[k]=true∧∀ x∈l.take k,p x=false)∧Below w.heap.size w w':=by
 have hent:=enters_of Tryz.func35 (by kernel_rfl) rfl;obtain ⟨a,c,rfl,hc,hr⟩:=RdAt.shape hv
 have HC:Hid (∀ j (hj:j < l.length),∃ b o,a=some ⟨b,o,none⟩∧b < w.heap.size∧w.cell? ⟨b,o+j,none⟩=some (.int .i64 l[j])):=Lib.hid (fun j hj=>by
  obtain ⟨b,o,rfl,hlt,hcell⟩:=hr (by omega);exact ⟨b,o,rfl,hlt,hcell j _ (by rw [List.getElem?_map,List.getElem?_eq_getElem hj];rfl)⟩)
 have HP:=Lib.hid hp;clear hv hr hp
 go_enter Tryz.func70,Tryz.ntmps70
 go_wp2
 go_loopw [8] (fun vi wr=>∃ j:Nat,j≤l.length∧vi=.int .i64 j∧Hid (∀ k∈l.take j,p k=false)∧Hid (Below w.heap.size w wr)) (fun vi _=>l.length - (intOf vi).toNat)
 case atStart=>exact ⟨0,Nat.zero_le _,rfl,Lib.hid (fun k hk=>by simp at hk),Lib.hid (Below.refl _ _)⟩
 case round =>
  obtain ⟨j,hj,rfl,HN,HB⟩:=hrel
  by_cases hjl:j < l.length
  ·obtain ⟨b,o,rfl,hblt,hc0⟩:=HC.out j hjl
   obtain ⟨k,hk⟩:∃ k,l[j]=k:=⟨_,rfl⟩;rw [hk] at hc0;have d1:=kCq hc0 HB.out hblt;have hcall:=HP.out wr HB.out k (hk ▸ List.getElem_mem hjl);have HK:=Lib.hid hk;obtain ⟨q,hq⟩:∃ q,p k=q:=⟨_,rfl⟩;rw [hq] at hcall;have HQ:=Lib.hid hq;clear hc0 hk hq;go_wp2_with fail
   refine hcall.mono ?_;rintro e w2 ⟨rfl,hb2⟩;have HB3:=Lib.hid (HB.out.trans (hb2.mono HB.out.size));clear hcall hb2
   cases q with
   | true =>
    go_wp2;go_ret;exact ⟨j,rfl,.inr ⟨j,hjl,rfl,by rw [HK.out];exact HQ.out,HN.out⟩,HB3.out⟩
   | false =>
    have HN2:Hid (∀ k∈l.take (j+1),p k=false):=Lib.hid (fun q hq=>by
     rw [List.take_succ_eq_append_getElem hjl] at hq
     rcases List.mem_append.1 hq with h1 | h1
     ·exact HN.out q h1
     ·rw [List.mem_singleton.1 h1,HK.out];exact HQ.out)
    go_wp2;go_roundw
    case rel=>exact ⟨j+1,by omega,by go_num,HN2,HB3⟩
    case measure=>(simp [intOf];try omega)
  ·obtain rfl:j=l.length:=by omega
   go_wp2;go_ret;exact ⟨-1,rfl,.inl ⟨rfl,fun x hx=>HN.out x (by rw [List.take_length];exact hx)⟩,HB.out⟩
theorem filterI_step {p:Int→Bool} {l:List Int} {j:Nat} (h:j < l.length):(l.take (j+1)).filter (fun x=>!p x)=(l.take j).filter (fun x=>!p x) ++ (if p l[j] then [] else [l[j]]):=by
 rw [List.take_succ_eq_append_getElem h,List.filter_append]
 congr 1
 cases hp:p l[j] <;> simp [hp]
theorem zcI_len (n:Nat):(Builtin.zeroCells (Value.int .i64 0).cells n).toList.length=n:=by simp [Builtin.zeroCells,Value.cells]
theorem zcI_cell (n:Nat):∀ v∈(Builtin.zeroCells (Value.int .i64 0).cells n).toList,v.oneCell'=true:=by
 intro v hv;simp only [Builtin.zeroCells,Value.cells,Array.toList_map,List.mem_map] at hv;obtain ⟨i,_,rfl⟩:=hv;have h2:i % (#[Value.int .i64 0]:Array Value).size < 1:=Nat.mod_lt _ (by decide);generalize i % (#[Value.int .i64 0]:Array Value).size=j at h2
 match j,h2 with
 | 0,_=>rfl
theorem rowI_put {w:World} {g n i:Nat} {Y:List Int} {x:Int} (h:w.rangeAt g 0 (Y.map I)) (ht:w.there g 0 n) (hn:Y.length=n) (hi:i < n) :
  (w.setCell ⟨g,i,none⟩ (.int .i64 x)).rangeAt g 0 ((Y.set i x).map I)∧(w.setCell ⟨g,i,none⟩ (.int .i64 x)).there g 0 n:=by
 refine ⟨fun j v hj=>?_,there_set ht g i _⟩;rw [Nat.zero_add];rw [List.getElem?_map] at hj
 by_cases hm:j=i
 ·subst hm
  rw [List.getElem?_set_self (by omega)] at hj;have hs:=(ht j hi).1;rw [Nat.zero_add] at hs;rw [World.cell?_setCell_same' _ _ _ hs,← hj];rfl
 ·rw [List.getElem?_set_ne (fun e=>hm e.symm)] at hj
  rw [set_far (by omega)]
  have:=h j v (by rw [List.getElem?_map];exact hj)
  rwa [Nat.zero_add] at this
set_option maxHeartbeats 1600000 in
set_option maxRecDepth 100000 in
theorem delL_any (l:List Int) (p:Int→Bool) (p1 p2 p3 p4:Value) (base:Nat) (v:Value) (w:World) (hown:w.ownsRow base 3 1 v l.length (l.map I)) (hbase:base≤w.heap.size) (hl:l.length≤1000000)
  (hp:∀ W,Below base w W→∀ x∈l,Calls Tryz.prog 35 #[.int .i64 x,p1,p2,p3,p4] W fun e w'=>e=.returned (.bool (p x))∧Below W.heap.size W w') :
  Calls Tryz.prog 34 #[v,.func (.func 35) #[] #[p1,p2,p3,p4]] w fun e w' =>
   ∃ v',e=.returned v'∧IntsAt w' v' (l.filter fun x=>!p x)∧Below base w w':=by
 have hent:=enters_of Tryz.func35 (by kernel_rfl) rfl;have hv:IntsAt w v l:=RdAt.own hown;have k1:=idxL_any l p p1 p2 p3 p4 v w hv hl (fun W hW x hx=>hp W (hW.mono hbase) x hx)
 rcases hown.2 with ⟨rfl,h0⟩ | ⟨g,cap,cur,rfl,hgb,hg,hle,hcap,hsz,htk⟩
 ·have hnil:l=[]:=List.length_eq_zero_iff.1 h0
  subst hnil;clear hown hp hv
  go_enter Tryz.func34,Tryz.ntmps34
  go_wp2_with fail
  refine k1.mono ?_;rintro e w1 ⟨i,rfl,hi,hb1⟩
  rcases hi with ⟨rfl,_⟩ | ⟨k,hk,_⟩
  ·clear k1
   have HB1:=Lib.hid (hb1.mono hbase);clear hb1;go_wp2;go_ret;exact ⟨_,rfl,RdAt.nil _ _,HB1.out⟩
  ·exact absurd hk (Nat.not_lt_zero _)
 ·have hr0:w.rangeAt g 0 (l.map I):=by
   intro j x hj;obtain ⟨a,c,he,_,hr⟩:=RdAt.shape hv;have hjl:=(List.getElem?_eq_some_iff.1 hj).1;rw [List.length_map] at hjl;obtain ⟨b,o,hb,_,hcell⟩:=hr (by omega)
   cases he
   cases hb
   exact hcell j x hj
  have ht0:w.there g 0 l.length:=fun j hj=>by
   refine ⟨World.rangeAt.isSome hr0 j (by rw [List.length_map];exact hj),by simp [World.frozen?,hg]⟩
  have hglt:g < w.heap.size:=(Array.getElem?_eq_some_iff.1 hg).1;have HP:=Lib.hid hp;have HR0:=Lib.hid hr0;have HTH0:=Lib.hid ht0;have HV:=Lib.hid hv;clear hv hown hp hr0 ht0 hg htk hsz
  go_enter Tryz.func34,Tryz.ntmps34
  go_wp2_with fail
  refine k1.mono ?_;rintro e w1 ⟨i,rfl,hi,hb1⟩;have HR1:=Lib.hid (range_later HR0.out hb1 hglt);have HTH1:=Lib.hid (there_later HTH0.out hb1 hglt);have HB1:=Lib.hid (hb1.mono hbase);have HV1:=Lib.hid (HV.out.later hb1);clear k1 HR0 HTH0 hb1 HV
  rcases hi with ⟨rfl,hno⟩ | ⟨k,hk,rfl,hpk,hpn⟩
  ·have HN:Hid (l.filter (fun x=>!p x)=l):=Lib.hid (List.filter_eq_self.2 (fun x hx=>by rw [hno x hx];rfl))
   clear hno;go_wp2;go_ret;exact ⟨_,rfl,by rw [HN.out];exact HV1.out,HB1.out⟩
  ·have hT1:(l.take k).filter (fun x=>!p x)=l.take k:=List.filter_eq_self.2 (fun x hx=>by rw [hpn x hx];rfl)
   have HT2:Hid (l.take k=(l.take (k+1)).filter (fun x=>!p x)):=Lib.hid (by rw [filterI_step hk,hT1,hpk];simp);have hk1:((k:Int)==-1)=false:=by rw [beq_eq_false_iff_ne];omega
   clear hT1 hpk hpn HV1;go_wp2
   go_loopw [5,6] (fun vi vj wr=>∃ (i j:Nat) (Y:List Int),vi=.int .i64 i∧vj=.int .i64 j∧i < j∧j≤l.length∧Hid (Y.length=l.length)∧Hid (Y.take i=(l.take j).filter (fun x=>!p x))∧Hid (Y.drop j=l.drop j)∧Hid (wr.rangeAt g 0 (Y.map I))∧Hid (wr.there g 0 l.length)∧Hid (Below base w wr))
    (fun _ vj _=>l.length - (intOf vj).toNat)
   case atStart=>exact ⟨k,k+1,l,rfl,by go_num,by omega,by omega,Lib.hid rfl,HT2,Lib.hid rfl,HR1,HTH1,HB1⟩
   case round =>
    clear HR1 HTH1 HB1 HT2;obtain ⟨i,j,Y,rfl,rfl,hij,hjl,HY,HT,HD,HR,HTH,HB⟩:=hrel;have hgr:g < wr.heap.size:=Nat.lt_of_lt_of_le hglt HB.out.size
    by_cases hjj:j < l.length
    ·have hYj:Y[j]'(by have:=HY.out;omega)=l[j]:=by
      have h:=congrArg (fun z=>z[0]?) HD.out;simp only [List.getElem?_drop,Nat.add_zero] at h;rw [List.getElem?_eq_getElem hjj,List.getElem?_eq_getElem (by have:=HY.out;omega)] at h;exact Option.some.inj h
     have hc0:=int_range HR.out (j:=j) (by have:=HY.out;omega);rw [hYj,Nat.zero_add] at hc0;obtain ⟨x,hx⟩:∃ x,l[j]=x:=⟨_,rfl⟩;have hxm:x∈l:=hx ▸ List.getElem_mem hjj;rw [hx] at hc0;have HX:=Lib.hid hx;have kp:=HP.out wr HB.out x hxm;obtain ⟨q,hq⟩:∃ q,p x=q:=⟨_,rfl⟩;rw [hq] at kp;have HQ:=Lib.hid hq;clear hq hx hYj hxm;go_wp2_with fail
     refine kp.mono ?_;rintro e w2 ⟨rfl,hb2⟩;have HB2:=Lib.hid (HB.out.trans (hb2.mono (Nat.le_trans hbase HB.out.size)));have HR2:=Lib.hid (range_later HR.out hb2 hgr);have HT2:=Lib.hid (there_later HTH.out hb2 hgr)
     have HD2:Hid (Y.drop (j+1)=l.drop (j+1)):=by
      show _=_;have h:=congrArg (List.drop 1) HD.out;rw [List.drop_drop,List.drop_drop] at h
      first | exact h | (rw [Nat.add_comm j 1];exact h)
     cases q
     ·have c0:=int_range HR2.out (j:=i) (by have:=HY.out;omega)
      rw [Nat.zero_add] at c0;have f0:=tFq HT2.out i (by omega);clear kp hb2 HR HTH HB hc0;go_wp2;go_roundw
      case rel =>
       have hYi:i < Y.length:=by have:=HY.out;omega
       have hlen:(Y.take i).length=i:=by rw [List.length_take];omega
       refine ⟨i+1,j+1,Y.set i x,by go_num,by go_num,by omega,by omega,Lib.hid (by rw [List.length_set];exact HY.out),Lib.hid ?_,Lib.hid ?_,Lib.hid ?_,Lib.hid ?_,Lib.hid ?_⟩
       ·rw [filterI_step hjj,HX.out,HQ.out,← HT.out]
        simp only [Bool.false_eq_true,if_false]
        apply List.ext_getElem?
        intro m
        rcases Nat.lt_trichotomy m i with hm | hm | hm
        ·rw [List.getElem?_take_of_lt (by omega),List.getElem?_set_ne (by omega),List.getElem?_append_left (by omega),List.getElem?_take_of_lt hm]
        ·subst hm
         rw [List.getElem?_take_of_lt (by omega),List.getElem?_set_self hYi,List.getElem?_append_right (by omega),hlen];simp
        ·rw [List.getElem?_take_eq_none (by omega),List.getElem?_eq_none (by simp;omega)]
       ·apply List.ext_getElem?
        intro m;have h:=congrArg (fun z=>z[m]?) HD2.out;simp only [List.getElem?_drop] at h ⊢;rw [List.getElem?_set_ne (by omega)];exact h
       ·exact (rowI_put HR2.out HT2.out HY.out (by omega)).1
       ·exact (rowI_put HR2.out HT2.out HY.out (by omega)).2
       ·exact below_put_base HB2.out hgb
      case measure=>(simp [intOf];try omega)
     ·clear kp hb2 HR HTH HB hc0
      go_wp2;go_roundw
      case rel=>exact ⟨i,j+1,Y,rfl,by go_num,by omega,by omega,HY,Lib.hid (by rw [HT.out,filterI_step hjj,HX.out,HQ.out];simp),HD2,HR2,HT2,HB2⟩
      case measure=>(simp [intOf];try omega)
    ·obtain rfl:j=l.length:=by omega
     have hcl:∀ ty,(Builtin.clear_ #[38] ty #[.slice (some ⟨g,i,none⟩) (l.length - i) (cap - i)]).run Tryz.prog wr=.ok (.tuple #[]) (wr.setCells g i (Builtin.zeroCells (Value.int .i64 0).cells (l.length - i)).toList):=fun ty =>
      run_clear_row wr 38 3 ty _ Tryz.underlying38 Tryz.zeroValue3 g i (l.length - i) (cap - i) (by omega) (fun j hj=>by
       have:=HTH.out (i+j) (by rw [zcI_len] at hj;omega)
       rw [Nat.zero_add] at this;exact this) (zcI_cell _)
     have HZ:=Lib.hid (zcI_len (l.length - i));generalize hzc:(Builtin.zeroCells (Value.int .i64 0).cells (l.length - i)).toList=zc at *;go_wp2;go_ret;have hYl:(Y.take i).length=i:=by rw [List.length_take,HY.out];omega
     have hFl:l.filter (fun x=>!p x)=Y.take i:=by have:=HT.out;rw [List.take_length] at this;exact this.symm
     refine ⟨_,rfl,?_,below_puts_base HB.out hgb _⟩;rw [hFl];unfold IntsAt;rw [hYl];refine RdAt.mk (by rw [List.length_map,hYl];omega) (by omega) ?_ (fun m y hm=>?_)
     ·have:=(below_puts_base (o:=i) HB.out hgb zc).size;omega
     ·have hml:=(List.getElem?_eq_some_iff.1 hm).1
      rw [List.length_map,hYl] at hml;rw [World.cell?_setCells_out _ _ _ _ _ (fun _ _=>by simp;omega)]
      have:=HR.out m y (by rw [List.getElem?_map] at hm ⊢;rw [List.getElem?_take_of_lt (by omega)] at hm;exact hm)
      exact this
open Go.Maps
noncomputable def hushK (p:PD) (l:List (Al × Value)) (t:Int × Nat) (now:Int) (k:Int):Bool:=decide (0 < (quietK p l k t now).length)
noncomputable def leftL (p:PD) (l:List (Al × Value)) (t:Int × Nat) (now:Int):List Int:=if checkP p=0 then (idxF (toldA p.ra t now) l).filter fun k=>!(hushK p l t now k) else []
structure LBx (b:Nat) (v0 v1 v2 v3 v4 v5 lv:Value) (tl:Int) (tc:Nat) (now:Int) (W:World):Prop where
 p:C6 b v0 v1 v2 v3 v4 v5 W
 l:W.cell? ⟨b+1,0,none⟩=some lv
 t0:W.cell? ⟨b+1+1,0,none⟩=some (.int .i64 tl)
 t1:W.cell? ⟨b+1+1,1,none⟩=some (.int .u32 tc)
 n:W.cell? ⟨b+1+1+1,0,none⟩=some (.int .i64 now)
 lt:b+1+1+1 < W.heap.size
theorem LBx.later {b:Nat} {v0 v1 v2 v3 v4 v5 lv:Value} {tl:Int} {tc:Nat} {now:Int} {W W':World} (h:LBx b v0 v1 v2 v3 v4 v5 lv tl tc now W) (hb:Below W.heap.size W W'):LBx b v0 v1 v2 v3 v4 v5 lv tl tc now W':=by
 have hl:=h.lt;exact ⟨h.p.later hb (by omega),kCq h.l hb (by show b+1 < _;omega),kCq h.t0 hb (by show b+1+1 < _;omega),kCq h.t1 hb (by show b+1+1 < _;omega),kCq h.n hb hl,Nat.lt_of_lt_of_le hl hb.size⟩
theorem lbx_new (w:World) (v0 v1 v2 v3 v4 v5 lv:Value) (tl:Int) (tc:Nat) (now:Int) (s t r q:TypeId) :
  LBx w.heap.size v0 v1 v2 v3 v4 v5 lv tl tc now ((((w.alloc (.cells #[v0,v1,v2,v3,v4,v5] s)).alloc (.cells #[lv] t)).alloc (.cells #[.int .i64 tl,.int .u32 tc] r)).alloc (.cells #[.int .i64 now] q)) ∧
   Below w.heap.size w ((((w.alloc (.cells #[v0,v1,v2,v3,v4,v5] s)).alloc (.cells #[lv] t)).alloc (.cells #[.int .i64 tl,.int .u32 tc] r)).alloc (.cells #[.int .i64 now] q)):=by
 obtain ⟨W1,h1⟩:∃ z,w.alloc (.cells #[v0,v1,v2,v3,v4,v5] s)=z:=⟨_,rfl⟩;obtain ⟨W2,h2⟩:∃ z,W1.alloc (.cells #[lv] t)=z:=⟨_,rfl⟩;obtain ⟨W3,h3⟩:∃ z,W2.alloc (.cells #[.int .i64 tl,.int .u32 tc] r)=z:=⟨_,rfl⟩;obtain ⟨W4,h4⟩:∃ z,W3.alloc (.cells #[.int .i64 now] q)=z:=⟨_,rfl⟩;rw [h1,h2,h3,h4];have s1:W1.heap.size=w.heap.size+1:=by rw [← h1,World.size_alloc]
 have s2:W2.heap.size=w.heap.size+1+1:=by rw [← h2,World.size_alloc,s1]
 have s3:W3.heap.size=w.heap.size+1+1+1:=by rw [← h3,World.size_alloc,s2]
 have s4:W4.heap.size=w.heap.size+1+1+1+1:=by rw [← h4,World.size_alloc,s3]
 have b1:Below w.heap.size w W1:=by rw [← h1];exact aBq _ _
 have b2:Below W1.heap.size W1 W2:=by rw [← h2];exact aBq _ _
 have b3:Below W2.heap.size W2 W3:=by rw [← h3];exact aBq _ _
 have b4:Below W3.heap.size W3 W4:=by rw [← h4];exact aBq _ _
 have c24:Below W2.heap.size W2 W4:=b3.trans (b4.mono (by omega));have c14:Below W1.heap.size W1 W4:=b2.trans (c24.mono (by omega));have x6:C6 w.heap.size v0 v1 v2 v3 v4 v5 W1:=by rw [← h1];exact box6n w _ _ _ _ _ _ _
 have g2:W2.cell? ⟨W1.heap.size,0,none⟩=some lv:=by rw [← h2];exact World.cell?_alloc_at _ _ _ _ rfl
 have g3:W3.cell? ⟨W2.heap.size,0,none⟩=some (.int .i64 tl):=by rw [← h3];exact World.cell?_alloc_at _ _ _ _ rfl
 have g3':W3.cell? ⟨W2.heap.size,1,none⟩=some (.int .u32 tc):=by rw [← h3];exact World.cell?_alloc_at _ _ _ _ rfl
 have g4:W4.cell? ⟨W3.heap.size,0,none⟩=some (.int .i64 now):=by rw [← h4];exact World.cell?_alloc_at _ _ _ _ rfl
 refine ⟨⟨x6.later c14 (by omega),?_,?_,?_,?_,by omega⟩,b1.trans (c14.mono (by omega))⟩
 ·rw [← s1];exact kCq g2 c24 (by show W1.heap.size < W2.heap.size;omega)
 ·rw [← s2];exact kCq g3 b4 (by show W2.heap.size < W3.heap.size;omega)
 ·rw [← s2];exact kCq g3' b4 (by show W2.heap.size < W3.heap.size;omega)
 ·rw [← s3];exact g4
set_option maxHeartbeats 3200000 in
set_option maxRecDepth 100000 in
theorem leftclos (v:PV) (p:PD) (l:List (Al × Value)) (lv:Value) (b:Nat) (k:Int) (tl:Int) (tc:Nat) (now:Int) (w:World) (hp:PolAt w v p) (hpf:PolFitD p) (hl:AlsAt w lv l) (hlen:l.length≤maxLen) (hx:LBx b v.v0 v.v1 v.v2 v.v3 v.v4 v.v5 lv tl tc now w) :
  Calls Tryz.prog 35 #[.int .i64 k,.pointer (some ⟨b,0,none⟩),.pointer (some ⟨b+1,0,none⟩),.pointer (some ⟨b+1+1,0,none⟩),.pointer (some ⟨b+1+1+1,0,none⟩)] w fun e w'=>e=.returned (.bool (hushK p l (tl,tc) now k))∧Below w.heap.size w w':=by
 have kq:=iquiet_any v p l lv k tl tc now w hp hpf hl hlen;obtain ⟨v0,v1,v2,v3,v4,v5⟩:=v;obtain ⟨h0,h1,h2,h3,⟨h4,_⟩,h5,_⟩:=hp;dsimp only at *;obtain ⟨a0,c0,rfl,_,_⟩:=RdAt.shape h0;obtain ⟨a1,c1,rfl,_,_⟩:=RdAt.shape h1;obtain ⟨a2,c2,rfl,_,_⟩:=RdAt.shape h2;obtain ⟨a3,c3,rfl,_,_⟩:=RdAt.shape h3;obtain ⟨a4,c4,rfl,_,_⟩:=RdAt.shape h4;obtain ⟨a5,c5,rfl,_,_⟩:=RdAt.shape h5;obtain ⟨la,lc,rfl,_,_⟩:=RdAt.shape hl.row;have HH:Hid (hushK p l (tl,tc) now k=decide (0 < (quietK p l k (tl,tc) now).length)):=Lib.hid rfl;generalize hushK p l (tl,tc) now k=R at *;generalize quietK p l k (tl,tc) now=Q at *;obtain ⟨⟨q0,q1,q2,q3,q4,q5⟩,c0',t0,t1,n0,_⟩:=hx;clear h0 h1 h2 h3 h4 h5 hl hpf
 go_enter Tryz.func35,Tryz.ntmps35
 go_wp2_with fail
 refine kq.mono ?_;rintro e w1 ⟨r,rfl,hr,hb1⟩;have HB:=Lib.hid hb1;have hrr:=RdAt.shape (RdAt.own hr);obtain ⟨ra,rc,rfl,_,_⟩:=hrr;clear kq hr hb1 q0 q1 q2 q3 q4 q5 c0' t0 t1 n0;generalize Q.length=n at *
 by_cases hn:0 < n
 ·have hi:(0:Int) < (n:Int):=by omega
  go_wp2;go_ret;exact ⟨by rw [HH.out,decide_eq_true hn];rfl,HB.out⟩
 ·obtain rfl:n=0:=by omega
  go_wp2;go_ret;exact ⟨by rw [HH.out];rfl,HB.out⟩
set_option maxHeartbeats 3200000 in
set_option maxRecDepth 100000 in
theorem ileft_any (v:PV) (p:PD) (l:List (Al × Value)) (lv:Value) (tl:Int) (tc:Nat) (now:Int) (w:World) (hp:PolAt w v p) (hpf:PolFitD p) (hl:AlsAt w lv l) (hlen:l.length≤1000000) (h12:∀ q∈l,q.1.fl.length≤12) :
  Calls Tryz.prog 17 #[v.v,lv,Lab tl tc,.int .i64 now] w fun e w'=>∃ r,e=.returned r∧IntsAt w' r (leftL p l (tl,tc) now)∧Below w.heap.size w w':=by
 have hlm:l.length≤maxLen:=by unfold maxLen;omega
 have KC:=Lib.hid (fun W (h:Below w.heap.size w W)=>pcheck_any v p W (hp.later h) hpf);have KT:=Lib.hid (fun W (h:Below w.heap.size w W)=>told_any v p l lv tl tc now W (hp.later h) hpf (hl.later h) hlen h12);have KL:=Lib.hid (fun k W (h:Below w.heap.size w W) hx=>leftclos v p l lv w.heap.size k tl tc now W (hp.later h) hpf (hl.later h) hlm hx);have HLN:=Lib.hid (idxTo_len (toldA p.ra (tl,tc) now) l l.length);have HLL:Hid (leftL p l (tl,tc) now=if checkP p=0 then (idxF (toldA p.ra (tl,tc) now) l).filter (fun k=>!(hushK p l (tl,tc) now k)) else []):=Lib.hid rfl;obtain ⟨v0,v1,v2,v3,v4,v5⟩:=v;obtain ⟨h0,h1,h2,h3,⟨h4,_⟩,h5,_⟩:=hp;dsimp only at *;obtain ⟨a0,c0,rfl,_,_⟩:=RdAt.shape h0;obtain ⟨a1,c1,rfl,_,_⟩:=RdAt.shape h1;obtain ⟨a2,c2,rfl,_,_⟩:=RdAt.shape h2;obtain ⟨a3,c3,rfl,_,_⟩:=RdAt.shape h3;obtain ⟨a4,c4,rfl,_,_⟩:=RdAt.shape h4;obtain ⟨a5,c5,rfl,_,_⟩:=RdAt.shape h5;obtain ⟨la,lc,rfl,_,_⟩:=RdAt.shape hl.row;obtain ⟨W0,hW0⟩:∃ z,(((w.alloc (.cells #[.slice a0 p.so.length c0,.slice a1 p.re.length c1,.slice a2 p.pe.length c2,.slice a3 p.ra.length c3,.slice a4 p.ro.length c4,.slice a5 p.ih.length c5] 26)).alloc (.cells #[.slice la l.length lc] 31)).alloc (.cells #[.int .i64 tl,.int .u32 tc] 36)).alloc (.cells #[.int .i64 now] 3)=z:=⟨_,rfl⟩;obtain ⟨hx,hb⟩:=lbx_new w (.slice a0 p.so.length c0) (.slice a1 p.re.length c1) (.slice a2 p.pe.length c2) (.slice a3 p.ra.length c3) (.slice a4 p.ro.length c4) (.slice a5 p.ih.length c5) (.slice la l.length lc) tl tc now 26 31 36 3;rw [hW0] at hx hb;have HX:=Lib.hid hx;have HB:=Lib.hid hb;have HW0:=Lib.hid hW0;clear h0 h1 h2 h3 h4 h5 hl hpf h12 hx hb hW0
 go_enter Tryz.func17,Tryz.ntmps17
 go_upto_region 1 with fail;rw [HW0.out];clear HW0;obtain ⟨q0,q1,q2,q3,q4,q5⟩:=HX.out.p;have kc:=KC.out W0 HB.out
 by_cases hck:checkP p=0
 ·rw [hck] at kc
  have HLE:Hid (leftL p l (tl,tc) now=(idxF (toldA p.ra (tl,tc) now) l).filter (fun k=>!(hushK p l (tl,tc) now k))):=Lib.hid (by rw [HLL.out,if_pos hck]);clear hck HLL;go_wp2_with fail
  refine kc.mono ?_;rintro e w1 ⟨rfl,hb1⟩;have HX1:=Lib.hid (HX.out.later hb1);have HB1:=Lib.hid (HB.out.trans (hb1.mono HB.out.size));clear kc hb1 q0 q1 q2 q3 q4 q5 HX HB;obtain ⟨⟨q0,q1,q2,q3,q4,q5⟩,e0,t0,t1,n0,_⟩:=HX1.out;have kt:=KT.out w1 HB1.out;go_wp2_with fail
  refine kt.mono ?_;rintro e w2 ⟨r,rfl,hown,hb2⟩;have HX2:=Lib.hid (HX1.out.later hb2);have HB2:=Lib.hid (HB1.out.trans (hb2.mono HB1.out.size));have hs12:=hb2.size;have hlt:=HX1.out.lt
  have kd:=delL_any (idxF (toldA p.ra (tl,tc) now) l) (hushK p l (tl,tc) now) (.pointer (some ⟨w.heap.size,0,none⟩)) (.pointer (some ⟨w.heap.size+1,0,none⟩)) (.pointer (some ⟨w.heap.size+1+1,0,none⟩)) (.pointer (some ⟨w.heap.size+1+1+1,0,none⟩)) w1.heap.size r w2 hown hs12 (by have:=HLN.out;unfold idxF;omega)
   (fun W hW x hx=>KL.out x W (HB2.out.trans (hW.mono (by have:=HB1.out.size;omega))) (by
    have hb12:Below w1.heap.size w1 W:=hb2.trans hW;exact HX1.out.later hb12))
  have hrs:=RdAt.shape (RdAt.own hown);obtain ⟨ra,rc,rfl,_,_⟩:=hrs;clear kt hown hb2 q0 q1 q2 q3 q4 q5 e0 t0 t1 n0;go_wp2_with fail
  refine kd.mono ?_;rintro e w3 ⟨r',rfl,hr',hb3⟩;have HR:=Lib.hid hr';have HB3:=Lib.hid (HB2.out.trans (hb3.mono (by have:=HB1.out.size;omega)));clear kd hr' hb3;go_wp2;go_ret;exact ⟨r',rfl,by rw [HLE.out];exact HR.out,HB3.out⟩
 ·have HLE:Hid (leftL p l (tl,tc) now=[]):=Lib.hid (by rw [HLL.out,if_neg hck])
  generalize checkP p=ck at *;go_wp2_with fail
  refine kc.mono ?_;rintro e w1 ⟨rfl,hb1⟩;have HB1:=Lib.hid (HB.out.trans (hb1.mono HB.out.size));clear kc hb1 q0 q1 q2 q3 q4 q5;go_wp2;go_ret;exact ⟨_,rfl,by rw [HLE.out];exact RdAt.nil _ 1,HB1.out⟩
noncomputable def leftTo (p:PD) (l:List (Al × Value)) (t:Int × Nat) (now:Int) (n:Nat):List Int:=(idxTo (toldC p t now) l n).filter fun k=>!(hushK p l t now k)
theorem leftTo_step {p:PD} {l:List (Al × Value)} {t:Int × Nat} {now:Int} {n:Nat} (h:n < l.length):leftTo p l t now (n+1)=leftTo p l t now n ++ (if toldC p t now l[n]&&!(hushK p l t now (n:Int)) then [(n:Int)] else []):=by
 unfold leftTo;rw [idxTo_step _ _ h,List.filter_append]
 congr 1
 cases toldC p t now l[n]
 ·simp
 ·simp only [if_true,List.filter_cons,List.filter_nil,Bool.true_and]
theorem leftTo_len (p:PD) (l:List (Al × Value)) (t:Int × Nat) (now:Int) (n:Nat):(leftTo p l t now n).length≤n:=by
 unfold leftTo;exact Nat.le_trans (List.length_filter_le _ _) (idxTo_len _ _ _)
theorem leftTo_all (p:PD) (l:List (Al × Value)) (t:Int × Nat) (now:Int):leftTo p l t now l.length=leftL p l t now:=by
 unfold leftTo leftL;have h:=idxTo_and (decide (checkP p=0)) (toldA p.ra t now) l l.length
 have e:toldC p t now=(fun q=>decide (checkP p=0)&&toldA p.ra t now q):=by
  funext q
  unfold toldC;rw [Bool.and_comm]
 rw [e,h]
 split
 ·rename_i hc
  rw [if_pos (of_decide_eq_true hc)]
  rfl
 ·rename_i hc
  rw [if_neg (fun h0=>hc (decide_eq_true h0))]
  rfl
set_option maxHeartbeats 3200000 in
set_option maxRecDepth 100000 in
theorem rleft_any (v:PV) (p:PD) (l:List (Al × Value)) (lv:Value) (tl:Int) (tc:Nat) (now:Int) (w:World) (hp:PolAt w v p) (hpf:PolFitD p) (hl:AlsAt w lv l) (hlen:l.length≤1000000) (h12:∀ q∈l,q.1.fl.length≤12) (htc:tc < 4294967296) :
  Calls Tryz.prog 18 #[v.v,lv,Lab tl tc,.int .i64 now] w fun e w'=>∃ r,e=.returned r∧w'.ownsRow w.heap.size 3 1 r (leftL p l (tl,tc) now).length ((leftL p l (tl,tc) now).map I)∧Below w.heap.size w w':=by
 have hlm:l.length≤maxLen:=by unfold maxLen;omega
 have KT:=Lib.hid (fun (x:Al × Value) (hx:x∈l) W (h:Below w.heap.size w W)=>rtold_any v p x.1 x.2 tl tc now W (hp.later h) hpf ((hl.fld x hx).1.later h) (hl.fld x hx).2 (h12 x hx) htc);have KQ:=Lib.hid (fun k W (h:Below w.heap.size w W)=>rquiet_any v p l lv k tl tc now W (hp.later h) hpf (hl.later h) hlm h12 htc);have HFK:=Lib.hid (fun x hx=>(hl.fld x hx).1);rw [← leftTo_all];obtain ⟨v0,v1,v2,v3,v4,v5⟩:=v;obtain ⟨h0,h1,h2,h3,⟨h4,_⟩,h5,_⟩:=hp;dsimp only at h0 h1 h2 h3 h4 h5 KT KQ;obtain ⟨a0,c0,rfl,_,_⟩:=RdAt.shape h0;obtain ⟨a1,c1,rfl,_,_⟩:=RdAt.shape h1;obtain ⟨a2,c2,rfl,_,_⟩:=RdAt.shape h2;obtain ⟨a3,c3,rfl,_,_⟩:=RdAt.shape h3;obtain ⟨a4,c4,rfl,_,_⟩:=RdAt.shape h4;obtain ⟨a5,c5,rfl,_,_⟩:=RdAt.shape h5;obtain ⟨i0,hi,hz0,hz1,hz2⟩:=info_parts infoInt13;obtain ⟨la,lc,rfl,hlc,hlr⟩:=RdAt.shape hl.row;have HLR:=Lib.hid hlr;have HST:=Lib.hid (fun n h=>leftTo_step (p:=p) (l:=l) (t:=(tl,tc)) (now:=now) (n:=n) h);have HLL:=Lib.hid (fun n=>leftTo_len p l (tl,tc) now n);have HL0:Hid (leftTo p l (tl,tc) now 0=[]):=Lib.hid rfl;have HHU:Hid (∀ k,hushK p l (tl,tc) now k=decide (0 < (quietK p l k (tl,tc) now).length)):=Lib.hid (fun _=>rfl);generalize leftTo p l (tl,tc) now=LT at *;generalize toldC p (tl,tc) now=TC at *;generalize hushK p l (tl,tc) now=HU at *;obtain ⟨W0,hW0⟩:∃ z,(w.alloc (.cells #[.slice a0 p.so.length c0,.slice a1 p.re.length c1,.slice a2 p.pe.length c2,.slice a3 p.ra.length c3,.slice a4 p.ro.length c4,.slice a5 p.ih.length c5] 26)).alloc (.cells #[.int .i64 tl,.int .u32 tc] 36)=z:=⟨_,rfl⟩;have HS0:Hid (QPt w (.slice a0 p.so.length c0) (.slice a1 p.re.length c1) (.slice a2 p.pe.length c2) (.slice a3 p.ra.length c3) (.slice a4 p.ro.length c4) (.slice a5 p.ih.length c5) tl tc W0):=Lib.hid (by rw [← hW0];exact qpt_new w _ _ _ _ _ _ _ _ _ _);have HW0:=Lib.hid hW0;clear h0 h1 h2 h3 h4 h5 hl h12 hpf hW0 hlr hlm
 go_enter Tryz.func18,Tryz.ntmps18
 go_upto_region 1 with fail;rw [HW0.out];clear HW0;go_wp2
 go_loopw [9,10] (fun s9 i wr=>∃ (n:Nat),i=.int .i64 n∧n≤l.length∧Hid (wr.ownsRow W0.heap.size 3 1 s9 (LT n).length ((LT n).map I))∧Hid (Below W0.heap.size W0 wr)) (fun _ i _=>l.length - (intOf i).toNat)
 case atStart=>exact ⟨0,rfl,Nat.zero_le _,Lib.hid (by rw [HL0.out];exact World.ownsRow_nil _ _ _ _),Lib.hid (Below.refl _ _)⟩
 case round =>
  obtain ⟨n,rfl,hn,HO,HB⟩:=hrel
  by_cases hnl:n < l.length
  ·obtain ⟨b,o,rfl,hbl,hcell⟩:=HLR.out (by omega)
   have HSR:=Lib.hid (HS0.out.later HB.out);have hat:=alCells_at l n hnl;have hBw:=HSR.out.below;have p0:=kCq (hcell _ _ (hat 0 _ rfl)) hBw hbl;have p1:=kCq (hcell _ _ (hat 1 _ rfl)) hBw hbl;have p2:=kCq (hcell _ _ (hat 2 _ rfl)) hBw hbl;have p3:=kCq (hcell _ _ (hat 3 _ rfl)) hBw hbl;have p4:=kCq (hcell _ _ (hat 4 _ rfl)) hBw hbl;have p5:=kCq (hcell _ _ (hat 5 _ rfl)) hBw hbl;rw [Nat.add_zero] at p0;rw [← Nat.add_assoc] at p1 p2 p3 p4 p5;have hmem:=List.getElem_mem hnl;have hfk:=HFK.out _ hmem;have KTn:=Lib.hid (fun W (h:Below wr.heap.size wr W)=>KT.out _ hmem W (hBw.trans (h.mono hBw.size)));have KQn:=Lib.hid (fun W (h:Below wr.heap.size wr W)=>KQ.out (n:Int) W (hBw.trans (h.mono hBw.size)));have hst:=HST.out n hnl;rw [HHU.out] at hst;have hll:=HLL.out n;have HST1:=Lib.hid hst;obtain ⟨y,hy⟩:∃ y,l[n]=y:=⟨_,rfl⟩;rw [hy] at KTn HST1 p0 p1 p2 p3 p4 p5 hfk;clear hst hy;obtain ⟨⟨src,fl,alv,ac,fr,til⟩,fv⟩:=y;dsimp only at *;obtain ⟨fa,fc,rfl,_,_⟩:=RdAt.shape hfk;generalize TC (⟨src,fl,alv,ac,fr,til⟩,Value.slice fa fl.length fc)=T at *;generalize quietK p l (n:Int) (tl,tc) now=Q at *;obtain ⟨q0,q1,q2,q3,q4,q5⟩:=HSR.out.p;have t0:=HSR.out.t0;have t1:=HSR.out.t1;have ltq:w.heap.size < wr.heap.size:=by have:=HSR.out.ge;omega
   have ltt:w.heap.size+1 < wr.heap.size:=HSR.out.ge;have ltb:b < wr.heap.size:=Nat.lt_of_lt_of_le hbl hBw.size;have hi0:(0:Int)≤(n:Int):=by omega
   have hi1:(n:Int) < (l.length:Int):=by omega
   clear hmem hfk hat hcell hBw HSR;go_upto_region 5 with fail
   cases T
   ·refine wp_region_held_drew (S:=(fun W=>W.cell? ⟨w.heap.size,0,none⟩=some (.slice a0 p.so.length c0)∧W.cell? ⟨w.heap.size,1,none⟩=some (.slice a1 p.re.length c1)∧W.cell? ⟨w.heap.size,2,none⟩=some (.slice a2 p.pe.length c2)∧W.cell? ⟨w.heap.size,3,none⟩=some (.slice a3 p.ra.length c3)∧W.cell? ⟨w.heap.size,4,none⟩=some (.slice a4 p.ro.length c4)∧W.cell? ⟨w.heap.size,5,none⟩=some (.slice a5 p.ih.length c5)∧W.cell? ⟨w.heap.size+1,0,none⟩=some (.int .i64 tl)∧W.cell? ⟨w.heap.size+1,1,none⟩=some (.int .u32 tc)∧W.cell? ⟨b,o+n * 6,none⟩=some (.string src)∧W.cell? ⟨b,o+n * 6+1,none⟩=some (.slice fa fl.length fc)∧W.cell? ⟨b,o+n * 6+2,none⟩=some (.int .i64 alv)∧W.cell? ⟨b,o+n * 6+3,none⟩=some (.int .u32 ac)∧W.cell? ⟨b,o+n * 6+4,none⟩=some (.int .i64 fr)∧W.cell? ⟨b,o+n * 6+5,none⟩=some (.int .i64 til))) (by kernel_rfl) ⟨q0,q1,q2,q3,q4,q5,t0,t1,p0,p1,p2,p3,p4,p5⟩ (fun hHeld=>?_)
    have hd:Below wr.heap.size wr wr.drew:=(Below.refl _ _).drew;refine plIn [0,1,2,3,4,5,6] ?_
    iterate 7
     refine hP (v:=?_) rfl rfl hHeld ?_ ?_;rotate_left
     ·intro wh hz;iterate 13 obtain ⟨_,hz⟩:=hz
      go_simp
      (try with_reducible rfl)
     simp only [Act.put,aS1,aS2,aS3]
    refine plOut ?_;refine held_call (i:=7) rfl (by kernel_rfl) (by rfl) (fun K hK=>?_)
    (go_simp;go_at_call 33;refine (KTn.out _ hd).mono ?_;rintro e w6 ⟨rfl,hb6⟩;have hB6:=hd.trans (hb6.mono hd.size))
    refine hK.out _ _ ⟨kCq q0 hB6 ltq,kCq q1 hB6 ltq,kCq q2 hB6 ltq,kCq q3 hB6 ltq,kCq q4 hB6 ltq,kCq q5 hB6 ltq,kCq t0 hB6 ltt,kCq t1 hB6 ltt,kCq p0 hB6 ltb,kCq p1 hB6 ltb,kCq p2 hB6 ltb,kCq p3 hB6 ltb,kCq p4 hB6 ltb,kCq p5 hB6 ltb⟩ (fun hHeld=>?_);clear hK K
    (try simp only [Act.put,aS1,aS2,aS3])
    refine hT (i:=8) (v:=?_) rfl rfl hHeld ?_ ?_;rotate_left
    ·intro wh hz;iterate 13 obtain ⟨_,hz⟩:=hz
     go_simp
     (try with_reducible rfl)
    simp only [Act.put,aS1,aS2,aS3];refine plIn [9,10,11,12,13,14,15,16] ?_
    iterate 8
     refine hK rfl rfl hHeld ?_;simp only [Act.put,aS1,aS2,aS3]
    refine plOut ?_;refine hT (i:=17) (v:=?_) rfl rfl hHeld ?_ ?_;rotate_left
    ·intro wh hz;iterate 13 obtain ⟨_,hz⟩:=hz
     go_simp
     (try with_reducible rfl)
    simp only [Act.put,aS1,aS2,aS3];refine wpAnyH_done (by kernel_rfl) ?_ _;have HB8:=Lib.hid (HB.out.trans (hB6.mono HB.out.size));have HO8:=Lib.hid (own_later HO.out hB6);clear hd hb6 hB6 q0 q1 q2 q3 q4 q5 t0 t1 p0 p1 p2 p3 p4 p5 KTn KQn HB HO;have HN1:Hid (LT (n+1)=LT n):=Lib.hid (by rw [HST1.out];simp);go_wp2;go_roundw
    case rel=>exact ⟨n+1,by go_num,by omega,Lib.hid (by rw [HN1.out];exact HO8.out),HB8⟩
    case measure=>(simp [intOf];try omega)
   ·cases Q with
    | nil =>
     refine wp_region_held_drew (S:=(fun W=>W.cell? ⟨w.heap.size,0,none⟩=some (.slice a0 p.so.length c0)∧W.cell? ⟨w.heap.size,1,none⟩=some (.slice a1 p.re.length c1)∧W.cell? ⟨w.heap.size,2,none⟩=some (.slice a2 p.pe.length c2)∧W.cell? ⟨w.heap.size,3,none⟩=some (.slice a3 p.ra.length c3)∧W.cell? ⟨w.heap.size,4,none⟩=some (.slice a4 p.ro.length c4)∧W.cell? ⟨w.heap.size,5,none⟩=some (.slice a5 p.ih.length c5)∧W.cell? ⟨w.heap.size+1,0,none⟩=some (.int .i64 tl)∧W.cell? ⟨w.heap.size+1,1,none⟩=some (.int .u32 tc)∧W.cell? ⟨b,o+n * 6,none⟩=some (.string src)∧W.cell? ⟨b,o+n * 6+1,none⟩=some (.slice fa fl.length fc)∧W.cell? ⟨b,o+n * 6+2,none⟩=some (.int .i64 alv)∧W.cell? ⟨b,o+n * 6+3,none⟩=some (.int .u32 ac)∧W.cell? ⟨b,o+n * 6+4,none⟩=some (.int .i64 fr)∧W.cell? ⟨b,o+n * 6+5,none⟩=some (.int .i64 til))) (by kernel_rfl) ⟨q0,q1,q2,q3,q4,q5,t0,t1,p0,p1,p2,p3,p4,p5⟩ (fun hHeld=>?_);have hd:Below wr.heap.size wr wr.drew:=(Below.refl _ _).drew;refine plIn [0,1,2,3,4,5,6] ?_
     iterate 7
      refine hP (v:=?_) rfl rfl hHeld ?_ ?_;rotate_left
      ·intro wh hz;iterate 13 obtain ⟨_,hz⟩:=hz
       go_simp
       (try with_reducible rfl)
      simp only [Act.put,aS1,aS2,aS3]
     refine plOut ?_;refine held_call (i:=7) rfl (by kernel_rfl) (by rfl) (fun K hK=>?_)
     (go_simp;go_at_call 33;refine (KTn.out _ hd).mono ?_;rintro e w6 ⟨rfl,hb6⟩;have hB6:=hd.trans (hb6.mono hd.size))
     refine hK.out _ _ ⟨kCq q0 hB6 ltq,kCq q1 hB6 ltq,kCq q2 hB6 ltq,kCq q3 hB6 ltq,kCq q4 hB6 ltq,kCq q5 hB6 ltq,kCq t0 hB6 ltt,kCq t1 hB6 ltt,kCq p0 hB6 ltb,kCq p1 hB6 ltb,kCq p2 hB6 ltb,kCq p3 hB6 ltb,kCq p4 hB6 ltb,kCq p5 hB6 ltb⟩ (fun hHeld=>?_);clear hK K
     (try simp only [Act.put,aS1,aS2,aS3])
     refine plIn [8,9,10,11,12,13] ?_
     iterate 6
      refine hP (v:=?_) rfl rfl hHeld ?_ ?_;rotate_left
      ·intro wh hz;iterate 13 obtain ⟨_,hz⟩:=hz
       go_simp
       (try with_reducible rfl)
      simp only [Act.put,aS1,aS2,aS3]
     refine plOut ?_;refine held_call (i:=14) rfl (by kernel_rfl) (by rfl) (fun K hK=>?_)
     (go_simp;go_at_call 14;refine (KQn.out _ hB6).mono ?_;rintro e w7 ⟨r,rfl,hI7,hb7⟩;have hB7:=hB6.trans (hb7.mono hB6.size);obtain ⟨ea,ec,rfl,_,_⟩:=RdAt.shape (RdAt.own hI7))
     refine hK.out _ _ ⟨kCq q0 hB7 ltq,kCq q1 hB7 ltq,kCq q2 hB7 ltq,kCq q3 hB7 ltq,kCq q4 hB7 ltq,kCq q5 hB7 ltq,kCq t0 hB7 ltt,kCq t1 hB7 ltt,kCq p0 hB7 ltb,kCq p1 hB7 ltb,kCq p2 hB7 ltb,kCq p3 hB7 ltb,kCq p4 hB7 ltb,kCq p5 hB7 ltb⟩ (fun hHeld=>?_);clear hK K
     (try simp only [Act.put,aS1,aS2,aS3])
     refine plIn [15,16,17] ?_
     iterate 3
      refine hP (v:=?_) rfl rfl hHeld ?_ ?_;rotate_left
      ·intro wh hz;iterate 13 obtain ⟨_,hz⟩:=hz
       go_simp
       (try with_reducible rfl)
      simp only [Act.put,aS1,aS2,aS3]
     refine plOut ?_;refine wpAnyH_done (by kernel_rfl) ?_ _;have HB8:=Lib.hid (HB.out.trans (hB7.mono HB.out.size));have HO8:=Lib.hid (own_later HO.out hB7);clear hd hb6 hB6 hb7 hB7 hI7 q0 q1 q2 q3 q4 q5 t0 t1 p0 p1 p2 p3 p4 p5 KTn KQn HB HO;have HN1:Hid (LT (n+1)=LT n ++ [(n:Int)]):=Lib.hid (by rw [HST1.out];simp);have hb8:=aBq w7 (.cells #[I n] 3);have hown8:=HO8.out.alloc (.cells #[I n] 3);have hsz8:=HB8.out.size;go_wp2_with (at_builtin;(refine wpList_append_own _ rfl _ _ 38 rfl W0.heap.size 3 i0 (.int .i64 0) 1 8 Tryz.underlying38 hi hz0 hz1 hz2 rfl (by decide) _ _ _ rfl hown8 ⟨w7.heap.size,0,none⟩ 1 1 [I n] rfl rfl (cell_one_new _ _ _) (by simp [Value.oneCell']) (by unfold maxLen;omega) (by omega) (by simp;omega) ?_);intro v' w8 hown' hg8 hnil8)
     have HB9:=Lib.hid ((HB8.out.trans (hb8.mono HB8.out.size)).grown hg8 (by simp;omega) (fun j e=>(hown8.lt j e).1));have HO9:Hid (w8.ownsRow W0.heap.size 3 1 v' (LT (n+1)).length ((LT (n+1)).map I)):=Lib.hid (by rw [HN1.out];simpa using hown');clear hown' hg8 hnil8 hown8 hb8;go_wp2;go_roundw
     case rel=>exact ⟨n+1,by go_num,by omega,HO9,HB9⟩
     case measure=>(simp [intOf];try omega)
    | cons q Q =>
     have hqb:(((q :: Q).length:Int)==0)=false:=by simp;omega
     have hlq:0 < (q :: Q).length:=Nat.succ_pos _;have HLQ:=Lib.hid hlq;generalize q :: Q=QQ at *;clear hlq;refine wp_region_held_drew (S:=(fun W=>W.cell? ⟨w.heap.size,0,none⟩=some (.slice a0 p.so.length c0)∧W.cell? ⟨w.heap.size,1,none⟩=some (.slice a1 p.re.length c1)∧W.cell? ⟨w.heap.size,2,none⟩=some (.slice a2 p.pe.length c2)∧W.cell? ⟨w.heap.size,3,none⟩=some (.slice a3 p.ra.length c3)∧W.cell? ⟨w.heap.size,4,none⟩=some (.slice a4 p.ro.length c4)∧W.cell? ⟨w.heap.size,5,none⟩=some (.slice a5 p.ih.length c5)∧W.cell? ⟨w.heap.size+1,0,none⟩=some (.int .i64 tl)∧W.cell? ⟨w.heap.size+1,1,none⟩=some (.int .u32 tc)∧W.cell? ⟨b,o+n * 6,none⟩=some (.string src)∧W.cell? ⟨b,o+n * 6+1,none⟩=some (.slice fa fl.length fc)∧W.cell? ⟨b,o+n * 6+2,none⟩=some (.int .i64 alv)∧W.cell? ⟨b,o+n * 6+3,none⟩=some (.int .u32 ac)∧W.cell? ⟨b,o+n * 6+4,none⟩=some (.int .i64 fr)∧W.cell? ⟨b,o+n * 6+5,none⟩=some (.int .i64 til))) (by kernel_rfl) ⟨q0,q1,q2,q3,q4,q5,t0,t1,p0,p1,p2,p3,p4,p5⟩ (fun hHeld=>?_);have hd:Below wr.heap.size wr wr.drew:=(Below.refl _ _).drew;refine plIn [0,1,2,3,4,5,6] ?_
     iterate 7
      refine hP (v:=?_) rfl rfl hHeld ?_ ?_;rotate_left
      ·intro wh hz;iterate 13 obtain ⟨_,hz⟩:=hz
       go_simp
       (try with_reducible rfl)
      simp only [Act.put,aS1,aS2,aS3]
     refine plOut ?_;refine held_call (i:=7) rfl (by kernel_rfl) (by rfl) (fun K hK=>?_)
     (go_simp;go_at_call 33;refine (KTn.out _ hd).mono ?_;rintro e w6 ⟨rfl,hb6⟩;have hB6:=hd.trans (hb6.mono hd.size))
     refine hK.out _ _ ⟨kCq q0 hB6 ltq,kCq q1 hB6 ltq,kCq q2 hB6 ltq,kCq q3 hB6 ltq,kCq q4 hB6 ltq,kCq q5 hB6 ltq,kCq t0 hB6 ltt,kCq t1 hB6 ltt,kCq p0 hB6 ltb,kCq p1 hB6 ltb,kCq p2 hB6 ltb,kCq p3 hB6 ltb,kCq p4 hB6 ltb,kCq p5 hB6 ltb⟩ (fun hHeld=>?_);clear hK K
     (try simp only [Act.put,aS1,aS2,aS3])
     refine plIn [8,9,10,11,12,13] ?_
     iterate 6
      refine hP (v:=?_) rfl rfl hHeld ?_ ?_;rotate_left
      ·intro wh hz;iterate 13 obtain ⟨_,hz⟩:=hz
       go_simp
       (try with_reducible rfl)
      simp only [Act.put,aS1,aS2,aS3]
     refine plOut ?_;refine held_call (i:=14) rfl (by kernel_rfl) (by rfl) (fun K hK=>?_)
     (go_simp;go_at_call 14;refine (KQn.out _ hB6).mono ?_;rintro e w7 ⟨r,rfl,hI7,hb7⟩;have hB7:=hB6.trans (hb7.mono hB6.size);obtain ⟨ea,ec,rfl,_,_⟩:=RdAt.shape (RdAt.own hI7))
     refine hK.out _ _ ⟨kCq q0 hB7 ltq,kCq q1 hB7 ltq,kCq q2 hB7 ltq,kCq q3 hB7 ltq,kCq q4 hB7 ltq,kCq q5 hB7 ltq,kCq t0 hB7 ltt,kCq t1 hB7 ltt,kCq p0 hB7 ltb,kCq p1 hB7 ltb,kCq p2 hB7 ltb,kCq p3 hB7 ltb,kCq p4 hB7 ltb,kCq p5 hB7 ltb⟩ (fun hHeld=>?_);clear hK K
     (try simp only [Act.put,aS1,aS2,aS3])
     refine plIn [15,16,17] ?_
     iterate 3
      refine hP (v:=?_) rfl rfl hHeld ?_ ?_;rotate_left
      ·intro wh hz;iterate 13 obtain ⟨_,hz⟩:=hz
       go_simp
       (try with_reducible rfl)
      simp only [Act.put,aS1,aS2,aS3]
     refine plOut ?_;refine wpAnyH_done (by kernel_rfl) ?_ _;have HB8:=Lib.hid (HB.out.trans (hB7.mono HB.out.size));have HO8:=Lib.hid (own_later HO.out hB7);clear hd hb6 hB6 hb7 hB7 hI7 q0 q1 q2 q3 q4 q5 t0 t1 p0 p1 p2 p3 p4 p5 KTn KQn HB HO;have HN1:Hid (LT (n+1)=LT n):=Lib.hid (by rw [HST1.out];rw [decide_eq_true HLQ.out];simp);go_wp2;go_roundw
     case rel=>exact ⟨n+1,by go_num,by omega,Lib.hid (by rw [HN1.out];exact HO8.out),HB8⟩
     case measure=>(simp [intOf];try omega)
  ·obtain rfl:n=l.length:=by omega
   go_wp2;go_ret;exact ⟨_,rfl,World.ownsRow.mono HO.out HS0.out.below.size,HS0.out.below.trans (HB.out.mono HS0.out.below.size)⟩
def ILs (g:Nat) (a:Option Addr) (L:List Int) (W:World):Prop:=∀ j (h:j < L.length),∃ b o,a=some ⟨b,o,none⟩∧b≠g∧b < W.heap.size∧W.cell? ⟨b,o+j,none⟩=some (.int .i64 L[j])
theorem ILs.later {g:Nat} {a:Option Addr} {L:List Int} {W W':World} (h:ILs g a L W) (hb:Below W.heap.size W W'):ILs g a L W':=fun j hj=>by
 obtain ⟨b,o,e,hn,hl,hc⟩:=h j hj;exact ⟨b,o,e,hn,Nat.lt_of_lt_of_le hl hb.size,kCq hc hb hl⟩
theorem ILs.put {g:Nat} {a:Option Addr} {L:List Int} {W:World} (h:ILs g a L W) (i:Nat) (v:Value):ILs g a L (W.setCell ⟨g,i,none⟩ v):=fun j hj=>by
 obtain ⟨b,o,e,hn,hl,hc⟩:=h j hj;exact ⟨b,o,e,hn,by rw [(World.size_setCell _ _ _)];exact hl,by rw [World.cell?_setCell_other _ _ _ _ (by intro e;cases e;exact hn rfl)];exact hc⟩
theorem ils_of {g base:Nat} {a:Option Addr} {c:Nat} {L:List Int} {W:World} (h:W.ownsRow base 3 1 (.slice a L.length c) L.length (L.map I)) (hg:g < base):ILs g a L W:=fun j hj=>by
 obtain ⟨x,y,e,_,hr⟩:=RdAt.shape (RdAt.own h);simp only [Value.slice.injEq] at e;obtain ⟨rfl,_,rfl⟩:=e;obtain ⟨b,o,rfl,hl,hc⟩:=hr (by omega);refine ⟨b,o,rfl,?_,hl,hc j _ (by rw [List.getElem?_map,List.getElem?_eq_getElem hj];rfl)⟩
 have:=(h.lt b rfl).1
 omega
noncomputable def bitTo (p:PD) (l:List (Al × Value)) (t:Int × Nat) (now:Int) (T:List Int) (n:Nat) (i:Nat):Bool:=(T.take n).any fun k=>(quietK p l k t now).contains (i:Int)
noncomputable def bitX (p:PD) (l:List (Al × Value)) (t:Int × Nat) (now:Int) (i:Nat):Bool:=(idxF (toldA p.ra t now) l).any fun k=>(quietK p l k t now).contains (i:Int)
theorem bitTo_step {p:PD} {l:List (Al × Value)} {t:Int × Nat} {now:Int} {T:List Int} {n:Nat} (h:n < T.length) (i:Nat):bitTo p l t now T (n+1) i=(bitTo p l t now T n i || (quietK p l T[n] t now).contains (i:Int)):=by
 unfold bitTo;rw [List.take_succ_eq_append_getElem h,List.any_append]
 simp
theorem idxF_lt {α:Type} {f:α→Bool} {l:List α} {k:Int} (h:k∈idxF f l):0≤k∧k < l.length:=by
 unfold idxF idxTo at h;obtain ⟨i,hi,rfl⟩:=List.mem_map.1 h
 have:=List.mem_range.1 (List.mem_filter.1 hi).1
 omega
theorem quietK_lt {p:PD} {l:List (Al × Value)} {k:Int} {t:Int × Nat} {now:Int} {i:Int} (h:i∈quietK p l k t now):0≤i∧i < p.ih.length:=by
 unfold quietK at h
 split at h
 ·split at h
  ·unfold quietX at h
   split at h
   ·exact idxF_lt h
   ·cases h
  ·cases h
 ·cases h
theorem quietK_len (p:PD) (l:List (Al × Value)) (k:Int) (t:Int × Nat) (now:Int):(quietK p l k t now).length≤p.ih.length:=by
 unfold quietK
 split
 ·split
  ·unfold quietX
   split
   ·exact idxTo_len _ _ _
   ·exact Nat.zero_le _
  ·exact Nat.zero_le _
 ·exact Nat.zero_le _
theorem BW.later {w wr wr':World} {b n:Nat} {X:Nat→Bool} (h:BW w wr b n X) (hb:Below wr.heap.size wr wr'):BW w wr' b n X:=⟨h.row.of_block (hb.block b h.row.lt),h.bl.trans (hb.mono h.bl.size),h.hb⟩
set_option maxHeartbeats 3200000 in
set_option maxRecDepth 100000 in
theorem ibits_any (v:PV) (p:PD) (l:List (Al × Value)) (lv:Value) (tl:Int) (tc:Nat) (now:Int) (w:World) (hp:PolAt w v p) (hpf:PolFitD p) (hl:AlsAt w lv l) (hlen:l.length≤1000000) (h12:∀ q∈l,q.1.fl.length≤12) (h14:p.ih.length≤14) :
  Calls Tryz.prog 15 #[v.v,lv,Lab tl tc,.int .i64 now] w fun e w'=>∃ r,e=.returned r∧BsAt w' r p.ih.length (bitX p l (tl,tc) now)∧Below w.heap.size w w':=by
 have hlm:l.length≤maxLen:=by unfold maxLen;omega
 have KT:=Lib.hid (fun W (h:Below w.heap.size w W)=>told_any v p l lv tl tc now W (hp.later h) hpf (hl.later h) hlen h12);have KQ:=Lib.hid (fun k W (h:Below w.heap.size w W)=>iquiet_any v p l lv k tl tc now W (hp.later h) hpf (hl.later h) hlm);have HLN:=Lib.hid (idxTo_len (toldA p.ra (tl,tc) now) l l.length);have HQL:=Lib.hid (fun k i (h:i∈quietK p l k (tl,tc) now)=>quietK_lt h);have HBX:Hid (∀ i,bitX p l (tl,tc) now i=bitTo p l (tl,tc) now (idxF (toldA p.ra (tl,tc) now) l) (idxF (toldA p.ra (tl,tc) now) l).length i):=Lib.hid (fun i=>by unfold bitX bitTo;rw [List.take_length]);obtain ⟨v0,v1,v2,v3,v4,v5⟩:=v;obtain ⟨h0,h1,h2,h3,⟨h4,_⟩,h5,_⟩:=hp;dsimp only at *;obtain ⟨a0,c0,rfl,_,_⟩:=RdAt.shape h0;obtain ⟨a1,c1,rfl,_,_⟩:=RdAt.shape h1;obtain ⟨a2,c2,rfl,_,_⟩:=RdAt.shape h2;obtain ⟨a3,c3,rfl,_,_⟩:=RdAt.shape h3;obtain ⟨a4,c4,rfl,_,_⟩:=RdAt.shape h4;obtain ⟨a5,c5,rfl,_,_⟩:=RdAt.shape h5;obtain ⟨la,lc,rfl,_,_⟩:=RdAt.shape hl.row;obtain ⟨i0,hi,hz0,hz1,hz2⟩:=info_parts info_bool;obtain ⟨W0,hW0⟩:∃ z,(w.alloc (.cells #[.slice a0 p.so.length c0,.slice a1 p.re.length c1,.slice a2 p.pe.length c2,.slice a3 p.ra.length c3,.slice a4 p.ro.length c4,.slice a5 p.ih.length c5] 26)).alloc (.cells #[.int .i64 tl,.int .u32 tc] 36)=z:=⟨_,rfl⟩;have HS0:Hid (QPt w (.slice a0 p.so.length c0) (.slice a1 p.re.length c1) (.slice a2 p.pe.length c2) (.slice a3 p.ra.length c3) (.slice a4 p.ro.length c4) (.slice a5 p.ih.length c5) tl tc W0):=Lib.hid (by rw [← hW0];exact qpt_new w _ _ _ _ _ _ _ _ _ _);have HW0:=Lib.hid hW0;have HN:=Lib.hid (BW.new W0 p.ih.length);clear h0 h1 h2 h3 h4 h5 hl hpf h12 hW0
 go_enter Tryz.func15,Tryz.ntmps15
 go_upto_region 1 with fail;rw [HW0.out];clear HW0;obtain ⟨q0,q1,q2,q3,q4,q5⟩:=HS0.out.p;go_upto_region 2 with ((with_reducible refine wpList_make_row _ rfl _ _ 41 rfl 4 i0 (.bool false) Tryz.underlying41 hi hz0 hz1 rfl .i64 .i64 p.ih.length ?hl ?hc ?hb ?h63 ?_);(case hl=>rfl);(case hc=>rfl);(case hb=>rw [hz2];omega);(case h63=>omega));refine wp_forget3 (fun W=>BW W0 W W0.heap.size p.ih.length (fun _=>false)∧W0.heap.size < W.heap.size) ⟨HN.out,by rw [World.size_alloc];omega⟩ (fun w1 hw1=>?_);have H1:=Lib.hid hw1.1;have hg1:=hw1.2;have HS1:=Lib.hid (HS0.out.later H1.out.bl);clear hw1 HN q0 q1 q2 q3 q4 q5;obtain ⟨q0,q1,q2,q3,q4,q5⟩:=HS1.out.p;have t0:=HS1.out.t0;have t1:=HS1.out.t1;have kt:=KT.out w1 HS1.out.below;go_wp2_with fail
 refine kt.mono ?_;rintro e w2 ⟨r,rfl,hown,hb2⟩;have H2:=Lib.hid (H1.out.later hb2);have hrs:=RdAt.shape (RdAt.own hown);obtain ⟨ra,rc,rfl,_,_⟩:=hrs;have HT2:=Lib.hid (ils_of hown hg1);have HTL:Hid (∀ k∈idxF (toldA p.ra (tl,tc) now) l,0≤k∧k < l.length):=Lib.hid (fun k hk=>idxF_lt hk);have htl:=HLN.out;rw [show idxTo (toldA p.ra (tl,tc) now) l l.length=idxF (toldA p.ra (tl,tc) now) l from rfl] at htl;generalize idxF (toldA p.ra (tl,tc) now) l=T at *;clear kt hown hb2 q0 q1 q2 q3 q4 q5 t0 t1 H1 HS1;have hgw:=HS0.out.below.size;go_wp2
 go_loopw [24] (fun i wr=>∃ (n:Nat),i=.int .i64 n∧n≤T.length∧Hid (BW W0 wr W0.heap.size p.ih.length (bitTo p l (tl,tc) now T n))∧Hid (ILs W0.heap.size ra T wr)) (fun i _=>T.length - (intOf i).toNat)
 case atStart=>exact ⟨0,rfl,Nat.zero_le _,Lib.hid (H2.out.congr (fun j _=>by unfold bitTo;simp)),HT2⟩
 case round =>
  clear H2 HT2;obtain ⟨n,rfl,hn,HW,HT⟩:=hrel
  by_cases hnl:n < T.length
  ·obtain ⟨tb,tof,rfl,htb,htbl,htc⟩:=HT.out n hnl
   have HST:=Lib.hid (fun i=>bitTo_step (p:=p) (l:=l) (t:=(tl,tc)) (now:=now) hnl i);generalize T[n]=k at *;have HSW:=Lib.hid (HS0.out.later HW.out.bl);obtain ⟨q0,q1,q2,q3,q4,q5⟩:=HSW.out.p;have t0:=HSW.out.t0;have t1:=HSW.out.t1;have kq:=KQ.out k wr HSW.out.below;have HQI:=Lib.hid (HQL.out k);go_wp2_with fail
   refine kq.mono ?_;rintro e w3 ⟨r,rfl,hown,hb3⟩;have HW3:=Lib.hid (HW.out.later hb3);have HT3:=Lib.hid (HT.out.later hb3);have hrs:=RdAt.shape (RdAt.own hown);obtain ⟨qa,qc,rfl,_,_⟩:=hrs;have HQ3:=Lib.hid (ils_of hown (HW.out.row.lt));have hql:=quietK_len p l k (tl,tc) now;generalize quietK p l k (tl,tc) now=Q at *;clear kq hown hb3 q0 q1 q2 q3 q4 q5 t0 t1 HW HT htc htbl HSW;obtain ⟨wo,hwo⟩:∃ z,z=wr:=⟨_,rfl⟩;clear hwo;go_wp2
   go_loopw [35] (fun i wr=>∃ (m:Nat),i=.int .i64 m∧m≤Q.length∧Hid (BW W0 wr W0.heap.size p.ih.length (fun i=>bitTo p l (tl,tc) now T n i || (Q.take m).contains (i:Int)))∧Hid (ILs W0.heap.size (some ⟨tb,tof,none⟩) T wr)∧Hid (ILs W0.heap.size qa Q wr)) (fun i _=>Q.length - (intOf i).toNat)
   case atStart=>exact ⟨0,rfl,Nat.zero_le _,Lib.hid (HW3.out.congr (fun j _=>by simp)),HT3,HQ3⟩
   case round =>
    clear HW3 HT3 HQ3;obtain ⟨m,rfl,hm,HW,HT,HQ⟩:=hrel
    by_cases hml:m < Q.length
    ·obtain ⟨qb,qo,rfl,hqb,hqbl,hqc⟩:=HQ.out m hml
     obtain ⟨hz0',hz1'⟩:=HQI.out _ (List.getElem_mem hml);have HTK:Hid (Q.take (m+1)=Q.take m ++ [Q[m]]):=Lib.hid (List.take_succ_eq_append_getElem hml);obtain ⟨z,hz⟩:∃ z:Nat,Q[m]=(z:Int):=⟨(Q[m]).toNat,by omega⟩;rw [hz] at hqc hz0' hz1' HTK;have hzl:z < p.ih.length:=by omega
     have qc0:=HW.out.row.cell hzl;have qf0:=HW.out.row.frozen z
     have HN2:=Lib.hid ((HW.out.put z true).congr (Y:=fun i=>bitTo p l (tl,tc) now T n i || (Q.take (m+1)).contains (i:Int)) (fun j _=>by
      rw [HTK.out]
      by_cases e:j=z
      ·subst e;simp
      ·simp [e,show ¬ ((j:Int)=(z:Int)) by omega]))
     have HT2:=Lib.hid (HT.out.put z (.bool true));have HQ2:=Lib.hid (HQ.out.put z (.bool true));clear hz;go_wp2;go_roundw
     case rel=>exact ⟨m+1,by go_num,by omega,HN2,HT2,HQ2⟩
     case measure=>(simp [intOf];try omega)
    ·obtain rfl:m=Q.length:=by omega
     have HN2:=Lib.hid (HW.out.congr (Y:=bitTo p l (tl,tc) now T (n+1)) (fun j _=>by rw [List.take_length,HST.out]));go_wp2;go_roundw
     case rel=>exact ⟨n+1,by go_num,by omega,HN2,HT⟩
     case measure=>(simp [intOf];try omega)
  ·obtain rfl:n=T.length:=by omega
   go_wp2;go_ret;exact ⟨_,rfl,⟨_,rfl,HW.out.row.congr (fun j hj=>by rw [HBX.out])⟩,HS0.out.below.trans (HW.out.bl.mono hgw)⟩
end Go.Proofs.YtipnhpfpppblhaaGreat
namespace Go.Proofs.YtipnhpfpppblhaaGreat
open Go.RowKit
abbrev sevB:ByteArray:=⟨#[115,101,118]⟩
abbrev teamB:ByteArray:=⟨#[116,101,97,109]⟩
abbrev hiB:ByteArray:=⟨#[104,105,103,104]⟩
abbrev loB:ByteArray:=⟨#[108,111,119]⟩
abbrev tB:ByteArray:=⟨#[116]⟩
abbrev promB:ByteArray:=⟨#[112,114,111,109]⟩
abbrev flO (s:ByteArray):List Fld:=[(sevB,s),(teamB,tB)]
abbrev alO (s:ByteArray) (lv:Int):Al:=⟨promB,flO s,lv,0,0,0⟩
abbrev mtO (s:ByteArray):Mt:=⟨sevB,0,s⟩
abbrev ihO (lv:Int) (bv fv wv:Value):PIh:=⟨[teamB],lv,0,[mtO hiB],[mtO loB],bv,fv,wv⟩
abbrev pdO (lv:Int) (bv fv wv:Value):PD:=⟨[],[],[],[],[],[ihO lv bv fv wv]⟩
abbrev lsO (va vb:Value):List (Al × Value):=[(alO hiB 5,va),(alO loB 0,vb)]
set_option maxRecDepth 1000000 in
theorem ids_two:decide (shortL (idB promB (flO hiB))=shortL (idB promB (flO loB)))=false:=by kernel_rfl
theorem fineO (s:ByteArray) (h:s.size≤200):fineM (mtO s)=true:=by
 unfold fineM;have h1:nameL (B sevB)=true:=by kernel_rfl
 show (nameL (B sevB)&&decide ((0:Int)≤0)&&decide ((0:Int)≤3)&&decide (s.size≤200)&&(decide ((0:Int) < 2) || _))=true;rw [h1,decide_eq_true h];rfl
theorem fitO (s u:ByteArray) (h:u.size≤200) (b:Bool) (he:(s.toList==u.toList)=b):fitM (flO s) (mtO u)=b:=by
 unfold fitM;rw [fineO u h]
 have hv:valueF (flO s) (mtO u).nm=s:=by
  unfold valueF
  have:((flO s).find? fun f=>f.1.toList==(mtO u).nm.toList)=some (sevB,s):=by
   rw [List.find?_cons]
   have:((sevB:ByteArray).toList==(mtO u).nm.toList)=true:=by kernel_rfl
   rw [this]
  rw [this]
 rw [hv];unfold opM;rw [if_pos rfl];show (true&&(s.toList==u.toList))=b;rw [he];rfl
theorem checkO (lv:Int) (bv fv wv:Value) (h:rightL lv=true):checkP (pdO lv bv fv wv)=0:=by
 have hb:badIh (ihO lv bv fv wv)=false:=by
  unfold badIh whenP;have h1:byP [teamB]=true:=by kernel_rfl
  have h2:plainT hiB=true:=by kernel_rfl
  have h3:plainT loB=true:=by kernel_rfl
  show (!byP [teamB] || !rightL lv || !(([mtO hiB].all fun m=>plainT m.val&&fineM m)&&decide ([mtO hiB].length≤12)) || !(([mtO loB].all fun m=>plainT m.val&&fineM m)&&decide ([mtO loB].length≤12)))=false;rw [h1,h];simp only [List.all_cons,List.all_nil,h2,h3,fineO hiB (by decide),fineO loB (by decide)]
  rfl
 unfold checkP;have h1:longP (pdO lv bv fv wv)=false:=by kernel_rfl
 have h2:namesP (pdO lv bv fv wv)=true:=by
  show (namedP []&&namedP []&&namedP []&&namedP [])=true
  have:namedP []=true:=by kernel_rfl
  rw [this];rfl
 have h3:((pdO lv bv fv wv).ih.any badIh)=false:=by
  show ([ihO lv bv fv wv].any badIh)=false;rw [List.any_cons,hb];rfl
 rw [h1,h2,h3]
 rfl
theorem ruleO (lv:Int) (bv fv wv va vb:Value):ruleQ [] (lsO va vb) (alO loB 0) (2,0) 0 (ihO lv bv fv wv)=flowsL lv 0 2 0:=by
 have hc:cutAl [] (alO loB 0) (2,0)=alO loB 0:=by
  rw [cutAl_yes (by kernel_rfl)];have hv:visL [] (flO loB) (0,0) (2,0)=flO loB:=by kernel_rfl
  show (⟨promB,visL [] (flO loB) (0,0) (2,0),0,0,0,0⟩:Al)=_;rw [hv]
 have ha:allM (flO loB) [mtO loB]=true:=by unfold allM;rw [List.all_cons,fitO loB loB (by decide) true (by kernel_rfl)];rfl
 have hh:allM (flO hiB) [mtO hiB]=true:=by unfold allM;rw [List.all_cons,fitO hiB hiB (by decide) true (by kernel_rfl)];rfl
 have hl:alikeM [teamB] (flO hiB) (flO loB)=true:=by kernel_rfl
 have hg:goodBy (ihO lv bv fv wv) (idA (alO loB 0)) (flO loB) (alO hiB 5)=true:=by
  unfold goodBy;show (allM (flO hiB) [mtO hiB]&&alikeM [teamB] (flO hiB) (flO loB)&&(shortL (idB promB (flO hiB)) != shortL (idB promB (flO loB))))=true;rw [hh,hl];have h2:=of_decide_eq_false ids_two;rw [Bool.true_and,Bool.true_and,bne_iff_ne];exact h2
 have hgo:goesA 0 (alO hiB 5,va)=true:=by
  show (rightA (alO hiB 5)&&firesA (alO hiB 5) 0)=true;have h1:rightA (alO hiB 5)=true:=by kernel_rfl
  rw [h1];rfl
 unfold ruleQ;rw [hc]
 have hby:byM (ihO lv bv fv wv) (lsO va vb) (idA (alO loB 0)) (flO loB) 0=true:=by
  unfold byM;show (allM (flO loB) [mtO loB]&&((lsO va vb).filter (goesA 0)).any fun p=>goodBy (ihO lv bv fv wv) (idA (alO loB 0)) (flO loB) p.1)=true;rw [ha,Bool.true_and,List.filter_cons,if_pos hgo,List.any_cons,hg]
  rfl
 show (flowsL lv 0 2 0&&byM (ihO lv bv fv wv) (lsO va vb) (idA (alO loB 0)) (flO loB) 0)=_;rw [hby,Bool.and_true]
theorem quietO (lv:Int) (bv fv wv va vb:Value) (h:rightL lv=true) (b:Bool) (hf:flowsL lv 0 2 0=b):quietK (pdO lv bv fv wv) (lsO va vb) 1 (2,0) 0=if b then [0] else []:=by
 have hk:=quietK_at (p:=pdO lv bv fv wv) (l:=lsO va vb) (j:=1) (t:=(2,0)) (now:=0) (Nat.lt_add_one 1);rw [show ((1:Nat):Int)=1 from rfl] at hk;rw [hk];show quietX (pdO lv bv fv wv) (lsO va vb) (alO loB 0) (2,0) 0=_;unfold quietX;have h1:rightA (alO loB 0)=true:=by kernel_rfl
 have h2:cutOk [] (flO loB) (0,0) (2,0)=true:=by kernel_rfl
 rw [h1,checkO lv bv fv wv h];show (if (true&&decide ((0:Int)=0)&&cutOk [] (flO loB) (0,0) (2,0))=true then idxF (ruleQ [] (lsO va vb) (alO loB 0) (2,0) 0) [ihO lv bv fv wv] else [])=_;rw [h2];show idxF (ruleQ [] (lsO va vb) (alO loB 0) (2,0) 0) [ihO lv bv fv wv]=_;unfold idxF;show idxTo (ruleQ [] (lsO va vb) (alO loB 0) (2,0) 0) [ihO lv bv fv wv] (0+1)=_;rw [idxTo_step (k:=0) _ [ihO lv bv fv wv] (Nat.lt_add_one 0)];show [] ++ (if ruleQ [] (lsO va vb) (alO loB 0) (2,0) 0 (ihO lv bv fv wv)=true then [((0:Nat):Int)] else [])=_;rw [ruleO,hf]
 cases b <;> rfl
theorem toldO (va vb:Value):idxF (toldA [] (2,0) 0) (lsO va vb)=[1]:=by
 have h1:toldA [] (2,0) 0 (alO hiB 5,va)=false:=by
  show (cutOk [] (flO hiB) (5,0) (2,0)&&rightA (alO hiB 5)&&firesA (alO hiB 5) 0)=false
  have:cutOk [] (flO hiB) (5,0) (2,0)=false:=by kernel_rfl
  rw [this];rfl
 have h2:toldA [] (2,0) 0 (alO loB 0,vb)=true:=by
  show (cutOk [] (flO loB) (0,0) (2,0)&&rightA (alO loB 0)&&firesA (alO loB 0) 0)=true;have h3:cutOk [] (flO loB) (0,0) (2,0)=true:=by kernel_rfl
  have h4:rightA (alO loB 0)=true:=by kernel_rfl
  rw [h3,h4];rfl
 unfold idxF;show idxTo (toldA [] (2,0) 0) (lsO va vb) (0+1+1)=_;rw [idxTo_step (k:=0+1) _ (lsO va vb) (Nat.lt_add_one 1),idxTo_step (k:=0) _ (lsO va vb) (Nat.lt_of_lt_of_le (Nat.lt_add_one 0) (Nat.le_succ 1))];show ([] ++ (if toldA [] (2,0) 0 (alO hiB 5,va)=true then [((0:Nat):Int)] else [])) ++ (if toldA [] (2,0) 0 (alO loB 0,vb)=true then [((1:Nat):Int)] else [])=_;rw [h1,h2]
 rfl
theorem leftO (lv:Int) (bv fv wv va vb:Value) (h:rightL lv=true) (b:Bool) (hf:flowsL lv 0 2 0=b):leftL (pdO lv bv fv wv) (lsO va vb) (2,0) 0=if b then [] else [1]:=by
 unfold leftL;rw [checkO lv bv fv wv h,if_pos rfl];show (idxF (toldA [] (2,0) 0) (lsO va vb)).filter (fun k=>!(hushK (pdO lv bv fv wv) (lsO va vb) (2,0) 0 k))=_;rw [toldO,List.filter_cons];unfold hushK;rw [quietO lv bv fv wv va vb h b hf]
 cases b <;> rfl
theorem bitO (lv:Int) (bv fv wv va vb:Value) (h:rightL lv=true) (hf:flowsL lv 0 2 0=true):bitX (pdO lv bv fv wv) (lsO va vb) (2,0) 0 0=true:=by
 unfold bitX;show ((idxF (toldA [] (2,0) 0) (lsO va vb)).any fun k=>(quietK (pdO lv bv fv wv) (lsO va vb) k (2,0) 0).contains ((0:Nat):Int))=true;rw [toldO,List.any_cons,quietO lv bv fv wv va vb h true hf]
 rfl
theorem fl_row {w:World} {b:Nat} {fl:List Fld} (hb:b < w.heap.size) (h:∀ (j:Nat) (v:Value),(fldCells fl)[j]?=some v→w.cell? ⟨b,j,none⟩=some v):FldsAt w (.slice (some ⟨b,0,none⟩) fl.length fl.length) fl :=
 RdAt.mk (fldCells_len fl) (Nat.le_refl _) hb (fun j x hj=>by rw [Nat.zero_add];exact h j x hj)
theorem alloc_row (w:World) (cs:List Value) (t:TypeId) (j:Nat) (v:Value) (h:cs[j]?=some v):(w.alloc (.cells cs.toArray t)).cell? ⟨w.heap.size,j,none⟩=some v:=by
 have hc:(w.alloc (.cells cs.toArray t)).cell? ⟨w.heap.size,j,none⟩=_:=World.cell?_alloc_at _ _ _ _ rfl;rw [hc,List.getElem?_toArray];exact h
theorem alloc_facts (w:World) (cs:List Value) (t:TypeId) (W:World) (h:w.alloc (.cells cs.toArray t)=W):W.heap.size=w.heap.size+1∧Below w.heap.size w W∧∀ (j:Nat) (v:Value),cs[j]?=some v→W.cell? ⟨w.heap.size,j,none⟩=some v:=by
 subst h;exact ⟨World.size_alloc _ _,aBq _ _,alloc_row w cs t⟩
set_option maxHeartbeats 1600000 in
set_option maxRecDepth 100000 in
theorem of13_any (s:ByteArray) (lv:Int) (w:World) :
  Calls Tryz.prog 24 #[.string s,.int .i64 lv] w fun e w'=>∃ b,e=.returned (.agg #[.string promB,.slice (some ⟨b,0,none⟩) 2 2,.int .i64 lv,.int .u32 0,.int .i64 0,.int .i64 0])∧FldsAt w' (.slice (some ⟨b,0,none⟩) 2 2) (flO s)∧Below w.heap.size w w':=by
 obtain ⟨W1,hW1⟩:∃ z,w.alloc (.cells #[.string promB,.slice (some ⟨w.heap.size+1,0,none⟩) 2 2,.int .i64 lv,.int .u32 0,.int .i64 0,.int .i64 0] 54)=z:=⟨_,rfl⟩;obtain ⟨s1,b1,c1⟩:=alloc_facts w [.string promB,.slice (some ⟨w.heap.size+1,0,none⟩) 2 2,.int .i64 lv,.int .u32 0,.int .i64 0,.int .i64 0] 54 W1 hW1;obtain ⟨W2,hW2⟩:∃ z,W1.alloc (.cells #[.string sevB,.string s,.string teamB,.string tB] 90)=z:=⟨_,rfl⟩;obtain ⟨s2,b2,c2⟩:=alloc_facts W1 [.string sevB,.string s,.string teamB,.string tB] 90 W2 hW2;have hR:Hid (W2.rangeAt w.heap.size 0 [.string promB,.slice (some ⟨w.heap.size+1,0,none⟩) 2 2,.int .i64 lv,.int .u32 0,.int .i64 0,.int .i64 0]):=Lib.hid (fun j v hj=>by rw [Nat.zero_add];exact kCq (c1 j v hj) b2 (by show w.heap.size < W1.heap.size;omega));have hF:Hid (FldsAt W2 (.slice (some ⟨w.heap.size+1,0,none⟩) 2 2) (flO s)):=Lib.hid (by rw [← s1];exact fl_row (fl:=flO s) (by omega) (fun j v hj=>c2 j v hj));have HB:=Lib.hid (b1.trans (b2.mono b1.size));have HW1:=Lib.hid hW1;have HW2:=Lib.hid hW2;clear s1 b1 c1 s2 b2 c2 hW1 hW2
 go_enter Tryz.func24,Tryz.ntmps24
 go_wp2;rw [HW1.out,HW2.out];refine bodyPost_ret (results_agg1 rfl _ _ w.heap.size [.string promB,.slice (some ⟨w.heap.size+1,0,none⟩) 2 2,.int .i64 lv,.int .u32 0,.int .i64 0,.int .i64 0] (.struct _) rfl hR.out Tryz.underlying54 rfl (by kernel_rfl)) rfl ?_;exact ⟨_,rfl,hF.out,HB.out⟩
set_option maxHeartbeats 1600000 in
set_option maxRecDepth 100000 in
theorem rules13_any (lv:Int) (w:World) :
  Calls Tryz.prog 25 #[.int .i64 lv] w fun e w'=>∃ b bv fv wv,e=.returned (.agg #[.slice none 0 0,.slice none 0 0,.slice none 0 0,.slice none 0 0,.slice none 0 0,.slice (some ⟨b,0,none⟩) 1 1])∧PolAt w' ⟨.slice none 0 0,.slice none 0 0,.slice none 0 0,.slice none 0 0,.slice none 0 0,.slice (some ⟨b,0,none⟩) 1 1⟩ (pdO lv bv fv wv)∧Below w.heap.size w w':=by
 obtain ⟨W1,hW1⟩:∃ z,w.alloc (.cells #[.slice none 0 0,.slice none 0 0,.slice none 0 0,.slice none 0 0,.slice none 0 0,.slice (some ⟨w.heap.size+1+1+1+1,0,none⟩) 1 1] 26)=z:=⟨_,rfl⟩;obtain ⟨s1,b1,c1⟩:=alloc_facts w [.slice none 0 0,.slice none 0 0,.slice none 0 0,.slice none 0 0,.slice none 0 0,.slice (some ⟨w.heap.size+1+1+1+1,0,none⟩) 1 1] 26 W1 hW1;obtain ⟨W2,hW2⟩:∃ z,W1.alloc (.cells #[.string teamB] 9)=z:=⟨_,rfl⟩;obtain ⟨s2,b2,c2⟩:=alloc_facts W1 [.string teamB] 9 W2 hW2;obtain ⟨W3,hW3⟩:∃ z,W2.alloc (.cells #[.string sevB,.int .i64 0,.string hiB] 92)=z:=⟨_,rfl⟩;obtain ⟨s3,b3,c3⟩:=alloc_facts W2 [.string sevB,.int .i64 0,.string hiB] 92 W3 hW3;obtain ⟨W4,hW4⟩:∃ z,W3.alloc (.cells #[.string sevB,.int .i64 0,.string loB] 92)=z:=⟨_,rfl⟩;obtain ⟨s4,b4,c4⟩:=alloc_facts W3 [.string sevB,.int .i64 0,.string loB] 92 W4 hW4;obtain ⟨W5,hW5⟩:∃ z,W4.alloc (.cells #[.slice (some ⟨w.heap.size+1,0,none⟩) 1 1,.int .i64 lv,.int .u32 0,.slice (some ⟨w.heap.size+1+1,0,none⟩) 1 1,.slice (some ⟨w.heap.size+1+1+1,0,none⟩) 1 1] 51)=z:=⟨_,rfl⟩;obtain ⟨s5,b5,c5⟩:=alloc_facts W4 [.slice (some ⟨w.heap.size+1,0,none⟩) 1 1,.int .i64 lv,.int .u32 0,.slice (some ⟨w.heap.size+1+1,0,none⟩) 1 1,.slice (some ⟨w.heap.size+1+1+1,0,none⟩) 1 1] 51 W5 hW5;have k45:Below W4.heap.size W4 W5:=b5;have k35:Below W3.heap.size W3 W5:=b4.trans (k45.mono b4.size);have k25:Below W2.heap.size W2 W5:=b3.trans (k35.mono b3.size);have k15:Below W1.heap.size W1 W5:=b2.trans (k25.mono b2.size);have hR:Hid (W5.rangeAt w.heap.size 0 [.slice none 0 0,.slice none 0 0,.slice none 0 0,.slice none 0 0,.slice none 0 0,.slice (some ⟨w.heap.size+1+1+1+1,0,none⟩) 1 1]):=Lib.hid (fun j v hj=>by rw [Nat.zero_add];exact kCq (c1 j v hj) k15 (by show w.heap.size < W1.heap.size;omega))
 have hin:IhIn W5 (ihO lv (.slice (some ⟨w.heap.size+1,0,none⟩) 1 1) (.slice (some ⟨w.heap.size+1+1,0,none⟩) 1 1) (.slice (some ⟨w.heap.size+1+1+1,0,none⟩) 1 1)):=by
  refine ⟨?_,?_,?_⟩
  ·rw [← s1]
   exact RdAt.mk (xs:=[teamB].map Value.string) rfl (Nat.le_refl _) (by omega) (fun j x hj=>by rw [Nat.zero_add];exact kCq (c2 j x hj) k25 (by show W1.heap.size < W2.heap.size;omega))
  ·rw [← s1,← s2]
   exact RdAt.mk (xs:=mtCells [mtO hiB]) rfl (Nat.le_refl _) (by omega) (fun j x hj=>by rw [Nat.zero_add];exact kCq (c3 j x hj) k35 (by show W2.heap.size < W3.heap.size;omega))
  ·rw [← s1,← s2,← s3]
   exact RdAt.mk (xs:=mtCells [mtO loB]) rfl (Nat.le_refl _) (by omega) (fun j x hj=>by rw [Nat.zero_add];exact kCq (c4 j x hj) k45 (by show W3.heap.size < W4.heap.size;omega))
 have hP:Hid (PolAt W5 ⟨.slice none 0 0,.slice none 0 0,.slice none 0 0,.slice none 0 0,.slice none 0 0,.slice (some ⟨w.heap.size+1+1+1+1,0,none⟩) 1 1⟩ (pdO lv (.slice (some ⟨w.heap.size+1,0,none⟩) 1 1) (.slice (some ⟨w.heap.size+1+1,0,none⟩) 1 1) (.slice (some ⟨w.heap.size+1+1+1,0,none⟩) 1 1))):=Lib.hid (by
  refine ⟨RdAt.nil _ _,RdAt.nil _ _,RdAt.nil _ _,RdAt.nil _ _,⟨RdAt.nil _ _,fun r hr=>by cases hr⟩,?_,fun x hx=>by rw [List.mem_singleton.1 hx];exact hin⟩;show RdAt W5 (.slice (some ⟨w.heap.size+1+1+1+1,0,none⟩) 1 1) 1 5 (cellsG ihC [ihO lv (.slice (some ⟨w.heap.size+1,0,none⟩) 1 1) (.slice (some ⟨w.heap.size+1+1,0,none⟩) 1 1) (.slice (some ⟨w.heap.size+1+1+1,0,none⟩) 1 1)]);have s4':W4.heap.size=w.heap.size+1+1+1+1:=by omega
  rw [← s4'];exact RdAt.mk rfl (Nat.le_refl _) (by omega) (fun j x hj=>by rw [Nat.zero_add];exact c5 j x hj))
 have HB:=Lib.hid (b1.trans (k15.mono b1.size));have HW1:=Lib.hid hW1;have HW2:=Lib.hid hW2;have HW3:=Lib.hid hW3;have HW4:=Lib.hid hW4;have HW5:=Lib.hid hW5;clear s1 b1 c1 s2 b2 c2 s3 b3 c3 s4 b4 c4 s5 b5 c5 k45 k35 k25 k15 hin hW1 hW2 hW3 hW4 hW5
 go_enter Tryz.func25,Tryz.ntmps25
 go_wp2;rw [HW1.out,HW2.out,HW3.out,HW4.out,HW5.out];refine bodyPost_ret (results_agg1 rfl _ _ w.heap.size [.slice none 0 0,.slice none 0 0,.slice none 0 0,.slice none 0 0,.slice none 0 0,.slice (some ⟨w.heap.size+1+1+1+1,0,none⟩) 1 1] (.struct _) rfl hR.out Tryz.underlying26 rfl (by kernel_rfl)) rfl ?_;exact ⟨_,_,_,_,rfl,hP.out,HB.out⟩
theorem polO_fit (lv:Int) (bv fv wv:Value):PolFitD (pdO lv bv fv wv):=by
 have hm:∀ u:ByteArray,u.size≤200→MtsFit [mtO u]:=fun u hu m hm=>by rw [List.mem_singleton.1 hm];exact ⟨by show sevB.size≤maxLen;decide,by unfold maxLen;show u.size≤_;omega⟩
 have hw:NmdWide []:=⟨Nat.zero_le _,fun x hx=>(by cases hx),fun x hx=>(by cases hx)⟩;refine ⟨hw,hw,hw,hw,Nat.zero_le _,fun r hr=>(by cases hr),by show 1≤maxLen;decide,fun x hx=>?_⟩;rw [List.mem_singleton.1 hx];exact ⟨⟨by show 1≤maxLen;decide,fun x hx=>by rw [List.mem_singleton.1 hx];decide⟩,(by show 0 < 4294967296;decide),hm hiB (by decide),hm loB (by decide),(by show 1≤maxLen;decide),(by show 1≤maxLen;decide)⟩
theorem lsO_fit {w:World} {ba bb b:Nat} (ha:FldsAt w (.slice (some ⟨ba,0,none⟩) 2 2) (flO hiB)) (hb:FldsAt w (.slice (some ⟨bb,0,none⟩) 2 2) (flO loB)) (hl:b < w.heap.size)
  (hc:∀ (j:Nat) (v:Value),(alCells (lsO (.slice (some ⟨ba,0,none⟩) 2 2) (.slice (some ⟨bb,0,none⟩) 2 2)))[j]?=some v→w.cell? ⟨b,j,none⟩=some v) :
  AlsAt w (.slice (some ⟨b,0,none⟩) 2 2) (lsO (.slice (some ⟨ba,0,none⟩) 2 2) (.slice (some ⟨bb,0,none⟩) 2 2)):=by
 have ff:∀ s:ByteArray,s.size≤100→FldsFit (flO s):=fun s hs f hf=>by
  rcases List.mem_cons.1 hf with rfl | hf
  ·exact ⟨by show sevB.size≤maxLen;decide,by unfold maxLen;show s.size≤_;omega⟩
  ·rw [List.mem_singleton.1 hf];exact ⟨by decide,by decide⟩
 refine ⟨RdAt.mk (alCells_len _) (Nat.le_refl _) hl (fun j x hj=>by rw [Nat.zero_add];exact hc j x hj),fun p hp=>?_⟩
 rcases List.mem_cons.1 hp with rfl | hp
 ·exact ⟨ha,by show promB.size≤maxLen;decide,ff _ (by decide),by show 2≤maxLen;decide,by show 0 < 4294967296;decide⟩
 ·rw [List.mem_singleton.1 hp]
  exact ⟨hb,by show promB.size≤maxLen;decide,ff _ (by decide),by show 2≤maxLen;decide,by show 0 < 4294967296;decide⟩
set_option maxHeartbeats 3200000 in
set_option maxRecDepth 100000 in
theorem lives_any (w:World):Calls Tryz.prog 9 #[] w fun e w'=>e=.returned (.bool true)∧Below w.heap.size w w':=by
 have k1:=of13_any hiB 5 w
 go_enter Tryz.func9,Tryz.ntmps9
 go_wp2_with fail
 refine k1.mono ?_;rintro e w1 ⟨ba,rfl,hFa,hb1⟩;clear k1;have k2:=of13_any loB 0 w1;have HFa:=Lib.hid hFa;have HB1:=Lib.hid hb1;clear hFa hb1;go_wp2_with fail
 refine k2.mono ?_;rintro e w2 ⟨bb,rfl,hFb,hb2⟩;obtain ⟨W3,hW3⟩:∃ z,w2.alloc (.cells #[.string promB,.slice (some ⟨ba,0,none⟩) 2 2,.int .i64 5,.int .u32 0,.int .i64 0,.int .i64 0,.string promB,.slice (some ⟨bb,0,none⟩) 2 2,.int .i64 0,.int .u32 0,.int .i64 0,.int .i64 0] 54)=z:=⟨_,rfl⟩;obtain ⟨s3,b3,c3⟩:=alloc_facts w2 [.string promB,.slice (some ⟨ba,0,none⟩) 2 2,.int .i64 5,.int .u32 0,.int .i64 0,.int .i64 0,.string promB,.slice (some ⟨bb,0,none⟩) 2 2,.int .i64 0,.int .u32 0,.int .i64 0,.int .i64 0] 54 W3 hW3;have HA3:=Lib.hid (lsO_fit ((HFa.out.later hb2).later b3) (hFb.later b3) (b:=w2.heap.size) (by omega) (fun j v hj=>c3 j v hj));have HB3:=Lib.hid ((HB1.out.trans (hb2.mono HB1.out.size)).trans (b3.mono (Nat.le_trans HB1.out.size hb2.size)));have HW3:=Lib.hid hW3;clear k2 hFb hb2 s3 b3 c3 hW3 HFa HB1;go_upto_region 2 with fail;rw [HW3.out];clear HW3
 have h12:∀ q∈lsO (.slice (some ⟨ba,0,none⟩) 2 2) (.slice (some ⟨bb,0,none⟩) 2 2),q.1.fl.length≤12:=fun q hq=>by
  rcases List.mem_cons.1 hq with rfl | hq
  ·show 2≤12;decide
  ·rw [List.mem_singleton.1 hq];show 2≤12;decide
 have H12:=Lib.hid h12;clear h12;generalize w2.heap.size=bl at *;have k4:=rules13_any 1 W3;go_wp2_with fail
 refine k4.mono ?_;rintro e w4 ⟨g4,bv,fv,wv,rfl,hP,hb4⟩;have HA4:=Lib.hid (HA3.out.later hb4);have HB4:=Lib.hid (HB3.out.trans (hb4.mono HB3.out.size));have k5:=ileft_any _ _ _ _ 2 0 0 w4 hP (polO_fit _ _ _ _) HA4.out (by show 2≤1000000;decide) H12.out;rw [leftO 1 bv fv wv _ _ (by decide) true (by decide)] at k5;unfold PV.v at k5;dsimp only at k5;clear k4 hP hb4 HA3 HB3;go_wp2_with fail
 refine k5.mono ?_;rintro e w5 ⟨r1,rfl,hI1,hb5⟩;obtain ⟨xa,xc,hx1,_,_⟩:=RdAt.shape hI1;have HX1:=Lib.hid hx1;have HA5:=Lib.hid (HA4.out.later hb5);have HB5:=Lib.hid (HB4.out.trans (hb5.mono HB4.out.size));clear k5 hb5 HA4 HB4 hI1 hx1;have k6:=rules13_any 3 w5;go_wp2_with fail
 refine k6.mono ?_;rintro e w6 ⟨g6,bv6,fv6,wv6,rfl,hP,hb6⟩;have HA6:=Lib.hid (HA5.out.later hb6);have HB6:=Lib.hid (HB5.out.trans (hb6.mono HB5.out.size));have k7:=ileft_any _ _ _ _ 2 0 0 w6 hP (polO_fit _ _ _ _) HA6.out (by show 2≤1000000;decide) H12.out;rw [leftO 3 bv6 fv6 wv6 _ _ (by decide) false (by decide)] at k7;unfold PV.v at k7;dsimp only at k7;clear k6 hP hb6 HA5 HB5;go_wp2_with fail
 refine k7.mono ?_;rintro e w7 ⟨r2,rfl,hI2,hb7⟩;have HA7:=Lib.hid (HA6.out.later hb7);have HB7:=Lib.hid (HB6.out.trans (hb7.mono HB6.out.size));obtain ⟨xb,xo,xc2,rfl,_,hyl,hyc⟩:=hI2.cells (by simp);have y0:=hyc 0 1 rfl;rw [Nat.add_zero] at y0;obtain rfl:=HX1.out;clear k7 hb7 HA6 HB6 hI2 hyc hyl HX1;have k8:=rules13_any 1 w7;go_wp2_with fail
 refine k8.mono ?_;rintro e w8 ⟨g8,bv8,fv8,wv8,rfl,hP,hb8⟩;have HA8:=Lib.hid (HA7.out.later hb8);have HB8:=Lib.hid (HB7.out.trans (hb8.mono HB7.out.size));have k9:=ibits_any _ _ _ _ 2 0 0 w8 hP (polO_fit _ _ _ _) HA8.out (by show 2≤1000000;decide) H12.out (by show 1≤14;decide);unfold PV.v at k9;dsimp only at k9;have hbit:=bitO 1 bv8 fv8 wv8 (.slice (some ⟨ba,0,none⟩) 2 2) (.slice (some ⟨bb,0,none⟩) 2 2) (by decide) (by decide);have HBIT:=Lib.hid hbit;clear k8 hP hb8 HA7 HB7 y0 hbit;go_wp2_with fail
 refine k9.mono ?_;rintro e w9 ⟨r3,rfl,hBs,hb9⟩;obtain ⟨gb,rfl,hrow⟩:=hBs;have z0:w9.cell? ⟨gb,0,none⟩=some (.bool true):=by rw [← HBIT.out];exact hrow.cell (i:=0) (by show 0 < 1;decide)
 have HA9:=Lib.hid (HA8.out.later hb9);have HB9:=Lib.hid (HB8.out.trans (hb9.mono HB8.out.size));clear k9 hb9 HA8 HB8 hrow HBIT;have k10:=rules13_any 1 w9;go_wp2_with fail
 refine k10.mono ?_;rintro e w10 ⟨g10,bv10,fv10,wv10,rfl,hP,hb10⟩;have HA10:=Lib.hid (HA9.out.later hb10);have HB10:=Lib.hid (HB9.out.trans (hb10.mono HB9.out.size));have k11:=iquiet_any _ _ _ _ 1 2 0 0 w10 hP (polO_fit _ _ _ _) HA10.out (by show 2≤maxLen;decide);rw [quietO 1 bv10 fv10 wv10 _ _ (by decide) true (by decide)] at k11;unfold PV.v at k11;dsimp only at k11;clear k10 hP hb10 HA9 HB9 z0;go_wp2_with fail
 refine k11.mono ?_;rintro e w11 ⟨r4,rfl,hI4,hb11⟩;have hrs:=RdAt.shape (RdAt.own hI4);obtain ⟨xa4,xc4,rfl,_,_⟩:=hrs;have HB11:=Lib.hid (HB10.out.trans (hb11.mono HB10.out.size));clear k11 hb11 hI4;go_wp2;go_ret;exact ⟨rfl,HB11.out⟩
def cutA (x:Al):Al:={ x with fl:=x.fl.take 12 }
theorem cutA_fit {x:Al} (h:AlFit x):AlFit (cutA x):=⟨h.src,fun f hf=>h.fl f (List.mem_of_mem_take hf),Nat.le_trans (List.length_take_le' _ _) h.len,h.c⟩
theorem cut_fld {w:World} {v:Value} {fl:List Fld} (h:FldsAt w v fl):∃ a n c,v=.slice a n c∧n=fl.length∧n≤c∧FldsAt w (.slice a (min n 12) c) (fl.take 12):=by
 obtain ⟨a,c,rfl,hc,hr⟩:=RdAt.shape h;refine ⟨a,_,c,rfl,rfl,hc,?_⟩
 have:=fld_take h (min fl.length 12) (by omega) (fun ha=>by
  rcases Nat.eq_zero_or_pos fl.length with h0 | h0
  ·exact h0
  ·obtain ⟨_,_,h1,_⟩:=hr h0
   rw [ha] at h1;cases h1)
 have e:fl.take (min fl.length 12)=fl.take 12:=by
  rcases Nat.le_total fl.length 12 with h1 | h1
  ·rw [Nat.min_eq_left h1,List.take_of_length_le h1,List.take_length]
  ·rw [Nat.min_eq_right h1]
 rw [e] at this;exact this
theorem alC_snoc (l:List (Al × Value)) (x:Al) (v:Value):alCells (l ++ [(x,v)])=alCells l ++ alC x v:=by
 induction l with
 | nil=>simp [alCells]
 | cons p l ih=>simp [alCells,ih]
theorem alC_cells (l:List (Al × Value)) (h:∀ p∈l,p.2.oneCell'=true):∀ y∈alCells l,y.oneCell'=true:=by
 induction l with
 | nil=>intro y hy;cases hy
 | cons p l ih =>
  intro y hy
  rcases List.mem_append.1 hy with h1 | h1
  ·simp only [alC,List.mem_cons,List.mem_nil_iff,or_false] at h1
   rcases h1 with rfl | rfl | rfl | rfl | rfl | rfl
   ·rfl
   ·exact h p List.mem_cons_self
   all_goals rfl
  ·exact ih (fun q hq=>h q (List.mem_cons_of_mem _ hq)) y h1
theorem info_al:(Tryz.prog.info? 54).map (fun i=>(i.zero,i.size,i.bytes))=some (some (.agg #[.string ⟨#[]⟩,.slice none 0 0,.int .i64 0,.int .u32 0,.int .i64 0,.int .i64 0]),6,72):=by kernel_rfl
theorem info_ral:(Tryz.prog.info? 58).map (fun i=>(i.zero,i.size,i.bytes))=some (some (.agg #[.string ⟨#[]⟩,.slice none 0 0,.int .i64 0,.int .u32 0,.int .i64 0,.int .i64 0]),6,72):=by kernel_rfl
structure FewAt (w:World) (l0:List (Al × Value)) (vo vd:Value) (k:Nat) (wr:World):Prop where
 b:Below w.heap.size w wr
 mem:∃ l1:List (Al × Value),l1.length=k∧wr.ownsRow w.heap.size 54 6 vo k (alCells l1)∧wr.ownsRow w.heap.size 58 6 vd k (alCells l1)∧(vo.ownBlock=none∨vo.ownBlock≠vd.ownBlock) ∧
  l1.map (·.1)=(l0.take k).map (fun p=>cutA p.1)∧∀ p∈l1,FldsAt w p.2 p.1.fl∧AlFit p.1∧p.2.oneCell'=true
theorem row6 (W:World) (a b c d e f:Value) (t:TypeId):RdAt (W.alloc (.cells #[a,b,c,d,e,f] t)) (.slice (some ⟨W.heap.size,0,none⟩) 1 1) 1 6 [a,b,c,d,e,f] :=
 RdAt.mk rfl (Nat.le_refl _) (by rw [World.size_alloc];omega) (fun j x hj=>by
  have hc:(W.alloc (.cells #[a,b,c,d,e,f] t)).cell? ⟨W.heap.size,j,none⟩=_:=World.cell?_alloc_at _ _ _ _ rfl;rw [Nat.zero_add,hc,← Array.getElem?_toList];exact hj)
theorem alc6 (W:World) (a b c d e f:Value) (t:TypeId):C6 W.heap.size a b c d e f (W.alloc (.cells #[a,b,c,d,e,f] t)):=by
 have hc:∀ (i:Nat),(W.alloc (.cells #[a,b,c,d,e,f] t)).cell? ⟨W.heap.size,i,none⟩=_:=fun i=>World.cell?_alloc_at _ _ _ _ rfl;exact ⟨hc 0,hc 1,hc 2,hc 3,hc 4,hc 5⟩
theorem C6.grown {p:Nat} {a b c d e f:Value} {W W':World} {row:Option Nat} (h:C6 p a b c d e f W) (hg:W.grownBy W' row) (hne:some p≠row):C6 p a b c d e f W':=by
 obtain ⟨h0,h1,h2,h3,h4,h5⟩:=h;exact ⟨hg.cell h0 hne,hg.cell h1 hne,hg.cell h2 hne,hg.cell h3 hne,hg.cell h4 hne,hg.cell h5 hne⟩
theorem all6 {a b c d e f:Value} (ha:a.oneCell'=true) (hb:b.oneCell'=true) (hc:c.oneCell'=true) (hd:d.oneCell'=true) (he:e.oneCell'=true) (hf:f.oneCell'=true):∀ y∈[a,b,c,d,e,f],y.oneCell'=true:=by
 intro y hy;simp only [List.mem_cons,List.mem_nil_iff,or_false] at hy
 rcases hy with rfl | rfl | rfl | rfl | rfl | rfl <;> assumption
set_option maxHeartbeats 3200000 in
set_option maxRecDepth 100000 in
theorem few13_any (l:List (Al × Value)) (v:Value) (w:World) (hl:AlsAt w v l) (hn:l.length≤maxLen) :
  Calls Tryz.prog 11 #[v] w fun e w'=>∃ v1 v2 l1,e=.returned (.tuple #[v1,v2])∧Below w.heap.size w w'∧AlsAt w' v1 l1∧AlsAt w' v2 l1∧l1.map (·.1)=(l.take 10).map (fun p=>cutA p.1):=by
 unfold maxLen at hn;have hfld:=hl.fld;obtain ⟨la,lc,rfl,hlc,hlr⟩:=RdAt.shape hl.row;have HLR:=Lib.hid hlr;have HFL:=Lib.hid hfld;obtain ⟨i0,hi,hz0,hz1,hz2⟩:=info_parts info_al;obtain ⟨j0,hj,jz0,jz1,jz2⟩:=info_parts info_ral;have HI:=Lib.hid (And.intro hi (And.intro hz0 (And.intro hz1 hz2)));have HJ:=Lib.hid (And.intro hj (And.intro jz0 (And.intro jz1 jz2)));clear hl hlr hfld hi hz0 hz1 hz2 hj jz0 jz1 jz2
 go_enter Tryz.func11,Tryz.ntmps11
 go_upto_region 4 with fail
 go_loopw [4,5,6,7] (fun vo vd vi _ wr=>∃ k:Nat,k≤l.length∧k≤10∧vi=.int .i64 k∧Hid (FewAt w l vo vd k wr)) (fun _ _ vi _ _=>l.length - (intOf vi).toNat)
 case atStart=>exact ⟨0,Nat.zero_le _,Nat.zero_le _,rfl,Lib.hid ⟨Below.refl _ _,[],rfl,World.ownsRow_nil _ _ _ _,World.ownsRow_nil _ _ _ _,.inl rfl,rfl,fun p hp=>by cases hp⟩⟩
 case round =>
  obtain ⟨k,hk,hk10,rfl,HF⟩:=hrel
  by_cases hkl:k < l.length∧k < 10
  ·obtain ⟨hkl,hkt⟩:=hkl
   obtain ⟨b,o,rfl,hbl,hcell⟩:=HLR.out (by omega);have hat:=alCells_at l k hkl;have hbr:=HF.out.b;have q0:=kCq (hcell _ _ (hat 0 _ rfl)) hbr hbl;have q1:=kCq (hcell _ _ (hat 1 _ rfl)) hbr hbl;have q2:=kCq (hcell _ _ (hat 2 _ rfl)) hbr hbl;have q3:=kCq (hcell _ _ (hat 3 _ rfl)) hbr hbl;have q4:=kCq (hcell _ _ (hat 4 _ rfl)) hbr hbl;have q5:=kCq (hcell _ _ (hat 5 _ rfl)) hbr hbl;rw [Nat.add_zero] at q0;rw [← Nat.add_assoc] at q1 q2 q3 q4 q5;obtain ⟨hfk,hfitk⟩:=HFL.out _ (List.getElem_mem hkl);obtain ⟨va,vn,vc,hsh,hvn,hvc,hcut⟩:=cut_fld hfk;rw [hsh] at q1;have HLK:Hid (l[k].1=l[k].1):=Lib.hid rfl;obtain ⟨A,hA⟩:∃ A,l[k].1=A:=⟨_,rfl⟩;rw [hA] at q0 q2 q3 q4 q5 hcut hfitk hvn;have HA:=Lib.hid hA;have HCU:=Lib.hid hcut;have HFI:=Lib.hid hfitk;obtain ⟨src,fls,alv,ac,afr,atil⟩:=A;dsimp only at q0 q2 q3 q4 q5 hvn;have hvl:vn≤9223372036854775807:=by have:=hfitk.len;unfold maxLen at this;dsimp only at this;omega
   have hk0:(0:Int)≤(k:Int):=by omega
   have hk1:(k:Int) < (l.length:Int):=by omega
   have hm0:(0:Int)≤min (vn:Int) 12:=by omega
   have hm1:min (vn:Int) 12≤(vn:Int):=by omega
   have hm2:min (vn:Int) 12≤(vc:Int):=by omega
   clear hcell hat hfk hA hcut hfitk hsh HLK hvn hbr;go_upto_region 8 with fail;have hmm:(min (vn:Int) 12).toNat=min vn 12:=by omega
   rw [hmm];generalize min vn 12=m at *;obtain ⟨hb,l1,hl1,ho,hd,hne,hmap,hfl⟩:=HF.out;have hbase:=hb.size;have x6:=alc6 wr (.string src) (.slice va m vc) (.int .i64 alv) (.int .u32 ac) (.int .i64 afr) (.int .i64 atil) 58;have hb1:=hb.alloc hb.size (.cells #[.string src,.slice va m vc,.int .i64 alv,.int .u32 ac,.int .i64 afr,.int .i64 atil] 58);have ho1:=ho.alloc (.cells #[.string src,.slice va m vc,.int .i64 alv,.int .u32 ac,.int .i64 afr,.int .i64 atil] 58);have hd1:=hd.alloc (.cells #[.string src,.slice va m vc,.int .i64 alv,.int .u32 ac,.int .i64 afr,.int .i64 atil] 58);have hs1:=World.size_alloc wr (.cells #[.string src,.slice va m vc,.int .i64 alv,.int .u32 ac,.int .i64 afr,.int .i64 atil] 58);have hdl:=hd.lt;have hol:=ho.lt;generalize wr.alloc (.cells #[.string src,.slice va m vc,.int .i64 alv,.int .u32 ac,.int .i64 afr,.int .i64 atil] 58)=W1 at *;have hd2:=hd1.alloc (.cells #[.string src,.slice va m vc,.int .i64 alv,.int .u32 ac,.int .i64 afr,.int .i64 atil] 58);have ho2:=ho1.alloc (.cells #[.string src,.slice va m vc,.int .i64 alv,.int .u32 ac,.int .i64 afr,.int .i64 atil] 58);have hr2:=row6 W1 (.string src) (.slice va m vc) (.int .i64 alv) (.int .u32 ac) (.int .i64 afr) (.int .i64 atil) 58;have hb2:=hb1.alloc hb1.size (.cells #[.string src,.slice va m vc,.int .i64 alv,.int .u32 ac,.int .i64 afr,.int .i64 atil] 58);have hs2:=World.size_alloc W1 (.cells #[.string src,.slice va m vc,.int .i64 alv,.int .u32 ac,.int .i64 afr,.int .i64 atil] 58);have hx6:Hid (C6 wr.heap.size _ _ _ _ _ _ _):=Lib.hid (x6.later (aBq W1 (.cells #[.string src,.slice va m vc,.int .i64 alv,.int .u32 ac,.int .i64 afr,.int .i64 atil] 58)) (by omega));obtain ⟨x0,x1,x2,x3,x4,x5⟩:=x6;obtain ⟨hi,hz0,hz1,hz2⟩:=HI.out;obtain ⟨hj,jz0,jz1,jz2⟩:=HJ.out;have h1s:=all6 (a:=.string src) (b:=.slice va m vc) (c:=.int .i64 alv) (d:=.int .u32 ac) (e:=.int .i64 afr) (f:=.int .i64 atil) rfl rfl rfl rfl rfl rfl;have P1:=Lib.hid (And.intro hd2 (And.intro hr2 (And.intro hb2 (And.intro ho2 (And.intro hb1 (And.intro ho1 (And.intro hdl hol)))))));have P2:=Lib.hid (And.intro hl1 (And.intro hne (And.intro hmap hfl)));have P3:=Lib.hid (And.intro hs1 (And.intro hs2 hbase));clear hd2 hr2 hb2 ho2 hb1 ho1 hdl hol hl1 hne hmap hfl hs1 hs2 hbase ho hd hd1 hb HF;go_upto_region 9 with (at_builtin;(refine wpList_append_rd2 rfl (.tmp 30) (.tmp 32) 27 rfl w.heap.size 58 j0 (.agg #[.string ⟨#[]⟩,.slice none 0 0,.int .i64 0,.int .u32 0,.int .i64 0,.int .i64 0]) 6 72 Tryz.underlying27 hj jz0 jz1 jz2 rfl (by decide) _ k (alCells l1) rfl P1.out.1 _ 1 [.string src,.slice va m vc,.int .i64 alv,.int .u32 ac,.int .i64 afr,.int .i64 atil] rfl P1.out.2.1 h1s (by unfold maxLen;omega) (by omega) (by have:=P3.out;omega) ?_);intro vd' W3 hown' hgrow' hcase');obtain ⟨_,hr2,hb2,ho2,hb1,ho1,hdl,hol⟩:=P1.out;obtain ⟨hl1,hne,hmap,hfl⟩:=P2.out;obtain ⟨hs1,hs2,hbase⟩:=P3.out;have X3:=hx6.out.grown hgrow' (fun e=>by have:=(hdl _ e.symm).2;omega);have ho3:=ho2.kept hgrow' hne;have hb3:=hb2.grown hgrow' hb2.size (fun j hj=>(hdl j hj).1);have hz3:=hgrow'.size
   have hne3:u4.ownBlock=none∨u4.ownBlock≠vd'.ownBlock:=by
    rcases hcase' with h | h
    ·rw [h];exact hne
    ·right
     intro e;rw [h] at e
     have:=(hol _ e).2
     omega
   have hd4:=hown'.alloc (.cells #[.string src,.slice va m vc,.int .i64 alv,.int .u32 ac,.int .i64 afr,.int .i64 atil] 54);have ho4:=ho3.alloc (.cells #[.string src,.slice va m vc,.int .i64 alv,.int .u32 ac,.int .i64 afr,.int .i64 atil] 54);have hr4:=row6 W3 (.string src) (.slice va m vc) (.int .i64 alv) (.int .u32 ac) (.int .i64 afr) (.int .i64 atil) 54;have hb4:=hb3.alloc hb3.size (.cells #[.string src,.slice va m vc,.int .i64 alv,.int .u32 ac,.int .i64 afr,.int .i64 atil] 54);have hs4:=World.size_alloc W3 (.cells #[.string src,.slice va m vc,.int .i64 alv,.int .u32 ac,.int .i64 afr,.int .i64 atil] 54);have hvl:=hown'.lt;obtain ⟨y0,y1,y2,y3,y4,y5⟩:=X3;have Q1:=Lib.hid (And.intro ho4 (And.intro hr4 (And.intro hb4 (And.intro hd4 (And.intro hvl hol)))));have Q2:=Lib.hid (And.intro hl1 (And.intro hne3 (And.intro hmap hfl)));have Q3:=Lib.hid (And.intro hs4 hb3.size);clear hr2 hb2 ho2 hb1 ho1 hdl hol hl1 hne hmap hfl hs1 hs2 hbase ho3 hb3 hz3 hne3 hd4 ho4 hr4 hb4 hs4 hvl hown' hgrow' hcase' P1 P2 P3 hx6 x0 x1 x2 x3 x4 x5;go_wp2_with (at_builtin;(refine wpList_append_rd2 rfl (.tmp 34) (.tmp 46) 31 rfl w.heap.size 54 i0 (.agg #[.string ⟨#[]⟩,.slice none 0 0,.int .i64 0,.int .u32 0,.int .i64 0,.int .i64 0]) 6 72 Tryz.underlying31 hi hz0 hz1 hz2 rfl (by decide) _ k (alCells l1) rfl Q1.out.1 _ 1 [.string src,.slice va m vc,.int .i64 alv,.int .u32 ac,.int .i64 afr,.int .i64 atil] rfl Q1.out.2.1 h1s (by unfold maxLen;omega) (by omega) (by have:=Q3.out;omega) ?_);intro vo' W5 hown5 hgrow5 hcase5)
   have HN:Hid (FewAt w l vo' vd' (k+1) W5):=by
    obtain ⟨ho4,hr4,hb4,hd4,hvl,hol⟩:=Q1.out;obtain ⟨hl1,hne3,hmap,hfl⟩:=Q2.out;obtain ⟨hs4,hb3s⟩:=Q3.out;refine Lib.hid ⟨hb4.grown hgrow5 hb4.size (fun j hj=>(hol j hj).1),l1 ++ [(cutA l[k].1,.slice va m vc)],by rw [List.length_append,hl1];rfl,?_,?_,?_,?_,?_⟩
    ·rw [alC_snoc];unfold alC cutA;rw [HA.out];exact hown5
    ·rw [alC_snoc];unfold alC cutA;rw [HA.out]
     exact hd4.kept (row:=u4.ownBlock) hgrow5 (by
      rcases hne3 with h | h
      ·rw [h]
       cases hvb:vd'.ownBlock with
       | none=>exact .inl rfl
       | some g=>right;simp
      ·exact .inr (Ne.symm h))
    ·rcases hcase5 with h | h
     ·rw [show vo'.ownBlock=u4.ownBlock from h];exact hne3
     ·right
      intro e;rw [h] at e
      have:=(hvl _ e.symm).2
      omega
    ·rw [List.map_append,hmap,List.take_succ_eq_append_getElem hkl,List.map_append];rfl
    ·intro p hp
     rcases List.mem_append.1 hp with h | h
     ·exact hfl p h
     ·rw [List.mem_singleton.1 h]
      refine ⟨?_,cutA_fit (by rw [HA.out];exact HFI.out),rfl⟩;unfold cutA;rw [HA.out];exact HCU.out
   clear Q1 Q2 Q3 hown5 hgrow5 hcase5 y0 y1 y2 y3 y4 y5;go_roundw
   case rel=>exact ⟨k+1,by omega,by omega,by go_num,HN⟩
   case measure=>(simp [intOf];try omega)
  ·have hfin:Hid (∃ l1,AlsAt wr u4 l1∧AlsAt wr u5 l1∧l1.map (·.1)=(l.take 10).map (fun p=>cutA p.1)):=by
    obtain ⟨hb,l1,hl1,ho,hd,hne,hmap,hfl⟩:=HF.out
    have e:l.take k=l.take 10:=by
     rcases Nat.lt_or_ge k l.length with h | h
     ·rw [show k=10 by omega]
     ·rw [List.take_of_length_le h,List.take_of_length_le (by omega)]
    rw [e] at hmap;subst hl1;exact Lib.hid ⟨l1,⟨RdAt.own ho,fun p hp=>⟨(hfl p hp).1.later hb,(hfl p hp).2.1⟩⟩,⟨RdAt.own hd,fun p hp=>⟨(hfl p hp).1.later hb,(hfl p hp).2.1⟩⟩,hmap⟩
   rcases (show k=l.length∨(k < l.length∧k=10) by omega) with h | ⟨h,h'⟩
   ·obtain rfl:=h
    go_wp2;go_ret2;obtain ⟨l1,a1,a2,a3⟩:=hfin.out;exact ⟨_,_,l1,rfl,HF.out.b,a1,a2,a3⟩
   ·obtain rfl:=h'
    have h12:(10:Int) < (l.length:Int):=by omega
    go_wp2;go_ret2;obtain ⟨l1,a1,a2,a3⟩:=hfin.out;exact ⟨_,_,l1,rfl,HF.out.b,a1,a2,a3⟩
theorem idxTo_mem {α:Type} {f:α→Bool} {l:List α} {k:Nat} {x:Int}:x∈idxTo f l k↔∃ i:Nat,i < k∧x=(i:Int)∧∃ h:i < l.length,f l[i]=true:=by
 unfold idxTo;rw [List.mem_map]
 constructor
 ·rintro ⟨i,hi,rfl⟩
  obtain ⟨h1,h2⟩:=List.mem_filter.1 hi;have h3:=List.mem_range.1 h1
  by_cases hl:i < l.length
  ·rw [List.getElem?_eq_getElem hl] at h2
   exact ⟨i,h3,rfl,hl,by simpa using h2⟩
  ·rw [List.getElem?_eq_none (by omega)] at h2
   simp at h2
 ·rintro ⟨i,h1,rfl,h2,h3⟩
  exact ⟨i,List.mem_filter.2 ⟨List.mem_range.2 h1,by rw [List.getElem?_eq_getElem h2];simpa using h3⟩,rfl⟩
theorem idxF_mem {α:Type} {f:α→Bool} {l:List α} {x:Int}:x∈idxF f l↔∃ (i:Nat) (h:i < l.length),x=(i:Int)∧f l[i]=true:=by
 unfold idxF;rw [idxTo_mem]
 constructor
 ·rintro ⟨i,_,e,h,hf⟩;exact ⟨i,h,e,hf⟩
 ·rintro ⟨i,h,e,hf⟩;exact ⟨i,h,e,h,hf⟩
theorem left_len (p:PD) (l:List (Al × Value)) (t:Int × Nat) (now:Int):(leftL p l t now).length≤l.length:=by
 unfold leftL
 split
 ·exact Nat.le_trans (List.length_filter_le _ _) (idxTo_len _ _ _)
 ·exact Nat.zero_le _
theorem quietK_mem {p:PD} {l:List (Al × Value)} {k:Int} {t:Int × Nat} {now:Int} {x:Int}:x∈quietK p l k t now↔∃ (j i:Nat) (hj:j < l.length) (hi:i < p.ih.length),k=(j:Int)∧x=(i:Int)∧rightA l[j].1=true∧checkP p=0∧cutOk p.ra l[j].1.fl (l[j].1.lv,l[j].1.c) t=true∧ruleQ p.ra l l[j].1 t now p.ih[i]=true:=by
 constructor
 ·intro h
  have h0:0≤k:=by
   apply Classical.byContradiction
   intro hk;rw [quietK_neg (by omega)] at h
   cases h
  have h1:k < (l.length:Int):=by
   apply Classical.byContradiction
   intro hk;rw [quietK_far (by omega)] at h
   cases h
  obtain ⟨j,rfl⟩:∃ j:Nat,k=(j:Int):=⟨k.toNat,by omega⟩;have hj:j < l.length:=by omega
  rw [quietK_at hj] at h;unfold quietX at h
  split at h
  ·rename_i hc
   simp only [Bool.and_eq_true,decide_eq_true_eq] at hc;obtain ⟨i,hi,rfl,hf⟩:=idxF_mem.1 h;exact ⟨j,i,hj,hi,rfl,rfl,hc.1.1,hc.1.2,hc.2,hf⟩
  ·cases h
 ·rintro ⟨j,i,hj,hi,rfl,rfl,h1,h2,h3,h4⟩
  rw [quietK_at hj];unfold quietX;rw [if_pos (by simp [h1,h2,h3])];exact idxF_mem.2 ⟨i,hi,rfl,h4⟩
theorem bit_mem {p:PD} {l:List (Al × Value)} {t:Int × Nat} {now:Int} {i:Nat}:bitX p l t now i=true↔∃ (j:Nat) (hj:j < l.length) (hi:i < p.ih.length),rightA l[j].1=true∧firesA l[j].1 now=true∧checkP p=0∧cutOk p.ra l[j].1.fl (l[j].1.lv,l[j].1.c) t=true∧ruleQ p.ra l l[j].1 t now p.ih[i]=true:=by
 unfold bitX;rw [List.any_eq_true]
 constructor
 ·rintro ⟨k,hk,hc⟩
  obtain ⟨j,hj,rfl,hf⟩:=idxF_mem.1 hk;obtain ⟨j',i',hj',hi',e1,e2,h1,h2,h3,h4⟩:=quietK_mem.1 (List.contains_iff_mem.1 hc);obtain rfl:j'=j:=by omega
  obtain rfl:i'=i:=by omega
  unfold toldA at hf;simp only [Bool.and_eq_true] at hf;exact ⟨j',hj,hi',h1,hf.2,h2,h3,h4⟩
 ·rintro ⟨j,hj,hi,h1,h2,h3,h4,h5⟩
  refine ⟨(j:Int),idxF_mem.2 ⟨j,hj,rfl,by unfold toldA;simp [h1,h2,h4]⟩,List.contains_iff_mem.2 (quietK_mem.2 ⟨j,i,hj,hi,rfl,rfl,h1,h3,h4,h5⟩)⟩
end Go.Proofs.YtipnhpfpppblhaaGreat
namespace Go
variable {P:Program} {ops:Array Oper} {Q:Exit→Act→World→Prop} {md:Region.Mode} {S:World→Prop} {L:Nat}
theorem heldS_skip {i d:Nat} {oi:Oper} {fuel:Nat} {listed:Array Bool} {a:Act} {w:World} (hi:ops[i]?=some oi) (hd:oi.dst=some d)
  (hs:Region.noSelect ops=true) (hf:Region.free md ops listed i=true) (hr:(Region.ready md ops listed).contains i=true) (hL:waitsB md ops L i=true) (hun:listed.getD L true=false)
  (hQ:∀ c a w,Q (.panic c) (a.put (some d) undef) w→Q (.panic c) a w) (hw:Region.wanted oi (yielded ops a.tmps)=false) (hS:S w)
  (h:wpAnyEnd P md ops Q S L fuel (listed.setIfInBounds i true) (a.put (some d) undef) w):wpAnyEnd P md ops Q S L (fuel+1) listed a w :=
 wpAnyEnd_first hi (Region.noSelect_spec hs) (by rw [hd];exact hQ) hL fuel listed a w (Region.free_spec hi hf) (by simpa using hr) hun (.inr ⟨hw,rfl⟩) hS (by rw [hd];exact h)
end Go
namespace Go.Proofs.YtipnhpfpppblhaaGreat
open Go.RowKit Go.Maps
noncomputable def byAt (p:PD) (l:List (Al × Value)) (a:Al) (t:Int × Nat) (now:Int) (j:Nat):Bool:=match p.ih[j]? with
 | some x=>byA p l a x t now
 | none=>false
noncomputable def bitR (p:PD) (l:List (Al × Value)) (t:Int × Nat) (now:Int) (k j:Nat):Bool:=(l.take k).any fun q=>toldC p t now q&&byAt p l q.1 t now j
theorem byAt_at {p:PD} {l:List (Al × Value)} {a:Al} {t:Int × Nat} {now:Int} {j:Nat} (h:j < p.ih.length):byAt p l a t now j=byA p l a p.ih[j] t now:=by unfold byAt;rw [List.getElem?_eq_getElem h]
theorem bitR_step {p:PD} {l:List (Al × Value)} {t:Int × Nat} {now:Int} {k:Nat} (h:k < l.length) (j:Nat):bitR p l t now (k+1) j=(bitR p l t now k j || (toldC p t now l[k]&&byAt p l l[k].1 t now j)):=by
 unfold bitR;rw [List.take_succ_eq_append_getElem h,List.any_append]
 simp
theorem toldC_true {p:PD} {t:Int × Nat} {now:Int} {q:Al × Value} (h:toldC p t now q=true):checkP p=0∧cutOk p.ra q.1.fl (q.1.lv,q.1.c) t=true∧rightA q.1=true∧firesA q.1 now=true:=by
 unfold toldC toldA at h;simp only [Bool.and_eq_true,decide_eq_true_eq] at h;exact ⟨h.2,h.1.1.1,h.1.1.2,h.1.2⟩
theorem bitR_all (p:PD) (l:List (Al × Value)) (t:Int × Nat) (now:Int) (j:Nat) (hj:j < p.ih.length):bitR p l t now l.length j=bitX p l t now j:=by
 rw [Bool.eq_iff_iff,bit_mem];unfold bitR;rw [List.take_length,List.any_eq_true]
 constructor
 ·rintro ⟨q,hq,hc⟩
  obtain ⟨i,hi,rfl⟩:=List.getElem_of_mem hq;rw [Bool.and_eq_true] at hc;obtain ⟨h1,h2,h3,h4⟩:=toldC_true hc.1;have h5:=hc.2;rw [byAt_at hj] at h5;unfold byA at h5;simp only [Bool.and_eq_true] at h5;exact ⟨i,hi,hj,h3,h4,h1,h2,h5.2⟩
 ·rintro ⟨i,hi,hj',h1,h2,h3,h4,h5⟩
  refine ⟨l[i],List.getElem_mem hi,?_⟩;rw [Bool.and_eq_true,byAt_at hj];unfold toldC toldA byA
  simp [h1,h2,h3,h4,h5]
set_option maxHeartbeats 6400000 in
set_option maxRecDepth 100000 in
theorem rbits_any (v:PV) (p:PD) (l:List (Al × Value)) (lv:Value) (tl:Int) (tc:Nat) (now:Int) (w:World) (hp:PolAt w v p) (hpf:PolFitD p) (hl:AlsAt w lv l) (hlen:l.length≤1000000) (h12:∀ q∈l,q.1.fl.length≤12) (htc:tc < 4294967296) (h14:p.ih.length≤14) :
  Calls Tryz.prog 16 #[v.v,lv,Lab tl tc,.int .i64 now] w fun e w'=>∃ r,e=.returned r∧BsAt w' r p.ih.length (bitX p l (tl,tc) now)∧Below w.heap.size w w':=by
 have hlm:l.length≤maxLen:=by unfold maxLen;omega
 have KT:=Lib.hid (fun (x:Al × Value) (hx:x∈l) W (h:Below w.heap.size w W)=>rtold_any v p x.1 x.2 tl tc now W (hp.later h) hpf ((hl.fld x hx).1.later h) (hl.fld x hx).2 (h12 x hx) htc);have KBY:=Lib.hid (fun (j:Nat) (hj:j < l.length) (x:PIh) (hx:x∈p.ih) (hok:badIh x=false) W (h:Below w.heap.size w W)=>rby_any v p l lv j x tl tc now W hj (hp.later h) hpf (hl.later h) hlm h12 ((hp.h5.2 x hx).later h) (hpf.h5 x hx) hok htc);have HFK:=Lib.hid (fun x hx=>(hl.fld x hx).1);obtain ⟨v0,v1,v2,v3,v4,v5⟩:=v;obtain ⟨h0,h1,h2,h3,⟨h4,_⟩,h5,_⟩:=hp;dsimp only at h0 h1 h2 h3 h4 h5 KT KBY;obtain ⟨a0,c0,rfl,_,_⟩:=RdAt.shape h0;obtain ⟨a1,c1,rfl,_,_⟩:=RdAt.shape h1;obtain ⟨a2,c2,rfl,_,_⟩:=RdAt.shape h2;obtain ⟨a3,c3,rfl,_,_⟩:=RdAt.shape h3;obtain ⟨a4,c4,rfl,_,_⟩:=RdAt.shape h4;obtain ⟨a5,c5,rfl,_,hir⟩:=RdAt.shape h5;have KIR:=Lib.hid hir;obtain ⟨i0,hi,hz0,hz1,hz2⟩:=info_parts info_bool;obtain ⟨la,lc,rfl,hlc,hlr⟩:=RdAt.shape hl.row;have HLR:=Lib.hid hlr;have HALL:=Lib.hid (bitR_all p l (tl,tc) now);have HST:=Lib.hid (fun k h j=>bitR_step (p:=p) (l:=l) (t:=(tl,tc)) (now:=now) (k:=k) h j);have HZ:Hid (∀ j,bitR p l (tl,tc) now 0 j=false):=Lib.hid (fun _=>rfl);have HTT:=Lib.hid (fun (q:Al × Value) (h:toldC p (tl,tc) now q=true)=>check_zero (toldC_true h).1);generalize bitR p l (tl,tc) now=RB at *;obtain ⟨W0,hW0⟩:∃ z,(w.alloc (.cells #[.slice a0 p.so.length c0,.slice a1 p.re.length c1,.slice a2 p.pe.length c2,.slice a3 p.ra.length c3,.slice a4 p.ro.length c4,.slice a5 p.ih.length c5] 26)).alloc (.cells #[.int .i64 tl,.int .u32 tc] 36)=z:=⟨_,rfl⟩;have HS0:Hid (QPt w (.slice a0 p.so.length c0) (.slice a1 p.re.length c1) (.slice a2 p.pe.length c2) (.slice a3 p.ra.length c3) (.slice a4 p.ro.length c4) (.slice a5 p.ih.length c5) tl tc W0):=Lib.hid (by rw [← hW0];exact qpt_new w _ _ _ _ _ _ _ _ _ _);have HW0:=Lib.hid hW0;have HN:=Lib.hid (BW.new W0 p.ih.length);clear h0 h1 h2 h3 h4 h5 hl h12 hpf hW0 hlr hir hlm
 go_enter Tryz.func16,Tryz.ntmps16
 go_upto_region 1 with fail;rw [HW0.out];clear HW0;obtain ⟨q0,q1,q2,q3,q4,q5⟩:=HS0.out.p;go_upto_region 2 with ((with_reducible refine wpList_make_row _ rfl _ _ 41 rfl 4 i0 (.bool false) Tryz.underlying41 hi hz0 hz1 rfl .i64 .i64 p.ih.length ?hl ?hc ?hb ?h63 ?_);(case hl=>rfl);(case hc=>rfl);(case hb=>rw [hz2];omega);(case h63=>omega));refine wp_forget3 (fun W=>BW W0 W W0.heap.size p.ih.length (fun _=>false)∧W0.heap.size < W.heap.size) ⟨HN.out,by rw [World.size_alloc];omega⟩ (fun w1 hw1=>?_);have H1:=Lib.hid hw1.1;clear hw1 HN q0 q1 q2 q3 q4 q5;go_wp2
 go_loopw [10] (fun i wr=>∃ (n:Nat),i=.int .i64 n∧n≤l.length∧Hid (BW W0 wr W0.heap.size p.ih.length (RB n))) (fun i _=>l.length - (intOf i).toNat)
 case atStart=>exact ⟨0,rfl,Nat.zero_le _,Lib.hid (H1.out.congr (fun j _=>(HZ.out j).symm))⟩
 case round =>
  clear H1;obtain ⟨n,rfl,hn,HW⟩:=hrel
  by_cases hnl:n < l.length
  ·obtain ⟨b,o,rfl,hbl,hcell⟩:=HLR.out (by omega)
   have HSR:=Lib.hid (HS0.out.later HW.out.bl);have hat:=alCells_at l n hnl;have hBw:=HSR.out.below;have p0:=kCq (hcell _ _ (hat 0 _ rfl)) hBw hbl;have p1:=kCq (hcell _ _ (hat 1 _ rfl)) hBw hbl;have p2:=kCq (hcell _ _ (hat 2 _ rfl)) hBw hbl;have p3:=kCq (hcell _ _ (hat 3 _ rfl)) hBw hbl;have p4:=kCq (hcell _ _ (hat 4 _ rfl)) hBw hbl;have p5:=kCq (hcell _ _ (hat 5 _ rfl)) hBw hbl;rw [Nat.add_zero] at p0;rw [← Nat.add_assoc] at p1 p2 p3 p4 p5;have hmem:=List.getElem_mem hnl;have hfk:=HFK.out _ hmem;have KTn:=Lib.hid (fun W (h:Below wr.heap.size wr W)=>KT.out _ hmem W (hBw.trans (h.mono hBw.size)));have KBN:=Lib.hid (KBY.out n hnl);have HSTn:=Lib.hid (HST.out n hnl);have HTTn:=Lib.hid (HTT.out l[n]);obtain ⟨y,hy⟩:∃ y,l[n]=y:=⟨_,rfl⟩;rw [hy] at KTn HSTn HTTn p0 p1 p2 p3 p4 p5 hfk KBN;clear hy;obtain ⟨⟨src,fl,alv,ac,fr,til⟩,fv⟩:=y;dsimp only at *;obtain ⟨fa,fc,rfl,_,_⟩:=RdAt.shape hfk;have HBA:Hid (∀ i (h:i < p.ih.length),byAt p l ⟨src,fl,alv,ac,fr,til⟩ (tl,tc) now i=byA p l ⟨src,fl,alv,ac,fr,til⟩ p.ih[i] (tl,tc) now):=Lib.hid (fun i h=>byAt_at h);generalize toldC p (tl,tc) now (⟨src,fl,alv,ac,fr,til⟩,Value.slice fa fl.length fc)=T at *;generalize byAt p l ⟨src,fl,alv,ac,fr,til⟩ (tl,tc) now=BA at *;obtain ⟨q0,q1,q2,q3,q4,q5⟩:=HSR.out.p;have t0:=HSR.out.t0;have t1:=HSR.out.t1;have ltq:w.heap.size < wr.heap.size:=by have:=HSR.out.ge;omega
   have ltt:w.heap.size+1 < wr.heap.size:=HSR.out.ge;have ltb:b < wr.heap.size:=Nat.lt_of_lt_of_le hbl hBw.size;have hi0:(0:Int)≤(n:Int):=by omega
   have hi1:(n:Int) < (l.length:Int):=by omega
   clear hmem hfk hat hcell hBw HSR;go_upto_region 5 with fail;refine wp_region_held_drew (S:=(fun W=>W.cell? ⟨w.heap.size,0,none⟩=some (.slice a0 p.so.length c0)∧W.cell? ⟨w.heap.size,1,none⟩=some (.slice a1 p.re.length c1)∧W.cell? ⟨w.heap.size,2,none⟩=some (.slice a2 p.pe.length c2)∧W.cell? ⟨w.heap.size,3,none⟩=some (.slice a3 p.ra.length c3)∧W.cell? ⟨w.heap.size,4,none⟩=some (.slice a4 p.ro.length c4)∧W.cell? ⟨w.heap.size,5,none⟩=some (.slice a5 p.ih.length c5)∧W.cell? ⟨w.heap.size+1,0,none⟩=some (.int .i64 tl)∧W.cell? ⟨w.heap.size+1,1,none⟩=some (.int .u32 tc)∧W.cell? ⟨b,o+n * 6,none⟩=some (.string src)∧W.cell? ⟨b,o+n * 6+1,none⟩=some (.slice fa fl.length fc)∧W.cell? ⟨b,o+n * 6+2,none⟩=some (.int .i64 alv)∧W.cell? ⟨b,o+n * 6+3,none⟩=some (.int .u32 ac)∧W.cell? ⟨b,o+n * 6+4,none⟩=some (.int .i64 fr)∧W.cell? ⟨b,o+n * 6+5,none⟩=some (.int .i64 til))) (by kernel_rfl) ⟨q0,q1,q2,q3,q4,q5,t0,t1,p0,p1,p2,p3,p4,p5⟩ (fun hHeld=>?_);have hd:Below wr.heap.size wr wr.drew:=(Below.refl _ _).drew;refine plIn [0,1,2,3,4,5,6] ?_
   iterate 7
    refine hP (v:=?_) rfl rfl hHeld ?_ ?_;rotate_left
    ·intro wh hz;iterate 13 obtain ⟨_,hz⟩:=hz
     go_simp
     (try with_reducible rfl)
    simp only [Act.put,aS1,aS2,aS3]
   refine plOut ?_;refine held_call (i:=7) rfl (by kernel_rfl) (by rfl) (fun K hK=>?_)
   (go_simp;go_at_call 33;refine (KTn.out _ hd).mono ?_;rintro e w6 ⟨rfl,hb6⟩;have hB6:=hd.trans (hb6.mono hd.size))
   refine hK.out _ _ ⟨kCq q0 hB6 ltq,kCq q1 hB6 ltq,kCq q2 hB6 ltq,kCq q3 hB6 ltq,kCq q4 hB6 ltq,kCq q5 hB6 ltq,kCq t0 hB6 ltt,kCq t1 hB6 ltt,kCq p0 hB6 ltb,kCq p1 hB6 ltb,kCq p2 hB6 ltb,kCq p3 hB6 ltb,kCq p4 hB6 ltb,kCq p5 hB6 ltb⟩ (fun hHeld=>?_);clear hK K
   (try simp only [Act.put,aS1,aS2,aS3])
   refine hT (i:=8) (v:=?_) rfl rfl hHeld ?_ ?_;rotate_left
   ·intro wh hz;iterate 13 obtain ⟨_,hz⟩:=hz
    go_simp
    (try with_reducible rfl)
   simp only [Act.put,aS1,aS2,aS3];refine wpAnyH_done (by kernel_rfl) ?_ _;have HW6:=Lib.hid (HW.out.later hB6);clear hd hb6 hB6 q0 q1 q2 q3 q4 q5 t0 t1 p0 p1 p2 p3 p4 p5 KTn ltq ltt ltb HW
   cases T
   ·have HN1:=Lib.hid (HW6.out.congr (Y:=RB (n+1)) (fun j _=>by rw [HSTn.out];simp))
    go_wp2;go_roundw
    case rel=>exact ⟨n+1,by go_num,by omega,HN1⟩
    case measure=>(simp [intOf];try omega)
   ·have HCK:=Lib.hid (HTTn.out rfl)
    obtain ⟨wo,hwo⟩:∃ z,z=wr:=⟨_,rfl⟩;clear hwo;go_wp2
    go_loopw [11] (fun i wr=>∃ (m:Nat),i=.int .i64 m∧m≤p.ih.length∧Hid (BW W0 wr W0.heap.size p.ih.length (fun j=>RB n j || (decide (j < m)&&BA j)))) (fun i _=>p.ih.length - (intOf i).toNat)
    case atStart=>exact ⟨0,rfl,Nat.zero_le _,Lib.hid (HW6.out.congr (fun j _=>by simp))⟩
    case round =>
     clear HW6;obtain ⟨m,rfl,hm,HW⟩:=hrel
     by_cases hml:m < p.ih.length
     ·obtain ⟨b5,o5,rfl,hb5,hc5⟩:=KIR.out (by omega)
      have HSR:=Lib.hid (HS0.out.later HW.out.bl);have hBw:=HSR.out.below;have hat:=fun i v h=>cellsG_at ihC_len p.ih m hml i v h;have z0:=kCq (hc5 _ _ (hat 0 _ rfl)) hBw hb5;have z1:=kCq (hc5 _ _ (hat 1 _ rfl)) hBw hb5;have z2:=kCq (hc5 _ _ (hat 2 _ rfl)) hBw hb5;have z3:=kCq (hc5 _ _ (hat 3 _ rfl)) hBw hb5;have z4:=kCq (hc5 _ _ (hat 4 _ rfl)) hBw hb5;rw [Nat.add_zero] at z0;rw [← Nat.add_assoc] at z1 z2 z3 z4;have hmem:=List.getElem_mem hml;have KB:=Lib.hid (fun W (h:Below wr.heap.size wr W)=>KBN.out p.ih[m] hmem (HCK.out.2 _ hmem) W (hBw.trans (h.mono hBw.size)));have HBM:=Lib.hid (HBA.out m hml);have o0:=HW.out.row.cell hml;have hOV:(RB n m || (decide (m < m)&&BA m))=RB n m:=by simp
      rw [hOV] at o0;have HOV:=Lib.hid hOV;clear hOV;generalize p.ih[m]=x at *;obtain ⟨bys,xlv,xc,frm,whn,bv,fv,wv⟩:=x;dsimp only at *;generalize byA p l ⟨src,fl,alv,ac,fr,til⟩ ⟨bys,xlv,xc,frm,whn,bv,fv,wv⟩ (tl,tc) now=BY at *
      have HNX:Hid (∀ (V:World) (u:Bool),BW W0 V W0.heap.size p.ih.length (fun j=>RB n j || (decide (j < m)&&BA j))→(RB n m || BA m)=u→BW W0 (V.setCell ⟨W0.heap.size,m,none⟩ (.bool u)) W0.heap.size p.ih.length (fun j=>RB n j || (decide (j < m+1)&&BA j))):=Lib.hid (fun V u h hu=>(h.put m u).congr (fun j _=>by
       by_cases e:j=m
       ·subst e
        simp [hu]
       ·rw [if_neg e]
        have e2:decide (j < m+1)=decide (j < m):=by
         rw [decide_eq_decide];omega
        rw [e2]))
      have HOR:Hid (RB n m=RB n m):=Lib.hid rfl;generalize RB n m=OV at *;obtain ⟨q0,q1,q2,q3,q4,q5⟩:=HSR.out.p;have t0:=HSR.out.t0;have t1:=HSR.out.t1;have ltq:w.heap.size < wr.heap.size:=by have:=HSR.out.ge;omega
      have ltt:w.heap.size+1 < wr.heap.size:=HSR.out.ge;have ltz:b5 < wr.heap.size:=Nat.lt_of_lt_of_le hb5 hBw.size;have lto:W0.heap.size < wr.heap.size:=HW.out.row.lt;have hi2:(0:Int)≤(m:Int):=by omega
      have hi3:(m:Int) < (p.ih.length:Int):=by omega
      clear hmem hat hc5 hBw HSR;go_upto_region 9 with fail
      cases OV
      ·refine wp_region_heldS 20 (S:=(fun W=>W.cell? ⟨w.heap.size,0,none⟩=some (.slice a0 p.so.length c0)∧W.cell? ⟨w.heap.size,1,none⟩=some (.slice a1 p.re.length c1)∧W.cell? ⟨w.heap.size,2,none⟩=some (.slice a2 p.pe.length c2)∧W.cell? ⟨w.heap.size,3,none⟩=some (.slice a3 p.ra.length c3)∧W.cell? ⟨w.heap.size,4,none⟩=some (.slice a4 p.ro.length c4)∧W.cell? ⟨w.heap.size,5,none⟩=some (.slice (some ⟨b5,o5,none⟩) p.ih.length c5)∧W.cell? ⟨w.heap.size+1,0,none⟩=some (.int .i64 tl)∧W.cell? ⟨w.heap.size+1,1,none⟩=some (.int .u32 tc)∧W.cell? ⟨b5,o5+m * 5,none⟩=some bv∧W.cell? ⟨b5,o5+m * 5+1,none⟩=some (.int .i64 xlv)∧W.cell? ⟨b5,o5+m * 5+2,none⟩=some (.int .u32 xc)∧W.cell? ⟨b5,o5+m * 5+3,none⟩=some fv∧W.cell? ⟨b5,o5+m * 5+4,none⟩=some wv∧W.cell? ⟨W0.heap.size,m,none⟩=some (.bool false))) (by kernel_rfl) ⟨q0,q1,q2,q3,q4,q5,t0,t1,z0,z1,z2,z3,z4,o0⟩ (fun hHeld=>?_)
       have hd:Below wr.heap.size wr wr.drew:=(Below.refl _ _).drew;refine heldS_take (i:=0) (v:=?_) rfl rfl (by kernel_rfl) (by kernel_rfl) (by kernel_rfl) (by kernel_rfl) (by kernel_rfl) (fun _ _ _ h=>h) (by rfl) hHeld ?_ ?_;rotate_left
       ·intro wh hz;iterate 13 obtain ⟨_,hz⟩:=hz
        go_simp
        (try with_reducible rfl)
       simp only [Act.put,aS1,aS2,aS3];refine heldS_take (i:=1) (v:=?_) rfl rfl (by kernel_rfl) (by kernel_rfl) (by kernel_rfl) (by kernel_rfl) (by kernel_rfl) (fun _ _ _ h=>h) (by rfl) hHeld ?_ ?_;rotate_left
       ·intro wh hz;iterate 13 obtain ⟨_,hz⟩:=hz
        go_simp
        (try with_reducible rfl)
       simp only [Act.put,aS1,aS2,aS3];refine heldS_take (i:=2) (v:=?_) rfl rfl (by kernel_rfl) (by kernel_rfl) (by kernel_rfl) (by kernel_rfl) (by kernel_rfl) (fun _ _ _ h=>h) (by rfl) hHeld ?_ ?_;rotate_left
       ·intro wh hz;iterate 13 obtain ⟨_,hz⟩:=hz
        go_simp
        (try with_reducible rfl)
       simp only [Act.put,aS1,aS2,aS3];refine heldS_take (i:=3) (v:=?_) rfl rfl (by kernel_rfl) (by kernel_rfl) (by kernel_rfl) (by kernel_rfl) (by kernel_rfl) (fun _ _ _ h=>h) (by rfl) hHeld ?_ ?_;rotate_left
       ·intro wh hz;iterate 13 obtain ⟨_,hz⟩:=hz
        go_simp
        (try with_reducible rfl)
       simp only [Act.put,aS1,aS2,aS3];refine heldS_take (i:=4) (v:=?_) rfl rfl (by kernel_rfl) (by kernel_rfl) (by kernel_rfl) (by kernel_rfl) (by kernel_rfl) (fun _ _ _ h=>h) (by rfl) hHeld ?_ ?_;rotate_left
       ·intro wh hz;iterate 13 obtain ⟨_,hz⟩:=hz
        go_simp
        (try with_reducible rfl)
       simp only [Act.put,aS1,aS2,aS3];refine heldS_take (i:=5) (v:=?_) rfl rfl (by kernel_rfl) (by kernel_rfl) (by kernel_rfl) (by kernel_rfl) (by kernel_rfl) (fun _ _ _ h=>h) (by rfl) hHeld ?_ ?_;rotate_left
       ·intro wh hz;iterate 13 obtain ⟨_,hz⟩:=hz
        go_simp
        (try with_reducible rfl)
       simp only [Act.put,aS1,aS2,aS3];refine heldS_take (i:=6) (v:=?_) rfl rfl (by kernel_rfl) (by kernel_rfl) (by kernel_rfl) (by kernel_rfl) (by kernel_rfl) (fun _ _ _ h=>h) (by rfl) hHeld ?_ ?_;rotate_left
       ·intro wh hz;iterate 13 obtain ⟨_,hz⟩:=hz
        go_simp
        (try with_reducible rfl)
       simp only [Act.put,aS1,aS2,aS3];refine heldS_take (i:=7) (v:=?_) rfl rfl (by kernel_rfl) (by kernel_rfl) (by kernel_rfl) (by kernel_rfl) (by kernel_rfl) (fun _ _ _ h=>h) (by rfl) hHeld ?_ ?_;rotate_left
       ·intro wh hz;iterate 13 obtain ⟨_,hz⟩:=hz
        go_simp
        (try with_reducible rfl)
       simp only [Act.put,aS1,aS2,aS3];refine heldS_take (i:=8) (v:=?_) rfl rfl (by kernel_rfl) (by kernel_rfl) (by kernel_rfl) (by kernel_rfl) (by kernel_rfl) (fun _ _ _ h=>h) (by rfl) hHeld ?_ ?_;rotate_left
       ·intro wh hz;iterate 13 obtain ⟨_,hz⟩:=hz
        go_simp
        (try with_reducible rfl)
       simp only [Act.put,aS1,aS2,aS3];refine heldS_take (i:=9) (v:=?_) rfl rfl (by kernel_rfl) (by kernel_rfl) (by kernel_rfl) (by kernel_rfl) (by kernel_rfl) (fun _ _ _ h=>h) (by rfl) hHeld ?_ ?_;rotate_left
       ·intro wh hz;iterate 13 obtain ⟨_,hz⟩:=hz
        go_simp
        (try with_reducible rfl)
       simp only [Act.put,aS1,aS2,aS3];refine heldS_take (i:=10) (v:=?_) rfl rfl (by kernel_rfl) (by kernel_rfl) (by kernel_rfl) (by kernel_rfl) (by kernel_rfl) (fun _ _ _ h=>h) (by rfl) hHeld ?_ ?_;rotate_left
       ·intro wh hz;iterate 13 obtain ⟨_,hz⟩:=hz
        go_simp
        (try with_reducible rfl)
       simp only [Act.put,aS1,aS2,aS3];refine heldS_take (i:=11) (v:=?_) rfl rfl (by kernel_rfl) (by kernel_rfl) (by kernel_rfl) (by kernel_rfl) (by kernel_rfl) (fun _ _ _ h=>h) (by rfl) hHeld ?_ ?_;rotate_left
       ·intro wh hz;iterate 13 obtain ⟨_,hz⟩:=hz
        go_simp
        (try with_reducible rfl)
       simp only [Act.put,aS1,aS2,aS3];refine heldS_take (i:=12) (v:=?_) rfl rfl (by kernel_rfl) (by kernel_rfl) (by kernel_rfl) (by kernel_rfl) (by kernel_rfl) (fun _ _ _ h=>h) (by rfl) hHeld ?_ ?_;rotate_left
       ·intro wh hz;iterate 13 obtain ⟨_,hz⟩:=hz
        go_simp
        (try with_reducible rfl)
       simp only [Act.put,aS1,aS2,aS3];refine heldS_take (i:=13) (v:=?_) rfl rfl (by kernel_rfl) (by kernel_rfl) (by kernel_rfl) (by kernel_rfl) (by kernel_rfl) (fun _ _ _ h=>h) (by rfl) hHeld ?_ ?_;rotate_left
       ·intro wh hz;iterate 13 obtain ⟨_,hz⟩:=hz
        go_simp
        (try with_reducible rfl)
       simp only [Act.put,aS1,aS2,aS3];refine heldS_take (i:=14) (v:=?_) rfl rfl (by kernel_rfl) (by kernel_rfl) (by kernel_rfl) (by kernel_rfl) (by kernel_rfl) (fun _ _ _ h=>h) (by rfl) hHeld ?_ ?_;rotate_left
       ·intro wh hz;iterate 13 obtain ⟨_,hz⟩:=hz
        go_simp
        (try with_reducible rfl)
       simp only [Act.put,aS1,aS2,aS3];refine heldS_take (i:=15) (v:=?_) rfl rfl (by kernel_rfl) (by kernel_rfl) (by kernel_rfl) (by kernel_rfl) (by kernel_rfl) (fun _ _ _ h=>h) (by rfl) hHeld ?_ ?_;rotate_left
       ·intro wh hz;iterate 13 obtain ⟨_,hz⟩:=hz
        go_simp
        (try with_reducible rfl)
       simp only [Act.put,aS1,aS2,aS3];refine heldS_take (i:=16) (v:=?_) rfl rfl (by kernel_rfl) (by kernel_rfl) (by kernel_rfl) (by kernel_rfl) (by kernel_rfl) (fun _ _ _ h=>h) (by rfl) hHeld ?_ ?_;rotate_left
       ·intro wh hz;iterate 13 obtain ⟨_,hz⟩:=hz
        go_simp
        (try with_reducible rfl)
       simp only [Act.put,aS1,aS2,aS3];refine heldS_step (i:=17) rfl (by kernel_rfl) (fun K hK=>?_)
       (go_simp;go_at_call 31;refine (KB.out _ hd).mono ?_;rintro e w6 ⟨rfl,hb6⟩;have hB6:=hd.trans (hb6.mono hd.size))
       refine hK.out _ _ ⟨kCq q0 hB6 ltq,kCq q1 hB6 ltq,kCq q2 hB6 ltq,kCq q3 hB6 ltq,kCq q4 hB6 ltq,kCq q5 hB6 ltq,kCq t0 hB6 ltt,kCq t1 hB6 ltt,kCq z0 hB6 ltz,kCq z1 hB6 ltz,kCq z2 hB6 ltz,kCq z3 hB6 ltz,kCq z4 hB6 ltz,kCq o0 hB6 lto⟩ (fun hHeld=>?_);clear hK K
       (try simp only [Act.put,aS1,aS2,aS3])
       refine heldS_take (i:=18) (v:=?_) rfl rfl (by kernel_rfl) (by kernel_rfl) (by kernel_rfl) (by kernel_rfl) (by kernel_rfl) (fun _ _ _ h=>h) (by rfl) hHeld ?_ ?_;rotate_left
       ·intro wh hz;iterate 13 obtain ⟨_,hz⟩:=hz
        go_simp
        (try with_reducible rfl)
       simp only [Act.put,aS1,aS2,aS3];refine heldS_step (i:=19) rfl (by kernel_rfl) (fun K hK=>?_);go_simp;refine hK.out _ _ hHeld (fun hHeld=>?_);clear hK K
       (try simp only [Act.put,aS1,aS2,aS3])
       have HW7:=Lib.hid (HW.out.later hB6);have of0:=HW7.out.row.frozen m;have oc0:=kCq o0 hB6 lto;have HN2:=Lib.hid (HNX.out _ BY HW7.out (by rw [HBM.out];simp));refine heldS_last (i:=20) rfl (by kernel_rfl) (by kernel_rfl) (fun K hK=>?_);go_simp;refine hK.out _ _ ?_;clear hK K;refine wpAnyEnd_done (by kernel_rfl) ?_ _;clear hd hb6 hB6 q0 q1 q2 q3 q4 q5 t0 t1 z0 z1 z2 z3 z4 o0 of0 oc0 KB HW7 HW;go_wp2;go_roundw
       case rel=>exact ⟨m+1,by go_num,by omega,HN2⟩
       case measure=>(simp [intOf];try omega)
      ·refine wp_region_heldS 20 (S:=(fun W=>W.cell? ⟨w.heap.size,0,none⟩=some (.slice a0 p.so.length c0)∧W.cell? ⟨w.heap.size,1,none⟩=some (.slice a1 p.re.length c1)∧W.cell? ⟨w.heap.size,2,none⟩=some (.slice a2 p.pe.length c2)∧W.cell? ⟨w.heap.size,3,none⟩=some (.slice a3 p.ra.length c3)∧W.cell? ⟨w.heap.size,4,none⟩=some (.slice a4 p.ro.length c4)∧W.cell? ⟨w.heap.size,5,none⟩=some (.slice (some ⟨b5,o5,none⟩) p.ih.length c5)∧W.cell? ⟨w.heap.size+1,0,none⟩=some (.int .i64 tl)∧W.cell? ⟨w.heap.size+1,1,none⟩=some (.int .u32 tc)∧W.cell? ⟨b5,o5+m * 5,none⟩=some bv∧W.cell? ⟨b5,o5+m * 5+1,none⟩=some (.int .i64 xlv)∧W.cell? ⟨b5,o5+m * 5+2,none⟩=some (.int .u32 xc)∧W.cell? ⟨b5,o5+m * 5+3,none⟩=some fv∧W.cell? ⟨b5,o5+m * 5+4,none⟩=some wv∧W.cell? ⟨W0.heap.size,m,none⟩=some (.bool true))) (by kernel_rfl) ⟨q0,q1,q2,q3,q4,q5,t0,t1,z0,z1,z2,z3,z4,o0⟩ (fun hHeld=>?_)
       have hd:Below wr.heap.size wr wr.drew:=(Below.refl _ _).drew;refine heldS_take (i:=0) (v:=?_) rfl rfl (by kernel_rfl) (by kernel_rfl) (by kernel_rfl) (by kernel_rfl) (by kernel_rfl) (fun _ _ _ h=>h) (by rfl) hHeld ?_ ?_;rotate_left
       ·intro wh hz;iterate 13 obtain ⟨_,hz⟩:=hz
        go_simp
        (try with_reducible rfl)
       simp only [Act.put,aS1,aS2,aS3];refine heldS_take (i:=1) (v:=?_) rfl rfl (by kernel_rfl) (by kernel_rfl) (by kernel_rfl) (by kernel_rfl) (by kernel_rfl) (fun _ _ _ h=>h) (by rfl) hHeld ?_ ?_;rotate_left
       ·intro wh hz;iterate 13 obtain ⟨_,hz⟩:=hz
        go_simp
        (try with_reducible rfl)
       simp only [Act.put,aS1,aS2,aS3];refine heldS_take (i:=2) (v:=?_) rfl rfl (by kernel_rfl) (by kernel_rfl) (by kernel_rfl) (by kernel_rfl) (by kernel_rfl) (fun _ _ _ h=>h) (by rfl) hHeld ?_ ?_;rotate_left
       ·intro wh hz;iterate 13 obtain ⟨_,hz⟩:=hz
        go_simp
        (try with_reducible rfl)
       simp only [Act.put,aS1,aS2,aS3];refine heldS_take (i:=3) (v:=?_) rfl rfl (by kernel_rfl) (by kernel_rfl) (by kernel_rfl) (by kernel_rfl) (by kernel_rfl) (fun _ _ _ h=>h) (by rfl) hHeld ?_ ?_;rotate_left
       ·intro wh hz;iterate 13 obtain ⟨_,hz⟩:=hz
        go_simp
        (try with_reducible rfl)
       simp only [Act.put,aS1,aS2,aS3];refine heldS_take (i:=4) (v:=?_) rfl rfl (by kernel_rfl) (by kernel_rfl) (by kernel_rfl) (by kernel_rfl) (by kernel_rfl) (fun _ _ _ h=>h) (by rfl) hHeld ?_ ?_;rotate_left
       ·intro wh hz;iterate 13 obtain ⟨_,hz⟩:=hz
        go_simp
        (try with_reducible rfl)
       simp only [Act.put,aS1,aS2,aS3];refine heldS_take (i:=5) (v:=?_) rfl rfl (by kernel_rfl) (by kernel_rfl) (by kernel_rfl) (by kernel_rfl) (by kernel_rfl) (fun _ _ _ h=>h) (by rfl) hHeld ?_ ?_;rotate_left
       ·intro wh hz;iterate 13 obtain ⟨_,hz⟩:=hz
        go_simp
        (try with_reducible rfl)
       simp only [Act.put,aS1,aS2,aS3];refine heldS_take (i:=6) (v:=?_) rfl rfl (by kernel_rfl) (by kernel_rfl) (by kernel_rfl) (by kernel_rfl) (by kernel_rfl) (fun _ _ _ h=>h) (by rfl) hHeld ?_ ?_;rotate_left
       ·intro wh hz;iterate 13 obtain ⟨_,hz⟩:=hz
        go_simp
        (try with_reducible rfl)
       simp only [Act.put,aS1,aS2,aS3];refine heldS_skip (i:=7) rfl rfl (by kernel_rfl) (by kernel_rfl) (by kernel_rfl) (by kernel_rfl) (by kernel_rfl) (fun _ _ _ h=>h) (by rfl) hHeld ?_;simp only [Act.put,aS1,aS2,aS3];refine heldS_skip (i:=8) rfl rfl (by kernel_rfl) (by kernel_rfl) (by kernel_rfl) (by kernel_rfl) (by kernel_rfl) (fun _ _ _ h=>h) (by rfl) hHeld ?_;simp only [Act.put,aS1,aS2,aS3];refine heldS_skip (i:=9) rfl rfl (by kernel_rfl) (by kernel_rfl) (by kernel_rfl) (by kernel_rfl) (by kernel_rfl) (fun _ _ _ h=>h) (by rfl) hHeld ?_;simp only [Act.put,aS1,aS2,aS3];refine heldS_skip (i:=10) rfl rfl (by kernel_rfl) (by kernel_rfl) (by kernel_rfl) (by kernel_rfl) (by kernel_rfl) (fun _ _ _ h=>h) (by rfl) hHeld ?_;simp only [Act.put,aS1,aS2,aS3];refine heldS_skip (i:=11) rfl rfl (by kernel_rfl) (by kernel_rfl) (by kernel_rfl) (by kernel_rfl) (by kernel_rfl) (fun _ _ _ h=>h) (by rfl) hHeld ?_;simp only [Act.put,aS1,aS2,aS3];refine heldS_skip (i:=12) rfl rfl (by kernel_rfl) (by kernel_rfl) (by kernel_rfl) (by kernel_rfl) (by kernel_rfl) (fun _ _ _ h=>h) (by rfl) hHeld ?_;simp only [Act.put,aS1,aS2,aS3];refine heldS_skip (i:=13) rfl rfl (by kernel_rfl) (by kernel_rfl) (by kernel_rfl) (by kernel_rfl) (by kernel_rfl) (fun _ _ _ h=>h) (by rfl) hHeld ?_;simp only [Act.put,aS1,aS2,aS3];refine heldS_skip (i:=14) rfl rfl (by kernel_rfl) (by kernel_rfl) (by kernel_rfl) (by kernel_rfl) (by kernel_rfl) (fun _ _ _ h=>h) (by rfl) hHeld ?_;simp only [Act.put,aS1,aS2,aS3];refine heldS_skip (i:=15) rfl rfl (by kernel_rfl) (by kernel_rfl) (by kernel_rfl) (by kernel_rfl) (by kernel_rfl) (fun _ _ _ h=>h) (by rfl) hHeld ?_;simp only [Act.put,aS1,aS2,aS3];refine heldS_skip (i:=16) rfl rfl (by kernel_rfl) (by kernel_rfl) (by kernel_rfl) (by kernel_rfl) (by kernel_rfl) (fun _ _ _ h=>h) (by rfl) hHeld ?_;simp only [Act.put,aS1,aS2,aS3];refine heldS_skip (i:=17) rfl rfl (by kernel_rfl) (by kernel_rfl) (by kernel_rfl) (by kernel_rfl) (by kernel_rfl) (fun _ _ _ h=>h) (by rfl) hHeld ?_;simp only [Act.put,aS1,aS2,aS3];refine heldS_take (i:=18) (v:=?_) rfl rfl (by kernel_rfl) (by kernel_rfl) (by kernel_rfl) (by kernel_rfl) (by kernel_rfl) (fun _ _ _ h=>h) (by rfl) hHeld ?_ ?_;rotate_left
       ·intro wh hz;iterate 13 obtain ⟨_,hz⟩:=hz
        go_simp
        (try with_reducible rfl)
       simp only [Act.put,aS1,aS2,aS3];refine heldS_step (i:=19) rfl (by kernel_rfl) (fun K hK=>?_);go_simp;refine hK.out _ _ hHeld (fun hHeld=>?_);clear hK K
       (try simp only [Act.put,aS1,aS2,aS3])
       have HW7:=Lib.hid (HW.out.later hd);have of0:=HW7.out.row.frozen m;have oc0:=kCq o0 hd lto;have HN2:=Lib.hid (HNX.out _ true HW7.out (by simp));refine heldS_last (i:=20) rfl (by kernel_rfl) (by kernel_rfl) (fun K hK=>?_);go_simp;refine hK.out _ _ ?_;clear hK K;refine wpAnyEnd_done (by kernel_rfl) ?_ _;clear hd q0 q1 q2 q3 q4 q5 t0 t1 z0 z1 z2 z3 z4 o0 of0 oc0 KB HW7 HW;go_wp2;go_roundw
       case rel=>exact ⟨m+1,by go_num,by omega,HN2⟩
       case measure=>(simp [intOf];try omega)
     ·obtain rfl:m=p.ih.length:=by omega
      have HN1:=Lib.hid (HW.out.congr (Y:=RB (n+1)) (fun j hj=>by rw [HSTn.out,decide_eq_true hj]));go_wp2;go_roundw
      case rel=>exact ⟨n+1,by go_num,by omega,HN1⟩
      case measure=>(simp [intOf];try omega)
  ·obtain rfl:n=l.length:=by omega
   go_wp2;go_ret;exact ⟨_,rfl,⟨_,rfl,HW.out.row.congr (fun j hj=>by rw [HALL.out j hj])⟩,HS0.out.below.trans (HW.out.bl.mono HS0.out.below.size)⟩
end Go.Proofs.YtipnhpfpppblhaaGreat
namespace Go.Proofs.YtipnhpfpppblhaaGreat
open Go.RowKit
structure BxAt (b:Nat) (cs:List Value) (W:World):Prop where
 lt:b < W.heap.size
 get:∀ (j:Nat) (v:Value),cs[j]?=some v→W.cell? ⟨b,j,none⟩=some v
theorem BxAt.later {b:Nat} {cs:List Value} {W W':World} (h:BxAt b cs W) (hb:Below W.heap.size W W'):BxAt b cs W' :=
 ⟨Nat.lt_of_lt_of_le h.lt hb.size,fun j v hj=>kCq (h.get j v hj) hb h.lt⟩
theorem BxAt.puts {b:Nat} {cs:List Value} {W:World} (h:BxAt b cs W) {g o:Nat} (hne:b≠g) (vs:List Value):BxAt b cs (W.setCells g o vs) :=
 ⟨Nat.lt_of_lt_of_le h.lt (below_puts_base (g:=g) (o:=o) (Below.refl 0 W) (Nat.zero_le _) vs).size,fun j v hj=>by
  rw [World.cell?_setCells_out _ _ _ _ _ (fun hb _=>absurd hb hne)];exact h.get j v hj⟩
theorem two_boxes (w:World) (v0 v1 v2 v3 v4 v5:Value) (cs:List Value) (s t:TypeId) (W:World) (h:(w.alloc (.cells #[v0,v1,v2,v3,v4,v5] s)).alloc (.cells cs.toArray t)=W) :
  C6 w.heap.size v0 v1 v2 v3 v4 v5 W∧W.there w.heap.size 0 6∧BxAt (w.heap.size+1) cs W∧Below w.heap.size w W∧w.heap.size < W.heap.size:=by
 subst h;obtain ⟨W1,h1⟩:∃ z,w.alloc (.cells #[v0,v1,v2,v3,v4,v5] s)=z:=⟨_,rfl⟩;rw [h1];have s1:W1.heap.size=w.heap.size+1:=by rw [← h1,World.size_alloc]
 have b1:Below w.heap.size w W1:=by rw [← h1];exact aBq _ _
 have x6:C6 w.heap.size v0 v1 v2 v3 v4 v5 W1:=by rw [← h1];exact box6n w _ _ _ _ _ _ _
 have ht:W1.there w.heap.size 0 6:=h1 ▸ box_there (Below.refl _ _);obtain ⟨s2,b2,c2⟩:=alloc_facts W1 cs t _ rfl;refine ⟨x6.later b2 (by omega),there_later ht b2 (by omega),⟨by omega,fun j v hj=>?_⟩,b1.trans (b2.mono (by omega)),by omega⟩;rw [← s1];exact c2 j v hj
set_option maxHeartbeats 1600000 in
set_option maxRecDepth 100000 in
theorem same_ints (xs ys:List Int) (w:World) (u v:Value) (hx:IntsAt w u xs) (hy:IntsAt w v ys) (hl:xs.length≤1000) (hl2:ys.length≤1000) :
  Calls Tryz.prog 12 #[u,v] w fun e w'=>e=.returned (.bool (decide (xs=ys)))∧Below w.heap.size w w':=by
 obtain ⟨a,c,rfl,hc,hr⟩:=RdAt.shape hx;obtain ⟨a',c',rfl,hc',hr'⟩:=RdAt.shape hy;have HR:=Lib.hid hr;have HR':=Lib.hid hr';clear hr hr' hx hy
 by_cases hlen:xs.length=ys.length
 ·have hlen':(xs.length:Int)=(ys.length:Int):=by omega
  have hb0:((xs.length:Int) != (ys.length:Int))=false:=by simp [hlen]
  have HLEN:=Lib.hid hlen;clear hlen hlen'
  go_enter Tryz.func12,Tryz.ntmps12
  go_wp2
  go_loopw [5] (fun i wr=>∃ k:Nat,k≤xs.length∧i=.int .i64 k∧Hid (xs.take k=ys.take k)∧Below w.heap.size w wr) (fun i _=>xs.length - (intOf i).toNat)
  case atStart=>exact ⟨0,Nat.zero_le _,rfl,Lib.hid rfl,Below.refl _ _⟩
  case round =>
   obtain ⟨k,hk,rfl,HT,hbr⟩:=hrel
   by_cases hkl:k < xs.length
   ·have hkl2:k < ys.length:=by have:=HLEN.out;omega
    obtain ⟨x,hxe⟩:∃ x,xs[k]=x:=⟨_,rfl⟩;obtain ⟨y,hye⟩:∃ y,ys[k]=y:=⟨_,rfl⟩;obtain ⟨b0,o0,rfl,hb0',hcell⟩:=HR.out (by omega);obtain ⟨b1,o1,rfl,hb1',hcell'⟩:=HR'.out (by omega);have hcr:wr.cell? ⟨b0,o0+k,none⟩=some (.int .i64 x):=(hbr.cell (p:=⟨b0,o0+k,none⟩) hb0').trans (hcell k _ (by rw [List.getElem?_map,List.getElem?_eq_getElem hkl,hxe];rfl));have hcr':wr.cell? ⟨b1,o1+k,none⟩=some (.int .i64 y):=(hbr.cell (p:=⟨b1,o1+k,none⟩) hb1').trans (hcell' k _ (by rw [List.getElem?_map,List.getElem?_eq_getElem hkl2,hye];rfl));clear hcell hcell'
    by_cases hxy:x=y
    ·have HN:Hid (xs.take (k+1)=ys.take (k+1)):=take_step HT.out hkl hkl2 (by rw [hxe,hye,hxy])
     have hbx:(x != y)=false:=by simp [hxy]
     clear hxy hxe hye;go_wp2_with fail
     go_region
     all_goals go_wp2
     go_roundw
     case rel=>exact ⟨k+1,by omega,by go_num,HN,bl_drewN hbr 1⟩
     case measure=>simp [intOf];omega
    ·have hbx:(x != y)=true:=by simp [hxy]
     have HN:Hid (xs≠ys):=ne_at hkl hkl2 (by rw [hxe,hye];exact hxy);clear hxy hxe hye;go_wp2_with fail
     go_region
     all_goals go_wp2
     go_ret;exact ⟨by rw [decide_eq_false HN.out];rfl,bl_drewN hbr 1⟩
   ·obtain rfl:k=xs.length:=by omega
    have HN:Hid (xs=ys):=take_done HLEN.out HT.out;clear HT;go_wp2;go_ret;exact ⟨by rw [decide_eq_true HN.out];rfl,hbr⟩
 ·have hlen':¬ (xs.length:Int)=(ys.length:Int):=by omega
  go_enter Tryz.func12,Tryz.ntmps12
  go_wp2;go_ret;exact ⟨by rw [decide_eq_false (fun h=>hlen (by rw [h]))];rfl,Below.refl _ _⟩
open Go.Maps
namespace lawQuiet
set_option maxHeartbeats 6400000 in
set_option maxRecDepth 100000 in
theorem walk0 (x:PA) (p:PD) (l:List (Al × Value)) (v:Value) (at0 at1:Int) (w:World) (hp:PolAt w (x.pv p) p) (hc:PCap (x.pv p)) (hpf:PolFitD p) (ha:AlsAt w v l) (hl:l.length≤maxLen) :
  Calls Tryz.prog 3 #[(x.pv p).v,v,.agg #[.int .i64 at0,.int .i64 at1]] w fun e w'=>e=.returned (.bool true)∧Below w.heap.size w w':=by
 have kl:=lives_any;have kc:=fun W (h:Below w.heap.size w W)=>rcutD_any x p W (hp.later h) hc;have kfew:=fun W (h:Below w.heap.size w W)=>few13_any l v W (ha.later h) hl;have hq:=pol_cut hp;have hqf:=cutD_fit hpf;have h14:p.cut.ih.length≤14:=by unfold PD.cut;exact List.length_take_le _ _
 generalize p.cut=q at *;obtain ⟨a0,c0,a1,c1,a2,c2,a3,c3,a4,c4,a5,c5⟩:=x;have KLF:=Lib.hid (fun (L:List (Al × Value)) (u:Value) (tl:Int) (tc:Nat) (nw:Int) (W:World) (h:Below w.heap.size w W) (hL:AlsAt W u L) (hn:L.length≤1000000) (h12:∀ y∈L,y.1.fl.length≤12)=>ileft_any _ q L u tl tc nw W (hq.later h) hqf hL hn h12);have KQT:=Lib.hid (fun (L:List (Al × Value)) (u:Value) (k:Int) (tl:Int) (tc:Nat) (nw:Int) (W:World) (h:Below w.heap.size w W) (hL:AlsAt W u L) (hn:L.length≤maxLen)=>iquiet_any _ q L u k tl tc nw W (hq.later h) hqf hL hn);have KBT:=Lib.hid (fun (L:List (Al × Value)) (u:Value) (tl:Int) (tc:Nat) (nw:Int) (W:World) (h:Below w.heap.size w W) (hL:AlsAt W u L) (hn:L.length≤1000000) (h12:∀ y∈L,y.1.fl.length≤12)=>ibits_any _ q L u tl tc nw W (hq.later h) hqf hL hn h12 h14);have KCH:=Lib.hid (fun (W:World) (h:Below w.heap.size w W)=>check8_any _ q W (hq.later h) hqf)
 have KCT:Hid (∀ (y m:Al) (ok:Bool) (fa:Option Addr) (fc:Nat) (tl:Int) (tc:Nat) (W:World),Below w.heap.size w W→FldsAt W (.slice fa y.fl.length fc) y.fl→y.fl.length≤12→cutOk q.ra y.fl (y.lv,y.c) (tl,tc)=ok→cutAl q.ra y (tl,tc)=m →
   Calls Tryz.prog 20 #[.agg #[.slice a0 q.so.length c0,.slice a1 q.re.length c1,.slice a2 q.pe.length c2,.slice a3 q.ra.length c3,.slice a4 q.ro.length c4,.slice a5 q.ih.length c5],.agg #[.string y.src,.slice fa y.fl.length fc,.int .i64 y.lv,.int .u32 y.c,.int .i64 y.fr,.int .i64 y.til],Lab tl tc] W fun e w' =>
    ∃ pa pc,e=.returned (.tuple #[.agg #[.string m.src,.slice pa m.fl.length pc,.int .i64 m.lv,.int .u32 m.c,.int .i64 m.fr,.int .i64 m.til],.bool ok])∧FldsAt w' (.slice pa m.fl.length pc) m.fl∧(∀ q,(Value.slice pa m.fl.length pc).ownBlock=some q→W.heap.size≤q)∧Below W.heap.size W w') :=
  Lib.hid (fun y m ok fa fc tl tc W hW hF hx hok hm=>cut_l (a0,q.so.length,c0) (a1,q.re.length,c1) (a2,q.pe.length,c2) (a4,q.ro.length,c4) (a5,q.ih.length,c5) q.ra (.slice a3 q.ra.length c3) y (.slice fa y.fl.length fc) (tl,tc) m ok W (hq.h3.later hW) hqf.h3.1 hF (by omega) hok hm)
 have KRQ:=Lib.hid (fun (L:List (Al × Value)) (u:Value) (k:Int) (tl:Int) (tc:Nat) (nw:Int) (W:World) (h:Below w.heap.size w W) (hL:AlsAt W u L) (hn:L.length≤maxLen) (h12:∀ y∈L,y.1.fl.length≤12) (htc:tc < 4294967296)=>rquiet_any _ q L u k tl tc nw W (hq.later h) hqf hL hn h12 htc);have KRL:=Lib.hid (fun (L:List (Al × Value)) (u:Value) (tl:Int) (tc:Nat) (nw:Int) (W:World) (h:Below w.heap.size w W) (hL:AlsAt W u L) (hn:L.length≤1000000) (h12:∀ y∈L,y.1.fl.length≤12) (htc:tc < 4294967296)=>rleft_any _ q L u tl tc nw W (hq.later h) hqf hL hn h12 htc);have KRB:=Lib.hid (fun (L:List (Al × Value)) (u:Value) (tl:Int) (tc:Nat) (nw:Int) (W:World) (h:Below w.heap.size w W) (hL:AlsAt W u L) (hn:L.length≤1000000) (h12:∀ y∈L,y.1.fl.length≤12) (htc:tc < 4294967296)=>rbits_any _ q L u tl tc nw W (hq.later h) hqf hL hn h12 htc h14);have HQP:=Lib.hid hq;have HQF:=Lib.hid hqf;dsimp only [PA.pv,PV.v] at *;generalize p.so.length=n0 at *;generalize p.re.length=n1 at *;generalize p.pe.length=n2 at *;generalize p.ra.length=n3 at *;generalize p.ro.length=n4 at *;generalize p.ih.length=n5 at *;obtain ⟨m0,hm0⟩:∃ z,q.so.length=z:=⟨_,rfl⟩;obtain ⟨m1,hm1⟩:∃ z,q.re.length=z:=⟨_,rfl⟩;obtain ⟨m2,hm2⟩:∃ z,q.pe.length=z:=⟨_,rfl⟩;obtain ⟨m3,hm3⟩:∃ z,q.ra.length=z:=⟨_,rfl⟩;obtain ⟨m4,hm4⟩:∃ z,q.ro.length=z:=⟨_,rfl⟩;obtain ⟨m5,hm5⟩:∃ z,q.ih.length=z:=⟨_,rfl⟩;rw [hm0,hm1,hm2,hm3,hm4,hm5] at KLF KQT KBT KCH KCT kc HQP KRQ KRL KRB;have HM5:=Lib.hid hm5;have H14:=Lib.hid h14;have KC:=Lib.hid kc;have KFEW:=Lib.hid kfew;have HA:=Lib.hid ha;clear kc kfew hp hc hpf ha hq hqf hl h14 hm0 hm1 hm2 hm3 hm4 hm5;obtain ⟨W0,hW0⟩:∃ z,(w.alloc (.cells #[.slice a0 n0 c0,.slice a1 n1 c1,.slice a2 n2 c2,.slice a3 n3 c3,.slice a4 n4 c4,.slice a5 n5 c5] 26)).alloc (.cells #[.int .i64 at0,.int .i64 at1] 28)=z:=⟨_,rfl⟩;obtain ⟨hP,hT,hX,hb0,hz⟩:=two_boxes w (.slice a0 n0 c0) (.slice a1 n1 c1) (.slice a2 n2 c2) (.slice a3 n3 c3) (.slice a4 n4 c4) (.slice a5 n5 c5) [.int .i64 at0,.int .i64 at1] _ _ W0 hW0;have HX0:=Lib.hid hX;clear hX;have HP:=Lib.hid hP;have HT:=Lib.hid hT;have HB0:=Lib.hid hb0;have HZ:=Lib.hid hz;have HW0:=Lib.hid hW0;obtain ⟨va,vc,rfl,_,_⟩:=RdAt.shape HA.out.row;clear hb0 hz hT hP hW0
 go_enter Tryz.func3,Tryz.ntmps3
 go_upto_region 1 with fail;rw [HW0.out];clear HW0;go_wp2_with fail
 refine (kl _).mono ?_;rintro e w1 ⟨rfl,hb1⟩;have HB1:=Lib.hid (HB0.out.trans (hb1.mono HB0.out.size));have HT1:=Lib.hid (there_later HT.out hb1 HZ.out);have HZ1:=Lib.hid (Nat.lt_of_lt_of_le HZ.out hb1.size);obtain ⟨p0,p1,p2,p3,p4,p5⟩:=HP.out.later hb1 HZ.out;have HX1:=Lib.hid (HX0.out.later hb1);clear hb1 kl HB0 HP HT HZ;go_wp2_with fail
 refine (KC.out _ HB1.out).mono ?_;rintro e w2 ⟨rfl,hb2⟩;have HB2:=Lib.hid (HB1.out.trans (hb2.mono HB1.out.size));have HT2:=Lib.hid (there_later HT1.out hb2 HZ1.out);have HZ2:=Lib.hid (Nat.lt_of_lt_of_le HZ1.out hb2.size);have HX2:=Lib.hid (HX1.out.later hb2);clear HX1 HX0;have P0:=kCq p0 hb2 HZ1.out;have P1:=kCq p1 hb2 HZ1.out;have P2:=kCq p2 hb2 HZ1.out;have P3:=kCq p3 hb2 HZ1.out;have P4:=kCq p4 hb2 HZ1.out;have P5:=kCq p5 hb2 HZ1.out;clear hb2 p0 p1 p2 p3 p4 p5 KC HB1 HT1 HZ1;have f0:=tFq HT2.out 0 (by decide);have f1:=tFq HT2.out 1 (by decide);have f2:=tFq HT2.out 2 (by decide);have f3:=tFq HT2.out 3 (by decide);have f4:=tFq HT2.out 4 (by decide);have f5:=tFq HT2.out 5 (by decide);go_upto_region 4 with fail;change Code.wp _ _ _ _ (w2.setCells w.heap.size 0 [.slice a0 m0 c0,.slice a1 m1 c1,.slice a2 m2 c2,.slice a3 m3 c3,.slice a4 m4 c4,.slice a5 m5 c5]);have HX3:=Lib.hid (HX2.out.puts (g:=w.heap.size) (o:=0) (by omega) [.slice a0 m0 c0,.slice a1 m1 c1,.slice a2 m2 c2,.slice a3 m3 c3,.slice a4 m4 c4,.slice a5 m5 c5]);clear HX2;have hP3:=c6_puts w2 w.heap.size (.slice a0 m0 c0) (.slice a1 m1 c1) (.slice a2 m2 c2) (.slice a3 m3 c3) (.slice a4 m4 c4) (.slice a5 m5 c5) HT2.out;have hB3:=below_puts (g:=w.heap.size) (o:=0) HB2.out (Nat.le_refl _) [.slice a0 m0 c0,.slice a1 m1 c1,.slice a2 m2 c2,.slice a3 m3 c3,.slice a4 m4 c4,.slice a5 m5 c5];have hZ3:=Nat.lt_of_lt_of_le HZ2.out (below_puts_base (g:=w.heap.size) (o:=0) (Below.refl 0 w2) (Nat.zero_le _) [.slice a0 m0 c0,.slice a1 m1 c1,.slice a2 m2 c2,.slice a3 m3 c3,.slice a4 m4 c4,.slice a5 m5 c5]).size;generalize w2.setCells w.heap.size 0 [.slice a0 m0 c0,.slice a1 m1 c1,.slice a2 m2 c2,.slice a3 m3 c3,.slice a4 m4 c4,.slice a5 m5 c5]=w3 at *;clear f0 f1 f2 f3 f4 f5 P0 P1 P2 P3 P4 P5 HB2 HT2 HZ2;have HP3:=Lib.hid hP3;have HB3:=Lib.hid hB3;have HZ3:=Lib.hid hZ3;clear hP3 hB3 hZ3;have kf:=KFEW.out w3 HB3.out;clear KFEW HA;go_wp2_with fail
 refine kf.mono ?_;rintro e w4 ⟨u1,u2,L,rfl,hb4,hO,hD,hmap⟩
 have h10:L.length≤10:=by
  have:=congrArg List.length hmap
  rw [List.length_map,List.length_map,List.length_take] at this
  omega
 have H12:Hid (∀ y∈L,y.1.fl.length≤12):=Lib.hid (fun y hy=>by
  have hm:y.1∈(l.take 10).map (fun p=>cutA p.1):=hmap ▸ List.mem_map_of_mem hy;obtain ⟨z,_,hz⟩:=List.mem_map.1 hm;rw [← hz];exact List.length_take_le _ _)
 obtain ⟨oa,oc,rfl,hoc,hor⟩:=RdAt.shape hO.row;obtain ⟨da,dc,rfl,hdc,_⟩:=RdAt.shape hD.row;have HB4:=Lib.hid (HB3.out.trans (hb4.mono HB3.out.size));have HP4:=Lib.hid (HP3.out.later hb4 HZ3.out);have HZ4:=Lib.hid (Nat.lt_of_lt_of_le HZ3.out hb4.size);have HX4:=Lib.hid (HX3.out.later hb4);clear HX3;have HO4:=Lib.hid hO;have HD4:=Lib.hid hD;clear kf hb4 hO hD hmap hor HB3 HP3 HZ3;have x0:=HX4.out.get 0 _ rfl;go_upto_region 6 with fail;change Code.wp _ _ _ _ (w4.alloc (.cells #[.int .i64 at0,.int .u32 4294967295] 36));obtain ⟨s5,b5,c5'⟩:=alloc_facts w4 [.int .i64 at0,.int .u32 4294967295] 36 _ rfl;generalize hw5:w4.alloc (.cells [.int .i64 at0,.int .u32 4294967295].toArray 36)=w5 at *;clear hw5;have HB5:=Lib.hid (HB4.out.trans (b5.mono HB4.out.size));have HP5:=Lib.hid (HP4.out.later b5 HZ4.out);have HO5:=Lib.hid (HO4.out.later b5);have HD5:=Lib.hid (HD4.out.later b5);have HX5:=Lib.hid (HX4.out.later b5);clear HX4;have HT5:=Lib.hid (And.intro (c5' 0 _ rfl) (c5' 1 _ rfl));have hgl:w4.heap.size < w5.heap.size:=by omega
 have hgw:w.heap.size < w5.heap.size:=by have:=HZ4.out;omega
 generalize w4.heap.size=gl at *;clear b5 c5' HB4 HP4 HO4 HD4 s5;clear x0;have hm14:=H14.out;have hm5:=HM5.out;have HQL:=Lib.hid (fun k=>Nat.le_trans (quietK_len q L k (at0,4294967295) at1) hm14);have hll:=left_len q L (at0,4294967295) at1;have K1:=Lib.hid (fun k W (h:Below w5.heap.size w5 W)=>KQT.out L _ k at0 4294967295 at1 W (HB5.out.trans (h.mono HB5.out.size)) (HO5.out.later h) (by unfold maxLen;omega));have K2:=Lib.hid (fun k W (h:Below w5.heap.size w5 W)=>KRQ.out L _ k at0 4294967295 at1 W (HB5.out.trans (h.mono HB5.out.size)) (HD5.out.later h) (by unfold maxLen;omega) H12.out (by decide));have K3:=Lib.hid (fun W (h:Below w5.heap.size w5 W)=>KBT.out L _ at0 4294967295 at1 W (HB5.out.trans (h.mono HB5.out.size)) (HO5.out.later h) (by omega) H12.out);have K4:=Lib.hid (fun W (h:Below w5.heap.size w5 W)=>KRB.out L _ at0 4294967295 at1 W (HB5.out.trans (h.mono HB5.out.size)) (HD5.out.later h) (by omega) H12.out (by decide));have K5:=Lib.hid (fun W (h:Below w5.heap.size w5 W)=>KLF.out L _ at0 4294967295 at1 W (HB5.out.trans (h.mono HB5.out.size)) (HO5.out.later h) (by omega) H12.out);have K6:=Lib.hid (fun W (h:Below w5.heap.size w5 W)=>KRL.out L _ at0 4294967295 at1 W (HB5.out.trans (h.mono HB5.out.size)) (HD5.out.later h) (by omega) H12.out (by decide));rw [hm5] at hm14;clear hm5 KQT KRQ KBT KRB KLF KRL KCT KCH;go_wp2
 go_loopw [10] (fun i wr=>∃ (n:Nat),i=.int .i64 ((n:Int) - 1)∧n≤L.length+2∧Hid (Below w5.heap.size w5 wr)) (fun i _=>(L.length+1 - intOf i).toNat)
 case atStart=>exact ⟨0,rfl,Nat.zero_le _,Lib.hid (Below.refl _ _)⟩
 case round =>
  obtain ⟨n,rfl,hn,HB⟩:=hrel;obtain ⟨q0,q1,q2,q3,q4,q5⟩:=HP5.out.later HB.out hgw;have t0:=kCq HT5.out.1 HB.out hgl;have t1:=kCq HT5.out.2 HB.out hgl;have x1:=(HX5.out.later HB.out).get 1 _ rfl;have ltx:w.heap.size+1 < wr.heap.size:=(HX5.out.later HB.out).lt;have ltq:w.heap.size < wr.heap.size:=Nat.lt_of_lt_of_le hgw HB.out.size;have ltt:gl < wr.heap.size:=Nat.lt_of_lt_of_le hgl HB.out.size
  by_cases hnl:(n:Int) - 1≤(L.length:Int)
  ·have K1n:=Lib.hid (fun W (h:Below wr.heap.size wr W)=>K1.out ((n:Int) - 1) W (HB.out.trans (h.mono HB.out.size)))
   have K2n:=Lib.hid (fun W (h:Below wr.heap.size wr W)=>K2.out ((n:Int) - 1) W (HB.out.trans (h.mono HB.out.size)));have hql:=HQL.out ((n:Int) - 1);generalize quietK q L ((n:Int) - 1) (at0,4294967295) at1=A at *;go_upto_region 9 with fail;refine wp_region_held_drew (S:=(fun W=>W.cell? ⟨w.heap.size,0,none⟩=some (.slice a0 m0 c0)∧W.cell? ⟨w.heap.size,1,none⟩=some (.slice a1 m1 c1)∧W.cell? ⟨w.heap.size,2,none⟩=some (.slice a2 m2 c2)∧W.cell? ⟨w.heap.size,3,none⟩=some (.slice a3 m3 c3)∧W.cell? ⟨w.heap.size,4,none⟩=some (.slice a4 m4 c4)∧W.cell? ⟨w.heap.size,5,none⟩=some (.slice a5 m5 c5)∧W.cell? ⟨gl,0,none⟩=some (.int .i64 at0)∧W.cell? ⟨gl,1,none⟩=some (.int .u32 4294967295)∧W.cell? ⟨w.heap.size+1,1,none⟩=some (.int .i64 at1))) (by kernel_rfl) ⟨q0,q1,q2,q3,q4,q5,t0,t1,x1⟩ (fun hHeld=>?_);have hd:Below wr.heap.size wr wr.drew:=(Below.refl _ _).drew;refine plIn [0,1,2,3,4,5,7,8,9,10,11,12] ?_
   iterate 12
    refine hP (v:=?_) rfl rfl hHeld ?_ ?_;rotate_left
    ·rintro wh ⟨z_0,z_1,z_2,z_3,z_4,z_5,z_6,z_7,z_8⟩
     go_simp
     (try with_reducible rfl)
    simp only [Act.put,aS1,aS2,aS3]
   refine plOut ?_;refine held_call (i:=6) rfl (by kernel_rfl) (by rfl) (fun K hK=>?_)
   (go_simp;go_at_call 13;refine (K1n.out _ hd).mono ?_;rintro e w7 ⟨rr7,rfl,hO7,hb7⟩;have hB7:=hd.trans (hb7.mono hd.size);have hI7:=RdAt.own hO7;obtain ⟨sa7,sc7,rfl,_,_⟩:=RdAt.shape hI7)
   refine hK.out _ _ ⟨kCq q0 hB7 ltq,kCq q1 hB7 ltq,kCq q2 hB7 ltq,kCq q3 hB7 ltq,kCq q4 hB7 ltq,kCq q5 hB7 ltq,kCq t0 hB7 ltt,kCq t1 hB7 ltt,kCq x1 hB7 ltx⟩ (fun hHeld=>?_);clear hK K
   (try simp only [Act.put,aS1,aS2,aS3])
   refine held_call (i:=13) rfl (by kernel_rfl) (by rfl) (fun K hK=>?_)
   (go_simp;go_at_call 14;refine (K2n.out _ hB7).mono ?_;rintro e w8 ⟨rr8,rfl,hO8,hb8⟩;have hB8:=hB7.trans (hb8.mono hB7.size);have hI8:=RdAt.own hO8;obtain ⟨sa8,sc8,rfl,_,_⟩:=RdAt.shape hI8)
   refine hK.out _ _ ⟨kCq q0 hB8 ltq,kCq q1 hB8 ltq,kCq q2 hB8 ltq,kCq q3 hB8 ltq,kCq q4 hB8 ltq,kCq q5 hB8 ltq,kCq t0 hB8 ltt,kCq t1 hB8 ltt,kCq x1 hB8 ltx⟩ (fun hHeld=>?_);clear hK K
   (try simp only [Act.put,aS1,aS2,aS3])
   refine held_call (i:=14) rfl (by kernel_rfl) (by rfl) (fun K hK=>?_)
   (go_simp;go_at_call 12;refine (same_ints A A _ _ _ (hI7.later hb8) hI8 (by omega) (by omega)).mono ?_;rintro e w9 ⟨rfl,hb9⟩;have hB9:=hB8.trans (hb9.mono hB8.size))
   refine hK.out _ _ ⟨kCq q0 hB9 ltq,kCq q1 hB9 ltq,kCq q2 hB9 ltq,kCq q3 hB9 ltq,kCq q4 hB9 ltq,kCq q5 hB9 ltq,kCq t0 hB9 ltt,kCq t1 hB9 ltt,kCq x1 hB9 ltx⟩ (fun hHeld=>?_);clear hK K;refine hT (i:=15) (v:=?_) rfl rfl hHeld ?_ ?_;rotate_left
   ·rintro wh ⟨z_0,z_1,z_2,z_3,z_4,z_5,z_6,z_7,z_8⟩
    go_simp
    (try with_reducible rfl)
   simp only [Act.put,aS1,aS2,aS3];refine wpAnyH_done (by kernel_rfl) ?_ _;have HB9:=Lib.hid (HB.out.trans (hB9.mono HB.out.size));clear hd hb7 hB7 hb8 hB8 hb9 hB9 hI7 hI8 q0 q1 q2 q3 q4 q5 t0 t1 x1 K1n K2n HB;go_wp2;go_roundw
   case rel=>exact ⟨n+1,by (first | (go_num;done) | (congr 1;omega) | (simp;omega)),by omega,HB9⟩
   case measure=>(simp [intOf];try omega)
  ·have K3n:=Lib.hid (fun W (h:Below wr.heap.size wr W)=>K3.out W (HB.out.trans (h.mono HB.out.size)))
   have K4n:=Lib.hid (fun W (h:Below wr.heap.size wr W)=>K4.out W (HB.out.trans (h.mono HB.out.size)));generalize bitX q L (at0,4294967295) at1=X at *;go_upto_region 11 with fail;refine wp_region_held_drew (S:=(fun W=>W.cell? ⟨w.heap.size,0,none⟩=some (.slice a0 m0 c0)∧W.cell? ⟨w.heap.size,1,none⟩=some (.slice a1 m1 c1)∧W.cell? ⟨w.heap.size,2,none⟩=some (.slice a2 m2 c2)∧W.cell? ⟨w.heap.size,3,none⟩=some (.slice a3 m3 c3)∧W.cell? ⟨w.heap.size,4,none⟩=some (.slice a4 m4 c4)∧W.cell? ⟨w.heap.size,5,none⟩=some (.slice a5 m5 c5)∧W.cell? ⟨gl,0,none⟩=some (.int .i64 at0)∧W.cell? ⟨gl,1,none⟩=some (.int .u32 4294967295)∧W.cell? ⟨w.heap.size+1,1,none⟩=some (.int .i64 at1))) (by kernel_rfl) ⟨q0,q1,q2,q3,q4,q5,t0,t1,x1⟩ (fun hHeld=>?_);have hd:Below wr.heap.size wr wr.drew:=(Below.refl _ _).drew;refine plIn [0,1,2,3,4,6,7,8,9,10] ?_
   iterate 10
    refine hP (v:=?_) rfl rfl hHeld ?_ ?_;rotate_left
    ·rintro wh ⟨z_0,z_1,z_2,z_3,z_4,z_5,z_6,z_7,z_8⟩
     go_simp
     (try with_reducible rfl)
    simp only [Act.put,aS1,aS2,aS3]
   refine plOut ?_;refine held_call (i:=5) rfl (by kernel_rfl) (by rfl) (fun K hK=>?_)
   (go_simp;go_at_call 15;refine (K3n.out _ hd).mono ?_;rintro e w7 ⟨rr7,rfl,hO7,hb7⟩;have hB7:=hd.trans (hb7.mono hd.size))
   refine hK.out _ _ ⟨kCq q0 hB7 ltq,kCq q1 hB7 ltq,kCq q2 hB7 ltq,kCq q3 hB7 ltq,kCq q4 hB7 ltq,kCq q5 hB7 ltq,kCq t0 hB7 ltt,kCq t1 hB7 ltt,kCq x1 hB7 ltx⟩ (fun hHeld=>?_);clear hK K
   (try simp only [Act.put,aS1,aS2,aS3])
   refine held_call (i:=11) rfl (by kernel_rfl) (by rfl) (fun K hK=>?_)
   (go_simp;go_at_call 16;refine (K4n.out _ hB7).mono ?_;rintro e w8 ⟨rr8,rfl,hO8,hb8⟩;have hB8:=hB7.trans (hb8.mono hB7.size))
   refine hK.out _ _ ⟨kCq q0 hB8 ltq,kCq q1 hB8 ltq,kCq q2 hB8 ltq,kCq q3 hB8 ltq,kCq q4 hB8 ltq,kCq q5 hB8 ltq,kCq t0 hB8 ltt,kCq t1 hB8 ltt,kCq x1 hB8 ltx⟩ (fun hHeld=>?_);clear hK K
   (try simp only [Act.put,aS1,aS2,aS3])
   refine plIn [12,13] ?_
   iterate 2
    refine hP (v:=?_) rfl rfl hHeld ?_ ?_;rotate_left
    ·rintro wh ⟨z_0,z_1,z_2,z_3,z_4,z_5,z_6,z_7,z_8⟩
     go_simp
     (try with_reducible rfl)
    simp only [Act.put,aS1,aS2,aS3]
   refine plOut ?_;refine wpAnyH_done (by kernel_rfl) ?_ _;have HU:=Lib.hid (hO7.later hb8);have HV:=Lib.hid hO8;obtain ⟨ga,rfl,_⟩:=hO7;obtain ⟨gb,rfl,_⟩:=hO8;have HB8:=Lib.hid (HB.out.trans (hB8.mono HB.out.size));clear hd hb7 hB7 hb8 hB8 q0 q1 q2 q3 q4 q5 t0 t1 x1 K3n K4n HB ltx ltq ltt;go_wp2
   go_loopw [13] (fun i wr=>∃ (j:Nat),i=.int .i64 j∧j≤m5∧Hid (Below w8.heap.size w8 wr)) (fun i _=>m5 - (intOf i).toNat)
   case atStart=>exact ⟨0,rfl,Nat.zero_le _,Lib.hid (Below.refl _ _)⟩
   case round =>
    obtain ⟨j,rfl,hj,HBJ⟩:=hrel
    by_cases hjl:j < m5
    ·obtain ⟨ga',hga,hra⟩:=HU.out.later HBJ.out
     obtain ⟨gb',hgb,hrb⟩:=HV.out.later HBJ.out;simp only [Value.slice.injEq,Option.some.injEq,Addr.mk.injEq,and_true] at hga hgb;subst hga;subst hgb;have a0':=hra.cell (i:=j) hjl;have b0':=hrb.cell (i:=j) hjl;generalize X j=xj at *;have hi0:(0:Int)≤(j:Int):=by omega
     have hi1:(j:Int) < (m5:Int):=by omega
     have HBK:=Lib.hid (HBJ.out.drew);clear hra hrb;go_upto_region 17 with fail;refine wp_region_held_drew (S:=(fun W=>W.cell? ⟨ga,j,none⟩=some (.bool xj)∧W.cell? ⟨gb,j,none⟩=some (.bool xj))) (by kernel_rfl) ⟨a0',b0'⟩ (fun hHeld=>?_);refine plIn [0,1,2,3,4,5,6,7,8] ?_
     iterate 9
      refine hP (v:=?_) rfl rfl hHeld ?_ ?_;rotate_left
      ·rintro wh ⟨z_0,z_1⟩
       go_simp
       (try with_reducible rfl)
      simp only [Act.put,aS1,aS2,aS3]
     refine plOut ?_;refine wpAnyH_done (by kernel_rfl) ?_ _;go_wp2;go_roundw
     case rel=>exact ⟨j+1,by go_num,by omega,HBK⟩
     case measure=>(simp [intOf];try omega)
    ·obtain rfl:m5=j:=by omega
     have HBF:=Lib.hid (HB8.out.trans (HBJ.out.mono HB8.out.size));obtain ⟨q0,q1,q2,q3,q4,q5⟩:=HP5.out.later HBF.out hgw;have t0:=kCq HT5.out.1 HBF.out hgl;have t1:=kCq HT5.out.2 HBF.out hgl;have x1:=(HX5.out.later HBF.out).get 1 _ rfl;have ltx:w.heap.size+1 < wr.heap.size:=(HX5.out.later HBF.out).lt;have ltq:w.heap.size < wr.heap.size:=Nat.lt_of_lt_of_le hgw HBF.out.size;have ltt:gl < wr.heap.size:=Nat.lt_of_lt_of_le hgl HBF.out.size;have K5n:=Lib.hid (fun W (h:Below wr.heap.size wr W)=>K5.out W (HBF.out.trans (h.mono HBF.out.size)));have K6n:=Lib.hid (fun W (h:Below wr.heap.size wr W)=>K6.out W (HBF.out.trans (h.mono HBF.out.size)));generalize leftL q L (at0,4294967295) at1=A at *;go_upto_region 19 with fail;refine wp_region_held_drew (S:=(fun W=>W.cell? ⟨w.heap.size,0,none⟩=some (.slice a0 m0 c0)∧W.cell? ⟨w.heap.size,1,none⟩=some (.slice a1 m1 c1)∧W.cell? ⟨w.heap.size,2,none⟩=some (.slice a2 m2 c2)∧W.cell? ⟨w.heap.size,3,none⟩=some (.slice a3 m3 c3)∧W.cell? ⟨w.heap.size,4,none⟩=some (.slice a4 m4 c4)∧W.cell? ⟨w.heap.size,5,none⟩=some (.slice a5 m5 c5)∧W.cell? ⟨gl,0,none⟩=some (.int .i64 at0)∧W.cell? ⟨gl,1,none⟩=some (.int .u32 4294967295)∧W.cell? ⟨w.heap.size+1,1,none⟩=some (.int .i64 at1))) (by kernel_rfl) ⟨q0,q1,q2,q3,q4,q5,t0,t1,x1⟩ (fun hHeld=>?_);have hd:Below wr.heap.size wr wr.drew:=(Below.refl _ _).drew;refine plIn [0,1,2,3,4,6,7,8,9,10] ?_
     iterate 10
      refine hP (v:=?_) rfl rfl hHeld ?_ ?_;rotate_left
      ·rintro wh ⟨z_0,z_1,z_2,z_3,z_4,z_5,z_6,z_7,z_8⟩
       go_simp
       (try with_reducible rfl)
      simp only [Act.put,aS1,aS2,aS3]
     refine plOut ?_;refine held_call (i:=5) rfl (by kernel_rfl) (by rfl) (fun K hK=>?_)
     (go_simp;go_at_call 17;refine (K5n.out _ hd).mono ?_;rintro e w7 ⟨rr7,rfl,hO7,hb7⟩;have hB7:=hd.trans (hb7.mono hd.size);have hI7:=hO7;obtain ⟨sa7,sc7,rfl,_,_⟩:=RdAt.shape hI7)
     refine hK.out _ _ ⟨kCq q0 hB7 ltq,kCq q1 hB7 ltq,kCq q2 hB7 ltq,kCq q3 hB7 ltq,kCq q4 hB7 ltq,kCq q5 hB7 ltq,kCq t0 hB7 ltt,kCq t1 hB7 ltt,kCq x1 hB7 ltx⟩ (fun hHeld=>?_);clear hK K
     (try simp only [Act.put,aS1,aS2,aS3])
     refine held_call (i:=11) rfl (by kernel_rfl) (by rfl) (fun K hK=>?_)
     (go_simp;go_at_call 18;refine (K6n.out _ hB7).mono ?_;rintro e w8' ⟨rr8,rfl,hO8,hb8⟩;have hB8:=hB7.trans (hb8.mono hB7.size);have hI8:=RdAt.own hO8;obtain ⟨sa8,sc8,rfl,_,_⟩:=RdAt.shape hI8)
     refine hK.out _ _ ⟨kCq q0 hB8 ltq,kCq q1 hB8 ltq,kCq q2 hB8 ltq,kCq q3 hB8 ltq,kCq q4 hB8 ltq,kCq q5 hB8 ltq,kCq t0 hB8 ltt,kCq t1 hB8 ltt,kCq x1 hB8 ltx⟩ (fun hHeld=>?_);clear hK K
     (try simp only [Act.put,aS1,aS2,aS3])
     refine held_call (i:=12) rfl (by kernel_rfl) (by rfl) (fun K hK=>?_)
     (go_simp;go_at_call 12;refine (same_ints A A _ _ _ (hI7.later hb8) hI8 (by omega) (by omega)).mono ?_;rintro e w9 ⟨rfl,hb9⟩;have hB9:=hB8.trans (hb9.mono hB8.size))
     refine hK.out _ _ ⟨kCq q0 hB9 ltq,kCq q1 hB9 ltq,kCq q2 hB9 ltq,kCq q3 hB9 ltq,kCq q4 hB9 ltq,kCq q5 hB9 ltq,kCq t0 hB9 ltt,kCq t1 hB9 ltt,kCq x1 hB9 ltx⟩ (fun hHeld=>?_);clear hK K;refine hT (i:=13) (v:=?_) rfl rfl hHeld ?_ ?_;rotate_left
     ·rintro wh ⟨z_0,z_1,z_2,z_3,z_4,z_5,z_6,z_7,z_8⟩
      go_simp
      (try with_reducible rfl)
     simp only [Act.put,aS1,aS2,aS3];refine wpAnyH_done (by kernel_rfl) ?_ _;have HB9:=Lib.hid (HBF.out.trans (hB9.mono HBF.out.size));clear hd hb7 hB7 hb8 hB8 hb9 hB9 hI7 hI8 q0 q1 q2 q3 q4 q5 t0 t1 x1 K5n K6n;go_wp2;go_ret;exact ⟨rfl,HB5.out.trans (HB9.out.mono HB5.out.size)⟩
end lawQuiet
end Go.Proofs.YtipnhpfpppblhaaGreat
namespace Go.Proofs.YtipnhpfpppblhaaGreat
open Go.RowKit Go.WideShapes Go.ChangeShapes Go.Deep
theorem alCells_eq (l:List (Al × Value)):alCells l=cellsG (fun p:Al × Value=>alC p.1 p.2) l:=by
 induction l with
 | nil=>rfl
 | cons x l ih=>simp only [alCells,cellsG,ih]
instance:Inhabited (Al × Value):=⟨(⟨⟨#[]⟩,[],0,0,0,0⟩,undef)⟩
set_option maxRecDepth 100000 in
theorem alsG_of_trod {H:Type} {enc:TypeId × Value→H} {W:World} {n:Nat} {v:Value} {x:DataW H × List MemPlace} (h:DataW.trod enc Tryz.prog W 0 (fun _=>true) true n 27 [v]=some x):∃ l,AlsAt W v l∧l.length≤maxLen:=by
 have hci:Tryz.prog.cellsOf 3=1:=by kernel_rfl
 have hcs:Tryz.prog.cellsOf 9=1:=by kernel_rfl
 have hcl:Tryz.prog.cellsOf 36=2:=by kernel_rfl
 have hcf:Tryz.prog.cellsOf 52=1:=by kernel_rfl
 obtain ⟨l,a,c,hv,h1,h2,h3,h4⟩:=rows_of_trod (fun p:Al × Value=>alC p.1 p.2) 6 (fun _=>rfl) (by decide) Tryz.underlying27 Tryz.underlying58 (by kernel_rfl) (fun p=>FldsAt W p.2 p.1.fl∧AlFit p.1) (fun es n hlen hfs=>by
  match es,hlen with
  | [e0,e1,e2,e3,e4,e5],_ =>
   obtain ⟨y0,t0⟩:=hfs 0 _ rfl;obtain ⟨y1,t1⟩:=hfs 1 _ rfl;obtain ⟨y2,t2⟩:=hfs 2 _ rfl;obtain ⟨y3,t3⟩:=hfs 3 _ rfl;obtain ⟨y4,t4⟩:=hfs 4 _ rfl;obtain ⟨s0,q0,_,z0⟩:=DataW.trod_string Tryz.underlying9 t0;obtain ⟨k3,q3,_,_⟩:=DataW.trod_int Tryz.underlying3 t3;obtain ⟨k4,q4,_,_⟩:=DataW.trod_int Tryz.underlying3 t4
   simp [hcs] at q0
   simp [hci] at q3 q4
   subst q0 q3 q4;have t1':DataW.trod enc Tryz.prog W 0 (fun _=>true) true n 52 [e1]=some y1:=by simpa [hcf] using t1
   have t2':DataW.trod enc Tryz.prog W 0 (fun _=>true) true n 36 [e2,e3]=some y2:=by simpa [hcl] using t2
   obtain ⟨fl,f1,f2,f3⟩:=flds_of_trod t1';obtain ⟨lv,c,r1,r2,hc⟩:=lab_of_trod t2';subst r1 r2;exact ⟨(⟨s0,fl,lv,c,k3,k4⟩,e1),rfl,f1,⟨z0,f3,f2,hc⟩⟩) h
 exact ⟨l,⟨by rw [alCells_eq];exact h3,h4⟩,Nat.le_trans h1 h2⟩
def ArgAls (w:World) (v:Value) (l:List (Al × Value)):Prop:=AlsAt w v l∧l.length≤maxLen
set_option maxRecDepth 100000 in
theorem alsG_of_arg {H:Type} {enc:TypeId × Value→H} {W:World} {base:Nat} {v:Value} {d:DataW H} {p:List MemPlace} (hval:Value.okWide Tryz.prog W .any base 27 v) (h:DataW.Trod enc Tryz.prog W 0 (fun _=>true) true 27 v d p):∃ l,ArgAls W v l:=by
 obtain ⟨a,n,c,rfl⟩:=okWide_slice Tryz.underlying27 hval;obtain ⟨fuel,hf⟩:=h;exact alsG_of_trod hf
end Go.Proofs.YtipnhpfpppblhaaGreat
