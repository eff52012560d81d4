/- InhibitQuiet: the card: whatever the arguments, the law returns true and its arguments read as they did. No condition. -/
import Derived.Test.YtipnhpfpppblhaaGreatQ13P7
import Derived.Laws.IdiomArrays

namespace Go.Proofs.YtipnhpfpppblhaaGreat
open Go.RowKit Go.WideShapes Go.ChangeShapes Go.Deep
theorem trod_array2 {H:Type} {enc:TypeId × Value→H} {P:Program} {w:World} {base:Nat} {spare:Nat→Bool} {held:Bool} {t e:TypeId} {fuel:Nat} {c0 c1:Value} {x:DataW H × List MemPlace} (ht:P.underlying t=some (.array 2 e)) (hce:P.cellsOf e=1)
  (h:DataW.trod enc P w base spare held fuel t [c0,c1]=some x) :
  ∃ y0 y1 n,x=(.agg [y0.1,y1.1],y0.2 ++ y1.2)∧DataW.trod enc P w base spare held n e [c0]=some y0∧DataW.trod enc P w base spare held n e [c1]=some y1:=by
 cases fuel with
 | zero=>simp [DataW.trod] at h
 | succ n =>
  unfold DataW.trod at h;rw [ht] at h;have r2:List.range 2=[0,1]:=rfl
  simp [r2,hce] at h
  obtain ⟨_,h⟩:=h
  cases h0:DataW.trod enc P w base spare held n e [c0] with
  | none=>simp [h0] at h
  | some y0 =>
   cases h1:DataW.trod enc P w base spare held n e [c1] with
   | none=>simp [h0,h1] at h
   | some y1 =>
    simp [h0,h1] at h
    exact ⟨y0,y1,n,h.symm,h0,h1⟩
set_option maxRecDepth 100000 in
theorem open_two {H:Type} {enc:TypeId × Value→H} {W:World} {base:Nat} {v:Value} {d:DataW H} {p:List MemPlace} (hval:Value.okWide Tryz.prog W .any base 28 v) (h:DataW.Trod enc Tryz.prog W 0 (fun _=>true) true 28 v d p) :
  ∃ a b:Int,v=.agg #[.int .i64 a,.int .i64 b]:=by
 obtain ⟨cs,rfl,hsz,_⟩:∃ cs,v=.agg cs∧cs.size=Tryz.prog.cellsOf 28∧Row.okWide Tryz.prog W .any base 28 cs:=by
  simpa [Value.okWide,Tryz.underlying28] using hval
 rw [show Tryz.prog.cellsOf 28=2 by kernel_rfl] at hsz;obtain ⟨fuel,hf⟩:=h;obtain ⟨l⟩:=cs
 match l,hsz with
 | [c0,c1],_ =>
  obtain ⟨y0,y1,m,hx,hy0,hy1⟩:=trod_array2 Tryz.underlying28 (by kernel_rfl) hf;obtain ⟨x0,e0,_,_⟩:=DataW.trod_int Tryz.underlying3 hy0;obtain ⟨x1,e1,_,_⟩:=DataW.trod_int Tryz.underlying3 hy1
  cases e0;cases e1
  exact ⟨x0,x1,rfl⟩
end Go.Proofs.YtipnhpfpppblhaaGreat
namespace Go.Proofs.YtipnhpfpppblhaaGreat
open Go.RowKit
namespace lawQuiet
theorem walk (v:Value) (x:PV) (p:PD) (u:Value) (l:List (Al × Value)) (at0 at1:Int) (w:World) (h1:ArgPolC w v x p) (h2:ArgAls w u l):Calls Tryz.prog 3 #[v,u,.agg #[.int .i64 at0,.int .i64 at1]] w fun e w'=>e=.returned (.bool true)∧Below w.heap.size w w':=by
 obtain ⟨⟨rfl,p2,p3⟩,p4⟩:=h1;obtain ⟨y,rfl,_⟩:=pol_shape p2;exact walk0 y p l u at0 at1 w p2 p4 p3 h2.1 h2.2
end lawQuiet
end Go.Proofs.YtipnhpfpppblhaaGreat
namespace Go.Proofs.YtipnhpfpppblhaaGreat.lawQuiet
open Go.ChangeShapes Go.WideShapes Go.ChangeAt Go.RowKit
open Go.ChangeMaps (open_string)
set_option maxRecDepth 100000 in
theorem contract (H:Type) (enc:TypeId × Value→H) (W:World) (base:Nat) (args:Array Value) (ds gs:List (DataW H)) (before:List MemPlace)
  (hval:∀ (j:Nat) t v,Tryz.f3.params[j]?=some t→args[j]?=some v→Value.okWide Tryz.prog W .any base t v)
  (hW:DataW.Whole enc Tryz.prog Tryz.f3.params.toList Rows.inhibitQuietSpec.vars false W args.toList ds gs before) :
  Calls Tryz.prog 3 args W fun e W'=>∃ v,e=.returned v∧Rows.inhibitQuietSpec.post enc Tryz.prog Tryz.f3 false true false false W args v W':=by
 have hW':=hW;obtain ⟨p,q,hA0,hV,rfl,hfz,hnd⟩:=hW;have hA:DataW.TrodAll enc Tryz.prog W 0 (fun _=>true) true Tryz.f3.params.toList args.toList ds p:=hA0;rw [Tryz.params3] at hA hval;obtain ⟨v0,vs0,d0,ds0,p0,q0,hargs,rfl,rfl,h0,r0⟩:=trodAll_cons hA;obtain ⟨v1,vs1,d1,ds1,p1,q1,rfl,rfl,rfl,h1,r1⟩:=trodAll_cons r0;obtain ⟨v2,vs2,d2,ds2,p2,q2,rfl,rfl,rfl,h2,r2⟩:=trodAll_cons r1;obtain ⟨rfl,rfl,rfl⟩:=trodAll_nil r2;obtain rfl:args=#[v0,v1,v2]:=by cases args;simp_all
 obtain ⟨rfl,rfl⟩:=trodVars_none hV;obtain ⟨x0,y0,hx0⟩:=polC_of_arg (hval 0 26 v0 rfl rfl) h0;obtain ⟨x1,hx1⟩:=alsG_of_arg (hval 1 27 v1 rfl rfl) h1;obtain ⟨a2,b2,rfl⟩:=open_two (hval 2 28 v2 rfl rfl) h2;clear hA0;refine (walk v0 x0 y0 v1 x1 (a2) b2 W hx0 hx1).mono ?_;rintro e W' ⟨rfl,hb⟩;exact ⟨_,rfl,law_post laidOut Tryz.underlying4 rfl rfl (by kernel_rfl) hW' rfl rfl rfl hb⟩
theorem laid_met (os:Os):laidMet Tryz.prog Rows.inhibitQuietRow.laid ((laidWorld os).forCall (fun _ _=>0) ⟨#[],#[.agg #[.slice none 0 0,.slice none 0 0,.slice none 0 0,.slice none 0 0,.slice none 0 0,.slice none 0 0],.slice none 0 0,.agg #[.int .i64 0,.int .i64 0]],[]⟩).memory :=
 ⟨[],rfl,List.nodup_nil,fun _ _ h=>by cases h⟩
theorem reads (os:Os) {H:Type} (enc:TypeId × Value→H):∃ places,DataW.whole enc Tryz.prog ((laidWorld os).forCall (fun _ _=>0) ⟨#[],#[.agg #[.slice none 0 0,.slice none 0 0,.slice none 0 0,.slice none 0 0,.slice none 0 0,.slice none 0 0],.slice none 0 0,.agg #[.int .i64 0,.int .i64 0]],[]⟩).memory Tryz.f3.params.toList Rows.inhibitQuietSpec.vars false (#[.agg #[.slice none 0 0,.slice none 0 0,.slice none 0 0,.slice none 0 0,.slice none 0 0,.slice none 0 0],.slice none 0 0,.agg #[.int .i64 0,.int .i64 0]]:Array Value).toList 8=some ([.agg [.nil,.nil,.nil,.nil,.nil,.nil],.nil,.agg [.lit (.int .i64 0),.lit (.int .i64 0)]],[],places) :=
 ⟨[],by kernel_rfl⟩
set_option maxRecDepth 100000 in
theorem lifted (os:Os) (started:os.Started) (H:Type) (enc:TypeId × Value→H) (F:Stop.Interp) :
  ReturnsInHanded {} Tryz.checked os 3 .any ((OpenSpec.ofChange Rows.inhibitQuietSpec).preRow enc Tryz.prog Tryz.f3 Rows.inhibitQuietRow.domain false Rows.inhibitQuietRow.laid) (((OpenSpec.ofChange Rows.inhibitQuietSpec).at F).post enc Tryz.prog Tryz.f3 false true false false):=by
 obtain ⟨places,hx⟩:=reads os enc
 refine returnsInHanded_of_row (C:=Tryz.checked) (s:=OpenSpec.ofChange Rows.inhibitQuietSpec) ownNone started (by kernel_rfl) Tryz.func3
  (witness_row_at (enc:=enc) (C:=Tryz.checked) false (laidWorld os) #[.agg #[.slice none 0 0,.slice none 0 0,.slice none 0 0,.slice none 0 0,.slice none 0 0,.slice none 0 0],.slice none 0 0,.agg #[.int .i64 0,.int .i64 0]] rfl (by kernel_rfl) (by kernel_rfl) (by kernel_rfl)
   (OpenSpec.preRow_of_cond 8 hx (by kernel_rfl) (fun k hk=>by cases hk) (by kernel_rfl) (laid_met os))) ?_
 intro W base args ds gs before hval hW _ _ _ _ _ _;exact contract H enc W base args ds gs before hval hW
theorem said:Rows.InhibitQuietSaid :=
 OpenClaim.holds_of_cond 3 Tryz.f3 rfl rfl rfl rfl rfl rfl rfl ⟨rfl,rfl,rfl,rfl,rfl⟩ rfl rfl rfl rfl rfl (by kernel_rfl) Tryz.func3 (by kernel_rfl)
  (of_decide_eq_true (by kernel_rfl)) (by unfold Func.isWrapper;first | (rw [if_pos (by decide +kernel)];kernel_rfl) | (rw [if_neg (by decide +kernel)];exact ⟨rfl,rfl⟩))
  (fun os started H enc _ F=>by rw [OpenClaim.pre_eq_preRow];exact lifted os started H enc F)
end Go.Proofs.YtipnhpfpppblhaaGreat.lawQuiet
