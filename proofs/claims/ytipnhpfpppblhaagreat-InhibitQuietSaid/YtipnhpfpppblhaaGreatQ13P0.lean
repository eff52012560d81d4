/- What several claims of this seat share: contracts of the functions that they reach. -/
import Derived.Deep.RegionHeld3
import Derived.Test.YtipnhpfpppblhaaGreatRows
import Derived.WalkKit
import Derived.ProofKit
import Derived.OpenShut
import Derived.OpenVars
import Derived.Deep.DeepHandedRow
import Derived.WalkLawsBesides
import Derived.Laws.AppendOwnNone
import Derived.Laws.BitsLemmas
import Derived.WalkSpells
import Derived.Lib.Hide
import Derived.Shelf.GgClosure.StringsIndexFunc
import Derived.Test.YtipnhpfpppblhaaGreatShelf
import Derived.BigQuiet
import Derived.Deep.QuietTactic
import Derived.Deep.LoopGhost
import Derived.Deep.DeepCutAuto
import Derived.Deep.MidRow
import Derived.Laws.ResultCell
import Derived.RangeFuncNested
import Derived.RangeFuncBound
import Derived.RangeFuncCalls
import Derived.RangeFuncLeaves
import Derived.Shelf.Abstract
import Derived.Shelf.RegionOpen
import Derived.OwnWalkIn
import Derived.TacticsInMore
import Derived.LoopNIn
import Derived.LoopIn
import Derived.Maps.AppendAt
import Derived.RegionTactic
import Derived.Deep.AppendLies
import Derived.Laws.AppendOwn
import Derived.Lib.SliceRun

namespace Go
variable {P:Program} {ops:Array Oper} {Q:Exit→Act→World→Prop} {md:Region.Mode} {S:World→Prop}
theorem held_take {i d:Nat} {oi:Oper} {v:Value} {fuel:Nat} {listed:Array Bool} {a:Act} {w:World} (hi:ops[i]?=some oi) (hd:oi.dst=some d)
  (hs:Region.noSelect ops=true) (hf:Region.free md ops listed i=true) (hr:(Region.ready md ops listed).contains i=true)
  (hQ:∀ c a w,Q (.panic c) (a.put (some d) v) w→Q (.panic c) a w) (hw:Region.wanted oi (yielded ops a.tmps)=true) (hS:S w)
  (hy:∀ w,S w→(execOp a.eval oi).run P w=.ok (.value v) w)
  (h:wpAnyH P md ops Q S fuel (listed.setIfInBounds i true) (a.put (some d) v) w):wpAnyH P md ops Q S (fuel+1) listed a w :=
 wpAnyH_take hi hs hf hr (by rw [hd];exact hQ) (.inl ⟨hw,hy⟩) hS (by rw [hd];exact h)
theorem held_skip {i d:Nat} {oi:Oper} {fuel:Nat} {listed:Array Bool} {a:Act} {w:World} (hi:ops[i]?=some oi) (hd:oi.dst=some d)
  (hs:Region.noSelect ops=true) (hf:Region.free md ops listed i=true) (hr:(Region.ready md ops listed).contains i=true)
  (hQ:∀ c a w,Q (.panic c) (a.put (some d) undef) w→Q (.panic c) a w) (hw:Region.wanted oi (yielded ops a.tmps)=false) (hS:S w)
  (h:wpAnyH P md ops Q S fuel (listed.setIfInBounds i true) (a.put (some d) undef) w):wpAnyH P md ops Q S (fuel+1) listed a w :=
 wpAnyH_take hi hs hf hr (by rw [hd];exact hQ) (.inr ⟨hw,rfl⟩) hS (by rw [hd];exact h)
theorem held_call {i:Nat} {oi:Oper} {fuel:Nat} {listed:Array Bool} {a:Act} {w:World} (hi:ops[i]?=some oi) (hr:Region.ready md ops listed=[i]) (hw:Region.wanted oi (yielded ops a.tmps)=true)
  (h:∀ K':Act→World→Prop,Shut (∀ a w,S w→(S w→wpAnyH P md ops Q S fuel (listed.setIfInBounds i true) a w)→K' a w)→Oper.wp P oi a w K' Q):wpAnyH P md ops Q S (fuel+1) listed a w :=
 wpAnyH_ready hr (by simp) (AllReadyH.cons hi (fun K hK=>by rw [if_pos hw];exact h K hK) AllReadyH.nil)
theorem held_step {i:Nat} {oi:Oper} {fuel:Nat} {listed:Array Bool} {a:Act} {w:World} (hi:ops[i]?=some oi) (hr:Region.ready md ops listed=[i])
  (h:∀ K':Act→World→Prop,Shut (∀ a w,S w→(S w→wpAnyH P md ops Q S fuel (listed.setIfInBounds i true) a w)→K' a w)→if Region.wanted oi (yielded ops a.tmps)=true then Oper.wp P oi a w K' Q else K' (a.put oi.dst undef) w):wpAnyH P md ops Q S (fuel+1) listed a w :=
 wpAnyH_ready hr (by simp) (AllReadyH.cons hi h AllReadyH.nil)
end Go
namespace Go
universe u_1
variable {P : Program} {ops : Array Oper} {Q : Exit → Act → World → Prop} {md : Region.Mode} {S : World → Prop}
theorem hT {i d : Nat} {oi : Oper} {v : Value} {fuel : Nat} {listed : Array Bool} {a : Act} {w : World} (hi : ops[i]? = some oi) (hd : oi.dst = some d) (hS : S w)
    (hy : ∀ w, S w → (execOp a.eval oi).run P w = .ok (.value v) w)
    (h : wpAnyH P md ops Q S fuel (listed.setIfInBounds i true) (a.put (some d) v) w)
    (hs : Region.noSelect ops = true := by kernel_rfl) (hf : Region.free md ops listed i = true := by kernel_rfl) (hr : (Region.ready md ops listed).contains i = true := by kernel_rfl)
    (hQ : ∀ c a w, Q (.panic c) (a.put (some d) v) w → Q (.panic c) a w := by exact fun _ _ _ h => h) (hw : Region.wanted oi (yielded ops a.tmps) = true := by rfl) : wpAnyH P md ops Q S (fuel + 1) listed a w :=
  held_take hi hd hs hf hr hQ hw hS hy h
theorem aS1 {α : Type u_1} (l : List α) (i : Nat) (a : α) : l.toArray.setIfInBounds i a = (l.set i a).toArray := List.setIfInBounds_toArray l i a
theorem aS2 {α : Type u_1} {x : α} {xs : List α} {a : α} : (x :: xs).set 0 a = a :: xs := rfl
theorem aS3 {α : Type u_1} {x : α} {xs : List α} {i : Nat} {a : α} : (x :: xs).set (i + 1) a = x :: xs.set i a := rfl
def Pl (_ : List Nat) (p : Prop) : Prop := p
theorem plIn (l : List Nat) {p : Prop} (h : Pl l p) : p := h
theorem plOut {p : Prop} (h : p) : Pl [] p := h
theorem hP {i d : Nat} {is : List Nat} {oi : Oper} {v : Value} {fuel : Nat} {listed : Array Bool} {a : Act} {w : World} (hi : ops[i]? = some oi) (hd : oi.dst = some d) (hS : S w)
    (hy : ∀ w, S w → (execOp a.eval oi).run P w = .ok (.value v) w)
    (h : Pl is (wpAnyH P md ops Q S fuel (listed.setIfInBounds i true) (a.put (some d) v) w))
    (hs : Region.noSelect ops = true := by kernel_rfl) (hf : Region.free md ops listed i = true := by kernel_rfl) (hr : (Region.ready md ops listed).contains i = true := by kernel_rfl)
    (hQ : ∀ c a w, Q (.panic c) (a.put (some d) v) w → Q (.panic c) a w := by exact fun _ _ _ h => h) (hw : Region.wanted oi (yielded ops a.tmps) = true := by rfl) : Pl (i :: is) (wpAnyH P md ops Q S (fuel + 1) listed a w) :=
  held_take hi hd hs hf hr hQ hw hS hy h
theorem hK {i d : Nat} {is : List Nat} {oi : Oper} {fuel : Nat} {listed : Array Bool} {a : Act} {w : World} (hi : ops[i]? = some oi) (hd : oi.dst = some d) (hS : S w)
    (h : Pl is (wpAnyH P md ops Q S fuel (listed.setIfInBounds i true) (a.put (some d) undef) w))
    (hs : Region.noSelect ops = true := by kernel_rfl) (hf : Region.free md ops listed i = true := by kernel_rfl) (hr : (Region.ready md ops listed).contains i = true := by kernel_rfl)
    (hQ : ∀ c a w, Q (.panic c) (a.put (some d) undef) w → Q (.panic c) a w := by exact fun _ _ _ h => h) (hw : Region.wanted oi (yielded ops a.tmps) = false := by rfl) : Pl (i :: is) (wpAnyH P md ops Q S (fuel + 1) listed a w) :=
  held_skip hi hd hs hf hr hQ hw hS h
end Go
namespace Go.Proofs.YtipnhpfpppblhaaGreat
open Go.ChangeShapes Go.WideShapes Go.ChangeAt Go.RowKit
theorem trodAll_below {H:Type} {enc:TypeId × Value→H} {P:Program} (hl:laidOutB P=true) {W W':World} (hb:Below W.heap.size W W') :
  ∀ {ts:List TypeId} {vs:List Value} {ds:List (DataW H)} {ps:List MemPlace},(ts.all fun t=>P.readableRec t&&decide (t < P.types.size))=true →
   DataW.TrodAll enc P W 0 (fun _=>true) true ts vs ds ps→(∀ x∈ps,x.block < W.heap.size)→DataW.TrodAll enc P W' 0 (fun b=>decide (b < W.heap.size)) true ts vs ds ps
 | [],[],[],_,_,h,_=>h
 | t :: ts,v :: vs,d :: ds,ps,hr,h,hlt=>by
  obtain ⟨p,q,hp,hq,rfl⟩:=h;simp only [List.all_cons,Bool.and_eq_true,decide_eq_true_eq] at hr;exact ⟨p,q,Below.trod hl hr.1.1 hr.1.2 hp hb (fun x hx=>hlt x (List.mem_append_left _ hx)),trodAll_below hl hb hr.2 hq (fun x hx=>hlt x (List.mem_append_right _ hx)),rfl⟩
 | [],[],_ :: _,_,_,h,_=>h.elim
 | [],_ :: _,_,_,_,h,_=>h.elim
 | _ :: _,[],_,_,_,h,_=>h.elim
 | _ :: _,_ :: _,[],_,_,h,_=>h.elim
theorem law_post {H:Type} {enc:TypeId × Value→H} {P:Program} (hl:laidOutB P=true) {f:Func} {s:ChangeSpec} {tb:TypeId} (ht:P.underlying tb=some .bool) (hres:f.resultTypes=#[tb])
  (hv:s.vars=[]) (hr:(f.params.toList.all fun t=>P.readableRec t&&decide (t < P.types.size))=true) {W W':World} {args:Array Value} {ds gs:List (DataW H)} {before:List MemPlace}
  (hW:DataW.Whole enc P f.params.toList s.vars false W args.toList ds gs before) (h1:(s.fn H (ds ++ gs)).results=[.lit (.bool true)]) (h2:(s.fn H (ds ++ gs)).args=ds) (h3:(s.fn H (ds ++ gs)).vars=[])
  (hb:Below W.heap.size W W'):s.post enc P f false true false false W args (.bool true) W':=by
 have hW':=hW;have hlt:=hW.lt;obtain ⟨p,q,hA,hV,rfl,_,_⟩:=hW;refine ⟨ds,gs,p ++ q,[],p,[],hW',?_,?_,?_,hb.frame _,fun h=>by cases h⟩
 ·rw [h1,hres]
  exact trodAll_cons_mk (shut_bool ht true) trodAll_mk0
 ·rw [h2]
  exact trodAll_below hl hb hr hA (fun x hx=>hlt x (List.mem_append_left _ hx))
 ·rw [h3,hv]
  rfl
theorem ownNone:ownKnob Tryz.prog.godebug=none:=by kernel_rfl
theorem laidOut:laidOutB Tryz.prog=true:=by kernel_rfl
noncomputable def laidWorld (os:Os):World:=World.holding Tryz.prog os ⟨#[],#[],[]⟩
end Go.Proofs.YtipnhpfpppblhaaGreat
namespace Go.Proofs.YtipnhpfpppblhaaGreat
open Go.RowKit
theorem snocInd {α:Type} {P:List α→Prop} (h0:P []) (h1:∀ l c,P l→P (l ++ [c])) (l:List α):P l:=by
 have h:∀ r:List α,P r.reverse:=by
  intro r
  induction r with
  | nil=>simpa using h0
  | cons c r ih=>rw [List.reverse_cons];exact h1 _ _ ih
 have:=h l.reverse
 rwa [List.reverse_reverse] at this
abbrev B (s:ByteArray):List UInt8:=s.data.toList
theorem len_B (s:ByteArray):(B s).length=s.size:=Array.length_toList
theorem take_succ_B (s:ByteArray) (k:Nat) (h:k < s.size):(B s).take (k+1)=(B s).take k ++ [s[k]]:=by
 rw [List.take_succ_eq_append_getElem (by simpa using h)];rfl
theorem take_all_B (s:ByteArray):(B s).take s.size=B s:=List.take_of_length_le (Nat.le_of_eq (len_B s))
theorem toList_B (s:ByteArray):s.toList=B s:=ByteArray.toList_eq s
theorem below_grown {w w':World} (hb:Below w.heap.size w w') (row:Option Nat):w.grownBy w' row:=⟨hb.os,hb.tape,hb.output,hb.size,fun k hk _=>hb.block k hk⟩
theorem bl_drewN {b:Nat} {a w:World} (h:Below b a w) (n:Nat):Below b a (w.drewN n):=h.trans ⟨rfl,rfl,rfl,Nat.le_refl _,fun _ _=>rfl⟩
theorem own_later {w w':World} {base:Nat} {e:TypeId} {size:Nat} {v:Value} {n:Nat} {xs:List Value} (h:w.ownsRow base e size v n xs) (hb:Below w.heap.size w w'):w'.ownsRow base e size v n xs :=
 h.kept (below_grown hb none) (Decidable.em _)
theorem own_base {w:World} {base base':Nat} {e:TypeId} {size:Nat} {v:Value} {n:Nat} {xs:List Value} (h:w.ownsRow base e size v n xs) (hb:base'≤base):w.ownsRow base' e size v n xs:=by
 refine ⟨h.1,?_⟩
 rcases h.2 with hn | ⟨g,cap,cur,rfl,hg,rest⟩
 ·exact .inl hn
 ·exact .inr ⟨g,cap,cur,rfl,Nat.le_trans hb hg,rest⟩
def RdAt (w:World) (v:Value) (n k:Nat) (xs:List Value):Prop :=
 xs.length=n * k∧((v=.slice none 0 0∧n=0) ∨
  ∃ a c,v=.slice (some a) n c∧n≤c∧(0 < n→∃ b o,a=⟨b,o,none⟩∧b < w.heap.size∧∀ (j:Nat) x,xs[j]?=some x→w.cell? ⟨b,o+j,none⟩=some x))
theorem RdAt.nil (w:World) (k:Nat):RdAt w (.slice none 0 0) 0 k []:=⟨by simp,.inl ⟨rfl,rfl⟩⟩
theorem RdAt.later {w w':World} {v:Value} {n k:Nat} {xs:List Value} (h:RdAt w v n k xs) (hb:Below w.heap.size w w'):RdAt w' v n k xs:=by
 refine ⟨h.1,?_⟩
 rcases h.2 with h | ⟨a,c,rfl,hc,hr⟩
 ·exact .inl h
 ·refine .inr ⟨a,c,rfl,hc,fun hn=>?_⟩
  obtain ⟨b,o,rfl,hlt,hcell⟩:=hr hn;exact ⟨b,o,rfl,Nat.lt_of_lt_of_le hlt hb.size,fun j x hx=>(hb.cell (p:=⟨b,o+j,none⟩) hlt).trans (hcell j x hx)⟩
theorem RdAt.own {w:World} {base:Nat} {e:TypeId} {v:Value} {n k:Nat} {xs:List Value} (h:w.ownsRow base e k v n xs):RdAt w v n k xs:=by
 refine ⟨h.1,?_⟩
 rcases h.2 with h' | ⟨g,cap,cur,rfl,hb,hg,hle,hcap,hsz,htk⟩
 ·exact .inl h'
 ·refine .inr ⟨⟨g,0,none⟩,cap,rfl,hle,fun _=>⟨g,0,rfl,(Array.getElem?_eq_some_iff.1 hg).1,fun j x hx=>?_⟩⟩
  have:=h.cells (g:=g) rfl j x hx
  rw [Nat.zero_add]
  by_cases h0:j=0
  ·subst h0;simpa [Addr.add] using this
  ·simpa [Addr.add,h0] using this
theorem RdAt.mk {w:World} {b o n c k:Nat} {xs:List Value} (hl:xs.length=n * k) (hc:n≤c) (hlt:b < w.heap.size) (hcell:∀ (j:Nat) x,xs[j]?=some x→w.cell? ⟨b,o+j,none⟩=some x):RdAt w (.slice (some ⟨b,o,none⟩) n c) n k xs :=
 ⟨hl,.inr ⟨_,c,rfl,hc,fun _=>⟨b,o,rfl,hlt,hcell⟩⟩⟩
theorem RdAt.some {w:World} {v:Value} {n k:Nat} {xs:List Value} (h:RdAt w v n k xs) (hn:0 < n) :
  ∃ b o c,v=.slice (.some ⟨b,o,none⟩) n c∧n≤c∧b < w.heap.size∧∀ (j:Nat) x,xs[j]?=.some x→w.cell? ⟨b,o+j,none⟩=.some x:=by
 rcases h.2 with ⟨_,h0⟩ | ⟨a,c,rfl,hc,hr⟩
 ·omega
 ·obtain ⟨b,o,rfl,hlt,hcell⟩:=hr hn
  exact ⟨b,o,c,rfl,hc,hlt,hcell⟩
theorem RdAt.shape {w:World} {v:Value} {n k:Nat} {xs:List Value} (h:RdAt w v n k xs):∃ a c,v=.slice a n c∧n≤c ∧
  (0 < n→∃ b o,a=.some ⟨b,o,none⟩∧b < w.heap.size∧∀ (j:Nat) x,xs[j]?=.some x→w.cell? ⟨b,o+j,none⟩=.some x):=by
 rcases h.2 with ⟨rfl,h0⟩ | ⟨a,c,rfl,hc,hr⟩
 ·subst h0;exact ⟨none,0,rfl,Nat.le_refl _,fun h=>absurd h (Nat.lt_irrefl _)⟩
 ·refine ⟨_,c,rfl,hc,fun hn=>?_⟩
  obtain ⟨b,o,rfl,hlt,hcell⟩:=hr hn;exact ⟨b,o,rfl,hlt,hcell⟩
theorem grownBy_refl (w:World) (row:Option Nat):w.grownBy w row:=⟨rfl,rfl,rfl,Nat.le_refl _,fun _ _ _=>rfl⟩
theorem wpList_append_rd {P:Program} {w:World} {ops:Array Oper} {rest:List Oper} {o:Oper} {a:Act} {Q:Exit→Act→World→Prop} (hgd:o.guard=none) (s x:Operand) (t:TypeId)
  (ho:o.op=.call { callee:=.builtin .append,args:=#[s,x],argTypes:=#[t,t] })
  (base:Nat) (e:TypeId) (i:TypeInfo) (z:Value) (size bytes:Nat) (ht:P.underlying t=some (.slice e)) (hi:P.info? e=some i) (hz:i.zero=some z)
  (hsize:i.size=size) (hby:i.bytes=bytes) (hzs:z.cells.size=size) (hsz:0 < size)
  (v:Value) (n:Nat) (xs:List Value) (hs:a.eval s=v) (hown:w.ownsRow base e size v n xs)
  (u:Value) (m:Nat) (news:List Value) (hx:a.eval x=u) (hu:RdAt w u m size news) (h1:∀ y∈news,y.oneCell'=true)
  (h63:n+m≤maxLen) (hbytes:(n+m) * bytes≤140737488355328) (hbase:base≤w.heap.size)
  (h:∀ v' w',w'.ownsRow base e size v' (n+m) (xs ++ news)→w.grownBy w' v.ownBlock→wpList P ops Q rest (a.put o.dst v') w'):wpList P ops Q (o :: rest) a w:=by
 obtain ⟨hl,⟨rfl,hm⟩ | ⟨ad,c,rfl,_,hr⟩⟩:=hu
 ·subst hm
  have hnil:news=[]:=List.length_eq_zero_iff.1 (by rw [hl];simp);subst hnil;refine wpList_append_own_none hgd s x t ho base e i size ht hi v n xs hs hown hx (h v w (by simpa using hown) (grownBy_refl _ _))
 ·refine wpList_append_own _ hgd s x t ho base e i z size bytes ht hi hz hsize hby hzs hsz v n xs hs hown ad m c news hx hl (fun j y hj=>?_) h1 h63 hbytes hbase (fun v' w' h2 h3 _=>h v' w' h2 h3)
  have hj':=(List.getElem?_eq_some_iff.1 hj).1
  obtain ⟨b,o',rfl,_,hcell⟩:=hr (by rcases Nat.eq_zero_or_pos m with h0 | h0;(· subst h0;rw [hl,Nat.zero_mul] at hj';omega);exact h0)
  have:=hcell j y hj
  by_cases h0:j=0
  ·subst h0;simpa [Addr.add] using this
  ·simpa [Addr.add,h0] using this
theorem take_step {α:Type} {a b:List α} {k:Nat} (h:a.take k=b.take k) (ha:k < a.length) (hb:k < b.length) (he:a[k]=b[k]):a.take (k+1)=b.take (k+1):=by
 rw [List.take_succ_eq_append_getElem ha,List.take_succ_eq_append_getElem hb,h,he]
theorem take_done {α:Type} {a b:List α} (hl:a.length=b.length) (h:a.take a.length=b.take a.length):a=b:=by
 rw [List.take_length] at h;rw [hl,List.take_length] at h;exact h
theorem ne_at {α:Type} {a b:List α} {k:Nat} (ha:k < a.length) (hb:k < b.length) (he:a[k]≠b[k]):a≠b:=by
 intro h;subst h;exact he rfl
theorem bytes_eq_iff {x y:ByteArray}:(x.toList==y.toList)=true↔x=y:=by
 rw [beq_iff_eq,toList_B,toList_B];exact ⟨fun h=>ByteArray.ext (Array.toList_inj.1 h),fun h=>by rw [h]⟩
theorem bytes_beq (x y:ByteArray):(x.toList==y.toList)=decide (x=y):=by
 rw [Bool.eq_iff_iff,bytes_eq_iff,decide_eq_true_eq]
theorem aBq (w:World) (o:Obj):Below w.heap.size w (w.alloc o):=(Below.refl _ _).alloc (Nat.le_refl _) _
theorem box_cells {w W:World} {xs:Array Value} {t:TypeId} (hb:Below (w.alloc (.cells xs t)).heap.size (w.alloc (.cells xs t)) W) :
  (∀ (i:Nat) x,xs[i]?=some x→W.cell? ⟨w.heap.size,i,none⟩=some x)∧w.heap.size < W.heap.size∧Below w.heap.size w W:=by
 have hlt:w.heap.size < (w.alloc (.cells xs t)).heap.size:=by rw [World.size_alloc];omega
 refine ⟨fun i x hx=>(hb.cell (p:=⟨w.heap.size,i,none⟩) hlt).trans ?_,Nat.lt_of_lt_of_le hlt hb.size,(aBq w _).trans (hb.mono (by omega))⟩;rw [World.cell?_alloc_at _ _ _ _ rfl];exact hx
theorem box2 {w W:World} {x y:Value} {t:TypeId} (hb:Below (w.alloc (.cells #[x,y] t)).heap.size (w.alloc (.cells #[x,y] t)) W) :
  W.cell? ⟨w.heap.size,0,none⟩=some x∧W.cell? ⟨w.heap.size,1,none⟩=some y∧w.heap.size < W.heap.size∧Below w.heap.size w W:=by
 obtain ⟨h1,h2,h3⟩:=box_cells hb;exact ⟨h1 0 x rfl,h1 1 y rfl,h2,h3⟩
theorem box_two {w W:World} {xs ys:Array Value} {t u:TypeId} (hb:Below ((w.alloc (.cells xs t)).alloc (.cells ys u)).heap.size ((w.alloc (.cells xs t)).alloc (.cells ys u)) W) :
  (∀ (i:Nat) x,xs[i]?=some x→W.cell? ⟨w.heap.size,i,none⟩=some x)∧(∀ (i:Nat) x,ys[i]?=some x→W.cell? ⟨w.heap.size+1,i,none⟩=some x)∧w.heap.size+1 < W.heap.size∧Below w.heap.size w W:=by
 obtain ⟨h1,h2,h3⟩:=box_cells hb;obtain ⟨h4,h5,h6⟩:=box_cells h3;rw [World.size_alloc] at h1 h2;exact ⟨h4,h1,h2,h6⟩
theorem box22 {w W:World} {x y x' y':Value} {t u:TypeId} (hb:Below ((w.alloc (.cells #[x,y] t)).alloc (.cells #[x',y'] u)).heap.size ((w.alloc (.cells #[x,y] t)).alloc (.cells #[x',y'] u)) W) :
  W.cell? ⟨w.heap.size,0,none⟩=some x∧W.cell? ⟨w.heap.size,1,none⟩=some y∧W.cell? ⟨w.heap.size+1,0,none⟩=some x'∧W.cell? ⟨w.heap.size+1,1,none⟩=some y'∧w.heap.size+1 < W.heap.size∧Below w.heap.size w W:=by
 obtain ⟨h1,h2,h3,h4⟩:=box_two hb;exact ⟨h1 0 _ rfl,h1 1 _ rfl,h2 0 _ rfl,h2 1 _ rfl,h3,h4⟩
theorem kCq {w w':World} {b o:Nat} {v:Value} (h:w.cell? ⟨b,o,none⟩=some v) (hb:Below w.heap.size w w') (hlt:b < w.heap.size):w'.cell? ⟨b,o,none⟩=some v :=
 (hb.cell (p:=⟨b,o,none⟩) hlt).trans h
theorem box6 {w W:World} {a b c d e f:Value} {t:TypeId} (hb:Below (w.alloc (.cells #[a,b,c,d,e,f] t)).heap.size (w.alloc (.cells #[a,b,c,d,e,f] t)) W) :
  (W.cell? ⟨w.heap.size,0,none⟩=some a∧W.cell? ⟨w.heap.size,1,none⟩=some b∧W.cell? ⟨w.heap.size,2,none⟩=some c∧W.cell? ⟨w.heap.size,3,none⟩=some d∧W.cell? ⟨w.heap.size,4,none⟩=some e∧W.cell? ⟨w.heap.size,5,none⟩=some f)∧w.heap.size < W.heap.size∧Below w.heap.size w W:=by
 obtain ⟨h,h2,h3⟩:=box_cells hb;exact ⟨⟨h 0 _ rfl,h 1 _ rfl,h 2 _ rfl,h 3 _ rfl,h 4 _ rfl,h 5 _ rfl⟩,h2,h3⟩
def C6 (p:Nat) (a b c d e f:Value) (W:World):Prop:=W.cell? ⟨p,0,none⟩=some a∧W.cell? ⟨p,1,none⟩=some b∧W.cell? ⟨p,2,none⟩=some c∧W.cell? ⟨p,3,none⟩=some d∧W.cell? ⟨p,4,none⟩=some e∧W.cell? ⟨p,5,none⟩=some f
theorem C6.later {p:Nat} {a b c d e f:Value} {W W':World} (h:C6 p a b c d e f W) (hb:Below W.heap.size W W') (hp:p < W.heap.size):C6 p a b c d e f W':=by
 obtain ⟨h0,h1,h2,h3,h4,h5⟩:=h;exact ⟨kCq h0 hb hp,kCq h1 hb hp,kCq h2 hb hp,kCq h3 hb hp,kCq h4 hb hp,kCq h5 hb hp⟩
def rightL (l:Int):Bool:=decide (0≤l∧l≤7)
def teamsN (c n:Nat):List Nat:=(List.range n).filter fun k=>c.testBit k
def subB (c d:Nat):Bool:=(List.range 32).all fun k=>!c.testBit k || d.testBit k
def flowsL (l:Int) (c:Nat) (m:Int) (d:Nat):Bool:=rightL l&&rightL m&&decide (l≤m)&&subB c d
def sumN (l:List Nat):Nat:=l.foldl (fun a k=>a+2 ^ k) 0
theorem sumN_snoc (l:List Nat) (k:Nat):sumN (l ++ [k])=sumN l+2 ^ k:=by simp [sumN,List.foldl_append]
theorem sum_bits (p:Nat→Bool) (n:Nat):sumN ((List.range n).filter p) < 2 ^ n∧∀ j,(sumN ((List.range n).filter p)).testBit j=(decide (j < n)&&p j):=by
 induction n with
 | zero=>simp [sumN]
 | succ n ih =>
  obtain ⟨h1,h2⟩:=ih;rw [List.range_succ,List.filter_append]
  cases hp:p n with
  | false =>
   have e:List.filter p [n]=[]:=by simp [hp]
   rw [e,List.append_nil];refine ⟨Nat.lt_trans h1 (Nat.pow_lt_pow_right (by decide) (Nat.lt_succ_self n)),fun j=>?_⟩;rw [h2]
   by_cases hj:j=n
   ·subst hj;simp [hp]
   ·by_cases h:j < n
    ·simp [h,show j < n+1 by omega]
    ·simp [h,show ¬ j < n+1 by omega]
  | true =>
   have e:List.filter p [n]=[n]:=by simp [hp]
   rw [e,sumN_snoc];have hlt:sumN ((List.range n).filter p)+2 ^ n < 2 ^ (n+1):=by rw [Nat.pow_succ];omega
   refine ⟨hlt,fun j=>?_⟩
   rcases Nat.lt_trichotomy j n with h | h | h
   ·rw [Nat.add_comm,Nat.testBit_two_pow_add_gt h,h2]
    simp [h,show j < n+1 by omega]
   ·subst h
    rw [Nat.add_comm,Nat.testBit_two_pow_add_eq,h2]
    simp [hp]
   ·rw [Nat.testBit_lt_two_pow (Nat.lt_of_lt_of_le hlt (Nat.pow_le_pow_right (by decide) h))]
    simp [show ¬ j < n+1 by omega]
theorem bits_eq {a b:Nat} (ha:a < 2 ^ 32) (hb:b < 2 ^ 32) (h:∀ k,k < 32→a.testBit k=b.testBit k):a=b:=by
 apply Nat.eq_of_testBit_eq
 intro k
 by_cases hk:k < 32
 ·exact h k hk
 ·rw [Nat.testBit_lt_two_pow (Nat.lt_of_lt_of_le ha (Nat.pow_le_pow_right (by decide) (by omega))),Nat.testBit_lt_two_pow (Nat.lt_of_lt_of_le hb (Nat.pow_le_pow_right (by decide) (by omega)))]
theorem teams_or {c d:Nat} (hc:c < 2 ^ 32) (hd:d < 2 ^ 32):sumN ((List.range 32).filter fun k=>c.testBit k || d.testBit k)=c ||| d:=by
 obtain ⟨h1,h2⟩:=sum_bits (fun k=>c.testBit k || d.testBit k) 32;exact bits_eq h1 (Nat.or_lt_two_pow hc hd) (fun k hk=>by rw [h2,Nat.testBit_or];simp [hk])
theorem teams_step (c k:Nat):teamsN c (k+1)=teamsN c k ++ (if c / 2 ^ k % 2=1 then [k] else []):=by
 unfold teamsN;rw [List.range_succ,List.filter_append]
 congr 1
 have e:c.testBit k=decide (c / 2 ^ k % 2=1):=Nat.testBit_eq_decide_div_mod_eq
 by_cases h:c / 2 ^ k % 2=1
 ·simp [e,h]
 ·simp [e,h]
theorem mem_teams {c n k:Nat}:k∈teamsN c n↔k < n∧c.testBit k=true:=by simp [teamsN]
theorem sub_iff {c d:Nat}:subB c d=true↔∀ k∈teamsN c 32,k∈teamsN d 32:=by
 unfold subB;rw [List.all_eq_true]
 constructor
 ·intro h k hk
  obtain ⟨h1,h2⟩:=mem_teams.1 hk
  have:=h k (List.mem_range.2 h1)
  rw [h2] at this;exact mem_teams.2 ⟨h1,by simpa using this⟩
 ·intro h k hk
  have hk':=List.mem_range.1 hk
  cases hc:c.testBit k with
  | false=>simp
  | true =>
   have:=(mem_teams.1 (h k (mem_teams.2 ⟨hk',hc⟩))).2
   simp [this]
theorem andNot_zero {c d:Nat}:(BitVec.ofNat 32 c &&& ~~~ BitVec.ofNat 32 d).toNat=0↔subB c d=true:=by
 unfold subB;rw [List.all_eq_true]
 have hz:(BitVec.ofNat 32 c &&& ~~~ BitVec.ofNat 32 d).toNat=0↔(BitVec.ofNat 32 c &&& ~~~ BitVec.ofNat 32 d)=0#32:=by
  constructor
  ·intro h;exact BitVec.eq_of_toNat_eq (by simpa using h)
  ·intro h;rw [h];rfl
 rw [hz];have hg:∀ (x k:Nat) (_:k < 32),(BitVec.ofNat 32 x).getLsbD k=x.testBit k:=fun x k hk=>by rw [BitVec.getLsbD_ofNat];simp [hk]
 constructor
 ·intro h k hk
  have hk':=List.mem_range.1 hk;have h1:=congrArg (fun x=>x.getLsbD k) h;simp only [BitVec.getLsbD_and,BitVec.getLsbD_not,hg _ _ hk',hk',decide_true,Bool.true_and] at h1
  revert h1
  cases c.testBit k <;> cases d.testBit k <;> simp
 ·intro h
  apply BitVec.eq_of_getLsbD_eq
  intro k hk;have h1:=h k (List.mem_range.2 hk);simp only [BitVec.getLsbD_and,BitVec.getLsbD_not,hg _ _ hk,hk,decide_true,Bool.true_and]
  revert h1
  cases c.testBit k <;> cases d.testBit k <;> simp
abbrev Lab (l:Int) (c:Nat):Value:=.agg #[.int .i64 l,.int .u32 c]
set_option maxHeartbeats 400000 in
theorem right_any (l:Int) (c:Nat) (w:World) :
  Calls Tryz.prog 48 #[Lab l c] w fun e w'=>e=.returned (.bool (rightL l))∧Below w.heap.size w w':=by
 rcases (show l < 0∨(0≤l∧l≤7)∨7 < l by omega) with h | ⟨h,h'⟩ | h
 all_goals
  go_enter Tryz.func48,Tryz.ntmps48
  go_wp2;go_ret
  refine ⟨?_,by first | exact Below.refl _ _ | exact bl_drewN (Below.refl _ _) _ | exact ((Below.refl _ _).alloc (Nat.le_refl _) _)⟩
  first
   | rfl
   | (rw [show rightL l=true from decide_eq_true ⟨by omega,by omega⟩];simp;omega)
   | (rw [show rightL l=false from decide_eq_false (by omega)];simp;omega)
   | (rw [show rightL l=false from decide_eq_false (by omega)];rfl)
   | (rw [show rightL l=true from decide_eq_true ⟨by omega,by omega⟩];rfl)
theorem bits_andNot_zero (c d:Nat):(bits BinOp.andNot IntKind.u32 (c:Int) (d:Int)==0)=subB c d:=by
 have h0:=andNot_zero (c:=c) (d:=d)
 have e:bits BinOp.andNot IntKind.u32 (c:Int) (d:Int)=(((BitVec.ofNat 32 c &&& ~~~ BitVec.ofNat 32 d).toNat:Nat):Int):=by
  show IntKind.u32.wrap ((BitVec.ofInt 32 (c:Int) &&& ~~~BitVec.ofInt 32 (d:Int)).toNat:Int)=_;rw [BitVec.ofInt_natCast,BitVec.ofInt_natCast,IntKind.wrap_u32']
  have:=(BitVec.ofNat 32 c &&& ~~~ BitVec.ofNat 32 d).isLt
  omega
 rw [e,Bool.eq_iff_iff,← h0,beq_iff_eq]
 omega
set_option maxHeartbeats 400000 in
theorem flows_any (l:Int) (c:Nat) (m:Int) (d:Nat) (w:World) :
  Calls Tryz.prog 29 #[Lab l c,Lab m d] w fun e w'=>e=.returned (.bool (flowsL l c m d))∧Below w.heap.size w w':=by
 have k1:=right_any l c;have k2:=right_any m d
 have e0:rightL l=false∨rightL m=false∨¬ l≤m→flowsL l c m d=false:=by
  unfold flowsL
  rintro (h | h | h)
  ·rw [h];rfl
  ·rw [h,Bool.and_false];rfl
  ·rw [decide_eq_false h,Bool.and_false];rfl
 cases h1:rightL l
 ·rw [h1] at k1
  have HF:Hid (flowsL l c m d=false):=e0 (.inl h1);clear e0 h1
  go_enter Tryz.func29,Tryz.ntmps29
  go_wp2_with fail
  refine (k1 _).mono ?_;rintro e w1 ⟨rfl,hb1⟩;obtain ⟨_,_,_,hB1⟩:=box_two hb1;go_wp2;go_ret;exact ⟨by rw [HF.out];rfl,hB1⟩
 ·rw [h1] at k1
  cases h2:rightL m
  ·rw [h2] at k2
   have HF:Hid (flowsL l c m d=false):=e0 (.inr (.inl h2));clear e0 h1 h2
   go_enter Tryz.func29,Tryz.ntmps29
   go_wp2_with fail
   refine (k1 _).mono ?_;rintro e w1 ⟨rfl,hb1⟩;obtain ⟨x0,x1,y0,y1,hlt1,hB1⟩:=box22 hb1;clear hb1;go_wp2_with fail
   refine (k2 _).mono ?_;rintro e w2 ⟨rfl,hb2⟩;have x0':=kCq x0 hb2 (by omega);have x1':=kCq x1 hb2 (by omega);have y0':=kCq y0 hb2 (by omega);have y1':=kCq y1 hb2 (by omega);have hB2:=hB1.trans (hb2.mono hB1.size);clear x0 x1 y0 y1 hb2 hB1;go_wp2;go_ret;exact ⟨by rw [HF.out];rfl,hB2⟩
  ·rw [h2] at k2
   by_cases h3:l≤m
   ·have HF:Hid (flowsL l c m d=subB c d):=by
     show _=_;unfold flowsL;rw [h1,h2,decide_eq_true h3];rfl
    clear e0 h1 h2
    go_enter Tryz.func29,Tryz.ntmps29
    go_wp2_with fail
    refine (k1 _).mono ?_;rintro e w1 ⟨rfl,hb1⟩;obtain ⟨x0,x1,y0,y1,hlt1,hB1⟩:=box22 hb1;clear hb1;go_wp2_with fail
    refine (k2 _).mono ?_;rintro e w2 ⟨rfl,hb2⟩;have x0':=kCq x0 hb2 (by omega);have x1':=kCq x1 hb2 (by omega);have y0':=kCq y0 hb2 (by omega);have y1':=kCq y1 hb2 (by omega);have hB2:=hB1.trans (hb2.mono hB1.size);clear x0 x1 y0 y1 hb2 hB1;go_wp2;go_ret;exact ⟨by rw [HF.out,bits_andNot_zero];rfl,hB2⟩
   ·have HF:Hid (flowsL l c m d=false):=e0 (.inr (.inr h3))
    have h4:m < l:=by omega
    clear e0 h1 h2 h3
    go_enter Tryz.func29,Tryz.ntmps29
    go_wp2_with fail
    refine (k1 _).mono ?_;rintro e w1 ⟨rfl,hb1⟩;obtain ⟨x0,x1,y0,y1,hlt1,hB1⟩:=box22 hb1;clear hb1;go_wp2_with fail
    refine (k2 _).mono ?_;rintro e w2 ⟨rfl,hb2⟩;have x0':=kCq x0 hb2 (by omega);have x1':=kCq x1 hb2 (by omega);have y0':=kCq y0 hb2 (by omega);have y1':=kCq y1 hb2 (by omega);have hB2:=hB1.trans (hb2.mono hB1.size);clear x0 x1 y0 y1 hb2 hB1;go_wp2;go_ret;exact ⟨by rw [HF.out];rfl,hB2⟩
theorem get!_B (s:ByteArray) (j:Nat) (h:j < s.size):s.get! j=s[j]:=by
 simp [ByteArray.get!,h,getElem!_pos];rfl
theorem decode_high (s:ByteArray) (pos:Nat) (h:pos < s.size) (ha:128≤(s[pos]'h).toNat) :
  128≤(Utf8.decode s pos).1∧1≤(Utf8.decode s pos).2∧pos+(Utf8.decode s pos).2≤s.size ∧
  ∀ j (hj:j < s.size),pos≤j→j < pos+(Utf8.decode s pos).2→128≤(s[j]'hj).toNat:=by
 have g0:(s.get! (pos+0)).toNat=(s[pos]'h).toNat:=by rw [Nat.add_zero,get!_B s pos h]
 have one:∀ r:Nat,128≤r→128≤((r,1):Nat × Nat).1∧1≤((r,1):Nat × Nat).2∧pos+((r,1):Nat × Nat).2≤s.size ∧
   ∀ j (hj:j < s.size),pos≤j→j < pos+((r,1):Nat × Nat).2→128≤(s[j]'hj).toNat:=by
  intro r hr;refine ⟨hr,Nat.le_refl _,h,fun j hj h1 h2=>?_⟩;obtain rfl:j=pos:=by simp at h2;omega
  exact ha
 have cc:∀ k,(decide (pos+k < s.size)&&((s.get! (pos+k)).toNat / 64==2))=true→∃ hk:pos+k < s.size,128≤(s[pos+k]'hk).toNat:=by
  intro k hk;simp only [Bool.and_eq_true,decide_eq_true_eq,beq_iff_eq] at hk;refine ⟨hk.1,?_⟩;rw [← get!_B s (pos+k) hk.1]
  omega
 unfold Utf8.decode;simp only [g0];rw [if_neg (by omega)]
 split
 ·rename_i h2
  simp only [Bool.and_eq_true] at h2;obtain ⟨k1,c1⟩:=cc 1 (by simpa using h2.2)
  split
  ·refine ⟨by assumption,by simp,by simp;omega,fun j hj h1 h2=>?_⟩
   simp at h2
   rcases (show j=pos∨j=pos+1 by omega) with rfl | rfl
   ·exact ha
   ·exact c1
  ·exact one _ (by decide)
 split
 ·rename_i h2
  simp only [Bool.and_eq_true] at h2;obtain ⟨k1,c1⟩:=cc 1 (by simpa using h2.1.2);obtain ⟨k2,c2⟩:=cc 2 (by simpa using h2.2)
  split
  ·rename_i h3
   simp only [Bool.and_eq_true,decide_eq_true_eq] at h3;refine ⟨by have:=h3.1;simp at this ⊢;omega,by simp,by simp;omega,fun j hj h1 h2=>?_⟩
   simp at h2
   rcases (show j=pos∨j=pos+1∨j=pos+2 by omega) with rfl | rfl | rfl
   ·exact ha
   ·exact c1
   ·exact c2
  ·exact one _ (by decide)
 split
 ·rename_i h2
  simp only [Bool.and_eq_true] at h2;obtain ⟨k1,c1⟩:=cc 1 (by simpa using h2.1.1.2);obtain ⟨k2,c2⟩:=cc 2 (by simpa using h2.1.2);obtain ⟨k3,c3⟩:=cc 3 (by simpa using h2.2)
  split
  ·rename_i h3
   simp only [Bool.and_eq_true,decide_eq_true_eq] at h3;refine ⟨by have:=h3.1;simp at this ⊢;omega,by simp,by simp;omega,fun j hj h1 h2=>?_⟩
   simp at h2
   rcases (show j=pos∨j=pos+1∨j=pos+2∨j=pos+3 by omega) with rfl | rfl | rfl | rfl
   ·exact ha
   ·exact c1
   ·exact c2
   ·exact c3
  ·exact one _ (by decide)
 ·exact one _ (by decide)
theorem idxFuncFrom_bytes (p:Nat→Bool) (d:Bool) (hp:∀ x,128≤x→p x=d) (s:ByteArray):∀ (f pos:Nat),s.size≤pos+f →
  (decide (0≤Lib.idxFuncFrom p true s f pos))=((B s).drop pos).any (fun c=>p c.toNat)
 | 0,pos,h=>by
  rw [List.drop_of_length_le (by rw [len_B];omega)]
  rfl
 | f+1,pos,h=>by
  unfold Lib.idxFuncFrom
  by_cases hps:pos < s.size
  ·rw [if_pos hps]
   by_cases ha:(s[pos]'hps).toNat < 128
   ·rw [decode_ascii s pos hps ha]
    have ed:(B s).drop pos=s[pos] :: (B s).drop (pos+1):=by
     rw [List.drop_eq_getElem_cons (by rw [len_B];exact hps)];rfl
    rw [ed,List.any_cons]
    by_cases hpp:p (s[pos]).toNat=true
    ·rw [if_pos hpp,hpp];simp
    ·rw [if_neg hpp,idxFuncFrom_bytes p d hp s f (pos+1) (by omega)]
     simp [Bool.eq_false_iff.2 hpp]
   ·obtain ⟨d1,d2,d3,d4⟩:=decode_high s pos hps (by omega)
    cases d
    case true =>
     rw [if_pos (hp _ d1)]
     have ed:(B s).drop pos=s[pos] :: (B s).drop (pos+1):=by
      rw [List.drop_eq_getElem_cons (by rw [len_B];exact hps)];rfl
     rw [ed,List.any_cons,hp _ (by omega)]
     simp
    rw [if_neg (by rw [hp _ d1];decide),idxFuncFrom_bytes p false hp s f _ (by omega)];generalize (Utf8.decode s pos).2=w at *
    have ed:(B s).drop pos=((B s).drop pos).take w ++ (B s).drop (pos+w):=by
     rw [← List.drop_drop];exact (List.take_append_drop _ _).symm
    rw [ed,List.any_append]
    have:(((B s).drop pos).take w).any (fun c=>p c.toNat)=false:=by
     rw [List.any_eq_false];intro x hx;obtain ⟨i,hi,rfl⟩:=List.getElem_of_mem hx;simp only [List.getElem_take,List.getElem_drop];have hi':i < w:=by rw [List.length_take] at hi;omega
     have:=d4 (pos+i) (by omega) (by omega) (by omega)
     rw [Bool.not_eq_true];exact hp _ this
    rw [this];rfl
  ·rw [if_neg hps,List.drop_of_length_le (by rw [len_B];omega)]
   rfl
theorem idxFunc_bytes (p:Nat→Bool) (d:Bool) (hp:∀ x,128≤x→p x=d) (s:ByteArray) :
  (decide (0≤Lib.idxFunc p true s))=(B s).any (fun c=>p c.toNat):=by
 rw [Lib.idxFunc,idxFuncFrom_bytes p d hp s s.size 0 (by omega)];rfl
def oddN (x:Nat):Bool:=((x:Int) != 95)&&(decide ((x:Int) < 97) || decide (122 < (x:Int)))&&(decide ((x:Int) < 48) || decide (57 < (x:Int)))
def digN (x:Nat):Bool:=decide (48≤(x:Int))&&decide ((x:Int)≤57)
def nameL (l:List UInt8):Bool:=!l.isEmpty&&decide (l.length≤12)&&!(l.head?.any fun c=>digN c.toNat)&&!(l.any fun c=>oddN c.toNat)
set_option maxHeartbeats 400000 in
theorem nodd_any (x:Nat) (hx:x≤1114111) (w:World) :
  Calls Tryz.prog 78 #[.int .i32 x] w fun e w'=>e=.returned (.bool (oddN x))∧∃ q,w'=w.drewN q:=by
 have H:Hid (oddN x=(((x:Int) != 95)&&(decide ((x:Int) < 97) || decide (122 < (x:Int)))&&(decide ((x:Int) < 48) || decide (57 < (x:Int))))):=rfl
 cases h1:((x:Int) != 95)
 ·go_enter Tryz.func78,Tryz.ntmps78
  go_wp2;go_ret;exact ⟨by rw [H.out,h1];rfl,0,rfl⟩
 ·rcases (show (x:Int) < 48∨(48≤(x:Int)∧(x:Int)≤57)∨(57 < (x:Int)∧(x:Int) < 97)∨(97≤(x:Int)∧(x:Int)≤122)∨122 < (x:Int) by omega) with h | ⟨h,h'⟩ | ⟨h,h'⟩ | ⟨h,h'⟩ | h
  all_goals
   go_enter Tryz.func78,Tryz.ntmps78
   go_wp2;go_ret;refine ⟨?_,0,rfl⟩;rw [H.out,h1]
   first
    | (rw [decide_eq_true (show (x:Int) < 97 by omega),decide_eq_true (show (x:Int) < 48 by omega)];rfl)
    | (rw [decide_eq_true (show (x:Int) < 97 by omega),decide_eq_false (show ¬ (x:Int) < 48 by omega),decide_eq_false (show ¬ 57 < (x:Int) by omega)];rfl)
    | (rw [decide_eq_true (show (x:Int) < 97 by omega),decide_eq_false (show ¬ (x:Int) < 48 by omega),decide_eq_true (show 57 < (x:Int) by omega)];rfl)
    | (rw [decide_eq_false (show ¬ (x:Int) < 97 by omega),decide_eq_false (show ¬ 122 < (x:Int) by omega)];rfl)
    | (rw [decide_eq_false (show ¬ (x:Int) < 97 by omega),decide_eq_true (show 122 < (x:Int) by omega),decide_eq_false (show ¬ (x:Int) < 48 by omega),decide_eq_true (show 57 < (x:Int) by omega)];rfl)
theorem name_odd (s:ByteArray) (w:World) :
  Calls Tryz.prog 77 #[.string s,.func (.func 78) #[] #[]] w fun e w'=>e=.returned (.bool ((B s).any fun c=>oddN c.toNat))∧Below w.heap.size w w':=by
 have h:=Tryz.strings_ContainsFunc_runes 78 #[] (enters_of Tryz.func78 (by kernel_rfl) rfl) oddN s w (fun W x hx _=>nodd_any x hx W)
 rw [idxFunc_bytes oddN true (fun x hx=>by
  have h1:((x:Int) != 95)=true:=by rw [bne_iff_ne];omega
  have h2:decide (122 < (x:Int))=true:=by rw [decide_eq_true_eq];omega
  have h3:decide (57 < (x:Int))=true:=by rw [decide_eq_true_eq];omega
  rw [oddN,h1,h2,h3];simp) s] at h
 exact h
set_option maxHeartbeats 400000 in
theorem name_any (s:ByteArray) (w:World) (hs:s.size≤maxLen) :
  Calls Tryz.prog 46 #[.string s] w fun e w'=>e=.returned (.bool (nameL (B s)))∧Below w.heap.size w w':=by
 unfold maxLen at hs
 by_cases h0:s.toList=[]
 ·have HR:Hid (nameL (B s)=false):=by
   show _=_;rw [← toList_B,h0];rfl
  go_enter Tryz.func46,Tryz.ntmps46
  go_wp2;go_ret;exact ⟨by rw [HR.out];rfl,Below.refl _ _⟩
 have h0':s.toList.isEmpty=false:=by simpa using h0
 have hpos:0 < s.size:=by rw [← len_B,← toList_B];exact List.length_pos_iff.2 h0
 by_cases h12:12 < s.size
 ·have HR:Hid (nameL (B s)=false):=by
   show _=_;rw [nameL,decide_eq_false (by rw [len_B];omega)]
   simp
  clear h0
  go_enter Tryz.func46,Tryz.ntmps46
  go_wp2;go_ret;exact ⟨by rw [HR.out];rfl,Below.refl _ _⟩
 have hh:(B s).head?=some s[0]:=by rw [List.head?_eq_getElem?];exact List.getElem?_eq_getElem (by rw [len_B];exact hpos)
 by_cases hd:(48:Int)≤(s[0].toNat:Int)∧(s[0].toNat:Int)≤57
 ·obtain ⟨hd1,hd2⟩:=hd
  have HR:Hid (nameL (B s)=false):=by
   show _=_
   have e2:digN s[0].toNat=true:=by
    simp only [digN,Bool.and_eq_true,decide_eq_true_eq];omega
   rw [nameL,hh]
   simp [e2]
  clear h0 hh
  go_enter Tryz.func46,Tryz.ntmps46
  go_wp2;go_ret;exact ⟨by rw [HR.out];rfl,Below.refl _ _⟩
 ·have HR:Hid (nameL (B s)=!((B s).any fun c=>oddN c.toNat)):=by
   show _=_;have e1:(B s).isEmpty=false:=by rw [← toList_B];exact h0'
   have e2:digN s[0].toNat=false:=by
    simp only [digN,Bool.and_eq_false_iff,decide_eq_false_iff_not];omega
   rw [nameL,hh,e1,decide_eq_true (by rw [len_B];omega)]
   simp [e2]
  have hodd:=name_odd s w;generalize ((B s).any fun c=>oddN c.toNat)=o at *;clear h0 hh
  rcases (show (s[0].toNat:Int) < 48∨((48:Int)≤(s[0].toNat:Int)∧57 < (s[0].toNat:Int)) by omega) with h | ⟨h,h'⟩
  all_goals
   clear hd
   go_enter Tryz.func46,Tryz.ntmps46
   go_wp2_with (go_at_call 77;refine hodd.mono ?_;rintro e w' ⟨rfl,hb⟩)
   go_ret;exact ⟨by rw [HR.out];rfl,hb⟩
abbrev Fld:=ByteArray × ByteArray
def fldCells:List Fld→List Value
 | []=>[]
 | f :: l=>.string f.1 :: .string f.2 :: fldCells l
theorem fldCells_len (l:List Fld):(fldCells l).length=l.length * 2:=by
 induction l with
 | nil=>rfl
 | cons s l ih=>simp [fldCells,ih];omega
theorem fldCells_append (a b:List Fld):fldCells (a ++ b)=fldCells a ++ fldCells b:=by
 induction a with
 | nil=>rfl
 | cons s l ih=>simp [fldCells,ih]
theorem fldCells_at (l:List Fld) (i:Nat) (h:i < l.length):(fldCells l)[i * 2]?=some (.string l[i].1)∧(fldCells l)[i * 2+1]?=some (.string l[i].2):=by
 induction l generalizing i with
 | nil=>cases h
 | cons s l ih =>
  cases i with
  | zero=>simp [fldCells]
  | succ i =>
   obtain ⟨h1,h2⟩:=ih i (by simpa using h);have e:(i+1) * 2=i * 2+2:=by omega
   rw [e];simp only [fldCells,List.getElem_cons_succ];refine ⟨?_,?_⟩
   ·rw [show i * 2+2=i * 2+1+1 by omega];simpa using h1
   ·rw [show i * 2+2+1=i * 2+1+1+1 by omega];simpa using h2
def FldsAt (w:World) (v:Value) (l:List Fld):Prop:=RdAt w v l.length 2 (fldCells l)
theorem FldsAt.later {w w':World} {v:Value} {l:List Fld} (h:FldsAt w v l) (hb:Below w.heap.size w w'):FldsAt w' v l:=RdAt.later h hb
def FldsFit (l:List Fld):Prop:=∀ f∈l,f.1.size≤maxLen∧f.2.size≤maxLen
def ltS (a b:ByteArray):Bool:=Op.bytesLess a.toList b.toList
def fldOk (l:List Fld) (j:Nat):Bool:=nameL (B (l.getD j default).1)&&decide ((l.getD j default).2.size≤200)&&(decide (j=0) || ltS (l.getD (j - 1) default).1 (l.getD j default).1)
def rightF (l:List Fld):Bool:=decide (l.length≤8)&&(List.range l.length).all fun j=>fldOk l j
theorem rightF_bad {l:List Fld} {j:Nat} (hj:j < l.length) (h:fldOk l j=false):rightF l=false:=by
 unfold rightF;rw [Bool.and_eq_false_iff]
 right
 rw [List.all_eq_false];exact ⟨j,List.mem_range.2 hj,by rw [h];simp⟩
theorem rightF_good {l:List Fld} (h:∀ j,j < l.length→fldOk l j=true):rightF l=decide (l.length≤8):=by
 unfold rightF;rw [show ((List.range l.length).all fun j=>fldOk l j)=true from List.all_eq_true.2 (fun j hj=>h j (List.mem_range.1 hj)),Bool.and_true]
set_option maxHeartbeats 1600000 in
set_option maxRecDepth 100000 in
theorem rightf_any (l:List Fld) (w:World) (v:Value) (hv:FldsAt w v l) (hf:FldsFit l) (hl:l.length≤maxLen) :
  Calls Tryz.prog 47 #[v] w fun e w'=>e=.returned (.bool (rightF l))∧Below w.heap.size w w':=by
 unfold maxLen at hl;obtain ⟨a,c,rfl,hc,hr⟩:=RdAt.shape hv;have HR:=Lib.hid hr;have HF:=Lib.hid hf;clear hr hv hf
 go_enter Tryz.func47,Tryz.ntmps47
 go_wp2
 go_loopw [7] (fun i wr=>∃ k:Nat,k≤l.length∧i=.int .i64 k∧Hid (∀ j,j < k→fldOk l j=true)∧Below w.heap.size w wr) (fun i _=>l.length - (intOf i).toNat)
 case atStart=>exact ⟨0,Nat.zero_le _,rfl,Lib.hid (fun j hj=>absurd hj (Nat.not_lt_zero j)),Below.refl _ _⟩
 case round =>
  obtain ⟨k,hk,rfl,HT,hbr⟩:=hrel
  by_cases hkl:k < l.length
  ·obtain ⟨b,o,rfl,hb,hcell⟩:=HR.out (by omega)
   obtain ⟨x,hxe⟩:∃ x,l[k].1=x:=⟨_,rfl⟩;obtain ⟨y,hye⟩:∃ y,l[k].2=y:=⟨_,rfl⟩;have hfs:=HF.out _ (List.getElem_mem hkl);rw [hxe,hye] at hfs;obtain ⟨hx0,hy0⟩:=fldCells_at l k hkl;rw [hxe] at hx0;rw [hye] at hy0;have hcx:wr.cell? ⟨b,o+k * 2,none⟩=some (.string x):=kCq (hcell _ _ hx0) hbr hb;have hcy:wr.cell? ⟨b,o+k * 2+1,none⟩=some (.string y):=kCq (hcell _ _ hy0) hbr hb;have hn:∀ W,Calls Tryz.prog 46 #[.string x] W fun e w'=>e=.returned (.bool (nameL (B x)))∧Below W.heap.size W w':=fun W=>name_any x W hfs.1;have hys:y.size≤9223372036854775807:=by have:=hfs.2;unfold maxLen at this;omega
   have hstep:fldOk l k=true→Hid (∀ j,j < k+1→fldOk l j=true):=fun h=>Lib.hid (fun j hj=>by
    rcases Nat.lt_or_ge j k with h' | h'
    ·exact HT.out j h'
    ·obtain rfl:j=k:=by omega
     exact h)
   have hbad:fldOk l k=false→Hid (rightF l=false):=fun h=>rightF_bad hkl h;have hgx:l.getD k default=(x,y):=by rw [List.getD_eq_getElem?_getD,List.getElem?_eq_getElem hkl];show l[k]=_;rw [← hxe,← hye]
   have hgz:∀ m z,k=m+1→l[m]?.map (·.1)=some z→(l.getD (k - 1) default).1=z:=fun m z hm hz=>by
    subst hm;rw [Nat.add_sub_cancel,List.getD_eq_getElem?_getD]
    cases h:l[m]? with
    | none=>rw [h] at hz;cases hz
    | some f=>rw [h] at hz;simpa using hz
   unfold fldOk at hstep hbad;rw [hgx] at hstep hbad;go_wp2;have hba:Below w.heap.size w (wr.alloc (.cells #[.string x,.string y] 90)):=hbr.alloc hbr.size _;have a0:=World.cell?_alloc_at #[.string x,.string y] 90 wr.heap.size 0 rfl;have a1:=World.cell?_alloc_at #[.string x,.string y] 90 wr.heap.size 1 rfl;have hwa:wr.heap.size < (wr.alloc (.cells #[.string x,.string y] 90)).heap.size:=by rw [World.size_alloc];omega
   have hwb:b < (wr.alloc (.cells #[.string x,.string y] 90)).heap.size:=Nat.lt_of_lt_of_le hb hba.size;have hall:∀ j v,(fldCells l)[j]?=some v→(wr.alloc (.cells #[.string x,.string y] 90)).cell? ⟨b,o+j,none⟩=some v:=fun j v hj=>kCq (hcell _ _ hj) hba hb;generalize wr.alloc (.cells #[.string x,.string y] 90)=wa at *;change wa.cell? _=some (.string x) at a0;change wa.cell? _=some (.string y) at a1;clear hcx hcy hcell hx0 hy0 hxe hye hfs hgx HT
   cases hnm:nameL (B x)
   ·have HZ:=hbad (by rw [hnm];rfl)
    rw [hnm] at hn;clear hstep hbad hall hgz hnm;go_wp2_with fail
    refine wp_region_held_drew (S:=(fun w'=>w'.cell? ⟨wr.heap.size,0,none⟩=some (.string x)∧w'.cell? ⟨wr.heap.size,1,none⟩=some (.string y))) (by kernel_rfl) ⟨a0,a1⟩ (fun hHeld=>?_);refine plIn [0,1] ?_
    iterate 2
     refine hP (v:=?_) rfl rfl hHeld ?_ ?_;rotate_left
     ·rintro wh ⟨z0,z1⟩
      go_simp
      (try with_reducible rfl)
     simp only [Act.put,aS1,aS2,aS3]
    refine plOut ?_;refine held_call (i:=2) rfl (by kernel_rfl) (by rfl) (fun K hK=>?_)
    (go_simp;go_at_call 46;refine (hn _).mono ?_;rintro e w1 ⟨rfl,hb1⟩;have hB1:Below wa.heap.size wa w1:=((Below.refl _ _).drew).trans hb1)
    refine hK.out _ _ ⟨kCq a0 hB1 hwa,kCq a1 hB1 hwa⟩ (fun hHeld=>?_);clear hK K
    (try simp only [Act.put,aS1,aS2,aS3])
    refine plIn [3,4] ?_
    iterate 2
     refine hP (v:=?_) rfl rfl hHeld ?_ ?_;rotate_left
     ·rintro wh ⟨z0,z1⟩
      go_simp
      (try with_reducible rfl)
     simp only [Act.put,aS1,aS2,aS3]
    refine plOut ?_;refine plIn [5,6,7,8] ?_
    iterate 4
     refine hK rfl rfl hHeld ?_;simp only [Act.put,aS1,aS2,aS3]
    refine plOut ?_;refine plIn [9,10] ?_
    iterate 2
     refine hP (v:=?_) rfl rfl hHeld ?_ ?_;rotate_left
     ·rintro wh ⟨z0,z1⟩
      go_simp
      (try with_reducible rfl)
     simp only [Act.put,aS1,aS2,aS3]
    refine plOut ?_;refine plIn [11,12,13,14,15,16,17,18,19,20,21,22,23] ?_
    iterate 13
     refine hK rfl rfl hHeld ?_;simp only [Act.put,aS1,aS2,aS3]
    refine plOut ?_;refine hT (i:=24) (v:=?_) rfl rfl hHeld ?_ ?_;rotate_left
    ·rintro wh ⟨z0,z1⟩
     go_simp
     (try with_reducible rfl)
    simp only [Act.put,aS1,aS2,aS3];refine wpAnyH_done (by kernel_rfl) ?_ _
    all_goals (
     have hbn:Below w.heap.size w w1:=hba.trans (hB1.mono hba.size);clear hb1 hB1 hn;go_wp2;go_ret;exact ⟨by rw [HZ.out];rfl,hbn⟩)
   ·rw [hnm] at hn
    by_cases hy2:y.size≤200
    ·have g1:decide ((200:Int) < (y.size:Int))=false:=decide_eq_false (by omega)
     rcases Nat.eq_zero_or_pos k with hk0 | hk0
     ·have HN:=hstep (by rw [hnm,decide_eq_true hy2,decide_eq_true hk0];rfl)
      subst hk0;clear hstep hbad hall hgz hnm hy2;go_wp2_with fail
      refine wp_region_held_drew (S:=(fun w'=>w'.cell? ⟨wr.heap.size,0,none⟩=some (.string x)∧w'.cell? ⟨wr.heap.size,1,none⟩=some (.string y))) (by kernel_rfl) ⟨a0,a1⟩ (fun hHeld=>?_);refine plIn [0,1] ?_
      iterate 2
       refine hP (v:=?_) rfl rfl hHeld ?_ ?_;rotate_left
       ·rintro wh ⟨z0,z1⟩
        go_simp
        (try with_reducible rfl)
       simp only [Act.put,aS1,aS2,aS3]
      refine plOut ?_;refine held_call (i:=2) rfl (by kernel_rfl) (by rfl) (fun K hK=>?_)
      (go_simp;go_at_call 46;refine (hn _).mono ?_;rintro e w1 ⟨rfl,hb1⟩;have hB1:Below wa.heap.size wa w1:=((Below.refl _ _).drew).trans hb1)
      refine hK.out _ _ ⟨kCq a0 hB1 hwa,kCq a1 hB1 hwa⟩ (fun hHeld=>?_);clear hK K
      (try simp only [Act.put,aS1,aS2,aS3])
      refine plIn [3,4,5,6,7,8,9,10,11,12,13] ?_
      iterate 11
       refine hP (v:=?_) rfl rfl hHeld ?_ ?_;rotate_left
       ·rintro wh ⟨z0,z1⟩
        go_simp
        (try with_reducible rfl)
       simp only [Act.put,aS1,aS2,aS3]
      refine plOut ?_;refine plIn [14,15,16,17,18,19,20,21,22] ?_
      iterate 9
       refine hK rfl rfl hHeld ?_;simp only [Act.put,aS1,aS2,aS3]
      refine plOut ?_;refine plIn [23,24] ?_
      iterate 2
       refine hP (v:=?_) rfl rfl hHeld ?_ ?_;rotate_left
       ·rintro wh ⟨z0,z1⟩
        go_simp
        (try with_reducible rfl)
       simp only [Act.put,aS1,aS2,aS3]
      refine plOut ?_;refine wpAnyH_done (by kernel_rfl) ?_ _
      all_goals (
       have hbn:Below w.heap.size w w1:=hba.trans (hB1.mono hba.size);clear hb1 hB1 hn;go_wp2;go_roundw
       case rel=>exact ⟨0+1,by omega,by go_num,HN,hbn⟩
       case measure=>(simp [intOf];try omega))
     ·obtain ⟨m,hm⟩:∃ m,k=m+1:=⟨k - 1,by omega⟩
      obtain ⟨z,hze⟩:∃ z,l[m]?.map (·.1)=some z:=⟨(l[m]'(by omega)).1,by rw [List.getElem?_eq_getElem (by omega)];rfl⟩;rw [hgz m z hm hze] at hstep hbad
      have az:wa.cell? ⟨b,o+m * 2,none⟩=some (.string z):=hall _ _ (by
       have:=(fldCells_at l m (by omega)).1
       rw [this];rw [List.getElem?_eq_getElem (by omega)] at hze;simp only [Option.map_some,Option.some.injEq] at hze;rw [hze])
      have hw1:IntKind.i64.wrap ((k:Int) - 1)=(m:Int):=by rw [IntKind.wrap_i64];omega
      have hI1:(m:Int) < (l.length:Int):=by omega
      have hk1:(0:Int) < (k:Int):=by omega
      have hkz:decide (k=0)=false:=decide_eq_false (by omega);rw [hnm,decide_eq_true hy2,hkz] at hstep hbad
      cases hzx:Op.bytesLess z.toList x.toList
      ·have HZ:=hbad hzx
       clear hstep hbad hall hgz hnm hy2 hze hkz hm;go_wp2_with fail
       refine wp_region_held_drew (S:=(fun w'=>w'.cell? ⟨wr.heap.size,0,none⟩=some (.string x)∧w'.cell? ⟨wr.heap.size,1,none⟩=some (.string y)∧w'.cell? ⟨b,o+m * 2,none⟩=some (.string z))) (by kernel_rfl) ⟨a0,a1,az⟩ (fun hHeld=>?_);refine plIn [0,1] ?_
       iterate 2
        refine hP (v:=?_) rfl rfl hHeld ?_ ?_;rotate_left
        ·rintro wh ⟨z0,z1,z2⟩
         go_simp
         (try with_reducible rfl)
        simp only [Act.put,aS1,aS2,aS3]
       refine plOut ?_;refine held_call (i:=2) rfl (by kernel_rfl) (by rfl) (fun K hK=>?_)
       (go_simp;go_at_call 46;refine (hn _).mono ?_;rintro e w1 ⟨rfl,hb1⟩;have hB1:Below wa.heap.size wa w1:=((Below.refl _ _).drew).trans hb1)
       refine hK.out _ _ ⟨kCq a0 hB1 hwa,kCq a1 hB1 hwa,kCq az hB1 hwb⟩ (fun hHeld=>?_);clear hK K
       (try simp only [Act.put,aS1,aS2,aS3])
       refine plIn [3,4,5,6,7,8,9,10,11,12,13,14,15,16,17,18,19,20,21,22,23,24] ?_
       iterate 22
        refine hP (v:=?_) rfl rfl hHeld ?_ ?_;rotate_left
        ·rintro wh ⟨z0,z1,z2⟩
         go_simp
         (try with_reducible rfl)
        simp only [Act.put,aS1,aS2,aS3]
       refine plOut ?_;refine wpAnyH_done (by kernel_rfl) ?_ _
       all_goals (
        have hbn:Below w.heap.size w w1:=hba.trans (hB1.mono hba.size);clear hb1 hB1 hn;go_wp2;go_ret;exact ⟨by rw [HZ.out];rfl,hbn⟩)
      ·have HN:=hstep hzx
       clear hstep hbad hall hgz hnm hy2 hze hkz hm;go_wp2_with fail
       refine wp_region_held_drew (S:=(fun w'=>w'.cell? ⟨wr.heap.size,0,none⟩=some (.string x)∧w'.cell? ⟨wr.heap.size,1,none⟩=some (.string y)∧w'.cell? ⟨b,o+m * 2,none⟩=some (.string z))) (by kernel_rfl) ⟨a0,a1,az⟩ (fun hHeld=>?_);refine plIn [0,1] ?_
       iterate 2
        refine hP (v:=?_) rfl rfl hHeld ?_ ?_;rotate_left
        ·rintro wh ⟨z0,z1,z2⟩
         go_simp
         (try with_reducible rfl)
        simp only [Act.put,aS1,aS2,aS3]
       refine plOut ?_;refine held_call (i:=2) rfl (by kernel_rfl) (by rfl) (fun K hK=>?_)
       (go_simp;go_at_call 46;refine (hn _).mono ?_;rintro e w1 ⟨rfl,hb1⟩;have hB1:Below wa.heap.size wa w1:=((Below.refl _ _).drew).trans hb1)
       refine hK.out _ _ ⟨kCq a0 hB1 hwa,kCq a1 hB1 hwa,kCq az hB1 hwb⟩ (fun hHeld=>?_);clear hK K
       (try simp only [Act.put,aS1,aS2,aS3])
       refine plIn [3,4,5,6,7,8,9,10,11,12,13,14,15,16,17,18,19,20,21,22,23,24] ?_
       iterate 22
        refine hP (v:=?_) rfl rfl hHeld ?_ ?_;rotate_left
        ·rintro wh ⟨z0,z1,z2⟩
         go_simp
         (try with_reducible rfl)
        simp only [Act.put,aS1,aS2,aS3]
       refine plOut ?_;refine wpAnyH_done (by kernel_rfl) ?_ _
       all_goals (
        have hbn:Below w.heap.size w w1:=hba.trans (hB1.mono hba.size);clear hb1 hB1 hn;go_wp2;go_roundw
        case rel=>exact ⟨k+1,by omega,by go_num,HN,hbn⟩
        case measure=>(simp [intOf];try omega))
    ·have g1:(200:Int) < (y.size:Int):=by omega
     have HZ:=hbad (by rw [hnm,decide_eq_false hy2];rfl);clear hstep hbad hall hgz hnm hy2;go_wp2_with fail
     refine wp_region_held_drew (S:=(fun w'=>w'.cell? ⟨wr.heap.size,0,none⟩=some (.string x)∧w'.cell? ⟨wr.heap.size,1,none⟩=some (.string y))) (by kernel_rfl) ⟨a0,a1⟩ (fun hHeld=>?_);refine plIn [0,1] ?_
     iterate 2
      refine hP (v:=?_) rfl rfl hHeld ?_ ?_;rotate_left
      ·rintro wh ⟨z0,z1⟩
       go_simp
       (try with_reducible rfl)
      simp only [Act.put,aS1,aS2,aS3]
     refine plOut ?_;refine held_call (i:=2) rfl (by kernel_rfl) (by rfl) (fun K hK=>?_)
     (go_simp;go_at_call 46;refine (hn _).mono ?_;rintro e w1 ⟨rfl,hb1⟩;have hB1:Below wa.heap.size wa w1:=((Below.refl _ _).drew).trans hb1)
     refine hK.out _ _ ⟨kCq a0 hB1 hwa,kCq a1 hB1 hwa⟩ (fun hHeld=>?_);clear hK K
     (try simp only [Act.put,aS1,aS2,aS3])
     refine plIn [3,4,5,6,7,8,9,10] ?_
     iterate 8
      refine hP (v:=?_) rfl rfl hHeld ?_ ?_;rotate_left
      ·rintro wh ⟨z0,z1⟩
       go_simp
       (try with_reducible rfl)
      simp only [Act.put,aS1,aS2,aS3]
     refine plOut ?_;refine plIn [11,12,13,14,15,16,17,18,19,20,21,22,23] ?_
     iterate 13
      refine hK rfl rfl hHeld ?_;simp only [Act.put,aS1,aS2,aS3]
     refine plOut ?_;refine hT (i:=24) (v:=?_) rfl rfl hHeld ?_ ?_;rotate_left
     ·rintro wh ⟨z0,z1⟩
      go_simp
      (try with_reducible rfl)
     simp only [Act.put,aS1,aS2,aS3];refine wpAnyH_done (by kernel_rfl) ?_ _
     all_goals (
      have hbn:Below w.heap.size w w1:=hba.trans (hB1.mono hba.size);clear hb1 hB1 hn;go_wp2;go_ret;exact ⟨by rw [HZ.out];rfl,hbn⟩)
  ·obtain rfl:k=l.length:=by omega
   have HZ:Hid (rightF l=decide (l.length≤8)):=rightF_good HT.out;clear HT
   by_cases h8:l.length≤8
   ·rw [decide_eq_true h8] at HZ
    go_wp2;go_ret;refine ⟨?_,hbr⟩
    rw [HZ.out];(first | rfl | (simp;done) | (simp;omega))
   ·rw [decide_eq_false h8] at HZ
    go_wp2;go_ret;refine ⟨?_,hbr⟩
    rw [HZ.out];(first | rfl | (simp;done) | (simp;omega))
structure Al where
 src:ByteArray
 fl:List Fld
 lv:Int
 c:Nat
 fr:Int
 til:Int
def beginsA (f:Int):Bool:=decide (0≤f)&&decide (f≤1099511627776)
def endsA (f t:Int):Bool:=decide (t=0) || (decide (f < t)&&decide (t≤1099511627776))
def whoA (src:ByteArray) (fl:List Fld) (lv:Int):Bool:=nameL (B src)&&decide (0 < fl.length)&&rightF fl&&rightL lv
def rightA (x:Al):Bool:=whoA x.src x.fl x.lv&&beginsA x.fr&&endsA x.fr x.til
def firesA (x:Al) (now:Int):Bool:=decide (x.fr≤now)&&(decide (x.til=0) || decide (now < x.til))
abbrev AlV (x:Al) (v:Value):Value:=.agg #[.string x.src,v,.int .i64 x.lv,.int .u32 x.c,.int .i64 x.fr,.int .i64 x.til]
set_option maxHeartbeats 3200000 in
set_option maxRecDepth 100000 in
theorem aright_any (src:ByteArray) (fl:List Fld) (lv:Int) (c:Nat) (fr til:Int) (v:Value) (w:World) (hs:src.size≤maxLen) (hv:FldsAt w v fl) (hfit:FldsFit fl) (hl:fl.length≤maxLen) :
  Calls Tryz.prog 26 #[.agg #[.string src,v,.int .i64 lv,.int .u32 c,.int .i64 fr,.int .i64 til]] w fun e w'=>e=.returned (.bool (whoA src fl lv&&beginsA fr&&endsA fr til))∧Below w.heap.size w w':=by
 have k1:=fun W=>name_any src W hs;have k2:=fun W (hb:Below w.heap.size w W)=>rightf_any fl W v (hv.later hb) hfit hl;have k3:=right_any lv c;obtain ⟨fa,fc,rfl,hfc,_⟩:=RdAt.shape hv;have K2:=Lib.hid k2;have hl63:fl.length≤9223372036854775807:=by unfold maxLen at hl;omega
 clear hv hfit k2
 go_enter Tryz.func26,Tryz.ntmps26
 go_upto_region 1 with fail
 go_cut [3] (fun s3 wx=>s3=.bool (whoA src fl lv)∧C6 w.heap.size (.string src) (.slice fa fl.length fc) (.int .i64 lv) (.int .u32 c) (.int .i64 fr) (.int .i64 til) wx∧w.heap.size < wx.heap.size∧Below w.heap.size w wx)
 case first =>
  cases hn:nameL (B src)
  ·have HW:Hid (whoA src fl lv=false):=by show _=_;unfold whoA;rw [hn];rfl
   rw [hn] at k1;clear hn;go_wp2_with fail
   refine (k1 _).mono ?_;rintro e w1 ⟨rfl,hb1⟩;obtain ⟨X,hlt,hB1⟩:=box6 hb1;go_wp2
   go_meet
   exact ⟨by rw [HW.out],X,hlt,hB1⟩
  rw [hn] at k1
  by_cases h0:0 < fl.length
  ·have h0':(0:Int) < (fl.length:Int):=by omega
   cases hr:rightF fl
   ·have HW:Hid (whoA src fl lv=false):=by show _=_;unfold whoA;rw [hr,Bool.and_false];rfl
    rw [hr] at K2;clear hn hr;go_wp2_with fail
    refine (k1 _).mono ?_;rintro e w1 ⟨rfl,hb1⟩;obtain ⟨X,hlt,hB1⟩:=box6 hb1;have X1:Hid (C6 w.heap.size _ _ _ _ _ _ w1):=Lib.hid X;obtain ⟨x0,x1,x2,x3,x4,x5⟩:=X;clear hb1 k1;have k2:=K2.out w1 hB1;clear K2;go_wp2_with fail
    refine k2.mono ?_;rintro e w2 ⟨rfl,hb2⟩;have X2:=X1.out.later hb2 hlt;have hB2:=hB1.trans (hb2.mono hB1.size);have hlt2:=Nat.lt_of_lt_of_le hlt hb2.size;clear x0 x1 x2 x3 x4 x5 X1 k2 hb2 hB1 hlt;go_wp2
    go_meet
    exact ⟨by rw [HW.out],X2,hlt2,hB2⟩
   ·have HW:Hid (whoA src fl lv=rightL lv):=by show _=_;unfold whoA;rw [hn,hr,decide_eq_true h0];rfl
    rw [hr] at K2;clear hn hr;go_wp2_with fail
    refine (k1 _).mono ?_;rintro e w1 ⟨rfl,hb1⟩;obtain ⟨X,hlt,hB1⟩:=box6 hb1;have X1:Hid (C6 w.heap.size _ _ _ _ _ _ w1):=Lib.hid X;obtain ⟨x0,x1,x2,x3,x4,x5⟩:=X;clear hb1 k1;have k2:=K2.out w1 hB1;clear K2;go_wp2_with fail
    refine k2.mono ?_;rintro e w2 ⟨rfl,hb2⟩;have X:=X1.out.later hb2 hlt;have X2:=Lib.hid X;have hB2:=hB1.trans (hb2.mono hB1.size);have hlt2:=Nat.lt_of_lt_of_le hlt hb2.size;clear x0 x1 x2 x3 x4 x5 X1 k2 hb2 hB1 hlt;obtain ⟨x0,x1,x2,x3,x4,x5⟩:=X;go_wp2_with fail
    refine (k3 _).mono ?_;rintro e w3 ⟨rfl,hb3⟩;have X3:=X2.out.later hb3 hlt2;have hB3:=hB2.trans (hb3.mono hB2.size);have hlt3:=Nat.lt_of_lt_of_le hlt2 hb3.size;clear x0 x1 x2 x3 x4 x5 X2 k3 hb3 hB2 hlt2;go_wp2
    go_meet
    exact ⟨by rw [HW.out],X3,hlt3,hB3⟩
  ·have HW:Hid (whoA src fl lv=false):=by show _=_;unfold whoA;rw [decide_eq_false h0,Bool.and_false];rfl
   have hnil:fl=[]:=List.length_eq_zero_iff.1 (by omega);subst hnil;clear hn h0;go_wp2_with fail
   refine (k1 _).mono ?_;rintro e w1 ⟨rfl,hb1⟩;obtain ⟨X,hlt,hB1⟩:=box6 hb1;have X1:Hid (C6 w.heap.size _ _ _ _ _ _ w1):=Lib.hid X;obtain ⟨x0,x1,x2,x3,x4,x5⟩:=X;clear hb1 k1;go_wp2
   go_meet
   exact ⟨by rw [HW.out],X1.out,hlt,hB1⟩
 case rest =>
  obtain ⟨rfl,X,hlt,hB⟩:=hcut;obtain ⟨who,hwho⟩:∃ z,whoA src fl lv=z:=⟨_,rfl⟩;rw [hwho];have HWHO:=Lib.hid hwho;clear hwho;clear k1 k3 K2;have X1:Hid (C6 w.heap.size _ _ _ _ _ _ wc):=Lib.hid X;clear X;go_upto_region 2 with fail
  go_cut [4] (fun s4 wx=>s4=.bool (beginsA fr)∧C6 w.heap.size (.string src) (.slice fa fl.length fc) (.int .i64 lv) (.int .u32 c) (.int .i64 fr) (.int .i64 til) wx∧w.heap.size < wx.heap.size∧Below w.heap.size w wx)
  case first =>
   obtain ⟨x0,x1,x2,x3,x4,x5⟩:=X1.out
   by_cases h1:0≤fr
   ·by_cases h2:fr≤1099511627776
    ·go_wp2
     go_meet
     exact ⟨by unfold beginsA;rw [decide_eq_true h1,decide_eq_true h2];rfl,X1.out,hlt,hB⟩
    ·have HW:Hid (beginsA fr=false):=by show _=_;unfold beginsA;rw [decide_eq_false h2,Bool.and_false]
     have h2':(1099511627776:Int) < fr:=by omega
     clear h2;go_wp2
     go_meet
     exact ⟨by rw [HW.out];try (simp;omega),X1.out,hlt,hB⟩
   ·have HW:Hid (beginsA fr=false):=by show _=_;unfold beginsA;rw [decide_eq_false h1,Bool.false_and]
    have h1':fr < 0:=by omega
    clear h1;go_wp2
    go_meet
    exact ⟨by rw [HW.out];try (simp;omega),X1.out,hlt,hB⟩
  case rest =>
   obtain ⟨rfl,X,hlt2,hB2⟩:=hcut;obtain ⟨x0,x1,x2,x3,x4,x5⟩:=X;clear X1 hlt hB
   cases who
   ·go_wp2
    go_ret;exact ⟨by rw [HWHO.out];rfl,hB2⟩
   obtain ⟨bg,hbg⟩:∃ z,beginsA fr=z:=⟨_,rfl⟩;rw [hbg];have HBG:=Lib.hid hbg;clear hbg
   cases bg
   ·go_wp2
    go_ret;exact ⟨by rw [HWHO.out,HBG.out];rfl,hB2⟩
   by_cases h1:til=0
   ·subst h1
    go_wp2;go_ret;exact ⟨by rw [HWHO.out,HBG.out];rfl,hB2⟩
   ·have hz:(til==0)=false:=by rw [beq_eq_false_iff_ne];exact h1
    by_cases h2:fr < til
    ·by_cases h3:til≤1099511627776
     ·have HW:Hid (endsA fr til=true):=by show _=_;unfold endsA;rw [decide_eq_true h2,decide_eq_true h3];simp
      go_wp2;go_ret
      exact ⟨by rw [HWHO.out,HBG.out,HW.out];first | rfl | (simp;omega),hB2⟩
     ·have HW:Hid (endsA fr til=false):=by show _=_;unfold endsA;rw [decide_eq_false h1,decide_eq_false h3];simp
      have h3':(1099511627776:Int) < til:=by omega
      clear h3;go_wp2;go_ret
      exact ⟨by rw [HWHO.out,HBG.out,HW.out];first | rfl | (simp;omega),hB2⟩
    ·have HW:Hid (endsA fr til=false):=by show _=_;unfold endsA;rw [decide_eq_false h1,decide_eq_false h2];simp
     have h2':til≤fr:=by omega
     clear h2;go_wp2;go_ret
     exact ⟨by rw [HWHO.out,HBG.out,HW.out];first | rfl | (simp;omega),hB2⟩
set_option maxHeartbeats 800000 in
theorem fires_any (src:ByteArray) (a:Option Addr) (n m:Nat) (lv:Int) (c:Nat) (fr til now:Int) (w:World) :
  Calls Tryz.prog 22 #[.agg #[.string src,.slice a n m,.int .i64 lv,.int .u32 c,.int .i64 fr,.int .i64 til],.int .i64 now] w fun e w'=>e=.returned (.bool (decide (fr≤now)&&(decide (til=0) || decide (now < til))))∧Below w.heap.size w w':=by
 by_cases h1:fr≤now
 ·by_cases h2:til=0
  ·subst h2
   go_enter Tryz.func22,Tryz.ntmps22
   go_wp2;go_ret
   exact ⟨by first | rfl | (simp;omega),(Below.refl _ _).alloc (Nat.le_refl _) _⟩
  ·have hz:(til==0)=false:=by rw [beq_eq_false_iff_ne];exact h2
   have hz2:=h2;clear h2
   by_cases h3:now < til
   ·go_enter Tryz.func22,Tryz.ntmps22
    go_wp2;go_ret
    exact ⟨by first | rfl | (simp;omega) | (simp [*]),(Below.refl _ _).alloc (Nat.le_refl _) _⟩
   ·have h3':til≤now:=by omega
    go_enter Tryz.func22,Tryz.ntmps22
    go_wp2;go_ret
    exact ⟨by first | rfl | (simp;omega) | (simp [*]),(Below.refl _ _).alloc (Nat.le_refl _) _⟩
 ·have h1':now < fr:=by omega
  go_enter Tryz.func22,Tryz.ntmps22
  go_wp2;go_ret
  exact ⟨by first | rfl | (simp;omega) | (simp [*]),(Below.refl _ _).alloc (Nat.le_refl _) _⟩
theorem fldCells_take (l:List Fld) (i:Nat):fldCells (l.take i)=(fldCells l).take (i * 2):=by
 induction l generalizing i with
 | nil=>simp [fldCells]
 | cons f l ih =>
  cases i with
  | zero=>simp [fldCells]
  | succ i=>rw [List.take_succ_cons,fldCells,ih,fldCells,show (i+1) * 2=i * 2+1+1 by omega];rfl
theorem fld_take {w:World} {a:Option Addr} {c:Nat} {fl:List Fld} (h:FldsAt w (.slice a fl.length c) fl) (k:Nat) (hk:k≤fl.length) (hn:a=none→fl.length=0):FldsAt w (.slice a k c) (fl.take k):=by
 have hl:(fl.take k).length=k:=by rw [List.length_take];omega
 unfold FldsAt at h ⊢;rw [hl,fldCells_take];refine ⟨by rw [List.length_take,fldCells_len];omega,?_⟩
 rcases h.2 with ⟨h1,h0⟩ | ⟨ad,c',h1,hc,hr⟩
 ·simp only [Value.slice.injEq] at h1
  obtain ⟨rfl,h2,rfl⟩:=h1;exact .inl ⟨by rw [show k=0 by omega],by omega⟩
 ·simp only [Value.slice.injEq] at h1
  obtain ⟨rfl,_,rfl⟩:=h1;refine .inr ⟨ad,c,rfl,by omega,fun h0=>?_⟩;obtain ⟨b,o,rfl,hlt,hcell⟩:=hr (by omega);refine ⟨b,o,rfl,hlt,fun j x hj=>hcell j x ?_⟩;have hjl:=(List.getElem?_eq_some_iff.1 hj).1;rw [List.length_take] at hjl
  rwa [List.getElem?_take_of_lt (by omega)] at hj
def alC (x:Al) (v:Value):List Value:=[.string x.src,v,.int .i64 x.lv,.int .u32 x.c,.int .i64 x.fr,.int .i64 x.til]
def alCells:List (Al × Value)→List Value
 | []=>[]
 | p :: l=>alC p.1 p.2 ++ alCells l
theorem alCells_len (l:List (Al × Value)):(alCells l).length=l.length * 6:=by
 induction l with
 | nil=>rfl
 | cons x l ih=>simp only [alCells,List.length_append,ih,List.length_cons];simp [alC];omega
theorem alCells_at:∀ (l:List (Al × Value)) (j:Nat) (h:j < l.length) (i:Nat) (v:Value),(alC l[j].1 l[j].2)[i]?=some v→(alCells l)[j * 6+i]?=some v
 | x :: l,0,_,i,v,hi=>by
  have hlt:=(List.getElem?_eq_some_iff.1 hi).1;simp only [alCells];rw [List.getElem?_append_left (by simpa using hlt)]
  simpa using hi
 | x :: l,j+1,h,i,v,hi=>by
  simp only [alCells];rw [List.getElem?_append_right (by simp [alC];omega)]
  have:=alCells_at l j (by simpa using h) i v (by simpa using hi)
  rw [show (j+1) * 6+i - (alC x.1 x.2).length=j * 6+i by simp [alC];omega];exact this
structure AlFit (x:Al):Prop where
 src:x.src.size≤maxLen
 fl:FldsFit x.fl
 len:x.fl.length≤maxLen
 c:x.c < 4294967296
structure AlsAt (w:World) (v:Value) (l:List (Al × Value)):Prop where
 row:RdAt w v l.length 6 (alCells l)
 fld:∀ p∈l,FldsAt w p.2 p.1.fl∧AlFit p.1
theorem AlsAt.later {w w':World} {v:Value} {l:List (Al × Value)} (h:AlsAt w v l) (hb:Below w.heap.size w w'):AlsAt w' v l:=⟨h.row.later hb,fun p hp=>⟨(h.fld p hp).1.later hb,(h.fld p hp).2⟩⟩
theorem below_put {w W:World} {g j:Nat} {x:Value} (h:Below w.heap.size w W) (hb:w.heap.size≤g):Below w.heap.size w (W.setCell ⟨g,j,none⟩ x) :=
 h.trans ((Below.refl _ _).setCell (p:=⟨g,j,none⟩) hb x)
theorem below_puts {w W:World} {g o:Nat} (h:Below w.heap.size w W) (hb:w.heap.size≤g):∀ (vs:List Value),Below w.heap.size w (W.setCells g o vs):=by
 intro vs
 induction vs generalizing W o with
 | nil=>exact h
 | cons v r ih=>exact ih (below_put h hb)
theorem box_there {w W:World} {xs:Array Value} {t:TypeId} (hb:Below (w.alloc (.cells xs t)).heap.size (w.alloc (.cells xs t)) W):W.there w.heap.size 0 xs.size:=by
 have hlt:w.heap.size < (w.alloc (.cells xs t)).heap.size:=by rw [World.size_alloc];omega
 have h:=(hb.block _ hlt).trans (heap_alloc_new w (.cells xs t));intro j hj;rw [Nat.zero_add];exact ⟨by simp [World.cell?,h,hj],by simp [World.frozen?,h]⟩
theorem box_range {w W:World} {xs:Array Value} {t:TypeId} (hb:Below (w.alloc (.cells xs t)).heap.size (w.alloc (.cells xs t)) W):W.rangeAt w.heap.size 0 xs.toList:=by
 obtain ⟨h,_,_⟩:=box_cells hb;intro j v hv;rw [Nat.zero_add];exact h j v (by simpa using hv)
theorem there_later {w W:World} {g n:Nat} (h:w.there g 0 n) (hb:Below w.heap.size w W) (hlt:g < w.heap.size):W.there g 0 n:=fun j hj=>by
 have hk:=hb.block g hlt;obtain ⟨h1,h2⟩:=h j hj;exact ⟨by rw [World.cell?_of_block (a:=⟨g,0+j,none⟩) hk];exact h1,by rw [World.frozen?_of_block (a:=⟨g,0+j,none⟩) hk];exact h2⟩
theorem range_later {w W:World} {g o:Nat} {cs:List Value} (h:w.rangeAt g o cs) (hb:Below w.heap.size w W) (hlt:g < w.heap.size):W.rangeAt g o cs:=fun j v hv=>kCq (h j v hv) hb hlt
theorem tFq {w:World} {g n:Nat} (h:w.there g 0 n) (j:Nat) (hj:j < n):w.frozen? ⟨g,j,none⟩=false:=by have:=(h j hj).2;rwa [Nat.zero_add] at this
theorem results_agg2 {P:Program} {fn:Func} {p u:Tmp} {ty:TypeId} (h:fn.results=#[.cell p ty,.tmp u]) (tmps:Array Value) (w:World) (g:Nat) (cs:List Value) (d:TypeDesc)
  (hp:tmps.getD p undef=.pointer (some ⟨g,0,none⟩)) (hc:w.rangeAt g 0 cs) (hu:P.underlying ty=some d) (hd:d.isRow=true) (hi:(P.info? ty).map (·.size)=some cs.length) :
  (results fn tmps).run P w=.ok (.tuple #[.agg cs.toArray,tmps.getD u undef]) w:=by
 rw [results_cell_tmp h,hp]
 simp [asAddr,Result.andThen,run_loadVar_mid (P:=P) w g 0 ty cs d hc hu hd hi]
theorem results_agg1 {P:Program} {fn:Func} {p:Tmp} {ty:TypeId} (h:fn.results=#[.cell p ty]) (tmps:Array Value) (w:World) (g:Nat) (cs:List Value) (d:TypeDesc)
  (hp:tmps.getD p undef=.pointer (some ⟨g,0,none⟩)) (hc:w.rangeAt g 0 cs) (hu:P.underlying ty=some d) (hd:d.isRow=true) (hi:(P.info? ty).map (·.size)=some cs.length) :
  (results fn tmps).run P w=.ok (.agg cs.toArray) w:=by
 have hp':tmps[p]?.getD undef=.pointer (some ⟨g,0,none⟩):=by simpa using hp
 simp [results,h,hp',asAddr,run_loadVar_mid (P:=P) w g 0 ty cs d hc hu hd hi]
end Go.Proofs.YtipnhpfpppblhaaGreat
namespace Go
variable {P:Program} {ops:Array Oper} {Q:Exit→Act→World→Prop} {md:Region.Mode} {S:World→Prop}
theorem held_two {i j:Nat} {oi oj:Oper} {fuel:Nat} {listed:Array Bool} {a:Act} {w:World} (hi:ops[i]?=some oi) (hj:ops[j]?=some oj) (hr:Region.ready md ops listed=[i,j])
  (h:∀ K':Act→World→Prop,Shut (∀ a w,S w→(S w→wpAnyH P md ops Q S fuel (listed.setIfInBounds i true) a w)→K' a w)→if Region.wanted oi (yielded ops a.tmps)=true then Oper.wp P oi a w K' Q else K' (a.put oi.dst undef) w)
  (h':∀ K':Act→World→Prop,Shut (∀ a w,S w→(S w→wpAnyH P md ops Q S fuel (listed.setIfInBounds j true) a w)→K' a w)→if Region.wanted oj (yielded ops a.tmps)=true then Oper.wp P oj a w K' Q else K' (a.put oj.dst undef) w):wpAnyH P md ops Q S (fuel+1) listed a w :=
 wpAnyH_ready hr (by simp) (AllReadyH.cons hi h (AllReadyH.cons hj h' AllReadyH.nil))
theorem there_cell {w:World} {g n:Nat} (h:w.there g 0 n) (j:Nat) (hj:j < n):∃ v,w.cell? ⟨g,j,none⟩=some v:=by
 have:=(h j hj).1
 rw [Nat.zero_add] at this;exact Option.isSome_iff_exists.1 this
end Go
namespace Go.Proofs.YtipnhpfpppblhaaGreat
open Go.RowKit
theorem c6_puts (w:World) (g:Nat) (a b c d e f:Value) (ht:w.there g 0 6):C6 g a b c d e f (w.setCells g 0 [a,b,c,d,e,f]):=by
 have h:=World.rangeAt_setCells_same w g 0 [a,b,c,d,e,f] ht;refine ⟨?_,?_,?_,?_,?_,?_⟩
 ·simpa using h 0 a rfl
 ·simpa using h 1 b rfl
 ·simpa using h 2 c rfl
 ·simpa using h 3 d rfl
 ·simpa using h 4 e rfl
 ·simpa using h 5 f rfl
open Go.Shelf
attribute [local go_sem] Oper.semAt_some
abbrev AlIn (l:List (Al × Value)):={ p:Al × Value // p∈l∧rightA p.1=true }
def goesA (now:Int) (p:Al × Value):Bool:=rightA p.1&&firesA p.1 now
theorem goes_step {l:List (Al × Value)} {now:Int} {k:Nat} (h:k < l.length):(l.take (k+1)).filter (goesA now)=(l.take k).filter (goesA now) ++ (if goesA now l[k] then [l[k]] else []):=by
 rw [List.take_succ_eq_append_getElem h,List.filter_append]
 cases hg:goesA now l[k] <;> simp [hg]
theorem firing_any (a:Option Addr) (n c:Nat) (now:Int) (w:World) :
  Calls Tryz.prog 63 #[.slice a n c,.int .i64 now] w fun e w'=>e=.returned (.func (.func 92) #[] #[.pointer (some ⟨w.heap.size,0,none⟩),.pointer (some ⟨w.heap.size+1,0,none⟩)]) ∧
   w'=(w.alloc (.cells #[.slice a n c] 31)).alloc (.cells #[.int .i64 now] 3):=by
 go_enter Tryz.func63,Tryz.ntmps63
 go_wp2;go_ret;exact ⟨rfl,rfl⟩
set_option maxHeartbeats 3200000 in
set_option maxRecDepth 100000 in
theorem firing1_in (n:Nat) (hn:1≤n) (l:List (Al × Value)) (now:Int) (id bs:Nat) (w0:World) (lv:Value) (hl:AlsAt w0 lv l) (hlen:l.length≤maxLen) (k0:w0.cell? ⟨bs,0,none⟩=some lv) (k1:w0.cell? ⟨bs+1,0,none⟩=some (.int .i64 now)) (hbs:bs+1 < w0.heap.size)
  (J Jx:List (AlIn l)→World→Prop) (W:World) (hW:Below w0.heap.size w0 W) (hJ:∀ s A A',J s A→Below A.heap.size A A'→J s A') (hJx:∀ s A A',Jx s A→Below A.heap.size A A'→Jx s A')
  (hY:∀ pre x W1,J pre W1→pre.length < l.length→YieldAt Fence.wide (n - 1) Tryz.prog id #[AlV x.1.1 x.1.2] W1 fun e W' =>
   (e=.returned (.bool true)∧J (pre ++ [x]) W'∧Below w0.heap.size W1 W')∨(e=.returned (.bool false)∧Jx (pre ++ [x]) W'))
  (h0:J [] W) :
  CallsIn Fence.wide n Tryz.prog 92 #[.func (.yield id) #[] #[],.pointer (some ⟨bs,0,none⟩),.pointer (some ⟨bs+1,0,none⟩)] W fun e W' =>
   (∃ v,e=.returned v)∧((∃ xs:List (AlIn l),xs.map (·.1)=l.filter (goesA now)∧J xs W')∨(∃ pre:List (AlIn l),pre.map (·.1) <+: l.filter (goesA now)∧Jx pre W')):=by
 unfold maxLen at hlen;obtain ⟨la,lc,rfl,hlc,hlr⟩:=RdAt.shape hl.row;have HLR:=Lib.hid hlr;have HFL:=Lib.hid hl.fld;have q0:=kCq k0 hW (by omega);have q1:=kCq k1 hW hbs;have HJ:=Lib.hid hJ;have HJX:=Lib.hid hJx;have HYD:=Lib.hid hY;have HK1:=Lib.hid k1;have HW:=Lib.hid hW;have H0:=Lib.hid h0;clear hl hlr hJ hJx hY k0 k1 hW h0;refine callsIn_of_wp Tryz.func92 rfl trivial ?_ rfl;simp only [Tryz.ntmps92,List.size_toArray,List.length_cons,List.length_nil,Nat.reduceAdd,Nat.reduceSub,Array.replicate_succ,Array.replicate_zero,List.push_toArray,List.append_toArray,List.nil_append,List.cons_append]
 gi_wp2
 gi_loopw [8] (fun vi wr=>∃ (k:Nat) (pre:List (AlIn l)),vi=.int .i64 k∧k≤l.length∧Hid (pre.map (·.1)=(l.take k).filter (goesA now))∧Hid (J pre wr)∧Hid (Below w0.heap.size w0 wr)) (fun vi _=>l.length - (intOf vi).toNat)
 case atStart=>exact ⟨0,[],rfl,Nat.zero_le _,Lib.hid (by simp),H0,HW⟩
 case round =>
  clear q0 q1 H0 HW;obtain ⟨k,pre,rfl,hk,HP,HJP,HB⟩:=hrel
  by_cases hkl:k < l.length
  ·obtain ⟨b,o,rfl,hbl,hcell⟩:=HLR.out (by omega)
   have hat:=alCells_at l k hkl;have p0:=kCq (hcell _ _ (hat 0 _ rfl)) HB.out hbl;have p1:=kCq (hcell _ _ (hat 1 _ rfl)) HB.out hbl;have p2:=kCq (hcell _ _ (hat 2 _ rfl)) HB.out hbl;have p3:=kCq (hcell _ _ (hat 3 _ rfl)) HB.out hbl;have p4:=kCq (hcell _ _ (hat 4 _ rfl)) HB.out hbl;have p5:=kCq (hcell _ _ (hat 5 _ rfl)) HB.out hbl;have q1:=kCq HK1.out HB.out hbs;rw [Nat.add_zero] at p0;rw [← Nat.add_assoc] at p1 p2 p3 p4 p5;have hmem:=List.getElem_mem hkl;obtain ⟨hfk,hfit⟩:=HFL.out _ hmem;have HX:Hid (rightA l[k].1=true→∃ x:AlIn l,x.1=l[k]):=Lib.hid (fun hr=>⟨⟨l[k],hmem,hr⟩,rfl⟩);have HST:=Lib.hid (goes_step (now:=now) hkl)
   have hpl:pre.length≤k:=by
    have:=congrArg List.length HP.out
    rw [List.length_map] at this;rw [this];exact Nat.le_trans (List.length_filter_le _ _) (List.length_take_le _ _)
   have HG:Hid (goesA now l[k]=(rightA l[k].1&&firesA l[k].1 now)):=Lib.hid rfl;generalize l[k]=y at *;obtain ⟨⟨src,fl,alv,ac,fr,til⟩,fv⟩:=y;dsimp only at *;obtain ⟨fa,fc,rfl,hfc,_⟩:=RdAt.shape hfk;have KR:=Lib.hid (fun V (h:Below w0.heap.size w0 V)=>aright_any src fl alv ac fr til _ V hfit.src (hfk.later h) hfit.fl hfit.len);have KF:=Lib.hid (fun V=>fires_any src fa fl.length fc alv ac fr til now V);have hR:rightA ⟨src,fl,alv,ac,fr,til⟩=(whoA src fl alv&&beginsA fr&&endsA fr til):=rfl;have hF:firesA ⟨src,fl,alv,ac,fr,til⟩ now=(decide (fr≤now)&&(decide (til=0) || decide (now < til))):=rfl;rw [← hR] at KR;rw [← hF] at KF;generalize rightA ⟨src,fl,alv,ac,fr,til⟩=R at *;generalize firesA ⟨src,fl,alv,ac,fr,til⟩ now=F at *;generalize goesA now (⟨src,fl,alv,ac,fr,til⟩,Value.slice fa fl.length fc)=G at *;clear hcell hat hfk hfit hmem hR hF
   gi_wp2_with fail
   have HBA:=Lib.hid (fun (o:Obj)=>HB.out.trans ((aBq wr o).mono HB.out.size));refine ⟨trivial,?_⟩;refine (callsIn_wide.2 (KR.out _ (HBA.out _))).mono ?_;rintro e w2 ⟨rfl,hb2⟩;have hB2:=(HBA.out _).trans (hb2.mono (HBA.out _).size);obtain ⟨⟨x0,x1,x2,x3,x4,x5⟩,hlt,hBw⟩:=box6 hb2;have HJ2:=Lib.hid (HJ.out _ _ _ HJP.out hBw);have q1:=kCq HK1.out hB2 hbs;have HB2:=Lib.hid hB2;have HLT:=Lib.hid hlt;clear p0 p1 p2 p3 p4 p5 hb2 hB2 hBw KR HBA hlt
   cases R
   ·have HN:Hid (pre.map (·.1)=(l.take (k+1)).filter (goesA now)):=Lib.hid (by rw [HST.out,show G=false from HG.out,HP.out];simp)
    gi_wp2_with fail
    refine ⟨trivial,?_⟩
    gi_wp2_with fail
    refine ⟨fun _ h=>(by cases h),?_⟩
    gi_wp2
    go_roundw
    case rel=>exact ⟨k+1,pre,by go_num,by omega,HN,HJ2,HB2⟩
    case measure=>(simp [intOf];try omega)
   ·have X6:=Lib.hid (And.intro x0 (And.intro x1 (And.intro x2 (And.intro x3 (And.intro x4 x5)))))
    gi_wp2_with fail
    refine ⟨trivial,?_⟩;refine (callsIn_wide.2 (KF.out _)).mono ?_;rintro e w3 ⟨rfl,hb3⟩;have hB3:=HB2.out.trans (hb3.mono HB2.out.size);have HJ3:=Lib.hid (HJ.out _ _ _ HJ2.out hb3);have HB3:=Lib.hid hB3;have x0:=kCq x0 hb3 HLT.out;have x1:=kCq x1 hb3 HLT.out;have x2:=kCq x2 hb3 HLT.out;have x3:=kCq x3 hb3 HLT.out;have x4:=kCq x4 hb3 HLT.out;have x5:=kCq x5 hb3 HLT.out;clear hb3 hB3 HJ2 HB2 KF X6
    cases F
    ·have HN:Hid (pre.map (·.1)=(l.take (k+1)).filter (goesA now)):=Lib.hid (by rw [HST.out,show G=false from HG.out,HP.out];simp)
     gi_wp2_with fail
     refine ⟨fun _ h=>(by cases h),?_⟩
     gi_wp2
     go_roundw
     case rel=>exact ⟨k+1,pre,by go_num,by omega,HN,HJ3,HB3⟩
     case measure=>(simp [intOf];try omega)
    ·obtain ⟨x,hx⟩:=HX.out (by first | rfl | trivial)
     have HN:Hid ((pre ++ [x]).map (·.1)=(l.take (k+1)).filter (goesA now)):=Lib.hid (by rw [List.map_append,List.map_singleton,hx,HST.out,show G=true from HG.out,HP.out];simp);have hKY:=HYD.out pre x w3 HJ3.out (by omega);rw [hx] at hKY;obtain ⟨fn,tmps,assign,body,hy,hR⟩:=hKY;dsimp only [AlV] at hy;clear hx
     gi_wp2
     refine hR.mono ?_
     rintro e W4 (⟨rfl,hJ4,hk4⟩ | ⟨rfl,hJx4⟩)
     ·have HJ4:=Lib.hid hJ4
      have HB4:=Lib.hid (HB3.out.trans hk4);clear hJ4 hk4 x0 x1 x2 x3 x4 x5 q1
      gi_wp2
      go_roundw
      case rel=>exact ⟨k+1,pre ++ [x],by go_num,by omega,HN,HJ4,HB4⟩
      case measure=>(simp [intOf];try omega)
     ·have HJX4:=Lib.hid hJx4
      clear hJx4 x0 x1 x2 x3 x4 x5 q1
      gi_wp2
      refine bodyPost_ret (results_none rfl _ _ _) rfl ?_;refine ⟨⟨_,rfl⟩,.inr ⟨pre ++ [x],?_,HJX4.out⟩⟩;rw [HN.out];exact (List.take_prefix _ _).filter _
  ·obtain rfl:k=l.length:=by omega
   have HD:Hid (pre.map (·.1)=l.filter (goesA now)):=Lib.hid (by rw [HP.out,List.take_length])
   gi_wp2
   go_end0
   exact ⟨⟨_,rfl⟩,.inl ⟨pre,HD.out,HJP.out⟩⟩
theorem firing_stops (n:Nat) (hn:1≤n) (l:List (Al × Value)) (now:Int) (bs:Nat) (w0:World) (lv:Value) (hl:AlsAt w0 lv l) (hlen:l.length≤maxLen) (k0:w0.cell? ⟨bs,0,none⟩=some lv) (k1:w0.cell? ⟨bs+1,0,none⟩=some (.int .i64 now)) (hbs:bs+1 < w0.heap.size) :
  SeqStopsK Fence.wide n Tryz.prog 92 #[.pointer (some ⟨bs,0,none⟩),.pointer (some ⟨bs+1,0,none⟩)] (fun x:AlIn l=>#[AlV x.1.1 x.1.2]) (Below w0.heap.size)
   (fun xs=>xs.map (·.1)=l.filter (goesA now)) (fun pre=>pre.map (·.1) <+: l.filter (goesA now)) l.length w0:=fun id J Jx W hW hJ hJx hY h0 =>
 firing1_in n hn l now id bs w0 lv hl hlen k0 k1 hbs J Jx W hW (fun s A A' h hb=>hJ s A A' none h (below_grown hb none) (fun r e=>by cases e)) (fun s A A' h hb=>hJx s A A' none h (below_grown hb none) (fun r e=>by cases e)) hY h0
end Go.Proofs.YtipnhpfpppblhaaGreat
namespace Go.Proofs.YtipnhpfpppblhaaGreat
open Go.RowKit
abbrev I (x:Int):Value:=.int .i64 x
def IntsAt (w:World) (v:Value) (l:List Int):Prop:=RdAt w v l.length 1 (l.map I)
theorem IntsAt.later {w w':World} {v:Value} {l:List Int} (h:IntsAt w v l) (hb:Below w.heap.size w w'):IntsAt w' v l:=RdAt.later h hb
theorem IntsAt.cells {w:World} {v:Value} {l:List Int} (h:IntsAt w v l) (hne:l≠[]):∃ b o c,v=.slice (some ⟨b,o,none⟩) l.length c∧l.length≤c∧b < w.heap.size∧∀ j x,l[j]?=some x→w.cell? ⟨b,o+j,none⟩=some (I x):=by
 obtain ⟨b,o,c,hv,hc,hlt,hcell⟩:=RdAt.some h (List.length_pos_iff.2 hne);exact ⟨b,o,c,hv,hc,hlt,fun j x hx=>hcell j _ (by rw [List.getElem?_map,hx];rfl)⟩
theorem run_append_rd {P:Program} (w:World) (t ty:TypeId) (base:Nat) (e:TypeId) (i:TypeInfo) (z:Value) (size bytes:Nat) (ht:P.underlying t=some (.slice e)) (hi:P.info? e=some i) (hz:i.zero=some z)
  (hsize:i.size=size) (hby:i.bytes=bytes) (hzs:z.cells.size=size) (hsz:0 < size)
  (v:Value) (n:Nat) (xs:List Value) (hown:w.ownsRow base e size v n xs) (u:Value) (m:Nat) (news:List Value) (hu:RdAt w u m size news) (h1:∀ y∈news,y.oneCell'=true)
  (h63:n+m≤maxLen) (hbytes:(n+m) * bytes≤140737488355328) (hbase:base≤w.heap.size) :
  ∃ v' w',(Builtin.append_ #[t,t] ty #[v,u]).run P w=.ok v' w'∧w'.ownsRow base e size v' (n+m) (xs ++ news)∧w.grownBy w' v.ownBlock∧(v'.ownBlock=v.ownBlock∨v'.ownBlock=some w.heap.size):=by
 obtain ⟨hl,⟨rfl,hm⟩ | ⟨ad,c,rfl,_,hr⟩⟩:=hu
 ·subst hm
  have hnil:news=[]:=List.length_eq_zero_iff.1 (by rw [hl];simp);subst hnil;exact ⟨v,w,run_append_owned_none w base t ty e i size ht hi v n xs hown,by simpa using hown,grownBy_refl _ _,.inl rfl⟩
 ·have hq:∀ j y,news[j]?=some y→w.cell? (ad.add j)=some y:=by
   intro j y hj;have hj':=(List.getElem?_eq_some_iff.1 hj).1
   obtain ⟨b,o',rfl,_,hcell⟩:=hr (by rcases Nat.eq_zero_or_pos m with h0 | h0;(· subst h0;rw [hl,Nat.zero_mul] at hj';omega);exact h0)
   have:=hcell j y hj
   by_cases h0:j=0
   ·subst h0;simpa [Addr.add] using this
   ·simpa [Addr.add,h0] using this
  obtain ⟨v',w',hrun,h2,h3,_,h5⟩:=run_append_own_at (P:=P) (w:=w) base t ty e i z size bytes ht hi hz hsize hby hzs hsz v n xs hown ad m c news hl hq h1 h63 hbytes hbase;exact ⟨v',w',hrun,h2,h3,h5⟩
theorem step_append_rd {P:Program} {w:World} {ops:Array Oper} {o:Oper} {a:Act} {K:Act→World→Prop} {Q:Exit→Act→World→Prop} {E:Prop} (hgd:o.guard=none) (s x:Operand) (t:TypeId)
  (ho:o.op=.call { callee:=.builtin .append,args:=#[s,x],argTypes:=#[t,t] })
  (base:Nat) (e:TypeId) (i:TypeInfo) (z:Value) (size bytes:Nat) (ht:P.underlying t=some (.slice e)) (hi:P.info? e=some i) (hz:i.zero=some z)
  (hsize:i.size=size) (hby:i.bytes=bytes) (hzs:z.cells.size=size) (hsz:0 < size)
  (v:Value) (n:Nat) (xs:List Value) (hs:a.eval s=v) (hown:w.ownsRow base e size v n xs)
  (u:Value) (m:Nat) (news:List Value) (hx:a.eval x=u) (hu:RdAt w u m size news) (h1:∀ y∈news,y.oneCell'=true)
  (h63:n+m≤maxLen) (hbytes:(n+m) * bytes≤140737488355328) (hbase:base≤w.heap.size)
  (h:∀ v' w',w'.ownsRow base e size v' (n+m) (xs ++ news)→w.grownBy w' v.ownBlock→(v'.ownBlock=v.ownBlock∨v'.ownBlock=some w.heap.size)→K (a.put o.dst v') w') :
  if Region.wanted o (yielded ops a.tmps)=true then Oper.wp P o a w K Q else E:=by
 have hw:Region.wanted o (yielded ops a.tmps)=true:=by simp [Region.wanted,hgd]
 rw [if_pos hw];obtain ⟨v',w',hr,h2,h3,h4⟩:=run_append_rd (P:=P) w t o.type base e i z size bytes ht hi hz hsize hby hzs hsz v n xs hown u m news hu h1 h63 hbytes hbase;unfold Oper.wp execOp;simp only [ho,resolve,invoke,builtin,Sem.run_bind,Sem.run_pure,Result.andThen_ok,List.map_toArray,List.map_cons,List.map_nil,hs,hx,hr];exact h v' w' h2 h3 h4
theorem info_int:(Tryz.prog.info? 3).map (fun i=>(i.zero,i.size,i.bytes))=some (some (.int .i64 0),1,8):=by kernel_rfl
set_option maxHeartbeats 400000 in
theorem rright_any (l:Int) (c:Nat) (w:World) :
  Calls Tryz.prog 38 #[Lab l c] w fun e w'=>e=.returned (.bool (rightL l))∧Below w.heap.size w w':=by
 rcases (show l < 0∨(0≤l∧l≤7)∨7 < l by omega) with h | ⟨h,h'⟩ | h
 all_goals
  go_enter Tryz.func38,Tryz.ntmps38
  go_wp2;go_ret
  refine ⟨?_,by first | exact Below.refl _ _ | exact bl_drewN (Below.refl _ _) _ | exact ((Below.refl _ _).alloc (Nat.le_refl _) _)⟩
  first
   | rfl
   | (rw [show rightL l=true from decide_eq_true ⟨by omega,by omega⟩];simp;omega)
   | (rw [show rightL l=false from decide_eq_false (by omega)];simp;omega)
   | (rw [show rightL l=false from decide_eq_false (by omega)];rfl)
   | (rw [show rightL l=true from decide_eq_true ⟨by omega,by omega⟩];rfl)
def teamsI (c n:Nat):List Int:=(teamsN c n).map fun (k:Nat)=>(k:Int)
theorem teamsI_step (c k:Nat):teamsI c (k+1)=teamsI c k ++ (if c / 2 ^ k % 2=1 then [(k:Int)] else []):=by
 unfold teamsI;rw [teams_step,List.map_append]
 split <;> rfl
theorem teamsN_le (c n:Nat):(teamsN c n).length≤n:=by
 have:=List.length_filter_le (fun k=>c.testBit k) (List.range n)
 rw [List.length_range] at this;exact this
theorem teamsI_len (c n:Nat):(teamsI c n).length≤n:=by unfold teamsI;rw [List.length_map];exact teamsN_le c n
theorem mem_teamsI {c n:Nat} {k:Nat}:(k:Int)∈teamsI c n↔k∈teamsN c n:=by
 unfold teamsI;rw [List.mem_map]
 constructor
 ·rintro ⟨m,hm,h⟩;have:m=k:=by exact_mod_cast h
  rwa [← this]
 ·intro h;exact ⟨k,h,rfl⟩
set_option maxHeartbeats 1600000 in
set_option maxRecDepth 100000 in
theorem teams_any (l:Int) (c:Nat) (w:World) (hc:c < 4294967296) :
  Calls Tryz.prog 36 #[Lab l c] w fun e w'=>∃ v,e=.returned v∧IntsAt w' v (teamsI c 32)∧Below w.heap.size w w':=by
 obtain ⟨i0,hi,hz0,hz1,hz2⟩:=info_parts info_int
 go_enter Tryz.func36,Tryz.ntmps36
 go_wp2;have hb0:=aBq w (.cells #[.int .i64 l,.int .u32 c] 36)
 go_loopw [3,4,5] (fun v q i wr=>∃ (k r:Nat),i=.int .i64 k∧k≤32∧q=.int .u32 r∧Hid (r=c / 2 ^ k)∧r < 4294967296∧wr.ownsRow w.heap.size 3 1 v (teamsI c k).length ((teamsI c k).map I)∧Below w.heap.size w wr) (fun _ _ i _=>32 - (intOf i).toNat)
 case atStart=>exact ⟨0,c,rfl,Nat.zero_le _,rfl,Lib.hid (by simp),hc,World.ownsRow_nil _ _ _ _,hb0⟩
 case round =>
  obtain ⟨k,r,rfl,hk,rfl,HR,hr,hown,hbr⟩:=hrel
  by_cases hkl:k < 32
  ·have hI:(k:Int) < 32:=by omega
   have q1:((r:Int).tmod 2)=((r % 2:Nat):Int):=by rw [Int.tmod_eq_emod_of_nonneg (by omega)];omega
   have q2:((r:Int).tdiv 2)=((r / 2:Nat):Int):=by rw [Int.tdiv_eq_ediv_of_nonneg (by omega)];omega
   have q3:IntKind.u32.wrap ((r / 2:Nat):Int)=((r / 2:Nat):Int):=by rw [IntKind.wrap_u32'];omega
   have hstep:=teamsI_step c k;rw [← HR.out] at hstep;have hlen:=teamsI_len c k;have hnx:Hid (r / 2=c / 2 ^ (k+1)):=by show _=_;rw [HR.out,Nat.div_div_eq_div_mul,Nat.pow_succ]
   have hr2:r / 2 < 4294967296:=by omega
   have HS:=Lib.hid hstep;have HI:=Lib.hid hI;clear hstep HR
   by_cases hodd:r % 2=1
   ·have q4:((r % 2:Nat):Int)=1:=by omega
    rw [q4] at q1;clear q4;have HOD:=Lib.hid hodd;clear hodd;have hb1:=aBq wr (.cells #[I k] 3);have hown1:=hown.alloc (.cells #[I k] 3);go_wp2_with (at_builtin;(refine wpList_append_own _ rfl _ _ 38 rfl w.heap.size 3 i0 (.int .i64 0) 1 8 Tryz.underlying38 hi hz0 hz1 hz2 rfl (by decide) _ _ _ rfl hown1 ⟨wr.heap.size,0,none⟩ 1 1 [I k] rfl rfl (cell_one_new _ _ _) (by simp [Value.oneCell']) (by unfold maxLen;omega) (by omega) (by have:=hbr.size;simp;omega) ?_);intro v' w3 hown' hg3 hnil3)
    have hB3:Below w.heap.size w w3:=(hbr.trans (hb1.mono hbr.size)).grown hg3 (by have:=hbr.size;simp;omega) (fun j e=>(hown1.lt j e).1);go_wp2;go_roundw
    case rel=>exact ⟨k+1,r / 2,by go_num,by omega,by go_num,hnx,hr2,by rw [HS.out,if_pos HOD.out];simpa using hown',hB3⟩
    case measure=>(simp [intOf];try omega)
   ·have q4:((r % 2:Nat):Int)=0:=by omega
    rw [q4] at q1;clear q4;have HOD:=Lib.hid hodd;clear hodd;go_wp2;go_roundw
    case rel=>exact ⟨k+1,r / 2,by go_num,by omega,by go_num,hnx,hr2,by rw [HS.out,if_neg HOD.out,List.append_nil];exact hown,hbr⟩
    case measure=>(simp [intOf];try omega)
  ·obtain rfl:k=32:=by omega
   have hI:¬ (((32:Nat):Int) < 32):=by decide
   rw [show ((32:Nat):Int)=32 from rfl];go_wp2;go_ret;exact ⟨_,rfl,RdAt.own hown,hbr⟩
set_option maxHeartbeats 800000 in
theorem has_any (xs:List Int) (k:Int) (v:Value) (w:World) (hv:IntsAt w v xs) (hl:xs.length≤1000) :
  Calls Tryz.prog 37 #[v,.int .i64 k] w fun e w'=>e=.returned (.bool (decide (k∈xs)))∧Below w.heap.size w w':=by
 obtain ⟨a,c,rfl,hc,hr⟩:=RdAt.shape hv;have HR:=Lib.hid hr;clear hr hv
 go_enter Tryz.func37,Tryz.ntmps37
 go_wp2
 go_loopw [5] (fun i wr=>∃ j:Nat,i=.int .i64 j∧j≤xs.length∧Hid (k ∉ xs.take j)∧Below w.heap.size w wr) (fun i _=>xs.length - (intOf i).toNat)
 case atStart=>exact ⟨0,rfl,Nat.zero_le _,Lib.hid (by simp),Below.refl _ _⟩
 case round =>
  obtain ⟨j,rfl,hj,HN,hbr⟩:=hrel
  by_cases hjl:j < xs.length
  ·obtain ⟨b,o,rfl,hb,hcell⟩:=HR.out (by omega)
   obtain ⟨x,hx⟩:∃ x,xs[j]=x:=⟨_,rfl⟩;have hc0:wr.cell? ⟨b,o+j,none⟩=some (.int .i64 x):=kCq (hcell j _ (by rw [List.getElem?_map,List.getElem?_eq_getElem hjl,hx];rfl)) hbr hb;have HX:=Lib.hid hx;clear hcell hx
   by_cases hxk:x=k
   ·subst hxk
    go_wp2;go_ret;exact ⟨by rw [decide_eq_true (by rw [← HX.out];exact List.getElem_mem hjl)];rfl,hbr⟩
   ·have hz:(x==k)=false:=by rw [beq_eq_false_iff_ne];exact hxk
    go_wp2;go_roundw
    case rel=>exact ⟨j+1,by go_num,by omega,Lib.hid (by
     rw [List.take_succ_eq_append_getElem hjl,List.mem_append,HX.out]
     rintro (h | h)
     ·exact HN.out h
     ·exact hxk (List.mem_singleton.1 h).symm),hbr⟩
    case measure=>(simp [intOf];try omega)
  ·obtain rfl:j=xs.length:=by omega
   have hn:=HN.out;rw [List.take_length] at hn;go_wp2;go_ret;exact ⟨by rw [decide_eq_false hn];rfl,hbr⟩
theorem flowsL_eq (l:Int) (c:Nat) (m:Int) (d:Nat):flowsL l c m d=(subB c d&&(rightL l&&rightL m&&decide (l≤m))):=by
 unfold flowsL
 cases subB c d <;> simp
theorem sub_not {c d k:Nat} (hk:k∈teamsN c 32) (hn:k ∉ teamsN d 32):subB c d=false:=by
 rw [Bool.eq_false_iff];intro h;exact hn (sub_iff.1 h k hk)
set_option maxHeartbeats 1600000 in
set_option maxRecDepth 100000 in
theorem rflows_any (l:Int) (c:Nat) (m:Int) (d:Nat) (w:World) (hc:c < 4294967296) (hd:d < 4294967296) :
  Calls Tryz.prog 19 #[Lab l c,Lab m d] w fun e w'=>e=.returned (.bool (flowsL l c m d))∧Below w.heap.size w w':=by
 have k1:=fun W=>teams_any l c W hc;have k2:=fun W=>teams_any m d W hd;have k3:=rright_any l c;have k4:=rright_any m d
 go_enter Tryz.func19,Tryz.ntmps19
 go_wp2_with fail
 refine (k1 _).mono ?_;rintro e w1 ⟨v1,rfl,hi1,hb1⟩;obtain ⟨x0,x1,y0,y1,hlt,hB⟩:=box22 hb1;obtain ⟨a,ac,rfl,hac,har⟩:=RdAt.shape hi1;have HI:=Lib.hid hi1;have HAR:=Lib.hid har;have hlen:(teamsI c 32).length≤32:=teamsI_len c 32;have HL:=Lib.hid hlt;clear hb1 k1 har hi1 hlt;go_wp2
 go_loopw [6] (fun i wr=>∃ k:Nat,i=.int .i64 k∧k≤(teamsI c 32).length∧Hid (∀ j (h:j < (teamsI c 32).length),j < k→(teamsI c 32)[j]∈teamsI d 32)∧Below w1.heap.size w1 wr) (fun i _=>(teamsI c 32).length - (intOf i).toNat)
 case atStart=>exact ⟨0,rfl,Nat.zero_le _,Lib.hid (fun j h hj=>absurd hj (Nat.not_lt_zero _)),Below.refl _ _⟩
 case round =>
  obtain ⟨k,rfl,hk,HA,hbr⟩:=hrel;have HBr:=Lib.hid (hB.trans (hbr.mono hB.size));have X0:=kCq x0 hbr (by have:=HL.out;omega);have X1:=kCq x1 hbr (by have:=HL.out;omega);have Y0:=kCq y0 hbr HL.out;have Y1:=kCq y1 hbr HL.out
  by_cases hkl:k < (teamsI c 32).length
  ·obtain ⟨b,o,rfl,hb,hcell⟩:=HAR.out (by omega)
   obtain ⟨x,hx⟩:∃ x,(teamsI c 32)[k]=x:=⟨_,rfl⟩;have hcr:wr.cell? ⟨b,o+k,none⟩=some (.int .i64 x):=kCq (hcell k _ (by rw [List.getElem?_map,List.getElem?_eq_getElem hkl,hx];rfl)) hbr hb;have HX:=Lib.hid hx;obtain ⟨q,hq⟩:∃ q,decide (x∈teamsI d 32)=q:=⟨_,rfl⟩
   have k5:∀ W v,IntsAt W v (teamsI d 32)→Calls Tryz.prog 37 #[v,.int .i64 x] W fun e w'=>e=.returned (.bool q)∧Below W.heap.size W w':=fun W v h=>by
    have:=has_any (teamsI d 32) x v W h (by have:=teamsI_len d 32;omega)
    rw [hq] at this;exact this
   have HQ:=Lib.hid hq;have hYl:w.heap.size+1 < wr.heap.size:=Nat.lt_of_lt_of_le HL.out hbr.size;have hbl:b < wr.heap.size:=Nat.lt_of_lt_of_le hb hbr.size;have HBR:=Lib.hid hbr;clear hcell hx x0 x1 X0 X1 y0 y1 hq hbr hB;go_upto_region 5 with fail;refine wp_region_held_drew (S:=(fun W=>W.cell? ⟨w.heap.size+1,0,none⟩=some (.int .i64 m)∧W.cell? ⟨w.heap.size+1,1,none⟩=some (.int .u32 d)∧W.cell? ⟨b,o+k,none⟩=some (.int .i64 x))) (by kernel_rfl) ⟨Y0,Y1,hcr⟩ (fun hHeld=>?_);refine plIn [0,2,3,4,5] ?_
   iterate 5
    refine hP (v:=?_) rfl rfl hHeld ?_ ?_;rotate_left
    ·rintro wh ⟨z0,z1,z2⟩
     go_simp
     (try with_reducible rfl)
    simp only [Act.put,aS1,aS2,aS3]
   refine plOut ?_;refine held_call (i:=1) rfl (by kernel_rfl) (by rfl) (fun K hK=>?_)
   (go_simp;go_at_call 36;refine (k2 _).mono ?_;rintro e w3 ⟨v3,rfl,hi3,hb3⟩;have hb3':Below wr.heap.size wr w3:=((Below.refl _ wr).drew).trans hb3;obtain ⟨a3,c3,rfl,_,_⟩:=RdAt.shape hi3)
   refine hK.out _ _ ⟨kCq Y0 hb3' hYl,kCq Y1 hb3' hYl,kCq hcr hb3' hbl⟩ (fun hHeld=>?_);clear hK K
   (try simp only [Act.put,aS1,aS2,aS3])
   refine held_call (i:=6) rfl (by kernel_rfl) (by rfl) (fun K hK=>?_)
   (go_simp;go_at_call 37;refine (k5 _ _ hi3).mono ?_;rintro e w4 ⟨rfl,hb4⟩;have hb34:=hb3'.trans (hb4.mono hb3'.size))
   refine hK.out _ _ ⟨kCq Y0 hb34 hYl,kCq Y1 hb34 hYl,kCq hcr hb34 hbl⟩ (fun hHeld=>?_);clear hK K
   (try simp only [Act.put,aS1,aS2,aS3])
   refine hT (i:=7) (v:=?_) rfl rfl hHeld ?_ ?_;rotate_left
   ·rintro wh ⟨z0,z1,z2⟩
    go_simp
    (try with_reducible rfl)
   simp only [Act.put,aS1,aS2,aS3];refine wpAnyH_done (by kernel_rfl) ?_ _;have hB4:=HBR.out.trans (hb34.mono HBR.out.size)
   cases q
   ·have hn:x ∉ teamsI d 32:=of_decide_eq_false HQ.out
    have hf:flowsL l c m d=false:=by
     have hm:=List.getElem_mem hkl;rw [HX.out] at hm;unfold teamsI at hm;obtain ⟨t,ht,rfl⟩:=List.mem_map.1 hm;rw [flowsL_eq,sub_not ht (fun h=>hn (mem_teamsI.2 h))];rfl
    have HF:=Lib.hid hf;clear hf hn;go_wp2;go_ret;exact ⟨by rw [HF.out];rfl,HBr.out.trans (hb34.mono HBr.out.size)⟩
   ·go_wp2
    go_roundw
    case rel=>exact ⟨k+1,by go_num,by omega,Lib.hid (fun j h hj=>by
     rcases Nat.lt_or_ge j k with h' | h'
     ·exact HA.out j h h'
     ·have:j=k:=by omega
      subst this;rw [HX.out];exact of_decide_eq_true HQ.out),hB4⟩
    case measure=>(simp [intOf];try omega)
  ·obtain rfl:k=(teamsI c 32).length:=by omega
   have hsub:subB c d=true:=sub_iff.2 (fun t ht=>by
    have hm:=mem_teamsI.2 ht;obtain ⟨j,hj,hjt⟩:=List.getElem_of_mem hm
    have:=HA.out j hj hj
    rw [hjt] at this;exact mem_teamsI.1 this)
   have HF:Hid (flowsL l c m d=(rightL l&&rightL m&&decide (l≤m))):=by show _=_;rw [flowsL_eq,hsub,Bool.true_and]
   have hYl:w.heap.size+1 < wr.heap.size:=Nat.lt_of_lt_of_le HL.out hbr.size;clear hsub HA k2 x0 x1 y0 y1 hB hbr
   cases h1:rightL l
   ·rw [h1] at k3 HF
    clear h1;go_wp2_with fail
    refine (k3 _).mono ?_;rintro e w5 ⟨rfl,hb5⟩;go_wp2;go_ret;exact ⟨by rw [HF.out];rfl,HBr.out.trans (hb5.mono HBr.out.size)⟩
   ·rw [h1] at k3 HF
    clear h1
    cases h2:rightL m
    ·rw [h2] at k4 HF
     clear h2;go_wp2_with fail
     refine (k3 _).mono ?_;rintro e w5 ⟨rfl,hb5⟩;have y0:=kCq Y0 hb5 hYl;have y1:=kCq Y1 hb5 hYl;clear Y0 Y1 X0 X1 k3;go_wp2_with fail
     refine (k4 _).mono ?_;rintro e w6 ⟨rfl,hb6⟩;have HB6:=Lib.hid (HBr.out.trans ((hb5.trans (hb6.mono hb5.size)).mono HBr.out.size));clear hb5 hb6 y0 y1 k4;go_wp2;go_ret;exact ⟨by rw [HF.out];rfl,HB6.out⟩
    ·rw [h2] at k4 HF
     clear h2;obtain ⟨q,hq⟩:∃ q,decide (l≤m)=q:=⟨_,rfl⟩;have HF2:Hid (flowsL l c m d=q):=by show _=_;rw [HF.out,hq];simp
     clear HF;go_wp2_with fail
     refine (k3 _).mono ?_;rintro e w5 ⟨rfl,hb5⟩;have z0:=kCq X0 hb5 (by omega);have z1:=kCq X1 hb5 (by omega);have y0:=kCq Y0 hb5 hYl;have y1:=kCq Y1 hb5 hYl;have hl5:=Nat.lt_of_lt_of_le hYl hb5.size;clear Y0 Y1 X0 X1 k3;go_wp2_with fail
     refine (k4 _).mono ?_;rintro e w6 ⟨rfl,hb6⟩;have HB6:=Lib.hid (HBr.out.trans ((hb5.trans (hb6.mono hb5.size)).mono HBr.out.size));have z0':=kCq z0 hb6 (by omega);have z1':=kCq z1 hb6 (by omega);have y0':=kCq y0 hb6 hl5;have y1':=kCq y1 hb6 hl5;clear hb5 hb6 y0 y1 k4 z0 z1;go_wp2;go_ret
     exact ⟨by rw [HF2.out];first | rfl | (rw [hq];rfl) | (simp [hq]),HB6.out⟩
theorem idx_find {α:Type} (p:α→Bool) (x:α):∀ (l:List α) (i:Nat),
  (∃ k,∃ h:k < l.length,Lib.idxByFrom (fun _ y=>p y) x l i=((i+k:Nat):Int)∧l.find? p=some l[k]∧p l[k]=true∧∀ j (hj:j < l.length),j < k→p l[j]=false) ∨
  (Lib.idxByFrom (fun _ y=>p y) x l i=-1∧l.find? p=none∧∀ j (hj:j < l.length),p l[j]=false)
 | [],i=>.inr ⟨rfl,rfl,fun j hj=>absurd hj (Nat.not_lt_zero _)⟩
 | y :: r,i=>by
  by_cases h:p y=true
  ·exact .inl ⟨0,Nat.succ_pos _,by simp [Lib.idxByFrom,h],by simp [h],by simpa using h,fun j _ hj=>absurd hj (Nat.not_lt_zero _)⟩
  ·have h':p y=false:=by simpa using h
   rcases idx_find p x r (i+1) with ⟨k,hk,h1,h2,h3,h4⟩ | ⟨h1,h2,h3⟩
   ·refine .inl ⟨k+1,by simpa using hk,?_,by simp [h',h2],by simpa using h3,fun j hj hjk=>?_⟩
    ·simp only [Lib.idxByFrom,h']
     rw [show (if false=true then (i:Int) else Lib.idxByFrom (fun _ y=>p y) x r (i+1))=Lib.idxByFrom (fun _ y=>p y) x r (i+1) from rfl,h1]
     congr 1;omega
    ·cases j with
     | zero=>simpa using h'
     | succ j=>simpa using h4 j (by simpa using hj) (by omega)
   ·refine .inr ⟨?_,by simp [h',h2],fun j hj=>?_⟩
    ·simp only [Lib.idxByFrom,h']
     rw [show (if false=true then (i:Int) else Lib.idxByFrom (fun _ y=>p y) x r (i+1))=Lib.idxByFrom (fun _ y=>p y) x r (i+1) from rfl,h1]
    ·cases j with
     | zero=>simpa using h'
     | succ j=>simpa using h3 j (by simpa using hj)
abbrev Nmd:=ByteArray × Int × Nat
def nmdC (x:Nmd):List Value:=[.string x.1,.int .i64 x.2.1,.int .u32 x.2.2]
def nmdCells:List Nmd→List Value
 | []=>[]
 | x :: l=>nmdC x ++ nmdCells l
theorem nmdCells_at:∀ (l:List Nmd) (j:Nat) (h:j < l.length) (i:Nat) (v:Value),(nmdC l[j])[i]?=some v→(nmdCells l)[j * 3+i]?=some v
 | x :: l,0,_,i,v,hi=>by
  have hlt:=(List.getElem?_eq_some_iff.1 hi).1;simp only [nmdCells];rw [List.getElem?_append_left (by simpa using hlt)]
  simpa using hi
 | x :: l,j+1,h,i,v,hi=>by
  simp only [nmdCells];rw [List.getElem?_append_right (by simp [nmdC];omega)]
  have:=nmdCells_at l j (by simpa using h) i v (by simpa using hi)
  rw [show (j+1) * 3+i - (nmdC x).length=j * 3+i by simp [nmdC];omega];exact this
def NmdsAt (w:World) (v:Value) (l:List Nmd):Prop:=RdAt w v l.length 3 (nmdCells l)
theorem NmdsAt.later {w w':World} {v:Value} {l:List Nmd} (h:NmdsAt w v l) (hb:Below w.heap.size w w'):NmdsAt w' v l:=RdAt.later h hb
def findL (l:List Nmd) (n:ByteArray):Option Nmd:=l.find? fun x=>decide (x.1=n)
def findV (o:Option Nmd):Value:=match o with
 | some x=>Lab x.2.1 x.2.2
 | none=>Lab 0 0
def orN (c d:Nat):Nat:=(BitVec.ofNat 32 c ||| BitVec.ofNat 32 d).toNat
def joinL (a b:Int × Nat):Int × Nat:=if rightL a.1&&rightL b.1 then (max a.1 b.1,orN a.2 b.2) else (7,4294967295)
abbrev LabP (p:Int × Nat):Value:=Lab p.1 p.2
def raisedL (rs:List Nmd) (nm:ByteArray) (l:Int × Nat):Int × Nat:=match findL rs nm with
 | some r=>joinL l r.2
 | none=>l
abbrev SV (s:Option Addr × Nat × Nat):Value:=.slice s.1 s.2.1 s.2.2
theorem cell_lt {w:World} {b o:Nat} {v:Value} (h:w.cell? ⟨b,o,none⟩=some v):b < w.heap.size:=by
 by_cases hb:b < w.heap.size
 ·exact hb
 ·have:w.heap[b]?=none:=Array.getElem?_eq_none_iff.2 (by omega)
  simp [World.cell?,this] at h
theorem find1_any (s:ByteArray) (l:Int) (c b:Nat) (n:ByteArray) (w:World) (hn:w.cell? ⟨b,0,none⟩=some (.string n)) :
  Calls Tryz.prog 80 #[.agg #[.string s,.int .i64 l,.int .u32 c],.pointer (some ⟨b,0,none⟩)] w fun e w'=>e=.returned (.bool (decide (s=n)))∧Below w.heap.size w w':=by
 have hlt:=cell_lt hn;have h1:=kCq hn (aBq w (.cells #[.string s,.int .i64 l,.int .u32 c] 120)) hlt
 go_enter Tryz.func80,Tryz.ntmps80
 go_wp2;go_ret;exact ⟨by simp [bytes_beq],aBq _ _⟩
theorem idxn_nil (a:Option Addr) (c:Nat) (f:Value) (w:World) :
  Calls Tryz.prog 79 #[.slice a 0 c,f] w fun e w'=>e=.returned (.int .i64 (-1))∧w'=w:=by
 go_enter Tryz.func79,Tryz.ntmps79
 go_wp2;refine wp_loop_rounds 1 ?_;rw [rounds_succ];go_wp2;go_ret;exact ⟨rfl,rfl⟩
theorem idxn_any (l:List Nmd) (n:ByteArray) (v:Value) (b:Nat) (w:World) (hv:NmdsAt w v l) (hl:l.length≤maxLen) (hn:w.cell? ⟨b,0,none⟩=some (.string n)) :
  Calls Tryz.prog 79 #[v,.func (.func 80) #[] #[.pointer (some ⟨b,0,none⟩)]] w fun e w' =>
   e=.returned (.int .i64 (Lib.idxByFrom (fun _ (y:Nmd)=>decide (y.1=n)) default l 0))∧Below w.heap.size w w':=by
 obtain ⟨a,c,rfl,hc,hr⟩:=RdAt.shape hv
 rcases Nat.eq_zero_or_pos l.length with h0 | h0
 ·have hnil:l=[]:=List.length_eq_zero_iff.1 h0
  subst hnil;refine (idxn_nil _ _ _ _).mono ?_;rintro e w' ⟨rfl,rfl⟩;exact ⟨rfl,Below.refl _ _⟩
 ·obtain ⟨g,o,rfl,hg,hcell⟩:=hr h0
  have hlt:=cell_lt hn
  have hp:PredBelow Tryz.prog 80 #[.pointer (some ⟨b,0,none⟩)] (fun x:Nmd=>.agg (nmdC x).toArray) (fun y=>decide (y.1=n)) w:=fun W x hW=>by
   refine Calls.mono (find1_any x.1 x.2.1 x.2.2 b n W (kCq hn hW hlt)) ?_;rintro e w' ⟨rfl,hb⟩;exact ⟨rfl,hW.trans (hb.mono hW.size)⟩
  have h:=AnyQ.slices_IndexFunc (α:=Nmd) Tryz.laysIdxN 3 Tryz.isAgg120 Tryz.sizeOf120 nmdC (fun _=>rfl) (fun y=>decide (y.1=n)) 80 #[.pointer (some ⟨b,0,none⟩)]
   (enters_of Tryz.func80 (by kernel_rfl) rfl) g o l.length c l w hp (Nat.le_refl _) (by unfold maxLen at hl;omega) hg (fun j hj i x hx=>by
    have:=hcell (j * 3+i) x (nmdCells_at l j hj i x (by rw [List.getElem!_eq_getElem?_getD,List.getElem?_eq_getElem hj] at hx;exact hx))
    rw [show o+j * 3+i=o+(j * 3+i) by omega];exact this)
  rw [List.take_length] at h;exact h
set_option maxHeartbeats 800000 in
set_option maxRecDepth 100000 in
theorem find_any (l:List Nmd) (nm:ByteArray) (v:Value) (w:World) (hv:NmdsAt w v l) (hl:l.length≤maxLen) :
  Calls Tryz.prog 52 #[v,.string nm] w fun e w'=>e=.returned (.tuple #[findV (findL l nm),.bool (findL l nm).isSome])∧Below w.heap.size w w':=by
 have k1:=fun W (hb:Below w.heap.size w W)=>idxn_any l nm v w.heap.size W (hv.later hb) hl;obtain ⟨a,c,rfl,hc,hr⟩:=RdAt.shape hv;have HR:=Lib.hid hr;have K1:=Lib.hid k1;clear hr k1 hv
 rcases idx_find (fun x:Nmd=>decide (x.1=nm)) default l 0 with ⟨k,hk,h1,h2,_,_⟩ | ⟨h1,h2,_⟩
 ·rw [Nat.zero_add] at h1
  rw [h1] at K1;have hF:findL l nm=some l[k]:=h2;obtain ⟨b,o,rfl,hb,hcell⟩:=HR.out (by omega);have HC:=Lib.hid (nmdCells_at l k hk);have HCC:=Lib.hid hcell;have hk63:k < 9223372036854775807:=by unfold maxLen at hl;omega
  rw [hF];have q:((k:Int) < 0)=False:=by simp
  obtain ⟨x,hx⟩:∃ x,l[k]=x:=⟨_,rfl⟩;rw [hx] at HC ⊢;clear hF h2 h1 HR hx hcell;have hB0:Below w.heap.size w ((w.alloc (.cells #[.string nm] 9)).alloc (.cells #[.int .i64 0,.int .u32 0] 36)):=(aBq _ _).trans ((aBq _ _).mono (by simp))
  have hn0:((w.alloc (.cells #[.string nm] 9)).alloc (.cells #[.int .i64 0,.int .u32 0] 36)).cell? ⟨w.heap.size,0,none⟩=some (.string nm) :=
   kCq (World.cell?_alloc_at _ _ _ _ rfl) (aBq _ _) (by simp)
  have k1:=K1.out _ hB0 hn0;clear hn0 K1
  go_enter Tryz.func52,Tryz.ntmps52
  go_wp2_with fail
  refine k1.mono ?_;rintro e w1 ⟨rfl,hb1⟩;obtain ⟨x0,x1,hlt1,hB1⟩:=box_two hb1;have hc1:w1.cell? ⟨b,o+k * 3+1,none⟩=some (.int .i64 x.2.1):=kCq (by have:=HCC.out _ _ (HC.out 1 _ rfl);rwa [← Nat.add_assoc] at this) hB1 hb;have hc2:w1.cell? ⟨b,o+k * 3+2,none⟩=some (.int .u32 x.2.2):=kCq (by have:=HCC.out _ _ (HC.out 2 _ rfl);rwa [← Nat.add_assoc] at this) hB1 hb;have y0:w1.cell? ⟨w.heap.size+1,0,none⟩=some (.int .i64 0):=x1 0 _ rfl;have y1:w1.cell? ⟨w.heap.size+1,1,none⟩=some (.int .u32 0):=x1 1 _ rfl;have hT:=box_there hb1;rw [World.size_alloc] at hT;have f0:=tFq hT 0 (by decide);have f1:=tFq hT 1 (by decide);have HT:=Lib.hid hT;clear x0 x1 k1 hB0 HC HCC hb1 hT;go_wp2;refine bodyPost_ret (results_agg2 rfl _ _ (w.heap.size+1) [.int .i64 x.2.1,.int .u32 x.2.2] (.struct _) rfl (World.rangeAt_setCells_same w1 (w.heap.size+1) 0 [.int .i64 x.2.1,.int .u32 x.2.2] HT.out) Tryz.underlying36 rfl (by kernel_rfl)) rfl ?_;exact ⟨rfl,below_put (below_put hB1 (by omega)) (by omega)⟩
 ·rw [h1] at K1
  have hF:findL l nm=none:=h2;rw [hF];have hB0:Below w.heap.size w ((w.alloc (.cells #[.string nm] 9)).alloc (.cells #[.int .i64 0,.int .u32 0] 36)):=(aBq _ _).trans ((aBq _ _).mono (by simp))
  have hn0:((w.alloc (.cells #[.string nm] 9)).alloc (.cells #[.int .i64 0,.int .u32 0] 36)).cell? ⟨w.heap.size,0,none⟩=some (.string nm) :=
   kCq (World.cell?_alloc_at _ _ _ _ rfl) (aBq _ _) (by simp)
  have k1:=K1.out _ hB0 hn0;clear hn0 K1 h1 h2 hF HR
  go_enter Tryz.func52,Tryz.ntmps52
  go_wp2_with fail
  refine k1.mono ?_;rintro e w1 ⟨rfl,hb1⟩;obtain ⟨x0,x1,hlt1,hB1⟩:=box_two hb1;have y0:w1.cell? ⟨w.heap.size+1,0,none⟩=some (.int .i64 0):=x1 0 _ rfl;have y1:w1.cell? ⟨w.heap.size+1,1,none⟩=some (.int .u32 0):=x1 1 _ rfl;have hT:=box_there hb1;rw [World.size_alloc] at hT;have f0:=tFq hT 0 (by decide);have f1:=tFq hT 1 (by decide);have HT:=Lib.hid hT;clear x0 x1 k1 hB0 hb1 hT;go_wp2;refine bodyPost_ret (results_agg2 rfl _ _ (w.heap.size+1) [.int .i64 0,.int .u32 0] (.struct _) rfl (World.rangeAt_setCells_same w1 (w.heap.size+1) 0 [.int .i64 0,.int .u32 0] HT.out) Tryz.underlying36 rfl (by kernel_rfl)) rfl ?_;exact ⟨rfl,below_put (below_put hB1 (by omega)) (by omega)⟩
theorem bits_or (c d:Nat):bits BinOp.or IntKind.u32 (c:Int) (d:Int)=(orN c d:Int):=by
 show IntKind.u32.wrap ((BitVec.ofInt 32 (c:Int) ||| BitVec.ofInt 32 (d:Int)).toNat:Int)=_;rw [BitVec.ofInt_natCast,BitVec.ofInt_natCast,IntKind.wrap_u32'];unfold orN
 have:=(BitVec.ofNat 32 c ||| BitVec.ofNat 32 d).isLt
 omega
theorem box222 {w W:World} {x y x' y' x2 y2:Value} {t u s:TypeId} (hb:Below (((w.alloc (.cells #[x,y] t)).alloc (.cells #[x',y'] u)).alloc (.cells #[x2,y2] s)).heap.size (((w.alloc (.cells #[x,y] t)).alloc (.cells #[x',y'] u)).alloc (.cells #[x2,y2] s)) W) :
  (W.cell? ⟨w.heap.size,0,none⟩=some x∧W.cell? ⟨w.heap.size,1,none⟩=some y∧W.cell? ⟨w.heap.size+1,0,none⟩=some x'∧W.cell? ⟨w.heap.size+1,1,none⟩=some y') ∧
  (W.cell? ⟨w.heap.size+1+1,0,none⟩=some x2∧W.cell? ⟨w.heap.size+1+1,1,none⟩=some y2∧W.there (w.heap.size+1+1) 0 2)∧w.heap.size+1+1 < W.heap.size∧Below w.heap.size w W:=by
 obtain ⟨h1,h2,h3⟩:=box_cells hb;have hT:=box_there hb;obtain ⟨a,b,c,d,e,f⟩:=box22 h3;simp only [World.size_alloc] at h1 h2 hT;exact ⟨⟨a,b,c,d⟩,⟨h1 0 _ rfl,h1 1 _ rfl,hT⟩,h2,f⟩
set_option maxHeartbeats 800000 in
theorem join_any (l:Int) (c:Nat) (m:Int) (d:Nat) (w:World) :
  Calls Tryz.prog 100 #[Lab l c,Lab m d] w fun e w'=>e=.returned (LabP (joinL (l,c) (m,d)))∧Below w.heap.size w w':=by
 have k1:=right_any l c;have k2:=right_any m d
 cases h1:rightL l
 ·rw [h1] at k1
  have HF:Hid (joinL (l,c) (m,d)=(7,4294967295)):=by show _=_;unfold joinL;simp [h1]
  clear h1
  go_enter Tryz.func100,Tryz.ntmps100
  go_wp2_with fail
  refine (k1 _).mono ?_;rintro e w1 ⟨rfl,hb1⟩;obtain ⟨⟨x0,x1,y0,y1⟩,⟨z0,z1,hT⟩,hlt,hB1⟩:=box222 hb1;have f0:=tFq hT 0 (by decide);have f1:=tFq hT 1 (by decide);have HT:=Lib.hid hT;clear hb1 hT k1 k2;go_wp2;refine bodyPost_ret (results_agg1 rfl _ _ (w.heap.size+1+1) [.int .i64 7,.int .u32 4294967295] (.struct _) rfl (World.rangeAt_setCells_same w1 (w.heap.size+1+1) 0 [.int .i64 7,.int .u32 4294967295] HT.out) Tryz.underlying36 rfl (by kernel_rfl)) rfl ?_;exact ⟨by rw [HF.out];rfl,below_put (below_put hB1 (by omega)) (by omega)⟩
 ·rw [h1] at k1
  cases h2:rightL m
  ·rw [h2] at k2
   have HF:Hid (joinL (l,c) (m,d)=(7,4294967295)):=by show _=_;unfold joinL;simp [h2]
   clear h1 h2
   go_enter Tryz.func100,Tryz.ntmps100
   go_wp2_with fail
   refine (k1 _).mono ?_;rintro e w1 ⟨rfl,hb1⟩;obtain ⟨⟨x0,x1,y0,y1⟩,⟨z0,z1,hT⟩,hlt,hB1⟩:=box222 hb1;clear hb1 k1;go_wp2_with fail
   refine (k2 _).mono ?_;rintro e w2 ⟨rfl,hb2⟩;have z0':=kCq z0 hb2 (by omega);have z1':=kCq z1 hb2 (by omega);have hT2:=there_later hT hb2 (by omega);have f0:=tFq hT2 0 (by decide);have f1:=tFq hT2 1 (by decide);have HT:=Lib.hid hT2;have hB2:=hB1.trans (hb2.mono hB1.size);clear hT hT2 x0 x1 y0 y1 z0 z1 hb2 hB1 k2;go_wp2;refine bodyPost_ret (results_agg1 rfl _ _ (w.heap.size+1+1) [.int .i64 7,.int .u32 4294967295] (.struct _) rfl (World.rangeAt_setCells_same w2 (w.heap.size+1+1) 0 [.int .i64 7,.int .u32 4294967295] HT.out) Tryz.underlying36 rfl (by kernel_rfl)) rfl ?_;exact ⟨by rw [HF.out];rfl,below_put (below_put hB2 (by omega)) (by omega)⟩
  ·rw [h2] at k2
   have HF:Hid (joinL (l,c) (m,d)=(max l m,orN c d)):=by show _=_;unfold joinL;simp [h1,h2]
   clear h1 h2;have q:=bits_or c d
   go_enter Tryz.func100,Tryz.ntmps100
   go_wp2_with fail
   refine (k1 _).mono ?_;rintro e w1 ⟨rfl,hb1⟩;obtain ⟨⟨x0,x1,y0,y1⟩,⟨z0,z1,hT⟩,hlt,hB1⟩:=box222 hb1;clear hb1 k1;go_wp2_with fail
   refine (k2 _).mono ?_;rintro e w2 ⟨rfl,hb2⟩;have x0':=kCq x0 hb2 (by omega);have x1':=kCq x1 hb2 (by omega);have y0':=kCq y0 hb2 (by omega);have y1':=kCq y1 hb2 (by omega);have z0':=kCq z0 hb2 (by omega);have z1':=kCq z1 hb2 (by omega);have hT2:=there_later hT hb2 (by omega);have f0:=tFq hT2 0 (by decide);have f1:=tFq hT2 1 (by decide);have HT:=Lib.hid hT2;have hB2:=hB1.trans (hb2.mono hB1.size);clear hT hT2 x0 x1 y0 y1 z0 z1 hb2 hB1 k2;go_wp2;refine bodyPost_ret (results_agg1 rfl _ _ (w.heap.size+1+1) [.int .i64 (max l m),.int .u32 (orN c d)] (.struct _) rfl (World.rangeAt_setCells_same w2 (w.heap.size+1+1) 0 [.int .i64 (max l m),.int .u32 (orN c d)] HT.out) Tryz.underlying36 rfl (by kernel_rfl)) rfl ?_;exact ⟨by rw [HF.out],below_put (below_put hB2 (by omega)) (by omega)⟩
theorem box622 {w W:World} {a b c d e f x y x' y':Value} {t u s:TypeId} (hb:Below (((w.alloc (.cells #[a,b,c,d,e,f] t)).alloc (.cells #[x,y] u)).alloc (.cells #[x',y'] s)).heap.size (((w.alloc (.cells #[a,b,c,d,e,f] t)).alloc (.cells #[x,y] u)).alloc (.cells #[x',y'] s)) W) :
  (W.cell? ⟨w.heap.size+1,0,none⟩=some x∧W.cell? ⟨w.heap.size+1,1,none⟩=some y) ∧
  (W.cell? ⟨w.heap.size+1+1,0,none⟩=some x'∧W.cell? ⟨w.heap.size+1+1,1,none⟩=some y'∧W.there (w.heap.size+1+1) 0 2)∧w.heap.size+1+1 < W.heap.size∧Below w.heap.size w W:=by
 obtain ⟨h1,h2,h3⟩:=box_cells hb;have hT:=box_there hb;obtain ⟨_,b,_,d⟩:=box_two h3;simp only [World.size_alloc] at h1 h2 hT;exact ⟨⟨b 0 _ rfl,b 1 _ rfl⟩,⟨h1 0 _ rfl,h1 1 _ rfl,hT⟩,h2,d⟩
set_option maxHeartbeats 1600000 in
set_option maxRecDepth 100000 in
theorem raised_any (s0 s1 s2 s4 s5:Option Addr × Nat × Nat) (l:List Nmd) (rv:Value) (nm:ByteArray) (lv:Int) (c:Nat) (w:World) (hv:NmdsAt w rv l) (hl:l.length≤maxLen) :
  Calls Tryz.prog 74 #[.agg #[SV s0,SV s1,SV s2,rv,SV s4,SV s5],.string nm,Lab lv c] w fun e w'=>e=.returned (LabP (raisedL l nm (lv,c)))∧Below w.heap.size w w':=by
 have k1:=fun W (h:Below w.heap.size w W)=>find_any l nm rv W (hv.later h) hl;obtain ⟨ra,rc,rfl,_,_⟩:=RdAt.shape hv;clear hv;obtain ⟨a0,n0,c0⟩:=s0;obtain ⟨a1,n1,c1⟩:=s1;obtain ⟨a2,n2,c2⟩:=s2;obtain ⟨a4,n4,c4⟩:=s4;obtain ⟨a5,n5,c5⟩:=s5
 have hB0:Below w.heap.size w (((w.alloc (.cells #[.slice a0 n0 c0,.slice a1 n1 c1,.slice a2 n2 c2,.slice ra l.length rc,.slice a4 n4 c4,.slice a5 n5 c5] 26)).alloc (.cells #[.int .i64 lv,.int .u32 c] 36)).alloc (.cells #[.int .i64 0,.int .u32 0] 36)) :=
  ((aBq _ _).trans ((aBq _ _).mono (by simp))).trans ((aBq _ _).mono (by simp;omega))
 have k1:=k1 _ hB0
 cases hf:findL l nm with
 | none =>
  have HF:Hid (raisedL l nm (lv,c)=(lv,c)):=by show _=_;unfold raisedL;rw [hf]
  rw [hf] at k1;clear hf hB0
  go_enter Tryz.func74,Tryz.ntmps74
  go_wp2_with fail
  refine k1.mono ?_;rintro e w1 ⟨rfl,hb1⟩;obtain ⟨⟨x0,x1⟩,⟨z0,z1,hT⟩,hlt,hB1⟩:=box622 hb1;have ha:=aBq w1 (.cells #[.int .i64 0,.int .u32 0] 36);have x0':=kCq x0 ha (by omega);have x1':=kCq x1 ha (by omega);have z0':=kCq z0 ha (by omega);have z1':=kCq z1 ha (by omega);have hT2:=there_later hT ha (by omega);have f0:=tFq hT2 0 (by decide);have f1:=tFq hT2 1 (by decide);have HT:=Lib.hid hT2;have hB2:=Lib.hid (hB1.trans (ha.mono hB1.size));clear hb1 hT k1 ha x0 x1 z0 z1 hT2 hB1;simp only [findV,Option.isSome];go_upto_region 2 with fail;change Code.wp _ _ _ _ (w1.alloc (.cells #[.int .i64 0,.int .u32 0] 36));generalize w1.alloc (.cells #[.int .i64 0,.int .u32 0] 36)=w2 at *;go_wp2;refine bodyPost_ret (results_agg1 rfl _ _ (w.heap.size+1+1) [.int .i64 lv,.int .u32 c] (.struct _) rfl (World.rangeAt_setCells_same _ (w.heap.size+1+1) 0 [.int .i64 lv,.int .u32 c] HT.out) Tryz.underlying36 rfl (by kernel_rfl)) rfl ?_;exact ⟨by rw [HF.out],below_put (below_put hB2.out (by omega)) (by omega)⟩
 | some r =>
  have HF:Hid (raisedL l nm (lv,c)=joinL (lv,c) r.2):=by show _=_;unfold raisedL;rw [hf]
  rw [hf] at k1;obtain ⟨rn,rl,rcat⟩:=r
  have k2:=join_any lv c rl rcat
  obtain ⟨jl,hjl⟩:∃ z,joinL (lv,c) (rl,rcat)=z:=⟨_,rfl⟩;obtain ⟨j1,j2⟩:=jl;simp only [hjl] at k2;rw [show (rn,rl,rcat).2=(rl,rcat) from rfl,hjl] at HF;clear hf hB0 hjl
  go_enter Tryz.func74,Tryz.ntmps74
  go_wp2_with fail
  refine k1.mono ?_;rintro e w1 ⟨rfl,hb1⟩;obtain ⟨⟨x0,x1⟩,⟨z0,z1,hT⟩,hlt,hB1⟩:=box622 hb1;have ha:=aBq w1 (.cells #[.int .i64 rl,.int .u32 rcat] 36);have x0':=kCq x0 ha (by omega);have x1':=kCq x1 ha (by omega);have z0':=kCq z0 ha (by omega);have z1':=kCq z1 ha (by omega);have hT2:=there_later hT ha (by omega);have HT:=Lib.hid hT2;have hB2:=Lib.hid (hB1.trans (ha.mono hB1.size));have hlt2:w.heap.size+1+1 < (w1.alloc (.cells #[.int .i64 rl,.int .u32 rcat] 36)).heap.size:=by rw [World.size_alloc];omega
  have HL2:=Lib.hid hlt2;clear hb1 hT k1 ha x0 x1 z0 z1 hT2 hB1 hlt2;simp only [findV,Option.isSome];go_upto_region 2 with fail;change Code.wp _ _ _ _ (w1.alloc (.cells #[.int .i64 rl,.int .u32 rcat] 36));have y0:(w1.alloc (.cells #[.int .i64 rl,.int .u32 rcat] 36)).cell? ⟨w1.heap.size,0,none⟩=some (.int .i64 rl):=World.cell?_alloc_at _ _ _ _ rfl;have y1:(w1.alloc (.cells #[.int .i64 rl,.int .u32 rcat] 36)).cell? ⟨w1.heap.size,1,none⟩=some (.int .u32 rcat):=World.cell?_alloc_at _ _ _ _ rfl;generalize w1.alloc (.cells #[.int .i64 rl,.int .u32 rcat] 36)=w1' at *;go_wp2_with fail
  refine (k2 _).mono ?_;rintro e w2 ⟨rfl,hb2⟩;have z0:=kCq z0' hb2 HL2.out;have z1:=kCq z1' hb2 HL2.out;have hT3:=there_later HT.out hb2 HL2.out;have f0:=tFq hT3 0 (by decide);have f1:=tFq hT3 1 (by decide);have HT3:=Lib.hid hT3;have hB3:=Lib.hid (hB2.out.trans (hb2.mono hB2.out.size));clear x0' x1' y0 y1 z0' z1' HT HL2 hb2 hB2 hT3 k2;go_wp2;refine bodyPost_ret (results_agg1 rfl _ _ (w.heap.size+1+1) [.int .i64 j1,.int .u32 j2] (.struct _) rfl (World.rangeAt_setCells_same _ (w.heap.size+1+1) 0 [.int .i64 j1,.int .u32 j2] HT3.out) Tryz.underlying36 rfl (by kernel_rfl)) rfl ?_;exact ⟨by rw [HF.out],below_put (below_put hB3.out (by omega)) (by omega)⟩
def seesL (rs:List Nmd) (f t:Int × Nat) (x:Fld):Bool:=flowsL (raisedL rs x.1 f).1 (raisedL rs x.1 f).2 t.1 t.2
set_option maxHeartbeats 1600000 in
set_option maxRecDepth 100000 in
theorem vis1_any (s0 s1 s2 s4 s5:Option Addr × Nat × Nat) (l:List Nmd) (rv:Value) (x y:ByteArray) (bp bf bt:Nat) (fl:Int) (fc:Nat) (tl:Int) (tc:Nat) (w:World) (hv:NmdsAt w rv l) (hl:l.length≤maxLen)
  (hp:C6 bp (SV s0) (SV s1) (SV s2) rv (SV s4) (SV s5) w) (hf0:w.cell? ⟨bf,0,none⟩=some (.int .i64 fl)) (hf1:w.cell? ⟨bf,1,none⟩=some (.int .u32 fc)) (ht0:w.cell? ⟨bt,0,none⟩=some (.int .i64 tl)) (ht1:w.cell? ⟨bt,1,none⟩=some (.int .u32 tc)) :
  Calls Tryz.prog 73 #[.agg #[.string x,.string y],.pointer (some ⟨bp,0,none⟩),.pointer (some ⟨bf,0,none⟩),.pointer (some ⟨bt,0,none⟩)] w fun e w' =>
   e=.returned (.bool (!seesL l (fl,fc) (tl,tc) (x,y)))∧Below w.heap.size w w':=by
 have k1:=fun W (h:Below w.heap.size w W)=>raised_any s0 s1 s2 s4 s5 l rv x fl fc W (hv.later h) hl;obtain ⟨ra,rc,rfl,_,_⟩:=RdAt.shape hv;clear hv;obtain ⟨a0,n0,c0⟩:=s0;obtain ⟨a1,n1,c1⟩:=s1;obtain ⟨a2,n2,c2⟩:=s2;obtain ⟨a4,n4,c4⟩:=s4;obtain ⟨a5,n5,c5⟩:=s5;obtain ⟨p0,p1,p2,p3,p4,p5⟩:=hp;obtain ⟨jl,hjl⟩:∃ z,raisedL l x (fl,fc)=z:=⟨_,rfl⟩;have HF:Hid (seesL l (fl,fc) (tl,tc) (x,y)=flowsL jl.1 jl.2 tl tc):=by show _=_;unfold seesL;rw [hjl]
 rw [hjl] at k1;obtain ⟨j1,j2⟩:=jl;have k2:=flows_any j1 j2 tl tc;have hlp:=cell_lt p0;have hlf:=cell_lt hf0;have hlt:=cell_lt ht0;have hb0:=aBq w (.cells #[.string x,.string y] 90);have P0:=kCq p0 hb0 hlp;have P1:=kCq p1 hb0 hlp;have P2:=kCq p2 hb0 hlp;have P3:=kCq p3 hb0 hlp;have P4:=kCq p4 hb0 hlp;have P5:=kCq p5 hb0 hlp;have F0:=kCq hf0 hb0 hlf;have F1:=kCq hf1 hb0 hlf;have T0:=kCq ht0 hb0 hlt;have T1:=kCq ht1 hb0 hlt;have hsz:=Lib.hid hb0.size;have y0:(w.alloc (.cells #[.string x,.string y] 90)).cell? ⟨w.heap.size,0,none⟩=some (.string x):=World.cell?_alloc_at _ _ _ _ rfl;clear p0 p1 p2 p3 p4 p5 hf0 hf1 ht0 ht1 hjl
 go_enter Tryz.func73,Tryz.ntmps73
 go_upto_region 1 with fail;change Code.wp _ _ _ _ (w.alloc (.cells #[.string x,.string y] 90));generalize w.alloc (.cells #[.string x,.string y] 90)=w0 at *
 have k1:∀ W,Below w0.heap.size w0 W→Calls Tryz.prog 74 #[.agg #[.slice a0 n0 c0,.slice a1 n1 c1,.slice a2 n2 c2,.slice ra l.length rc,.slice a4 n4 c4,.slice a5 n5 c5],.string x,Lab fl fc] W fun e w'=>e=.returned (Lab j1 j2)∧Below w0.heap.size w0 w':=fun W h=>by
  refine (k1 W (hb0.trans (h.mono hb0.size))).mono ?_;rintro e w' ⟨rfl,hb⟩;exact ⟨rfl,h.trans (hb.mono h.size)⟩
 have k2:∀ W,Below w0.heap.size w0 W→Calls Tryz.prog 29 #[Lab j1 j2,Lab tl tc] W fun e w'=>e=.returned (.bool (flowsL j1 j2 tl tc))∧Below w0.heap.size w0 w':=fun W h=>by
  refine (k2 W).mono ?_;rintro e w' ⟨rfl,hb⟩;exact ⟨rfl,h.trans (hb.mono h.size)⟩
 have HB0:=Lib.hid hb0;clear hb0
 have hS:∀ W,Below w0.heap.size w0 W→(fun W=>W.cell? ⟨bp,0,none⟩=some (.slice a0 n0 c0)∧W.cell? ⟨bp,1,none⟩=some (.slice a1 n1 c1)∧W.cell? ⟨bp,2,none⟩=some (.slice a2 n2 c2)∧W.cell? ⟨bp,3,none⟩=some (.slice ra l.length rc)∧W.cell? ⟨bp,4,none⟩=some (.slice a4 n4 c4)∧W.cell? ⟨bp,5,none⟩=some (.slice a5 n5 c5)∧W.cell? ⟨bf,0,none⟩=some (.int .i64 fl)∧W.cell? ⟨bf,1,none⟩=some (.int .u32 fc)∧W.cell? ⟨bt,0,none⟩=some (.int .i64 tl)∧W.cell? ⟨bt,1,none⟩=some (.int .u32 tc)∧W.cell? ⟨w.heap.size,0,none⟩=some (.string x)) W:=fun W h=>⟨kCq P0 h (Nat.lt_of_lt_of_le hlp hsz.out),kCq P1 h (Nat.lt_of_lt_of_le hlp hsz.out),kCq P2 h (Nat.lt_of_lt_of_le hlp hsz.out),kCq P3 h (Nat.lt_of_lt_of_le hlp hsz.out),kCq P4 h (Nat.lt_of_lt_of_le hlp hsz.out),kCq P5 h (Nat.lt_of_lt_of_le hlp hsz.out),
  kCq F0 h (Nat.lt_of_lt_of_le hlf hsz.out),kCq F1 h (Nat.lt_of_lt_of_le hlf hsz.out),kCq T0 h (Nat.lt_of_lt_of_le hlt hsz.out),kCq T1 h (Nat.lt_of_lt_of_le hlt hsz.out),kCq y0 h (cell_lt y0)⟩
 refine wp_region_held_drew (S:=(fun W=>W.cell? ⟨bp,0,none⟩=some (.slice a0 n0 c0)∧W.cell? ⟨bp,1,none⟩=some (.slice a1 n1 c1)∧W.cell? ⟨bp,2,none⟩=some (.slice a2 n2 c2)∧W.cell? ⟨bp,3,none⟩=some (.slice ra l.length rc)∧W.cell? ⟨bp,4,none⟩=some (.slice a4 n4 c4)∧W.cell? ⟨bp,5,none⟩=some (.slice a5 n5 c5)∧W.cell? ⟨bf,0,none⟩=some (.int .i64 fl)∧W.cell? ⟨bf,1,none⟩=some (.int .u32 fc)∧W.cell? ⟨bt,0,none⟩=some (.int .i64 tl)∧W.cell? ⟨bt,1,none⟩=some (.int .u32 tc)∧W.cell? ⟨w.heap.size,0,none⟩=some (.string x))) (by kernel_rfl) (hS _ ((Below.refl _ _).drew)) (fun hHeld=>?_);refine plIn [0,1,2,3,5] ?_
 iterate 5
  refine hP (v:=?_) rfl rfl hHeld ?_ ?_;rotate_left
  ·intro wh hz;iterate 10 obtain ⟨_,hz⟩:=hz
   go_simp
   (try with_reducible rfl)
  simp only [Act.put,aS1,aS2,aS3]
 refine plOut ?_;refine held_call (i:=4) rfl (by kernel_rfl) (by rfl) (fun K hK=>?_)
 (go_simp;go_at_call 74;refine (k1 _ ((Below.refl _ _).drew)).mono ?_;rintro e w1 ⟨rfl,hb1⟩)
 refine hK.out _ _ (hS _ hb1) (fun hHeld=>?_);clear hK K
 (try simp only [Act.put,aS1,aS2,aS3])
 refine held_call (i:=6) rfl (by kernel_rfl) (by rfl) (fun K hK=>?_)
 (go_simp;go_at_call 29;refine (k2 _ hb1).mono ?_;rintro e w2 ⟨rfl,hb2⟩)
 refine hK.out _ _ (hS _ hb2) (fun hHeld=>?_);clear hK K
 (try simp only [Act.put,aS1,aS2,aS3])
 refine plIn [7,8] ?_
 iterate 2
  refine hP (v:=?_) rfl rfl hHeld ?_ ?_;rotate_left
  ·intro wh hz;iterate 10 obtain ⟨_,hz⟩:=hz
   go_simp
   (try with_reducible rfl)
  simp only [Act.put,aS1,aS2,aS3]
 refine plOut ?_;refine wpAnyH_done (by kernel_rfl) ?_ _;go_wp2;go_ret;exact ⟨by rw [HF.out];rfl,HB0.out.trans (hb2.mono HB0.out.size)⟩
def fldC (x:Fld):List Value:=[.string x.1,.string x.2]
theorem fld_cells1 (l:List Fld):∀ y∈fldCells l,y.oneCell'=true:=by
 induction l with
 | nil=>intro y hy;cases hy
 | cons f l ih =>
  intro y hy;simp only [fldCells,List.mem_cons] at hy
  rcases hy with rfl | rfl | h
  ·rfl
  ·rfl
  ·exact ih y h
theorem info_fld:(Tryz.prog.info? 90).map (fun i=>(i.zero,i.size,i.bytes))=some (some (.agg #[.string ⟨#[]⟩,.string ⟨#[]⟩]),2,32):=by kernel_rfl
theorem own_empty2 (w:World) (t:TypeId):(w.alloc (.cells #[] t)).ownsRow w.heap.size t 2 (.slice (some ⟨w.heap.size,0,none⟩) 0 0) 0 [] :=
 ⟨rfl,.inr ⟨w.heap.size,0,#[],rfl,Nat.le_refl _,heap_alloc_new _ _,Nat.le_refl _,by decide,rfl,rfl⟩⟩
set_option maxHeartbeats 800000 in
set_option maxRecDepth 100000 in
theorem cloneF_any (l:List Fld) (w:World) (v:Value) (h:FldsAt w v l) (hl:l.length≤1000000000000) :
  Calls Tryz.prog 72 #[v] w fun e w'=>∃ v',e=.returned v'∧w'.ownsRow w.heap.size 90 2 v' l.length (fldCells l)∧Below w.heap.size w w':=by
 obtain ⟨i0,hi,hz0,hz1,hz2⟩:=info_parts info_fld;have q22:∀ (w:World) (a:Option Addr) (n c n' c':Nat),(binOp .eql 52 (.slice a n c) (.slice none n' c')).run Tryz.prog w=.ok (.bool a.isNone) w:=fun w a n c n' c'=>Lib.run_eql_slice_nil w _ _ a n c n' c' Tryz.underlying52
 rcases h.2 with ⟨rfl,h0⟩ | ⟨a,c,rfl,hc,hr⟩
 ·have hnil:l=[]:=List.length_eq_zero_iff.1 h0
  subst hnil
  go_enter Tryz.func72,Tryz.ntmps72
  go_wp2;go_ret;exact ⟨_,rfl,World.ownsRow_nil _ _ _ _,Below.refl _ _⟩
 ·have h1:=h.later (aBq w (.cells #[] 90))
  have h2:=own_empty2 w 90;have hb:=aBq w (.cells #[] 90)
  go_enter Tryz.func72,Tryz.ntmps72
  go_wp2_with (at_builtin;(refine wpList_append_rd rfl (.tmp 5) (.tmp 6) 52 rfl w.heap.size 90 i0 (.agg #[.string ⟨#[]⟩,.string ⟨#[]⟩]) 2 32 Tryz.underlying52 hi hz0 hz1 hz2 rfl (by decide) _ 0 [] rfl h2 _ l.length (fldCells l) rfl h1 (fld_cells1 l) (by unfold maxLen;omega) (by omega) (by simp) ?_);intro v2 w2 hown2 hgrow2)
  go_ret;refine ⟨_,rfl,?_,hb.grown hgrow2 hb.size (fun k hk=>(h2.lt k hk).1)⟩;have e:0+l.length=l.length:=Nat.zero_add _;rw [e] at hown2;exact hown2
theorem idxf_nil (a:Option Addr) (c:Nat) (f:Value) (w:World) :
  Calls Tryz.prog 99 #[.slice a 0 c,f] w fun e w'=>e=.returned (.int .i64 (-1))∧w'=w:=by
 go_enter Tryz.func99,Tryz.ntmps99
 go_wp2;refine wp_loop_rounds 1 ?_;rw [rounds_succ];go_wp2;go_ret;exact ⟨rfl,rfl⟩
theorem fldC_at (l:List Fld) (j:Nat) (h:j < l.length) (i:Nat) (v:Value) (hi:(fldC l[j])[i]?=some v):(fldCells l)[j * 2+i]?=some v:=by
 obtain ⟨h1,h2⟩:=fldCells_at l j h
 match i,hi with
 | 0,hi=>rw [Nat.add_zero,h1];exact hi
 | 1,hi=>rw [h2];exact hi
 | i+2,hi=>simp [fldC] at hi
theorem idxf_any (l:List Fld) (p:Fld→Bool) (bp bf bt:Nat) (v:Value) (w:World) (hv:FldsAt w v l) (hl:l.length≤1000000000000)
  (hp:∀ W (x:Fld),Below w.heap.size w W→Calls Tryz.prog 73 #[.agg #[.string x.1,.string x.2],.pointer (some ⟨bp,0,none⟩),.pointer (some ⟨bf,0,none⟩),.pointer (some ⟨bt,0,none⟩)] W fun e w'=>e=.returned (.bool (p x))∧Below W.heap.size W w') :
  Calls Tryz.prog 99 #[v,.func (.func 73) #[] #[.pointer (some ⟨bp,0,none⟩),.pointer (some ⟨bf,0,none⟩),.pointer (some ⟨bt,0,none⟩)]] w fun e w' =>
   e=.returned (.int .i64 (Lib.idxByFrom (fun _ (y:Fld)=>p y) default l 0))∧Below w.heap.size w w':=by
 obtain ⟨a,c,rfl,hc,hr⟩:=RdAt.shape hv
 rcases Nat.eq_zero_or_pos l.length with h0 | h0
 ·have hnil:l=[]:=List.length_eq_zero_iff.1 h0
  subst hnil;refine (idxf_nil _ _ _ _).mono ?_;rintro e w' ⟨rfl,rfl⟩;exact ⟨rfl,Below.refl _ _⟩
 ·obtain ⟨g,o,rfl,hg,hcell⟩:=hr h0
  have hp:PredBelow Tryz.prog 73 #[.pointer (some ⟨bp,0,none⟩),.pointer (some ⟨bf,0,none⟩),.pointer (some ⟨bt,0,none⟩)] (fun x:Fld=>.agg (fldC x).toArray) p w:=fun W x hW=>by
   refine Calls.mono (hp W x hW) ?_;rintro e w' ⟨rfl,hb⟩;exact ⟨rfl,hW.trans (hb.mono hW.size)⟩
  have h:=AnyQ.slices_IndexFunc (α:=Fld) Tryz.laysIdxF 2 Tryz.isAgg90 Tryz.sizeOf90 fldC (fun _=>rfl) p 73 #[.pointer (some ⟨bp,0,none⟩),.pointer (some ⟨bf,0,none⟩),.pointer (some ⟨bt,0,none⟩)]
   (enters_of Tryz.func73 (by kernel_rfl) rfl) g o l.length c l w hp (Nat.le_refl _) (by omega) hg (fun j hj i x hx=>by
    have:=hcell (j * 2+i) x (fldC_at l j hj i x (by rw [List.getElem!_eq_getElem?_getD,List.getElem?_eq_getElem hj] at hx;exact hx))
    rw [show o+j * 2+i=o+(j * 2+i) by omega];exact this)
  rw [List.take_length] at h;exact h
theorem run_clear_row {P:Program} (w:World) (t e ty:TypeId) (z:Value) (ht:P.underlying t=some (.slice e)) (hv:∀ w,(zeroValue e).run P w=.ok z w) (b o n c:Nat) (hn:0 < n)
  (hT:w.there b o (Builtin.zeroCells z.cells n).toList.length) (h1:∀ v∈(Builtin.zeroCells z.cells n).toList,v.oneCell'=true) :
  (Builtin.clear_ #[t] ty #[.slice (some ⟨b,o,none⟩) n c]).run P w=.ok (.tuple #[]) (w.setCells b o (Builtin.zeroCells z.cells n).toList):=by
 have hst:=run_storeCells_cells (P:=P) b o (Builtin.zeroCells z.cells n).toList 0 w (fun j hj=>(hT j hj).1) (fun j hj=>(hT j hj).2) h1;simp only [Nat.add_zero] at hst;obtain ⟨m,rfl⟩:∃ m,n=m+1:=⟨n - 1,by omega⟩
 simp [Builtin.clear_,run_underlying ht,hv,hst]
theorem zc_len (n:Nat):(Builtin.zeroCells (Value.agg #[.string ⟨#[]⟩,.string ⟨#[]⟩]).cells n).toList.length=n * 2:=by simp [Builtin.zeroCells,Value.cells]
theorem zc_cell (n:Nat):∀ v∈(Builtin.zeroCells (Value.agg #[.string ⟨#[]⟩,.string ⟨#[]⟩]).cells n).toList,v.oneCell'=true:=by
 intro v hv;simp only [Builtin.zeroCells,Value.cells,Array.toList_map,List.mem_map] at hv;obtain ⟨i,_,rfl⟩:=hv;have h2:i % (#[Value.string ⟨#[]⟩,Value.string ⟨#[]⟩]:Array Value).size < 2:=Nat.mod_lt _ (by decide);generalize i % (#[Value.string ⟨#[]⟩,Value.string ⟨#[]⟩]:Array Value).size=j at h2
 match j,h2 with
 | 0,_=>rfl
 | 1,_=>rfl
theorem filter_step {p:Fld→Bool} {l:List Fld} {j:Nat} (h:j < l.length):(l.take (j+1)).filter (fun x=>!p x)=(l.take j).filter (fun x=>!p x) ++ (if p l[j] then [] else [l[j]]):=by
 rw [List.take_succ_eq_append_getElem h,List.filter_append]
 congr 1
 cases hp:p l[j] <;> simp [hp]
theorem filter_none {p:Fld→Bool} {l:List Fld} {k:Nat} (hk:k≤l.length) (h:∀ j (hj:j < l.length),j < k→p l[j]=false):(l.take k).filter (fun x=>!p x)=l.take k:=by
 rw [List.filter_eq_self];intro x hx;obtain ⟨j,hj,rfl⟩:=List.getElem_of_mem hx;rw [List.length_take] at hj;rw [List.getElem_take,h j (by omega) (by omega)];rfl
theorem row_range {w:World} {g:Nat} {o:Nat} {Y:List Fld} (h:w.rangeAt g o (fldCells Y)) {j:Nat} (hj:j < Y.length):w.cell? ⟨g,o+j * 2,none⟩=some (.string Y[j].1)∧w.cell? ⟨g,o+j * 2+1,none⟩=some (.string Y[j].2):=by
 obtain ⟨h1,h2⟩:=fldCells_at Y j hj;exact ⟨h _ _ h1,by have:=h _ _ h2;rwa [← Nat.add_assoc] at this⟩
theorem below_put_base {B:Nat} {w W:World} {g j:Nat} {x:Value} (h:Below B w W) (hb:B≤g):Below B w (W.setCell ⟨g,j,none⟩ x) :=
 h.trans ((Below.refl B W).setCell (p:=⟨g,j,none⟩) hb x)
theorem below_puts_base {B:Nat} {w W:World} {g o:Nat} (h:Below B w W) (hb:B≤g):∀ (vs:List Value),Below B w (W.setCells g o vs):=by
 intro vs
 induction vs generalizing W o with
 | nil=>exact h
 | cons v r ih=>exact ih (below_put_base h hb)
theorem row_put {w:World} {g n i:Nat} {Y:List Fld} {x:Fld} (h:w.rangeAt g 0 (fldCells Y)) (ht:w.there g 0 (n * 2)) (hn:Y.length=n) (hi:i < n) :
  ((w.setCell ⟨g,i * 2,none⟩ (.string x.1)).setCell ⟨g,i * 2+1,none⟩ (.string x.2)).rangeAt g 0 (fldCells (Y.set i x))∧((w.setCell ⟨g,i * 2,none⟩ (.string x.1)).setCell ⟨g,i * 2+1,none⟩ (.string x.2)).there g 0 (n * 2):=by
 have e:(w.setCell ⟨g,i * 2,none⟩ (.string x.1)).setCell ⟨g,i * 2+1,none⟩ (.string x.2)=w.setCells g (i * 2) [.string x.1,.string x.2]:=rfl;rw [e];have hti:w.there g (i * 2) 2:=fun j hj=>by have:=ht (i * 2+j) (by omega);rwa [Nat.zero_add] at this
 refine ⟨fun j v hj=>?_,World.there_setCells ht g (i * 2) _⟩;rw [Nat.zero_add];have hjl:=(List.getElem?_eq_some_iff.1 hj).1;rw [fldCells_len,List.length_set] at hjl;have hr:=World.rangeAt_setCells_same w g (i * 2) [.string x.1,.string x.2] hti;obtain ⟨m,r,hr2,rfl⟩:∃ m r,r < 2∧j=m * 2+r:=⟨j / 2,j % 2,Nat.mod_lt _ (by decide),by omega⟩;obtain ⟨q0,q1⟩:=fldCells_at (Y.set i x) m (by rw [List.length_set];omega)
 by_cases hm:m=i
 ·subst hm
  rw [List.getElem_set_self] at q0 q1
  match r,hr2 with
  | 0,_=>rw [Nat.add_zero] at hj ⊢;rw [q0] at hj;rw [← Option.some.inj hj];exact hr 0 _ rfl
  | 1,_=>rw [q1] at hj;rw [← Option.some.inj hj];exact hr 1 _ rfl
 ·rw [List.getElem_set_ne (Ne.symm hm)] at q0 q1
  obtain ⟨p0,p1⟩:=row_range h (j:=m) (by omega);rw [Nat.zero_add] at p0 p1
  match r,hr2 with
  | 0,_ =>
   rw [Nat.add_zero] at hj ⊢;rw [q0] at hj;rw [← Option.some.inj hj];rw [World.cell?_setCells_out _ _ _ _ _ (fun _ _=>by simp;omega)];exact p0
  | 1,_ =>
   rw [q1] at hj;rw [← Option.some.inj hj];rw [World.cell?_setCells_out _ _ _ _ _ (fun _ _=>by simp;omega)];exact p1
set_option maxHeartbeats 1600000 in
set_option maxRecDepth 100000 in
theorem del_any (l:List Fld) (p:Fld→Bool) (bp bf bt base:Nat) (v:Value) (w:World) (hown:w.ownsRow base 90 2 v l.length (fldCells l)) (hbase:base≤w.heap.size) (hl:l.length≤1000000000000)
  (hp:∀ W (x:Fld),Below base w W→Calls Tryz.prog 73 #[.agg #[.string x.1,.string x.2],.pointer (some ⟨bp,0,none⟩),.pointer (some ⟨bf,0,none⟩),.pointer (some ⟨bt,0,none⟩)] W fun e w'=>e=.returned (.bool (p x))∧Below W.heap.size W w') :
  Calls Tryz.prog 71 #[v,.func (.func 73) #[] #[.pointer (some ⟨bp,0,none⟩),.pointer (some ⟨bf,0,none⟩),.pointer (some ⟨bt,0,none⟩)]] w fun e w' =>
   ∃ v',e=.returned v'∧FldsAt w' v' (l.filter fun x=>!p x)∧(∀ q,v'.ownBlock=some q→base≤q)∧Below base w w':=by
 have hv:FldsAt w v l:=RdAt.own hown;have k1:=idxf_any l p bp bf bt v w hv hl (fun W x hW=>hp W x (hW.mono hbase))
 rcases idx_find p default l 0 with ⟨k,hk,h1,_,hpk,hpn⟩ | ⟨h1,_,hpn⟩
 ·rw [Nat.zero_add] at h1
  rw [h1] at k1
  rcases hown.2 with ⟨_,h0⟩ | ⟨g,cap,cur,rfl,hgb,hg,hle,hcap,hsz,htk⟩
  ·omega
  have hr0:w.rangeAt g 0 (fldCells l):=by
   obtain ⟨a,c,he,_,hr⟩:=RdAt.shape hv;obtain ⟨b,o,hb,_,hcell⟩:=hr (by omega)
   cases he
   cases hb
   exact fun j x hj=>hcell j x hj
  have ht0:w.there g 0 (l.length * 2):=fun j hj=>by
   refine ⟨World.rangeAt.isSome hr0 j (by rw [fldCells_len];exact hj),by simp [World.frozen?,hg]⟩
  have hglt:g < w.heap.size:=(Array.getElem?_eq_some_iff.1 hg).1;have hT1:(l.take k).filter (fun x=>!p x)=l.take k:=filter_none (by omega) hpn;have hT2:l.take k=(l.take (k+1)).filter (fun x=>!p x):=by rw [filter_step hk,hT1,hpk];simp
  have hk1:((k:Int)==-1)=false:=by rw [beq_eq_false_iff_ne];omega
  have HP:=Lib.hid hp;have HT2:=Lib.hid hT2;have HR0:=Lib.hid hr0;have HTH0:=Lib.hid ht0;clear hv hown hp hr0 ht0 hT1 hT2 hpk hpn h1 hg htk hsz
  go_enter Tryz.func71,Tryz.ntmps71
  go_wp2_with fail
  refine k1.mono ?_;rintro e w1 ⟨rfl,hb1⟩;have HR1:=Lib.hid (range_later HR0.out hb1 hglt);have HTH1:=Lib.hid (there_later HTH0.out hb1 hglt);have HB1:=Lib.hid (hb1.mono hbase);clear k1 HR0 HTH0 hb1;go_wp2
  go_loopw [5,6] (fun vi vj wr=>∃ (i j:Nat) (Y:List Fld),vi=.int .i64 i∧vj=.int .i64 j∧i < j∧j≤l.length∧Hid (Y.length=l.length)∧Hid (Y.take i=(l.take j).filter (fun x=>!p x))∧Hid (Y.drop j=l.drop j)∧Hid (wr.rangeAt g 0 (fldCells Y))∧Hid (wr.there g 0 (l.length * 2))∧Hid (Below base w wr)) (fun _ vj _=>l.length - (intOf vj).toNat)
  case atStart=>exact ⟨k,k+1,l,rfl,by go_num,by omega,by omega,Lib.hid rfl,HT2,Lib.hid rfl,HR1,HTH1,HB1⟩
  case round =>
   clear HR1 HTH1 HB1 HT2;obtain ⟨i,j,Y,rfl,rfl,hij,hjl,HY,HT,HD,HR,HTH,HB⟩:=hrel;have hgr:g < wr.heap.size:=Nat.lt_of_lt_of_le hglt HB.out.size
   by_cases hjj:j < l.length
   ·have hYj:Y[j]'(by have:=HY.out;omega)=l[j]:=by
     have h:=congrArg (fun z=>z[0]?) HD.out;simp only [List.getElem?_drop,Nat.add_zero] at h;rw [List.getElem?_eq_getElem hjj,List.getElem?_eq_getElem (by have:=HY.out;omega)] at h;exact Option.some.inj h
    obtain ⟨hc0,hc1⟩:=row_range HR.out (j:=j) (by have:=HY.out;omega);rw [hYj] at hc0 hc1;rw [Nat.zero_add] at hc0 hc1;obtain ⟨x,hx⟩:∃ x,l[j]=x:=⟨_,rfl⟩;rw [hx] at hc0 hc1;obtain ⟨x0,x1⟩:=x;dsimp only at hc0 hc1;have hba:=aBq wr (.cells #[.string x0,.string x1] 90);have y0:(wr.alloc (.cells #[.string x0,.string x1] 90)).cell? ⟨wr.heap.size,0,none⟩=some (.string x0):=World.cell?_alloc_at _ _ _ _ rfl;have y1:(wr.alloc (.cells #[.string x0,.string x1] 90)).cell? ⟨wr.heap.size,1,none⟩=some (.string x1):=World.cell?_alloc_at _ _ _ _ rfl;have HA:=Lib.hid (HB.out.trans (hba.mono (Nat.le_trans hbase HB.out.size)));have HRa:=Lib.hid (range_later HR.out hba hgr);have HTa:=Lib.hid (there_later HTH.out hba hgr);have hga:g < (wr.alloc (.cells #[.string x0,.string x1] 90)).heap.size:=Nat.lt_of_lt_of_le hgr hba.size;have hgw:=cell_lt y0;have HX:=Lib.hid hx;clear hba hYj hx HR HTH HB;go_upto_region 8 with fail;change Code.wp _ _ _ _ (wr.alloc (.cells #[.string x0,.string x1] 90));generalize wr.alloc (.cells #[.string x0,.string x1] 90)=wa at *;have kp:=HP.out wa (x0,x1) HA.out;clear hc0 hc1;obtain ⟨q,hq⟩:∃ q,p (x0,x1)=q:=⟨_,rfl⟩;rw [hq] at kp;have HQ:=Lib.hid hq;clear hq;dsimp only at kp;go_wp2_with fail
    refine kp.mono ?_;rintro e w2 ⟨rfl,hb2⟩;have HB2:=Lib.hid (HA.out.trans (hb2.mono (Nat.le_trans hbase HA.out.size)));have HR2:=Lib.hid (range_later HRa.out hb2 hga);have HT2:=Lib.hid (there_later HTa.out hb2 hga)
    have HD2:Hid (Y.drop (j+1)=l.drop (j+1)):=by
     show _=_;have h:=congrArg (List.drop 1) HD.out;rw [List.drop_drop,List.drop_drop] at h
     first | exact h | (rw [Nat.add_comm j 1];exact h)
    cases q
    ·have z0:=kCq y0 hb2 hgw
     have z1:=kCq y1 hb2 hgw;obtain ⟨c0,c1⟩:=row_range HR2.out (j:=i) (by have:=HY.out;omega);rw [Nat.zero_add] at c0 c1;have f0:=tFq HT2.out (i * 2) (by omega);have f1:=tFq HT2.out (i * 2+1) (by omega);clear kp hb2 HRa HTa HA y0 y1;go_wp2;go_roundw
     case rel =>
      have hYi:i < Y.length:=by have:=HY.out;omega
      have hlen:(Y.take i).length=i:=by rw [List.length_take];omega
      refine ⟨i+1,j+1,Y.set i (x0,x1),by go_num,by go_num,by omega,by omega,Lib.hid (by rw [List.length_set];exact HY.out),Lib.hid ?_,Lib.hid ?_,Lib.hid ?_,Lib.hid ?_,Lib.hid ?_⟩
      ·rw [filter_step hjj,HX.out,HQ.out,← HT.out]
       simp only [Bool.false_eq_true,if_false]
       apply List.ext_getElem?
       intro m
       rcases Nat.lt_trichotomy m i with hm | hm | hm
       ·rw [List.getElem?_take_of_lt (by omega),List.getElem?_set_ne (by omega),List.getElem?_append_left (by omega),List.getElem?_take_of_lt hm]
       ·subst hm
        rw [List.getElem?_take_of_lt (by omega),List.getElem?_set_self hYi,List.getElem?_append_right (by omega),hlen];simp
       ·rw [List.getElem?_take_eq_none (by omega),List.getElem?_eq_none (by simp;omega)]
      ·apply List.ext_getElem?
       intro m;have h:=congrArg (fun z=>z[m]?) HD2.out;simp only [List.getElem?_drop] at h ⊢;rw [List.getElem?_set_ne (by omega)];exact h
      ·exact (row_put (x:=(x0,x1)) HR2.out HT2.out HY.out (by omega)).1
      ·exact (row_put (x:=(x0,x1)) HR2.out HT2.out HY.out (by omega)).2
      ·exact below_put_base (below_put_base HB2.out hgb) hgb
     case measure=>(simp [intOf];try omega)
    ·clear kp hb2 HRa HTa HA y0 y1
     go_wp2;go_roundw
     case rel=>exact ⟨i,j+1,Y,rfl,by go_num,by omega,by omega,HY,Lib.hid (by rw [HT.out,filter_step hjj,HX.out,HQ.out];simp),HD2,HR2,HT2,HB2⟩
     case measure=>(simp [intOf];try omega)
   ·obtain rfl:j=l.length:=by omega
    have HZ:=Lib.hid (zc_cell (l.length - i))
    have hcl:∀ ty,(Builtin.clear_ #[52] ty #[.slice (some ⟨g,i * 2,none⟩) (l.length - i) (cap - i)]).run Tryz.prog wr=.ok (.tuple #[]) (wr.setCells g (i * 2) (Builtin.zeroCells (Value.agg #[.string ⟨#[]⟩,.string ⟨#[]⟩]).cells (l.length - i)).toList):=fun ty =>
     run_clear_row wr 52 90 ty _ Tryz.underlying52 Tryz.zeroValue90 g (i * 2) (l.length - i) (cap - i) (by omega) (fun j hj=>by
      have:=HTH.out (i * 2+j) (by rw [zc_len] at hj;omega)
      rw [Nat.zero_add] at this;exact this) (zc_cell _)
    generalize hzc:(Builtin.zeroCells (Value.agg #[.string ⟨#[]⟩,.string ⟨#[]⟩]).cells (l.length - i)).toList=zc at *;go_wp2;go_ret;have hYl:(Y.take i).length=i:=by rw [List.length_take,HY.out];omega
    have hFl:l.filter (fun x=>!p x)=Y.take i:=by have:=HT.out;rw [List.take_length] at this;exact this.symm
    refine ⟨_,rfl,?_,fun q hq=>by (have:g=q:=by simpa [Value.ownBlock] using hq);omega,below_puts_base HB.out hgb _⟩;rw [hFl];unfold FldsAt;rw [hYl,fldCells_take];refine RdAt.mk (by rw [List.length_take,fldCells_len,HY.out];omega) (by omega) ?_ (fun m y hm=>?_)
    ·have:=(below_puts_base (o:=i * 2) HB.out hgb zc).size;omega
    ·have hml:=(List.getElem?_eq_some_iff.1 hm).1
     rw [List.length_take] at hml;rw [World.cell?_setCells_out _ _ _ _ _ (fun _ _=>by simp;omega)]
     have:=HR.out m y (by rw [List.getElem?_take_of_lt (by omega)] at hm;exact hm)
     exact this
 ·rw [h1] at k1
  obtain ⟨a,c,rfl,_,_⟩:=RdAt.shape hv
  have HN:Hid (l.filter (fun x=>!p x)=l):=by
   have:=filter_none (Nat.le_refl _) (fun j hj _=>hpn j hj) (p:=p) (l:=l)
   rwa [List.take_length] at this
  have HV:=Lib.hid hv;have HO:=Lib.hid (fun q hq=>(hown.lt q hq).1);clear hv hown hp h1 hpn
  go_enter Tryz.func71,Tryz.ntmps71
  go_wp2_with fail
  refine k1.mono ?_;rintro e w1 ⟨rfl,hb1⟩;have HV1:=Lib.hid (HV.out.later hb1);have HB1:=Lib.hid (hb1.mono hbase);clear k1 hb1 HV;go_wp2;go_ret;exact ⟨_,rfl,by rw [HN.out];exact HV1.out,HO.out,HB1.out⟩
def visL (rs:List Nmd) (fl:List Fld) (f t:Int × Nat):List Fld:=fl.filter (seesL rs f t)
set_option maxHeartbeats 1600000 in
set_option maxRecDepth 100000 in
theorem vis_any (s0 s1 s2 s4 s5:Option Addr × Nat × Nat) (rs:List Nmd) (rv:Value) (fl:List Fld) (fv:Value) (lv:Int) (c:Nat) (tl:Int) (tc:Nat) (w:World) (hv:NmdsAt w rv rs) (hl:rs.length≤maxLen) (hf:FldsAt w fv fl) (hfl:fl.length≤1000000000000) :
  Calls Tryz.prog 39 #[.agg #[SV s0,SV s1,SV s2,rv,SV s4,SV s5],fv,Lab lv c,Lab tl tc] w fun e w'=>∃ v',e=.returned v'∧FldsAt w' v' (visL rs fl (lv,c) (tl,tc))∧(∀ q,v'.ownBlock=some q→w.heap.size≤q)∧Below w.heap.size w w':=by
 obtain ⟨ra,rc,rfl,_,_⟩:=RdAt.shape hv;obtain ⟨fa,fc,rfl,_,_⟩:=RdAt.shape hf;obtain ⟨a0,n0,c0⟩:=s0;obtain ⟨a1,n1,c1⟩:=s1;obtain ⟨a2,n2,c2⟩:=s2;obtain ⟨a4,n4,c4⟩:=s4;obtain ⟨a5,n5,c5⟩:=s5;obtain ⟨W0,hW0⟩:∃ z,((w.alloc (.cells #[.slice a0 n0 c0,.slice a1 n1 c1,.slice a2 n2 c2,.slice ra rs.length rc,.slice a4 n4 c4,.slice a5 n5 c5] 26)).alloc (.cells #[.int .i64 lv,.int .u32 c] 36)).alloc (.cells #[.int .i64 tl,.int .u32 tc] 36)=z:=⟨_,rfl⟩;have hb0:Below w.heap.size w W0:=by rw [← hW0];exact ((aBq _ _).trans ((aBq _ _).mono (by simp))).trans ((aBq _ _).mono (by simp;omega))
 have hz:W0.heap.size=w.heap.size+1+1+1:=by rw [← hW0];simp
 have hbb:=(Below.refl W0.heap.size W0);rw [← hW0] at hbb;obtain ⟨h1,h2,h3⟩:=box_cells hbb;obtain ⟨h4,h5,h6,h7⟩:=box_two h3;rw [hW0] at h1 h4 h5;simp only [World.size_alloc] at h1;have hC6:C6 w.heap.size (SV (a0,n0,c0)) (SV (a1,n1,c1)) (SV (a2,n2,c2)) (.slice ra rs.length rc) (SV (a4,n4,c4)) (SV (a5,n5,c5)) W0:=⟨h4 0 _ rfl,h4 1 _ rfl,h4 2 _ rfl,h4 3 _ rfl,h4 4 _ rfl,h4 5 _ rfl⟩;have hf0:=h5 0 _ rfl;have hf1:=h5 1 _ rfl;have ht0:=h1 0 _ rfl;have ht1:=h1 1 _ rfl
 have kp:∀ W (x:Fld),Below W0.heap.size W0 W→Calls Tryz.prog 73 #[.agg #[.string x.1,.string x.2],.pointer (some ⟨w.heap.size,0,none⟩),.pointer (some ⟨w.heap.size+1,0,none⟩),.pointer (some ⟨w.heap.size+1+1,0,none⟩)] W fun e w'=>e=.returned (.bool (!seesL rs (lv,c) (tl,tc) x))∧Below W.heap.size W w':=fun W x hW =>
  vis1_any (a0,n0,c0) (a1,n1,c1) (a2,n2,c2) (a4,n4,c4) (a5,n5,c5) rs _ x.1 x.2 w.heap.size (w.heap.size+1) (w.heap.size+1+1) lv c tl tc W ((hv.later hb0).later hW) hl (hC6.later hW (by omega)) (kCq hf0 hW (by omega)) (kCq hf1 hW (by omega)) (kCq ht0 hW (by omega)) (kCq ht1 hW (by omega))
 have kc:=cloneF_any fl W0 _ (hf.later hb0) hfl
 have kd:∀ v' w',w'.ownsRow W0.heap.size 90 2 v' fl.length (fldCells fl)→Below W0.heap.size W0 w'→Calls Tryz.prog 71 #[v',.func (.func 73) #[] #[.pointer (some ⟨w.heap.size,0,none⟩),.pointer (some ⟨w.heap.size+1,0,none⟩),.pointer (some ⟨w.heap.size+1+1,0,none⟩)]] w' fun e w2 =>
   ∃ v2,e=.returned v2∧FldsAt w2 v2 (visL rs fl (lv,c) (tl,tc))∧(∀ q,v2.ownBlock=some q→w.heap.size≤q)∧Below w.heap.size w w2:=fun v' w' h hb=>by
  refine (del_any fl (fun x=>!seesL rs (lv,c) (tl,tc) x) w.heap.size (w.heap.size+1) (w.heap.size+1+1) W0.heap.size v' w' h hb.size hfl (fun W x hW=>kp W x (hb.trans hW))).mono ?_;rintro e w2 ⟨v2,rfl,hF,hO,hB⟩;refine ⟨v2,rfl,?_,fun q hq=>Nat.le_trans hb0.size (hO q hq),hb0.trans ((hb.trans hB).mono hb0.size)⟩;unfold visL;simp only [Bool.not_not] at hF;exact hF
 have KD:=Lib.hid kd;clear kd kp hC6 hf0 hf1 ht0 ht1 h1 h2 h3 h4 h5 h6 h7 hbb hv hf
 go_enter Tryz.func39,Tryz.ntmps39
 go_wp2_with fail
 refine kc.mono ?_;rintro e w1 ⟨v1,rfl,hown,hb1⟩;have kd:=KD.out v1 w1 hown hb1;clear kc hown hb1 KD;go_wp2_with fail
 refine kd.mono ?_;rintro e w2 ⟨v2,rfl,hF,hO,hB⟩;go_wp2;go_ret;exact ⟨_,rfl,hF,hO,hB⟩
def cutOk (rs:List Nmd) (fl:List Fld) (f t:Int × Nat):Bool:=decide (0 < (visL rs fl f t).length)&&flowsL f.1 f.2 t.1 t.2
abbrev zeroA:Value:=.agg #[.string ⟨#[]⟩,.slice none 0 0,.int .i64 0,.int .u32 0,.int .i64 0,.int .i64 0]
def cutR (ok:Bool) (src:ByteArray) (v:Value) (lv:Int) (c:Nat) (fr til:Int):Value:=match ok with
 | true=>.agg #[.string src,v,.int .i64 lv,.int .u32 c,.int .i64 fr,.int .i64 til]
 | false=>zeroA
theorem box_later {w W:World} {xs:Array Value} {t:TypeId} (hb:Below (w.alloc (.cells xs t)).heap.size (w.alloc (.cells xs t)) W) {i:Nat} {x:Value} (h:xs[i]?=some x):W.cell? ⟨w.heap.size,i,none⟩=some x:=(box_cells hb).1 i x h
structure CutBox (w W:World) (p0 p1 p2 p3 p4 p5 a0 a1 a2 a3 a4 a5 l0 l1:Value):Prop where
 p:C6 w.heap.size p0 p1 p2 p3 p4 p5 W
 a:C6 (w.heap.size+1) a0 a1 a2 a3 a4 a5 W
 l0:W.cell? ⟨w.heap.size+1+1,0,none⟩=some l0
 l1:W.cell? ⟨w.heap.size+1+1,1,none⟩=some l1
 r:C6 (w.heap.size+1+1+1) (.string ⟨#[]⟩) (.slice none 0 0) (.int .i64 0) (.int .u32 0) (.int .i64 0) (.int .i64 0) W
 ta:W.there (w.heap.size+1) 0 6
 tr:W.there (w.heap.size+1+1+1) 0 6
 lt:w.heap.size+1+1+1 < W.heap.size
 below:Below w.heap.size w W
theorem CutBox.later {w W W':World} {p0 p1 p2 p3 p4 p5 a0 a1 a2 a3 a4 a5 l0 l1:Value} (h:CutBox w W p0 p1 p2 p3 p4 p5 a0 a1 a2 a3 a4 a5 l0 l1) (hb:Below W.heap.size W W'):CutBox w W' p0 p1 p2 p3 p4 p5 a0 a1 a2 a3 a4 a5 l0 l1:=by
 have hl:=h.lt;exact ⟨h.p.later hb (by omega),h.a.later hb (by omega),kCq h.l0 hb (by omega),kCq h.l1 hb (by omega),h.r.later hb (by omega),there_later h.ta hb (by omega),there_later h.tr hb (by omega),Nat.lt_of_lt_of_le hl hb.size,h.below.trans (hb.mono h.below.size)⟩
theorem cutBox (w:World) (p0 p1 p2 p3 p4 p5 a0 a1 a2 a3 a4 a5 l0 l1:Value) (t u s q:TypeId) :
  CutBox w ((((w.alloc (.cells #[p0,p1,p2,p3,p4,p5] t)).alloc (.cells #[a0,a1,a2,a3,a4,a5] u)).alloc (.cells #[l0,l1] s)).alloc (.cells #[.string ⟨#[]⟩,.slice none 0 0,.int .i64 0,.int .u32 0,.int .i64 0,.int .i64 0] q)) p0 p1 p2 p3 p4 p5 a0 a1 a2 a3 a4 a5 l0 l1:=by
 obtain ⟨W1,h1⟩:∃ z,w.alloc (.cells #[p0,p1,p2,p3,p4,p5] t)=z:=⟨_,rfl⟩;obtain ⟨W2,h2⟩:∃ z,W1.alloc (.cells #[a0,a1,a2,a3,a4,a5] u)=z:=⟨_,rfl⟩;obtain ⟨W3,h3⟩:∃ z,W2.alloc (.cells #[l0,l1] s)=z:=⟨_,rfl⟩;obtain ⟨W4,h4⟩:∃ z,W3.alloc (.cells #[.string ⟨#[]⟩,.slice none 0 0,.int .i64 0,.int .u32 0,.int .i64 0,.int .i64 0] q)=z:=⟨_,rfl⟩;rw [h1,h2,h3,h4];have s1:W1.heap.size=w.heap.size+1:=by rw [← h1,World.size_alloc]
 have s2:W2.heap.size=w.heap.size+1+1:=by rw [← h2,World.size_alloc,s1]
 have s3:W3.heap.size=w.heap.size+1+1+1:=by rw [← h3,World.size_alloc,s2]
 have s4:W4.heap.size=w.heap.size+1+1+1+1:=by rw [← h4,World.size_alloc,s3]
 have b1:Below w.heap.size w W1:=by rw [← h1];exact aBq _ _
 have b2:Below W1.heap.size W1 W2:=by rw [← h2];exact aBq _ _
 have b3:Below W2.heap.size W2 W3:=by rw [← h3];exact aBq _ _
 have b4:Below W3.heap.size W3 W4:=by rw [← h4];exact aBq _ _
 have c34:Below W3.heap.size W3 W4:=b4;have c24:Below W2.heap.size W2 W4:=b3.trans (b4.mono (by omega));have c14:Below W1.heap.size W1 W4:=b2.trans (c24.mono (by omega));have g1:Below (w.alloc (.cells #[p0,p1,p2,p3,p4,p5] t)).heap.size (w.alloc (.cells #[p0,p1,p2,p3,p4,p5] t)) W4:=by rw [h1];exact c14
 have g2:Below (W1.alloc (.cells #[a0,a1,a2,a3,a4,a5] u)).heap.size (W1.alloc (.cells #[a0,a1,a2,a3,a4,a5] u)) W4:=by rw [h2];exact c24
 have g3:Below (W2.alloc (.cells #[l0,l1] s)).heap.size (W2.alloc (.cells #[l0,l1] s)) W4:=by rw [h3];exact c34
 have g4:Below (W3.alloc (.cells #[.string ⟨#[]⟩,.slice none 0 0,.int .i64 0,.int .u32 0,.int .i64 0,.int .i64 0] q)).heap.size (W3.alloc (.cells #[.string ⟨#[]⟩,.slice none 0 0,.int .i64 0,.int .u32 0,.int .i64 0,.int .i64 0] q)) W4:=by rw [h4];exact Below.refl _ _
 have t2:=box_there g2;have t4:=box_there g4;rw [s1] at t2;rw [s3] at t4
 exact ⟨⟨box_later g1 rfl,box_later g1 rfl,box_later g1 rfl,box_later g1 rfl,box_later g1 rfl,box_later g1 rfl⟩,
  by rw [← s1];exact ⟨box_later g2 rfl,box_later g2 rfl,box_later g2 rfl,box_later g2 rfl,box_later g2 rfl,box_later g2 rfl⟩,
  by rw [← s2];exact box_later g3 rfl,by rw [← s2];exact box_later g3 rfl,
  by rw [← s3];exact ⟨box_later g4 rfl,box_later g4 rfl,box_later g4 rfl,box_later g4 rfl,box_later g4 rfl,box_later g4 rfl⟩,
  t2,t4,by omega,b1.trans (c14.mono (by omega))⟩
theorem rd_puts {w:World} {v:Value} {n k:Nat} {xs:List Value} (h:RdAt w v n k xs) {g o:Nat} (hg:∀ q,v.ownBlock=some q→q≠g) (vs:List Value):RdAt (w.setCells g o vs) v n k xs:=by
 refine ⟨h.1,?_⟩
 rcases h.2 with h | ⟨a,c,rfl,hc,hr⟩
 ·exact .inl h
 ·refine .inr ⟨a,c,rfl,hc,fun hn=>?_⟩
  obtain ⟨b,o',rfl,hlt,hcell⟩:=hr hn;have hne:=hg b rfl;refine ⟨b,o',rfl,Nat.lt_of_lt_of_le hlt (below_puts_base (g:=g) (o:=o) (Below.refl 0 w) (Nat.zero_le _) vs).size,fun j x hx=>?_⟩;rw [World.cell?_setCells_out _ _ _ _ _ (fun hb _=>absurd hb hne)];exact hcell j x hx
set_option maxHeartbeats 1600000 in
set_option maxRecDepth 100000 in
theorem cut_any (s0 s1 s2 s4 s5:Option Addr × Nat × Nat) (rs:List Nmd) (rv:Value) (src:ByteArray) (fl:List Fld) (fv:Value) (lv:Int) (c:Nat) (fr til:Int) (tl:Int) (tc:Nat) (w:World) (hv:NmdsAt w rv rs) (hl:rs.length≤maxLen) (hf:FldsAt w fv fl) (hfl:fl.length≤1000000000000) :
  Calls Tryz.prog 20 #[.agg #[SV s0,SV s1,SV s2,rv,SV s4,SV s5],.agg #[.string src,fv,.int .i64 lv,.int .u32 c,.int .i64 fr,.int .i64 til],Lab tl tc] w fun e w' =>
   ∃ v',FldsAt w' v' (visL rs fl (lv,c) (tl,tc))∧(∀ q,v'.ownBlock=some q→w.heap.size≤q)∧Below w.heap.size w w'∧e=.returned (.tuple #[cutR (cutOk rs fl (lv,c) (tl,tc)) src v' lv c fr til,.bool (cutOk rs fl (lv,c) (tl,tc))]):=by
 have k1:=fun W (hb:Below w.heap.size w W)=>vis_any s0 s1 s2 s4 s5 rs rv fl fv lv c tl tc W (hv.later hb) hl (hf.later hb) hfl;have k2:=flows_any lv c tl tc;obtain ⟨ra,rc,rfl,_,_⟩:=RdAt.shape hv;obtain ⟨fa,fc,rfl,_,_⟩:=RdAt.shape hf;obtain ⟨a0,n0,c0⟩:=s0;obtain ⟨a1,n1,c1⟩:=s1;obtain ⟨a2,n2,c2⟩:=s2;obtain ⟨a4,n4,c4⟩:=s4;obtain ⟨a5,n5,c5⟩:=s5;have hX:=cutBox w (.slice a0 n0 c0) (.slice a1 n1 c1) (.slice a2 n2 c2) (.slice ra rs.length rc) (.slice a4 n4 c4) (.slice a5 n5 c5) (.string src) (.slice fa fl.length fc) (.int .i64 lv) (.int .u32 c) (.int .i64 fr) (.int .i64 til) (.int .i64 tl) (.int .u32 tc) 26 54 36 54;have k1:=k1 _ hX.below;have HX:=Lib.hid hX;clear hX hv hf
 go_enter Tryz.func20,Tryz.ntmps20
 go_wp2_with fail
 refine k1.mono ?_;rintro e w1 ⟨v1,rfl,hF,hO,hb1⟩;have HX1:=Lib.hid (HX.out.later hb1);clear k1 HX hb1;obtain ⟨va,vc,rfl,_,_⟩:=RdAt.shape hF;obtain ⟨V,hV⟩:∃ V,visL rs fl (lv,c) (tl,tc)=V:=⟨_,rfl⟩;have HC:Hid (cutOk rs fl (lv,c) (tl,tc)=(decide (0 < V.length)&&flowsL lv c tl tc)):=by show _=_;unfold cutOk;rw [hV]
 rw [hV] at hF hO ⊢;have HF:=Lib.hid hF;have HV:=Lib.hid hV
 have hO':∀ q,(Value.slice va V.length vc).ownBlock=some q→w.heap.size+1+1+1+1≤q:=fun q hq=>by
  have:=hO q hq
  simpa using this
 have HO:=Lib.hid hO';clear hF hV hO hO';have HX1':=Lib.hid (Nat.lt_of_le_of_lt (Nat.le_refl _) HX1.out.lt);obtain ⟨⟨p0,p1,p2,p3,p4,p5⟩,⟨x0,x1,x2,x3,x4,x5⟩,l0,l1,⟨r0,r1,r2,r3,r4,r5⟩,ta,tr,_,_⟩:=HX1.out
 rcases Nat.eq_zero_or_pos V.length with h0 | h0
 ·have hnil:V=[]:=List.length_eq_zero_iff.1 h0
  subst hnil;have f0:=tFq tr 0 (by decide);have f1:=tFq tr 1 (by decide);have f2:=tFq tr 2 (by decide);have f3:=tFq tr 3 (by decide);have f4:=tFq tr 4 (by decide);have f5:=tFq tr 5 (by decide);clear ta tr p0 p1 p2 p3 p4 p5 x0 x1 x2 x3 x4 x5 l0 l1 h0;go_wp2;refine bodyPost_ret (results_agg2 rfl _ _ (w.heap.size+1+1+1) [.string ⟨#[]⟩,.slice none 0 0,.int .i64 0,.int .u32 0,.int .i64 0,.int .i64 0] (.struct _) rfl (World.rangeAt_setCells_same w1 (w.heap.size+1+1+1) 0 [.string ⟨#[]⟩,.slice none 0 0,.int .i64 0,.int .u32 0,.int .i64 0,.int .i64 0] HX1.out.tr) Tryz.underlying54 rfl (by kernel_rfl)) rfl ?_;have hbb:=below_puts (g:=w.heap.size+1+1+1) (o:=0) HX1.out.below (by omega) [.string ⟨#[]⟩,.slice none 0 0,.int .i64 0,.int .u32 0,.int .i64 0,.int .i64 0]
  refine ⟨.slice none 0 0,by first | exact RdAt.nil _ _ | (rw [HV.out];exact RdAt.nil _ _),fun q hq=>by simp [Value.ownBlock] at hq,hbb,?_⟩
  first
   | rfl
   | (rw [HC.out];rfl)
 ·rw [decide_eq_true h0,Bool.true_and] at HC
  obtain ⟨n,hn⟩:∃ n,V.length=n+1:=⟨V.length - 1,by omega⟩;rw [hn] at HF HO ⊢;have hz:(((n+1:Nat):Int)==0)=false:=by rw [beq_eq_false_iff_ne];omega
  clear hn h0;clear ta tr p0 p1 p2 p3 p4 p5 r0 r1 r2 r3 r4 r5;obtain ⟨q,hq⟩:∃ q,flowsL lv c tl tc=q:=⟨_,rfl⟩;rw [hq] at HC k2;clear hq;go_wp2_with fail
  refine (k2 _).mono ?_;rintro e w2 ⟨rfl,hb2⟩;have HX2:=Lib.hid (HX1.out.later hb2);have HF2:=Lib.hid (HF.out.later hb2);clear x0 x1 x2 x3 x4 x5 l0 l1 hb2 HF HX1 HX1' k2;obtain ⟨_,⟨x0,x1,x2,x3,x4,x5⟩,_,_,⟨r0,r1,r2,r3,r4,r5⟩,ta,tr,_,_⟩:=HX2.out;have f0:=tFq tr 0 (by decide);have f1:=tFq tr 1 (by decide);have f2:=tFq tr 2 (by decide);have f3:=tFq tr 3 (by decide);have f4:=tFq tr 4 (by decide);have f5:=tFq tr 5 (by decide);have g1:=tFq ta 1 (by decide);clear ta tr
  cases q
  ·go_wp2
   refine bodyPost_ret (results_agg2 rfl _ _ (w.heap.size+1+1+1) [.string ⟨#[]⟩,.slice none 0 0,.int .i64 0,.int .u32 0,.int .i64 0,.int .i64 0] (.struct _) rfl (World.rangeAt_setCells_same w2 (w.heap.size+1+1+1) 0 [.string ⟨#[]⟩,.slice none 0 0,.int .i64 0,.int .u32 0,.int .i64 0,.int .i64 0] HX2.out.tr) Tryz.underlying54 rfl (by kernel_rfl)) rfl ?_;have hbb:=below_puts (g:=w.heap.size+1+1+1) (o:=0) HX2.out.below (by omega) [.string ⟨#[]⟩,.slice none 0 0,.int .i64 0,.int .u32 0,.int .i64 0,.int .i64 0];have hF3:=rd_puts (g:=w.heap.size+1+1+1) (o:=0) HF2.out (fun q hq=>by have:=HO.out q hq;omega) [.string ⟨#[]⟩,.slice none 0 0,.int .i64 0,.int .u32 0,.int .i64 0,.int .i64 0]
   refine ⟨_,by first | exact hF3 | (rw [HV.out];exact hF3),fun q hq=>by have:=HO.out q hq;omega,hbb,?_⟩
   first
    | rfl
    | (rw [HC.out];rfl)
  ·go_wp2
   have hT:=World.there_setCells HX2.out.tr (w.heap.size+1) 1 [.slice va (n+1) vc];refine bodyPost_ret (results_agg2 rfl _ _ (w.heap.size+1+1+1) [.string src,.slice va (n+1) vc,.int .i64 lv,.int .u32 c,.int .i64 fr,.int .i64 til] (.struct _) rfl (World.rangeAt_setCells_same _ (w.heap.size+1+1+1) 0 [.string src,.slice va (n+1) vc,.int .i64 lv,.int .u32 c,.int .i64 fr,.int .i64 til] hT) Tryz.underlying54 rfl (by kernel_rfl)) rfl ?_;have hba:=below_puts (g:=w.heap.size+1) (o:=1) HX2.out.below (by omega) [.slice va (n+1) vc];have hbb:=below_puts (g:=w.heap.size+1+1+1) (o:=0) hba (by omega) [.string src,.slice va (n+1) vc,.int .i64 lv,.int .u32 c,.int .i64 fr,.int .i64 til];have hF3:=rd_puts (g:=w.heap.size+1) (o:=1) HF2.out (fun q hq=>by have:=HO.out q hq;omega) [.slice va (n+1) vc];have hF4:=rd_puts (g:=w.heap.size+1+1+1) (o:=0) hF3 (fun q hq=>by have:=HO.out q hq;omega) [.string src,.slice va (n+1) vc,.int .i64 lv,.int .u32 c,.int .i64 fr,.int .i64 til]
   refine ⟨_,by first | exact hF4 | (rw [HV.out];exact hF4),fun q hq=>by have:=HO.out q hq;omega,hbb,?_⟩
   first
    | rfl
    | (rw [HC.out];rfl)
theorem rightL_iff {l:Int}:rightL l=true↔0≤l∧l≤7:=by simp [rightL]
theorem orN_lt (c d:Nat):orN c d < 4294967296:=(BitVec.ofNat 32 c ||| BitVec.ofNat 32 d).isLt
theorem joinL_right (a b:Int × Nat):rightL (joinL a b).1=true∧(joinL a b).2 < 4294967296:=by
 unfold joinL
 split
 ·rename_i h
  simp only [Bool.and_eq_true] at h;obtain ⟨h1,h2⟩:=h;rw [rightL_iff] at h1 h2;refine ⟨rightL_iff.2 (by dsimp only;omega),orN_lt _ _⟩
 ·exact ⟨by decide,by decide⟩
theorem sum_take_le:∀ (ts:List Nat) (k:Nat),sumN (ts.take k)≤sumN ts:=by
 have h:∀ (ts:List Nat) (a b:Nat),a≤b→ts.foldl (fun a k=>a+2 ^ k) a≤ts.foldl (fun a k=>a+2 ^ k) b:=by
  intro ts
  induction ts with
  | nil=>intro a b h;exact h
  | cons t ts ih=>intro a b h;exact ih _ _ (Nat.add_le_add_right h _)
 have h2:∀ (ts:List Nat) (a k:Nat),(ts.take k).foldl (fun a k=>a+2 ^ k) a≤ts.foldl (fun a k=>a+2 ^ k) a:=by
  intro ts
  induction ts with
  | nil=>intro a k;simp
  | cons t ts ih =>
   intro a k
   cases k with
   | zero =>
    rw [List.take_zero,List.foldl_nil,List.foldl_cons];have h3:=ih (a+2 ^ t) 0;rw [List.take_zero,List.foldl_nil] at h3;exact Nat.le_trans (Nat.le_add_right a (2 ^ t)) h3
   | succ k=>rw [List.take_succ_cons,List.foldl_cons,List.foldl_cons];exact ih _ _
 exact fun ts k=>h2 ts 0 k
set_option maxHeartbeats 1600000 in
set_option maxRecDepth 100000 in
theorem rof_any (lv:Int) (ts:List Nat) (v:Value) (w:World) (hv:IntsAt w v (ts.map fun (k:Nat)=>(k:Int))) (ht:∀ t∈ts,t < 32) (hl:ts.length≤1000) (hs:sumN ts < 4294967296) :
  Calls Tryz.prog 139 #[.int .i64 lv,v] w fun e w'=>e=.returned (Lab lv (sumN ts))∧Below w.heap.size w w':=by
 obtain ⟨a,c,rfl,hc,hr⟩:=RdAt.shape hv;rw [List.length_map] at hc hr ⊢;have HR:=Lib.hid hr;obtain ⟨W0,hW0⟩:∃ z,(w.alloc (.cells #[.int .i64 0,.int .u32 0] 36)).alloc (.cells #[.int .i64 lv,.int .u32 0] 36)=z:=⟨_,rfl⟩;have hb0:Below w.heap.size w W0:=by rw [← hW0];exact (aBq _ _).trans ((aBq _ _).mono (by simp))
 have hd:=Below.refl W0.heap.size W0;rw [← hW0] at hd;have hT1:=box_there hd;obtain ⟨y0,y1,z0,z1,hlt,_⟩:=box22 hd;obtain ⟨h1,h2,h3⟩:=box_cells hd;have hT0:=box_there h3;rw [World.size_alloc] at hT1;rw [hW0] at hT1 hT0 y0 y1 z0 z1 hlt;have HT0:=Lib.hid hT0;have HT1:=Lib.hid hT1;have HB0:=Lib.hid hb0;have HY:=Lib.hid (And.intro y0 y1);have HW0:=Lib.hid hW0;clear hd h1 h2 h3 hr hv hT0 hT1 hb0 y0 y1 hlt hW0
 go_enter Tryz.func139,Tryz.ntmps139
 go_upto_region 2 with fail;rw [HW0.out];clear HW0;go_wp2
 go_loopw [6] (fun i wr=>∃ (k s:Nat),i=.int .i64 k∧k≤ts.length∧Hid (s=sumN (ts.take k))∧wr.cell? ⟨w.heap.size+1,0,none⟩=some (.int .i64 lv)∧wr.cell? ⟨w.heap.size+1,1,none⟩=some (.int .u32 s)∧Hid (wr.cell? ⟨w.heap.size,0,none⟩=some (.int .i64 0)∧wr.cell? ⟨w.heap.size,1,none⟩=some (.int .u32 0))∧Hid (wr.there w.heap.size 0 2)∧Hid (wr.there (w.heap.size+1) 0 2)∧Hid (Below w.heap.size w wr)) (fun i _=>ts.length - (intOf i).toNat)
 case atStart=>exact ⟨0,0,rfl,Nat.zero_le _,Lib.hid (by simp [sumN]),z0,z1,HY,HT0,HT1,HB0⟩
 case round =>
  clear HT0 HT1 HB0 HY;obtain ⟨k,s,rfl,hk,HS,z0,z1,HY,HT0,HT1,HB⟩:=hrel
  by_cases hkl:k < ts.length
  ·obtain ⟨b,o,rfl,hb,hcell⟩:=HR.out (by omega)
   obtain ⟨t,htk⟩:∃ t,ts[k]=t:=⟨_,rfl⟩;have hcr:wr.cell? ⟨b,o+k,none⟩=some (.int .i64 t):=kCq (hcell k _ (by rw [List.map_map,List.getElem?_map,List.getElem?_eq_getElem hkl,htk];rfl)) HB.out hb;have ht32:t < 32:=by rw [← htk];exact ht _ (List.getElem_mem hkl)
   have hnext:sumN (ts.take (k+1))=s+2 ^ t:=by rw [List.take_succ_eq_append_getElem hkl,sumN_snoc,htk,HS.out]
   have hle:=sum_take_le ts (k+1);rw [hnext] at hle;obtain ⟨p,hp⟩:∃ p,2 ^ t=p:=⟨_,rfl⟩;have HN:Hid (sumN (ts.take (k+1))=s+p):=by rw [hp] at hnext;exact hnext
   have HP:=Lib.hid hp;have hsp:s+p < 4294967296:=by rw [hp] at hle;omega
   clear hcell htk hnext hle hp HS;go_wp2
   go_loopw [7,8] (fun q j wx=>∃ (m r:Nat),j=.int .i64 m∧m≤t∧q=.int .u32 r∧Hid (r=2 ^ m)∧wx=wr) (fun _ j _=>t - (intOf j).toNat)
   case atStart=>exact ⟨0,1,rfl,Nat.zero_le _,rfl,Lib.hid rfl,rfl⟩
   case round =>
    obtain ⟨m,r,rfl,hm,rfl,HRm,hwx⟩:=hrel;subst hwx
    by_cases hmt:m < t
    ·have hI:(m:Int) < (t:Int):=by omega
     have hr2:r * 2 < 4294967296:=by
      have e:r * 2=2 ^ (m+1):=by rw [HRm.out,Nat.pow_succ]
      have:=Nat.pow_le_pow_right (n:=2) (by decide) (show m+1≤31 by omega)
      omega
     have q1:IntKind.u32.wrap ((r:Int) * 2)=((r * 2:Nat):Int):=by rw [IntKind.wrap_u32'];omega
     have HR2:Hid (r * 2=2 ^ (m+1)):=by show _=_;rw [HRm.out,Nat.pow_succ]
     generalize r * 2=r2 at *;go_wp2;go_roundw
     case rel=>exact ⟨m+1,r2,by go_num,by omega,rfl,HR2,trivial⟩
     case measure=>(simp [intOf];try omega)
    ·obtain rfl:m=t:=by omega
     have q1:IntKind.u32.wrap ((s:Int)+(r:Int))=((s+p:Nat):Int):=by
      rw [HRm.out,HP.out,IntKind.wrap_u32'];omega
     have f1:=tFq HT1.out 1 (by decide);generalize s+p=s2 at *;go_wp2;go_roundw
     case rel =>
      refine ⟨k+1,s2,by go_num,by omega,Lib.hid HN.out.symm,?_,?_,?_,?_,?_,?_⟩
      ·rw [World.cell?_setCell_other _ _ _ _ (by simp)];exact z0
      ·exact World.cell?_setCell_same' _ _ _ (by rw [z1];rfl)
      ·exact Lib.hid ⟨by rw [World.cell?_setCell_other _ _ _ _ (by simp)];exact HY.out.1,by rw [World.cell?_setCell_other _ _ _ _ (by simp)];exact HY.out.2⟩
      ·exact Lib.hid (World.there_setCells HT0.out (w.heap.size+1) 1 [.int .u32 s2])
      ·exact Lib.hid (World.there_setCells HT1.out (w.heap.size+1) 1 [.int .u32 s2])
      ·exact Lib.hid (below_put HB.out (by omega))
     case measure=>(simp [intOf];try omega)
  ·obtain rfl:k=ts.length:=by omega
   obtain ⟨y0,y1⟩:=HY.out;have f0:=tFq HT0.out 0 (by decide);have f1:=tFq HT0.out 1 (by decide);have hss:s=sumN ts:=by have:=HS.out;rwa [List.take_length] at this
   have HSS:=Lib.hid hss;clear hss;go_wp2;refine bodyPost_ret (results_agg1 rfl _ _ w.heap.size [.int .i64 lv,.int .u32 s] (.struct _) rfl (World.rangeAt_setCells_same wr w.heap.size 0 [.int .i64 lv,.int .u32 s] HT0.out) Tryz.underlying36 rfl (by kernel_rfl)) rfl ?_;exact ⟨by rw [← HSS.out],below_put (below_put HB.out (by omega)) (by omega)⟩
def orL (c d n:Nat):List Nat:=(List.range n).filter fun k=>c.testBit k || d.testBit k
theorem orL_step (c d k:Nat):orL c d (k+1)=orL c d k ++ (if c.testBit k || d.testBit k then [k] else []):=by
 unfold orL;rw [List.range_succ,List.filter_append]
 congr 1
 cases h:(c.testBit k || d.testBit k) <;> simp [h]
theorem orL_len (c d n:Nat):(orL c d n).length≤n:=by
 have:=List.length_filter_le (fun k=>c.testBit k || d.testBit k) (List.range n)
 rw [List.length_range] at this;exact this
theorem orL_lt {c d n k:Nat} (h:k∈orL c d n):k < n:=List.mem_range.1 (List.mem_filter.1 h).1
theorem orL_sum {c d:Nat} (hc:c < 4294967296) (hd:d < 4294967296):sumN (orL c d 32)=orN c d:=by
 have h1:sumN (orL c d 32)=c ||| d:=teams_or (by omega) (by omega);rw [h1];unfold orN;rw [BitVec.toNat_or,BitVec.toNat_ofNat,BitVec.toNat_ofNat,Nat.mod_eq_of_lt (by omega),Nat.mod_eq_of_lt (by omega)]
theorem team_is {c k:Nat} (hk:k < 32):decide ((k:Int)∈teamsI c 32)=c.testBit k:=by
 rw [Bool.eq_iff_iff,decide_eq_true_eq,mem_teamsI,mem_teams];exact ⟨fun h=>h.2,fun h=>⟨hk,h⟩⟩
set_option maxHeartbeats 1600000 in
set_option maxRecDepth 100000 in
theorem rjoin_any (l:Int) (c:Nat) (m:Int) (d:Nat) (w:World) (hc:c < 4294967296) (hd:d < 4294967296) :
  Calls Tryz.prog 127 #[Lab l c,Lab m d] w fun e w'=>e=.returned (LabP (joinL (l,c) (m,d)))∧Below w.heap.size w w':=by
 have k1:=rright_any l c;have k2:=rright_any m d
 cases h1:rightL l
 ·rw [h1] at k1
  have HF:Hid (joinL (l,c) (m,d)=(7,4294967295)):=by show _=_;unfold joinL;simp [h1]
  clear h1
  go_enter Tryz.func127,Tryz.ntmps127
  go_wp2_with fail
  refine (k1 _).mono ?_;rintro e w1 ⟨rfl,hb1⟩;obtain ⟨⟨x0,x1,y0,y1⟩,⟨z0,z1,hT⟩,hlt,hB1⟩:=box222 hb1;have f0:=tFq hT 0 (by decide);have f1:=tFq hT 1 (by decide);have HT:=Lib.hid hT;clear hb1 hT k1 k2;go_wp2;refine bodyPost_ret (results_agg1 rfl _ _ (w.heap.size+1+1) [.int .i64 7,.int .u32 4294967295] (.struct _) rfl (World.rangeAt_setCells_same w1 (w.heap.size+1+1) 0 [.int .i64 7,.int .u32 4294967295] HT.out) Tryz.underlying36 rfl (by kernel_rfl)) rfl ?_;exact ⟨by rw [HF.out];rfl,below_put (below_put hB1 (by omega)) (by omega)⟩
 ·rw [h1] at k1
  cases h2:rightL m
  ·rw [h2] at k2
   have HF:Hid (joinL (l,c) (m,d)=(7,4294967295)):=by show _=_;unfold joinL;simp [h2]
   clear h1 h2
   go_enter Tryz.func127,Tryz.ntmps127
   go_wp2_with fail
   refine (k1 _).mono ?_;rintro e w1 ⟨rfl,hb1⟩;obtain ⟨⟨x0,x1,y0,y1⟩,⟨z0,z1,hT⟩,hlt,hB1⟩:=box222 hb1;clear hb1 k1;go_wp2_with fail
   refine (k2 _).mono ?_;rintro e w2 ⟨rfl,hb2⟩;have z0':=kCq z0 hb2 (by omega);have z1':=kCq z1 hb2 (by omega);have hT2:=there_later hT hb2 (by omega);have f0:=tFq hT2 0 (by decide);have f1:=tFq hT2 1 (by decide);have HT:=Lib.hid hT2;have hB2:=hB1.trans (hb2.mono hB1.size);clear hT hT2 x0 x1 y0 y1 z0 z1 hb2 hB1 k2;go_wp2;refine bodyPost_ret (results_agg1 rfl _ _ (w.heap.size+1+1) [.int .i64 7,.int .u32 4294967295] (.struct _) rfl (World.rangeAt_setCells_same w2 (w.heap.size+1+1) 0 [.int .i64 7,.int .u32 4294967295] HT.out) Tryz.underlying36 rfl (by kernel_rfl)) rfl ?_;exact ⟨by rw [HF.out];rfl,below_put (below_put hB2 (by omega)) (by omega)⟩
  ·rw [h2] at k2
   have HF:Hid (joinL (l,c) (m,d)=(max l m,orN c d)):=by show _=_;unfold joinL;simp [h1,h2]
   clear h1 h2;have k3:=fun W=>teams_any l c W hc;have k4:=fun W=>teams_any m d W hd;obtain ⟨i0,hi,hz0,hz1,hz2⟩:=info_parts info_int;have HC:=Lib.hid hc;have HD:=Lib.hid hd;clear hc hd
   go_enter Tryz.func127,Tryz.ntmps127
   go_wp2_with fail
   refine (k1 _).mono ?_;rintro e w1 ⟨rfl,hb1⟩;obtain ⟨⟨x0,x1,y0,y1⟩,⟨z0,z1,hT⟩,hlt,hB1⟩:=box222 hb1;clear hb1 k1;go_wp2_with fail
   refine (k2 _).mono ?_;rintro e w2 ⟨rfl,hb2⟩;have x0':=kCq x0 hb2 (by omega);have x1':=kCq x1 hb2 (by omega);have y0':=kCq y0 hb2 (by omega);have y1':=kCq y1 hb2 (by omega);have HZ:=Lib.hid (And.intro (kCq z0 hb2 (by omega)) (kCq z1 hb2 (by omega)));have HT:=Lib.hid (there_later hT hb2 (by omega));have HB2:=Lib.hid (hB1.trans (hb2.mono hB1.size));have hlt2:=Nat.lt_of_lt_of_le hlt hb2.size;have HLT:=Lib.hid hlt2;clear hT x0 x1 y0 y1 z0 z1 hb2 hB1 k2 hlt hlt2;go_wp2
   go_loopw [5,6] (fun v i wr=>∃ k:Nat,i=.int .i64 k∧k≤32∧wr.ownsRow w2.heap.size 3 1 v (orL c d k).length (((orL c d k).map fun (k:Nat)=>(k:Int)).map I)∧Below w2.heap.size w2 wr) (fun _ i _=>32 - (intOf i).toNat)
   case atStart=>exact ⟨0,rfl,Nat.zero_le _,World.ownsRow_nil _ _ _ _,Below.refl _ _⟩
   case round =>
    obtain ⟨k,rfl,hk,hown,hbr⟩:=hrel;have hls:=HLT.out;have X0:=kCq x0' hbr (by omega);have X1:=kCq x1' hbr (by omega);have Y0:=kCq y0' hbr (by omega);have Y1:=kCq y1' hbr (by omega)
    by_cases hkl:k < 32
    ·have hI:(k:Int) < 32:=by omega
     have hstep:=orL_step c d k;have hlen:=orL_len c d k;have tc:=team_is (c:=c) hkl;have td:=team_is (c:=d) hkl
     have ka:∀ W v,IntsAt W v (teamsI c 32)→Calls Tryz.prog 37 #[v,.int .i64 k] W fun e w'=>e=.returned (.bool (c.testBit k))∧Below W.heap.size W w':=fun W v h=>by
      have:=has_any (teamsI c 32) k v W h (by have:=teamsI_len c 32;omega)
      rw [tc] at this;exact this
     have kb:∀ W v,IntsAt W v (teamsI d 32)→Calls Tryz.prog 37 #[v,.int .i64 k] W fun e w'=>e=.returned (.bool (d.testBit k))∧Below W.heap.size W w':=fun W v h=>by
      have:=has_any (teamsI d 32) k v W h (by have:=teamsI_len d 32;omega)
      rw [td] at this;exact this
     have HS:=Lib.hid hstep;have HBR:=Lib.hid hbr;have HO:=Lib.hid hown;obtain ⟨va,vc,rfl,_,_⟩:=RdAt.shape (RdAt.own hown);clear tc td hstep hbr hown;have hxl:w.heap.size+1 < wr.heap.size:=by have:=HBR.out.size;omega
     go_wp2_with fail
     refine (k3 _).mono ?_;rintro e w3 ⟨v3,rfl,hi3,hb3⟩;obtain ⟨a3,c3,rfl,_,_⟩:=RdAt.shape hi3;have ka1:=ka w3 _ hi3;have y0:=kCq Y0 hb3 hxl;have y1:=kCq Y1 hb3 hxl
     cases hcb:c.testBit k
     ·rw [hcb] at ka1
      clear X0 X1 Y0 Y1;go_wp2_with fail
      refine ka1.mono ?_;rintro e w4 ⟨rfl,hb4⟩;have hb34:=hb3.trans (hb4.mono hb3.size);have y0':=kCq y0 hb4 (by have:=hb3.size;omega);have y1':=kCq y1 hb4 (by have:=hb3.size;omega);clear y0 y1 hi3 ka1;go_wp2_with fail
      refine (k4 _).mono ?_;rintro e w5 ⟨v5,rfl,hi5,hb5⟩;obtain ⟨a5,c5,rfl,_,_⟩:=RdAt.shape hi5;have kb1:=kb w5 _ hi5;have hb35:=hb34.trans (hb5.mono hb34.size)
      cases hdb:d.testBit k
      ·rw [hdb] at kb1
       have HBIT:Hid ((c.testBit k || d.testBit k)=false):=by show _=_;rw [hcb,hdb];rfl
       clear y0' y1' hcb hdb;go_wp2_with fail
       refine kb1.mono ?_;rintro e w6 ⟨rfl,hb6⟩;have HBN:=Lib.hid (hb35.trans (hb6.mono hb35.size));clear hb3 hb4 hb5 hb6 hb34 hb35 hi5 kb1;go_wp2;go_roundw
       case rel=>exact ⟨k+1,by go_num,by omega,by rw [HS.out,if_neg (by rw [HBIT.out];decide),List.append_nil];exact own_later HO.out HBN.out,HBR.out.trans (HBN.out.mono HBR.out.size)⟩
       case measure=>(simp [intOf];try omega)
      ·rw [hdb] at kb1
       have HBIT:Hid ((c.testBit k || d.testBit k)=true):=by show _=_;rw [hcb,hdb];rfl
       clear y0' y1' hcb hdb;go_wp2_with fail
       refine kb1.mono ?_;rintro e w6 ⟨rfl,hb6⟩;have HBN:=Lib.hid (hb35.trans (hb6.mono hb35.size));clear hb3 hb4 hb5 hb6 hb34 hb35 hi5 kb1;have hb9:=aBq w6 (.cells #[I k] 3);have hown9:=(own_later HO.out HBN.out).alloc (.cells #[I k] 3);go_wp2_with (at_builtin;(refine wpList_append_own _ rfl _ _ 38 rfl w2.heap.size 3 i0 (.int .i64 0) 1 8 Tryz.underlying38 hi hz0 hz1 hz2 rfl (by decide) _ _ _ rfl hown9 ⟨w6.heap.size,0,none⟩ 1 1 [I k] rfl rfl (cell_one_new _ _ _) (by simp [Value.oneCell']) (by unfold maxLen;omega) (by omega) (by have:=HBR.out.size;have:=HBN.out.size;simp;omega) ?_);intro v' w8 hown' hg8 hnil8)
       have hB8:Below w2.heap.size w2 w8:=((HBR.out.trans (HBN.out.mono HBR.out.size)).trans (hb9.mono (by have:=HBR.out.size;have:=HBN.out.size;omega))).grown hg8 (by have:=HBR.out.size;have:=HBN.out.size;simp;omega) (fun j e=>(hown9.lt j e).1);go_wp2;go_roundw
       case rel=>exact ⟨k+1,by go_num,by omega,by rw [HS.out,if_pos HBIT.out];simpa using hown',hB8⟩
       case measure=>(simp [intOf];try omega)
     ·rw [hcb] at ka1
      have HBIT:Hid ((c.testBit k || d.testBit k)=true):=by show _=_;rw [hcb];rfl
      clear X0 X1 Y0 Y1 y0 y1 hcb;go_wp2_with fail
      refine ka1.mono ?_;rintro e w4 ⟨rfl,hb4⟩;have HBN:=Lib.hid (hb3.trans (hb4.mono hb3.size));clear hb3 hb4 hi3 ka1;have hb9:=aBq w4 (.cells #[I k] 3);have hown9:=(own_later HO.out HBN.out).alloc (.cells #[I k] 3);go_wp2_with (at_builtin;(refine wpList_append_own _ rfl _ _ 38 rfl w2.heap.size 3 i0 (.int .i64 0) 1 8 Tryz.underlying38 hi hz0 hz1 hz2 rfl (by decide) _ _ _ rfl hown9 ⟨w4.heap.size,0,none⟩ 1 1 [I k] rfl rfl (cell_one_new _ _ _) (by simp [Value.oneCell']) (by unfold maxLen;omega) (by omega) (by have:=HBR.out.size;have:=HBN.out.size;simp;omega) ?_);intro v' w8 hown' hg8 hnil8)
      have hB8:Below w2.heap.size w2 w8:=((HBR.out.trans (HBN.out.mono HBR.out.size)).trans (hb9.mono (by have:=HBR.out.size;have:=HBN.out.size;omega))).grown hg8 (by have:=HBR.out.size;have:=HBN.out.size;simp;omega) (fun j e=>(hown9.lt j e).1);go_wp2;go_roundw
      case rel=>exact ⟨k+1,by go_num,by omega,by rw [HS.out,if_pos HBIT.out];simpa using hown',hB8⟩
      case measure=>(simp [intOf];try omega)
    ·obtain rfl:k=32:=by omega
     obtain ⟨va,vc,rfl,_,_⟩:=RdAt.shape (RdAt.own hown)
     have hii:IntsAt wr (.slice va (orL c d 32).length vc) ((orL c d 32).map fun (k:Nat)=>(k:Int)):=by
      have:=RdAt.own hown
      unfold IntsAt;rw [List.length_map];exact this
     have hof:=rof_any (max l m) (orL c d 32) _ wr hii (fun t ht=>orL_lt ht) (by have:=orL_len c d 32;omega) (by rw [orL_sum HC.out HD.out];exact orN_lt c d);rw [orL_sum HC.out HD.out] at hof;have HBR:=Lib.hid (HB2.out.trans (hbr.mono HB2.out.size));have HT3:=Lib.hid (there_later HT.out hbr HLT.out);have HZ3:=Lib.hid (And.intro (kCq HZ.out.1 hbr HLT.out) (kCq HZ.out.2 hbr HLT.out));have HLT3:=Lib.hid (Nat.lt_of_lt_of_le HLT.out hbr.size);clear hown hii hbr k3 k4 x0' x1' y0' y1' HT HZ HLT;rw [show ((32:Nat):Int)=32 from rfl];generalize (orL c d 32).length=on at *;go_wp2_with fail
     refine hof.mono ?_;rintro e w9 ⟨rfl,hb9⟩;have z0:=kCq HZ3.out.1 hb9 HLT3.out;have z1:=kCq HZ3.out.2 hb9 HLT3.out;have hT9:=there_later HT3.out hb9 HLT3.out;have f0:=tFq hT9 0 (by decide);have f1:=tFq hT9 1 (by decide);have HT9:=Lib.hid hT9;have HB9:=Lib.hid (HBR.out.trans (hb9.mono HBR.out.size));clear hT9 hb9 X0 X1 Y0 Y1 hof;go_wp2;refine bodyPost_ret (results_agg1 rfl _ _ (w.heap.size+1+1) [.int .i64 (max l m),.int .u32 (orN c d)] (.struct _) rfl (World.rangeAt_setCells_same w9 (w.heap.size+1+1) 0 [.int .i64 (max l m),.int .u32 (orN c d)] HT9.out) Tryz.underlying36 rfl (by kernel_rfl)) rfl ?_;exact ⟨by rw [HF.out],below_put (below_put HB9.out (by omega)) (by omega)⟩
def NmdFit (l:List Nmd):Prop:=∀ x∈l,x.2.2 < 4294967296
set_option maxHeartbeats 800000 in
set_option maxRecDepth 100000 in
theorem rfind_any (l:List Nmd) (nm:ByteArray) (v:Value) (w:World) (hv:NmdsAt w v l) (hl:l.length≤maxLen) :
  Calls Tryz.prog 43 #[v,.string nm] w fun e w'=>e=.returned (.tuple #[findV (findL l nm),.bool (findL l nm).isSome])∧Below w.heap.size w w':=by
 obtain ⟨a,c,rfl,hc,hr⟩:=RdAt.shape hv;have HR:=Lib.hid hr;have hl63:l.length≤9223372036854775807:=by unfold maxLen at hl;omega
 have hb0:=aBq w (.cells #[.int .i64 0,.int .u32 0] 36);have hd:=Below.refl (w.alloc (.cells #[.int .i64 0,.int .u32 0] 36)).heap.size (w.alloc (.cells #[.int .i64 0,.int .u32 0] 36));have hT:=box_there hd;obtain ⟨z0,z1,hlt,_⟩:=box2 hd;have HT:=Lib.hid hT;have HB:=Lib.hid hb0;have HLT:=Lib.hid hlt;clear hr hv hT hd hlt hb0
 go_enter Tryz.func43,Tryz.ntmps43
 go_upto_region 2 with fail;change Code.wp _ _ _ _ (w.alloc (.cells #[.int .i64 0,.int .u32 0] 36));generalize w.alloc (.cells #[.int .i64 0,.int .u32 0] 36)=w0 at *
 go_loopw [6] (fun i wr=>∃ k:Nat,i=.int .i64 k∧k≤l.length∧Hid (∀ j (h:j < l.length),j < k→decide (l[j].1=nm)=false)∧wr=w0) (fun i _=>l.length - (intOf i).toNat)
 case atStart=>exact ⟨0,rfl,Nat.zero_le _,Lib.hid (fun j h hj=>absurd hj (Nat.not_lt_zero _)),rfl⟩
 case round =>
  obtain ⟨k,rfl,hk,HN,hwr⟩:=hrel;subst hwr
  by_cases hkl:k < l.length
  ·obtain ⟨b,o,rfl,hb,hcell⟩:=HR.out (by omega)
   have HC:=nmdCells_at l k hkl;obtain ⟨x,hx⟩:∃ x,l[k]=x:=⟨_,rfl⟩;rw [hx] at HC;have q:∀ i v,(nmdC x)[i]?=some v→wr.cell? ⟨b,o+k * 3+i,none⟩=some v:=fun i v hi=>kCq (by have:=hcell _ _ (HC i v hi);rwa [← Nat.add_assoc] at this) HB.out hb;have c0:wr.cell? ⟨b,o+k * 3,none⟩=some (.string x.1):=q 0 _ rfl;have c1:wr.cell? ⟨b,o+k * 3+1,none⟩=some (.int .i64 x.2.1):=q 1 _ rfl;have c2:wr.cell? ⟨b,o+k * 3+2,none⟩=some (.int .u32 x.2.2):=q 2 _ rfl;have HX:=Lib.hid hx;have f0:=tFq HT.out 0 (by decide);have f1:=tFq HT.out 1 (by decide);clear q HC hcell hx
   by_cases hxn:x.1=nm
   ·have hbq:(x.1.toList==nm.toList)=true:=bytes_eq_iff.2 hxn
    have HF:Hid (findL l nm=some x):=by
     show _=_
     rcases idx_find (fun y:Nmd=>decide (y.1=nm)) default l 0 with ⟨k',hk',_,h2,h3,h4⟩ | ⟨_,_,h3⟩
     ·have:k'=k:=by
       rcases Nat.lt_trichotomy k' k with h | h | h
       ·have:=HN.out k' hk' h;rw [this] at h3;cases h3
       ·exact h
       ·have:=h4 k hkl h;rw [HX.out,decide_eq_true hxn] at this;cases this
      subst this;rw [← HX.out];exact h2
     ·have:=h3 k hkl;rw [HX.out,decide_eq_true hxn] at this;cases this
    go_wp2;refine bodyPost_ret (results_agg2 rfl _ _ w.heap.size [.int .i64 x.2.1,.int .u32 x.2.2] (.struct _) rfl (World.rangeAt_setCells_same wr w.heap.size 0 [.int .i64 x.2.1,.int .u32 x.2.2] HT.out) Tryz.underlying36 rfl (by kernel_rfl)) rfl ?_;exact ⟨by rw [HF.out];rfl,below_put (below_put HB.out (Nat.le_refl _)) (Nat.le_refl _)⟩
   ·have hbq:(x.1.toList==nm.toList)=false:=by rw [bytes_beq];exact decide_eq_false hxn
    go_wp2;go_roundw
    case rel=>exact ⟨k+1,by go_num,by omega,Lib.hid (fun j h hj=>by
     rcases Nat.lt_or_ge j k with h' | h'
     ·exact HN.out j h h'
     ·have:j=k:=by omega
      subst this;rw [HX.out];exact decide_eq_false hxn),trivial⟩
    case measure=>(simp [intOf];try omega)
  ·obtain rfl:k=l.length:=by omega
   have HF:Hid (findL l nm=none):=by
    show _=_
    rcases idx_find (fun y:Nmd=>decide (y.1=nm)) default l 0 with ⟨k',hk',_,h2,h3,h4⟩ | ⟨_,h2,h3⟩
    ·have:=HN.out k' hk' hk';rw [this] at h3;cases h3
    ·exact h2
   have f0:=tFq HT.out 0 (by decide);have f1:=tFq HT.out 1 (by decide);go_wp2;refine bodyPost_ret (results_agg2 rfl _ _ w.heap.size [.int .i64 0,.int .u32 0] (.struct _) rfl (World.rangeAt_setCells_same wr w.heap.size 0 [.int .i64 0,.int .u32 0] HT.out) Tryz.underlying36 rfl (by kernel_rfl)) rfl ?_;exact ⟨by rw [HF.out];rfl,below_put (below_put HB.out (Nat.le_refl _)) (Nat.le_refl _)⟩
set_option maxHeartbeats 1600000 in
set_option maxRecDepth 100000 in
theorem rraised_any (s0 s1 s2 s4 s5:Option Addr × Nat × Nat) (l:List Nmd) (rv:Value) (nm:ByteArray) (lv:Int) (c:Nat) (w:World) (hv:NmdsAt w rv l) (hl:l.length≤maxLen) (hfit:NmdFit l) (hc:c < 4294967296) :
  Calls Tryz.prog 113 #[.agg #[SV s0,SV s1,SV s2,rv,SV s4,SV s5],.string nm,Lab lv c] w fun e w'=>e=.returned (LabP (raisedL l nm (lv,c)))∧Below w.heap.size w w':=by
 have k1:=fun W (h:Below w.heap.size w W)=>rfind_any l nm rv W (hv.later h) hl;obtain ⟨ra,rc,rfl,_,_⟩:=RdAt.shape hv;clear hv;obtain ⟨a0,n0,c0⟩:=s0;obtain ⟨a1,n1,c1⟩:=s1;obtain ⟨a2,n2,c2⟩:=s2;obtain ⟨a4,n4,c4⟩:=s4;obtain ⟨a5,n5,c5⟩:=s5
 have hB0:Below w.heap.size w (((w.alloc (.cells #[.slice a0 n0 c0,.slice a1 n1 c1,.slice a2 n2 c2,.slice ra l.length rc,.slice a4 n4 c4,.slice a5 n5 c5] 26)).alloc (.cells #[.int .i64 lv,.int .u32 c] 36)).alloc (.cells #[.int .i64 0,.int .u32 0] 36)) :=
  ((aBq _ _).trans ((aBq _ _).mono (by simp))).trans ((aBq _ _).mono (by simp;omega))
 have k1:=k1 _ hB0
 cases hf:findL l nm with
 | none =>
  have HF:Hid (raisedL l nm (lv,c)=(lv,c)):=by show _=_;unfold raisedL;rw [hf]
  rw [hf] at k1;clear hf hB0
  go_enter Tryz.func113,Tryz.ntmps113
  go_wp2_with fail
  refine k1.mono ?_;rintro e w1 ⟨rfl,hb1⟩;obtain ⟨⟨x0,x1⟩,⟨z0,z1,hT⟩,hlt,hB1⟩:=box622 hb1;have ha:=aBq w1 (.cells #[.int .i64 0,.int .u32 0] 36);have x0':=kCq x0 ha (by omega);have x1':=kCq x1 ha (by omega);have z0':=kCq z0 ha (by omega);have z1':=kCq z1 ha (by omega);have hT2:=there_later hT ha (by omega);have f0:=tFq hT2 0 (by decide);have f1:=tFq hT2 1 (by decide);have HT:=Lib.hid hT2;have hB2:=Lib.hid (hB1.trans (ha.mono hB1.size));clear hb1 hT k1 ha x0 x1 z0 z1 hT2 hB1;simp only [findV,Option.isSome];go_upto_region 2 with fail;change Code.wp _ _ _ _ (w1.alloc (.cells #[.int .i64 0,.int .u32 0] 36));generalize w1.alloc (.cells #[.int .i64 0,.int .u32 0] 36)=w2 at *;go_wp2;refine bodyPost_ret (results_agg1 rfl _ _ (w.heap.size+1+1) [.int .i64 lv,.int .u32 c] (.struct _) rfl (World.rangeAt_setCells_same _ (w.heap.size+1+1) 0 [.int .i64 lv,.int .u32 c] HT.out) Tryz.underlying36 rfl (by kernel_rfl)) rfl ?_;exact ⟨by rw [HF.out],below_put (below_put hB2.out (by omega)) (by omega)⟩
 | some r =>
  have HF:Hid (raisedL l nm (lv,c)=joinL (lv,c) r.2):=by show _=_;unfold raisedL;rw [hf]
  rw [hf] at k1;obtain ⟨rn,rl,rcat⟩:=r;have hrc:rcat < 4294967296:=hfit _ (List.mem_of_find?_eq_some hf);have k2:=fun W=>rjoin_any lv c rl rcat W hc hrc;obtain ⟨jl,hjl⟩:∃ z,joinL (lv,c) (rl,rcat)=z:=⟨_,rfl⟩;obtain ⟨j1,j2⟩:=jl;simp only [hjl] at k2;rw [show (rn,rl,rcat).2=(rl,rcat) from rfl,hjl] at HF;clear hf hB0 hjl hrc
  go_enter Tryz.func113,Tryz.ntmps113
  go_wp2_with fail
  refine k1.mono ?_;rintro e w1 ⟨rfl,hb1⟩;obtain ⟨⟨x0,x1⟩,⟨z0,z1,hT⟩,hlt,hB1⟩:=box622 hb1;have ha:=aBq w1 (.cells #[.int .i64 rl,.int .u32 rcat] 36);have x0':=kCq x0 ha (by omega);have x1':=kCq x1 ha (by omega);have z0':=kCq z0 ha (by omega);have z1':=kCq z1 ha (by omega);have hT2:=there_later hT ha (by omega);have HT:=Lib.hid hT2;have hB2:=Lib.hid (hB1.trans (ha.mono hB1.size));have hlt2:w.heap.size+1+1 < (w1.alloc (.cells #[.int .i64 rl,.int .u32 rcat] 36)).heap.size:=by rw [World.size_alloc];omega
  have HL2:=Lib.hid hlt2;clear hb1 hT k1 ha x0 x1 z0 z1 hT2 hB1 hlt2;simp only [findV,Option.isSome];go_upto_region 2 with fail;change Code.wp _ _ _ _ (w1.alloc (.cells #[.int .i64 rl,.int .u32 rcat] 36));have y0:(w1.alloc (.cells #[.int .i64 rl,.int .u32 rcat] 36)).cell? ⟨w1.heap.size,0,none⟩=some (.int .i64 rl):=World.cell?_alloc_at _ _ _ _ rfl;have y1:(w1.alloc (.cells #[.int .i64 rl,.int .u32 rcat] 36)).cell? ⟨w1.heap.size,1,none⟩=some (.int .u32 rcat):=World.cell?_alloc_at _ _ _ _ rfl;generalize w1.alloc (.cells #[.int .i64 rl,.int .u32 rcat] 36)=w1' at *;go_wp2_with fail
  refine (k2 _).mono ?_;rintro e w2 ⟨rfl,hb2⟩;have z0:=kCq z0' hb2 HL2.out;have z1:=kCq z1' hb2 HL2.out;have hT3:=there_later HT.out hb2 HL2.out;have f0:=tFq hT3 0 (by decide);have f1:=tFq hT3 1 (by decide);have HT3:=Lib.hid hT3;have hB3:=Lib.hid (hB2.out.trans (hb2.mono hB2.out.size));clear x0' x1' y0 y1 z0' z1' HT HL2 hb2 hB2 hT3 k2;go_wp2;refine bodyPost_ret (results_agg1 rfl _ _ (w.heap.size+1+1) [.int .i64 j1,.int .u32 j2] (.struct _) rfl (World.rangeAt_setCells_same _ (w.heap.size+1+1) 0 [.int .i64 j1,.int .u32 j2] HT3.out) Tryz.underlying36 rfl (by kernel_rfl)) rfl ?_;exact ⟨by rw [HF.out],below_put (below_put hB3.out (by omega)) (by omega)⟩
theorem min14 (n:Nat):∃ k:Nat,k=min n 14∧k≤n∧k≤14∧min (n:Int) 14=(k:Int):=⟨min n 14,rfl,by omega,by omega,by omega⟩
set_option maxHeartbeats 1600000 in
set_option maxRecDepth 100000 in
theorem rcut_any (a0 a1 a2 a3 a4 a5:Option Addr) (n0 n1 n2 n3 n4 n5 c0 c1 c2 c3 c4 c5:Nat) (w:World) (h0:n0≤c0∧c0≤maxLen) (h1:n1≤c1∧c1≤maxLen) (h2:n2≤c2∧c2≤maxLen) (h3:n3≤c3∧c3≤maxLen) (h4:n4≤c4∧c4≤maxLen) (h5:n5≤c5∧c5≤maxLen) :
  Calls Tryz.prog 10 #[.agg #[.slice a0 n0 c0,.slice a1 n1 c1,.slice a2 n2 c2,.slice a3 n3 c3,.slice a4 n4 c4,.slice a5 n5 c5],.int .i64 14] w fun e w' =>
   e=.returned (.agg #[.slice a0 (min n0 14) c0,.slice a1 (min n1 14) c1,.slice a2 (min n2 14) c2,.slice a3 (min n3 14) c3,.slice a4 (min n4 14) c4,.slice a5 (min n5 14) c5])∧Below w.heap.size w w':=by
 obtain ⟨k0,e0,l0,m0,q0⟩:=min14 n0;obtain ⟨k1,e1,l1,m1,q1⟩:=min14 n1;obtain ⟨k2,e2,l2,m2,q2⟩:=min14 n2;obtain ⟨k3,e3,l3,m3,q3⟩:=min14 n3;obtain ⟨k4,e4,l4,m4,q4⟩:=min14 n4;obtain ⟨k5,e5,l5,m5,q5⟩:=min14 n5;rw [← e0,← e1,← e2,← e3,← e4,← e5];clear e0 e1 e2 e3 e4 e5;have z0:k0≤c0:=by omega
 have z1:k1≤c1:=by omega
 have z2:k2≤c2:=by omega
 have z3:k3≤c3:=by omega
 have z4:k4≤c4:=by omega
 have z5:k5≤c5:=by omega
 unfold maxLen at h0 h1 h2 h3 h4 h5;obtain ⟨W0,hW0⟩:∃ z,(w.alloc (.cells #[.slice a0 n0 c0,.slice a1 n1 c1,.slice a2 n2 c2,.slice a3 n3 c3,.slice a4 n4 c4,.slice a5 n5 c5] 26)).alloc (.cells #[.slice none 0 0,.slice none 0 0,.slice none 0 0,.slice none 0 0,.slice none 0 0,.slice none 0 0] 26)=z:=⟨_,rfl⟩;have hb0:Below w.heap.size w W0:=by rw [← hW0];exact (aBq _ _).trans ((aBq _ _).mono (by simp))
 have hd:=(Below.refl W0.heap.size W0);rw [← hW0] at hd;obtain ⟨g1,g2,g3⟩:=box_cells hd;have hT:=box_there hd;have hT1:W0.there w.heap.size 0 6:=hW0 ▸ box_there g3;obtain ⟨g4,_,_⟩:=box_cells g3;rw [World.size_alloc] at g1 hT;rw [hW0] at g1 g4 hT;have p0:=g4 0 _ rfl;have p1:=g4 1 _ rfl;have p2:=g4 2 _ rfl;have p3:=g4 3 _ rfl;have p4:=g4 4 _ rfl;have p5:=g4 5 _ rfl;have r0:=g1 0 _ rfl;have r1:=g1 1 _ rfl;have r2:=g1 2 _ rfl;have r3:=g1 3 _ rfl;have r4:=g1 4 _ rfl;have r5:=g1 5 _ rfl;have f0:=tFq hT 0 (by decide);have f1:=tFq hT 1 (by decide);have f2:=tFq hT 2 (by decide);have f3:=tFq hT 3 (by decide);have f4:=tFq hT 4 (by decide);have f5:=tFq hT 5 (by decide);have u0:=tFq hT1 0 (by decide);have u1:=tFq hT1 1 (by decide);have u2:=tFq hT1 2 (by decide);have u3:=tFq hT1 3 (by decide);have u4:=tFq hT1 4 (by decide);have u5:=tFq hT1 5 (by decide);have HB0:=Lib.hid hb0;have HT:=Lib.hid hT;have HW0:=Lib.hid hW0;clear hd g1 g2 g3 g4 hT hT1 hb0 hW0
 go_enter Tryz.func10,Tryz.ntmps10
 go_upto_region 1 with fail;rw [HW0.out];clear HW0;go_wp2;refine bodyPost_ret (results_agg1 rfl _ _ (w.heap.size+1) [.slice a0 k0 c0,.slice a1 k1 c1,.slice a2 k2 c2,.slice a3 k3 c3,.slice a4 k4 c4,.slice a5 k5 c5] (.struct _) rfl (World.rangeAt_setCells_same _ (w.heap.size+1) 0 [.slice a0 k0 c0,.slice a1 k1 c1,.slice a2 k2 c2,.slice a3 k3 c3,.slice a4 k4 c4,.slice a5 k5 c5] ?_) Tryz.underlying26 rfl (by kernel_rfl)) rfl ?_
 ·exact World.there_setCells HT.out w.heap.size 0 [.slice a0 k0 c0,.slice a1 k1 c1,.slice a2 k2 c2,.slice a3 k3 c3,.slice a4 k4 c4,.slice a5 k5 c5]
 ·exact ⟨rfl,below_puts (g:=w.heap.size+1) (o:=0) (below_puts (g:=w.heap.size) (o:=0) HB0.out (Nat.le_refl _) [.slice a0 k0 c0,.slice a1 k1 c1,.slice a2 k2 c2,.slice a3 k3 c3,.slice a4 k4 c4,.slice a5 k5 c5]) (by omega) [.slice a0 k0 c0,.slice a1 k1 c1,.slice a2 k2 c2,.slice a3 k3 c3,.slice a4 k4 c4,.slice a5 k5 c5]⟩
structure St where
  set:Option (Nat→Bool)
  next:Nat
  free:List Nat
structure Bs where
  pos:Nat
  err:Int
  sts:List St
def byteM (s:ByteArray) (k:Nat):Nat:=if h:k < s.size then (s[k]'h).toNat else 0
theorem byteM_lt (s:ByteArray) (k:Nat):byteM s k < 256:=by
  unfold byteM;split
  · exact UInt8.toNat_lt _
  · omega
def peekM (s:ByteArray) (b:Bs):Option Nat:=if b.err=0∧b.pos < s.size then some (byteM s b.pos) else none
def failM (b:Bs) (e:Int):Bs:=if b.err=0 then { b with err:=e } else b
theorem failM_pos (b:Bs) (e:Int):(failM b e).pos=b.pos:=by unfold failM;split <;> rfl
theorem failM_sts (b:Bs) (e:Int):(failM b e).sts=b.sts:=by unfold failM;split <;> rfl
def stepM (b:Bs):Bs:={ b with pos:=b.pos+1 }
def nodeM (b:Bs):Bs:={ b with sts:=b.sts ++ [⟨none,0,[]⟩] }
def addF:List St→Nat→Nat→List St
  | [],_,_=>[]
  | x :: l,0,t=>{ x with free:=x.free ++ [t] } :: l
  | x :: l,k+1,t=>x :: addF l k t
def freeM (b:Bs) (f t:Nat):Bs:={ b with sts:=addF b.sts f t }
def oneM (b:Bs) (S:Nat→Bool):Bs × (Nat × Nat):=({ b with sts:=b.sts ++ [⟨some S,b.sts.length+1,[]⟩,⟨none,0,[]⟩] },(b.sts.length,b.sts.length+1))
def signM (s:ByteArray) (b:Bs):Bs × Nat :=
  match peekM s b with
  | none=>(failM (stepM b) 2,0)
  | some c=>if c=92 then
      match peekM s (stepM b) with
      | none=>(failM (stepM (stepM b)) 2,0)
      | some d=>(stepM (stepM b),d)
    else (stepM b,c)
def rangeB (s:ByteArray) (b:Bs):Bool:=decide (peekM s b=some 45)&&(decide (b.pos+1 < s.size)&&!decide (byteM s (b.pos+1)=93))
def rangeM (s:ByteArray) (b:Bs) (lo:Nat):Bs × Nat:=if rangeB s b=true then signM s (stepM b) else (b,lo)
def addS (S:Nat→Bool) (lo hi:Nat):Nat→Bool:=fun c=>S c || (decide (lo≤c)&&decide (c≤hi))
def noS:Nat→Bool:=fun _=>false
def turnS (S:Nat→Bool):Nat→Bool:=fun c=>!S c
def oneS (c:Nat):Nat→Bool:=addS noS c c
def loopM (s:ByteArray):Nat→Bool→Bs→(Nat→Bool)→Bs × (Nat→Bool)
  | 0,_,b,S=>(b,S)
  | n+1,first,b,S =>
    match peekM s b with
    | none=>(failM b 2,S)
    | some d=>if d=93 then (if first then (failM b 2,S) else (stepM b,S)) else
      let x:=signM s b
      let y:=rangeM s x.1 x.2
      loopM s n false (if y.2 < x.2 then failM y.1 2 else y.1) (addS S x.2 y.2)
def classM (s:ByteArray) (b:Bs):Bs × (Nat→Bool) :=
  if peekM s b=some 94 then
    let r:=loopM s (s.size+1) true (stepM b) noS
    (r.1,turnS r.2)
  else loopM s (s.size+1) true b noS
def postB (c:Nat):Bool:=decide (c=42) || decide (c=43) || decide (c=63)
def oddB (c:Nat):Bool:=postB c || decide (c=124) || decide (c=40) || decide (c=41) || decide (c=91) || decide (c=93) || decide (c=92) || decide (c=46)
def timesM (s:ByteArray) (b:Bs) (x:Nat × Nat):Bs × (Nat × Nat) :=
  match peekM s b with
  | none=>(b,x)
  | some c=>if postB c=true then
      let f:=b.sts.length
      let t:=b.sts.length+1
      let b1:=freeM (freeM (nodeM (nodeM (stepM b))) f x.1) x.2 t
      let b2:=if c=43 then b1 else freeM b1 f t
      let b3:=if c=63 then b2 else freeM b2 x.2 x.1
      (b3,(f,t))
    else (b,x)
def closeM (s:ByteArray) (b:Bs):Bs:=stepM (if peekM s b=some 41 then b else failM b 2)
theorem closeM_pos (s:ByteArray) (b:Bs):(closeM s b).pos=b.pos+1:=by
  unfold closeM stepM;dsimp only;split <;> simp [failM_pos]
theorem closeM_sts (s:ByteArray) (b:Bs):(closeM s b).sts=b.sts:=by
  unfold closeM stepM;dsimp only;split <;> simp [failM_sts]
inductive Md where
  | either
  | alts (p:Nat × Nat)
  | row
  | parts (p:Nat × Nat)
  | atom
def runM (s:ByteArray):Nat→Md→Nat→Bs→Bs × (Nat × Nat)
  | 0,_,_,b=>(b,(0,0))
  | n+1,.either,d,b=>runM s n (.alts (b.sts.length,b.sts.length+1)) d (nodeM (nodeM b))
  | n+1,.alts p,d,b =>
    let r:=runM s n .row d b
    let b2:=freeM (freeM r.1 p.1 r.2.1) r.2.2 p.2
    if peekM s b2=some 124 then runM s n (.alts p) d (stepM b2) else (b2,p)
  | n+1,.row,d,b=>runM s n (.parts (b.sts.length,b.sts.length)) d (nodeM b)
  | n+1,.parts p,d,b =>
    match peekM s b with
    | none=>(b,p)
    | some c=>if c=124∨c=41 then (b,p) else
      let r:=runM s n .atom d b
      let t:=timesM s r.1 r.2
      runM s n (.parts (p.1,t.2.2)) d (freeM t.1 p.2 t.2.1)
  | n+1,.atom,d,b =>
    let c:=byteM s b.pos
    let b1:=stepM b
    if c=40 then
      (if d=8 then oneM (failM b1 3) noS else
        let r:=runM s n .either (d+1) b1
        (closeM s r.1,r.2))
    else if c=91 then oneM (classM s b1).1 (classM s b1).2
    else if c=46 then oneM b1 (turnS noS)
    else if c=92 then
      (match peekM s b1 with
       | none=>oneM (stepM (failM b1 2)) (oneS 0)
       | some e=>oneM (stepM b1) (oneS e))
    else if oddB c=true then oneM (failM b1 2) noS
    else oneM b1 (oneS c)
theorem addF_len (l:List St) (f t:Nat):(addF l f t).length=l.length:=by
  induction l generalizing f with
  | nil=>rfl
  | cons x l ih=>cases f <;> simp [addF,ih]
def tot (l:List St):Nat:=(l.map fun x=>1+x.free.length).sum
theorem len_tot (l:List St):l.length≤tot l:=by
  induction l with
  | nil=>simp
  | cons x l ih=>simp [tot] at ih ⊢;omega
theorem tot_addF (l:List St) (f t:Nat):tot (addF l f t)≤tot l+1:=by
  induction l generalizing f with
  | nil=>simp [addF,tot]
  | cons x l ih =>
    cases f with
    | zero=>simp [addF,tot];omega
    | succ f=>have:=ih f;simp [addF,tot] at this ⊢;omega
theorem free_tot (l:List St) (x:St) (h:x∈l):x.free.length≤tot l:=by
  induction l with
  | nil=>cases h
  | cons y l ih =>
    rcases List.mem_cons.1 h with rfl | h
    · simp [tot];omega
    · have:=ih h;simp [tot] at this ⊢;omega
theorem peekM_some {s:ByteArray} {b:Bs} {c:Nat} (h:peekM s b=some c):b.err=0∧b.pos < s.size∧c=byteM s b.pos:=by
  unfold peekM at h
  split at h
  · rename_i h';exact ⟨h'.1,h'.2,(Option.some.inj h).symm⟩
  · cases h
theorem failM_err {b:Bs} {e:Int} (he:e≠0):(failM b e).err≠0:=by
  unfold failM;split
  · exact he
  · rename_i h;exact h
theorem signM_len (s:ByteArray) (b:Bs):(signM s b).1.sts=b.sts:=by
  unfold signM
  split
  · rw [failM_sts];rfl
  · split
    · split
      · rw [failM_sts];rfl
      · rfl
    · rfl
theorem signM_pos (s:ByteArray) (b:Bs) (h:b.pos < s.size):b.pos < (signM s b).1.pos∧(signM s b).1.pos≤s.size+1:=by
  unfold signM
  split
  · rw [failM_pos];simp [stepM];omega
  · split
    · split
      · rw [failM_pos];simp [stepM];omega
      · simp [stepM];omega
    · simp [stepM];omega
theorem signM_lt (s:ByteArray) (b:Bs):(signM s b).2 < 256:=by
  unfold signM
  split
  · simp
  · rename_i c hc
    split
    · split
      · simp
      · rename_i d hd
        rw [(peekM_some hd).2.2];exact byteM_lt _ _
    · rw [(peekM_some hc).2.2];exact byteM_lt _ _
theorem rangeM_len (s:ByteArray) (b:Bs) (lo:Nat):(rangeM s b lo).1.sts=b.sts:=by
  unfold rangeM;split
  · rw [signM_len];rfl
  · rfl
theorem rangeB_pos {s:ByteArray} {b:Bs} (h:rangeB s b=true):b.pos+1 < s.size:=by
  unfold rangeB at h
  simp only [Bool.and_eq_true,decide_eq_true_eq] at h
  exact h.2.1
theorem rangeM_pos (s:ByteArray) (b:Bs) (lo:Nat):b.pos≤(rangeM s b lo).1.pos∧((rangeM s b lo).1.pos≤s.size+1∨(rangeM s b lo).1.pos=b.pos):=by
  unfold rangeM;split
  · rename_i h
    have:=signM_pos s (stepM b) (rangeB_pos h)
    simp only [stepM] at this ⊢;omega
  · simp
theorem loopM_len (s:ByteArray) (n:Nat):∀ (first:Bool) (b:Bs) (S:Nat→Bool),(loopM s n first b S).1.sts=b.sts:=by
  induction n with
  | zero=>intros;rfl
  | succ n ih =>
    intro first b S
    rw [loopM]
    split
    · rw [failM_sts]
    · split
      · split
        · rw [failM_sts]
        · rfl
      · rw [ih]
        split
        · rw [failM_sts,rangeM_len,signM_len]
        · rw [rangeM_len,signM_len]
theorem loopM_pos (s:ByteArray) (n:Nat):∀ (first:Bool) (b:Bs) (S:Nat→Bool),b.pos≤(loopM s n first b S).1.pos∧(b.pos≤s.size+1→(loopM s n first b S).1.pos≤s.size+1):=by
  induction n with
  | zero=>intros;exact ⟨Nat.le_refl _,fun h=>h⟩
  | succ n ih =>
    intro first b S
    rw [loopM]
    split
    · rw [failM_pos];exact ⟨Nat.le_refl _,fun h=>h⟩
    · rename_i d hd
      have hp:=(peekM_some hd).2.1
      split
      · split
        · rw [failM_pos];exact ⟨Nat.le_refl _,fun h=>h⟩
        · simp [stepM];omega
      · have h1:=signM_pos s b hp
        have h2:=rangeM_pos s (signM s b).1 (signM s b).2
        have h3:=ih false (if (rangeM s (signM s b).1 (signM s b).2).2 < (signM s b).2 then failM (rangeM s (signM s b).1 (signM s b).2).1 2 else (rangeM s (signM s b).1 (signM s b).2).1) (addS S (signM s b).2 (rangeM s (signM s b).1 (signM s b).2).2)
        have h4:(if (rangeM s (signM s b).1 (signM s b).2).2 < (signM s b).2 then failM (rangeM s (signM s b).1 (signM s b).2).1 2 else (rangeM s (signM s b).1 (signM s b).2).1).pos=(rangeM s (signM s b).1 (signM s b).2).1.pos:=by split <;> simp [failM_pos]
        rw [h4] at h3
        dsimp only
        exact ⟨by omega,fun h=>h3.2 (by omega)⟩
theorem classM_len (s:ByteArray) (b:Bs):(classM s b).1.sts=b.sts:=by
  unfold classM;split
  · exact (loopM_len _ _ _ _ _).trans rfl
  · exact loopM_len _ _ _ _ _
theorem classM_pos (s:ByteArray) (b:Bs):b.pos≤(classM s b).1.pos∧(b.pos≤s.size→(classM s b).1.pos≤s.size+1):=by
  unfold classM;split
  · have:=loopM_pos s (s.size+1) true (stepM b) noS
    simp only [stepM] at this ⊢
    exact ⟨by omega,fun h=>this.2 (by omega)⟩
  · have:=loopM_pos s (s.size+1) true b noS
    exact ⟨this.1,fun h=>this.2 (by omega)⟩
structure Gd (b b':Bs) (c:Nat):Prop where
  pos:b.pos≤b'.pos
  len:b.sts.length≤b'.sts.length
  tot:tot b'.sts≤tot b.sts+c+6 * (b'.pos - b.pos)
theorem Gd.trans {a b c:Bs} {m n:Nat} (h:Gd a b m) (h':Gd b c n):Gd a c (m+n):=by
  obtain ⟨h1,h2,h3⟩:=h
  obtain ⟨h4,h5,h6⟩:=h'
  exact ⟨by omega,by omega,by omega⟩
theorem gd_refl (b:Bs):Gd b b 0:=⟨Nat.le_refl _,Nat.le_refl _,by omega⟩
theorem gd_node (b:Bs):Gd b (nodeM b) 1:=⟨Nat.le_refl _,by simp [nodeM],by simp [nodeM,tot]⟩
theorem gd_free (b:Bs) (f t:Nat):Gd b (freeM b f t) 1:=⟨Nat.le_refl _,by simp [freeM,addF_len],by have:=tot_addF b.sts f t;simp only [freeM];omega⟩
theorem gd_fail (b:Bs) (e:Int):Gd b (failM b e) 0:=⟨by rw [failM_pos];exact Nat.le_refl _,by rw [failM_sts];exact Nat.le_refl _,by rw [failM_sts,failM_pos];omega⟩
theorem gd_step (b:Bs) (m:Nat) (hm:m≤6) {c:Bs} (h:Gd (stepM b) c m):Gd b c 0:=by
  obtain ⟨h1,h2,h3⟩:=h
  simp only [stepM] at h1 h2 h3
  exact ⟨by omega,h2,by omega⟩
theorem gd_step' {a b:Bs} {m k:Nat} (h:Gd a b m) (hk:m≤k+6):Gd a (stepM b) k:=by
  obtain ⟨h1,h2,h3⟩:=h
  exact ⟨by simp [stepM];omega,by simpa [stepM] using h2,by simp only [stepM];omega⟩
theorem gd_one (b:Bs) (S:Nat→Bool):Gd b (oneM b S).1 2:=⟨Nat.le_refl _,by simp [oneM],by simp [oneM,tot]⟩
theorem Gd.weak {a b:Bs} {m k:Nat} (h:Gd a b m) (hk:m≤k):Gd a b k:=⟨h.pos,h.len,by have:=h.tot;omega⟩
theorem gd_times (s:ByteArray) (b:Bs) (x:Nat × Nat):Gd b (timesM s b x).1 0:=by
  unfold timesM
  split
  · exact gd_refl b
  · split
    · dsimp only
      refine gd_step b 6 (Nat.le_refl _) ?_
      have h1:=(((gd_node (stepM b)).trans (gd_node _)).trans (gd_free _ b.sts.length x.1)).trans (gd_free _ x.2 (b.sts.length+1))
      split
      · split
        · exact h1.weak (by omega)
        · exact (h1.trans (gd_free _ _ _)).weak (by omega)
      · split
        · exact (h1.trans (gd_free _ _ _)).weak (by omega)
        · exact ((h1.trans (gd_free _ _ _)).trans (gd_free _ _ _)).weak (by omega)
    · exact gd_refl b
theorem times_part (s:ByteArray) (b:Bs) (x:Nat × Nat) (hx:x.1 < b.sts.length∧x.2 < b.sts.length):(timesM s b x).2.1 < (timesM s b x).1.sts.length∧(timesM s b x).2.2 < (timesM s b x).1.sts.length:=by
  unfold timesM
  split
  · exact hx
  · split
    · dsimp only
      have e:∀ b f t,(freeM b f t).sts.length=b.sts.length:=fun b f t=>by simp [freeM,addF_len]
      split <;> split <;> simp [e,nodeM,stepM]
    · exact hx
def costM:Md→Nat
  | .either=>5
  | .alts _=>3
  | .row=>1
  | .parts _=>0
  | .atom=>0
def partOk:Md→Bs→Prop
  | .alts p,b=>p.1 < b.sts.length∧p.2 < b.sts.length
  | .parts p,b=>p.1 < b.sts.length∧p.2 < b.sts.length
  | .atom,_=>True
  | _,_=>True
def fuelM (s:ByteArray) (b:Bs):Md→Nat
  | .either=>8 * (s.size - b.pos)+5
  | .alts _=>8 * (s.size - b.pos)+4
  | .row=>8 * (s.size - b.pos)+3
  | .parts _=>8 * (s.size - b.pos)+2
  | .atom=>8 * (s.size - b.pos)+1
structure RunOk (s:ByteArray) (md:Md) (d:Nat) (b:Bs) (r:Bs × (Nat × Nat)):Prop where
  gd:Gd b r.1 (costM md)
  p1:r.2.1 < r.1.sts.length
  p2:r.2.2 < r.1.sts.length
  top:r.1.pos≤s.size+12 - d
  more:md=.atom→b.pos < r.1.pos∧tot r.1.sts+1≤tot b.sts+6 * (r.1.pos - b.pos)
theorem runM_ok (s:ByteArray) (n:Nat):∀ (md:Md) (d:Nat) (b:Bs),d≤8→b.pos≤s.size+12 - d→(md=.atom→b.pos < s.size)→partOk md b→fuelM s b md≤n→RunOk s md d b (runM s n md d b):=by
  induction n with
  | zero=>intro md d b _ _ _ _ hn;cases md <;> simp [fuelM] at hn
  | succ n ih =>
    intro md d b hd hp ha hk hn
    cases md with
    | either =>
      simp only [fuelM] at hn
      have h:=ih (.alts (b.sts.length,b.sts.length+1)) d (nodeM (nodeM b)) hd hp (fun h=>by cases h) ⟨by simp [nodeM],by simp [nodeM]⟩ (by simp only [fuelM,nodeM];omega)
      obtain ⟨h1,h2,h3,h4,_⟩:=h
      rw [runM]
      exact ⟨(((gd_node b).trans (gd_node _)).trans h1).weak (by simp [costM]),h2,h3,h4,fun h=>by cases h⟩
    | alts p =>
      simp only [fuelM] at hn
      obtain ⟨hp1,hp2⟩:=hk
      have h:=ih .row d b hd hp (fun h=>by cases h) trivial (by simp only [fuelM];omega)
      obtain ⟨h1,h2,h3,h4,_⟩:=h
      have g:=(h1.trans (gd_free _ p.1 (runM s n .row d b).2.1)).trans (gd_free _ (runM s n .row d b).2.2 p.2)
      have hl:(freeM (freeM (runM s n .row d b).1 p.1 (runM s n .row d b).2.1) (runM s n .row d b).2.2 p.2).sts.length=(runM s n .row d b).1.sts.length:=by simp [freeM,addF_len]
      have hg:=g.len
      rw [runM]
      split
      · rename_i hpk
        obtain ⟨q1,q2,_⟩:=peekM_some hpk
        have hpp:(freeM (freeM (runM s n .row d b).1 p.1 (runM s n .row d b).2.1) (runM s n .row d b).2.2 p.2).pos=(runM s n .row d b).1.pos:=rfl
        have hpos:=h1.pos
        have h:=ih (.alts p) d (stepM (freeM (freeM (runM s n .row d b).1 p.1 (runM s n .row d b).2.1) (runM s n .row d b).2.2 p.2)) hd (by simp only [stepM];omega) (fun h=>by cases h) ⟨by simp only [stepM];omega,by simp only [stepM];omega⟩ (by simp only [fuelM,stepM];omega)
        obtain ⟨k1,k2,k3,k4,_⟩:=h
        refine ⟨?_,k2,k3,k4,fun h=>by cases h⟩
        have g2:=gd_step' g (k:=0) (by simp [costM])
        exact (g2.trans k1).weak (by simp [costM])
      · exact ⟨g.weak (by simp [costM]),by have:=h1.len;dsimp only;omega,by have:=h1.len;dsimp only;omega,h4,fun h=>by cases h⟩
    | row =>
      simp only [fuelM] at hn
      have h:=ih (.parts (b.sts.length,b.sts.length)) d (nodeM b) hd hp (fun h=>by cases h) ⟨by simp [nodeM],by simp [nodeM]⟩ (by simp only [fuelM,nodeM];omega)
      obtain ⟨h1,h2,h3,h4,_⟩:=h
      rw [runM]
      exact ⟨((gd_node b).trans h1).weak (by simp [costM]),h2,h3,h4,fun h=>by cases h⟩
    | parts p =>
      simp only [fuelM] at hn
      obtain ⟨hp1,hp2⟩:=hk
      rw [runM]
      split
      · exact ⟨(gd_refl b).weak (by simp [costM]),hp1,hp2,hp,fun h=>by cases h⟩
      · rename_i c hc
        split
        · exact ⟨(gd_refl b).weak (by simp [costM]),hp1,hp2,hp,fun h=>by cases h⟩
        · dsimp only
          have hps:=(peekM_some hc).2.1
          have h:=ih .atom d b hd hp (fun _=>hps) trivial (by simp only [fuelM];omega)
          obtain ⟨h1,h2,h3,h4,h5⟩:=h
          obtain ⟨h6,h7⟩:=h5 rfl
          have gt:=gd_times s (runM s n .atom d b).1 (runM s n .atom d b).2
          have pt:=times_part s (runM s n .atom d b).1 (runM s n .atom d b).2 ⟨h2,h3⟩
          have tp:(timesM s (runM s n .atom d b).1 (runM s n .atom d b).2).1.pos≤s.size+12 - d:=by
            unfold timesM
            split
            · exact h4
            · rename_i c' hc'
              have:=(peekM_some hc').2.1
              split
              · have e:∀ b f t,(freeM b f t).pos=b.pos:=fun _ _ _=>rfl
                dsimp only
                split <;> split <;> simp only [e,nodeM,stepM] <;> omega
              · exact h4
          generalize hr:runM s n .atom d b=r at *
          generalize ht:timesM s r.1 r.2=t at *
          have hfl:(freeM t.1 p.2 t.2.1).sts.length=t.1.sts.length:=by simp [freeM,addF_len]
          have hgl:=gt.len
          have hgp:=gt.pos
          have h1l:=h1.len
          have h:=ih (.parts (p.1,t.2.2)) d (freeM t.1 p.2 t.2.1) hd tp (fun h=>by cases h) ⟨by rw [hfl];show p.1 < _;omega,by rw [hfl];exact pt.2⟩ (by simp only [fuelM,freeM];omega)
          obtain ⟨k1,k2,k3,k4,_⟩:=h
          refine ⟨?_,k2,k3,k4,fun h=>by cases h⟩
          have g1:Gd r.1 (freeM t.1 p.2 t.2.1) 1:=(gt.trans (gd_free _ _ _)).weak (by omega)
          obtain ⟨a1,a2,a3⟩:=g1.trans k1
          exact ⟨by omega,by omega,by simp [costM] at a3 ⊢;omega⟩
    | atom =>
      simp only [fuelM] at hn
      have hps:=ha rfl
      rw [runM]
      have fin:∀ (b':Bs) (S:Nat→Bool),Gd (stepM b) b' 0→b'.pos≤s.size+2→RunOk s .atom d b (oneM b' S):=by
        intro b' S hg hp'
        obtain ⟨g1,g2,g3⟩:=hg.trans (gd_one b' S)
        simp only [stepM] at g1 g2 g3
        refine ⟨⟨by omega,g2,by simp [costM];omega⟩,by simp [oneM],by simp [oneM],?_,fun _=>⟨by omega,by omega⟩⟩
        show b'.pos≤_
        omega
      have hsp:(stepM b).pos=b.pos+1:=rfl
      split
      · split
        · exact fin _ _ (gd_fail _ _) (by rw [failM_pos,hsp];omega)
        · rename_i hd8
          have h:=ih .either (d+1) (stepM b) (by omega) (by rw [hsp];omega) (fun h=>by cases h) trivial (by simp only [fuelM,stepM];omega)
          obtain ⟨h1,h2,h3,h4,_⟩:=h
          generalize runM s n .either (d+1) (stepM b)=r at *
          obtain ⟨g1,g2,g3⟩:=h1
          simp only [stepM,costM] at g1 g2 g3
          have hcp:=closeM_pos s r.1
          have hcs:=closeM_sts s r.1
          exact ⟨⟨by dsimp only;omega,by dsimp only;rw [hcs];exact g2,by simp only [costM];rw [hcs];omega⟩,by dsimp only;rw [hcs];exact h2,by dsimp only;rw [hcs];exact h3,by dsimp only;omega,fun _=>⟨by dsimp only;omega,by dsimp only;rw [hcs];omega⟩⟩
      · split
        · have hc:=classM_pos s (stepM b)
          refine fin _ _ ⟨hc.1,by rw [classM_len];exact Nat.le_refl _,by rw [classM_len];omega⟩ ?_
          have:=hc.2 (by rw [hsp];omega)
          omega
        · split
          · exact fin _ _ (gd_refl _) (by rw [hsp];omega)
          · split
            · split
              · exact fin _ _ (gd_step' (gd_fail _ _) (by omega)) (by simp only [stepM,failM_pos];omega)
              · exact fin _ _ (gd_step' (gd_refl _) (by omega)) (by simp only [stepM];omega)
            · split
              · exact fin _ _ (gd_fail _ _) (by rw [failM_pos,hsp];omega)
              · exact fin _ _ (gd_refl _) (by rw [hsp];omega)
end Go.Proofs.YtipnhpfpppblhaaGreat
