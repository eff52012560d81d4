/- What several claims of this seat share: contracts of the functions that they reach. -/
import Derived.Test.YtipnhpfpppblhaaGreatQ13P1
import Derived.Maps.OwnOps
import Derived.Maps.Ext
import Derived.Sort.OwnSorted
import Derived.Lib.ConvBytes
import Derived.Test.YtipnhpfpppblhaaGreatShelf
import Derived.Shelf.SlicesQ.IndexFunc
import Derived.RangeFuncCalls
import Derived.RangeFuncNested
import Derived.OrdersHeld
import Derived.OrdersIn
import Derived.Deep.RegionHeld3

namespace Go.Proofs.YtipnhpfpppblhaaGreat
open Go.RowKit Go.Sort Go.Maps
theorem sortI_own (g cap:Nat) (zs:List Int) (w:World) {cur:Array Value} {e0:TypeId} (hg:w.heap[g]?=some (.cells cur e0 (0,0))) (hH:Holds (Value.int .i64) w g 0 zs.toArray) (hsz:zs.length≤1000000) :
  Calls Tryz.prog 148 #[.slice (some ⟨g,0,none⟩) zs.length cap] w fun e w' =>
   e=.returned (.tuple #[])∧w'.heap[g]?=some (.cells (putCells (Value.int .i64) 0 (zs.mergeSort fun x y=>decide (x≤y)).toArray cur) e0 (0,0))∧Below g w w':=by
 have hlt:g < w.heap.size:=(Array.getElem?_eq_some_iff.1 hg).1;refine (Tryz.slices_Sort_int g 0 cap zs w hH hlt (by omega)).mono ?_;rintro e w' ⟨rfl,n,os,rfl⟩;refine ⟨rfl,?_,rfl,rfl,rfl,by simp,fun k hk=>?_⟩
 ·rw [heap_grow_old _ _ (by simpa using hlt)]
  simp [putRow,mapBlock,Sort.ahead,Array.getElem?_modify,hg,onCells]
 ·rw [heap_grow_old _ _ (by simp;omega)]
  have:g≠k:=by omega
  simp [putRow,mapBlock,Sort.ahead,Array.getElem?_modify,this]
theorem holdsI_own {w:World} {g:Nat} {cur:Array Value} {e:TypeId} {ids:List Int} (hb:w.heap[g]?=some (.cells cur e (0,0))) (ht:cur.toList.take ids.length=ids.map (Value.int .i64)):Holds (Value.int .i64) w g 0 ids.toArray:=by
 intro j hj;have hj':j < ids.length:=by simpa using hj
 refine ⟨?_,by simp [World.frozen?,hb]⟩;have h1:(cur.toList.take ids.length)[j]?=(ids.map (Value.int .i64))[j]?:=by rw [ht]
 rw [List.getElem?_take_of_lt hj'] at h1;simp only [World.cell?,hb,Nat.zero_add];simp only [Option.isSome_none,Bool.false_eq_true,if_false];rw [← Array.getElem?_toList,h1]
 simp [hj']
theorem putI_take (cur:Array Value) (ts:List Int) (h:ts.length≤cur.size):(putCells (Value.int .i64) 0 ts.toArray cur).toList.take ts.length=ts.map (Value.int .i64):=by
 apply List.ext_getElem?
 intro j
 by_cases hj:j < ts.length
 ·rw [List.getElem?_take_of_lt hj,Array.getElem?_toList,List.getElem?_map]
  simp [putCells,hj,show j < cur.size by omega]
 ·rw [List.getElem?_take_eq_none (by omega),List.getElem?_eq_none (by simp;omega)]
def intsN (l:List Nat):List Int:=l.map fun (n:Nat)=>(n:Int)
theorem freeC_ints (l:List Nat):freeC l=(intsN l).map (Value.int .i64):=by simp [freeC,intsN]
def sortN (l:List Nat):List Nat:=l.mergeSort fun x y=>decide (x≤y)
theorem intsN_sort (l:List Nat):(intsN l).mergeSort (fun x y=>decide (x≤y))=intsN (sortN l):=by
 refine List.Perm.eq_of_pairwise (le:=fun x y:Int=>x≤y) (fun a b _ _ h1 h2=>Int.le_antisymm h1 h2) ?_ ?_ ?_
 ·have h:=List.pairwise_mergeSort (le:=fun (x y:Int)=>decide (x≤y)) (fun a b c h1 h2=>by simp at h1 h2 ⊢;omega) (fun a b=>by simp;omega) (intsN l)
  exact h.imp (fun h=>by simpa using h)
 ·have h:=List.pairwise_mergeSort (le:=fun (x y:Nat)=>decide (x≤y)) (fun a b c h1 h2=>by simp at h1 h2 ⊢;omega) (fun a b=>by simp;omega) l
  unfold intsN sortN;rw [List.pairwise_map];exact h.imp (fun h=>by simp at h ⊢;omega)
 ·exact (List.mergeSort_perm _ _).trans ((List.mergeSort_perm l _).map _).symm
theorem mem_sortN {l:List Nat} {k:Nat}:k∈sortN l↔k∈l:=(List.mergeSort_perm l _).mem_iff
theorem len_sortN (l:List Nat):(sortN l).length=l.length:=(List.mergeSort_perm l _).length_eq
def RisingN (l:List Nat):Prop:=l.Pairwise (· < ·)
theorem rising_sort {l:List Nat} (h:l.Nodup):RisingN (sortN l):=by
 have h1:=List.pairwise_mergeSort (le:=fun (x y:Nat)=>decide (x≤y)) (fun a b c h1 h2=>by simp at h1 h2 ⊢;omega) (fun a b=>by simp;omega) l;have h2:(sortN l).Nodup:=(List.mergeSort_perm l _).nodup_iff.2 h;exact (h1.and h2).imp (fun h=>by simp at h;omega)
def SeenAt (w:World) (b n:Nat) (S:Nat→Bool):Prop:=∃ D:DataW Unit,w.ownsMap Tryz.prog 3 (plainElem Tryz.prog 4) b n D∧IsMap D∧∀ k:Nat,D.atKey (.int .i64 k) (.lit (.bool false))=.lit (.bool (S k))
theorem lawI:Keyed Tryz.prog 3:=int_keyed Tryz.underlying3
theorem keyI (k:Nat) (h:k≤1000000):keyOf Tryz.prog 3 (.int .i64 (k:Int))=some (.int .i64 (k:Int)):=keyOf_int_mk Tryz.underlying3 (by simp [Lit.wf,IntKind.min,IntKind.max,IntKind.signed,IntKind.bits];omega)
theorem SeenAt.made (w:World):SeenAt (w.alloc (.map #[] 0)) w.heap.size 0 (fun _=>false):=⟨.map [],World.ownsMap_made _ _ _ _,isMap_empty,fun _=>rfl⟩
theorem SeenAt.lt {w:World} {b n:Nat} {S:Nat→Bool} (h:SeenAt w b n S):b < w.heap.size:=by
 obtain ⟨D,h,_⟩:=h;exact h.lt
theorem SeenAt.kept {w w':World} {b n:Nat} {S:Nat→Bool} {row:Option Nat} (h:SeenAt w b n S) (hg:w.grownBy w' row) (hne:some b≠row):SeenAt w' b n S:=by
 obtain ⟨D,h1,h2⟩:=h;exact ⟨D,h1.kept hg hne,h2⟩
set_option maxRecDepth 100000 in
theorem SeenAt.look {w:World} {b n:Nat} {S:Nat→Bool} (h:SeenAt w b n S) (k:Nat) (hk:k≤1000000):(Instr.lookup 198 (.map (some b)) (.int .i64 (k:Int)) false).run Tryz.prog w=.ok (.bool (S k)) w:=by
 obtain ⟨D,h1,_,h3⟩:=h;obtain ⟨v,ps,hr,hv⟩:=h1.lookup lawI Tryz.underlying198 (Tryz.zeroValue4 w) (zd:=.lit (.bool false)) (zp:=[]) (plainElem_bool Tryz.underlying4 false) (keyI k hk);rw [h3 k] at hv
 have:v=.bool (S k):=by
  unfold plainElem at hv;rw [Tryz.underlying4] at hv
  split at hv
  ·rename_i h1 h2;simp at hv;rw [hv.1]
  all_goals (first | cases hv | simp_all)
 rw [hr,this]
theorem SeenAt.put {w':World} {b n:Nat} {D:DataW Unit} {S:Nat→Bool} (hD:IsMap D) (hS:∀ k:Nat,D.atKey (.int .i64 k) (.lit (.bool false))=.lit (.bool (S k))) (k:Nat) (h:w'.ownsMap Tryz.prog 3 (plainElem Tryz.prog 4) b n (D.put (.int .i64 (k:Int)) (.lit (.bool true)))):SeenAt w' b n (fun j=>S j || decide (j=k)):=by
 refine ⟨_,h,hD.put _ _,fun j=>?_⟩
 by_cases hj:j=k
 ·subst hj
  rw [atKey_put_same hD (show WideAt.IsKeyLit (.int .i64 (j:Int)) from trivial)];simp
 ·rw [atKey_put_other (by simp;omega),hS j];simp [hj]
theorem wpList_append_rd2 {P:Program} {w:World} {ops:Array Oper} {rest:List Oper} {o:Oper} {a:Act} {Q:Exit→Act→World→Prop} (hgd:o.guard=none) (s x:Operand) (t:TypeId)
  (ho:o.op=.call { callee:=.builtin .append,args:=#[s,x],argTypes:=#[t,t] })
  (base:Nat) (e:TypeId) (i:TypeInfo) (z:Value) (size bytes:Nat) (ht:P.underlying t=some (.slice e)) (hi:P.info? e=some i) (hz:i.zero=some z)
  (hsize:i.size=size) (hby:i.bytes=bytes) (hzs:z.cells.size=size) (hsz:0 < size)
  (v:Value) (n:Nat) (xs:List Value) (hs:a.eval s=v) (hown:w.ownsRow base e size v n xs)
  (u:Value) (m:Nat) (news:List Value) (hx:a.eval x=u) (hu:RdAt w u m size news) (h1:∀ y∈news,y.oneCell'=true)
  (h63:n+m≤maxLen) (hbytes:(n+m) * bytes≤140737488355328) (hbase:base≤w.heap.size)
  (h:∀ v' w',w'.ownsRow base e size v' (n+m) (xs ++ news)→w.grownBy w' v.ownBlock→(v'.ownBlock=v.ownBlock∨v'.ownBlock=some w.heap.size)→wpList P ops Q rest (a.put o.dst v') w'):wpList P ops Q (o :: rest) a w:=by
 refine wpList_plain hgd fun K hK=>?_;obtain ⟨v',w',hr,h2,h3,h4⟩:=run_append_rd (P:=P) w t o.type base e i z size bytes ht hi hz hsize hby hzs hsz v n xs hown u m news hu h1 h63 hbytes hbase;unfold Oper.wp execOp;simp only [ho,resolve,invoke,builtin,Sem.run_bind,Sem.run_pure,Result.andThen_ok,List.map_toArray,List.map_cons,List.map_nil,hs,hx,hr];exact hK _ _ (h v' w' h2 h3 h4)
theorem ownsRow_pop {w:World} {base:Nat} {e:TypeId} {g n cap:Nat} {xs:List Value} {x:Value} (h:w.ownsRow base e 1 (.slice (some ⟨g,0,none⟩) (n+1) cap) (n+1) (xs ++ [x])):w.ownsRow base e 1 (.slice (some ⟨g,0,none⟩) n cap) n xs∧w.cell? ⟨g,n,none⟩=some x∧n+1≤cap:=by
 have hxl:xs.length=n:=by have:=h.1;simp at this;omega
 have hc:=(ownsRow_cell h (g:=g) (j:=n) (u:=x) rfl (by rw [List.getElem?_append_right (by omega)];simp [hxl])).1
 rcases h.2 with ⟨h1,_⟩ | ⟨g',cap',cur,he,hb,hg,hle,hcap,hsz,htk⟩
 ·simp at h1
 ·simp only [Value.slice.injEq,Option.some.injEq,Addr.mk.injEq] at he
  obtain ⟨⟨rfl,_,_⟩,_,rfl⟩:=he;refine ⟨⟨by simp [hxl],.inr ⟨g,cap,cur,rfl,hb,hg,by omega,hcap,hsz,?_⟩⟩,hc,hle⟩;have h2:cur.toList.take (n * 1)=(cur.toList.take ((n+1) * 1)).take n:=by rw [List.take_take];congr 1;omega
  rw [h2,htk,← hxl,List.take_left]
theorem run_clear_map (w:World) (T:TypeId) (k e ty:TypeId) {P:Program} (ht:P.underlying T=some (.map k e)) {b:Nat} {es:Array MapEntry} {clock:Nat} (hb:w.heap[b]?=some (.map es clock)) :
  ∃ w',(Builtin.clear_ #[T] ty #[.map (some b)]).run P w=.ok (.tuple #[]) w'∧w.grownBy w' (some b):=by
 refine ⟨{ w with heap:=w.heap.setIfInBounds b (.map #[] clock) },?_,⟨rfl,rfl,rfl,by simp,fun k _ hk=>?_⟩⟩
 ·simp [Builtin.clear_,run_underlying ht,Result.andThen]
  simp [getObj,setObj,Sem.run,hb]
 ·have:b≠k:=fun e=>hk (by rw [e])
  simp [this]
def lenV:Value→Nat
 | .slice _ n _=>n
 | _=>0
structure ReAt (w:World) (m:Nat) (sts:List St) (l out todo:List Nat) (vo vt:Value) (wr:World):Prop where
 ge:w.heap.size≤m
 below:Below w.heap.size w wr
 inv:ReInv sts l out todo
 seen:∃ n,n≤out.length∧SeenAt wr m n (fun k=>decide (k∈out))
 ro:wr.ownsRow w.heap.size 3 1 vo out.length (freeC out)
 rt:wr.ownsRow w.heap.size 3 1 vt todo.length (freeC todo)
 mo:vo.ownBlock≠some m
 mt:vt.ownBlock≠some m
 ot:vo.ownBlock=none∨vo.ownBlock≠vt.ownBlock
 len:todo.length≤l.length+out.length * tot sts
theorem ReAt.bound {w:World} {m:Nat} {sts:List St} {l out todo:List Nat} {vo vt:Value} {wr:World} (h:ReAt w m sts l out todo vo vt wr):out.length≤sts.length:=nodup_lt h.inv.nd h.inv.bo
theorem freeC_snoc (l:List Nat) (k:Nat):freeC (l ++ [k])=freeC l ++ [.int .i64 k]:=by simp [freeC]
theorem freeC_app (l r:List Nat):freeC (l ++ r)=freeC l ++ freeC r:=by simp [freeC]
theorem own_len {w:World} {base:Nat} {e:TypeId} {size:Nat} {v:Value} {n:Nat} {xs:List Value} (h:w.ownsRow base e size v n xs):lenV v=n:=by
 rcases h.2 with ⟨rfl,rfl⟩ | ⟨g,cap,_,rfl,_⟩ <;> rfl
theorem own_shape {w:World} {base:Nat} {e:TypeId} {size:Nat} {v:Value} {n:Nat} {xs:List Value} (h:w.ownsRow base e size v n xs):∃ a c,v=.slice a n c∧(0 < n→∃ g,a=some ⟨g,0,none⟩):=by
 rcases h.2 with ⟨rfl,rfl⟩ | ⟨g,cap,_,rfl,_⟩
 ·exact ⟨_,_,rfl,fun h=>absurd h (Nat.lt_irrefl _)⟩
 ·exact ⟨_,_,rfl,fun _=>⟨g,rfl⟩⟩
theorem sort_row (w:World) (base n:Nat) (l:List Nat) (v:Value) (hn:l.length=n) (h:w.ownsRow base 3 1 v n (freeC l)) (hl:n≤1000000) :
  Calls Tryz.prog 148 #[v] w fun e w'=>e=.returned (.tuple #[])∧w'.ownsRow base 3 1 v n (freeC (sortN l))∧Below base w w':=by
 subst hn
 rcases Nat.eq_zero_or_pos l.length with h0 | h0
 ·have hnil:l=[]:=List.length_eq_zero_iff.1 h0
  subst hnil;obtain ⟨a,c,rfl,_⟩:=own_shape h;refine (Tryz.slices_Sort_int_none a c w).mono ?_;rintro e w' ⟨rfl,rfl⟩;exact ⟨rfl,by simpa [sortN] using h,Below.refl _ _⟩
 ·rcases h.2 with ⟨_,h1⟩ | ⟨g,cap,cur,rfl,hb,hg,hle,hcap,hsz,htk⟩
  ·omega
  ·have hil:(intsN l).length=l.length:=by simp [intsN]
   have htk':cur.toList.take (intsN l).length=(intsN l).map (Value.int .i64):=by rw [hil,← freeC_ints,← htk];congr 1;omega
   have hk:=sortI_own g cap (intsN l) w hg (holdsI_own hg htk') (by omega);rw [hil,intsN_sort] at hk;refine hk.mono ?_;rintro e w' ⟨rfl,h2,h3⟩;refine ⟨rfl,⟨?_,.inr ⟨g,cap,_,rfl,hb,h2,hle,hcap,by simpa [putCells] using hsz,?_⟩⟩,h3.mono hb⟩
   ·simp [freeC,len_sortN]
   ·have hsl:(intsN (sortN l)).length=l.length:=by simp [intsN,len_sortN]
    have:=putI_take cur (intsN (sortN l)) (by rw [hsl];omega)
    rw [hsl] at this;rw [Nat.mul_one,this,freeC_ints]
theorem PatAt.cells {w:World} {a:Nat} {s:ByteArray} {sts:List St} {st en:Nat} (h:PatAt w a s sts st en):∃ sa sn sc,w.cell? ⟨a,1,none⟩=some (.slice sa sn sc)∧w.cell? ⟨a,0,none⟩=some (.string s)∧w.cell? ⟨a,2,none⟩=some (.int .i64 st)∧w.cell? ⟨a,3,none⟩=some (.int .i64 en)∧a < w.heap.size ∧
  ∀ (k:Nat) (hk:k < sts.length),∃ r cap pv fv,(.slice sa sn sc:Value)=.slice (some ⟨r,0,none⟩) sts.length cap∧r < w.heap.size∧w.cell? ⟨r,k * 3,none⟩=some pv∧w.cell? ⟨r,k * 3+1,none⟩=some (.int .i64 (sts[k].next:Nat))∧w.cell? ⟨r,k * 3+2,none⟩=some fv ∧
   PtrAt w (fun _=>True) sts[k] pv∧w.ownsRow 0 3 1 fv sts[k].free.length (freeC sts[k].free):=by
 obtain ⟨sv,es,h⟩:=h;obtain ⟨sa,sn,sc,rfl⟩:=ownsRow_slice h.row;refine ⟨sa,sn,sc,by rw [cell_of_row _ _ _ _ _ _ h.blk];rfl,by rw [cell_of_row _ _ _ _ _ _ h.blk];rfl,by rw [cell_of_row _ _ _ _ _ _ h.blk];rfl,by rw [cell_of_row _ _ _ _ _ _ h.blk];rfl,(Array.getElem?_eq_some_iff.1 h.blk).1,fun k hk=>?_⟩;obtain ⟨r,cap,he,_,hlt⟩:=h.row.form (by omega);have hx:sts[k]?=some sts[k]:=List.getElem?_eq_getElem hk;obtain ⟨e,hee⟩:∃ e,es[k]?=some e:=⟨_,List.getElem?_eq_getElem (by rw [h.len];exact hk)⟩;obtain ⟨q0,q1,q2⟩:=stC_at sts es k _ e hx hee;have hb:(Value.slice sa sn sc).ownBlock=some r:=by rw [he];rfl
 exact ⟨r,cap,e.1,e.2,he,hlt,(ownsRow_cell h.row hb q0).1,(ownsRow_cell h.row hb q1).1,(ownsRow_cell h.row hb q2).1,h.ptr k _ e hx hee,(h.free k _ e hx hee).1⟩
theorem own_lt {w:World} {base:Nat} {e:TypeId} {size:Nat} {v:Value} {n:Nat} {xs:List Value} (h:w.ownsRow base e size v n xs) {k:Nat} (hk:v.ownBlock=some k):k < w.heap.size:=(h.lt k hk).2
theorem ReAt.more {w:World} {m:Nat} {sts:List St} {l out t:List Nat} {k gt tc go oc:Nat} {vo vt':Value} {wr w1 w2 w3:World} {o:Obj} (hw:SWf sts) (h:ReAt w m sts l out (t ++ [k]) vo (.slice (some ⟨gt,0,none⟩) (t.length+1) tc) wr) (hk:k ∉ out)
  (n:Nat) (hn:n≤out.length) (hs1:SeenAt w1 m (n+1) (fun j=>decide (j∈out) || decide (j=k))) (hg1:wr.grownBy w1 (some m))
  (ho2:w2.ownsRow w.heap.size 3 1 (.slice (some ⟨go,0,none⟩) (out.length+1) oc) (out.length+1) (freeC out ++ [.int .i64 k])) (hg2:(w1.alloc o).grownBy w2 vo.ownBlock) (ha2:vo.ownBlock=some go∨go=w1.heap.size+1)
  (hr3:w3.ownsRow w.heap.size 3 1 vt' (t.length+(frees sts k).length) (freeC t ++ freeC (frees sts k))) (hg3:w2.grownBy w3 (some gt)) (ha3:vt'.ownBlock=some gt∨vt'.ownBlock=some w2.heap.size) :
  ReAt w m sts l (out ++ [k]) (t ++ frees sts k) (.slice (some ⟨go,0,none⟩) (out.length+1) oc) vt' w3:=by
 have hgm:=(own_lt h.rt rfl:gt < wr.heap.size);obtain ⟨n0,_,hs0⟩:=h.seen;have hml:=hs0.lt;have hg1s:=hg1.size;have hg2s:w1.heap.size+1≤w2.heap.size:=by have:=hg2.size;rw [World.size_alloc] at this;exact this
 have hgom:go≠m:=by
  rcases ha2 with e | e
  ·exact fun e'=>h.mo (e' ▸ e)
  ·omega
 have hgt:gt≠m:=fun e=>h.mt (by rw [← e];rfl)
 have hgog:go≠gt:=by
  rcases ha2 with e | e
  ·rcases h.ot with h1 | h1
   ·rw [h1] at e;cases e
   ·exact fun e'=>h1 (by rw [e,e'];rfl)
  ·omega
 have hvom:vo.ownBlock≠some m:=h.mo;have hbase:∀ j,(Value.slice (some ⟨gt,0,none⟩) (t.length+1) tc).ownBlock=some j→w.heap.size≤j:=fun j e=>(h.rt.lt j e).1;have b1:Below w.heap.size w w1:=h.below.grown hg1 h.below.size (fun j e=>by cases e;exact h.ge);have b1':Below w.heap.size w (w1.alloc o):=b1.alloc b1.size o;have b2:Below w.heap.size w w2:=b1'.grown hg2 b1'.size (fun j e=>(h.ro.lt j e).1);have b3:Below w.heap.size w w3:=b2.grown hg3 b2.size (fun j e=>by cases e;exact hbase gt rfl);refine ⟨h.ge,b3,h.inv.new hw hk,⟨n+1,by simp;omega,?_⟩,?_,?_,?_,?_,?_,?_⟩
 ·have hs2:SeenAt w2 m (n+1) (fun j=>decide (j∈out) || decide (j=k)):=SeenAt.kept (row:=vo.ownBlock) (SeenAt.kept (row:=none) hs1 (World.grownBy_alloc w1 o none) (by simp)) hg2 (fun e=>hvom e.symm)
  have hs3:=SeenAt.kept (row:=some gt) hs2 hg3 (fun e=>hgt (Option.some.inj e).symm)
  have hf:(fun j=>decide (j∈out ++ [k]))=(fun j=>decide (j∈out) || decide (j=k)):=by
   funext j
   rw [Bool.eq_iff_iff]
   simp
  rw [hf];exact hs3
 ·rw [List.length_append,freeC_snoc]
  exact ho2.kept hg3 (.inr (fun e=>hgog (Option.some.inj e)))
 ·rw [List.length_append,freeC_app]
  exact hr3
 ·exact fun e=>hgom (Option.some.inj e)
 ·rcases ha3 with e | e
  ·rw [e];exact fun e'=>hgt (Option.some.inj e')
  ·rw [e];exact fun e'=>by have:=Option.some.inj e';omega
 ·refine .inr (fun e=>?_)
  rcases ha3 with e' | e'
  ·rw [e'] at e;exact hgog (Option.some.inj e)
  ·rw [e'] at e
   have h5:go=w2.heap.size:=Option.some.inj e;have h4:=own_lt ho2 (k:=go) rfl
   omega
 ·have h1:=h.len
  have h2:=frees_len sts k;simp only [List.length_append,List.length_cons,List.length_nil] at h1 ⊢;rw [Nat.add_mul]
  omega
set_option maxHeartbeats 6400000 in
set_option maxRecDepth 100000 in
theorem reach_is (w:World) (a:Nat) (s:ByteArray) (sts:List St) (st en:Nat) (l:List Nat) (v:Value) (hp:PatAt w a s sts st en) (hw:SWf sts) (hN:tot sts≤100000) (hv:RdAt w v l.length 1 (freeC l)) (hl:∀ j∈l,j < sts.length) (hll:l.length≤1000000) :
  Calls Tryz.prog 136 #[.pointer (some ⟨a,0,none⟩),v] w fun e w'=>∃ v' out,e=.returned v'∧w'.ownsRow w.heap.size 3 1 v' out.length (freeC out)∧Below w.heap.size w w'∧RisingN out∧∀ k,k∈out↔Cl sts l k:=by
 have hNl:sts.length≤100000:=Nat.le_trans (len_tot _) hN;obtain ⟨sa,sn,sc,c1,_,_,_,halt,hst⟩:=hp.cells;obtain ⟨i0,hi,hz0,hz1,hz2⟩:=info_parts info_intP;have HW:=Lib.hid hw;have HST:=Lib.hid hst;have hmm:=@run_makeMap Tryz.prog;have hba:=aBq w (.map #[] 0);have hS0:=SeenAt.made w
 have hcl:∀ W,Below w.heap.size w W→Calls Tryz.prog 147 #[v] W fun e w'=>∃ v',e=.returned v'∧w'.ownsRow W.heap.size 3 1 v' l.length (freeC l)∧Below W.heap.size W w':=fun W hW=>by
  have hvW:=hv.later hW
  rcases Nat.eq_zero_or_pos l.length with h0 | h0
  ·have hnil:l=[]:=List.length_eq_zero_iff.1 h0
   subst hnil
   rcases hvW.2 with ⟨rfl,_⟩ | ⟨ad,c,rfl,_,_⟩
   ·refine (Tryz.slices_Clone_int_nil 0 0 W).mono ?_
    rintro e w' ⟨rfl,rfl⟩;exact ⟨_,rfl,World.ownsRow_nil _ _ _ _,Below.refl _ _⟩
   ·refine (Tryz.slices_Clone_int_zero ad c W).mono ?_
    rintro e w' ⟨v',rfl,h1,_,h2⟩;exact ⟨v',rfl,h1,h2⟩
  ·obtain ⟨b,o,c,rfl,hcc,_,hcell⟩:=hvW.some h0
   have hil:(intsN l).length=l.length:=by simp [intsN]
   have hlen:l.length=(intsN l).length:=hil.symm;refine (Tryz.slices_Clone_int b o l.length c (intsN l) W (by omega) (by omega) (fun j hj=>?_)).mono ?_
   ·refine hcell j _ ?_
    rw [freeC_ints,List.getElem?_map,List.getD_eq_getElem?_getD,List.getElem?_eq_getElem hj];rfl
   ·rintro e w' ⟨v',rfl,h1,_,h2⟩
    rw [hlen,List.take_length,← freeC_ints,← hlen] at h1;exact ⟨v',rfl,h1,h2⟩
 have HCL:=Lib.hid hcl;have HLt:=Lib.hid hl;clear hp hw hl hv hcl hst
 go_enter Tryz.func136,Tryz.ntmps136
 go_wp2_with fail
 refine (HCL.out _ hba).mono ?_;rintro e w1 ⟨vt,rfl,hrt,hb1⟩;rw [World.size_alloc] at hrt
 have hre:ReAt w w.heap.size sts l [] l (.slice none 0 0) vt w1:=by
  refine ⟨Nat.le_refl _,hba.trans (hb1.mono (by rw [World.size_alloc];omega)),ReInv.start sts l HLt.out,⟨0,Nat.zero_le _,?_⟩,World.ownsRow_nil _ _ _ _,own_base hrt (by omega),by simp [Value.ownBlock],fun e=>?_,.inl rfl,by simp⟩
  ·exact SeenAt.kept (row:=none) (by simpa using hS0) (below_grown hb1 none) (by simp)
  ·have:=(hrt.lt _ e).1;omega
 have HRE:=Lib.hid hre;clear hba hS0 hre hrt hb1 hmm HCL HLt;go_wp2
 go_loopw [6,7] (fun vo vt wr=>∃ out todo,ReAt w w.heap.size sts l out todo vo vt wr) (fun vo vt _=>(sts.length - lenV vo) * (tot sts+1)+lenV vt)
 case atStart=>exact ⟨[],l,HRE.out⟩
 case round =>
  clear HRE;obtain ⟨out,todo,hR⟩:=hrel;have hob:=hR.bound
  rcases List.eq_nil_or_concat todo with rfl | ⟨t,k,rfl⟩
  ·have HR:=Lib.hid hR
   obtain ⟨n,hn,hS⟩:=hR.seen;obtain ⟨D,hD,hDm,_⟩:=hS;obtain ⟨es,clock,hbk,_⟩:=hD;obtain ⟨wc,hclr,hgc⟩:=run_clear_map wr 198 3 4 0 Tryz.underlying198 hbk;obtain ⟨ta,tc,rfl,_⟩:=own_shape hR.rt;have hks:=sort_row wc w.heap.size out.length out u6 rfl (hR.ro.kept hgc (.inr hR.mo)) (by omega);have HGC:=Lib.hid hgc;obtain ⟨oa,oc,rfl,_⟩:=own_shape hR.ro;clear hR hn hDm hbk hgc;go_wp2_with fail
   refine hks.mono ?_;rintro e w2 ⟨rfl,hro2,hb2⟩;go_wp2;go_ret;have hbc:Below w.heap.size w wc:=HR.out.below.grown HGC.out HR.out.below.size (fun k e=>by cases e;exact HR.out.ge);refine ⟨_,sortN out,rfl,by rw [len_sortN];exact hro2,hbc.trans (hb2),rising_sort HR.out.inv.nd,fun k=>by rw [mem_sortN];exact HR.out.inv.done k⟩
  ·have hkt:k < sts.length:=hR.inv.bt k (by simp)
   have htl:=hR.len;have hmul:out.length * tot sts≤100000 * 100000:=Nat.mul_le_mul (by omega) hN;simp only [List.concat_eq_append] at hR;obtain ⟨ta,tc,rfl,hta⟩:=own_shape hR.rt;obtain ⟨gt,rfl⟩:=hta (by simp);have hrt:=hR.rt;have htn:(t ++ [k]).length=t.length+1:=by simp
   simp only [htn] at hR hrt ⊢;rw [freeC_snoc] at hrt;obtain ⟨hpop,hck,hcap⟩:=ownsRow_pop hrt;obtain ⟨n,hn,hS⟩:=hR.seen;have hlk:=hS.look k (by omega);have HR:=Lib.hid hR;obtain ⟨oa,oc,rfl,_⟩:=own_shape hR.ro;have hb:=hR.below;have hml:=hS.lt;have hge:=hR.ge;have hol:lenV (.slice oa out.length oc)=out.length:=rfl;have HS:=Lib.hid hS;have HN:=Lib.hid hn;simp only [List.length_concat] at htl;have hil:(0:Int)≤(t.length:Int):=by omega
   have htc:(t.length:Int)+1≤(tc:Int):=by omega
   have htm:(t.length:Int)≤(tc:Int):=by omega
   clear hR hrt hS hn hcap
   by_cases hk:k∈out
   ·rw [decide_eq_true hk] at hlk
    have HK:=Lib.hid hk;have HPOP:=Lib.hid hpop;clear hk hpop;go_wp2;go_roundw
    case rel =>
     refine ⟨out,t,HR.out.ge,HR.out.below,HR.out.inv.seen HK.out,HR.out.seen,HR.out.ro,HPOP.out,HR.out.mo,HR.out.mt,HR.out.ot,by have:=HR.out.len;simp at this;omega⟩
    case measure=>simp [lenV]
   ·rw [decide_eq_false hk] at hlk
    have HK:=Lib.hid hk;obtain ⟨D,hD,hDm,hDa⟩:=HS.out;obtain ⟨r,cap,pv,fv,hsv,hrl,_,_,hcf,_,hfr⟩:=HST.out k hkt;simp only [Value.slice.injEq] at hsv;obtain ⟨hsa,hsn,hsc⟩:=hsv;subst hsa hsn hsc;have hft:sts[k].free.length≤100000:=Nat.le_trans (free_tot sts _ (List.getElem_mem hkt)) hN;have HFE:Hid (frees sts k=sts[k].free):=Lib.hid (by unfold frees;rw [List.getElem?_eq_getElem hkt]);have HDM:=Lib.hid hDm;have HDA:=Lib.hid hDa;have HHD:=Lib.hid hD
    have hone:∀ u∈([.int .i64 k]:List Value),u.oneCell'=true:=by
     intro u hu;simp at hu;subst hu;rfl
    have hkey:=keyI k (by omega);have hval:plainElem (H:=Unit) Tryz.prog 4 (.bool true)=some (.lit (.bool true),[]):=plainElem_bool Tryz.underlying4 true
    have hff:∀ y∈freeC sts[k].free,y.oneCell'=true:=by
     intro y hy;obtain ⟨q,_,rfl⟩:=List.mem_map.1 hy
     rfl
    have HFR:=Lib.hid hfr;have hk0:(0:Int)≤(k:Int):=by omega
    have hk1:(k:Int) < (sts.length:Int):=by omega
    have HPOP:=Lib.hid hpop;clear hk hDm hDa hpop hfr;have hnn:=HN.out
    have HOT:Hid ((Value.slice (some ⟨gt,0,none⟩) t.length tc).ownBlock≠(Value.slice oa out.length oc).ownBlock):=Lib.hid (by
     rcases HR.out.ot with e | e
     ·rw [e];simp [Value.ownBlock]
     ·exact fun e'=>e e'.symm)
    go_wp2_with (first
     | (at_mapUpdate;(refine wpList_mapUpdate_own _ rfl _ _ _ 198 rfl 3 4 lawI Tryz.underlying198 _ w.heap.size n D rfl HHD.out (by unfold maxLen;omega) _ _ _ rfl rfl hkey _ [] hval ?_);intro w1 hown1 hgrow1;have HO1:=Lib.hid (SeenAt.put HDM.out HDA.out k hown1);have HG1:=Lib.hid hgrow1;have hro1:=(HR.out.ro.kept hgrow1 (.inr HR.out.mo)).alloc (.cells #[.int .i64 k] 3);have hnb1:(w1.alloc (.cells #[.int .i64 k] 3)).heap[w1.heap.size]?=some (.cells #[.int .i64 k] 3 (0,0)):=heap_alloc_new _ _;have HNB1:=Lib.hid hnb1;have hb1:=hb.grown hgrow1 hb.size (fun j e=>by cases e;exact hge);have HBS1:Hid (w.heap.size≤(w1.alloc (.cells #[.int .i64 k] 3)).heap.size):=Lib.hid (by rw [World.size_alloc];have:=hb1.size;omega);have HSZ1:=Lib.hid (World.size_alloc w1 (.cells #[.int .i64 k] 3));clear hown1 hgrow1 hnb1)
     | (at_builtin;(refine wpList_append_lies _ rfl (.tmp 32) (.tmp 34) 38 rfl w.heap.size 3 i0 (.int .i64 0) 1 8 Tryz.underlying38 hi hz0 hz1 hz2 rfl (by decide) _ out.length (freeC out) rfl hro1 ⟨w1.heap.size,0,none⟩ 1 1 [.int .i64 k] rfl rfl (World.news_of_block HNB1.out) hone (by decide) (by unfold maxLen;omega) (by omega) HBS1.out (w1.heap.size+1) HSZ1.out ?_);intro go cp w2 hown2 hgrow2 hat2 hlt2;have HO2:=Lib.hid (And.intro hown2 (And.intro hgrow2 hat2));have hb2:=(hb1.alloc hb1.size (.cells #[.int .i64 k] 3)).grown hgrow2 HBS1.out (fun j e=>(HR.out.ro.lt j e).1);have c1':=kCq c1 hb2 halt;have cf':=kCq hcf hb2 hrl;have hrt2:=((HPOP.out.kept HG1.out (.inr HR.out.mt)).alloc (.cells #[.int .i64 k] 3)).kept hgrow2 (.inr HOT.out);have hrd:=(RdAt.own HFR.out).later hb2;clear hown2 hgrow2 hat2 hro1)
     | (at_builtin;(refine wpList_append_rd2 rfl (.tmp 36) (.tmp 44) 38 rfl w.heap.size 3 i0 (.int .i64 0) 1 8 Tryz.underlying38 hi hz0 hz1 hz2 rfl (by decide) _ t.length (freeC t) rfl hrt2 _ sts[k].free.length (freeC sts[k].free) rfl hrd hff (by unfold maxLen;omega) (by omega) hb2.size ?_);intro v3 w3 hown3 hgrow3 hat3;have HO3:=Lib.hid (And.intro hown3 (And.intro hgrow3 hat3));clear hown3 hgrow3 hat3))
    go_roundw
    case rel =>
     obtain ⟨h2a,h2b,h2c⟩:=HO2.out;obtain ⟨h3a,h3b,h3c⟩:=HO3.out;rw [← HFE.out] at h3a;exact ⟨out ++ [k],t ++ frees sts k,HR.out.more HW.out HK.out n HN.out HO1.out HG1.out h2a h2b h2c h3a h3b h3c⟩
    case measure =>
     have hne:out.length < sts.length:=by
      have:=(HR.out.more HW.out HK.out n HN.out HO1.out HG1.out HO2.out.1 HO2.out.2.1 HO2.out.2.2 (by rw [HFE.out];exact HO3.out.1) HO3.out.2.1 HO3.out.2.2).bound
      rw [List.length_append] at this;simp only [List.length_cons,List.length_nil] at this;omega
     have hf:=free_tot sts _ (List.getElem_mem hkt);have h3:lenV v3=t.length+sts[k].free.length:=own_len HO3.out.1;rw [h3];simp only [lenV];obtain ⟨dd,hdd⟩:∃ dd,sts.length - out.length=dd+1:=⟨sts.length - out.length - 1,by omega⟩;rw [show sts.length - (out.length+1)=dd by omega,hdd,Nat.add_mul]
     omega
end Go.Proofs.YtipnhpfpppblhaaGreat
namespace Go.Proofs.YtipnhpfpppblhaaGreat
open Go.RowKit
def goB (x:St) (c:Nat):Bool:=match x.set with
 | some f=>f c
 | none=>false
def go1 (sts:List St) (c k:Nat):List Nat:=match sts[k]? with
 | some x=>if goB x c=true then [x.next] else []
 | none=>[]
def goN (sts:List St) (c:Nat) (l:List Nat):List Nat:=l.flatMap (go1 sts c)
theorem go1_len (sts:List St) (c k:Nat):(go1 sts c k).length≤1:=by
 unfold go1;split
 ·split <;> simp
 ·simp
theorem goN_len (sts:List St) (c:Nat):∀ l:List Nat,(goN sts c l).length≤l.length
 | []=>Nat.le_refl _
 | k :: l=>by
  have:=goN_len sts c l
  have h1:=go1_len sts c k;unfold goN at this ⊢;rw [List.flatMap_cons,List.length_append,List.length_cons];omega
theorem goN_take (sts:List St) (c:Nat) {l:List Nat} {j:Nat} (hj:j < l.length):goN sts c (l.take (j+1))=goN sts c (l.take j) ++ go1 sts c l[j]:=by
 unfold goN;rw [List.take_succ_eq_append_getElem hj,List.flatMap_append];simp
theorem goN_lt {sts:List St} (h:SWf sts) {c k:Nat} {l:List Nat} (hk:k∈goN sts c l):k < sts.length:=by
 obtain ⟨j,_,h1⟩:=List.mem_flatMap.1 hk;unfold go1 at h1
 split at h1
 ·rename_i x hx
  split at h1
  ·rw [List.mem_singleton.1 h1];exact (h x (List.mem_of_getElem? hx)).2
  ·cases h1
 ·cases h1
theorem freeC_at (l:List Nat) (j:Nat) (h:j < l.length):(freeC l)[j]?=some (.int .i64 (l[j]:Nat)):=by
 unfold freeC;rw [List.getElem?_map,List.getElem?_eq_getElem h];rfl
set_option maxHeartbeats 3200000 in
set_option maxRecDepth 100000 in
theorem step_is (w:World) (a:Nat) (s:ByteArray) (sts:List St) (st en:Nat) (l:List Nat) (v:Value) (c:Nat) (hc:c < 256) (hp:PatAt w a s sts st en) (hw:SWf sts) (hN:tot sts≤100000) (hv:RdAt w v l.length 1 (freeC l)) (hl:∀ j∈l,j < sts.length) (hll:l.length≤1000000) :
  Calls Tryz.prog 137 #[.pointer (some ⟨a,0,none⟩),v,.int .u8 c] w fun e w'=>∃ v' out,e=.returned v'∧w'.ownsRow w.heap.size 3 1 v' out.length (freeC out)∧Below w.heap.size w w'∧RisingN out∧∀ k,k∈out↔Cl sts (goN sts c l) k:=by
 have hNl:sts.length≤100000:=Nat.le_trans (len_tot _) hN;obtain ⟨sa,sn,sc,c1,_,_,_,halt,hst⟩:=hp.cells;obtain ⟨i0,hi,hz0,hz1,hz2⟩:=info_parts info_intP
 have hreach:∀ W v',Below w.heap.size w W→W.ownsRow w.heap.size 3 1 v' (goN sts c l).length (freeC (goN sts c l))→Calls Tryz.prog 136 #[.pointer (some ⟨a,0,none⟩),v'] W fun e w'=>∃ v' out,e=.returned v'∧w'.ownsRow W.heap.size 3 1 v' out.length (freeC out)∧Below W.heap.size W w'∧RisingN out∧∀ k,k∈out↔Cl sts (goN sts c l) k :=
  fun W v' hb ho=>reach_is W a s sts st en _ v' (hp.below hb) hw hN (RdAt.own ho) (fun j hj=>goN_lt hw hj) (Nat.le_trans (goN_len sts c l) hll)
 obtain ⟨va,vc,rfl,hvc,hr⟩:=RdAt.shape hv;have HW:=Lib.hid hw;have HST:=Lib.hid hst;have HR:=Lib.hid hr;have HL:=Lib.hid hl;have HRE:=Lib.hid hreach;clear hp hw hv hl hst hr hreach
 go_enter Tryz.func137,Tryz.ntmps137
 go_wp2
 go_loopw [7,13] (fun vo vi wr=>∃ j:Nat,j≤l.length∧vi=.int .i64 j∧wr.ownsRow w.heap.size 3 1 vo (goN sts c (l.take j)).length (freeC (goN sts c (l.take j)))∧Below w.heap.size w wr) (fun _ vi _=>l.length - (intOf vi).toNat)
 case atStart=>exact ⟨0,Nat.zero_le _,rfl,World.ownsRow_nil _ _ _ _,Below.refl _ _⟩
 case round =>
  obtain ⟨j,hj,rfl,hown,hb⟩:=hrel
  by_cases hjl:j < l.length
  ·obtain ⟨b,o,rfl,hblt,hcell⟩:=HR.out (by omega)
   have hkc:=hcell j _ (freeC_at l j hjl);have hk:=HL.out _ (List.getElem_mem hjl);obtain ⟨k,hke⟩:∃ k,l[j]=k:=⟨_,rfl⟩;rw [hke] at hkc hk;obtain ⟨r,cap,pv,fv,hsv,hrl,q0,q1,q2,hptr,hfr⟩:=HST.out k hk;simp only [Value.slice.injEq] at hsv;obtain ⟨hsa,hsn,hsc⟩:=hsv;subst hsa hsn hsc;obtain ⟨fa,fc,rfl,_⟩:=own_shape hfr;have hcw:wr.cell? ⟨b,o+j,none⟩=some (.int .i64 k):=kCq hkc hb hblt;have d1:=kCq c1 hb halt;have d2:=kCq q0 hb hrl;have d3:=kCq q1 hb hrl;have d4:=kCq q2 hb hrl
   have hE:Hid (goN sts c (l.take (j+1))=goN sts c (l.take j) ++ if goB sts[k] c=true then [sts[k].next] else []):=Lib.hid (by
    rw [goN_take sts c hjl,hke];unfold go1;rw [List.getElem?_eq_getElem hk])
   have hn0:(goN sts c (l.take j)).length≤1000000:=Nat.le_trans (goN_len sts c _) (by simp;omega);obtain ⟨nx,hnx⟩:∃ nx,sts[k].next=nx:=⟨_,rfl⟩;obtain ⟨fn,hfn⟩:∃ fn,sts[k].free.length=fn:=⟨_,rfl⟩;rw [hnx] at d3 hE;rw [hfn] at d4;have hk0:(0:Int)≤(k:Int):=by omega
   have hk1:(k:Int) < (sts.length:Int):=by omega
   clear hcell hkc q0 q1 q2 hke
   cases hset:sts[k].set with
   | none =>
    have hpv:pv=.pointer none:=by unfold PtrAt at hptr;rw [hset] at hptr;exact hptr
    subst hpv;have hg:goB sts[k] c=false:=by unfold goB;rw [hset]
    clear hptr hset;rw [hg] at hE;go_wp2;refine ⟨⟨j+1,by omega,by go_num,?_,?_⟩,by simp [intOf];omega⟩
    ·rw [hE.out];simp only [Bool.false_eq_true,if_false,List.append_nil];exact hown.alloc _
    ·exact hb.alloc hb.size _
   | some f =>
    obtain ⟨kk,rfl,hS,_⟩:∃ kk,pv=.pointer (some ⟨kk,0,none⟩)∧SetAt w kk f∧True:=by unfold PtrAt at hptr;rw [hset] at hptr;exact hptr
    have hg:goB sts[k] c=f c:=by unfold goB;rw [hset]
    clear hptr hset;rw [hg] at hE;go_upto_region 6 with fail;have x0:=heap_alloc_new wr (.cells #[.pointer (some ⟨kk,0,none⟩),.int .i64 nx,.slice fa fn fc] 201);have b1:Below w.heap.size w (wr.alloc (.cells #[.pointer (some ⟨kk,0,none⟩),.int .i64 nx,.slice fa fn fc] 201)):=hb.alloc hb.size _;have S1:SetAt (wr.alloc (.cells #[.pointer (some ⟨kk,0,none⟩),.int .i64 nx,.slice fa fn fc] 201)) kk f:=hS.blk (b1.block kk hS.lt);have o1:=hown.alloc (.cells #[.pointer (some ⟨kk,0,none⟩),.int .i64 nx,.slice fa fn fc] 201);have hsz:wr.heap.size < (wr.alloc (.cells #[.pointer (some ⟨kk,0,none⟩),.int .i64 nx,.slice fa fn fc] 201)).heap.size:=by rw [World.size_alloc];omega
    have e0:(wr.alloc (.cells #[.pointer (some ⟨kk,0,none⟩),.int .i64 nx,.slice fa fn fc] 201)).cell? ⟨wr.heap.size,0,none⟩=some (.pointer (some ⟨kk,0,none⟩)):=by rw [cell_of_row _ _ _ _ _ _ x0];rfl
    have e1:(wr.alloc (.cells #[.pointer (some ⟨kk,0,none⟩),.int .i64 nx,.slice fa fn fc] 201)).cell? ⟨wr.heap.size,1,none⟩=some (.int .i64 nx):=by rw [cell_of_row _ _ _ _ _ _ x0];rfl
    generalize wr.alloc (.cells #[.pointer (some ⟨kk,0,none⟩),.int .i64 nx,.slice fa fn fc] 201)=W at *;have hk:=has_is W kk f c S1 hc;have hnw:(W.alloc (.cells #[.int .i64 nx] 3)).heap[W.heap.size]?=some (.cells #[.int .i64 nx] 3 (0,0)):=heap_alloc_new _ _;have HNW:=Lib.hid hnw;have o2:=o1.alloc (.cells #[.int .i64 nx] 3);have b2:=b1.alloc b1.size (.cells #[.int .i64 nx] 3);have hb2:w.heap.size≤(W.alloc (.cells #[.int .i64 nx] 3)).heap.size:=b2.size;have hsz2:(W.alloc (.cells #[.int .i64 nx] 3)).heap.size=W.heap.size+1:=World.size_alloc _ _
    have hone:∀ u∈([.int .i64 nx]:List Value),u.oneCell'=true:=by
     intro u hu;simp at hu;subst hu;rfl
    clear hnw;go_wp2_with fail
    refine hk.mono ?_;rintro e w' ⟨rfl,hww⟩;obtain rfl:=hww.symm
    cases hfc:f c with
    | false =>
     rw [hfc] at hE;clear hk;go_wp2;refine ⟨⟨j+1,by omega,by go_num,?_,b1⟩,by simp [intOf];omega⟩;rw [hE.out];simp only [Bool.false_eq_true,if_false,List.append_nil];exact o1
    | true =>
     rw [hfc] at hE;clear hk;go_wp2_with (at_builtin;(refine wpList_append_lies _ rfl (.tmp 33) (.tmp 36) 38 rfl w.heap.size 3 i0 (.int .i64 0) 1 8 Tryz.underlying38 hi hz0 hz1 hz2 rfl (by decide) _ _ _ rfl o2 ⟨W.heap.size,0,none⟩ 1 1 [.int .i64 nx] rfl rfl (World.news_of_block HNW.out) hone (by decide) (by unfold maxLen;omega) (by omega) hb2 (W.heap.size+1) hsz2 ?_);intro go cp w2 hown2 hgrow2 hat2 hlt2)
     refine ⟨⟨j+1,by omega,by go_num,?_,b2.grown hgrow2 hb2 (fun m e=>(o2.lt m e).1)⟩,by simp [intOf];omega⟩;rw [hE.out];simp only [if_true,List.length_append,freeC_app];exact hown2
  ·obtain rfl:j=l.length:=by omega
   rw [List.take_length] at hown;have hk:=HRE.out wr _ hb hown;go_wp2_with fail
   refine hk.mono ?_;rintro e w' ⟨v',out,rfl,h1,h2,h3,h4⟩;go_wp2;go_ret;exact ⟨v',out,rfl,own_base h1 hb.size,hb.trans (h2.mono hb.size),h3,h4⟩
inductive Rn (sts:List St) (st:Nat):List Nat→Nat→Prop
 | start {k:Nat}:FR sts st k→Rn sts st [] k
 | byte {cs:List Nat} {c j k:Nat} {x:St}:Rn sts st cs j→sts[j]?=some x→goB x c=true→FR sts x.next k→Rn sts st (cs ++ [c]) k
theorem Rn_nil {sts:List St} {st k:Nat}:Rn sts st [] k↔Cl sts [st] k:=by
 constructor
 ·intro h
  cases hcs:([]:List Nat) with
  | nil => 
   generalize hg:([]:List Nat)=l at h
   cases h with
   | start h=>exact ⟨st,List.mem_singleton.2 rfl,h⟩
   | byte=>simp at hg
  | cons=>cases hcs
 ·rintro ⟨j,hj,hr⟩
  rw [List.mem_singleton.1 hj] at hr;exact .start hr
theorem Rn_snoc {sts:List St} {st:Nat} {cs:List Nat} {c k:Nat} {out:List Nat} (ho:∀ k,k∈out↔Rn sts st cs k):Rn sts st (cs ++ [c]) k↔Cl sts (goN sts c out) k:=by
 constructor
 ·intro h
  generalize hg:cs ++ [c]=l at h
  cases h with
  | start h=>simp at hg
  | byte h1 h2 h3 h4 =>
   rename_i cs' c' j x
   obtain ⟨h5,h6⟩:=List.append_inj' hg rfl;subst h5;simp only [List.cons.injEq,and_true] at h6;subst h6;refine ⟨x.next,List.mem_flatMap.2 ⟨j,(ho j).2 h1,?_⟩,h4⟩;unfold go1;rw [h2];simp [h3]
 ·rintro ⟨j,hj,hr⟩
  obtain ⟨q,hq,h1⟩:=List.mem_flatMap.1 hj;unfold go1 at h1
  split at h1
  ·rename_i x hx
   split at h1
   ·rename_i hg
    rw [List.mem_singleton.1 h1] at hr;exact .byte ((ho q).1 hq) hx hg hr
   ·cases h1
  ·cases h1
theorem Rn_lt {sts:List St} (h:SWf sts) {st:Nat} (hs:st < sts.length) {cs:List Nat} {k:Nat} (hr:Rn sts st cs k):k < sts.length:=by
 cases hr with
 | start h1=>exact FR_lt h h1 hs
 | byte _ h2 _ h4=>exact FR_lt h h4 (h _ (List.mem_of_getElem? h2)).2
theorem rising_len {n:Nat} {l:List Nat} (h:RisingN l) (hb:∀ k∈l,k < n):l.length≤n:=nodup_lt (h.imp (fun h=>Nat.ne_of_lt h)) hb
def bytesN (t:ByteArray):List Nat:=(B t).map (·.toNat)
theorem bytesN_len (t:ByteArray):(bytesN t).length=t.size:=by simp [bytesN]
theorem bytesN_lt {t:ByteArray} {c:Nat} (h:c∈bytesN t):c < 256:=by
 obtain ⟨x,_,rfl⟩:=List.mem_map.1 h;exact x.toNat_lt
theorem contains_row (w:World) (base:Nat) (l:List Nat) (v:Value) (x:Nat) (h:w.ownsRow base 3 1 v l.length (freeC l)) (hl:l.length≤1000000) :
  Calls Tryz.prog 138 #[v,.int .i64 x] w fun e w'=>∃ b,e=.returned (.bool b)∧(b=true↔x∈l)∧w'=w:=by
 rcases Nat.eq_zero_or_pos l.length with h0 | h0
 ·have hnil:l=[]:=List.length_eq_zero_iff.1 h0
  subst hnil;obtain ⟨a,c,rfl,_⟩:=own_shape h;refine (Tryz.slices_Contains_int_empty a c x w).mono ?_;rintro e w' ⟨rfl,rfl⟩;exact ⟨_,rfl,by simp,rfl⟩
 ·obtain ⟨b,o,c,rfl,hcc,_,hcell⟩:=RdAt.some (RdAt.own h) h0
  have hil:(intsN l).length=l.length:=by simp [intsN]
  refine (Tryz.slices_Contains_int b o l.length c (intsN l) x w (by omega) (by omega) (fun j hj=>?_)).mono ?_
  ·refine hcell j _ ?_
   rw [freeC_ints,List.getElem?_map,List.getD_eq_getElem?_getD,List.getElem?_eq_getElem hj];rfl
  ·rintro e w' ⟨rfl,rfl⟩
   refine ⟨_,rfl,?_,rfl⟩;rw [← hil,List.take_length];simp only [List.contains_eq_mem,decide_eq_true_eq,intsN,List.mem_map];exact ⟨fun ⟨a,h1,h2⟩=>by rw [← Int.ofNat.inj h2];exact h1,fun h=>⟨x,h,rfl⟩⟩
set_option maxHeartbeats 3200000 in
set_option maxRecDepth 100000 in
theorem pfits_is (w:World) (a:Nat) (s:ByteArray) (sts:List St) (st en:Nat) (t:ByteArray) (hp:PatAt w a s sts st en) (hw:SWf sts) (hN:tot sts≤100000) (hs:st < sts.length) (ht:t.size≤maxLen) :
  Calls Tryz.prog 126 #[.pointer (some ⟨a,0,none⟩),.string t] w fun e w'=>∃ b,e=.returned (.bool b)∧(b=true↔Rn sts st (bytesN t) en)∧Below w.heap.size w w':=by
 have hNl:sts.length≤100000:=Nat.le_trans (len_tot _) hN;unfold maxLen at ht;obtain ⟨sa,sn,sc,c1,_,c2,c3,halt,_⟩:=hp.cells
 have hr1:∀ W (v:Value) (l:List Nat),Below w.heap.size w W→RdAt W v l.length 1 (freeC l)→(∀ j∈l,j < sts.length)→l.length≤1000000→Calls Tryz.prog 136 #[.pointer (some ⟨a,0,none⟩),v] W fun e w'=>∃ v' out,e=.returned v'∧w'.ownsRow W.heap.size 3 1 v' out.length (freeC out)∧Below W.heap.size W w'∧RisingN out∧∀ k,k∈out↔Cl sts l k :=
  fun W v l hb hv hl hll=>reach_is W a s sts st en l v (hp.below hb) hw hN hv hl hll
 have hr2:∀ W (v:Value) (l:List Nat) (c:Nat),c < 256→Below w.heap.size w W→RdAt W v l.length 1 (freeC l)→(∀ j∈l,j < sts.length)→l.length≤1000000→Calls Tryz.prog 137 #[.pointer (some ⟨a,0,none⟩),v,.int .u8 c] W fun e w'=>∃ v' out,e=.returned v'∧w'.ownsRow W.heap.size 3 1 v' out.length (freeC out)∧Below W.heap.size W w'∧RisingN out∧∀ k,k∈out↔Cl sts (goN sts c l) k :=
  fun W v l c hc hb hv hl hll=>step_is W a s sts st en l v c hc (hp.below hb) hw hN hv hl hll
 have H1:=Lib.hid hr1;have H2:=Lib.hid hr2;have HW:=Lib.hid hw;have hba:=aBq w (.cells #[.int .i64 st] 3);have x0:=heap_alloc_new w (.cells #[.int .i64 st] 3)
 have hv0:RdAt (w.alloc (.cells #[.int .i64 st] 3)) (.slice (some ⟨w.heap.size,0,none⟩) 1 1) [st].length 1 (freeC [st]) :=
  RdAt.mk (by simp [freeC]) (Nat.le_refl _) (by rw [World.size_alloc];omega) (fun j x hj=>by
   obtain ⟨h1,h2⟩:=List.getElem?_eq_some_iff.1 hj;have h0:j=0:=by simp [freeC] at h1;omega
   subst h0;rw [cell_of_row _ _ _ _ _ _ x0]
   simp [freeC] at h2
   simp [h2])
 have hk1:=hr1 _ _ [st] hba hv0 (fun j hj=>by rw [List.mem_singleton.1 hj];exact hs) (by simp);have HK1:=Lib.hid hk1;have hcv:=fun W=>Lib.run_convert_string_bytes (P:=Tryz.prog) W 9 100 5 t Tryz.underlying9 Tryz.underlying100 Tryz.underlying5;clear hp hw hr1 hr2 hv0 x0 hk1
 go_enter Tryz.func126,Tryz.ntmps126
 go_wp2_with fail
 refine HK1.out.mono ?_;rintro e w1 ⟨v1,out1,rfl,ho1,hb1,hri1,hm1⟩;rw [World.size_alloc] at ho1;have hB1:Below w.heap.size w w1:=hba.trans (hb1.mono (by rw [World.size_alloc];omega));have hO1:=own_base ho1 (show w.heap.size≤w.heap.size+1 by omega)
 have hcell:∀ j (h:j < t.size),(Lib.bytesWorld w1 5 t).cell? ⟨w1.heap.size,j,none⟩=some (.int .u8 ((bytesN t)[j]'(by rw [bytesN_len];exact h):Nat)):=by
  intro j h;rw [Lib.bytesWorld_cell w1 5 t j h];simp only [List.getD,List.getElem?_eq_getElem (l:=t.data.toList) (i:=j) (by simpa using h)]
  simp [bytesN,B]
 have HC:=Lib.hid hcell;have hbw:Below w1.heap.size w1 (Lib.bytesWorld w1 5 t):=⟨rfl,rfl,rfl,by rw [Lib.bytesWorld_size];omega,fun k hk=>Lib.bytesWorld_at_old w1 5 t k hk⟩;have hB2:Below w.heap.size w (Lib.bytesWorld w1 5 t):=hB1.trans (hbw.mono hB1.size);have hO2:=ownsRow_below hO1 hbw;have hws:w1.heap.size < (Lib.bytesWorld w1 5 t).heap.size:=by rw [Lib.bytesWorld_size];omega
 have HM1:Hid (∀ k,k∈out1↔Rn sts st [] k):=Lib.hid (fun k=>by rw [hm1 k,Rn_nil]);have hcw:=hcv w1;clear hcell hcv hm1 ho1 HK1 hba hb1 hO1;go_upto_region 5 with fail;generalize Lib.bytesWorld w1 5 t=w2 at *;generalize grownCap w1 t.size 0 5=gc at *;generalize hbe:w1.heap.size=be at *;clear hcw hbw;have HO2:=Lib.hid hO2;have HR1:=Lib.hid hri1;have HB2:=Lib.hid hB2;clear hO2 hri1 hB2
 go_loopw [5,20] (fun vl vi wr=>∃ (j:Nat) (out:List Nat),j≤t.size∧vi=.int .i64 j∧Hid (wr.ownsRow w.heap.size 3 1 vl out.length (freeC out))∧Hid (RisingN out)∧Hid (Below w.heap.size w wr)∧Hid (∀ k,k∈out↔Rn sts st ((bytesN t).take j) k)∧(j < t.size→wr.cell? ⟨be,j,none⟩=some (.int .u8 ((bytesN t).getD j 0:Nat)))∧Hid (∀ j (h:j < t.size),wr.cell? ⟨be,j,none⟩=some (.int .u8 ((bytesN t)[j]'(by rw [bytesN_len];exact h):Nat)))∧be < wr.heap.size) (fun _ vi _=>t.size - (intOf vi).toNat)
 case atStart=>exact ⟨0,out1,Nat.zero_le _,rfl,HO2,HR1,HB2,HM1,fun h=>by rw [HC.out 0 h,List.getD_eq_getElem?_getD,List.getElem?_eq_getElem (by rw [bytesN_len];exact h)];rfl,HC,hws⟩
 case round =>
  obtain ⟨j,out,hj,rfl,HO,HR,HB,HM,hcj,HCJ,hbe2⟩:=hrel;have hlt:∀ k∈out,k < sts.length:=fun k hk=>Rn_lt HW.out hs ((HM.out k).1 hk);have hle:out.length≤1000000:=Nat.le_trans (rising_len HR.out hlt) (by omega)
  by_cases hjt:j < t.size
  ·replace hcj:=hcj hjt
   obtain ⟨c,hce⟩:∃ c,(bytesN t).getD j 0=c:=⟨_,rfl⟩;have hjl:j < (bytesN t).length:=by rw [bytesN_len];exact hjt
   have hc:c < 256:=by
    rw [← hce,List.getD_eq_getElem?_getD,List.getElem?_eq_getElem hjl];exact bytesN_lt (List.getElem_mem hjl)
   have HT:Hid ((bytesN t).take (j+1)=(bytesN t).take j ++ [c]):=Lib.hid (by
    rw [List.take_succ_eq_append_getElem hjl,← hce,List.getD_eq_getElem?_getD,List.getElem?_eq_getElem hjl];rfl)
   rw [hce] at hcj;have hk:=H2.out wr u5 out c hc HB.out (RdAt.own HO.out) hlt hle;clear hlt;go_wp2_with fail
   refine hk.mono ?_;rintro e w3 ⟨v3,out3,rfl,h1,h2,h3,h4⟩;have H4:Hid (Below wr.heap.size wr w3):=Lib.hid h2;have H5:Hid (w3.ownsRow wr.heap.size 3 1 v3 out3.length (freeC out3)):=Lib.hid h1;have H6:=Lib.hid h4;have q1:Hid (w3.ownsRow w.heap.size 3 1 v3 out3.length (freeC out3)):=Lib.hid (own_base H5.out HB.out.size);have q2:Hid (RisingN out3):=Lib.hid h3;have q3:Hid (Below w.heap.size w w3):=Lib.hid (HB.out.trans (H4.out.mono HB.out.size));have q4:Hid (∀ k,k∈out3↔Rn sts st ((bytesN t).take (j+1)) k):=Lib.hid (fun k=>by rw [H6.out k,HT.out,Rn_snoc HM.out]);have q6:Hid (∀ j (h:j < t.size),w3.cell? ⟨be,j,none⟩=some (.int .u8 ((bytesN t)[j]'(by rw [bytesN_len];exact h):Nat))):=Lib.hid (fun i hi=>(H4.out.cell (p:=⟨be,i,none⟩) hbe2).trans (HCJ.out i hi))
   have q5:Hid (j+1 < t.size→w3.cell? ⟨be,j+1,none⟩=some (.int .u8 ((bytesN t).getD (j+1) 0:Nat))):=Lib.hid (fun h=>by
    rw [q6.out (j+1) h,List.getD_eq_getElem?_getD,List.getElem?_eq_getElem (by rw [bytesN_len];exact h)];rfl)
   have q7:be < w3.heap.size:=Nat.lt_of_lt_of_le hbe2 H4.out.size;clear hk h1 h2 h4 h3 H4 H5 H6 HO HR HB HM HCJ hbe2 hcj HT;go_wp2;go_roundw
   case rel=>exact ⟨j+1,out3,by omega,by go_num,q1,q2,q3,q4,q5.out,q6,q7⟩
   case measure=>(simp [intOf];try omega)
  ·obtain rfl:j=t.size:=by omega
   have hk:=contains_row wr _ out u5 en HO.out hle;have d3:=kCq c3 HB.out halt;have hall:(bytesN t).take t.size=bytesN t:=by rw [← bytesN_len,List.take_length]
   rw [hall] at HM;clear hcj;go_wp2_with fail
   refine hk.mono ?_;rintro e w3 ⟨b,rfl,h1,hww⟩;obtain rfl:=hww.symm;clear hk;go_wp2;go_ret;exact ⟨b,rfl,h1.trans (HM.out en),HB.out⟩
theorem pfits_nil (w:World) (t:ByteArray):Calls Tryz.prog 126 #[.pointer none,.string t] w fun e w'=>e=.returned (.bool false)∧w'=w:=by
 go_enter Tryz.func126,Tryz.ntmps126
 go_wp2;go_ret;exact ⟨rfl,rfl⟩
def FitsP (p t:ByteArray):Prop:=errM p=0∧Rn (endR p).sts (runR p).2.1 (bytesN t) (runR p).2.2
theorem runR_len (p:ByteArray) (h:p.size≤100):tot (endR p).sts≤100000:=by
 have h1:=(runR_ok p).gd.tot;have h2:=(runR_ok p).top;rw [endR_sts];simp only [costM,bs0,tot,List.map_nil,List.sum_nil] at h1;unfold tot
 omega
theorem errM_size {p:ByteArray} (h:errM p=0):p.size≤100:=by
 unfold errM at h
 split at h
 ·cases h
 ·omega
theorem runR_swf (p:ByteArray):SWf (endR p).sts:=by
 rw [endR_sts];exact runM_wf p _ .either 0 bs0 (by omega) (by simp [bs0]) (fun h=>by cases h) trivial (by simp [fuelM,bs0]) (fun x hx=>by simp [bs0] at hx)
theorem runR_st (p:ByteArray):(runR p).2.1 < (endR p).sts.length:=by rw [endR_sts];exact (runR_ok p).p1
set_option maxHeartbeats 1600000 in
theorem tfits_is (p t:ByteArray) (w:World) (ht:t.size≤maxLen):Calls Tryz.prog 110 #[.string p,.string t] w fun e w'=>∃ b,e=.returned (.bool b)∧(b=true↔FitsP p t)∧Below w.heap.size w w':=by
 have hr:=read_is p w
 have hf:∀ W a,errM p=0→PatAt W a p (endR p).sts (runR p).2.1 (runR p).2.2→Calls Tryz.prog 126 #[.pointer (some ⟨a,0,none⟩),.string t] W fun e w'=>∃ b,e=.returned (.bool b)∧(b=true↔Rn (endR p).sts (runR p).2.1 (bytesN t) (runR p).2.2)∧Below W.heap.size W w' :=
  fun W a he h=>pfits_is W a p _ _ _ t h (runR_swf p) (runR_len p (errM_size he)) (runR_st p) ht
 have HF:=Lib.hid hf;clear hf
 go_enter Tryz.func110,Tryz.ntmps110
 go_wp2_with fail
 refine hr.mono ?_
 rintro e w1 ⟨hb,⟨hne,rfl⟩ | ⟨he,a,rfl,hp,_⟩⟩
 ·have hk:=pfits_nil w1 t
  go_wp2_with fail
  refine hk.mono ?_;rintro e w3 ⟨rfl,hww⟩;obtain rfl:=hww.symm;clear hk;go_wp2;go_ret;exact ⟨false,rfl,⟨(fun h=>by cases h),fun h=>absurd h.1 hne⟩,hb⟩
 ·have hk:=HF.out w1 a he hp
  go_wp2_with fail
  refine hk.mono ?_;rintro e w3 ⟨b,rfl,h1,h2⟩;clear hk;go_wp2;go_ret;exact ⟨b,rfl,h1.trans ⟨fun h=>⟨he,h⟩,fun h=>h.2⟩,hb.trans (h2.mono hb.size)⟩
structure Mt where
 nm:ByteArray
 op:Int
 val:ByteArray
instance:Inhabited Mt:=⟨⟨⟨#[]⟩,0,⟨#[]⟩⟩⟩
def mtC (m:Mt):List Value:=[.string m.nm,.int .i64 m.op,.string m.val]
abbrev mtV (m:Mt):Value:=.agg #[.string m.nm,.int .i64 m.op,.string m.val]
def mtCells:List Mt→List Value
 | []=>[]
 | m :: l=>.string m.nm :: .int .i64 m.op :: .string m.val :: mtCells l
theorem mtCells_at (l:List Mt) (i:Nat) (h:i < l.length):(mtCells l)[i * 3]?=some (.string l[i].nm)∧(mtCells l)[i * 3+1]?=some (.int .i64 l[i].op)∧(mtCells l)[i * 3+2]?=some (.string l[i].val):=by
 induction l generalizing i with
 | nil=>cases h
 | cons s l ih =>
  cases i with
  | zero=>simp [mtCells]
  | succ i =>
   obtain ⟨h1,h2,h3⟩:=ih i (by simpa using h);have e:(i+1) * 3=i * 3+3:=by omega
   rw [e];simp only [mtCells,List.getElem_cons_succ];refine ⟨?_,?_,?_⟩
   ·rw [show i * 3+3=i * 3+1+1+1 by omega];simpa using h1
   ·rw [show i * 3+3+1=i * 3+1+1+1+1 by omega];simpa using h2
   ·rw [show i * 3+3+2=i * 3+2+1+1+1 by omega];simpa using h3
def MtsAt (w:World) (v:Value) (l:List Mt):Prop:=RdAt w v l.length 3 (mtCells l)
theorem MtsAt.later {w w':World} {v:Value} {l:List Mt} (h:MtsAt w v l) (hb:Below w.heap.size w w'):MtsAt w' v l:=RdAt.later h hb
def MtFit (m:Mt):Prop:=m.nm.size≤maxLen∧m.val.size≤maxLen
def MtsFit (l:List Mt):Prop:=∀ m∈l,MtFit m
def fineM (m:Mt):Bool:=nameL (B m.nm)&&decide (0≤m.op)&&decide (m.op≤3)&&decide (m.val.size≤200)&&(decide (m.op < 2) || decide (errM m.val=0))
theorem fineM_true {m:Mt} (h:fineM m=true):nameL (B m.nm)=true∧0≤m.op∧m.op≤3∧m.val.size≤200∧(m.op < 2∨errM m.val=0):=by
 unfold fineM at h;simp only [Bool.and_eq_true,Bool.or_eq_true,decide_eq_true_eq] at h;obtain ⟨⟨⟨⟨h1,h2⟩,h3⟩,h4⟩,h5⟩:=h;exact ⟨h1,h2,h3,h4,h5⟩
theorem box3m {w W:World} {a b c:Value} {t:TypeId} (hb:Below (w.alloc (.cells #[a,b,c] t)).heap.size (w.alloc (.cells #[a,b,c] t)) W) :
  (W.cell? ⟨w.heap.size,0,none⟩=some a∧W.cell? ⟨w.heap.size,1,none⟩=some b∧W.cell? ⟨w.heap.size,2,none⟩=some c)∧w.heap.size < W.heap.size∧Below w.heap.size w W:=by
 obtain ⟨h,h2,h3⟩:=box_cells hb;exact ⟨⟨h 0 _ rfl,h 1 _ rfl,h 2 _ rfl⟩,h2,h3⟩
set_option maxHeartbeats 1600000 in
set_option maxRecDepth 100000 in
theorem mfine_any (m:Mt) (w:World) (hf:MtFit m):Calls Tryz.prog 82 #[.agg #[.string m.nm,.int .i64 m.op,.string m.val]] w fun e w'=>e=.returned (.bool (fineM m))∧Below w.heap.size w w':=by
 have kn:=fun W=>name_any m.nm W hf.1;have kr:=fun W=>right_is m.val W;have hz:=hf.2;have HF:Hid (fineM m=(nameL (B m.nm)&&decide (0≤m.op)&&decide (m.op≤3)&&decide (m.val.size≤200)&&(decide (m.op < 2) || decide (errM m.val=0)))):=Lib.hid rfl;obtain ⟨nm,op,val⟩:=m;dsimp only at *;generalize fineM ⟨nm,op,val⟩=R at *;generalize nameL (B nm)=N at *;have HR:=Lib.hid kr;unfold maxLen at hz;clear hf kr;have kn0:=kn (w.alloc (.cells #[.string nm,.int .i64 op,.string val] 92));clear kn
 go_enter Tryz.func82,Tryz.ntmps82
 go_wp2_with fail
 refine kn0.mono ?_;rintro e w1 ⟨rfl,hb1⟩;obtain ⟨⟨x0,x1,x2⟩,hlt,hB1⟩:=box3m hb1;have HB:=Lib.hid hB1;clear kn0 hb1 hB1
 cases N with
 | false =>
  go_wp2;go_ret;exact ⟨by rw [HF.out];rfl,HB.out⟩
 | true =>
  by_cases h0:op < 0
  ·rw [show decide (0≤op)=false from decide_eq_false (by omega)] at HF
   go_wp2;go_ret;exact ⟨by rw [HF.out];rfl,HB.out⟩
  ·rw [show decide (0≤op)=true from decide_eq_true (by omega)] at HF
   by_cases h3:3 < op
   ·rw [show decide (op≤3)=false from decide_eq_false (by omega)] at HF
    go_wp2;go_ret;exact ⟨by rw [HF.out];rfl,HB.out⟩
   ·rw [show decide (op≤3)=true from decide_eq_true (by omega)] at HF
    by_cases hs:200 < val.size
    ·rw [show decide (val.size≤200)=false from decide_eq_false (by omega)] at HF
     go_wp2;go_ret;exact ⟨by rw [HF.out];rfl,HB.out⟩
    ·rw [show decide (val.size≤200)=true from decide_eq_true (by omega)] at HF
     by_cases h2:op < 2
     ·rw [show decide (op < 2)=true from decide_eq_true h2] at HF
      go_wp2;go_ret;exact ⟨by rw [HF.out];rfl,HB.out⟩
     ·rw [show decide (op < 2)=false from decide_eq_false h2] at HF
      have kr:=HR.out w1;have hde:Hid ((errM val==0)=decide (errM val=0)):=Lib.hid (by rw [Bool.eq_iff_iff];simp);generalize errM val=E at *;go_wp2_with fail
      refine kr.mono ?_;rintro e w2 ⟨rfl,hb2⟩;clear kr;go_wp2;go_ret;exact ⟨by show Ending.returned (.bool (decide (op < 2) || E==0))=_;rw [HF.out,← hde.out,decide_eq_false (show ¬ op < 2 by omega)];rfl,HB.out.trans (hb2.mono HB.out.size)⟩
theorem is_any (a b:ByteArray) (w:World):Calls Tryz.prog 108 #[.string a,.string b] w fun e w'=>e=.returned (.bool (b.toList==a.toList))∧Below w.heap.size w w':=by
 go_enter Tryz.func108,Tryz.ntmps108
 go_wp2;go_ret;exact ⟨rfl,Below.refl _ _⟩
theorem idx_findM {α:Type} (p:α→Bool) (x:α):∀ (l:List α) (i:Nat),
  (∃ k,∃ h:k < l.length,Lib.idxByFrom (fun _ y=>p y) x l i=((i+k:Nat):Int)∧l.find? p=some l[k]∧l.any p=true) ∨
  (Lib.idxByFrom (fun _ y=>p y) x l i=-1∧l.find? p=none∧l.any p=false)
 | [],i=>.inr ⟨rfl,rfl,rfl⟩
 | y :: r,i=>by
  by_cases h:p y=true
  ·exact .inl ⟨0,Nat.succ_pos _,by simp [Lib.idxByFrom,h],by simp [h],by simp [h]⟩
  ·have h':p y=false:=by simpa using h
   rcases idx_findM p x r (i+1) with ⟨k,hk,h1,h2,h3⟩ | ⟨h1,h2,h3⟩
   ·refine .inl ⟨k+1,by simpa using hk,?_,by simp [h',h2],by simp [h',h3]⟩
    simp only [Lib.idxByFrom,h'];rw [show (if false=true then (i:Int) else Lib.idxByFrom (fun _ y=>p y) x r (i+1))=Lib.idxByFrom (fun _ y=>p y) x r (i+1) from rfl,h1]
    congr 1;omega
   ·refine .inr ⟨?_,by simp [h',h2],by simp [h',h3]⟩
    simp only [Lib.idxByFrom,h'];rw [show (if false=true then (i:Int) else Lib.idxByFrom (fun _ y=>p y) x r (i+1))=Lib.idxByFrom (fun _ y=>p y) x r (i+1) from rfl,h1]
abbrev MtF:={ m:Mt // MtFit m }
instance:Inhabited MtF:=⟨⟨⟨⟨#[]⟩,0,⟨#[]⟩⟩,by unfold MtFit maxLen;decide⟩⟩
theorem mtF_list:∀ l:List Mt,MtsFit l→∃ l':List MtF,l'.map Subtype.val=l
 | [],_=>⟨[],rfl⟩
 | m :: l,h=>by
  obtain ⟨l',h'⟩:=mtF_list l (fun x hx=>h x (List.mem_cons_of_mem _ hx));exact ⟨⟨m,h m List.mem_cons_self⟩ :: l',by rw [List.map_cons,h']⟩
theorem mtC_at (l:List Mt) (j:Nat) (h:j < l.length) (i:Nat) (v:Value) (hi:(mtC l[j])[i]?=some v):(mtCells l)[j * 3+i]?=some v:=by
 obtain ⟨h1,h2,h3⟩:=mtCells_at l j h
 match i,hi with
 | 0,hi=>rw [Nat.add_zero,h1];exact hi
 | 1,hi=>rw [h2];exact hi
 | 2,hi=>rw [h3];exact hi
 | i+3,hi=>simp [mtC] at hi
theorem idxm_empty (a:Option Addr) (c:Nat) (f:Value) (w:World) :
  Calls Tryz.prog 104 #[.slice a 0 c,f] w fun e w'=>e=.returned (.int .i64 (-1))∧w'=w:=by
 go_enter Tryz.func104,Tryz.ntmps104
 go_wp2;refine wp_loop_rounds 1 ?_;rw [rounds_succ];go_wp2;go_ret;exact ⟨rfl,rfl⟩
theorem idxm_gen (l:List Mt) (hfit:MtsFit l) (p:Mt→Bool) (g:Nat) (lb:Array Value) (eg:∀ args w,(callFunc g args).run Tryz.prog w=.ok (.enter g args) w) (v:Value) (w:World) (hv:MtsAt w v l) (hl:l.length≤1000000000000)
  (hp:∀ W m,MtFit m→Below w.heap.size w W→Calls Tryz.prog g (#[mtV m] ++ lb) W fun e w'=>e=.returned (.bool (p m))∧Below W.heap.size W w') :
  Calls Tryz.prog 104 #[v,.func (.func g) #[] lb] w fun e w'=>∃ i:Int,e=.returned (.int .i64 i)∧decide (0≤i)=l.any p∧Below w.heap.size w w':=by
 obtain ⟨a,c,rfl,hc,hr⟩:=RdAt.shape hv
 rcases Nat.eq_zero_or_pos l.length with h0 | h0
 ·have hnil:l=[]:=List.length_eq_zero_iff.1 h0
  subst hnil;refine (idxm_empty _ _ _ _).mono ?_;rintro e w' ⟨rfl,rfl⟩;exact ⟨_,rfl,rfl,Below.refl _ _⟩
 ·obtain ⟨gb,o,rfl,hg,hcell⟩:=hr h0
  obtain ⟨l',hl'⟩:∃ l':List MtF,l'.map Subtype.val=l:=mtF_list l hfit;have hlen:l'.length=l.length:=by rw [← hl',List.length_map]
  have hpb:PredBelow Tryz.prog g lb (fun x:MtF=>.agg (mtC x.1).toArray) (fun x=>p x.1) w:=fun W x hW=>by
   refine Calls.mono (hp W x.1 x.2 hW) ?_;rintro e w' ⟨rfl,hb⟩;exact ⟨rfl,hW.trans (hb.mono hW.size)⟩
  have h:=AnyQ.slices_IndexFunc (α:=MtF) Tryz.laysIdxM 3 Tryz.isAgg92 Tryz.sizeOf92 (fun x=>mtC x.1) (fun _=>rfl) (fun x=>p x.1) g lb eg gb o l.length c l' w hpb (by omega) (by omega) hg (fun j hj i x hx=>by
    have hj':j < l'.length:=by omega
    have he:l[j]'(by omega)=(l'[j]'hj').1:=by
     have:(l'.map Subtype.val)[j]'(by rw [List.length_map];exact hj')=(l'[j]'hj').1:=List.getElem_map ..
     rw [← this];congr 1;exact hl'.symm
    have:=hcell (j * 3+i) x (mtC_at l j (by omega) i x (by rw [he];rw [List.getElem!_eq_getElem?_getD,List.getElem?_eq_getElem hj'] at hx;exact hx))
    rw [show o+j * 3+i=o+(j * 3+i) by omega];exact this)
  rw [← hlen,List.take_length] at h;rw [hlen] at h;refine h.mono ?_;rintro e w' ⟨rfl,hb⟩;refine ⟨_,rfl,?_,hb⟩;have ha:l.any p=l'.any (fun x=>p x.1):=by rw [← hl',List.any_map];rfl
  rw [ha];unfold Lib.idxBy
  rcases idx_findM (fun x:MtF=>p x.1) default l' 0 with ⟨k,_,h1,_,h3⟩ | ⟨h1,_,h3⟩
  ·rw [h1,h3];simp
  ·rw [h1,h3];decide
set_option maxHeartbeats 800000 in
theorem hasm_gen (l:List Mt) (hfit:MtsFit l) (p:Mt→Bool) (g:Nat) (lb:Array Value) (eg:∀ args w,(callFunc g args).run Tryz.prog w=.ok (.enter g args) w) (v:Value) (w:World) (hv:MtsAt w v l) (hl:l.length≤1000000000000)
  (hp:∀ W m,MtFit m→Below w.heap.size w W→Calls Tryz.prog g (#[mtV m] ++ lb) W fun e w'=>e=.returned (.bool (p m))∧Below W.heap.size W w') :
  Calls Tryz.prog 84 #[v,.func (.func g) #[] lb] w fun e w'=>e=.returned (.bool (l.any p))∧Below w.heap.size w w':=by
 have hk:=idxm_gen l hfit p g lb eg v w hv hl hp;generalize l.any p=R at *;obtain ⟨a,c,rfl,hc,hr⟩:=RdAt.shape hv;clear hfit eg hv hp hr
 go_enter Tryz.func84,Tryz.ntmps84
 go_wp2_with fail
 refine hk.mono ?_;rintro e w1 ⟨i,rfl,hi,hb1⟩;have HI:=Lib.hid hi;clear hk hi;go_wp2;go_ret;exact ⟨by rw [← HI.out];rfl,hb1⟩
theorem fldC_at' (l:List Fld) (j:Nat) (h:j < l.length) (i:Nat) (v:Value) (hi:([Value.string l[j].1,Value.string l[j].2])[i]?=some v):(fldCells l)[j * 2+i]?=some v:=by
 obtain ⟨h1,h2⟩:=fldCells_at l j h
 match i,hi with
 | 0,hi=>rw [Nat.add_zero,h1];exact hi
 | 1,hi=>rw [h2];exact hi
 | i+2,hi=>simp at hi
theorem idxf_empty (a:Option Addr) (c:Nat) (f:Value) (w:World) :
  Calls Tryz.prog 99 #[.slice a 0 c,f] w fun e w'=>e=.returned (.int .i64 (-1))∧w'=w:=by
 go_enter Tryz.func99,Tryz.ntmps99
 go_wp2;refine wp_loop_rounds 1 ?_;rw [rounds_succ];go_wp2;go_ret;exact ⟨rfl,rfl⟩
theorem idxf_gen (l:List Fld) (p:Fld→Bool) (g:Nat) (lb:Array Value) (eg:∀ args w,(callFunc g args).run Tryz.prog w=.ok (.enter g args) w) (v:Value) (w:World) (hv:FldsAt w v l) (hl:l.length≤1000000000000)
  (hp:∀ W (x:Fld),Below w.heap.size w W→Calls Tryz.prog g (#[.agg #[.string x.1,.string x.2]] ++ lb) W fun e w'=>e=.returned (.bool (p x))∧Below W.heap.size W w') :
  Calls Tryz.prog 99 #[v,.func (.func g) #[] lb] w fun e w' =>
   e=.returned (.int .i64 (Lib.idxByFrom (fun _ (y:Fld)=>p y) default l 0))∧Below w.heap.size w w':=by
 obtain ⟨a,c,rfl,hc,hr⟩:=RdAt.shape hv
 rcases Nat.eq_zero_or_pos l.length with h0 | h0
 ·have hnil:l=[]:=List.length_eq_zero_iff.1 h0
  subst hnil;refine (idxf_empty _ _ _ _).mono ?_;rintro e w' ⟨rfl,rfl⟩;exact ⟨rfl,Below.refl _ _⟩
 ·obtain ⟨gb,o,rfl,hg,hcell⟩:=hr h0
  have hpb:PredBelow Tryz.prog g lb (fun x:Fld=>.agg [Value.string x.1,Value.string x.2].toArray) p w:=fun W x hW=>by
   refine Calls.mono (hp W x hW) ?_;rintro e w' ⟨rfl,hb⟩;exact ⟨rfl,hW.trans (hb.mono hW.size)⟩
  have h:=AnyQ.slices_IndexFunc (α:=Fld) Tryz.laysIdxF 2 Tryz.isAgg90 Tryz.sizeOf90 (fun x=>[Value.string x.1,Value.string x.2]) (fun _=>rfl) p g lb eg gb o l.length c l w hpb (Nat.le_refl _) (by omega) hg (fun j hj i x hx=>by
    have:=hcell (j * 2+i) x (fldC_at' l j hj i x (by rw [List.getElem!_eq_getElem?_getD,List.getElem?_eq_getElem hj] at hx;exact hx))
    rw [show o+j * 2+i=o+(j * 2+i) by omega];exact this)
  rw [List.take_length] at h;exact h
theorem valclos (x:Fld) (b:Nat) (n:ByteArray) (w:World) (hn:w.cell? ⟨b,0,none⟩=some (.string n)) (hlt:b < w.heap.size) :
  Calls Tryz.prog 112 #[.agg #[.string x.1,.string x.2],.pointer (some ⟨b,0,none⟩)] w fun e w'=>e=.returned (.bool (x.1.toList==n.toList))∧Below w.heap.size w w':=by
 have h1:=kCq hn (aBq w (.cells #[.string x.1,.string x.2] 90)) hlt
 go_enter Tryz.func112,Tryz.ntmps112
 go_wp2;go_ret;exact ⟨rfl,aBq _ _⟩
def valueF (l:List Fld) (name:ByteArray):ByteArray:=match l.find? fun f=>f.1.toList==name.toList with
 | some f=>f.2
 | none=>⟨#[]⟩
set_option maxHeartbeats 1600000 in
set_option maxRecDepth 100000 in
theorem value_any (l:List Fld) (n:ByteArray) (w:World) (v:Value) (hv:FldsAt w v l) (hl:l.length≤1000000000000) :
  Calls Tryz.prog 95 #[v,.string n] w fun e w'=>e=.returned (.string (valueF l n))∧Below w.heap.size w w':=by
 have hb0:=aBq w (.cells #[.string n] 9);have hv0:=FldsAt.later hv hb0;have hlt0:w.heap.size < (w.alloc (.cells #[.string n] 9)).heap.size:=by rw [World.size_alloc];omega
 have hn0:(w.alloc (.cells #[.string n] 9)).cell? ⟨w.heap.size,0,none⟩=some (.string n):=by rw [cell_of_row _ _ _ _ _ _ (heap_alloc_new w _)];rfl
 have kc:=idxf_gen l (fun f=>f.1.toList==n.toList) 112 #[.pointer (some ⟨w.heap.size,0,none⟩)] (enters_of Tryz.func112 (by kernel_rfl) rfl) v _ hv0 hl
  (fun W x hW=>valclos x w.heap.size n W (kCq hn0 hW hlt0) (Nat.lt_of_lt_of_le hlt0 hW.size))
 have HV:=Lib.hid hv0;obtain ⟨a,c,rfl,hc,hr⟩:=RdAt.shape hv;clear hr hv hv0
 go_enter Tryz.func95,Tryz.ntmps95
 go_wp2_with fail
 refine kc.mono ?_;rintro e w1 ⟨rfl,hb1⟩;have B1:=Lib.hid (hb0.trans (hb1.mono (Nat.le_of_lt hlt0)));have HV1:=Lib.hid (HV.out.later hb1);clear kc hb0 hb1 hn0 hlt0 HV
 rcases idx_findM (fun f:Fld=>f.1.toList==n.toList) default l 0 with ⟨k,hk,h1,h2,_⟩ | ⟨h1,h2,_⟩
 ·have HR:Hid (valueF l n=l[k].2):=Lib.hid (by unfold valueF;rw [h2])
  rw [h1,Nat.zero_add];obtain ⟨_,_,he,_,hr⟩:=RdAt.shape HV1.out;obtain ⟨gb,o,hab,hg,hcell⟩:=hr (by omega);simp only [Value.slice.injEq] at he;obtain ⟨rfl,_,rfl⟩:=he;subst hab;have hc2:=hcell (k * 2+1) _ (fldCells_at l k hk).2;have hk0:(0:Int)≤(k:Int):=by omega
  have hk1:(k:Int) < (l.length:Int):=by omega
  clear h1 h2 hr hcell;rw [← Nat.add_assoc] at hc2;go_wp2;go_ret;exact ⟨by rw [HR.out];rfl,B1.out⟩
 ·have HR:Hid (valueF l n=⟨#[]⟩):=Lib.hid (by unfold valueF;rw [h2])
  rw [h1];clear h1 h2;go_wp2;go_ret;exact ⟨by rw [HR.out];rfl,B1.out⟩
def cellsG {α:Type} (f:α→List Value):List α→List Value
  | []=>[]
  | x :: l=>f x ++ cellsG f l
section
variable {α:Type} {f:α→List Value} {k:Nat}
theorem cellsG_len (hk:∀ x,(f x).length=k) (l:List α):(cellsG f l).length=l.length * k:=by
  induction l with
  | nil=>simp [cellsG]
  | cons x l ih=>simp only [cellsG,List.length_append,hk,ih,List.length_cons];rw [Nat.succ_mul];omega
theorem cellsG_at (hk:∀ x,(f x).length=k):∀ (l:List α) (j:Nat) (h:j < l.length) (i:Nat) (v:Value),(f l[j])[i]?=some v→(cellsG f l)[j * k+i]?=some v
  | x :: l,0,_,i,v,hi=>by
    have hlt:=(List.getElem?_eq_some_iff.1 hi).1
    simp only [cellsG,Nat.zero_mul,Nat.zero_add]
    rw [List.getElem?_append_left (by simpa using hlt)]
    simpa using hi
  | x :: l,j+1,h,i,v,hi=>by
    simp only [cellsG]
    rw [List.getElem?_append_right (by rw [hk,Nat.succ_mul];omega),hk]
    rw [show (j+1) * k+i - k=j * k+i by rw [Nat.succ_mul];omega]
    exact cellsG_at hk l j (by simpa using h) i v (by simpa using hi)
theorem cellsG_take (hk:∀ x,(f x).length=k) (l:List α) (i:Nat):cellsG f (l.take i)=(cellsG f l).take (i * k):=by
  induction l generalizing i with
  | nil=>simp [cellsG]
  | cons x l ih =>
    cases i with
    | zero=>simp [cellsG]
    | succ i =>
      simp only [List.take_succ_cons,cellsG]
      rw [ih,Nat.succ_mul,show i * k+k=(f x).length+i * k by rw [hk];omega,List.take_length_add_append]
theorem rdG_take {w:World} {a:Option Addr} {c:Nat} {l:List α} (hk:∀ x,(f x).length=k) (h:RdAt w (.slice a l.length c) l.length k (cellsG f l)) (i:Nat):RdAt w (.slice a (min l.length i) c) (l.take i).length k (cellsG f (l.take i)):=by
  have hl:(l.take i).length=min l.length i:=by rw [List.length_take,Nat.min_comm]
  rw [hl,cellsG_take hk]
  obtain ⟨h1,h2⟩:=h
  refine ⟨by rw [List.length_take,cellsG_len hk];rcases Nat.le_total l.length i with h | h
             · rw [Nat.min_eq_left h];exact Nat.min_eq_right (Nat.mul_le_mul_right k h)
             · rw [Nat.min_eq_right h];exact Nat.min_eq_left (Nat.mul_le_mul_right k h),?_⟩
  rcases h2 with ⟨h3,h0⟩ | ⟨ad,c',h3,hc,hr⟩
  · simp only [Value.slice.injEq] at h3
    obtain ⟨rfl,h4,rfl⟩:=h3
    exact .inl ⟨by rw [show min l.length i=0 by omega],by omega⟩
  · simp only [Value.slice.injEq] at h3
    obtain ⟨rfl,_,rfl⟩:=h3
    refine .inr ⟨ad,c,rfl,by omega,fun h0=>?_⟩
    obtain ⟨b,o,rfl,hlt,hcell⟩:=hr (by omega)
    refine ⟨b,o,rfl,hlt,fun j x hj=>hcell j x ?_⟩
    have hjl:=(List.getElem?_eq_some_iff.1 hj).1
    rw [List.length_take] at hjl
    rwa [List.getElem?_take_of_lt (by omega)] at hj
end
structure PRt where
  rcv:ByteArray
  bys:List ByteArray
  wait:Int
  every:Int
  again:Int
  whn:List Mt
  bv:Value
  wv:Value
structure PIh where
  bys:List ByteArray
  lv:Int
  c:Nat
  frm:List Mt
  whn:List Mt
  bv:Value
  fv:Value
  wv:Value
def rtC (r:PRt):List Value:=[.string r.rcv,r.bv,.int .i64 r.wait,.int .i64 r.every,.int .i64 r.again,r.wv]
def ihC (x:PIh):List Value:=[x.bv,.int .i64 x.lv,.int .u32 x.c,x.fv,x.wv]
theorem rtC_len (r:PRt):(rtC r).length=6:=rfl
theorem ihC_len (x:PIh):(ihC x).length=5:=rfl
def StrsG (w:World) (v:Value) (ws:List ByteArray):Prop:=RdAt w v ws.length 1 (ws.map Value.string)
def StrsFit (ws:List ByteArray):Prop:=ws.length≤maxLen∧∀ x∈ws,x.size≤maxLen
structure RtIn (w:World) (r:PRt):Prop where
  b:StrsG w r.bv r.bys
  m:MtsAt w r.wv r.whn
structure IhIn (w:World) (x:PIh):Prop where
  b:StrsG w x.bv x.bys
  f:MtsAt w x.fv x.frm
  m:MtsAt w x.wv x.whn
structure RtFit (r:PRt):Prop where
  rcv:r.rcv.size≤maxLen
  bys:StrsFit r.bys
  whn:MtsFit r.whn
  len:r.whn.length≤maxLen
structure IhFit (x:PIh):Prop where
  bys:StrsFit x.bys
  c:x.c < 4294967296
  frm:MtsFit x.frm
  whn:MtsFit x.whn
  lf:x.frm.length≤maxLen
  lw:x.whn.length≤maxLen
def RtsAt (w:World) (v:Value) (l:List PRt):Prop:=RdAt w v l.length 6 (cellsG rtC l)∧∀ r∈l,RtIn w r
def IhsAt (w:World) (v:Value) (l:List PIh):Prop:=RdAt w v l.length 5 (cellsG ihC l)∧∀ x∈l,IhIn w x
theorem RtIn.later {w w':World} {r:PRt} (h:RtIn w r) (hb:Below w.heap.size w w'):RtIn w' r:=⟨RdAt.later h.b hb,h.m.later hb⟩
theorem IhIn.later {w w':World} {x:PIh} (h:IhIn w x) (hb:Below w.heap.size w w'):IhIn w' x:=⟨RdAt.later h.b hb,h.f.later hb,h.m.later hb⟩
theorem RtsAt.later {w w':World} {v:Value} {l:List PRt} (h:RtsAt w v l) (hb:Below w.heap.size w w'):RtsAt w' v l:=⟨h.1.later hb,fun r hr=>(h.2 r hr).later hb⟩
theorem IhsAt.later {w w':World} {v:Value} {l:List PIh} (h:IhsAt w v l) (hb:Below w.heap.size w w'):IhsAt w' v l:=⟨h.1.later hb,fun r hr=>(h.2 r hr).later hb⟩
def NmdWide (l:List Nmd):Prop:=l.length≤maxLen∧NmdFit l∧∀ x∈l,x.1.size≤maxLen
structure PD where
  so:List Nmd
  re:List Nmd
  pe:List Nmd
  ra:List Nmd
  ro:List PRt
  ih:List PIh
structure PV where
  v0:Value
  v1:Value
  v2:Value
  v3:Value
  v4:Value
  v5:Value
abbrev PV.v (x:PV):Value:=.agg #[x.v0,x.v1,x.v2,x.v3,x.v4,x.v5]
structure PolAt (w:World) (v:PV) (p:PD):Prop where
  h0:NmdsAt w v.v0 p.so
  h1:NmdsAt w v.v1 p.re
  h2:NmdsAt w v.v2 p.pe
  h3:NmdsAt w v.v3 p.ra
  h4:RtsAt w v.v4 p.ro
  h5:IhsAt w v.v5 p.ih
structure PolFitD (p:PD):Prop where
  h0:NmdWide p.so
  h1:NmdWide p.re
  h2:NmdWide p.pe
  h3:NmdWide p.ra
  l4:p.ro.length≤maxLen
  h4:∀ r∈p.ro,RtFit r
  l5:p.ih.length≤maxLen
  h5:∀ x∈p.ih,IhFit x
theorem PolAt.later {w w':World} {v:PV} {p:PD} (h:PolAt w v p) (hb:Below w.heap.size w w'):PolAt w' v p :=
  ⟨h.h0.later hb,h.h1.later hb,h.h2.later hb,h.h3.later hb,h.h4.later hb,h.h5.later hb⟩
def namedP (l:List Nmd):Bool:=decide ((l.map (·.1)).Nodup)&&l.all (fun x=>nameL (B x.1)&&rightL x.2.1)
def byP (l:List ByteArray):Bool:=decide l.Nodup&&l.all (fun x=>nameL (B x))&&decide (l.length≤8)
def plainT (s:ByteArray):Bool:=(B s).all fun c=>decide (32≤c.toNat)
def whenP (l:List Mt):Bool:=l.all (fun m=>plainT m.val&&fineM m)&&decide (l.length≤12)
def timesP (r:PRt):Bool:=decide (0≤r.wait)&&decide (r.wait≤1000)&&decide (1≤r.every)&&decide (r.every≤1000)&&decide (r.every≤r.again)&&decide (r.again≤100000)
def badRt (re:List Nmd) (r:PRt):Bool:=!(findL re r.rcv).isSome || !byP r.bys || !timesP r || !whenP r.whn
def badIh (x:PIh):Bool:=!byP x.bys || !rightL x.lv || !whenP x.frm || !whenP x.whn
def longP (p:PD):Bool:=decide (12 < p.so.length) || decide (12 < p.re.length) || decide (12 < p.pe.length) || decide (12 < p.ra.length) || decide (12 < p.ro.length) || decide (12 < p.ih.length)
def namesP (p:PD):Bool:=namedP p.so&&namedP p.re&&namedP p.pe&&namedP p.ra
def checkP (p:PD):Int:=if longP p then 4 else if !namesP p then 1 else if p.ro.any (badRt p.re) then 1 else if p.ih.any badIh then 1 else 0
end Go.Proofs.YtipnhpfpppblhaaGreat
namespace Go.Proofs.YtipnhpfpppblhaaGreat
open Go.RowKit
def NlsAt (w:World) (v:Value) (l:List (List Nmd × Value)):Prop:=RdAt w v l.length 1 (l.map (·.2))
set_option maxHeartbeats 800000 in
theorem idxS_gen (l:List ByteArray) (p:ByteArray→Bool) (g:Nat) (lb:Array Value) (eg:∀ args w,(callFunc g args).run Tryz.prog w=.ok (.enter g args) w) (v:Value) (w:World) (hv:StrsG w v l) (hl:l.length≤1000000000000)
  (hp:∀ W x,x∈l→Below w.heap.size w W→Calls Tryz.prog g (#[.string x] ++ lb) W fun e w'=>e=.returned (.bool (p x))∧Below W.heap.size W w') :
  Calls Tryz.prog 111 #[v,.func (.func g) #[] lb] w fun e w'=>∃ i:Int,e=.returned (.int .i64 i)∧decide (0≤i)=l.any p∧Below w.heap.size w w':=by
 obtain ⟨a,c,rfl,hc,hr⟩:=RdAt.shape hv;have HR:=Lib.hid hr;have HP:=Lib.hid hp;clear hr hv hp
 go_enter Tryz.func111,Tryz.ntmps111
 go_wp2
 go_loopw [8] (fun i wr=>∃ k:Nat,i=.int .i64 k∧k≤l.length∧Hid (∀ j (_:j < l.length),j < k→p l[j]=false)∧Below w.heap.size w wr) (fun i _=>l.length - (intOf i).toNat)
 case atStart=>exact ⟨0,rfl,Nat.zero_le _,Lib.hid (fun _ _ h=>absurd h (Nat.not_lt_zero _)),Below.refl _ _⟩
 case round =>
  obtain ⟨k,rfl,hk,HT,hbr⟩:=hrel
  by_cases hkl:k < l.length
  ·obtain ⟨b,o,rfl,hb,hcell⟩:=HR.out (by omega)
   have hcall:=HP.out wr l[k] (List.getElem_mem hkl) hbr;have HY:Hid (p l[k]=true→l.any p=true):=Lib.hid (fun h=>List.any_eq_true.2 ⟨_,List.getElem_mem hkl,h⟩);have q0:wr.cell? ⟨b,o+k,none⟩=some (.string l[k]):=kCq (hcell k _ (by rw [List.getElem?_map,List.getElem?_eq_getElem hkl];rfl)) hbr hb;obtain ⟨x,hx⟩:∃ x,l[k]=x:=⟨_,rfl⟩;have HX:=Lib.hid hx;rw [hx] at hcall HY q0;clear hx hcell
   cases hq:p x with
   | true =>
    rw [hq] at hcall HY;go_wp2_with (go_at_fn g;refine hcall.mono ?_;rintro e w' ⟨rfl,hb'⟩)
    go_ret;exact ⟨_,rfl,by rw [HY.out (by trivial)];exact decide_eq_true (by omega),hbr.trans (hb'.mono hbr.size)⟩
   | false =>
    have HN:Hid (∀ j (_:j < l.length),j < k+1→p l[j]=false):=Lib.hid (fun j hj h=>by
     rcases Nat.lt_or_ge j k with h' | h'
     ·exact HT.out j hj h'
     ·obtain rfl:j=k:=by omega
      rw [HX.out];exact hq)
    rw [hq] at hcall;clear HY;go_wp2_with (go_at_fn g;refine hcall.mono ?_;rintro e w' ⟨rfl,hb'⟩)
    have hb2:=hbr.trans (hb'.mono hbr.size);go_roundw
    case rel=>exact ⟨k+1,by go_num,by omega,HN,hb2⟩
    case measure=>(simp [intOf];try omega)
  ·obtain rfl:k=l.length:=by omega
   have HN:Hid (l.any p=false):=Lib.hid (by
    rw [List.any_eq_false];intro y hy;obtain ⟨i,hi,rfl⟩:=List.mem_iff_getElem.1 hy;rw [HT.out i hi hi];decide)
   clear HT;go_wp2;go_ret;exact ⟨_,rfl,by rw [HN.out];rfl,hbr⟩
theorem hasS_gen (l:List ByteArray) (p:ByteArray→Bool) (g:Nat) (lb:Array Value) (eg:∀ args w,(callFunc g args).run Tryz.prog w=.ok (.enter g args) w) (v:Value) (w:World) (hv:StrsG w v l) (hl:l.length≤1000000000000)
  (hp:∀ W x,x∈l→Below w.heap.size w W→Calls Tryz.prog g (#[.string x] ++ lb) W fun e w'=>e=.returned (.bool (p x))∧Below W.heap.size W w') :
  Calls Tryz.prog 93 #[v,.func (.func g) #[] lb] w fun e w'=>e=.returned (.bool (l.any p))∧Below w.heap.size w w':=by
 have hk:=idxS_gen l p g lb eg v w hv hl hp;generalize l.any p=R at *;obtain ⟨a,c,rfl,_,_⟩:=RdAt.shape hv;clear eg hv hp
 go_enter Tryz.func93,Tryz.ntmps93
 go_wp2_with fail
 refine hk.mono ?_;rintro e w1 ⟨i,rfl,hi,hb1⟩;have HI:=Lib.hid hi;clear hk hi;go_wp2;go_ret;exact ⟨by rw [← HI.out];rfl,hb1⟩
set_option maxHeartbeats 800000 in
theorem idxL_gen (l:List (List Nmd × Value)) (p:(List Nmd × Value)→Bool) (g:Nat) (lb:Array Value) (eg:∀ args w,(callFunc g args).run Tryz.prog w=.ok (.enter g args) w) (v:Value) (w:World) (hv:NlsAt w v l) (hl:l.length≤1000000000000)
  (hp:∀ W x,x∈l→Below w.heap.size w W→Calls Tryz.prog g (#[x.2] ++ lb) W fun e w'=>e=.returned (.bool (p x))∧Below W.heap.size W w') :
  Calls Tryz.prog 85 #[v,.func (.func g) #[] lb] w fun e w'=>∃ i:Int,e=.returned (.int .i64 i)∧decide (0≤i)=l.any p∧Below w.heap.size w w':=by
 obtain ⟨a,c,rfl,hc,hr⟩:=RdAt.shape hv;have HR:=Lib.hid hr;have HP:=Lib.hid hp;clear hr hv hp
 go_enter Tryz.func85,Tryz.ntmps85
 go_wp2
 go_loopw [8] (fun i wr=>∃ k:Nat,i=.int .i64 k∧k≤l.length∧Hid (∀ j (_:j < l.length),j < k→p l[j]=false)∧Below w.heap.size w wr) (fun i _=>l.length - (intOf i).toNat)
 case atStart=>exact ⟨0,rfl,Nat.zero_le _,Lib.hid (fun _ _ h=>absurd h (Nat.not_lt_zero _)),Below.refl _ _⟩
 case round =>
  obtain ⟨k,rfl,hk,HT,hbr⟩:=hrel
  by_cases hkl:k < l.length
  ·obtain ⟨b,o,rfl,hb,hcell⟩:=HR.out (by omega)
   have hcall:=HP.out wr l[k] (List.getElem_mem hkl) hbr;have HY:Hid (p l[k]=true→l.any p=true):=Lib.hid (fun h=>List.any_eq_true.2 ⟨_,List.getElem_mem hkl,h⟩);have q0:wr.cell? ⟨b,o+k,none⟩=some l[k].2:=kCq (hcell k _ (by rw [List.getElem?_map,List.getElem?_eq_getElem hkl];rfl)) hbr hb;obtain ⟨x,hx⟩:∃ x,l[k]=x:=⟨_,rfl⟩;have HX:=Lib.hid hx;rw [hx] at hcall HY q0;clear hx hcell
   cases hq:p x with
   | true =>
    rw [hq] at hcall HY;go_wp2_with (go_at_fn g;refine hcall.mono ?_;rintro e w' ⟨rfl,hb'⟩)
    go_ret;exact ⟨_,rfl,by rw [HY.out (by trivial)];exact decide_eq_true (by omega),hbr.trans (hb'.mono hbr.size)⟩
   | false =>
    have HN:Hid (∀ j (_:j < l.length),j < k+1→p l[j]=false):=Lib.hid (fun j hj h=>by
     rcases Nat.lt_or_ge j k with h' | h'
     ·exact HT.out j hj h'
     ·obtain rfl:j=k:=by omega
      rw [HX.out];exact hq)
    rw [hq] at hcall;clear HY;go_wp2_with (go_at_fn g;refine hcall.mono ?_;rintro e w' ⟨rfl,hb'⟩)
    have hb2:=hbr.trans (hb'.mono hbr.size);go_roundw
    case rel=>exact ⟨k+1,by go_num,by omega,HN,hb2⟩
    case measure=>(simp [intOf];try omega)
  ·obtain rfl:k=l.length:=by omega
   have HN:Hid (l.any p=false):=Lib.hid (by
    rw [List.any_eq_false];intro y hy;obtain ⟨i,hi,rfl⟩:=List.mem_iff_getElem.1 hy;rw [HT.out i hi hi];decide)
   clear HT;go_wp2;go_ret;exact ⟨_,rfl,by rw [HN.out];rfl,hbr⟩
theorem hasL_gen (l:List (List Nmd × Value)) (p:(List Nmd × Value)→Bool) (g:Nat) (lb:Array Value) (eg:∀ args w,(callFunc g args).run Tryz.prog w=.ok (.enter g args) w) (v:Value) (w:World) (hv:NlsAt w v l) (hl:l.length≤1000000000000)
  (hp:∀ W x,x∈l→Below w.heap.size w W→Calls Tryz.prog g (#[x.2] ++ lb) W fun e w'=>e=.returned (.bool (p x))∧Below W.heap.size W w') :
  Calls Tryz.prog 57 #[v,.func (.func g) #[] lb] w fun e w'=>e=.returned (.bool (l.any p))∧Below w.heap.size w w':=by
 have hk:=idxL_gen l p g lb eg v w hv hl hp;generalize l.any p=R at *;obtain ⟨a,c,rfl,_,_⟩:=RdAt.shape hv;clear eg hv hp
 go_enter Tryz.func57,Tryz.ntmps57
 go_wp2_with fail
 refine hk.mono ?_;rintro e w1 ⟨i,rfl,hi,hb1⟩;have HI:=Lib.hid hi;clear hk hi;go_wp2;go_ret;exact ⟨by rw [← HI.out];rfl,hb1⟩
set_option maxHeartbeats 800000 in
theorem idxR_gen (l:List PRt) (p:PRt→Bool) (g:Nat) (lb:Array Value) (eg:∀ args w,(callFunc g args).run Tryz.prog w=.ok (.enter g args) w) (v:Value) (w:World) (hv:RdAt w v l.length 6 (cellsG rtC l)) (hl:l.length≤1000000000000)
  (hp:∀ W x,x∈l→Below w.heap.size w W→Calls Tryz.prog g (#[.agg #[.string x.rcv,x.bv,.int .i64 x.wait,.int .i64 x.every,.int .i64 x.again,x.wv]] ++ lb) W fun e w'=>e=.returned (.bool (p x))∧Below W.heap.size W w') :
  Calls Tryz.prog 86 #[v,.func (.func g) #[] lb] w fun e w'=>∃ i:Int,e=.returned (.int .i64 i)∧decide (0≤i)=l.any p∧Below w.heap.size w w':=by
 obtain ⟨a,c,rfl,hc,hr⟩:=RdAt.shape hv;have HR:=Lib.hid hr;have HP:=Lib.hid hp;clear hr hv hp
 go_enter Tryz.func86,Tryz.ntmps86
 go_wp2
 go_loopw [8] (fun i wr=>∃ k:Nat,i=.int .i64 k∧k≤l.length∧Hid (∀ j (_:j < l.length),j < k→p l[j]=false)∧Below w.heap.size w wr) (fun i _=>l.length - (intOf i).toNat)
 case atStart=>exact ⟨0,rfl,Nat.zero_le _,Lib.hid (fun _ _ h=>absurd h (Nat.not_lt_zero _)),Below.refl _ _⟩
 case round =>
  obtain ⟨k,rfl,hk,HT,hbr⟩:=hrel
  by_cases hkl:k < l.length
  ·obtain ⟨b,o,rfl,hb,hcell⟩:=HR.out (by omega)
   have hcall:=HP.out wr l[k] (List.getElem_mem hkl) hbr;have HY:Hid (p l[k]=true→l.any p=true):=Lib.hid (fun h=>List.any_eq_true.2 ⟨_,List.getElem_mem hkl,h⟩);have HC:=cellsG_at rtC_len l k hkl;have q:∀ i v,(rtC l[k])[i]?=some v→wr.cell? ⟨b,o+k * 6+i,none⟩=some v:=fun i v hi=>kCq (by have:=hcell _ _ (HC i v hi);rwa [← Nat.add_assoc] at this) hbr hb;have q0:wr.cell? ⟨b,o+k * 6,none⟩=some (.string l[k].rcv):=q 0 _ rfl;have q1:wr.cell? ⟨b,o+k * 6+1,none⟩=some (l[k].bv):=q 1 _ rfl;have q2:wr.cell? ⟨b,o+k * 6+2,none⟩=some (.int .i64 l[k].wait):=q 2 _ rfl;have q3:wr.cell? ⟨b,o+k * 6+3,none⟩=some (.int .i64 l[k].every):=q 3 _ rfl;have q4:wr.cell? ⟨b,o+k * 6+4,none⟩=some (.int .i64 l[k].again):=q 4 _ rfl;have q5:wr.cell? ⟨b,o+k * 6+5,none⟩=some (l[k].wv):=q 5 _ rfl;clear q HC;obtain ⟨x,hx⟩:∃ x,l[k]=x:=⟨_,rfl⟩;have HX:=Lib.hid hx;rw [hx] at hcall HY q0 q1 q2 q3 q4 q5;clear hx hcell;obtain ⟨x0,hx0⟩:∃ z,z=x:=⟨_,rfl⟩;rw [← hx0] at HX hcall HY;have HX0:=Lib.hid hx0;subst hx0;clear HX0
   cases hq:p x0 with
   | true =>
    rw [hq] at hcall HY;go_wp2_with (go_at_fn g;refine hcall.mono ?_;rintro e w' ⟨rfl,hb'⟩)
    go_ret;exact ⟨_,rfl,by rw [HY.out (by trivial)];exact decide_eq_true (by omega),hbr.trans (hb'.mono hbr.size)⟩
   | false =>
    have HN:Hid (∀ j (_:j < l.length),j < k+1→p l[j]=false):=Lib.hid (fun j hj h=>by
     rcases Nat.lt_or_ge j k with h' | h'
     ·exact HT.out j hj h'
     ·obtain rfl:j=k:=by omega
      rw [HX.out];exact hq)
    rw [hq] at hcall;clear HY;go_wp2_with (go_at_fn g;refine hcall.mono ?_;rintro e w' ⟨rfl,hb'⟩)
    have hb2:=hbr.trans (hb'.mono hbr.size);go_roundw
    case rel=>exact ⟨k+1,by go_num,by omega,HN,hb2⟩
    case measure=>(simp [intOf];try omega)
  ·obtain rfl:k=l.length:=by omega
   have HN:Hid (l.any p=false):=Lib.hid (by
    rw [List.any_eq_false];intro y hy;obtain ⟨i,hi,rfl⟩:=List.mem_iff_getElem.1 hy;rw [HT.out i hi hi];decide)
   clear HT;go_wp2;go_ret;exact ⟨_,rfl,by rw [HN.out];rfl,hbr⟩
theorem hasR_gen (l:List PRt) (p:PRt→Bool) (g:Nat) (lb:Array Value) (eg:∀ args w,(callFunc g args).run Tryz.prog w=.ok (.enter g args) w) (v:Value) (w:World) (hv:RdAt w v l.length 6 (cellsG rtC l)) (hl:l.length≤1000000000000)
  (hp:∀ W x,x∈l→Below w.heap.size w W→Calls Tryz.prog g (#[.agg #[.string x.rcv,x.bv,.int .i64 x.wait,.int .i64 x.every,.int .i64 x.again,x.wv]] ++ lb) W fun e w'=>e=.returned (.bool (p x))∧Below W.heap.size W w') :
  Calls Tryz.prog 58 #[v,.func (.func g) #[] lb] w fun e w'=>e=.returned (.bool (l.any p))∧Below w.heap.size w w':=by
 have hk:=idxR_gen l p g lb eg v w hv hl hp;generalize l.any p=R at *;obtain ⟨a,c,rfl,_,_⟩:=RdAt.shape hv;clear eg hv hp
 go_enter Tryz.func58,Tryz.ntmps58
 go_wp2_with fail
 refine hk.mono ?_;rintro e w1 ⟨i,rfl,hi,hb1⟩;have HI:=Lib.hid hi;clear hk hi;go_wp2;go_ret;exact ⟨by rw [← HI.out];rfl,hb1⟩
set_option maxHeartbeats 800000 in
theorem idxI_gen (l:List PIh) (p:PIh→Bool) (g:Nat) (lb:Array Value) (eg:∀ args w,(callFunc g args).run Tryz.prog w=.ok (.enter g args) w) (v:Value) (w:World) (hv:RdAt w v l.length 5 (cellsG ihC l)) (hl:l.length≤1000000000000)
  (hp:∀ W x,x∈l→Below w.heap.size w W→Calls Tryz.prog g (#[.agg #[x.bv,.int .i64 x.lv,.int .u32 x.c,x.fv,x.wv]] ++ lb) W fun e w'=>e=.returned (.bool (p x))∧Below W.heap.size W w') :
  Calls Tryz.prog 87 #[v,.func (.func g) #[] lb] w fun e w'=>∃ i:Int,e=.returned (.int .i64 i)∧decide (0≤i)=l.any p∧Below w.heap.size w w':=by
 obtain ⟨a,c,rfl,hc,hr⟩:=RdAt.shape hv;have HR:=Lib.hid hr;have HP:=Lib.hid hp;clear hr hv hp
 go_enter Tryz.func87,Tryz.ntmps87
 go_wp2
 go_loopw [8] (fun i wr=>∃ k:Nat,i=.int .i64 k∧k≤l.length∧Hid (∀ j (_:j < l.length),j < k→p l[j]=false)∧Below w.heap.size w wr) (fun i _=>l.length - (intOf i).toNat)
 case atStart=>exact ⟨0,rfl,Nat.zero_le _,Lib.hid (fun _ _ h=>absurd h (Nat.not_lt_zero _)),Below.refl _ _⟩
 case round =>
  obtain ⟨k,rfl,hk,HT,hbr⟩:=hrel
  by_cases hkl:k < l.length
  ·obtain ⟨b,o,rfl,hb,hcell⟩:=HR.out (by omega)
   have hcall:=HP.out wr l[k] (List.getElem_mem hkl) hbr;have HY:Hid (p l[k]=true→l.any p=true):=Lib.hid (fun h=>List.any_eq_true.2 ⟨_,List.getElem_mem hkl,h⟩);have HC:=cellsG_at ihC_len l k hkl;have q:∀ i v,(ihC l[k])[i]?=some v→wr.cell? ⟨b,o+k * 5+i,none⟩=some v:=fun i v hi=>kCq (by have:=hcell _ _ (HC i v hi);rwa [← Nat.add_assoc] at this) hbr hb;have q0:wr.cell? ⟨b,o+k * 5,none⟩=some (l[k].bv):=q 0 _ rfl;have q1:wr.cell? ⟨b,o+k * 5+1,none⟩=some (.int .i64 l[k].lv):=q 1 _ rfl;have q2:wr.cell? ⟨b,o+k * 5+2,none⟩=some (.int .u32 l[k].c):=q 2 _ rfl;have q3:wr.cell? ⟨b,o+k * 5+3,none⟩=some (l[k].fv):=q 3 _ rfl;have q4:wr.cell? ⟨b,o+k * 5+4,none⟩=some (l[k].wv):=q 4 _ rfl;clear q HC;obtain ⟨x,hx⟩:∃ x,l[k]=x:=⟨_,rfl⟩;have HX:=Lib.hid hx;rw [hx] at hcall HY q0 q1 q2 q3 q4;clear hx hcell;obtain ⟨x0,hx0⟩:∃ z,z=x:=⟨_,rfl⟩;rw [← hx0] at HX hcall HY;have HX0:=Lib.hid hx0;subst hx0;clear HX0
   cases hq:p x0 with
   | true =>
    rw [hq] at hcall HY;go_wp2_with (go_at_fn g;refine hcall.mono ?_;rintro e w' ⟨rfl,hb'⟩)
    go_ret;exact ⟨_,rfl,by rw [HY.out (by trivial)];exact decide_eq_true (by omega),hbr.trans (hb'.mono hbr.size)⟩
   | false =>
    have HN:Hid (∀ j (_:j < l.length),j < k+1→p l[j]=false):=Lib.hid (fun j hj h=>by
     rcases Nat.lt_or_ge j k with h' | h'
     ·exact HT.out j hj h'
     ·obtain rfl:j=k:=by omega
      rw [HX.out];exact hq)
    rw [hq] at hcall;clear HY;go_wp2_with (go_at_fn g;refine hcall.mono ?_;rintro e w' ⟨rfl,hb'⟩)
    have hb2:=hbr.trans (hb'.mono hbr.size);go_roundw
    case rel=>exact ⟨k+1,by go_num,by omega,HN,hb2⟩
    case measure=>(simp [intOf];try omega)
  ·obtain rfl:k=l.length:=by omega
   have HN:Hid (l.any p=false):=Lib.hid (by
    rw [List.any_eq_false];intro y hy;obtain ⟨i,hi,rfl⟩:=List.mem_iff_getElem.1 hy;rw [HT.out i hi hi];decide)
   clear HT;go_wp2;go_ret;exact ⟨_,rfl,by rw [HN.out];rfl,hbr⟩
theorem hasI_gen (l:List PIh) (p:PIh→Bool) (g:Nat) (lb:Array Value) (eg:∀ args w,(callFunc g args).run Tryz.prog w=.ok (.enter g args) w) (v:Value) (w:World) (hv:RdAt w v l.length 5 (cellsG ihC l)) (hl:l.length≤1000000000000)
  (hp:∀ W x,x∈l→Below w.heap.size w W→Calls Tryz.prog g (#[.agg #[x.bv,.int .i64 x.lv,.int .u32 x.c,x.fv,x.wv]] ++ lb) W fun e w'=>e=.returned (.bool (p x))∧Below W.heap.size W w') :
  Calls Tryz.prog 59 #[v,.func (.func g) #[] lb] w fun e w'=>e=.returned (.bool (l.any p))∧Below w.heap.size w w':=by
 have hk:=idxI_gen l p g lb eg v w hv hl hp;generalize l.any p=R at *;obtain ⟨a,c,rfl,_,_⟩:=RdAt.shape hv;clear eg hv hp
 go_enter Tryz.func59,Tryz.ntmps59
 go_wp2_with fail
 refine hk.mono ?_;rintro e w1 ⟨i,rfl,hi,hb1⟩;have HI:=Lib.hid hi;clear hk hi;go_wp2;go_ret;exact ⟨by rw [← HI.out];rfl,hb1⟩
noncomputable def fitB (p t:ByteArray):Bool:=@decide (FitsP p t) (Classical.propDecidable _)
theorem fitB_iff {p t:ByteArray}:fitB p t=true↔FitsP p t:=@decide_eq_true_iff _ (Classical.propDecidable _)
theorem fits_b (p t:ByteArray) (W:World) (ht:t.size≤maxLen):Calls Tryz.prog 110 #[.string p,.string t] W fun e w'=>e=.returned (.bool (fitB p t))∧Below W.heap.size W w':=by
 refine (tfits_is p t W ht).mono ?_;rintro e w' ⟨b,rfl,h1,h2⟩
 have:b=fitB p t:=by rw [Bool.eq_iff_iff,fitB_iff];exact h1
 rw [this];exact ⟨rfl,h2⟩
noncomputable def opM (m:Mt) (v:ByteArray):Bool :=
 if m.op=0 then v.toList==m.val.toList else if m.op=1 then !(v.toList==m.val.toList) else if m.op=2 then fitB m.val v else !(fitB m.val v)
noncomputable def fitM (l:List Fld) (m:Mt):Bool:=fineM m&&opM m (valueF l m.nm)
theorem valueF_size {l:List Fld} (hf:FldsFit l) (n:ByteArray):(valueF l n).size≤maxLen:=by
 unfold valueF
 split
 ·rename_i f h
  exact (hf f (List.mem_of_find?_eq_some h)).2
 ·exact Nat.zero_le _
theorem not_fn (g:Nat) (w:World):Calls Tryz.prog 109 #[.func (.func g) #[] #[]] w fun e w'=>e=.returned (.func (.func 125) #[] #[.pointer (some ⟨w.heap.size,0,none⟩)])∧w'=w.alloc (.cells #[.func (.func g) #[] #[]] 118):=by
 go_enter Tryz.func109,Tryz.ntmps109
 go_wp2;go_ret;exact ⟨rfl,rfl⟩
theorem not_is (a v:ByteArray) (b:Nat) (w:World) (hc:w.cell? ⟨b,0,none⟩=some (.func (.func 108) #[] #[])):Calls Tryz.prog 125 #[.string a,.string v,.pointer (some ⟨b,0,none⟩)] w fun e w'=>e=.returned (.bool (!(v.toList==a.toList)))∧Below w.heap.size w w':=by
 have k:=is_any a v w
 go_enter Tryz.func125,Tryz.ntmps125
 go_wp2_with fail
 refine k.mono ?_;rintro e w1 ⟨rfl,hb⟩;clear k;go_wp2;go_ret;exact ⟨rfl,hb⟩
theorem not_fits (a v:ByteArray) (b:Nat) (w:World) (hv:v.size≤maxLen) (hc:w.cell? ⟨b,0,none⟩=some (.func (.func 110) #[] #[])):Calls Tryz.prog 125 #[.string a,.string v,.pointer (some ⟨b,0,none⟩)] w fun e w'=>e=.returned (.bool (!(fitB a v)))∧Below w.heap.size w w':=by
 have k:=fits_b a v w hv;generalize fitB a v=r at *
 go_enter Tryz.func125,Tryz.ntmps125
 go_wp2_with fail
 refine k.mono ?_;rintro e w1 ⟨rfl,hb⟩;clear k;go_wp2;go_ret;exact ⟨rfl,hb⟩
structure FitBox (w:World) (nm:ByteArray) (op:Int) (val:ByteArray) (W:World):Prop where
 b:Below w.heap.size w W
 z:w.heap.size+2 < W.heap.size
 a0:W.cell? ⟨w.heap.size,0,none⟩=some (.string nm)
 a1:W.cell? ⟨w.heap.size,1,none⟩=some (.int .i64 op)
 a2:W.cell? ⟨w.heap.size,2,none⟩=some (.string val)
 f1:W.cell? ⟨w.heap.size+1,0,none⟩=some (.func (.func 108) #[] #[])
 f2:W.cell? ⟨w.heap.size+2,0,none⟩=some (.func (.func 110) #[] #[])
theorem FitBox.later {w:World} {nm:ByteArray} {op:Int} {val:ByteArray} {W W':World} (h:FitBox w nm op val W) (hb:Below W.heap.size W W'):FitBox w nm op val W':=by
 obtain ⟨b,z,a0,a1,a2,f1,f2⟩:=h;exact ⟨b.trans (hb.mono b.size),Nat.lt_of_lt_of_le z hb.size,kCq a0 hb (by omega),kCq a1 hb (by omega),kCq a2 hb (by omega),kCq f1 hb (by omega),kCq f2 hb (by omega)⟩
theorem FitBox.mk3 (w:World) (nm:ByteArray) (op:Int) (val:ByteArray) (t u:TypeId):FitBox w nm op val (((w.alloc (.cells #[.string nm,.int .i64 op,.string val] t)).alloc (.cells #[.func (.func 108) #[] #[]] u)).alloc (.cells #[.func (.func 110) #[] #[]] u)):=by
 have b1:=aBq w (.cells #[.string nm,.int .i64 op,.string val] t);have s1:=World.size_alloc w (.cells #[.string nm,.int .i64 op,.string val] t);have x1:=heap_alloc_new w (.cells #[.string nm,.int .i64 op,.string val] t);generalize w.alloc (.cells #[.string nm,.int .i64 op,.string val] t)=w1 at *;have b2:=aBq w1 (.cells #[.func (.func 108) #[] #[]] u);have s2:=World.size_alloc w1 (.cells #[.func (.func 108) #[] #[]] u);have x2:=heap_alloc_new w1 (.cells #[.func (.func 108) #[] #[]] u);generalize w1.alloc (.cells #[.func (.func 108) #[] #[]] u)=w2 at *;have b3:=aBq w2 (.cells #[.func (.func 110) #[] #[]] u);have s3:=World.size_alloc w2 (.cells #[.func (.func 110) #[] #[]] u);have x3:=heap_alloc_new w2 (.cells #[.func (.func 110) #[] #[]] u);generalize w2.alloc (.cells #[.func (.func 110) #[] #[]] u)=w3 at *;rw [s1] at x2;rw [show w2.heap.size=w.heap.size+2 by omega] at x3;have k:∀ i v,w1.cell? ⟨w.heap.size,i,none⟩=some v→w3.cell? ⟨w.heap.size,i,none⟩=some v:=fun i v h=>kCq (kCq h b2 (by omega)) b3 (by omega);refine ⟨(b1.trans (b2.mono (by omega))).trans (b3.mono (by omega)),by omega,k _ _ ?_,k _ _ ?_,k _ _ ?_,kCq ?_ b3 (by omega),?_⟩
 ·rw [cell_of_row _ _ _ _ _ _ x1];rfl
 ·rw [cell_of_row _ _ _ _ _ _ x1];rfl
 ·rw [cell_of_row _ _ _ _ _ _ x1];rfl
 ·rw [cell_of_row _ _ _ _ _ _ x2];rfl
 ·rw [cell_of_row _ _ _ _ _ _ x3];rfl
theorem store_row_step {P:Program} {W:World} {g j:Nat} {arr:Array Value} {t:TypeId} {v:Value} (hg:W.heap[g]?=some (.cells arr t (0,0))) (hj:j < arr.size) (h1:v.oneCell'=true) :
  ∃ W',(store ⟨g,j,none⟩ v).run P W=.ok () W'∧W'.heap[g]?=some (.cells (arr.setIfInBounds j v) t (0,0))∧Below g W W':=by
 have hc:W.cell? ⟨g,j,none⟩=some arr[j]:=by rw [cell_of_row _ _ _ _ _ _ hg];exact Array.getElem?_eq_getElem hj
 have hf:W.frozen? ⟨g,j,none⟩=false:=by simp [World.frozen?,hg]
 refine ⟨W.setCell ⟨g,j,none⟩ v,?_,?_,?_⟩
 ·rw [run_store P W _ v _ h1,hc,hf];rfl
 ·simp [World.setCell,Array.getElem?_modify,hg]
 ·refine ⟨rfl,rfl,rfl,by simp [World.setCell],fun k hk=>?_⟩
  have:g≠k:=by omega
  simp [World.setCell,Array.getElem?_modify,this]
set_option maxHeartbeats 3200000 in
set_option maxRecDepth 100000 in
theorem fits_any (l:List Fld) (m:Mt) (w:World) (v:Value) (hv:FldsAt w v l) (hl:l.length≤1000000000000) (hfit:FldsFit l) (hf:MtFit m) :
  Calls Tryz.prog 91 #[v,.agg #[.string m.nm,.int .i64 m.op,.string m.val]] w fun e w'=>e=.returned (.bool (fitM l m))∧Below w.heap.size w w':=by
 have kn:=fun W=>not_fn 108 W;have kp:=fun W=>not_fn 110 W;have kf:=fun W=>mfine_any m W hf;have kv:=fun W (hW:Below w.heap.size w W)=>value_any l m.nm W v (hv.later hW) hl;have hvs:=valueF_size hfit m.nm;have HM:Hid (fitM l m=(fineM m&&opM m (valueF l m.nm))):=Lib.hid rfl;have HO:Hid (∀ u,opM m u=if m.op=0 then u.toList==m.val.toList else if m.op=1 then !(u.toList==m.val.toList) else if m.op=2 then fitB m.val u else !(fitB m.val u)):=Lib.hid (fun _=>rfl);have HT:Hid (fineM m=true→0≤m.op∧m.op≤3):=Lib.hid (fun h=>⟨(fineM_true h).2.1,(fineM_true h).2.2.1⟩);obtain ⟨fa,fc,rfl,_,_⟩:=RdAt.shape hv;generalize l.length=fn at *;generalize valueF l m.nm=u at *;generalize fitM l m=R at *;generalize fineM m=N at *;have HOU:=Lib.hid (HO.out u);clear HO;generalize opM m u=OU at *;obtain ⟨nm,op,val⟩:=m;dsimp only at *;have HN:=Lib.hid kn;have HP:=Lib.hid kp;have HFI:=Lib.hid kf;have HV:=Lib.hid kv;clear hv hfit hf kn kp kf kv;have kn:=HN.out (w.alloc (.cells #[.string nm,.int .i64 op,.string val] 92))
 go_enter Tryz.func91,Tryz.ntmps91
 go_wp2_with fail
 refine kn.mono ?_;rintro e w1 ⟨rfl,hw1⟩;clear kn;obtain rfl:=hw1.symm;clear hw1;have kp:=HP.out ((w.alloc (.cells #[.string nm,.int .i64 op,.string val] 92)).alloc (.cells #[.func (.func 108) #[] #[]] 118));go_wp2_with fail
 refine kp.mono ?_;rintro e w2 ⟨rfl,hw2⟩;clear kp;have FB:FitBox w nm op val w2:=by rw [hw2];exact FitBox.mk3 w nm op val _ _
 clear hw2;have HFB:=Lib.hid FB;clear FB;rw [World.size_alloc];have hx:=heap_alloc_new w2 (.cells #[.nilFunc,.nilFunc,.nilFunc,.nilFunc] 154);have hba:=aBq w2 (.cells #[.nilFunc,.nilFunc,.nilFunc,.nilFunc] 154);obtain ⟨s1,hs1,hx1,hb1⟩:=store_row_step (P:=Tryz.prog) (j:=0) (v:=.func (.func 108) #[] #[]) hx (by simp) rfl;obtain ⟨s2,hs2,hx2,hb2⟩:=store_row_step (P:=Tryz.prog) (j:=1) (v:=.func (.func 125) #[] #[.pointer (some ⟨w.heap.size+1,0,none⟩)]) hx1 (by simp) rfl;obtain ⟨s3,hs3,hx3,hb3⟩:=store_row_step (P:=Tryz.prog) (j:=2) (v:=.func (.func 110) #[] #[]) hx2 (by simp) rfl;obtain ⟨s4,hs4,hx4,hb4⟩:=store_row_step (P:=Tryz.prog) (j:=3) (v:=.func (.func 125) #[] #[.pointer (some ⟨w.heap.size+1+1,0,none⟩)]) hx3 (by simp) rfl;have FB:=HFB.out.later ((((hba.trans hb1).trans hb2).trans hb3).trans hb4);have hz4:w2.heap.size < s4.heap.size:=(Array.getElem?_eq_some_iff.1 hx4).1;have D0:s4.cell? ⟨w2.heap.size,0,none⟩=some (.func (.func 108) #[] #[]):=by rw [cell_of_row _ _ _ _ _ _ hx4];rfl
 have D1:s4.cell? ⟨w2.heap.size,1,none⟩=some (.func (.func 125) #[] #[.pointer (some ⟨w.heap.size+1,0,none⟩)]):=by rw [cell_of_row _ _ _ _ _ _ hx4];rfl
 have D2:s4.cell? ⟨w2.heap.size,2,none⟩=some (.func (.func 110) #[] #[]):=by rw [cell_of_row _ _ _ _ _ _ hx4];rfl
 have D3:s4.cell? ⟨w2.heap.size,3,none⟩=some (.func (.func 125) #[] #[.pointer (some ⟨w.heap.size+1+1,0,none⟩)]):=by rw [cell_of_row _ _ _ _ _ _ hx4];rfl
 clear hx hx1 hx2 hx3 hx4 hba hb1 hb2 hb3 hb4 HFB;go_upto_region 2 with fail;obtain ⟨fb,fz,a0,a1,a2,f1,f2⟩:=FB;have y0:w.heap.size < s4.heap.size:=by omega
 have y1:w.heap.size+1 < s4.heap.size:=by omega
 have y2:w.heap.size+1+1 < s4.heap.size:=by omega
 have F1:=Lib.hid f1;have F2:=Lib.hid f2;have FBB:=Lib.hid fb;clear f1 f2 fb fz hs1 hs2 hs3 hs4
 cases N with
 | false =>
  refine wp_region_held_drew (S:=(fun W'=>W'.cell? ⟨w.heap.size,0,none⟩=some (.string nm)∧W'.cell? ⟨w.heap.size,1,none⟩=some (.int .i64 op)∧W'.cell? ⟨w.heap.size,2,none⟩=some (.string val))) (by kernel_rfl) ⟨a0,a1,a2⟩ (fun hHeld=>?_);refine hT (i:=0) (v:=?_) rfl rfl hHeld ?_ ?_;rotate_left
  ·rintro wh ⟨z0,z1,z2⟩
   go_simp
   (try with_reducible rfl)
  simp only [Act.put,aS1,aS2,aS3];refine held_call (i:=1) rfl (by kernel_rfl) (by rfl) (fun K hK=>?_)
  (go_simp;go_at_call 82;refine (HFI.out _).mono ?_;rintro e w5 ⟨rfl,hb5⟩;have hB5:Below s4.heap.size s4 w5:=((Below.refl _ _).drew).trans hb5)
  refine hK.out _ _ ⟨kCq a0 hB5 y0,kCq a1 hB5 y0,kCq a2 hB5 y0⟩ (fun hHeld=>?_);clear hK K
  (try simp only [Act.put,aS1,aS2,aS3])
  refine hT (i:=2) (v:=?_) rfl rfl hHeld ?_ ?_;rotate_left
  ·rintro wh ⟨z0,z1,z2⟩
   go_simp
   (try with_reducible rfl)
  simp only [Act.put,aS1,aS2,aS3];refine plIn [3,4,5,6,7,8,9,10,11,12,13] ?_
  iterate 11
   refine hK rfl rfl hHeld ?_;simp only [Act.put,aS1,aS2,aS3]
  refine plOut ?_;refine plIn [14,15] ?_
  iterate 2
   refine hP (v:=?_) rfl rfl hHeld ?_ ?_;rotate_left
   ·rintro wh ⟨z0,z1,z2⟩
    go_simp
    (try with_reducible rfl)
   simp only [Act.put,aS1,aS2,aS3]
  refine plOut ?_;refine wpAnyH_done (by kernel_rfl) ?_ _;have HB:=Lib.hid (FBB.out.trans (hB5.mono FBB.out.size));go_wp2;go_ret;exact ⟨by rw [HM.out];rfl,HB.out⟩
 | true =>
  have ht:=HT.out rfl
  rcases (show op=0∨op=1∨op=2∨op=3 by omega) with rfl | rfl | rfl | rfl
  ·clear ht
   rw [if_pos rfl] at HOU;refine wp_region_held_drew (S:=(fun W'=>W'.cell? ⟨w.heap.size,0,none⟩=some (.string nm)∧W'.cell? ⟨w.heap.size,1,none⟩=some (.int .i64 0)∧W'.cell? ⟨w.heap.size,2,none⟩=some (.string val)∧W'.cell? ⟨w2.heap.size,0,none⟩=some (.func (.func 108) #[] #[]))) (by kernel_rfl) ⟨a0,a1,a2,D0⟩ (fun hHeld=>?_);refine hT (i:=0) (v:=?_) rfl rfl hHeld ?_ ?_;rotate_left
   ·rintro wh ⟨z0,z1,z2,z3⟩
    go_simp
    (try with_reducible rfl)
   simp only [Act.put,aS1,aS2,aS3];refine held_call (i:=1) rfl (by kernel_rfl) (by rfl) (fun K hK=>?_)
   (go_simp;go_at_call 82;refine (HFI.out _).mono ?_;rintro e w5 ⟨rfl,hb5⟩;have hB5:Below s4.heap.size s4 w5:=((Below.refl _ _).drew).trans hb5)
   refine hK.out _ _ ⟨kCq a0 hB5 y0,kCq a1 hB5 y0,kCq a2 hB5 y0,kCq D0 hB5 hz4⟩ (fun hHeld=>?_);clear hK K
   (try simp only [Act.put,aS1,aS2,aS3])
   refine plIn [2,3,4,5,6,7,8,9,10,11] ?_
   iterate 10
    refine hP (v:=?_) rfl rfl hHeld ?_ ?_;rotate_left
    ·rintro wh ⟨z0,z1,z2,z3⟩
     go_simp
     (try with_reducible rfl)
    simp only [Act.put,aS1,aS2,aS3]
   refine plOut ?_;refine held_call (i:=12) rfl (by kernel_rfl) (by rfl) (fun K hK=>?_)
   (go_simp;go_at_call 95;refine (HV.out _ (FBB.out.trans (hB5.mono FBB.out.size))).mono ?_;rintro e w6 ⟨rfl,hb6⟩;have hB6:Below s4.heap.size s4 w6:=hB5.trans (hb6.mono hB5.size))
   refine hK.out _ _ ⟨kCq a0 hB6 y0,kCq a1 hB6 y0,kCq a2 hB6 y0,kCq D0 hB6 hz4⟩ (fun hHeld=>?_);clear hK K
   (try simp only [Act.put,aS1,aS2,aS3])
   refine held_call (i:=13) rfl (by kernel_rfl) (by rfl) (fun K hK=>?_)
   (go_simp;go_at_call 108;refine (is_any _ _ _).mono ?_;rintro e w7 ⟨rfl,hb7⟩;have hB7:Below s4.heap.size s4 w7:=hB6.trans (hb7.mono hB6.size))
   refine hK.out _ _ ⟨kCq a0 hB7 y0,kCq a1 hB7 y0,kCq a2 hB7 y0,kCq D0 hB7 hz4⟩ (fun hHeld=>?_);clear hK K
   (try simp only [Act.put,aS1,aS2,aS3])
   refine plIn [14,15] ?_
   iterate 2
    refine hP (v:=?_) rfl rfl hHeld ?_ ?_;rotate_left
    ·rintro wh ⟨z0,z1,z2,z3⟩
     go_simp
     (try with_reducible rfl)
    simp only [Act.put,aS1,aS2,aS3]
   refine plOut ?_;refine wpAnyH_done (by kernel_rfl) ?_ _;have HB:=Lib.hid (FBB.out.trans (hB7.mono FBB.out.size));go_wp2;go_ret;exact ⟨by rw [HM.out,HOU.out];rfl,HB.out⟩
  ·clear ht
   rw [if_neg (by decide),if_pos rfl] at HOU;refine wp_region_held_drew (S:=(fun W'=>W'.cell? ⟨w.heap.size,0,none⟩=some (.string nm)∧W'.cell? ⟨w.heap.size,1,none⟩=some (.int .i64 1)∧W'.cell? ⟨w.heap.size,2,none⟩=some (.string val)∧W'.cell? ⟨w2.heap.size,1,none⟩=some (.func (.func 125) #[] #[.pointer (some ⟨w.heap.size+1,0,none⟩)]))) (by kernel_rfl) ⟨a0,a1,a2,D1⟩ (fun hHeld=>?_);refine hT (i:=0) (v:=?_) rfl rfl hHeld ?_ ?_;rotate_left
   ·rintro wh ⟨z0,z1,z2,z3⟩
    go_simp
    (try with_reducible rfl)
   simp only [Act.put,aS1,aS2,aS3];refine held_call (i:=1) rfl (by kernel_rfl) (by rfl) (fun K hK=>?_)
   (go_simp;go_at_call 82;refine (HFI.out _).mono ?_;rintro e w5 ⟨rfl,hb5⟩;have hB5:Below s4.heap.size s4 w5:=((Below.refl _ _).drew).trans hb5)
   refine hK.out _ _ ⟨kCq a0 hB5 y0,kCq a1 hB5 y0,kCq a2 hB5 y0,kCq D1 hB5 hz4⟩ (fun hHeld=>?_);clear hK K
   (try simp only [Act.put,aS1,aS2,aS3])
   refine plIn [2,3,4,5,6,7,8,9,10,11] ?_
   iterate 10
    refine hP (v:=?_) rfl rfl hHeld ?_ ?_;rotate_left
    ·rintro wh ⟨z0,z1,z2,z3⟩
     go_simp
     (try with_reducible rfl)
    simp only [Act.put,aS1,aS2,aS3]
   refine plOut ?_;refine held_call (i:=12) rfl (by kernel_rfl) (by rfl) (fun K hK=>?_)
   (go_simp;go_at_call 95;refine (HV.out _ (FBB.out.trans (hB5.mono FBB.out.size))).mono ?_;rintro e w6 ⟨rfl,hb6⟩;have hB6:Below s4.heap.size s4 w6:=hB5.trans (hb6.mono hB5.size))
   refine hK.out _ _ ⟨kCq a0 hB6 y0,kCq a1 hB6 y0,kCq a2 hB6 y0,kCq D1 hB6 hz4⟩ (fun hHeld=>?_);clear hK K
   (try simp only [Act.put,aS1,aS2,aS3])
   refine held_call (i:=13) rfl (by kernel_rfl) (by rfl) (fun K hK=>?_)
   (go_simp;go_at_call 125;refine (not_is _ _ _ _ (kCq F1.out hB6 y1)).mono ?_;rintro e w7 ⟨rfl,hb7⟩;have hB7:Below s4.heap.size s4 w7:=hB6.trans (hb7.mono hB6.size))
   refine hK.out _ _ ⟨kCq a0 hB7 y0,kCq a1 hB7 y0,kCq a2 hB7 y0,kCq D1 hB7 hz4⟩ (fun hHeld=>?_);clear hK K
   (try simp only [Act.put,aS1,aS2,aS3])
   refine plIn [14,15] ?_
   iterate 2
    refine hP (v:=?_) rfl rfl hHeld ?_ ?_;rotate_left
    ·rintro wh ⟨z0,z1,z2,z3⟩
     go_simp
     (try with_reducible rfl)
    simp only [Act.put,aS1,aS2,aS3]
   refine plOut ?_;refine wpAnyH_done (by kernel_rfl) ?_ _;have HB:=Lib.hid (FBB.out.trans (hB7.mono FBB.out.size));go_wp2;go_ret;exact ⟨by rw [HM.out,HOU.out];rfl,HB.out⟩
  ·clear ht
   rw [if_neg (by decide),if_neg (by decide),if_pos rfl] at HOU;refine wp_region_held_drew (S:=(fun W'=>W'.cell? ⟨w.heap.size,0,none⟩=some (.string nm)∧W'.cell? ⟨w.heap.size,1,none⟩=some (.int .i64 2)∧W'.cell? ⟨w.heap.size,2,none⟩=some (.string val)∧W'.cell? ⟨w2.heap.size,2,none⟩=some (.func (.func 110) #[] #[]))) (by kernel_rfl) ⟨a0,a1,a2,D2⟩ (fun hHeld=>?_);refine hT (i:=0) (v:=?_) rfl rfl hHeld ?_ ?_;rotate_left
   ·rintro wh ⟨z0,z1,z2,z3⟩
    go_simp
    (try with_reducible rfl)
   simp only [Act.put,aS1,aS2,aS3];refine held_call (i:=1) rfl (by kernel_rfl) (by rfl) (fun K hK=>?_)
   (go_simp;go_at_call 82;refine (HFI.out _).mono ?_;rintro e w5 ⟨rfl,hb5⟩;have hB5:Below s4.heap.size s4 w5:=((Below.refl _ _).drew).trans hb5)
   refine hK.out _ _ ⟨kCq a0 hB5 y0,kCq a1 hB5 y0,kCq a2 hB5 y0,kCq D2 hB5 hz4⟩ (fun hHeld=>?_);clear hK K
   (try simp only [Act.put,aS1,aS2,aS3])
   refine plIn [2,3,4,5,6,7,8,9,10,11] ?_
   iterate 10
    refine hP (v:=?_) rfl rfl hHeld ?_ ?_;rotate_left
    ·rintro wh ⟨z0,z1,z2,z3⟩
     go_simp
     (try with_reducible rfl)
    simp only [Act.put,aS1,aS2,aS3]
   refine plOut ?_;refine held_call (i:=12) rfl (by kernel_rfl) (by rfl) (fun K hK=>?_)
   (go_simp;go_at_call 95;refine (HV.out _ (FBB.out.trans (hB5.mono FBB.out.size))).mono ?_;rintro e w6 ⟨rfl,hb6⟩;have hB6:Below s4.heap.size s4 w6:=hB5.trans (hb6.mono hB5.size))
   refine hK.out _ _ ⟨kCq a0 hB6 y0,kCq a1 hB6 y0,kCq a2 hB6 y0,kCq D2 hB6 hz4⟩ (fun hHeld=>?_);clear hK K
   (try simp only [Act.put,aS1,aS2,aS3])
   refine held_call (i:=13) rfl (by kernel_rfl) (by rfl) (fun K hK=>?_)
   (go_simp;go_at_call 110;refine (fits_b _ _ _ hvs).mono ?_;rintro e w7 ⟨rfl,hb7⟩;have hB7:Below s4.heap.size s4 w7:=hB6.trans (hb7.mono hB6.size))
   refine hK.out _ _ ⟨kCq a0 hB7 y0,kCq a1 hB7 y0,kCq a2 hB7 y0,kCq D2 hB7 hz4⟩ (fun hHeld=>?_);clear hK K
   (try simp only [Act.put,aS1,aS2,aS3])
   refine plIn [14,15] ?_
   iterate 2
    refine hP (v:=?_) rfl rfl hHeld ?_ ?_;rotate_left
    ·rintro wh ⟨z0,z1,z2,z3⟩
     go_simp
     (try with_reducible rfl)
    simp only [Act.put,aS1,aS2,aS3]
   refine plOut ?_;refine wpAnyH_done (by kernel_rfl) ?_ _;have HB:=Lib.hid (FBB.out.trans (hB7.mono FBB.out.size));go_wp2;go_ret;exact ⟨by rw [HM.out,HOU.out];rfl,HB.out⟩
  ·clear ht
   rw [if_neg (by decide),if_neg (by decide),if_neg (by decide)] at HOU;refine wp_region_held_drew (S:=(fun W'=>W'.cell? ⟨w.heap.size,0,none⟩=some (.string nm)∧W'.cell? ⟨w.heap.size,1,none⟩=some (.int .i64 3)∧W'.cell? ⟨w.heap.size,2,none⟩=some (.string val)∧W'.cell? ⟨w2.heap.size,3,none⟩=some (.func (.func 125) #[] #[.pointer (some ⟨w.heap.size+1+1,0,none⟩)]))) (by kernel_rfl) ⟨a0,a1,a2,D3⟩ (fun hHeld=>?_);refine hT (i:=0) (v:=?_) rfl rfl hHeld ?_ ?_;rotate_left
   ·rintro wh ⟨z0,z1,z2,z3⟩
    go_simp
    (try with_reducible rfl)
   simp only [Act.put,aS1,aS2,aS3];refine held_call (i:=1) rfl (by kernel_rfl) (by rfl) (fun K hK=>?_)
   (go_simp;go_at_call 82;refine (HFI.out _).mono ?_;rintro e w5 ⟨rfl,hb5⟩;have hB5:Below s4.heap.size s4 w5:=((Below.refl _ _).drew).trans hb5)
   refine hK.out _ _ ⟨kCq a0 hB5 y0,kCq a1 hB5 y0,kCq a2 hB5 y0,kCq D3 hB5 hz4⟩ (fun hHeld=>?_);clear hK K
   (try simp only [Act.put,aS1,aS2,aS3])
   refine plIn [2,3,4,5,6,7,8,9,10,11] ?_
   iterate 10
    refine hP (v:=?_) rfl rfl hHeld ?_ ?_;rotate_left
    ·rintro wh ⟨z0,z1,z2,z3⟩
     go_simp
     (try with_reducible rfl)
    simp only [Act.put,aS1,aS2,aS3]
   refine plOut ?_;refine held_call (i:=12) rfl (by kernel_rfl) (by rfl) (fun K hK=>?_)
   (go_simp;go_at_call 95;refine (HV.out _ (FBB.out.trans (hB5.mono FBB.out.size))).mono ?_;rintro e w6 ⟨rfl,hb6⟩;have hB6:Below s4.heap.size s4 w6:=hB5.trans (hb6.mono hB5.size))
   refine hK.out _ _ ⟨kCq a0 hB6 y0,kCq a1 hB6 y0,kCq a2 hB6 y0,kCq D3 hB6 hz4⟩ (fun hHeld=>?_);clear hK K
   (try simp only [Act.put,aS1,aS2,aS3])
   refine held_call (i:=13) rfl (by kernel_rfl) (by rfl) (fun K hK=>?_)
   (go_simp;go_at_call 125;refine (not_fits _ _ _ _ hvs (kCq F2.out hB6 y2)).mono ?_;rintro e w7 ⟨rfl,hb7⟩;have hB7:Below s4.heap.size s4 w7:=hB6.trans (hb7.mono hB6.size))
   refine hK.out _ _ ⟨kCq a0 hB7 y0,kCq a1 hB7 y0,kCq a2 hB7 y0,kCq D3 hB7 hz4⟩ (fun hHeld=>?_);clear hK K
   (try simp only [Act.put,aS1,aS2,aS3])
   refine plIn [14,15] ?_
   iterate 2
    refine hP (v:=?_) rfl rfl hHeld ?_ ?_;rotate_left
    ·rintro wh ⟨z0,z1,z2,z3⟩
     go_simp
     (try with_reducible rfl)
    simp only [Act.put,aS1,aS2,aS3]
   refine plOut ?_;refine wpAnyH_done (by kernel_rfl) ?_ _;have HB:=Lib.hid (FBB.out.trans (hB7.mono FBB.out.size));go_wp2;go_ret;exact ⟨by rw [HM.out,HOU.out];rfl,HB.out⟩
noncomputable def allM (l:List Fld) (ms:List Mt):Bool:=ms.all fun m=>fitM l m
theorem allM_any (l:List Fld) (ms:List Mt):(!(ms.any fun m=>!(fitM l m)))=allM l ms:=by
 unfold allM
 induction ms with
 | nil=>rfl
 | cons m ms ih=>rw [List.any_cons,List.all_cons,← ih];cases fitM l m <;> simp
set_option maxHeartbeats 1600000 in
theorem allclos (l:List Fld) (m:Mt) (b:Nat) (v:Value) (w:World) (hv:FldsAt w v l) (hl:l.length≤1000000000000) (hfit:FldsFit l) (hf:MtFit m) (hc:w.cell? ⟨b,0,none⟩=some v) (hlt:b < w.heap.size) :
  Calls Tryz.prog 90 #[.agg #[.string m.nm,.int .i64 m.op,.string m.val],.pointer (some ⟨b,0,none⟩)] w fun e w'=>e=.returned (.bool (!(fitM l m)))∧Below w.heap.size w w':=by
 have hb:=aBq w (.cells #[.string m.nm,.int .i64 m.op,.string m.val] 92);have hz:=World.size_alloc w (.cells #[.string m.nm,.int .i64 m.op,.string m.val] 92);have k:=fits_any l m _ v (hv.later hb) hl hfit hf;have h1:=kCq hc hb hlt;have HB:=Lib.hid hb;obtain ⟨fa,fc,rfl,_,_⟩:=RdAt.shape hv;generalize fitM l m=R at *;obtain ⟨nm,op,val⟩:=m;dsimp only at *;clear hv hfit hf hc hb hz
 go_enter Tryz.func90,Tryz.ntmps90
 go_wp2_with fail
 refine k.mono ?_;rintro e w1 ⟨rfl,hb1⟩;clear k;go_wp2;go_ret;exact ⟨rfl,HB.out.trans (hb1.mono HB.out.size)⟩
set_option maxHeartbeats 1600000 in
theorem all_any (l:List Fld) (ms:List Mt) (v mv:Value) (w:World) (hv:FldsAt w v l) (hl:l.length≤1000000000000) (hfit:FldsFit l) (hm:MtsAt w mv ms) (hml:ms.length≤1000000000000) (hmf:MtsFit ms) :
  Calls Tryz.prog 62 #[v,mv] w fun e w'=>e=.returned (.bool (allM l ms))∧Below w.heap.size w w':=by
 obtain ⟨fa,fc,rfl,_,_⟩:=RdAt.shape hv;obtain ⟨ma,mc,rfl,_,_⟩:=RdAt.shape hm;have hb:=aBq w (.cells #[.slice fa l.length fc] 52);have hlt:w.heap.size < (w.alloc (.cells #[.slice fa l.length fc] 52)).heap.size:=by rw [World.size_alloc];omega
 have hc:(w.alloc (.cells #[.slice fa l.length fc] 52)).cell? ⟨w.heap.size,0,none⟩=some (.slice fa l.length fc):=by rw [cell_of_row _ _ _ _ _ _ (heap_alloc_new w _)];rfl
 have k:=hasm_gen ms hmf (fun m=>!(fitM l m)) 90 #[.pointer (some ⟨w.heap.size,0,none⟩)] (enters_of Tryz.func90 (by kernel_rfl) rfl) _ _ (hm.later hb) hml
  (fun W m hmfit hW=>allclos l m w.heap.size _ W ((hv.later hb).later hW) hl hfit hmfit (kCq hc hW hlt) (Nat.lt_of_lt_of_le hlt hW.size))
 have HA:=Lib.hid (allM_any l ms);have HB:=Lib.hid hb;generalize (ms.any fun m=>!(fitM l m))=R at *;generalize l.length=ln at *;generalize ms.length=mn at *;clear hv hm hfit hmf hb hlt hc
 go_enter Tryz.func62,Tryz.ntmps62
 go_wp2_with fail
 refine k.mono ?_;rintro e w1 ⟨rfl,hb1⟩;clear k;go_wp2;go_ret;exact ⟨by rw [← HA.out];rfl,HB.out.trans (hb1.mono HB.out.size)⟩
def sameV (la lb:List Fld) (n:ByteArray):Bool:=(valueF la n).toList==(valueF lb n).toList
def alikeM (ns:List ByteArray) (la lb:List Fld):Bool:=ns.all (sameV la lb)
theorem alike_any' (ns:List ByteArray) (la lb:List Fld):(!(ns.any fun n=>!sameV la lb n))=alikeM ns la lb:=by
 unfold alikeM
 induction ns with
 | nil=>rfl
 | cons m ms ih=>rw [List.any_cons,List.all_cons,← ih];cases sameV la lb m <;> simp
set_option maxHeartbeats 1600000 in
theorem alikeclos (la lb:List Fld) (n:ByteArray) (b:Nat) (va vb:Value) (w:World) (ha:FldsAt w va la) (hb:FldsAt w vb lb) (hla:la.length≤1000000000000) (hlb:lb.length≤1000000000000)
  (h0:w.cell? ⟨b,0,none⟩=some va) (h1:w.cell? ⟨b+1,0,none⟩=some vb) (hlt:b+1 < w.heap.size) :
  Calls Tryz.prog 94 #[.string n,.pointer (some ⟨b,0,none⟩),.pointer (some ⟨b+1,0,none⟩)] w fun e w'=>e=.returned (.bool (!sameV la lb n))∧Below w.heap.size w w':=by
 have KA:=Lib.hid (fun W (h:Below w.heap.size w W)=>value_any la n W va (ha.later h) hla);have KB:=Lib.hid (fun W (h:Below w.heap.size w W)=>value_any lb n W vb (hb.later h) hlb);obtain ⟨aa,ac,rfl,_,_⟩:=RdAt.shape ha;obtain ⟨ba,bc,rfl,_,_⟩:=RdAt.shape hb;have HS:Hid (sameV la lb n=((valueF la n).toList==(valueF lb n).toList)):=Lib.hid rfl;generalize sameV la lb n=R at *;generalize valueF la n=X at *;generalize valueF lb n=Y at *;have hlt0:b < w.heap.size:=by omega
 clear ha hb hla hlb
 go_enter Tryz.func94,Tryz.ntmps94
 go_upto_region 1 with fail;refine wp_region_held_drew (S:=(fun W=>W.cell? ⟨b,0,none⟩=some (.slice aa la.length ac)∧W.cell? ⟨b+1,0,none⟩=some (.slice ba lb.length bc))) (by kernel_rfl) ⟨h0,h1⟩ (fun hHeld=>?_);have hd:Below w.heap.size w w.drew:=(Below.refl _ _).drew;refine plIn [0,1,3,4] ?_
 iterate 4
  refine hP (v:=?_) rfl rfl hHeld ?_ ?_;rotate_left
  ·rintro wh ⟨z0,z1⟩
   go_simp
   (try with_reducible rfl)
  simp only [Act.put,aS1,aS2,aS3]
 refine plOut ?_;refine held_call (i:=2) rfl (by kernel_rfl) (by rfl) (fun K hK=>?_)
 (go_simp;go_at_call 95;refine (KA.out _ hd).mono ?_;rintro e w1 ⟨rfl,hb1⟩;have hB1:=hd.trans (hb1.mono hd.size))
 refine hK.out _ _ ⟨kCq h0 hB1 hlt0,kCq h1 hB1 hlt⟩ (fun hHeld=>?_);clear hK K
 (try simp only [Act.put,aS1,aS2,aS3])
 refine held_call (i:=5) rfl (by kernel_rfl) (by rfl) (fun K hK=>?_)
 (go_simp;go_at_call 95;refine (KB.out _ hB1).mono ?_;rintro e w2 ⟨rfl,hb2⟩;have hB2:=hB1.trans (hb2.mono hB1.size))
 refine hK.out _ _ ⟨kCq h0 hB2 hlt0,kCq h1 hB2 hlt⟩ (fun hHeld=>?_);clear hK K
 (try simp only [Act.put,aS1,aS2,aS3])
 refine plIn [6,7] ?_
 iterate 2
  refine hP (v:=?_) rfl rfl hHeld ?_ ?_;rotate_left
  ·rintro wh ⟨z0,z1⟩
   go_simp
   (try with_reducible rfl)
  simp only [Act.put,aS1,aS2,aS3]
 refine plOut ?_;refine wpAnyH_done (by kernel_rfl) ?_ _;go_wp2;go_ret;exact ⟨by rw [HS.out];rfl,hB2⟩
set_option maxHeartbeats 1600000 in
theorem alike_any (ns:List ByteArray) (la lb:List Fld) (nv va vb:Value) (w:World) (hn:StrsG w nv ns) (ha:FldsAt w va la) (hb:FldsAt w vb lb) (hnl:ns.length≤1000000000000) (hla:la.length≤1000000000000) (hlb:lb.length≤1000000000000) :
  Calls Tryz.prog 64 #[nv,va,vb] w fun e w'=>e=.returned (.bool (alikeM ns la lb))∧Below w.heap.size w w':=by
 obtain ⟨na,nc,rfl,_,_⟩:=RdAt.shape hn;obtain ⟨aa,ac,rfl,_,_⟩:=RdAt.shape ha;obtain ⟨ba,bc,rfl,_,_⟩:=RdAt.shape hb;obtain ⟨W1,hW1⟩:∃ z,w.alloc (.cells #[.slice aa la.length ac] 52)=z:=⟨_,rfl⟩;have hb1:Below w.heap.size w W1:=by rw [← hW1];exact aBq _ _
 have hs1:W1.heap.size=w.heap.size+1:=by rw [← hW1,World.size_alloc]
 have hc1:W1.cell? ⟨w.heap.size,0,none⟩=some (.slice aa la.length ac):=by rw [← hW1,cell_of_row _ _ _ _ _ _ (heap_alloc_new w _)];rfl
 obtain ⟨W2,hW2⟩:∃ z,W1.alloc (.cells #[.slice ba lb.length bc] 52)=z:=⟨_,rfl⟩;have hb2:Below W1.heap.size W1 W2:=by rw [← hW2];exact aBq _ _
 have hs2:W2.heap.size=w.heap.size+1+1:=by rw [← hW2,World.size_alloc,hs1]
 have hc2:W2.cell? ⟨w.heap.size+1,0,none⟩=some (.slice ba lb.length bc):=by rw [← hs1,← hW2,cell_of_row _ _ _ _ _ _ (heap_alloc_new W1 _)];rfl
 have hc0:=kCq hc1 hb2 (by show w.heap.size < W1.heap.size;omega);have hB:=hb1.trans (hb2.mono hb1.size)
 have k:=hasS_gen ns (fun n=>!sameV la lb n) 94 #[.pointer (some ⟨w.heap.size,0,none⟩),.pointer (some ⟨w.heap.size+1,0,none⟩)] (enters_of Tryz.func94 (by kernel_rfl) rfl) _ W2 (RdAt.later hn hB) hnl
  (fun W n hmem hW=>alikeclos la lb n w.heap.size _ _ W ((ha.later hB).later hW) ((hb.later hB).later hW) hla hlb (kCq hc0 hW (by show w.heap.size < W2.heap.size;omega)) (kCq hc2 hW (by show w.heap.size+1 < W2.heap.size;omega)) (by have:=hW.size;omega))
 have HA:=Lib.hid (alike_any' ns la lb);have HB:=Lib.hid hB;generalize (ns.any fun n=>!sameV la lb n)=R at *;generalize la.length=ln at *;generalize lb.length=lm at *;generalize ns.length=mn at *;subst hW2;subst hW1;clear hn ha hb hb1 hb2 hs2 hc1 hc2 hc0 hB
 go_enter Tryz.func64,Tryz.ntmps64
 rw [World.size_alloc] at *;go_wp2_with fail
 refine k.mono ?_;rintro e w1 ⟨rfl,hb1⟩;clear k;go_wp2;go_ret;exact ⟨by rw [← HA.out];rfl,HB.out.trans (hb1.mono (by have:=HB.out.size;rw [World.size_alloc] at this;exact this))⟩
end Go.Proofs.YtipnhpfpppblhaaGreat
namespace Go
variable {P:Program}
theorem rowsIn_of_wide {n:Nat} {row:String} {args:Array Value} {w:World} {R:Value→World→Prop} (h:Rows P row args w R):RowsIn Fence.wide n P row args w R :=
 fun c cs _=>let ⟨v,w',r,s⟩:=h c cs;⟨v,w',r,stepsIn_wide.2 s⟩
theorem oper_inRound {l n:Nat} {o:Oper} {a:Act} {w:World} {K:Act→World→Prop} {Q:Exit→Act→World→Prop} (hd:∀ c,o.op≠.defer c) (h:Oper.wp P o a w K Q) :
  Oper.wpIn (Fence.wide.inRound l) n P o a w K Q:=by
 refine ⟨fun _ _=>trivial,?_⟩;rw [Fence.inRound_round,Oper.semAt_eq (some l) _ _ hd];unfold Oper.wp at h;generalize (execOp a.eval o).run P w=r at *
 cases r with
 | ok x w' =>
  cases x with
  | value v=>exact h
  | skip=>exact h
  | defer d=>exact h
  | enter f args=>exact ⟨fun e=>(by cases e),callsIn_wide.2 h⟩
  | row row args=>exact ⟨fun e=>(by cases e),rowsIn_of_wide h⟩
  | _=>exact h.elim
 | halt x w'=>cases x <;> exact h
theorem ops_inRound {l n:Nat} {ops:Array Oper} {Q:Exit→Act→World→Prop} (hd:∀ (i:Nat) (o:Oper),ops[i]?=some o→∀ c,o.op≠.defer c) (hQ:¬ LetsOut Q) :
  ∀ (rs:List Nat) (a:Act) (w:World),wpOps P ops Q rs a w→wpOpsIn (Fence.wide.inRound l) n P ops Q rs a w:=by
 intro rs
 induction rs with
 | nil=>intro a w h;exact h
 | cons i rs ih =>
  intro a w h;unfold wpOps at h;unfold wpOpsIn
  cases ho:ops[i]? with
  | none=>rw [ho] at h;exact ih _ _ h
  | some o =>
   rw [ho] at h;dsimp only at h ⊢
   by_cases hw:Region.wanted o (yielded ops a.tmps)=true
   ·rw [if_pos hw] at h ⊢
    exact Oper.wpIn_mono (fun a w h=>ih a w h) (oper_inRound (hd i o ho) (h.resolve_right fun e=>hQ e.2))
   ·rw [if_neg hw] at h ⊢
    exact ⟨fun _ _=>trivial,ih _ _ h⟩
def noDefer (ops:Array Oper):Bool:=ops.toList.all fun o=>match o.op with
 | .defer _=>false
 | _=>true
theorem noDefer_at {ops:Array Oper} (h:noDefer ops=true) (i:Nat) (o:Oper) (ho:ops[i]?=some o) (c:_):o.op≠.defer c:=by
 unfold noDefer at h;rw [List.all_eq_true] at h
 have hm:o∈ops.toList:=by
  rw [Array.mem_toList_iff];exact Array.mem_of_getElem? ho
 have:=h o hm
 intro e;rw [e] at this
 cases this
theorem region_inRound {l n id:Nat} {ops:Array Oper} {Q:Exit→Act→World→Prop} {a:Act} {w:World} {S:World→Prop} (hn:noDefer ops=true) (hQ:¬ LetsOut Q) (hm:P.follows .mixedOrders=true) (hS:S w.drew)
  (h:S w.drew→wpAnyH P .any ops Q S ops.size (Array.replicate ops.size false) a w.drew):(Code.region id ops true).wpIn (Fence.wide.inRound l) n P Q a w :=
 wpIn_region_draw fun t=>by
  refine ops_inRound (noDefer_at hn) hQ _ _ _ ?_;simp only [Region.schedule,hm,Bool.true_or,if_true];exact wpAny_sound ops.size t _ a _ (wpAny_of_held _ _ _ _ (h hS))
end Go
namespace Go.Proofs.YtipnhpfpppblhaaGreat
open Go.RowKit
def zAl:Al:=⟨⟨#[]⟩,[],0,0,0,0⟩
def cutAl (rs:List Nmd) (x:Al) (t:Int × Nat):Al:=if cutOk rs x.fl (x.lv,x.c) t then ⟨x.src,visL rs x.fl (x.lv,x.c) t,x.lv,x.c,x.fr,x.til⟩ else zAl
theorem cutAl_yes {rs:List Nmd} {x:Al} {t:Int × Nat} (h:cutOk rs x.fl (x.lv,x.c) t=true):cutAl rs x t=⟨x.src,visL rs x.fl (x.lv,x.c) t,x.lv,x.c,x.fr,x.til⟩:=if_pos h
theorem cut_l (s0 s1 s2 s4 s5:Option Addr × Nat × Nat) (rs:List Nmd) (rv:Value) (x:Al) (fv:Value) (t:Int × Nat) (m:Al) (ok:Bool) (w:World) (hv:NmdsAt w rv rs) (hl:rs.length≤maxLen) (hf:FldsAt w fv x.fl) (hfl:x.fl.length≤1000000000000)
  (hok:cutOk rs x.fl (x.lv,x.c) t=ok) (hm:cutAl rs x t=m) :
  Calls Tryz.prog 20 #[.agg #[SV s0,SV s1,SV s2,rv,SV s4,SV s5],AlV x fv,Lab t.1 t.2] w fun e w' =>
   ∃ pa pc,e=.returned (.tuple #[AlV m (.slice pa m.fl.length pc),.bool ok])∧FldsAt w' (.slice pa m.fl.length pc) m.fl∧(∀ q,(Value.slice pa m.fl.length pc).ownBlock=some q→w.heap.size≤q)∧Below w.heap.size w w':=by
 refine (cut_any s0 s1 s2 s4 s5 rs rv x.src x.fl fv x.lv x.c x.fr x.til t.1 t.2 w hv hl hf hfl).mono ?_;rintro e w' ⟨v',h1,h2,h3,rfl⟩;rw [show (t.1,t.2)=t from rfl] at h1 ⊢;rw [hok];unfold cutAl at hm;rw [hok] at hm;subst hm
 cases ok
 ·exact ⟨none,0,rfl,RdAt.nil w' 2,(fun q h=>by cases h),h3⟩
 ·obtain ⟨pa,pc,rfl,_,_⟩:=RdAt.shape h1
  exact ⟨pa,pc,rfl,h1,h2,h3⟩
theorem vis_le (rs:List Nmd) (fl:List Fld) (f s:Int × Nat):(visL rs fl f s).length≤fl.length:=List.length_filter_le _ _
structure ABx (g:Nat) (src:ByteArray) (L:List Fld) (a:Option Addr) (m:Nat) (lv:Int) (c:Nat) (fr til:Int) (W:World):Prop where
 x:C6 g (.string src) (.slice a L.length m) (.int .i64 lv) (.int .u32 c) (.int .i64 fr) (.int .i64 til) W
 lt:g < W.heap.size
 f:FldsAt W (.slice a L.length m) L
end Go.Proofs.YtipnhpfpppblhaaGreat
namespace Go.Proofs.YtipnhpfpppblhaaGreat.refName
open Go.RowKit
def clB (l:List UInt8):Bool:=!(l.head?.any fun c=>digN c.toNat)&&!(l.any fun c=>oddN c.toNat)
theorem nameL_clB (l:List UInt8):nameL l=(decide (1≤l.length)&&decide (l.length≤12)&&clB l):=by
 cases l with
 | nil=>rfl
 | cons c l=>simp [nameL,clB,Bool.and_assoc]
theorem clB_one (c:UInt8):clB [c]=(!digN c.toNat&&!oddN c.toNat):=by simp [clB]
theorem clB_snoc {l:List UInt8} (h:l≠[]) (c:UInt8):clB (l ++ [c])=(clB l&&!oddN c.toNat):=by
 obtain ⟨d,r,rfl⟩:=List.exists_cons_of_ne_nil h
 simp [clB,Bool.and_assoc]
theorem clB_bad {l:List UInt8} (k:Nat) (h:clB (l.take k)=false):clB l=false:=by
 cases l with
 | nil=>simpa using h
 | cons c l =>
  cases k with
  | zero=>cases h
  | succ k =>
   rw [List.take_succ_cons] at h;simp only [clB,List.head?_cons,Bool.and_eq_false_iff,Bool.not_eq_false'] at *
   rcases h with h | h
   ·exact .inl h
   ·right
    rw [List.any_eq_true] at *;obtain ⟨x,hx,hp⟩:=h;refine ⟨x,?_,hp⟩
    rcases List.mem_cons.1 hx with rfl | hx
    ·exact List.mem_cons_self ..
    ·exact List.mem_cons_of_mem _ (List.mem_of_mem_take hx)
set_option maxHeartbeats 1600000 in
theorem name_any (s:ByteArray) (w:World) (hs:s.size≤maxLen) :
  Calls Tryz.prog 40 #[.string s] w fun e w'=>e=.returned (.bool (nameL (B s)))∧w=w':=by
 unfold maxLen at hs;have HNL:Hid (nameL (B s)=(decide (1≤s.size)&&decide (s.size≤12)&&clB (B s))):=by show _=_;rw [nameL_clB,len_B]
 go_enter Tryz.func40,Tryz.ntmps40
 go_wp2
 go_loop [3] (fun x=>∃ k:Nat,k≤s.size∧x=.int .i64 k∧Hid (clB ((B s).take k)=true)) (fun x=>s.size - (intOf x).toNat)
 case atStart=>exact ⟨0,Nat.zero_le _,rfl,rfl⟩
 case round =>
  obtain ⟨k,hk,rfl,HC⟩:=hrel
  by_cases hlt:k < s.size
  ·have HT1:Hid ((B s).take (k+1)=(B s).take k ++ [s[k]]):=take_succ_B s k hlt
   have hstep:clB ((B s).take (k+1))=(!(oddN s[k].toNat)&&!(decide (k=0)&&digN s[k].toNat)):=by
    rw [HT1.out]
    by_cases h0:k=0
    ·subst h0
     rw [List.take_zero,List.nil_append,clB_one]
     simp [Bool.and_comm]
    ·rw [clB_snoc (by
      intro e
      have:=congrArg List.length e
      rw [List.length_take,len_B,List.length_nil] at this
      omega),HC.out]
     simp [h0]
   have HST:=Lib.hid hstep;clear hstep
   rcases (show (s[k].toNat:Int) < 48∨((48:Int)≤(s[k].toNat:Int)∧(s[k].toNat:Int)≤57)∨(57 < (s[k].toNat:Int)∧(s[k].toNat:Int) < 95)∨(s[k].toNat:Int)=95∨(s[k].toNat:Int)=96∨((97:Int)≤(s[k].toNat:Int)∧(s[k].toNat:Int)≤122)∨122 < (s[k].toNat:Int) by omega) with h | ⟨h,h'⟩ | ⟨h,h'⟩ | h | h | ⟨h,h'⟩ | h
   ·have ho:oddN s[k].toNat=true:=by simp [oddN];omega
    have hd:digN s[k].toNat=false:=by simp [digN];omega
    have HO:=Lib.hid ho;have HD:=Lib.hid hd;clear ho hd
    have HR:Hid (nameL (B s)=false):=by
     show _=_;rw [HNL.out,clB_bad (k+1) (by rw [HST.out,HO.out];simp),Bool.and_false]
    clear HNL;have e1:((s[k].toNat:Int) != 95)=true:=by rw [bne_iff_ne];omega
    go_wp2;go_ret;exact ⟨by rw [HR.out];rfl,rfl⟩
   ·have ho:oddN s[k].toNat=false:=by simp [oddN];omega
    have hd:digN s[k].toNat=true:=by simp [digN];omega
    have HO:=Lib.hid ho;have HD:=Lib.hid hd;clear ho hd
    by_cases h0:k=0
    ·subst h0
     have HR:Hid (nameL (B s)=false):=by
      show _=_;rw [HNL.out,clB_bad (0+1) (by rw [HST.out,HO.out,HD.out];simp),Bool.and_false]
     clear HNL;have e1:((s[0].toNat:Int) != 95)=true:=by rw [bne_iff_ne];omega
     go_wp2;go_ret;exact ⟨by rw [HR.out];rfl,rfl⟩
    ·have hk0:0 < k:=by omega
     have HN:Hid (clB ((B s).take (k+1))=true):=by show _=_;rw [HST.out,HO.out];simp [h0]
     have e1:((s[k].toNat:Int) != 95)=true:=by rw [bne_iff_ne];omega
     clear h0;go_wp2
     go_round
     case rel=>exact ⟨k+1,by omega,by go_num,HN⟩
     case measure=>simp [intOf];omega
   ·have ho:oddN s[k].toNat=true:=by simp [oddN];omega
    have hd:digN s[k].toNat=false:=by simp [digN];omega
    have HO:=Lib.hid ho;have HD:=Lib.hid hd;clear ho hd
    have HR:Hid (nameL (B s)=false):=by
     show _=_;rw [HNL.out,clB_bad (k+1) (by rw [HST.out,HO.out];simp),Bool.and_false]
    clear HNL;have e1:((s[k].toNat:Int) != 95)=true:=by rw [bne_iff_ne];omega
    go_wp2;go_ret;exact ⟨by rw [HR.out];rfl,rfl⟩
   ·have ho:oddN s[k].toNat=false:=by simp [oddN];omega
    have hd:digN s[k].toNat=false:=by simp [digN];omega
    have HO:=Lib.hid ho;have HD:=Lib.hid hd;clear ho hd;have HN:Hid (clB ((B s).take (k+1))=true):=by show _=_;rw [HST.out,HO.out,HD.out];simp
    have e1:((s[k].toNat:Int) != 95)=false:=by rw [bne_eq_false_iff_eq];omega
    have e2:(s[k].toNat:Int) < 97:=by omega
    clear h;go_wp2
    go_round
    case rel=>exact ⟨k+1,by omega,by go_num,HN⟩
    case measure=>simp [intOf];omega
   ·have ho:oddN s[k].toNat=true:=by simp [oddN];omega
    have hd:digN s[k].toNat=false:=by simp [digN];omega
    have HO:=Lib.hid ho;have HD:=Lib.hid hd;clear ho hd
    have HR:Hid (nameL (B s)=false):=by
     show _=_;rw [HNL.out,clB_bad (k+1) (by rw [HST.out,HO.out];simp),Bool.and_false]
    clear HNL;have e1:((s[k].toNat:Int) != 95)=true:=by rw [bne_iff_ne];omega
    have e2:(s[k].toNat:Int) < 97:=by omega
    have e3:57 < (s[k].toNat:Int):=by omega
    clear h;go_wp2;go_ret;exact ⟨by rw [HR.out];rfl,rfl⟩
   ·have ho:oddN s[k].toNat=false:=by simp [oddN];omega
    have hd:digN s[k].toNat=false:=by simp [digN];omega
    have HO:=Lib.hid ho;have HD:=Lib.hid hd;clear ho hd;have HN:Hid (clB ((B s).take (k+1))=true):=by show _=_;rw [HST.out,HO.out,HD.out];simp
    go_wp2
    go_round
    case rel=>exact ⟨k+1,by omega,by go_num,HN⟩
    case measure=>simp [intOf];omega
   ·have ho:oddN s[k].toNat=true:=by simp [oddN];omega
    have hd:digN s[k].toNat=false:=by simp [digN];omega
    have HO:=Lib.hid ho;have HD:=Lib.hid hd;clear ho hd
    have HR:Hid (nameL (B s)=false):=by
     show _=_;rw [HNL.out,clB_bad (k+1) (by rw [HST.out,HO.out];simp),Bool.and_false]
    clear HNL;have e1:((s[k].toNat:Int) != 95)=true:=by rw [bne_iff_ne];omega
    have e4:decide ((s[k].toNat:Int)≤122)=false:=by rw [decide_eq_false_iff_not];omega
    go_wp2;go_ret;exact ⟨by rw [HR.out];rfl,rfl⟩
  ·obtain rfl:k=s.size:=by omega
   have HC':Hid (clB (B s)=true):=by
    have:=HC.out
    rw [take_all_B] at this;exact this
   clear HC
   by_cases h1:1≤(s.size:Int)
   ·by_cases h2:(s.size:Int)≤12
    ·have HR:Hid (nameL (B s)=true):=by
      show _=_;rw [HNL.out,HC'.out,decide_eq_true (by omega),decide_eq_true (by omega)];rfl
     clear HNL;go_wp2;go_ret;exact ⟨by rw [HR.out];rfl,rfl⟩
    ·have HR:Hid (nameL (B s)=false):=by
      show _=_;rw [HNL.out,decide_eq_false (p:=s.size≤12) (by omega)];simp
     clear HNL;go_wp2;go_ret;exact ⟨by rw [HR.out];rfl,rfl⟩
   ·have HR:Hid (nameL (B s)=false):=by
     show _=_;rw [HNL.out,decide_eq_false (p:=1≤s.size) (by omega)];simp
    clear HNL;go_wp2;go_ret;exact ⟨by rw [HR.out];rfl,rfl⟩
end Go.Proofs.YtipnhpfpppblhaaGreat.refName
namespace Go.Proofs.YtipnhpfpppblhaaGreat
open Go.RowKit
theorem less_at {a b:List UInt8}:∀ (k:Nat) (ha:k < a.length) (hb:k < b.length),a.take k=b.take k→a[k]≠b[k]→Op.bytesLess a b=decide (a[k] < b[k]):=by
 intro k
 induction k generalizing a b with
 | zero =>
  intro ha hb _ hne;obtain ⟨x,a,rfl⟩:=List.exists_cons_of_length_pos ha;obtain ⟨y,b,rfl⟩:=List.exists_cons_of_length_pos hb;simp only [List.getElem_cons_zero] at hne ⊢;have h1:(x==y)=false:=by rw [beq_eq_false_iff_ne];exact hne
  simp [Op.bytesLess,h1]
 | succ k ih =>
  intro ha hb ht hne;obtain ⟨x,a,rfl⟩:=List.exists_cons_of_length_pos (Nat.lt_of_le_of_lt (Nat.zero_le _) ha);obtain ⟨y,b,rfl⟩:=List.exists_cons_of_length_pos (Nat.lt_of_le_of_lt (Nat.zero_le _) hb);simp only [List.take_succ_cons,List.cons.injEq] at ht;obtain ⟨rfl,ht⟩:=ht;simp only [List.getElem_cons_succ] at hne ⊢
  have:=ih (by simpa using ha) (by simpa using hb) ht hne
  simp [Op.bytesLess,this]
theorem less_end {a b:List UInt8}:∀ (k:Nat),a.take k=b.take k→(k=a.length∧k≤b.length∨k=b.length∧k≤a.length)→Op.bytesLess a b=decide (a.length < b.length):=by
 intro k
 induction k generalizing a b with
 | zero =>
  intro _ h
  rcases h with ⟨h,_⟩ | ⟨h,_⟩
  ·have:a=[]:=List.length_eq_zero_iff.1 h.symm
   subst this
   cases b <;> simp [Op.bytesLess]
  ·have:b=[]:=List.length_eq_zero_iff.1 h.symm
   subst this
   cases a <;> simp [Op.bytesLess]
 | succ k ih =>
  intro ht h;have ha:0 < a.length:=by omega
  have hb:0 < b.length:=by omega
  obtain ⟨x,a,rfl⟩:=List.exists_cons_of_length_pos ha;obtain ⟨y,b,rfl⟩:=List.exists_cons_of_length_pos hb;simp only [List.take_succ_cons,List.cons.injEq] at ht;obtain ⟨rfl,ht⟩:=ht;simp only [List.length_cons] at h ⊢
  have:=ih ht (by omega)
  simp [Op.bytesLess,this]
theorem B_at (s:ByteArray) (k:Nat) (h:k < s.size) (h':k < (B s).length):(B s)[k]=s[k]:=by
 have h1:=take_succ_B s k h;rw [List.take_succ_eq_append_getElem h'] at h1
 have:=List.append_cancel_left h1
 simpa using this
set_option maxHeartbeats 1600000 in
set_option maxRecDepth 100000 in
theorem rahead_any (a b:ByteArray) (w:World) (ha:a.size≤maxLen) :
  Calls Tryz.prog 75 #[.string a,.string b] w fun e w'=>e=.returned (.bool (ltS a b))∧Below w.heap.size w w':=by
 unfold maxLen at ha;have HL:Hid (ltS a b=Op.bytesLess (B a) (B b)):=by show _=_;unfold ltS;rw [toList_B,toList_B]
 go_enter Tryz.func75,Tryz.ntmps75
 go_wp2
 go_loopw [5] (fun i wr=>∃ k:Nat,k≤a.size∧k≤b.size∧i=.int .i64 k∧Hid ((B a).take k=(B b).take k)∧Below w.heap.size w wr) (fun i _=>a.size - (intOf i).toNat)
 case atStart=>exact ⟨0,Nat.zero_le _,Nat.zero_le _,rfl,Lib.hid rfl,Below.refl _ _⟩
 case round =>
  obtain ⟨k,hk1,hk2,rfl,HT,hbr⟩:=hrel
  by_cases h1:k < a.size
  ·by_cases h2:k < b.size
   ·obtain ⟨x,hx⟩:∃ x,a[k]=x:=⟨_,rfl⟩
    obtain ⟨y,hy⟩:∃ y,b[k]=y:=⟨_,rfl⟩;have l1:k < (B a).length:=by rw [len_B];exact h1
    have l2:k < (B b).length:=by rw [len_B];exact h2
    by_cases hxy:x=y
    ·have HN:Hid ((B a).take (k+1)=(B b).take (k+1)):=take_step HT.out l1 l2 (by rw [B_at a k h1 l1,B_at b k h2 l2,hx,hy,hxy])
     have hne:((x.toNat:Int) != (y.toNat:Int))=false:=by rw [hxy];simp
     clear l1 l2 hxy;go_wp2
     go_quiet (fail)
     have hb2:Below w.heap.size w (wr.drewN nq):=bl_drewN hbr nq;generalize wr.drewN nq=wq at *;go_wp2;go_roundw
     case rel=>exact ⟨k+1,by omega,by omega,by go_num,HN,hb2⟩
     case measure=>simp [intOf];omega
    ·have hr:ltS a b=decide (x < y):=by
      rw [HL.out,less_at k l1 l2 HT.out (by rw [B_at a k h1 l1,B_at b k h2 l2,hx,hy];exact hxy),B_at a k h1 l1,B_at b k h2 l2,hx,hy]
     have HR:=Lib.hid hr
     have hne:((x.toNat:Int) != (y.toNat:Int))=true:=by
      rw [bne_iff_ne];intro h;exact hxy (UInt8.toNat_inj.1 (by omega))
     clear l1 l2 hxy hr;go_wp2
     go_quiet (fail)
     have hb2:Below w.heap.size w (wr.drewN nq):=bl_drewN hbr nq;generalize wr.drewN nq=wq at *;clear nq;go_wp2
     go_quiet (fail)
     have hb3:Below w.heap.size w (wq.drewN nq):=bl_drewN hb2 nq;generalize wq.drewN nq=wz at *;go_wp2;go_ret;exact ⟨by rw [HR.out];simp [UInt8.lt_iff_toNat_lt],hb3⟩
   ·obtain rfl:k=b.size:=by omega
    have hr:ltS a b=decide ((B a).length < (B b).length):=by rw [HL.out];exact less_end b.size HT.out (.inr ⟨(len_B b).symm,by rw [len_B];exact hk1⟩)
    rw [len_B,len_B] at hr;have HR:=Lib.hid hr;clear hr;go_wp2;go_ret;exact ⟨by rw [HR.out];simp,hbr⟩
  ·obtain rfl:k=a.size:=by omega
   have hr:ltS a b=decide ((B a).length < (B b).length):=by rw [HL.out];exact less_end a.size HT.out (.inl ⟨(len_B a).symm,by rw [len_B];exact hk2⟩)
   rw [len_B,len_B] at hr;have HR:=Lib.hid hr;clear hr;go_wp2;go_ret;exact ⟨by rw [HR.out];simp,hbr⟩
set_option maxHeartbeats 3200000 in
set_option maxRecDepth 100000 in
theorem rright6_any (l:List Fld) (w:World) (v:Value) (hv:FldsAt w v l) (hf:FldsFit l) (hl:l.length≤maxLen) :
  Calls Tryz.prog 41 #[v] w fun e w'=>e=.returned (.bool (rightF l))∧Below w.heap.size w w':=by
 unfold maxLen at hl;obtain ⟨a,c,rfl,hc,hr⟩:=RdAt.shape hv;have HR:=Lib.hid hr;have HF:=Lib.hid hf;clear hr hv hf
 go_enter Tryz.func41,Tryz.ntmps41
 go_wp2
 go_loopw [3] (fun i wr=>∃ k:Nat,k≤l.length∧i=.int .i64 k∧Hid (∀ j,j < k→fldOk l j=true)∧Below w.heap.size w wr) (fun i _=>l.length - (intOf i).toNat)
 case atStart=>exact ⟨0,Nat.zero_le _,rfl,Lib.hid (fun j hj=>absurd hj (Nat.not_lt_zero j)),Below.refl _ _⟩
 case round =>
  obtain ⟨k,hk,rfl,HT,hbr⟩:=hrel
  by_cases hkl:k < l.length
  ·obtain ⟨b,o,rfl,hb,hcell⟩:=HR.out (by omega)
   obtain ⟨x,hxe⟩:∃ x,l[k].1=x:=⟨_,rfl⟩;obtain ⟨y,hye⟩:∃ y,l[k].2=y:=⟨_,rfl⟩;have hfs:=HF.out _ (List.getElem_mem hkl);rw [hxe,hye] at hfs;obtain ⟨hx0,hy0⟩:=fldCells_at l k hkl;rw [hxe] at hx0;rw [hye] at hy0;have a0:wr.cell? ⟨b,o+k * 2,none⟩=some (.string x):=kCq (hcell _ _ hx0) hbr hb;have a1:wr.cell? ⟨b,o+k * 2+1,none⟩=some (.string y):=kCq (by have:=hcell _ _ hy0;rwa [← Nat.add_assoc] at this) hbr hb;have hwb:b < wr.heap.size:=Nat.lt_of_lt_of_le hb hbr.size;have hall:∀ j v,(fldCells l)[j]?=some v→wr.cell? ⟨b,o+j,none⟩=some v:=fun j v hj=>kCq (hcell _ _ hj) hbr hb;have hn:∀ W,Calls Tryz.prog 40 #[.string x] W fun e w'=>e=.returned (.bool (nameL (B x)))∧w'=W:=fun W=>(refName.name_any x W hfs.1).mono (by rintro e w' ⟨h1,h2⟩;exact ⟨h1,h2.symm⟩);have hys:y.size≤9223372036854775807:=by have:=hfs.2;unfold maxLen at this;omega
   have hstep:fldOk l k=true→Hid (∀ j,j < k+1→fldOk l j=true):=fun h=>Lib.hid (fun j hj=>by
    rcases Nat.lt_or_ge j k with h' | h'
    ·exact HT.out j h'
    ·obtain rfl:j=k:=by omega
     exact h)
   have hbad:fldOk l k=false→Hid (rightF l=false):=fun h=>rightF_bad hkl h;have hgx:l.getD k default=(x,y):=by rw [List.getD_eq_getElem?_getD,List.getElem?_eq_getElem hkl];show l[k]=_;rw [← hxe,← hye]
   unfold fldOk at hstep hbad;rw [hgx] at hstep hbad;clear hcell hx0 hy0 hxe hye hgx HT
   cases hnm:nameL (B x)
   ·have HZ:=hbad (by rw [hnm];rfl)
    rw [hnm] at hn;clear hstep hbad hall hnm hfs;go_upto_region 4 with fail;refine wp_region_held_drew (S:=(fun W=>W.cell? ⟨b,o+k * 2,none⟩=some (.string x)∧W.cell? ⟨b,o+k * 2+1,none⟩=some (.string y))) (by kernel_rfl) ⟨a0,a1⟩ (fun hHeld=>?_);refine plIn [0,1,2,3,4] ?_
    iterate 5
     refine hP (v:=?_) rfl rfl hHeld ?_ ?_;rotate_left
     ·rintro wh ⟨z0,z1⟩
      go_simp
      (try with_reducible rfl)
     simp only [Act.put,aS1,aS2,aS3]
    refine plOut ?_;refine held_call (i:=5) rfl (by kernel_rfl) (by rfl) (fun K hK=>?_)
    (go_simp;go_at_call 40;refine (hn _).mono ?_;rintro e w1 ⟨rfl,rfl⟩;have hB1:Below wr.heap.size wr wr.drew:=(Below.refl _ _).drew)
    refine hK.out _ _ ⟨kCq a0 hB1 hwb,kCq a1 hB1 hwb⟩ (fun hHeld=>?_);clear hK K
    (try simp only [Act.put,aS1,aS2,aS3])
    refine plIn [6,7] ?_
    iterate 2
     refine hP (v:=?_) rfl rfl hHeld ?_ ?_;rotate_left
     ·rintro wh ⟨z0,z1⟩
      go_simp
      (try with_reducible rfl)
     simp only [Act.put,aS1,aS2,aS3]
    refine plOut ?_;refine plIn [8,9,10,11,12,13,14] ?_
    iterate 7
     refine hK rfl rfl hHeld ?_;simp only [Act.put,aS1,aS2,aS3]
    refine plOut ?_;refine plIn [15,16] ?_
    iterate 2
     refine hP (v:=?_) rfl rfl hHeld ?_ ?_;rotate_left
     ·rintro wh ⟨z0,z1⟩
      go_simp
      (try with_reducible rfl)
     simp only [Act.put,aS1,aS2,aS3]
    refine plOut ?_;refine plIn [17,18,19,20,21,22,23,24,25,26,27,28,29,30,31,32,33] ?_
    iterate 17
     refine hK rfl rfl hHeld ?_;simp only [Act.put,aS1,aS2,aS3]
    refine plOut ?_;refine hT (i:=34) (v:=?_) rfl rfl hHeld ?_ ?_;rotate_left
    ·rintro wh ⟨z0,z1⟩
     go_simp
     (try with_reducible rfl)
    simp only [Act.put,aS1,aS2,aS3];refine wpAnyH_done (by kernel_rfl) ?_ _;have hbn:Below w.heap.size w wr.drew:=hbr.trans (hB1.mono hbr.size);clear hB1 hn;generalize wr.drew=wq at *;go_wp2;go_ret;exact ⟨by rw [HZ.out];rfl,hbn⟩
   ·rw [hnm] at hn
    by_cases hy2:y.size≤200
    ·have g1:decide ((200:Int) < (y.size:Int))=false:=decide_eq_false (by omega)
     rcases Nat.eq_zero_or_pos k with hk0 | hk0
     ·have HN:=hstep (by rw [hnm,decide_eq_true hy2,decide_eq_true hk0];rfl)
      subst hk0;rw [Nat.zero_mul,Nat.add_zero] at a0 a1;clear hstep hbad hall hnm hy2 hfs;go_upto_region 4 with fail;refine wp_region_held_drew (S:=(fun W=>W.cell? ⟨b,o,none⟩=some (.string x)∧W.cell? ⟨b,o+1,none⟩=some (.string y))) (by kernel_rfl) ⟨a0,a1⟩ (fun hHeld=>?_);refine plIn [0,1,2,3,4] ?_
      iterate 5
       refine hP (v:=?_) rfl rfl hHeld ?_ ?_;rotate_left
       ·rintro wh ⟨z0,z1⟩
        go_simp
        (try with_reducible rfl)
       simp only [Act.put,aS1,aS2,aS3]
      refine plOut ?_;refine held_call (i:=5) rfl (by kernel_rfl) (by rfl) (fun K hK=>?_)
      (go_simp;go_at_call 40;refine (hn _).mono ?_;rintro e w1 ⟨rfl,rfl⟩;have hB1:Below wr.heap.size wr wr.drew:=(Below.refl _ _).drew)
      refine hK.out _ _ ⟨kCq a0 hB1 hwb,kCq a1 hB1 hwb⟩ (fun hHeld=>?_);clear hK K
      (try simp only [Act.put,aS1,aS2,aS3])
      refine plIn [6,7,8,9,10,11,12,13,14,15,16,17,18,19] ?_
      iterate 14
       refine hP (v:=?_) rfl rfl hHeld ?_ ?_;rotate_left
       ·rintro wh ⟨z0,z1⟩
        go_simp
        (try with_reducible rfl)
       simp only [Act.put,aS1,aS2,aS3]
      refine plOut ?_;refine plIn [20,21,22,23,24,25,26,27,28,29,30,31,32] ?_
      iterate 13
       refine hK rfl rfl hHeld ?_;simp only [Act.put,aS1,aS2,aS3]
      refine plOut ?_;refine plIn [33,34] ?_
      iterate 2
       refine hP (v:=?_) rfl rfl hHeld ?_ ?_;rotate_left
       ·rintro wh ⟨z0,z1⟩
        go_simp
        (try with_reducible rfl)
       simp only [Act.put,aS1,aS2,aS3]
      refine plOut ?_;refine wpAnyH_done (by kernel_rfl) ?_ _;have hbn:Below w.heap.size w wr.drew:=hbr.trans (hB1.mono hbr.size);clear hB1 hn;generalize wr.drew=wq at *;go_wp2;go_roundw
      case rel=>exact ⟨0+1,by omega,by go_num,HN,hbn⟩
      case measure=>(simp [intOf];try omega)
     ·obtain ⟨m,hm⟩:∃ m,k=m+1:=⟨k - 1,by omega⟩
      have hml:m < l.length:=by omega
      obtain ⟨z,hze⟩:∃ z,l[m].1=z:=⟨_,rfl⟩;have hfz:=(HF.out _ (List.getElem_mem hml)).1;rw [hze] at hfz;obtain ⟨hz0,_⟩:=fldCells_at l m hml;rw [hze] at hz0;have az:wr.cell? ⟨b,o+m * 2,none⟩=some (.string z):=hall _ _ hz0
      have hgz:(l.getD (k - 1) default).1=z:=by
       rw [hm,Nat.add_sub_cancel,List.getD_eq_getElem?_getD,List.getElem?_eq_getElem hml];exact hze
      have hkz:decide (k=0)=false:=decide_eq_false (by omega);rw [hgz,hnm,decide_eq_true hy2,hkz] at hstep hbad;have k0:(0:Int) < (k:Int):=by omega
      have hw1:IntKind.i64.wrap ((k:Int) - 1)=(m:Int):=by rw [IntKind.wrap_i64];omega
      have hI1:(m:Int) < (l.length:Int):=by omega
      have hah:=fun W=>rahead_any z x W hfz;obtain ⟨lt,hlt⟩:∃ lt,ltS z x=lt:=⟨_,rfl⟩;rw [hlt] at hstep hbad;simp only [hlt] at hah;have HM:=Lib.hid hm;clear hnm hy2 hze hkz hall hz0 hgz hfz hfs hlt hm
      cases lt
      ·have HZ:=hbad rfl
       clear hstep hbad;go_upto_region 4 with fail;refine wp_region_held_drew (S:=(fun W=>W.cell? ⟨b,o+k * 2,none⟩=some (.string x)∧W.cell? ⟨b,o+k * 2+1,none⟩=some (.string y)∧W.cell? ⟨b,o+m * 2,none⟩=some (.string z))) (by kernel_rfl) ⟨a0,a1,az⟩ (fun hHeld=>?_);refine plIn [0,1,2,3,4] ?_
       iterate 5
        refine hP (v:=?_) rfl rfl hHeld ?_ ?_;rotate_left
        ·rintro wh ⟨z0,z1,z2⟩
         go_simp
         (try with_reducible rfl)
        simp only [Act.put,aS1,aS2,aS3]
       refine plOut ?_;refine held_call (i:=5) rfl (by kernel_rfl) (by rfl) (fun K hK=>?_)
       (go_simp;go_at_call 40;refine (hn _).mono ?_;rintro e w1 ⟨rfl,rfl⟩;have hB1:Below wr.heap.size wr wr.drew:=(Below.refl _ _).drew)
       refine hK.out _ _ ⟨kCq a0 hB1 hwb,kCq a1 hB1 hwb,kCq az hB1 hwb⟩ (fun hHeld=>?_);clear hK K
       (try simp only [Act.put,aS1,aS2,aS3])
       refine plIn [6,7,8,9,10,11,12,13,14,15,16,17,18,19,20,21,22,23,24,25,26,27,28,29,30] ?_
       iterate 25
        refine hP (v:=?_) rfl rfl hHeld ?_ ?_;rotate_left
        ·rintro wh ⟨z0,z1,z2⟩
         go_simp
         (try with_reducible rfl)
        simp only [Act.put,aS1,aS2,aS3]
       refine plOut ?_;refine held_call (i:=31) rfl (by kernel_rfl) (by rfl) (fun K hK=>?_)
       (go_simp;go_at_call 75;refine (hah _).mono ?_;rintro e w2 ⟨rfl,hb2⟩;have hB2:Below wr.heap.size wr w2:=hB1.trans hb2)
       refine hK.out _ _ ⟨kCq a0 hB2 hwb,kCq a1 hB2 hwb,kCq az hB2 hwb⟩ (fun hHeld=>?_);clear hK K
       (try simp only [Act.put,aS1,aS2,aS3])
       refine plIn [32,33,34] ?_
       iterate 3
        refine hP (v:=?_) rfl rfl hHeld ?_ ?_;rotate_left
        ·rintro wh ⟨z0,z1,z2⟩
         go_simp
         (try with_reducible rfl)
        simp only [Act.put,aS1,aS2,aS3]
       refine plOut ?_;refine wpAnyH_done (by kernel_rfl) ?_ _;have hbn:Below w.heap.size w w2:=hbr.trans (hB2.mono hbr.size);clear hB1 hB2 hb2 hn hah;go_wp2;go_ret;exact ⟨by rw [HZ.out];rfl,hbn⟩
      ·have HN:=hstep rfl
       clear hstep hbad;go_upto_region 4 with fail;refine wp_region_held_drew (S:=(fun W=>W.cell? ⟨b,o+k * 2,none⟩=some (.string x)∧W.cell? ⟨b,o+k * 2+1,none⟩=some (.string y)∧W.cell? ⟨b,o+m * 2,none⟩=some (.string z))) (by kernel_rfl) ⟨a0,a1,az⟩ (fun hHeld=>?_);refine plIn [0,1,2,3,4] ?_
       iterate 5
        refine hP (v:=?_) rfl rfl hHeld ?_ ?_;rotate_left
        ·rintro wh ⟨z0,z1,z2⟩
         go_simp
         (try with_reducible rfl)
        simp only [Act.put,aS1,aS2,aS3]
       refine plOut ?_;refine held_call (i:=5) rfl (by kernel_rfl) (by rfl) (fun K hK=>?_)
       (go_simp;go_at_call 40;refine (hn _).mono ?_;rintro e w1 ⟨rfl,rfl⟩;have hB1:Below wr.heap.size wr wr.drew:=(Below.refl _ _).drew)
       refine hK.out _ _ ⟨kCq a0 hB1 hwb,kCq a1 hB1 hwb,kCq az hB1 hwb⟩ (fun hHeld=>?_);clear hK K
       (try simp only [Act.put,aS1,aS2,aS3])
       refine plIn [6,7,8,9,10,11,12,13,14,15,16,17,18,19,20,21,22,23,24,25,26,27,28,29,30] ?_
       iterate 25
        refine hP (v:=?_) rfl rfl hHeld ?_ ?_;rotate_left
        ·rintro wh ⟨z0,z1,z2⟩
         go_simp
         (try with_reducible rfl)
        simp only [Act.put,aS1,aS2,aS3]
       refine plOut ?_;refine held_call (i:=31) rfl (by kernel_rfl) (by rfl) (fun K hK=>?_)
       (go_simp;go_at_call 75;refine (hah _).mono ?_;rintro e w2 ⟨rfl,hb2⟩;have hB2:Below wr.heap.size wr w2:=hB1.trans hb2)
       refine hK.out _ _ ⟨kCq a0 hB2 hwb,kCq a1 hB2 hwb,kCq az hB2 hwb⟩ (fun hHeld=>?_);clear hK K
       (try simp only [Act.put,aS1,aS2,aS3])
       refine plIn [32,33,34] ?_
       iterate 3
        refine hP (v:=?_) rfl rfl hHeld ?_ ?_;rotate_left
        ·rintro wh ⟨z0,z1,z2⟩
         go_simp
         (try with_reducible rfl)
        simp only [Act.put,aS1,aS2,aS3]
       refine plOut ?_;refine wpAnyH_done (by kernel_rfl) ?_ _;have hbn:Below w.heap.size w w2:=hbr.trans (hB2.mono hbr.size);clear hB1 hB2 hb2 hn hah;go_wp2;go_roundw
       case rel=>exact ⟨k+1,by omega,by go_num,HN,hbn⟩
       case measure=>(simp [intOf];try omega)
    ·have g1:(200:Int) < (y.size:Int):=by omega
     have HZ:=hbad (by rw [hnm,decide_eq_false hy2];rfl);clear hstep hbad hall hnm hy2 hfs;go_upto_region 4 with fail;refine wp_region_held_drew (S:=(fun W=>W.cell? ⟨b,o+k * 2,none⟩=some (.string x)∧W.cell? ⟨b,o+k * 2+1,none⟩=some (.string y))) (by kernel_rfl) ⟨a0,a1⟩ (fun hHeld=>?_);refine plIn [0,1,2,3,4] ?_
     iterate 5
      refine hP (v:=?_) rfl rfl hHeld ?_ ?_;rotate_left
      ·rintro wh ⟨z0,z1⟩
       go_simp
       (try with_reducible rfl)
      simp only [Act.put,aS1,aS2,aS3]
     refine plOut ?_;refine held_call (i:=5) rfl (by kernel_rfl) (by rfl) (fun K hK=>?_)
     (go_simp;go_at_call 40;refine (hn _).mono ?_;rintro e w1 ⟨rfl,rfl⟩;have hB1:Below wr.heap.size wr wr.drew:=(Below.refl _ _).drew)
     refine hK.out _ _ ⟨kCq a0 hB1 hwb,kCq a1 hB1 hwb⟩ (fun hHeld=>?_);clear hK K
     (try simp only [Act.put,aS1,aS2,aS3])
     refine plIn [6,7,8,9,10,11,12,13,14,15,16] ?_
     iterate 11
      refine hP (v:=?_) rfl rfl hHeld ?_ ?_;rotate_left
      ·rintro wh ⟨z0,z1⟩
       go_simp
       (try with_reducible rfl)
      simp only [Act.put,aS1,aS2,aS3]
     refine plOut ?_;refine plIn [17,18,19,20,21,22,23,24,25,26,27,28,29,30,31,32,33] ?_
     iterate 17
      refine hK rfl rfl hHeld ?_;simp only [Act.put,aS1,aS2,aS3]
     refine plOut ?_;refine hT (i:=34) (v:=?_) rfl rfl hHeld ?_ ?_;rotate_left
     ·rintro wh ⟨z0,z1⟩
      go_simp
      (try with_reducible rfl)
     simp only [Act.put,aS1,aS2,aS3];refine wpAnyH_done (by kernel_rfl) ?_ _;have hbn:Below w.heap.size w wr.drew:=hbr.trans (hB1.mono hbr.size);clear hB1 hn;generalize wr.drew=wq at *;go_wp2;go_ret;exact ⟨by rw [HZ.out];rfl,hbn⟩
  ·obtain rfl:k=l.length:=by omega
   have HG:Hid (rightF l=decide (l.length≤8)):=rightF_good HT.out;clear HT
   by_cases h8:l.length≤8
   ·have h8':((l.length:Int)≤8):=by omega
    go_wp2;go_ret;exact ⟨by rw [HG.out];simp;omega,hbr⟩
   ·have h8':(8:Int) < (l.length:Int):=by omega
    go_wp2;go_ret;exact ⟨by rw [HG.out];simp;omega,hbr⟩
def okUp {α:Type} (nm:α→ByteArray) (p:α→Bool) (l:List α) (k:Nat):Prop :=
 (∀ i (h:i < l.length),i < k→p l[i]=true)∧∀ i j (hi:i < l.length) (_:j < l.length),j < i→i < k→nm l[j]≠nm l[i]
theorem okUp_zero {α:Type} {nm:α→ByteArray} {p:α→Bool} {l:List α}:okUp nm p l 0:=⟨fun _ _ h=>absurd h (Nat.not_lt_zero _),fun _ _ _ _ _ h=>absurd h (Nat.not_lt_zero _)⟩
theorem okUp_succ {α:Type} {nm:α→ByteArray} {p:α→Bool} {l:List α} {k:Nat} (h:okUp nm p l k) (hk:k < l.length) (h1:∀ j (_:j < l.length),j < k→nm l[j]≠nm l[k]) (h2:p l[k]=true):okUp nm p l (k+1):=by
 refine ⟨fun i hi h'=>?_,fun i j hi hj hji h'=>?_⟩
 ·rcases Nat.lt_or_ge i k with h'' | h''
  ·exact h.1 i hi h''
  ·obtain rfl:i=k:=by omega
   exact h2
 ·rcases Nat.lt_or_ge i k with h'' | h''
  ·exact h.2 i j hi hj hji h''
  ·obtain rfl:i=k:=by omega
   exact h1 j hj hji
def okAll {α:Type} (nm:α→ByteArray) (p:α→Bool) (l:List α):Bool:=decide ((l.map nm).Nodup)&&l.all p
theorem okUp_all {α:Type} {nm:α→ByteArray} {p:α→Bool} {l:List α} (h:okUp nm p l l.length):okAll nm p l=true:=by
 unfold okAll;rw [Bool.and_eq_true,decide_eq_true_iff,List.all_eq_true];refine ⟨?_,fun x hx=>?_⟩
 ·rw [List.nodup_iff_pairwise_ne,List.pairwise_iff_getElem]
  intro i j hi hj hij;rw [List.length_map] at hi hj;rw [List.getElem_map,List.getElem_map];exact h.2 j i hj hi hij hj
 ·obtain ⟨i,hi,rfl⟩:=List.mem_iff_getElem.1 hx
  exact h.1 i hi hi
theorem okAll_bad {α:Type} {nm:α→ByteArray} {p:α→Bool} {l:List α} {k:Nat} (hk:k < l.length) (h:p l[k]=false):okAll nm p l=false:=by
 unfold okAll;rw [Bool.and_eq_false_iff]
 right
 rw [List.all_eq_false];exact ⟨_,List.getElem_mem hk,by rw [h];decide⟩
theorem okAll_twice {α:Type} {nm:α→ByteArray} {p:α→Bool} {l:List α} {j k:Nat} (hj:j < l.length) (hk:k < l.length) (hjk:j < k) (h:nm l[j]=nm l[k]):okAll nm p l=false:=by
 unfold okAll;rw [Bool.and_eq_false_iff]
 left
 rw [decide_eq_false_iff_not];intro hn;rw [List.nodup_iff_pairwise_ne,List.pairwise_iff_getElem] at hn;exact hn j k (by rw [List.length_map];exact hj) (by rw [List.length_map];exact hk) hjk (by rw [List.getElem_map,List.getElem_map];exact h)
theorem namedP_eq (l:List Nmd):namedP l=okAll (·.1) (fun x=>nameL (B x.1)&&rightL x.2.1) l:=rfl
theorem byP_eq (l:List ByteArray):byP l=(okAll id (fun x=>nameL (B x)) l&&decide (l.length≤8)):=by unfold byP okAll;rw [List.map_id]
set_option maxHeartbeats 1600000 in
set_option maxRecDepth 100000 in
theorem named8_any (l:List Nmd) (v:Value) (w:World) (hv:NmdsAt w v l) (hw:NmdWide l) :
  Calls Tryz.prog 42 #[v] w fun e w'=>e=.returned (.bool (namedP l))∧Below w.heap.size w w':=by
 obtain ⟨hl,_,hsz⟩:=hw;rw [namedP_eq];obtain ⟨a,c,rfl,hc,hr⟩:=RdAt.shape hv;have HR:=Lib.hid hr;have HSZ:=Lib.hid hsz;have hl63:l.length≤9223372036854775807:=by unfold maxLen at hl;omega
 clear hr hv hl hsz
 go_enter Tryz.func42,Tryz.ntmps42
 go_wp2
 go_loopw [3] (fun i wr=>∃ k:Nat,i=.int .i64 k∧k≤l.length∧Hid (okUp (·.1) (fun x=>nameL (B x.1)&&rightL x.2.1) l k)∧Below w.heap.size w wr) (fun i _=>l.length - (intOf i).toNat)
 case atStart=>exact ⟨0,rfl,Nat.zero_le _,Lib.hid okUp_zero,Below.refl _ _⟩
 case round =>
  obtain ⟨k,rfl,hk,HT,hbr⟩:=hrel
  by_cases hkl:k < l.length
  ·obtain ⟨b,o,rfl,hb,hcell⟩:=HR.out (by omega)
   have HCELL:=Lib.hid hcell;have hstep:=okUp_succ HT.out hkl;have hbad:=okAll_bad (nm:=fun x:Nmd=>x.1) (p:=fun x:Nmd=>nameL (B x.1)&&rightL x.2.1) hkl;have htw:=fun j hj hjk=>okAll_twice (nm:=fun x:Nmd=>x.1) (p:=fun x:Nmd=>nameL (B x.1)&&rightL x.2.1) (j:=j) hj hkl hjk;have hxs:=HSZ.out _ (List.getElem_mem hkl);have HC:=nmdCells_at l k hkl;obtain ⟨x,hx⟩:∃ x,l[k]=x:=⟨_,rfl⟩;rw [hx] at HC hstep hbad hxs;simp only [hx] at htw
   have HQ:Hid (∀ W,Below w.heap.size w W→W.cell? ⟨b,o+k * 3,none⟩=some (.string x.1)∧W.cell? ⟨b,o+k * 3+1,none⟩=some (.int .i64 x.2.1)∧W.cell? ⟨b,o+k * 3+2,none⟩=some (.int .u32 x.2.2)):=Lib.hid (fun W hW =>
    have q:∀ i v,(nmdC x)[i]?=some v→W.cell? ⟨b,o+k * 3+i,none⟩=some v:=fun i v hi=>kCq (by have:=hcell _ _ (HC i v hi);rwa [← Nat.add_assoc] at this) hW hb
    ⟨q 0 _ rfl,q 1 _ rfl,q 2 _ rfl⟩)
   have HST:=Lib.hid hstep;have HBAD:=Lib.hid hbad;have HTW:=Lib.hid htw;have HBR:=Lib.hid hbr;have HXS:=Lib.hid hxs;clear hcell HC hstep hbad htw hx hbr hxs HT;go_wp2;obtain ⟨wo,rfl⟩:∃ z,z=wr:=⟨_,rfl⟩
   go_loopw [4] (fun i wi=>∃ m:Nat,i=.int .i64 m∧m≤k∧Hid (∀ j (_:j < l.length),j < m→l[j].1≠x.1)∧Below wo.heap.size wo wi) (fun i _=>k - (intOf i).toNat)
   case atStart=>exact ⟨0,rfl,Nat.zero_le _,Lib.hid (fun _ _ h=>absurd h (Nat.not_lt_zero _)),Below.refl _ _⟩
   case round =>
    obtain ⟨m,rfl,hm,HN,hbi⟩:=hrel;have hbw:=HBR.out.trans (hbi.mono HBR.out.size)
    by_cases hmk:m < k
    ·have hml:m < l.length:=by omega
     have c0:=(HQ.out _ hbw).1;have HCM:=nmdCells_at l m hml;obtain ⟨y,hy⟩:∃ y,l[m]=y:=⟨_,rfl⟩;rw [hy] at HCM;have d0:wr.cell? ⟨b,o+m * 3,none⟩=some (.string y.1):=kCq (HCELL.out _ _ (HCM 0 _ rfl)) hbw hb;have HY:=Lib.hid hy;clear HCM hy
     by_cases hxy:y.1=x.1
     ·have hbq:(y.1.toList==x.1.toList)=true:=bytes_eq_iff.2 hxy
      have HF:Hid (okAll (fun x:Nmd=>x.1) (fun x=>nameL (B x.1)&&rightL x.2.1) l=false):=Lib.hid (HTW.out m hml hmk (by rw [HY.out];exact hxy));clear hxy;go_wp2
      go_quiet (fail)
      have hb2:Below w.heap.size w (wr.drewN nq):=bl_drewN hbw nq;generalize wr.drewN nq=wq at *;go_wp2;go_ret;exact ⟨by rw [HF.out];rfl,hb2⟩
     ·have hbq:(y.1.toList==x.1.toList)=false:=by rw [bytes_beq];exact decide_eq_false hxy
      have HN':Hid (∀ j (_:j < l.length),j < m+1→l[j].1≠x.1):=Lib.hid (fun j hj h=>by
       rcases Nat.lt_or_ge j m with h' | h'
       ·exact HN.out j hj h'
       ·obtain rfl:j=m:=by omega
        rw [HY.out];exact hxy)
      clear hxy;go_wp2
      go_quiet (fail)
      have hb2:Below wo.heap.size wo (wr.drewN nq):=bl_drewN hbi nq;generalize wr.drewN nq=wq at *;go_wp2;go_roundw
      case rel=>exact ⟨m+1,by go_num,by omega,HN',hb2⟩
      case measure=>(simp [intOf];try omega)
    ·obtain rfl:m=k:=by omega
     have kn:∀ W,Calls Tryz.prog 40 #[.string x.1] W fun e w'=>e=.returned (.bool (nameL (B x.1)))∧w'=W:=fun W=>(refName.name_any x.1 W HXS.out).mono (by rintro e w' ⟨h1,h2⟩;exact ⟨h1,h2.symm⟩);have kr:=rright_any x.2.1 x.2.2;obtain ⟨c0,c1,c2⟩:=HQ.out _ hbw;have HBW:=Lib.hid hbw;clear hbw hbi
     cases hnm:nameL (B x.1)
     ·rw [hnm] at kn
      have HF:Hid (okAll (fun x:Nmd=>x.1) (fun x=>nameL (B x.1)&&rightL x.2.1) l=false):=Lib.hid (HBAD.out (by rw [hnm];rfl));clear hnm;go_wp2_with fail
      refine (kn _).mono ?_;rintro e w2 ⟨rfl,rfl⟩;go_wp2;go_ret;exact ⟨by rw [HF.out];rfl,HBW.out⟩
     ·rw [hnm] at kn
      cases hrl:rightL x.2.1
      ·rw [hrl] at kr
       have HF:Hid (okAll (fun x:Nmd=>x.1) (fun x=>nameL (B x.1)&&rightL x.2.1) l=false):=Lib.hid (HBAD.out (by rw [hnm,hrl];rfl));clear hnm hrl;go_wp2_with fail
       refine (kn _).mono ?_;rintro e w2 ⟨rfl,rfl⟩;go_wp2_with fail
       refine (kr _).mono ?_;rintro e w3 ⟨rfl,hb3⟩;have HB3:=Lib.hid (HBW.out.trans (hb3.mono HBW.out.size));clear hb3 c0 c1 c2;go_wp2;go_ret;exact ⟨by rw [HF.out];rfl,HB3.out⟩
      ·rw [hrl] at kr
       have HN':=Lib.hid (HST.out (fun j hj h=>HN.out j hj h) (by rw [hnm,hrl];rfl));clear hnm hrl;go_wp2_with fail
       refine (kn _).mono ?_;rintro e w2 ⟨rfl,rfl⟩;go_wp2_with fail
       refine (kr _).mono ?_;rintro e w3 ⟨rfl,hb3⟩;have HB3:=Lib.hid (HBW.out.trans (hb3.mono HBW.out.size));clear hb3 c0 c1 c2;go_wp2;go_roundw
       case rel=>exact ⟨m+1,by go_num,by omega,HN',HB3.out⟩
       case measure=>(simp [intOf];try omega)
  ·obtain rfl:k=l.length:=by omega
   have HF:Hid (okAll (fun x:Nmd=>x.1) (fun x=>nameL (B x.1)&&rightL x.2.1) l=true):=Lib.hid (okUp_all HT.out);clear HT;go_wp2;go_ret;exact ⟨by rw [HF.out];rfl,hbr⟩
end Go.Proofs.YtipnhpfpppblhaaGreat
