-- Written by a program of this session out of its own texts (wip/tools/link.py).
import Derived.Below
import Derived.ChangeKeysEq
import Derived.Deep.MidRow
import Derived.Deep.RegionHeld3
import Derived.Great.BuildSlice
import Derived.Ground.SlsfProg
import Derived.IntWalk
import Derived.LaidEql
import Derived.Laws.Bits64
import Derived.Laws.BitsLemmas
import Derived.Laws.BytesArg
import Derived.Laws.IdiomCopy
import Derived.Laws.OwnMore
import Derived.Laws.Rows
import Derived.Laws.Slices
import Derived.Laws.StructEq
import Derived.Laws.Tables
import Derived.Maps.AppendAt
import Derived.OrdersHeld
import Derived.RowKit
import Derived.Scope
import Derived.Shelf.SlGeneric
import Derived.Shelf.SlSortCmp.NoneTotal
import Derived.Test.YtbpcfhhcoklinaaGreatProg
import Derived.Test.YtbpcfhhcoklinaaGreatCVecInto3
import Derived.Test.YtbpcfhhcoklinaaGreatCVecInto10
set_option linter.unusedSimpArgs false
set_option linter.unusedVariables false
namespace Go.Proofs.YtbpcfhhcoklinaaGreat.Srt
open Go Go.RowKit Go.Shelf Go.Sort Go.Proofs Go.Proofs.YtbpcfhhcoklinaaGreat.Ab
theorem grow_of {a b:World} (h:Bw [] a b):∃ q os,b=grow (a.drewN q) os:=by
 refine ⟨b.drawn - a.drawn,b.heap.extract a.heap.size b.heap.size, ?_⟩
 have h1:a.drawn+(b.drawn - a.drawn)=b.drawn:=Nat.add_sub_cancel' h.drawn
 have h2:a.heap++b.heap.extract a.heap.size b.heap.size=b.heap:=by
  have hs:=h.size
  apply Array.ext_getElem?
  intro k
  by_cases hk:k < a.heap.size
  ·rw [Array.getElem?_append_left hk]
   exact (h.block k hk (by simp)).symm
  ·have hk:a.heap.size≤k:=Nat.le_of_not_lt hk
   rw [Array.getElem?_append_right hk,Array.getElem?_extract]
   by_cases hb:k < b.heap.size
   ·rw [if_pos (by omega),show a.heap.size+(k - a.heap.size)=k by omega]
   ·rw [if_neg (by omega),Array.getElem?_eq_none (by omega)]
 obtain ⟨bh,bt,bd,bo,bp⟩:=b
 obtain ⟨ah,at',ad,ao,ap⟩:=a
 obtain ⟨e1,e2,e3, -, -, -⟩:=h
 simp only at e1 e2 e3 h1 h2
 subst e1 e2 e3
 unfold grow World.drewN
 simp only [h1,h2]
variable {α:Type} [Inhabited α] {enc:α→Value}
theorem bw_sortWorld (w:World) (blk off m:Nat) (dk:Array α) (os:Array Obj):Bw [blk] w (sortWorld enc w blk off m dk os):=by
 unfold sortWorld grow putRow mapBlock Sort.ahead
 refine ⟨rfl,rfl,rfl,Nat.le_add_right _ _,by simp,fun k hk hn=>?_⟩
 have hne:k≠blk:=by simpa using hn
 have hs:k < (w.heap.modify blk (onCells (putCells enc off dk))).size:=by simpa using hk
 show (w.heap.modify blk (onCells (putCells enc off dk))++os)[k]? = w.heap[k]?
 rw [Array.getElem?_append_left hs,Array.getElem?_modify,if_neg (fun e=>hne e.symm)]
theorem block_sortWorld {w:World} {blk off m:Nat} {dk:Array α} {os:Array Obj} {cur:Array Value} {t:TypeId} {fz:Nat×Nat} (h:w.heap[blk]? = some (.cells cur t fz)):(sortWorld enc w blk off m dk os).heap[blk]? = some (.cells (putCells enc off dk cur) t fz):=by
 unfold sortWorld grow putRow mapBlock Sort.ahead
 have hlt:=(Array.getElem?_eq_some_iff.1 h).1
 have hs:blk < (w.heap.modify blk (onCells (putCells enc off dk))).size:=by simpa using hlt
 show (w.heap.modify blk (onCells (putCells enc off dk))++os)[blk]? = _
 rw [Array.getElem?_append_left hs,Array.getElem?_modify,if_pos rfl,h]
 rfl
theorem putCells_take (dk:Array α) (cur:Array Value) (h:dk.size≤cur.size):(putCells enc 0 dk cur).size=cur.size∧(putCells enc 0 dk cur).toList.take dk.size=dk.toList.map enc:=by
 unfold putCells
 refine ⟨by simp, ?_⟩
 apply List.ext_getElem?
 intro i
 by_cases hi:i < dk.size
 ·rw [List.getElem?_take_of_lt hi,List.getElem?_map,Array.getElem?_toList,Array.getElem?_mapIdx,Array.getElem?_eq_getElem (by omega),Array.getElem?_toList,Array.getElem?_eq_getElem hi]
  simp [hi]
 ·rw [List.getElem?_eq_none (by simp;omega),List.getElem?_eq_none (by simp;omega)]
def ltC (c:Int→Int→Int) (x y:Int):Bool:=decide (c x y < 0)
def srt (c:Int→Int→Int) (l:List Int):List Int:=l.mergeSort fun x y=>!ltC c y x
structure Ord (c:Int→Int→Int) (l:List Int):Prop where
 irr:∀ x∈l,ltC c x x=false
 tr:∀ x∈l,∀ y∈l,∀ z∈l,ltC c x y=true→ltC c y z=true→ltC c x z=true
 ntr:∀ x∈l,∀ y∈l,∀ z∈l,ltC c x y=false→ltC c y z=false→ltC c x z=false
 tot:∀ x∈l,∀ y∈l,ltC c x y=false→ltC c y x=false→x=y
theorem srt_nil (c:Int→Int→Int):srt c []=[]:=by unfold srt;rw [List.mergeSort]
theorem sort_calls (c:Int→Int→Int) (us:Array Value) (l:List Int) (w:World) (base:Nat) (v:Value) (hown:w.ownsRow base 23 1 v l.length (l.map (Value.int .u64))) (hO:Ord c l) (hs:l.length < 4611686018427387904)
  (hcmp:∀ W,Bw v.ownBlock.toList w W→∀ x∈l,∀ y∈l,Calls Tryz.prog 90 (#[.int .u64 x,.int .u64 y]++us) W fun e w'=>e = .returned (.int .i64 (c x y))∧Bw [] W w'):
  Calls Tryz.prog 89 #[v,.func (.func 90) #[] us] w fun e w'=>e = .returned (.tuple #[])∧w'.ownsRow base 23 1 v (srt c l).length ((srt c l).map (Value.int .u64))∧Bw v.ownBlock.toList w w':=by
 cases l with
 | nil =>
  have hnone:∀ (p:Option Addr) (cap:Nat),v = .slice p 0 cap→Calls Tryz.prog 89 #[v,.func (.func 90) #[] us] w fun e w'=>e = .returned (.tuple #[])∧w'.ownsRow base 23 1 v (srt c []).length ((srt c []).map (Value.int .u64))∧Bw v.ownBlock.toList w w':=by
   intro p cap hv
   have h:=AnyF.slices_SortFunc_none (P:=Tryz.prog) (ρ:=Tryz.sortL_ren) { Tryz.sortL with } p cap (.func (.func 90) #[] us) w
   change Calls Tryz.prog 89 _ _ _ at h
   rw [hv] at hown ⊢
   refine h.mono fun e w' ⟨he,hw⟩=>⟨he, ?_, ?_⟩
   ·rw [hw,srt_nil];exact hown
   ·rw [hw];exact .refl _ _
  rcases hown.2 with ⟨hv, -⟩ | ⟨g,cap,cur,hv, -⟩
  ·exact hnone _ _ hv
  ·exact hnone _ _ hv
 | cons a r =>
  obtain ⟨L,hL⟩:∃ L,a :: r=L:=⟨_,rfl⟩
  have ha:a∈L:=by rw [← hL];exact List.mem_cons_self
  rw [hL] at hown hO hcmp hs ⊢
  rcases hown.2 with ⟨hv,h0⟩ | ⟨g,cap,cur,hv,hb,hg,hn,hcap,hcs,htk⟩
  ·rw [← hL] at h0;simp at h0
  subst hv
  have hbk:(Value.slice (some ⟨g,0,none⟩) L.length cap).ownBlock.toList=[g]:=rfl
  rw [hbk] at hcmp ⊢
  letI:Inhabited { x:Int // x∈L }:=⟨⟨a,ha⟩⟩
  have hds:L.attach.toArray.size=L.length:=by simp
  have hdj:∀ j,j < L.length→(Value.int .u64 (L.attach.toArray[j]!).1) = .int .u64 (L.getD j 0):=by
   intro j hj
   rw [getElem!_pos _ j (by rw [hds];exact hj)]
   simp [hj]
  rw [Nat.mul_one] at htk
  rw [Nat.mul_one] at hcs
  have hcell:∀ j,j < L.length→w.cell? ⟨g,0+j,none⟩=some (.int .u64 (L.getD j 0)):=by
   intro j hj
   have h1:cur[j]? = (L.map (Value.int .u64))[j]?:=by
    rw [← htk,List.getElem?_take_of_lt hj,Array.getElem?_toList]
   unfold World.cell?
   rw [hg]
   simp only [Option.isSome_none,Bool.false_eq_true,if_false,Nat.zero_add]
   rw [h1,List.getElem?_map,List.getElem?_eq_getElem hj,List.getD_eq_getElem?_getD,List.getElem?_eq_getElem hj]
   rfl
  have hH:Holds (fun x:{ x:Int // x∈L }=>Value.int .u64 x.1) w g 0 L.attach.toArray:=by
   intro j hj
   rw [hds] at hj
   refine ⟨(hcell j hj).trans (congrArg some (hdj j hj).symm), ?_⟩
   unfold World.frozen?
   rw [hg]
   simp
  have hglt:=(Array.getElem?_eq_some_iff.1 hg).1
  have h:=Any.slices_SortFunc_total Tryz.sortL (fun x:{ x:Int // x∈L }=>Value.int .u64 x.1) (fun _=>rfl) (fun x y=>c x.1 y.1)
   ⟨fun x=>hO.irr x.1 x.2,fun x y z=>hO.tr x.1 x.2 y.1 y.2 z.1 z.2,fun x y z=>hO.ntr x.1 x.2 y.1 y.2 z.1 z.2⟩ 90 us g 0 cap L.attach.toArray w (enters_of Tryz.func90 (by kernel_rfl) rfl)
   (fun m os dk hs x y=>(hcmp _ (bw_sortWorld w g 0 m dk os) x.1 x.2 y.1 y.2).mono fun e w' ⟨he,hb⟩=>⟨he,grow_of hb⟩) hH hglt (by rw [hds];exact hs) (fun x y h1 h2=>Subtype.ext (hO.tot x.1 x.2 y.1 y.2 h1 h2))
  change Calls Tryz.prog 89 _ _ _ at h
  rw [hds] at h
  refine h.mono fun e w' ⟨he,q,os,hw⟩=>⟨he, ?_, ?_⟩
  ·have hmap:(L.attach.toArray.toList.mergeSort fun x y=>!(ltOf (fun x y:{ x:Int // x∈L }=>c x.1 y.1)) y x).map (fun x=>x.1)=srt c L:=by
    refine (List.map_mergeSort (s:=fun x y=>!ltC c y x) (f:=fun x:{ x:Int // x∈L }=>x.1) (fun a _ b _=>rfl)).trans ?_
    unfold srt
    congr 1
    simp
   have hlen:(srt c L).length=L.length:=by unfold srt;rw [List.length_mergeSort]
   obtain ⟨D,hD⟩:∃ D,(L.attach.toArray.toList.mergeSort fun x y=>!(ltOf (fun x y:{ x:Int // x∈L }=>c x.1 y.1)) y x)=D:=⟨_,rfl⟩
   rw [hD] at hmap hw
   have hDl:D.toArray.size=L.length:=by rw [← hD];simp
   obtain ⟨p1,p2⟩:=putCells_take (enc:=fun x:{ x:Int // x∈L }=>Value.int .u64 x.1) D.toArray cur (by omega)
   rw [hw]
   refine ⟨by simp [hlen],.inr ⟨g,cap,_,by rw [hlen],hb,block_sortWorld hg,by omega,hcap,by rw [p1];omega, ?_⟩⟩
   rw [Nat.mul_one,hlen,← hDl,p2,← hmap]
   simp
  ·rw [hw]
   exact bw_sortWorld _ _ _ _ _ _
theorem of_ok {P:Program} {f:FuncId} {vs:Array Value} {w:World} {R:Value→World→Prop} (he:∀ args w,(callFunc f args).run P w = .ok (.enter f args) w) (h:CallOk P f vs w R):Calls P f vs w fun e w'=>∃ v,e = .returned v∧R v w':=by
 rcases h with ⟨-,h⟩ | ⟨v,w',h, -⟩
 ·exact h
 ·rw [he] at h
  cases h
theorem srt_in {c:Int→Int→Int} {k:IntKind} {l:List Int} (h:inL k l):inL k (srt c l):=by
 unfold srt
 refine ⟨by rw [List.length_mergeSort];exact h.1,fun n hn=>h.2 n ?_⟩
 exact (List.mergeSort_perm _ _).subset hn
end Go.Proofs.YtbpcfhhcoklinaaGreat.Srt
