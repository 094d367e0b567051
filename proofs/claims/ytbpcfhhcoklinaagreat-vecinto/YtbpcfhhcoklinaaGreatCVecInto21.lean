/- Into of an accumulator that stands in any way it may. No condition but the lists' own size. -/
-- Written by a program of this session out of its own texts (wip/tools/link.py).
import Derived.Below
import Derived.Carry
import Derived.ChangeKeysEq
import Derived.ChangeOld
import Derived.ChangeSlices
import Derived.Deep.MidRow
import Derived.Deep.RegionHeld3
import Derived.Great.BuildSlice
import Derived.Ground.SlsfProg
import Derived.IntWalk
import Derived.KernelRfl
import Derived.LaidEql
import Derived.Laws.Bits64
import Derived.Laws.BitsLemmas
import Derived.Laws.BytesArg
import Derived.Laws.IdiomCopy
import Derived.Laws.OwnMore
import Derived.Laws.Rows
import Derived.Laws.Slices
import Derived.Laws.Strings
import Derived.Laws.StructEq
import Derived.Laws.Tables
import Derived.Lib.BitFns
import Derived.Lib.Mul64
import Derived.Lib.Slices
import Derived.Lib.Small
import Derived.Lib.SmallJoins
import Derived.Lib.Strings
import Derived.Lib.Walk
import Derived.LoopIn
import Derived.LoopNIn
import Derived.Maps.AppendAt
import Derived.OpenShut
import Derived.OrdersHeld
import Derived.OwnWalkIn
import Derived.RangeFuncBound
import Derived.RangeFuncCalls
import Derived.RangeFuncLeaves
import Derived.RangeFuncNested
import Derived.RowKit
import Derived.RowKit3
import Derived.Scope
import Derived.Shelf.Abstract
import Derived.Shelf.RegionOpen
import Derived.Shelf.SlGeneric
import Derived.Shelf.SlSortCmp.NoneTotal
import Derived.Shelf.Spec.BitsCarry
import Derived.SizedLaws
import Derived.TacticsInMore
import Derived.Test.YtbpcfhhcoklinaaGreatProg
import Derived.Test.YtbpcfhhcoklinaaGreatRows
import Derived.WalkKit
import Derived.WideLaws
import Derived.Test.YtbpcfhhcoklinaaGreatCVecInto1
import Derived.Test.YtbpcfhhcoklinaaGreatCVecInto12
import Derived.Test.YtbpcfhhcoklinaaGreatCVecInto18
import Derived.Test.YtbpcfhhcoklinaaGreatCVecInto20
set_option linter.unusedSimpArgs false
set_option linter.unusedVariables false
namespace Go.Proofs.YtbpcfhhcoklinaaGreat.vecInto
open Go Go.ChangeShapes Go.WideShapes Go.ChangeAt Go.RowKit Go.Proofs.YtbpcfhhcoklinaaGreat.Ab
open Go.ChangeMaps (open_string shut_string)
theorem own:ownKnob Tryz.prog.godebug=none:=by kernel_rfl
theorem laidOut:laidOutB Tryz.prog=true:=by kernel_rfl
set_option maxRecDepth 100000 in
theorem lifted (os : Os) (started : os.Started) (H : Type) (enc : TypeId × Value → H) :
    ReturnsInHanded {} Tryz.checked os 6 .any (Rows.vecIntoSpec.pre6 enc Tryz.prog Tryz.f6 Rows.vecIntoRow.domain false) (Rows.vecIntoSpec.post enc Tryz.prog Tryz.f6 false true false false):=by
  refine returnsInHanded_of_change_sized (C:=Tryz.checked) own started (by kernel_rfl) Tryz.func6
    (ChangeSpec.witness6 (enc:=enc) (C:=Tryz.checked) false ⟨#[], #[.agg #[.int .i64 0,.bool false,.int .i64 0,.slice none 0 0],.slice none 0 0,.slice none 0 0],[]⟩ 8 (by kernel_rfl) (by kernel_rfl) (by kernel_rfl) (by kernel_rfl)) ?_
  intro W base args ds gs before hval0 hW hcnd hsz0 _
  have hsz:(DataW.weightsEach Tryz.prog (Tryz.f6.params.toList++Rows.vecIntoSpec.plain.varTypes Tryz.prog) (ds++gs)).all (·≤reachBytes)=true:=hsz0
  have hval:∀ (j:Nat) t v,Tryz.f6.params[j]? = some t→args[j]? = some v→Value.okWide Tryz.prog W .any base t v:=hval0
  have hW':=hW
  obtain ⟨p,q,hA0,hV,rfl,hfz,hnd⟩:=hW
  have hA:DataW.TrodAll enc Tryz.prog W 0 (fun _=>true) true Tryz.f6.params.toList args.toList ds p:=hA0
  rw [Tryz.params6] at hA hval hsz
  obtain ⟨v0,vs0,d0,ds0,p0,q0,hargs,rfl,rfl,h0,r0⟩:=trodAll_cons hA
  obtain ⟨v1,vs1,d1,ds1,p1,q1,rfl,rfl,rfl,h1,r1⟩:=trodAll_cons r0
  obtain ⟨v2,vs2,d2,ds2,p2,q2,rfl,rfl,rfl,h2,r2⟩:=trodAll_cons r1
  obtain ⟨rfl,rfl,rfl⟩:=trodAll_nil r2
  obtain rfl:args = #[v0,v1,v2]:=by cases args;simp_all
  obtain ⟨rfl,rfl⟩:=trodVars_none hV
  have k0:=h0
  have lt0:∀ x∈p0,x.block < W.heap.size:=by obtain ⟨m,hm⟩:=k0;exact DataW.trod_lt m _ _ _ hm
  obtain ⟨v0_0,v0_1,v0_2,v0_3,y0_0,y0_1,y0_2,y0_3,n0_,rfl,rfl,rfl,h0_0,h0_1,h0_2,h0_3⟩:=AggX.open_agg4 Tryz.underlying49 (by kernel_rfl) (by kernel_rfl) (hval 0 49 v0 rfl rfl) h0
  have hsz0:=sized_parts hsz (j:=0) (t:=49) rfl rfl Tryz.underlying49
  obtain ⟨a0_0,rfl,rfl,w0_0⟩:=AggX.cell_int Tryz.underlying3 h0_0
  obtain ⟨a0_1,rfl,rfl⟩:=AggX.cell_bool Tryz.underlying4 h0_1
  obtain ⟨a0_2,rfl,rfl,w0_2⟩:=AggX.cell_int Tryz.underlying2 h0_2
  obtain ⟨s0_3,len0_3,cap0_3,rfl⟩:=slice_of Tryz.underlying22 h0_3
  obtain ⟨a0_3,z0_3,w0_3,u0_3, -⟩:=row_rd (eT:=76) (k:=.u64) (B:=8) hsz0 (j:=3) (t:=22) rfl rfl Tryz.underlying22 Tryz.underlying23 (by kernel_rfl) (by kernel_rfl) ⟨_,h0_3⟩
  obtain ⟨a1,len1,cap1,rfl⟩:=okWide_slice Tryz.underlying22 (hval 1 22 v1 rfl rfl)
  have k1:=h1
  have lt1:∀ x∈p1,x.block < W.heap.size:=by obtain ⟨m,hm⟩:=k1;exact DataW.trod_lt m _ _ _ hm
  obtain ⟨l1,z1,w1,y1, -⟩:=row_rd (eT:=76) (k:=.u64) (B:=8) hsz (j:=1) (t:=22) rfl rfl Tryz.underlying22 Tryz.underlying23 (by kernel_rfl) (by kernel_rfl) h1
  obtain ⟨a2,len2,cap2,rfl⟩:=okWide_slice Tryz.underlying22 (hval 2 22 v2 rfl rfl)
  have k2:=h2
  have lt2:∀ x∈p2,x.block < W.heap.size:=by obtain ⟨m,hm⟩:=k2;exact DataW.trod_lt m _ _ _ hm
  obtain ⟨l2,z2,w2,y2, -⟩:=row_rd (eT:=76) (k:=.u64) (B:=8) hsz (j:=2) (t:=22) rfl rfl Tryz.underlying22 Tryz.underlying23 (by kernel_rfl) (by kernel_rfl) h2
  clear hA0 hval0 hsz0 hsz
  obtain ⟨k,hk⟩:=Pure.VecInto a0_0 a0_1 a0_2 a0_3 l1 l2 w0_0 w0_2 w0_3 u0_3 w1 y1 w2 y2
  refine (FnOk.truthL Tryz.func6 (by rfl) (by rfl) (Fn.vl20_VecInto.ok k) (x:=(a0_0,a0_1,a0_2,a0_3,l1,l2)) hk W #[.agg #[.int .i64 a0_0,.bool a0_1,.int .i64 a0_2,.slice s0_3 len0_3 cap0_3],.slice a1 len1 cap1,.slice a2 len2 cap2] ⟨⟨_,rfl,⟨rfl,inK_wf w0_0,by simp,by simp⟩,rfl,⟨rfl,inK_wf w0_2,by simp,by simp⟩,z0_3,trivial⟩,z1,z2,trivial⟩).mono fun e W' ⟨he,bel⟩=>?_
  subst he
  exact ⟨_,rfl,_,_,_,[],_,[],hW',trodAll_mk1 (shut_bool Tryz.underlying4 _),(trodAll_cons_mk (Below.trod laidOut (by kernel_rfl) (of_decide_eq_true (by kernel_rfl)) k0 bel lt0) (trodAll_cons_mk (Below.trod laidOut (by kernel_rfl) (of_decide_eq_true (by kernel_rfl)) k1 bel lt1) (trodAll_cons_mk (Below.trod laidOut (by kernel_rfl) (of_decide_eq_true (by kernel_rfl)) k2 bel lt2) trodAll_mk0))),rfl,bel.frame _,fun h=>by cases h⟩
theorem over:Rows.vecIntoRow.holds Tryz.pinned (OpenSpec.ofChange Rows.vecIntoSpec):=
  OpenClaim.holds_of_wide 6 Tryz.f6 rfl rfl rfl rfl rfl rfl rfl ⟨rfl,rfl,rfl,rfl,rfl⟩ rfl rfl rfl rfl rfl (by kernel_rfl) Tryz.func6 (by kernel_rfl)
    (of_decide_eq_true (by kernel_rfl)) (by unfold Func.isWrapper;first | (rw [if_pos (by decide +kernel)];kernel_rfl) | (rw [if_neg (by decide +kernel)];exact ⟨rfl,rfl⟩))
    (fun os started H enc _=>lifted os started H enc)
theorem proved:Rows.VecIntoSaid:=over
end Go.Proofs.YtbpcfhhcoklinaaGreat.vecInto
namespace Go.Proofs.YtbpcfhhcoklinaaGreat
theorem vecInto_holds:Rows.VecIntoSaid:=vecInto.proved
end Go.Proofs.YtbpcfhhcoklinaaGreat
