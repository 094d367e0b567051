/- Each of any width, number and lists. No condition but the lists' own size. -/
-- Written by a program of this session out of its own texts (wip/tools/link.py).
import Derived.Below
import Derived.Carry
import Derived.ChangeKeysEq
import Derived.ChangeOld
import Derived.ChangeSlices
import Derived.Deep.MidRow
import Derived.Deep.RegionHeld3
import Derived.Great.BuildSlice
import Derived.Ground.SlsfProg
import Derived.IntWalk
import Derived.KernelRfl
import Derived.LaidEql
import Derived.Laws.Bits64
import Derived.Laws.BitsLemmas
import Derived.Laws.BytesArg
import Derived.Laws.IdiomCopy
import Derived.Laws.OwnMore
import Derived.Laws.Rows
import Derived.Laws.Slices
import Derived.Laws.Strings
import Derived.Laws.StructEq
import Derived.Laws.Tables
import Derived.Lib.BitFns
import Derived.Lib.Mul64
import Derived.Lib.Slices
import Derived.Lib.Small
import Derived.Lib.SmallJoins
import Derived.Lib.Strings
import Derived.Lib.Walk
import Derived.LoopIn
import Derived.LoopNIn
import Derived.Maps.AppendAt
import Derived.OpenShut
import Derived.OrdersHeld
import Derived.OwnWalkIn
import Derived.RangeFuncBound
import Derived.RangeFuncCalls
import Derived.RangeFuncLeaves
import Derived.RangeFuncNested
import Derived.RowKit
import Derived.RowKit3
import Derived.Scope
import Derived.Shelf.Abstract
import Derived.Shelf.RegionOpen
import Derived.Shelf.SlGeneric
import Derived.Shelf.SlSortCmp.NoneTotal
import Derived.Shelf.Spec.BitsCarry
import Derived.SizedLaws
import Derived.TacticsInMore
import Derived.Test.YtbpcfhhcoklinaaGreatProg
import Derived.Test.YtbpcfhhcoklinaaGreatRows
import Derived.WalkKit
import Derived.WideLaws
import Derived.Test.YtbpcfhhcoklinaaGreatCVecEach1
import Derived.Test.YtbpcfhhcoklinaaGreatCVecEach12
import Derived.Test.YtbpcfhhcoklinaaGreatCVecEach18
import Derived.Test.YtbpcfhhcoklinaaGreatCVecEach21
set_option linter.unusedSimpArgs false
set_option linter.unusedVariables false
namespace Go.Proofs.YtbpcfhhcoklinaaGreat.vecEach
open Go Go.ChangeShapes Go.WideShapes Go.ChangeAt Go.RowKit Go.Proofs.YtbpcfhhcoklinaaGreat.Ab
open Go.ChangeMaps (open_string shut_string)
theorem own:ownKnob Tryz.prog.godebug=none:=by kernel_rfl
theorem laidOut:laidOutB Tryz.prog=true:=by kernel_rfl
set_option maxRecDepth 100000 in
theorem lifted (os : Os) (started : os.Started) (H : Type) (enc : TypeId × Value → H) :
    ReturnsInHanded {} Tryz.checked os 8 .any (Rows.vecEachSpec.pre6 enc Tryz.prog Tryz.f8 Rows.vecEachRow.domain false) (Rows.vecEachSpec.post enc Tryz.prog Tryz.f8 false true false false):=by
  refine returnsInHanded_of_change_sized (C:=Tryz.checked) own started (by kernel_rfl) Tryz.func8
    (ChangeSpec.witness6 (enc:=enc) (C:=Tryz.checked) false ⟨#[], #[.int .i64 0,.agg #[.int .i64 0,.slice none 0 0,.slice none 0 0]],[]⟩ 8 (by kernel_rfl) (by kernel_rfl) (by kernel_rfl) (by kernel_rfl)) ?_
  intro W base args ds gs before hval0 hW hcnd hsz0 _
  have hsz:(DataW.weightsEach Tryz.prog (Tryz.f8.params.toList++Rows.vecEachSpec.plain.varTypes Tryz.prog) (ds++gs)).all (·≤reachBytes)=true:=hsz0
  have hval:∀ (j:Nat) t v,Tryz.f8.params[j]? = some t→args[j]? = some v→Value.okWide Tryz.prog W .any base t v:=hval0
  have hW':=hW
  obtain ⟨p,q,hA0,hV,rfl,hfz,hnd⟩:=hW
  have hA:DataW.TrodAll enc Tryz.prog W 0 (fun _=>true) true Tryz.f8.params.toList args.toList ds p:=hA0
  rw [Tryz.params8] at hA hval hsz
  obtain ⟨v0,vs0,d0,ds0,p0,q0,hargs,rfl,rfl,h0,r0⟩:=trodAll_cons hA
  obtain ⟨v1,vs1,d1,ds1,p1,q1,rfl,rfl,rfl,h1,r1⟩:=trodAll_cons r0
  obtain ⟨rfl,rfl,rfl⟩:=trodAll_nil r1
  obtain rfl:args = #[v0,v1]:=by cases args;simp_all
  obtain ⟨rfl,rfl⟩:=trodVars_none hV
  obtain ⟨a0,rfl,rfl,rfl,w0⟩:=open_int Tryz.underlying3 (hval 0 3 v0 rfl rfl) h0
  have k1:=h1
  have lt1:∀ x∈p1,x.block < W.heap.size:=by obtain ⟨m,hm⟩:=k1;exact DataW.trod_lt m _ _ _ hm
  obtain ⟨v1_0,v1_1,v1_2,y1_0,y1_1,y1_2,n1_,rfl,rfl,rfl,h1_0,h1_1,h1_2⟩:=AggX.open_agg3 Tryz.underlying67 (by kernel_rfl) (by kernel_rfl) (hval 1 67 v1 rfl rfl) h1
  have hsz1:=sized_parts hsz (j:=1) (t:=67) rfl rfl Tryz.underlying67
  obtain ⟨a1_0,rfl,rfl,w1_0⟩:=AggX.cell_int Tryz.underlying3 h1_0
  obtain ⟨s1_1,len1_1,cap1_1,rfl⟩:=slice_of Tryz.underlying22 h1_1
  obtain ⟨a1_1,z1_1,w1_1,u1_1, -⟩:=row_rd (eT:=76) (k:=.u64) (B:=8) hsz1 (j:=1) (t:=22) rfl rfl Tryz.underlying22 Tryz.underlying23 (by kernel_rfl) (by kernel_rfl) ⟨_,h1_1⟩
  obtain ⟨s1_2,len1_2,cap1_2,rfl⟩:=slice_of Tryz.underlying22 h1_2
  obtain ⟨a1_2,z1_2,w1_2,u1_2, -⟩:=row_rd (eT:=76) (k:=.u64) (B:=8) hsz1 (j:=2) (t:=22) rfl rfl Tryz.underlying22 Tryz.underlying23 (by kernel_rfl) (by kernel_rfl) ⟨_,h1_2⟩
  clear hA0 hval0 hsz0 hsz
  obtain ⟨k,hk⟩:=Pure.VecEach a0 a1_0 a1_1 a1_2 w0 w1_0 w1_1 u1_1 w1_2 u1_2
  refine (FnOk.truthL Tryz.func8 (by rfl) (by rfl) (Fn.vl20_VecEach.ok k) (x:=(a0,a1_0,a1_1,a1_2)) hk W #[.int .i64 a0,.agg #[.int .i64 a1_0,.slice s1_1 len1_1 cap1_1,.slice s1_2 len1_2 cap1_2]] ⟨⟨rfl,inK_wf w0,by simp,by simp⟩,⟨_,rfl,⟨rfl,inK_wf w1_0,by simp,by simp⟩,z1_1,z1_2,trivial⟩,trivial⟩).mono fun e W' ⟨he,bel⟩=>?_
  subst he
  exact ⟨_,rfl,_,_,_,[],_,[],hW',trodAll_mk1 (shut_bool Tryz.underlying4 _),(trodAll_cons_mk (shut_int Tryz.underlying3 w0) (trodAll_cons_mk (Below.trod laidOut (by kernel_rfl) (of_decide_eq_true (by kernel_rfl)) k1 bel lt1) trodAll_mk0)),rfl,bel.frame _,fun h=>by cases h⟩
theorem over:Rows.vecEachRow.holds Tryz.pinned (OpenSpec.ofChange Rows.vecEachSpec):=
  OpenClaim.holds_of_wide 8 Tryz.f8 rfl rfl rfl rfl rfl rfl rfl ⟨rfl,rfl,rfl,rfl,rfl⟩ rfl rfl rfl rfl rfl (by kernel_rfl) Tryz.func8 (by kernel_rfl)
    (of_decide_eq_true (by kernel_rfl)) (by unfold Func.isWrapper;first | (rw [if_pos (by decide +kernel)];kernel_rfl) | (rw [if_neg (by decide +kernel)];exact ⟨rfl,rfl⟩))
    (fun os started H enc _=>lifted os started H enc)
theorem proved:Rows.VecEachSaid:=over
end Go.Proofs.YtbpcfhhcoklinaaGreat.vecEach
namespace Go.Proofs.YtbpcfhhcoklinaaGreat
theorem vecEach_holds:Rows.VecEachSaid:=vecEach.proved
end Go.Proofs.YtbpcfhhcoklinaaGreat
