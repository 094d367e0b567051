-- Written by a program of this session out of its own texts (wip/tools/link.py).
import Derived.Below
import Derived.ChangeKeysEq
import Derived.Deep.MidRow
import Derived.Deep.RegionHeld3
import Derived.Great.BuildSlice
import Derived.IntWalk
import Derived.KernelRfl
import Derived.LaidEql
import Derived.Laws.Bits64
import Derived.Laws.BitsLemmas
import Derived.Laws.BytesArg
import Derived.Laws.IdiomCopy
import Derived.Laws.OwnMore
import Derived.Laws.Rows
import Derived.Laws.Slices
import Derived.Laws.StructEq
import Derived.Laws.Tables
import Derived.Lib.BitFns
import Derived.Lib.Slices
import Derived.Lib.Small
import Derived.Lib.Strings
import Derived.Lib.Walk
import Derived.LoopIn
import Derived.LoopNIn
import Derived.Maps.AppendAt
import Derived.OrdersHeld
import Derived.OwnWalkIn
import Derived.RangeFuncBound
import Derived.RangeFuncCalls
import Derived.RangeFuncLeaves
import Derived.RangeFuncNested
import Derived.RowKit
import Derived.Scope
import Derived.Shelf.Abstract
import Derived.Shelf.RegionOpen
import Derived.Shelf.Spec.BitsCarry
import Derived.TacticsInMore
import Derived.Test.YthofoolgbngobaaProg
import Derived.WalkKit
import Derived.Test.YthofoolgbngobaaCTopPairs9
import Derived.Test.YthofoolgbngobaaCTopPairs12
import Derived.Test.YthofoolgbngobaaCTopPairs13
set_option maxRecDepth 100000
set_option linter.unusedVariables false
noncomputable section
namespace Go.Proofs.Ythofoolgbngobaa.Fn
open Go Go.RowKit Go.Proofs.Ythofoolgbngobaa.Ab
noncomputable def S92 : RSig := ⟨some ⟨[.int .i64, .bool, .int .i64], some (.u64, 16)⟩, 134, false, false, [.s, .s], [(.rd .u64), (.rd .u64)], none, 0, false, [.s], [.err], true⟩
noncomputable def E92 (gg : Nat) : En := enR Go.Proofs.Try.prog 62 Go.Proofs.Try.f92.ntmps [52] S92 gg
def vec_Into.l0 (k : Nat) : (Int × Bool × Int × List Int) → List (Int × Int) → Option ((Int × Bool × Int × List Int) × Unit × Option Int)
  | c, [] => some (c, (), none)
  | c, (p, q) :: l => (accum_Acc_Put.f k c.1 c.2.1 c.2.2.1 c.2.2.2 p q).bind fun t => match t.2.2 with
    | none => vec_Into.l0 k t.1 l
    | some e => some (t.1, (), some e)
def vec_Into.f (k : Nat) (c0 : Int) (c1 : Bool) (c2 : Int) (c3 : List Int) (l1 : List Int) (l2 : List Int) : Option ((Int × Bool × Int × List Int) × Unit × Option Int) :=
  if l1.length = l2.length then (accum_Acc_State.f c0 c1 c2 c3).bind fun t => if (l1.length : Int) > wrap64 (2147483647 - t.2.2.2.2.1) then some ((c0, c1, c2, c3), (), some 11) else vec_Into.l0 k (c0, c1, c2, c3) (l1.zip l2) else some ((c0, c1, c2, c3), (), some 15)
--@ok
noncomputable def vec_Into.c (k : Nat) : RCon := S92.con fun x y => vec_Into.f k x.1 x.2.1 x.2.2.1 x.2.2.2 y.1 y.2
def vec_Into.put (k : Nat) (c : Int × Bool × Int × List Int) (p q : Int) : Option ((Int × Bool × Int × List Int) × Option Int) := (accum_Acc_Put.f k c.1 c.2.1 c.2.2.1 c.2.2.2 p q).map fun t => (t.1, t.2.2)
theorem vec_Into.runs (k : Nat) : ∀ (l : List (Int × Int)) (c : Int × Bool × Int × List Int) (r : (Int × Bool × Int × List Int) × Unit × Option Int), vec_Into.l0 k c l = some r → Rng.runL (vec_Into.put k) c l = some (r.1, r.2.2)
  | [], c, r, h => by
    simp only [vec_Into.l0] at h
    injection h with h
    subst h
    rfl
  | (p, q) :: l, c, r, h => by
    simp only [vec_Into.l0] at h
    cases hp : accum_Acc_Put.f k c.1 c.2.1 c.2.2.1 c.2.2.2 p q with
    | none => rw [hp] at h; cases h
    | some t =>
      rw [hp] at h
      simp only [Option.bind_some] at h
      have e1 : vec_Into.put k c p q = some (t.1, t.2.2) := by unfold vec_Into.put; rw [hp]; rfl
      simp only [Rng.runL, e1]
      cases ht : t.2.2 with
      | none =>
        simp only [ht] at h
        exact vec_Into.runs k l _ _ h
      | some e =>
        simp only [ht] at h
        injection h with h
        subst h
        rfl
theorem vec_Into.move {eT g t : Nat} {W W' : World} {ok ok' : Nat → Prop} {x : LT [.int .i64, .bool, .int .i64] (some (.u64, 16))} (he : W'.heap[g]? = W.heap[g]?) (h : BlkIs (C0 eT W ok) g t [.int .i64, .bool, .int .i64] (some (.u64, 16)) x) : BlkIs (C0 eT W' ok') g t [.int .i64, .bool, .int .i64] (some (.u64, 16)) x := by
  obtain ⟨h1, us, ls, h2, h3, h4⟩ := h
  have h2' : W'.heap[g]? = some (.cells (us ++ ls).toArray t (0, 0)) := he.trans h2
  have hs := (Array.getElem?_eq_some_iff.1 h2').1
  match us, h3, h2' with
  | [u0, u1, u2], h3, h2' => exact ⟨hs, [u0, u1, u2], ls, h2', ⟨h3.1, h3.2.1, h3.2.2.1, trivial⟩, h4⟩
  | [], h3, _ => exact h3.elim
  | [_], h3, _ => exact h3.2.elim
  | [_, _], h3, _ => exact h3.2.2.elim
  | _ :: _ :: _ :: _ :: _, h3, _ => exact h3.2.2.2.elim
theorem vec_Into.ok (k : Nat) : FnOkR Go.Proofs.Try.prog (E92 0).eT 92 (vec_Into.c k) := by
  intro x y r w ok g v0s vs hF hrg hrcv hv
  obtain ⟨c0, c1, c2, c3⟩ := x
  obtain ⟨a, b⟩ := y
  obtain ⟨hblk, rfl⟩ := hrcv
  obtain ⟨l⟩ := vs
  match l, hv with
  | [va, vb], hv =>
    obtain ⟨⟨A, ca, rfl, ha1, ha2, ha3⟩, ⟨B, cb, rfl, hb1, hb2, hb3⟩, -⟩ := hv
    have hok : ¬ ok g := hrg rfl
    have hF' : vec_Into.f k c0 c1 c2 c3 a b = some r := hF
    have hst : ∀ t, accum_Acc_State.f c0 c1 c2 c3 = some t → ∀ W, BlkIs (C0 (E92 0).eT W ok) g S92.rT [.int .i64, .bool, .int .i64] (some (.u64, 16)) ((c0, c1, c2, c3) : Int × Bool × Int × List Int) →
        Calls Go.Proofs.Try.prog 124 #[.pointer (some ⟨g, 0, none⟩)] W fun e W' => (∃ v0 v1 v3, e = .returned (.agg #[v0, v1, .int .i64 t.2.2.2.2.1, v3])) ∧ Bw [] W W' := by
      intro t ht W hW
      have h := accum_Acc_State.ok (c0, c1, c2, c3) () t W (fun _ => False) g [.pointer (some ⟨g, 0, none⟩)] #[] ht (fun _ h => h) ⟨vec_Into.move rfl hW, rfl⟩ trivial
      refine (Rng.Calls.of_ok (enters_of Go.Proofs.Try.func124 (by kernel_rfl) rfl) h).mono ?_
      rintro e W' ⟨v, rfl, q, us, ovs, ⟨hq, ho⟩, hu, ht2, -, hbw⟩
      subst ho
      obtain ⟨t0, t1, n, nr, tt, wl⟩ := t
      match us, hu with
      | [u], hu =>
        obtain ⟨⟨ls, rfl, hl⟩, -⟩ := hu
        obtain ⟨ls⟩ := ls
        match ls, hl with
        | [u0, u1, u2, u3], hl =>
          obtain ⟨-, -, ⟨rfl, -⟩, -, -⟩ := hl
          have hv : v = .agg #[u0, u1, .int .i64 tt, u3] := by injection ht2 with ht2; exact ht2.symm
          subst hv
          exact ⟨⟨u0, u1, u3, rfl⟩, hbw⟩
    have hput : ∀ (x : Int × Bool × Int × List Int) (p q : Int) (y : Int × Bool × Int × List Int) (e : Option Int) (W : World), inK .u64 p → inK .u64 q → vec_Into.put k x p q = some (y, e) → BlkIs (C0 (E92 0).eT W ok) g S92.rT [.int .i64, .bool, .int .i64] (some (.u64, 16)) x →
        Calls Go.Proofs.Try.prog 52 #[.pointer (some ⟨g, 0, none⟩), .int .u64 p, .int .u64 q] W fun e' W' => e' = .returned (errV 62 e) ∧ Rng.Ek e ∧ BlkIs (C0 (E92 0).eT W' ok) g S92.rT [.int .i64, .bool, .int .i64] (some (.u64, 16)) y ∧ Bw [g] W W' := by
      intro x p q y e W hp hq hpe hW
      unfold vec_Into.put at hpe
      cases ht : accum_Acc_Put.f k x.1 x.2.1 x.2.2.1 x.2.2.2 p q with
      | none => rw [ht] at hpe; cases hpe
      | some t =>
        rw [ht] at hpe
        injection hpe with hpe
        injection hpe with h1 h2
        subst h1 h2
        have h := accum_Acc_Put.ok k x (p, q) t W (fun _ => False) g [.pointer (some ⟨g, 0, none⟩)] #[.int .u64 p, .int .u64 q] ht (fun _ h => h) ⟨vec_Into.move rfl hW, rfl⟩ ⟨⟨rfl, hp, by simp, by simp⟩, ⟨rfl, hq, by simp, by simp⟩, trivial⟩
        refine (Rng.Calls.of_ok (enters_of Go.Proofs.Try.func52 (by kernel_rfl) rfl) h).mono ?_
        rintro e W' ⟨v, rfl, q, us, ovs, ⟨hq, ho⟩, hu, ht2, hc, hbw⟩
        subst ho
        obtain ⟨t0, t1, e⟩ := t
        match us, hu with
        | [u], hu =>
          obtain ⟨⟨rfl, hek⟩, -⟩ := hu
          have hv : v = errV 62 e := by injection ht2 with ht2; exact ht2.symm
          subst hv
          exact ⟨rfl, hek, vec_Into.move rfl hc, hbw⟩
    have main : ∀ (tm : Int), (a.length = b.length → ∀ W, BlkIs (C0 (E92 0).eT W ok) g S92.rT [.int .i64, .bool, .int .i64] (some (.u64, 16)) ((c0, c1, c2, c3) : Int × Bool × Int × List Int) → Calls Go.Proofs.Try.prog 124 #[.pointer (some ⟨g, 0, none⟩)] W fun e W' => (∃ v0 v1 v3, e = .returned (.agg #[v0, v1, .int .i64 tm, v3])) ∧ Bw [] W W') →
        Rng.intoR tm (vec_Into.put k) (c0, c1, c2, c3) a b = some (r.1, r.2.2) →
        CallOk Go.Proofs.Try.prog 92 ([Value.pointer (some ⟨g, 0, none⟩)].toArray ++ #[.slice A a.length ca, .slice B b.length cb]) w fun v w' => ∃ (q : Option Nat) (us ovs : List Value), OwIs (C0 (E92 0).eT w' fun p => okRes true w ok p ∧ q ≠ some p) w.heap.size q 0 none r.2.1 ovs ∧
          V1s (C0 (E92 0).eT w' fun p => okRes true w ok p ∧ q ≠ some p) (group [.s] (TT.mk [.err] r.2.2)) us ∧ tupIs false (ovs ++ us) v ∧ BlkIs (C0 (E92 0).eT w' fun p => okRes true w ok p ∧ q ≠ some p) g S92.rT [.int .i64, .bool, .int .i64] (some (.u64, 16)) r.1 ∧ Bw [g] w w' := by
      intro tm hs hr
      refine .inl ⟨enters_of Go.Proofs.Try.func92 (by kernel_rfl) rfl _ _, ?_⟩
      refine (Rng.into_calls (fun x W => BlkIs (C0 (E92 0).eT W ok) g S92.rT [.int .i64, .bool, .int .i64] (some (.u64, 16)) x) g (fun x W W' he h => vec_Into.move he h) ?_ tm (c0, c1, c2, c3) a b hs (vec_Into.put k) hput A B ca cb w ok hok ha2.1 hb2.1 ha3 hb3 ha2.2 hb2.2 hblk r.1 r.2.2 hr).mono ?_
      · rintro x W ⟨h1, us, ls, h2, -, -⟩
        refine ⟨h1, fun o ho => ?_⟩
        have h3 := ho.symm.trans h2
        injection h3 with h3
        rw [h3]
        rfl
      · rintro e' W' ⟨rfl, hek, h1, h2⟩
        exact ⟨_, rfl, none, [errV 62 r.2.2], [], ⟨rfl, rfl⟩, ⟨⟨rfl, hek⟩, trivial⟩, rfl, vec_Into.move rfl h1, h2⟩
    unfold vec_Into.f at hF'
    by_cases hl : a.length = b.length
    · rw [if_pos hl] at hF'
      cases ht : accum_Acc_State.f c0 c1 c2 c3 with
      | none => rw [ht] at hF'; cases hF'
      | some t =>
        rw [ht] at hF'
        simp only [Option.bind_some] at hF'
        refine main t.2.2.2.2.1 (fun _ => hst t ht) ?_
        unfold Rng.intoR
        rw [if_pos hl]
        by_cases hf : (a.length : Int) > wrap64 (2147483647 - t.2.2.2.2.1)
        · rw [if_pos hf] at hF' ⊢
          injection hF' with hF'
          subst hF'
          rfl
        · rw [if_neg hf] at hF' ⊢
          exact vec_Into.runs k _ _ _ hF'
    · rw [if_neg hl] at hF'
      injection hF' with hF'
      subst hF'
      refine main 0 (fun h => absurd h hl) ?_
      unfold Rng.intoR
      rw [if_neg hl]
      rfl
  | [], hv => exact hv.elim
  | [_], hv => exact hv.2.elim
  | _ :: _ :: _ :: _, hv => exact hv.2.2.elim
noncomputable def E47 : En := ⟨Go.Proofs.Try.prog, 62, Go.Proofs.Try.f47.ntmps, none, false, [92]⟩
noncomputable def S47 : Sig := ⟨[.s, .s, .s], [(.int .i64), (.rd .u64), (.rd .u64)], true, [.s, .s], [(.int .u64), .err], false⟩
noncomputable def B47 : Go.Code := Go.Proofs.Try.f47.body.get!
def vec_Dot.f (k : Nat) (a0 : Int) (l1 : List Int) (l2 : List Int) : Option (Int × Option Int) := (accum_New.f k a0).bind fun t100 => (if t100.2.1.1 = true then (if t100.2.2.isNone = true then ((vec_Into.f k t100.2.1.2.1 t100.2.1.2.2.1 t100.2.1.2.2.2.1 t100.2.1.2.2.2.2 l1 l2).bind fun t101 => (if t101.2.2.isNone = true then ((accum_Acc_Round.f k t101.1.1 t101.1.2.1 t101.1.2.2.1 t101.1.2.2.2).bind fun t102 => (some (t102.2.2, none))) else (some (0, some (t101.2.2.getD 0))))) else (some (0, some (t100.2.2.getD 0)))) else (if t100.2.2.isNone = true then (none) else (some (0, some (t100.2.2.getD 0)))))
--@ok
noncomputable def vec_Dot.c (k : Nat) : Con := S47.con fun x => vec_Dot.f k x.1 x.2.1 x.2.2
noncomputable def vec_Dot.G (k : Nat) : List (Go.FuncId × Cn) := [(51, .r (accum_New.c k)), (55, .r (accum_Acc_Round.c k)), (92, .r (vec_Into.c k))]
noncomputable def vec_Dot.cuts : List (Cut (TT S47.sb)) := []
theorem vec_Dot.w (k : Nat) (x : TT S47.sa) : walk E47 (vec_Dot.G k) (cutsAt E47 k vec_Dot.cuts) (retE E47 Go.Proofs.Try.f47.results.toList S47) 4000 true [([], .code B47)] (St0 S47 x) = vec_Dot.f k x.1 x.2.1 x.2.2 := by kernel_rfl
theorem vec_Dot.ok (k : Nat) : FnOk Go.Proofs.Try.prog E47.eT 47 (vec_Dot.c k) := FnOk.walk (E := E47) (body := B47) Go.Proofs.Try.func47 rfl (by rfl) Go.Proofs.Try.ntmps47 rfl S47 rfl (fun k x => vec_Dot.f k x.1 x.2.1 x.2.2) vec_Dot.G (fun k => ⟨accum_New.ok k, accum_Acc_Round.ok k, vec_Into.ok k, trivial⟩) 4000 vec_Dot.cuts trivial (fun k x r h => (vec_Dot.w k x).trans h) k
noncomputable def E49 : En := ⟨Go.Proofs.Try.prog, 62, Go.Proofs.Try.f49.ntmps, none, false, []⟩
noncomputable def S49 : Sig := ⟨[.s, .s, .s, .s, .s], [(.int .i64), (.int .u64), (.int .u64), (.int .u64), (.int .u64)], true, [.s, .s], [(.int .u64), .err], false⟩
noncomputable def B49 : Go.Code := Go.Proofs.Try.f49.body.get!
def fuse_Pair.f (k : Nat) (a0 : Int) (a1 : Int) (a2 : Int) (a3 : Int) (a4 : Int) : Option (Int × Option Int) := (fuse_product.f k a0 a1 a2).bind fun t100 => (if t100.2.2.2.2.2.2.isNone = true then ((fuse_product.f k a0 a3 a4).bind fun t101 => ((broad_Sum.f k t100.1 t100.2.1 t100.2.2.1 t100.2.2.2.1 t100.2.2.2.2.1 t100.2.2.2.2.2.1 t101.1 t101.2.1 t101.2.2.1 t101.2.2.2.1 t101.2.2.2.2.1 t101.2.2.2.2.2.1).bind fun t102 => ((round_Round.f k a0 t102.1 t102.2.1 t102.2.2.1 t102.2.2.2.1 t102.2.2.2.2.1 t102.2.2.2.2.2).bind fun t103 => (some (t103.1, t103.2))))) else (some (0, some (t100.2.2.2.2.2.2.getD 0))))
--@ok
noncomputable def fuse_Pair.c (k : Nat) : Con := S49.con fun x => fuse_Pair.f k x.1 x.2.1 x.2.2.1 x.2.2.2.1 x.2.2.2.2
noncomputable def fuse_Pair.G (k : Nat) : List (Go.FuncId × Cn) := [(73, .f (round_Round.c k)), (76, .f (fuse_product.c k)), (78, .f (broad_Sum.c k))]
noncomputable def fuse_Pair.cuts : List (Cut (TT S49.sb)) := []
theorem fuse_Pair.w (k : Nat) (x : TT S49.sa) : walk E49 (fuse_Pair.G k) (cutsAt E49 k fuse_Pair.cuts) (retE E49 Go.Proofs.Try.f49.results.toList S49) 4000 true [([], .code B49)] (St0 S49 x) = fuse_Pair.f k x.1 x.2.1 x.2.2.1 x.2.2.2.1 x.2.2.2.2 := by kernel_rfl
theorem fuse_Pair.ok (k : Nat) : FnOk Go.Proofs.Try.prog E49.eT 49 (fuse_Pair.c k) := FnOk.walk (E := E49) (body := B49) Go.Proofs.Try.func49 rfl (by rfl) Go.Proofs.Try.ntmps49 rfl S49 rfl (fun k x => fuse_Pair.f k x.1 x.2.1 x.2.2.1 x.2.2.2.1 x.2.2.2.2) fuse_Pair.G (fun k => ⟨round_Round.ok k, fuse_product.ok k, broad_Sum.ok k, trivial⟩) 4000 fuse_Pair.cuts trivial (fun k x r h => (fuse_Pair.w k x).trans h) k
noncomputable def S94 : RSig := ⟨some ⟨[.int .i64, .bool, .int .i64], some (.u64, 16)⟩, 134, false, false, [.s], [(.int .u64)], none, 0, false, [.s], [.err], true⟩
noncomputable def E94 (gg : Nat) : En := enR Go.Proofs.Try.prog 62 Go.Proofs.Try.f94.ntmps [95] S94 gg
noncomputable def B94 : Go.Code := Go.Proofs.Try.f94.body.get!
def accum_Acc_Add.f (k : Nat) (c0 : Int) (c1 : Bool) (c2 : Int) (c3 : List Int) (a1 : Int) : Option (((Int × Bool × Int × List Int)) × Unit × (Option Int)) := if 0 ≤ (wrap64 (c0 - 2)) then ((accum_Acc_deposit.f k c0 c1 c2 c3 a1 (shl .u64 1 (wrap64 (c0 - 2))) false).bind fun t100 => (some ((t100.1.1, t100.1.2.1, t100.1.2.2.1, t100.1.2.2.2), (), t100.2.2))) else (none)
--@ok
noncomputable def accum_Acc_Add.c (k : Nat) : RCon := S94.con fun x y => accum_Acc_Add.f k x.1 x.2.1 x.2.2.1 x.2.2.2 y
noncomputable def accum_Acc_Add.G (k : Nat) : List (Go.FuncId × Cn) := [(95, .r (accum_Acc_deposit.c k))]
noncomputable def accum_Acc_Add.cuts : List (Cut (RSig.R S94)) := []
theorem accum_Acc_Add.w (gg : Nat) (k : Nat) (x : RcT S94.rL S94.win) (y : TT S94.sa) : walk (E94 gg) (accum_Acc_Add.G k) (cutsAt (E94 gg) k accum_Acc_Add.cuts) (retR (E94 gg) Go.Proofs.Try.f94.results.toList S94) 4000 true [([], .code B94)] (St0R S94 x y) = accum_Acc_Add.f k x.1 x.2.1 x.2.2.1 x.2.2.2 y := by kernel_rfl
theorem accum_Acc_Add.ok (k : Nat) : FnOkR Go.Proofs.Try.prog (E94 0).eT 94 (accum_Acc_Add.c k) := FnOkR.walk (P := (E94 0).P) (eT := (E94 0).eT) (N := (E94 0).N) (wf := (E94 0).wf) (body := B94) Go.Proofs.Try.func94 rfl (by rfl) Go.Proofs.Try.ntmps94 S94 (by rfl) (fun k x y => accum_Acc_Add.f k x.1 x.2.1 x.2.2.1 x.2.2.2 y) accum_Acc_Add.G (fun k => ⟨accum_Acc_deposit.ok k, trivial⟩) 4000 accum_Acc_Add.cuts (fun gg => trivial) (fun gg k x y r h => (accum_Acc_Add.w gg k x y).trans h) k
noncomputable def E50 : En := ⟨Go.Proofs.Try.prog, 62, Go.Proofs.Try.f50.ntmps, none, false, [94]⟩
noncomputable def S50 : Sig := ⟨[.s, .s], [(.int .i64), (.rd .u64)], true, [.s, .s], [(.int .u64), .err], false⟩
noncomputable def B50 : Go.Code := Go.Proofs.Try.f50.body.get!
def vec_Sum.l0 : Nat → List Int → Int → Int → Int → Bool → Int → List Int → Option (Int × Option Int)
 | 0, _, _, _, _, _, _, _ => none
 | k + 1, x19, x20, x21, x6000, x6001, x6002, x6900 => if x21 < x20 then (if 0 ≤ x21 then (if x21 < (nI x19.length) then ((accum_Acc_Add.f k x6000 ((x6001, x6002).1) ((x6001, x6002).2) x6900 (rd x19 x21)).bind fun t101 => (if t101.2.2.isNone = true then (vec_Sum.l0 k x19 x20 (wrap64 (x21 + 1)) t101.1.1 t101.1.2.1 t101.1.2.2.1 t101.1.2.2.2) else (some (0, some (t101.2.2.getD 0))))) else (none)) else (none)) else ((accum_Acc_Round.f k x6000 ((x6001, x6002).1) ((x6001, x6002).2) x6900).bind fun t102 => (some (t102.2.2, none)))
def vec_Sum.f (k : Nat) (a0 : Int) (l1 : List Int) : Option (Int × Option Int) := (accum_New.f k a0).bind fun t100 => (if t100.2.1.1 = true then (if t100.2.2.isNone = true then (vec_Sum.l0 k l1 (nI l1.length) 0 t100.2.1.2.1 t100.2.1.2.2.1 t100.2.1.2.2.2.1 t100.2.1.2.2.2.2) else (some (0, some (t100.2.2.getD 0)))) else (if t100.2.2.isNone = true then (none) else (some (0, some (t100.2.2.getD 0)))))
--@ok
noncomputable def vec_Sum.c (k : Nat) : Con := S50.con fun x => vec_Sum.f k x.1 x.2
noncomputable def vec_Sum.G (k : Nat) : List (Go.FuncId × Cn) := [(51, .r (accum_New.c k)), (55, .r (accum_Acc_Round.c k)), (94, .r (accum_Acc_Add.c k))]
noncomputable def vec_Sum.cuts : List (Cut (TT S50.sb)) := [⟨[6, 4, 1, 0, 1, 1, 1], [.sc 19 (.rd .u64), .sc 20 (.int .i64), .sc 21 (.int .i64), .mbw (some 6) 134 [.int .i64, .bool, .int .i64] .u64 16 []], fun k x => vec_Sum.l0 k x.1 x.2.1 x.2.2.1 x.2.2.2.1 x.2.2.2.2.1 x.2.2.2.2.2.1 x.2.2.2.2.2.2⟩]
theorem vec_Sum.w0 (k : Nat) (x : ET [.sc 19 (.rd .u64), .sc 20 (.int .i64), .sc 21 (.int .i64), .mbw (some 6) 134 [.int .i64, .bool, .int .i64] .u64 16 []]) : walk E50 (vec_Sum.G k) (cutsAt E50 k vec_Sum.cuts) (retE E50 Go.Proofs.Try.f50.results.toList S50) 4000 true (stackAt B50 [6, 4, 1, 0, 1, 1, 1]) (mkE [.sc 19 (.rd .u64), .sc 20 (.int .i64), .sc 21 (.int .i64), .mbw (some 6) 134 [.int .i64, .bool, .int .i64] .u64 16 []] x St.nil) = vec_Sum.l0 (k + 1) x.1 x.2.1 x.2.2.1 x.2.2.2.1 x.2.2.2.2.1 x.2.2.2.2.2.1 x.2.2.2.2.2.2 := by kernel_rfl
theorem vec_Sum.w (k : Nat) (x : TT S50.sa) : walk E50 (vec_Sum.G k) (cutsAt E50 k vec_Sum.cuts) (retE E50 Go.Proofs.Try.f50.results.toList S50) 4000 true [([], .code B50)] (St0 S50 x) = vec_Sum.f k x.1 x.2 := by kernel_rfl
theorem vec_Sum.ok (k : Nat) : FnOk Go.Proofs.Try.prog E50.eT 50 (vec_Sum.c k) := FnOk.walk (E := E50) (body := B50) Go.Proofs.Try.func50 rfl (by rfl) Go.Proofs.Try.ntmps50 rfl S50 rfl (fun k x => vec_Sum.f k x.1 x.2) vec_Sum.G (fun k => ⟨accum_New.ok k, accum_Acc_Round.ok k, accum_Acc_Add.ok k, trivial⟩) 4000 vec_Sum.cuts ⟨⟨fun _ => rfl, fun k x q h => (vec_Sum.w0 k x).trans h⟩, trivial⟩ (fun k x r h => (vec_Sum.w k x).trans h) k
noncomputable def S53 : RSig := ⟨some ⟨[.int .i64, .bool, .int .i64], some (.u64, 16)⟩, 134, false, false, [.s, .s], [(.int .u64), (.int .u64)], none, 0, false, [.s], [.err], true⟩
noncomputable def E53 (gg : Nat) : En := enR Go.Proofs.Try.prog 62 Go.Proofs.Try.f53.ntmps [95] S53 gg
noncomputable def B53 : Go.Code := Go.Proofs.Try.f53.body.get!
def accum_Acc_Take.f (k : Nat) (c0 : Int) (c1 : Bool) (c2 : Int) (c3 : List Int) (a1 : Int) (a2 : Int) : Option (((Int × Bool × Int × List Int)) × Unit × (Option Int)) := (accum_Acc_deposit.f k c0 c1 c2 c3 a1 a2 true).bind fun t100 => (some ((t100.1.1, t100.1.2.1, t100.1.2.2.1, t100.1.2.2.2), (), t100.2.2))
--@ok
noncomputable def accum_Acc_Take.c (k : Nat) : RCon := S53.con fun x y => accum_Acc_Take.f k x.1 x.2.1 x.2.2.1 x.2.2.2 y.1 y.2
noncomputable def accum_Acc_Take.G (k : Nat) : List (Go.FuncId × Cn) := [(95, .r (accum_Acc_deposit.c k))]
noncomputable def accum_Acc_Take.cuts : List (Cut (RSig.R S53)) := []
theorem accum_Acc_Take.w (gg : Nat) (k : Nat) (x : RcT S53.rL S53.win) (y : TT S53.sa) : walk (E53 gg) (accum_Acc_Take.G k) (cutsAt (E53 gg) k accum_Acc_Take.cuts) (retR (E53 gg) Go.Proofs.Try.f53.results.toList S53) 4000 true [([], .code B53)] (St0R S53 x y) = accum_Acc_Take.f k x.1 x.2.1 x.2.2.1 x.2.2.2 y.1 y.2 := by kernel_rfl
theorem accum_Acc_Take.ok (k : Nat) : FnOkR Go.Proofs.Try.prog (E53 0).eT 53 (accum_Acc_Take.c k) := FnOkR.walk (P := (E53 0).P) (eT := (E53 0).eT) (N := (E53 0).N) (wf := (E53 0).wf) (body := B53) Go.Proofs.Try.func53 rfl (by rfl) Go.Proofs.Try.ntmps53 S53 (by rfl) (fun k x y => accum_Acc_Take.f k x.1 x.2.1 x.2.2.1 x.2.2.2 y.1 y.2) accum_Acc_Take.G (fun k => ⟨accum_Acc_deposit.ok k, trivial⟩) 4000 accum_Acc_Take.cuts (fun gg => trivial) (fun gg k x y r h => (accum_Acc_Take.w gg k x y).trans h) k
noncomputable def E54 : En := ⟨Go.Proofs.Try.prog, 62, Go.Proofs.Try.f54.ntmps, none, false, []⟩
noncomputable def S54 : Sig := ⟨[.s, .s, .s, .s, .s], [(.int .i64), (.int .u64), (.int .u64), (.int .u64), (.int .u64)], true, [.s, .s], [(.int .u64), .err], false⟩
noncomputable def B54 : Go.Code := Go.Proofs.Try.f54.body.get!
def fuse_Cross.f (k : Nat) (a0 : Int) (a1 : Int) (a2 : Int) (a3 : Int) (a4 : Int) : Option (Int × Option Int) := (fuse_Pair.f k a0 a1 a2 (IntKind.u64.wrap (-a3)) a4).bind fun t100 => (some (t100.1, t100.2))
--@ok
noncomputable def fuse_Cross.c (k : Nat) : Con := S54.con fun x => fuse_Cross.f k x.1 x.2.1 x.2.2.1 x.2.2.2.1 x.2.2.2.2
noncomputable def fuse_Cross.G (k : Nat) : List (Go.FuncId × Cn) := [(49, .f (fuse_Pair.c k))]
noncomputable def fuse_Cross.cuts : List (Cut (TT S54.sb)) := []
theorem fuse_Cross.w (k : Nat) (x : TT S54.sa) : walk E54 (fuse_Cross.G k) (cutsAt E54 k fuse_Cross.cuts) (retE E54 Go.Proofs.Try.f54.results.toList S54) 4000 true [([], .code B54)] (St0 S54 x) = fuse_Cross.f k x.1 x.2.1 x.2.2.1 x.2.2.2.1 x.2.2.2.2 := by kernel_rfl
theorem fuse_Cross.ok (k : Nat) : FnOk Go.Proofs.Try.prog E54.eT 54 (fuse_Cross.c k) := FnOk.walk (E := E54) (body := B54) Go.Proofs.Try.func54 rfl (by rfl) Go.Proofs.Try.ntmps54 rfl S54 rfl (fun k x => fuse_Cross.f k x.1 x.2.1 x.2.2.1 x.2.2.2.1 x.2.2.2.2) fuse_Cross.G (fun k => ⟨fuse_Pair.ok k, trivial⟩) 4000 fuse_Cross.cuts trivial (fun k x r h => (fuse_Cross.w k x).trans h) k
noncomputable def E7 : En := ⟨Go.Proofs.Try.prog, 62, Go.Proofs.Try.f7.ntmps, none, false, [52, 53]⟩
noncomputable def S7 : Sig := ⟨[.s, .g 4], [(.int .i64), (.int .u64), (.int .u64), (.int .u64), (.int .u64)], false, [.s], [.bool], false⟩
noncomputable def B7 : Go.Code := Go.Proofs.Try.f7.body.get!
mutual
def verniertop_TopPairs.l0 : Nat → Int → Int → Int → Int → Int → Int → Int → Option (Bool)
 | 0, _, _, _, _, _, _, _ => none
 | k + 1, x5, x6, x7, x3000, x3001, x3002, x3003 => if x7 < (wrap64 (x5 - 2)) then (verniertop_TopPairs.l0 k x5 (IntKind.u64.wrap (2 * x6)) (wrap64 (x7 + 1)) x3000 x3001 x3002 x3003) else ((vec_Dot.f k x5 ([x3000] : List Int) ([x3001] : List Int)).bind fun t101 => ((prod_Mul.f k x5 x3000 x3001).bind fun t102 => (if t101.2.isNone = true then (if t102.2.isNone = true then (verniertop_TopPairs.j1 k x5 x6 (t101.1 != t102.1) x3000 x3001 x3002 x3003) else (verniertop_TopPairs.j1 k x5 x6 true x3000 x3001 x3002 x3003)) else (verniertop_TopPairs.j1 k x5 x6 true x3000 x3001 x3002 x3003))))
def verniertop_TopPairs.j1 : Nat → Int → Int → Bool → Int → Int → Int → Int → Option (Bool)
 | 0, _, _, _, _, _, _, _ => none
 | k + 1, x5, x6, x55, x3000, x3001, x3002, x3003 => if x55 = true then (some false) else ((vec_Dot.f k x5 ([x3002, x3000] : List Int) ([x6, x3001] : List Int)).bind fun t103 => ((fuse_Fma.f k x5 x3000 x3001 x3002).bind fun t104 => (if t103.2.isNone = true then (if t104.2.isNone = true then (verniertop_TopPairs.j2 k x5 (t103.1 != t104.1) x3000 x3001 x3002 x3003) else (verniertop_TopPairs.j2 k x5 true x3000 x3001 x3002 x3003)) else (verniertop_TopPairs.j2 k x5 true x3000 x3001 x3002 x3003))))
def verniertop_TopPairs.j2 : Nat → Int → Bool → Int → Int → Int → Int → Option (Bool)
 | 0, _, _, _, _, _, _ => none
 | k + 1, x5, x91, x3000, x3001, x3002, x3003 => if x91 = true then (some false) else ((vec_Dot.f k x5 ([x3000, x3002] : List Int) ([x3001, x3003] : List Int)).bind fun t105 => ((fuse_Pair.f k x5 x3000 x3001 x3002 x3003).bind fun t106 => (if t105.2.isNone = true then (if t106.2.isNone = true then (verniertop_TopPairs.j3 k x5 (t105.1 != t106.1) x3000 x3001 x3002 x3003) else (verniertop_TopPairs.j3 k x5 true x3000 x3001 x3002 x3003)) else (verniertop_TopPairs.j3 k x5 true x3000 x3001 x3002 x3003))))
def verniertop_TopPairs.j3 : Nat → Int → Bool → Int → Int → Int → Int → Option (Bool)
 | 0, _, _, _, _, _, _ => none
 | k + 1, x5, x130, x3000, x3001, x3002, x3003 => if x130 = true then (some false) else ((vec_Sum.f k x5 ([x3000, x3001] : List Int)).bind fun t107 => ((sum_Add.f k x5 x3000 x3001).bind fun t108 => (if t107.2.isNone = true then (if t108.2.isNone = true then (verniertop_TopPairs.j4 k x5 (t107.1 != t108.1) x3000 x3001 x3002 x3003) else (verniertop_TopPairs.j4 k x5 true x3000 x3001 x3002 x3003)) else (verniertop_TopPairs.j4 k x5 true x3000 x3001 x3002 x3003))))
def verniertop_TopPairs.j4 : Nat → Int → Bool → Int → Int → Int → Int → Option (Bool)
 | 0, _, _, _, _, _, _ => none
 | k + 1, x5, x160, x3000, x3001, x3002, x3003 => if x160 = true then (some false) else ((accum_New.f k x5).bind fun t109 => (if t109.2.1.1 = true then (if t109.2.2.isNone = true then (verniertop_TopPairs.j5 k x5 false x3000 x3001 x3002 x3003 t109.2.1.2.1 t109.2.1.2.2.1 t109.2.1.2.2.2.1 t109.2.1.2.2.2.2) else (verniertop_TopPairs.j5 k x5 true x3000 x3001 x3002 x3003 t109.2.1.2.1 t109.2.1.2.2.1 t109.2.1.2.2.2.1 t109.2.1.2.2.2.2)) else (none)))
def verniertop_TopPairs.j5 : Nat → Int → Bool → Int → Int → Int → Int → Int → Bool → Int → List Int → Option (Bool)
 | 0, _, _, _, _, _, _, _, _, _, _ => none
 | k + 1, x5, x171, x3000, x3001, x3002, x3003, x12000, x12001, x12002, x12900 => if x171 = true then (some false) else ((accum_Acc_Put.f k x12000 ((x12001, x12002).1) ((x12001, x12002).2) x12900 x3000 x3001).bind fun t110 => ((accum_Acc_Take.f k t110.1.1 t110.1.2.1 t110.1.2.2.1 t110.1.2.2.2 x3002 x3003).bind fun t111 => ((fuse_Cross.f k x5 x3000 x3001 x3002 x3003).bind fun t112 => (if t112.2.isNone = true then (if t110.2.2.isNone = true then (if t111.2.2.isNone = true then ((accum_Acc_Round.f k t111.1.1 t111.1.2.1 t111.1.2.2.1 t111.1.2.2.2).bind fun t113 => (some (t113.2.2 == t112.1))) else (some false)) else (some false)) else (some false)))))
end
def verniertop_TopPairs.f (k : Nat) (a0 : Int) (a1_0 : Int) (a1_1 : Int) (a1_2 : Int) (a1_3 : Int) : Option (Bool) := (verniertop_wide.f k a0).bind fun t100 => (verniertop_TopPairs.l0 k t100 1 0 a1_0 a1_1 a1_2 a1_3)
--@ok
noncomputable def verniertop_TopPairs.c (k : Nat) : Con := S7.con fun x => verniertop_TopPairs.f k x.1 x.2.1 x.2.2.1 x.2.2.2.1 x.2.2.2.2
noncomputable def verniertop_TopPairs.G (k : Nat) : List (Go.FuncId × Cn) := [(22, .f (verniertop_wide.c k)), (29, .f (sum_Add.c k)), (31, .f (fuse_Fma.c k)), (47, .f (vec_Dot.c k)), (48, .f (prod_Mul.c k)), (49, .f (fuse_Pair.c k)), (50, .f (vec_Sum.c k)), (51, .r (accum_New.c k)), (52, .r (accum_Acc_Put.c k)), (53, .r (accum_Acc_Take.c k)), (54, .f (fuse_Cross.c k)), (55, .r (accum_Acc_Round.c k))]
noncomputable def verniertop_TopPairs.cuts : List (Cut (TT S7.sb)) := [⟨[6, 4, 1, 0, 1, 1, 1], [.sc 5 (.int .i64), .sc 6 (.int .u64), .sc 7 (.int .i64), .box 3 82 [.int .u64, .int .u64, .int .u64, .int .u64]], fun k x => verniertop_TopPairs.l0 k x.1 x.2.1 x.2.2.1 x.2.2.2.1 x.2.2.2.2.1 x.2.2.2.2.2.1 x.2.2.2.2.2.2⟩, ⟨[1, 0, 1, 1, 1, 1, 1, 1], [.sc 5 (.int .i64), .sc 6 (.int .u64), .sc 55 (.bool), .box 3 82 [.int .u64, .int .u64, .int .u64, .int .u64]], fun k x => verniertop_TopPairs.j1 k x.1 x.2.1 x.2.2.1 x.2.2.2.1 x.2.2.2.2.1 x.2.2.2.2.2.1 x.2.2.2.2.2.2⟩, ⟨[1, 0, 1, 1, 1, 1, 1, 1, 1, 1, 1], [.sc 5 (.int .i64), .sc 91 (.bool), .box 3 82 [.int .u64, .int .u64, .int .u64, .int .u64]], fun k x => verniertop_TopPairs.j2 k x.1 x.2.1 x.2.2.1 x.2.2.2.1 x.2.2.2.2.1 x.2.2.2.2.2⟩, ⟨[1, 0, 1, 1, 1, 1, 1, 1, 1, 1, 1, 1, 1, 1], [.sc 5 (.int .i64), .sc 130 (.bool), .box 3 82 [.int .u64, .int .u64, .int .u64, .int .u64]], fun k x => verniertop_TopPairs.j3 k x.1 x.2.1 x.2.2.1 x.2.2.2.1 x.2.2.2.2.1 x.2.2.2.2.2⟩, ⟨[1, 0, 1, 1, 1, 1, 1, 1, 1, 1, 1, 1, 1, 1, 1, 1, 1], [.sc 5 (.int .i64), .sc 160 (.bool), .box 3 82 [.int .u64, .int .u64, .int .u64, .int .u64]], fun k x => verniertop_TopPairs.j4 k x.1 x.2.1 x.2.2.1 x.2.2.2.1 x.2.2.2.2.1 x.2.2.2.2.2⟩, ⟨[1, 0, 1, 1, 1, 1, 1, 1, 1, 1, 1, 1, 1, 1, 1, 1, 1, 1, 1], [.sc 5 (.int .i64), .sc 171 (.bool), .box 3 82 [.int .u64, .int .u64, .int .u64, .int .u64], .mbw (some 12) 134 [.int .i64, .bool, .int .i64] .u64 16 []], fun k x => verniertop_TopPairs.j5 k x.1 x.2.1 x.2.2.1.1 x.2.2.1.2.1 x.2.2.1.2.2.1 x.2.2.1.2.2.2 x.2.2.2.1 x.2.2.2.2.1 x.2.2.2.2.2.1 x.2.2.2.2.2.2⟩]
theorem verniertop_TopPairs.w0 (k : Nat) (x : ET [.sc 5 (.int .i64), .sc 6 (.int .u64), .sc 7 (.int .i64), .box 3 82 [.int .u64, .int .u64, .int .u64, .int .u64]]) : walk E7 (verniertop_TopPairs.G k) (cutsAt E7 k verniertop_TopPairs.cuts) (retE E7 Go.Proofs.Try.f7.results.toList S7) 4000 true (stackAt B7 [6, 4, 1, 0, 1, 1, 1]) (mkE [.sc 5 (.int .i64), .sc 6 (.int .u64), .sc 7 (.int .i64), .box 3 82 [.int .u64, .int .u64, .int .u64, .int .u64]] x St.nil) = verniertop_TopPairs.l0 (k + 1) x.1 x.2.1 x.2.2.1 x.2.2.2.1 x.2.2.2.2.1 x.2.2.2.2.2.1 x.2.2.2.2.2.2 := by kernel_rfl
theorem verniertop_TopPairs.w1 (k : Nat) (x : ET [.sc 5 (.int .i64), .sc 6 (.int .u64), .sc 55 (.bool), .box 3 82 [.int .u64, .int .u64, .int .u64, .int .u64]]) : walk E7 (verniertop_TopPairs.G k) (cutsAt E7 k verniertop_TopPairs.cuts) (retE E7 Go.Proofs.Try.f7.results.toList S7) 4000 true (stackAt B7 [1, 0, 1, 1, 1, 1, 1, 1]) (mkE [.sc 5 (.int .i64), .sc 6 (.int .u64), .sc 55 (.bool), .box 3 82 [.int .u64, .int .u64, .int .u64, .int .u64]] x St.nil) = verniertop_TopPairs.j1 (k + 1) x.1 x.2.1 x.2.2.1 x.2.2.2.1 x.2.2.2.2.1 x.2.2.2.2.2.1 x.2.2.2.2.2.2 := by kernel_rfl
theorem verniertop_TopPairs.w2 (k : Nat) (x : ET [.sc 5 (.int .i64), .sc 91 (.bool), .box 3 82 [.int .u64, .int .u64, .int .u64, .int .u64]]) : walk E7 (verniertop_TopPairs.G k) (cutsAt E7 k verniertop_TopPairs.cuts) (retE E7 Go.Proofs.Try.f7.results.toList S7) 4000 true (stackAt B7 [1, 0, 1, 1, 1, 1, 1, 1, 1, 1, 1]) (mkE [.sc 5 (.int .i64), .sc 91 (.bool), .box 3 82 [.int .u64, .int .u64, .int .u64, .int .u64]] x St.nil) = verniertop_TopPairs.j2 (k + 1) x.1 x.2.1 x.2.2.1 x.2.2.2.1 x.2.2.2.2.1 x.2.2.2.2.2 := by kernel_rfl
theorem verniertop_TopPairs.w3 (k : Nat) (x : ET [.sc 5 (.int .i64), .sc 130 (.bool), .box 3 82 [.int .u64, .int .u64, .int .u64, .int .u64]]) : walk E7 (verniertop_TopPairs.G k) (cutsAt E7 k verniertop_TopPairs.cuts) (retE E7 Go.Proofs.Try.f7.results.toList S7) 4000 true (stackAt B7 [1, 0, 1, 1, 1, 1, 1, 1, 1, 1, 1, 1, 1, 1]) (mkE [.sc 5 (.int .i64), .sc 130 (.bool), .box 3 82 [.int .u64, .int .u64, .int .u64, .int .u64]] x St.nil) = verniertop_TopPairs.j3 (k + 1) x.1 x.2.1 x.2.2.1 x.2.2.2.1 x.2.2.2.2.1 x.2.2.2.2.2 := by kernel_rfl
theorem verniertop_TopPairs.w4 (k : Nat) (x : ET [.sc 5 (.int .i64), .sc 160 (.bool), .box 3 82 [.int .u64, .int .u64, .int .u64, .int .u64]]) : walk E7 (verniertop_TopPairs.G k) (cutsAt E7 k verniertop_TopPairs.cuts) (retE E7 Go.Proofs.Try.f7.results.toList S7) 4000 true (stackAt B7 [1, 0, 1, 1, 1, 1, 1, 1, 1, 1, 1, 1, 1, 1, 1, 1, 1]) (mkE [.sc 5 (.int .i64), .sc 160 (.bool), .box 3 82 [.int .u64, .int .u64, .int .u64, .int .u64]] x St.nil) = verniertop_TopPairs.j4 (k + 1) x.1 x.2.1 x.2.2.1 x.2.2.2.1 x.2.2.2.2.1 x.2.2.2.2.2 := by kernel_rfl
theorem verniertop_TopPairs.w5 (k : Nat) (x : ET [.sc 5 (.int .i64), .sc 171 (.bool), .box 3 82 [.int .u64, .int .u64, .int .u64, .int .u64], .mbw (some 12) 134 [.int .i64, .bool, .int .i64] .u64 16 []]) : walk E7 (verniertop_TopPairs.G k) (cutsAt E7 k verniertop_TopPairs.cuts) (retE E7 Go.Proofs.Try.f7.results.toList S7) 4000 true (stackAt B7 [1, 0, 1, 1, 1, 1, 1, 1, 1, 1, 1, 1, 1, 1, 1, 1, 1, 1, 1]) (mkE [.sc 5 (.int .i64), .sc 171 (.bool), .box 3 82 [.int .u64, .int .u64, .int .u64, .int .u64], .mbw (some 12) 134 [.int .i64, .bool, .int .i64] .u64 16 []] x St.nil) = verniertop_TopPairs.j5 (k + 1) x.1 x.2.1 x.2.2.1.1 x.2.2.1.2.1 x.2.2.1.2.2.1 x.2.2.1.2.2.2 x.2.2.2.1 x.2.2.2.2.1 x.2.2.2.2.2.1 x.2.2.2.2.2.2 := by kernel_rfl
theorem verniertop_TopPairs.w (k : Nat) (x : TT S7.sa) : walk E7 (verniertop_TopPairs.G k) (cutsAt E7 k verniertop_TopPairs.cuts) (retE E7 Go.Proofs.Try.f7.results.toList S7) 4000 true [([], .code B7)] (St0 S7 x) = verniertop_TopPairs.f k x.1 x.2.1 x.2.2.1 x.2.2.2.1 x.2.2.2.2 := by kernel_rfl
theorem verniertop_TopPairs.ok (k : Nat) : FnOk Go.Proofs.Try.prog E7.eT 7 (verniertop_TopPairs.c k) := FnOk.walk (E := E7) (body := B7) Go.Proofs.Try.func7 rfl (by rfl) Go.Proofs.Try.ntmps7 rfl S7 rfl (fun k x => verniertop_TopPairs.f k x.1 x.2.1 x.2.2.1 x.2.2.2.1 x.2.2.2.2) verniertop_TopPairs.G (fun k => ⟨verniertop_wide.ok k, sum_Add.ok k, fuse_Fma.ok k, vec_Dot.ok k, prod_Mul.ok k, fuse_Pair.ok k, vec_Sum.ok k, accum_New.ok k, accum_Acc_Put.ok k, accum_Acc_Take.ok k, fuse_Cross.ok k, accum_Acc_Round.ok k, trivial⟩) 4000 verniertop_TopPairs.cuts ⟨⟨fun _ => rfl, fun k x q h => (verniertop_TopPairs.w0 k x).trans h⟩, ⟨fun _ => rfl, fun k x q h => (verniertop_TopPairs.w1 k x).trans h⟩, ⟨fun _ => rfl, fun k x q h => (verniertop_TopPairs.w2 k x).trans h⟩, ⟨fun _ => rfl, fun k x q h => (verniertop_TopPairs.w3 k x).trans h⟩, ⟨fun _ => rfl, fun k x q h => (verniertop_TopPairs.w4 k x).trans h⟩, ⟨fun _ => rfl, fun k x q h => (verniertop_TopPairs.w5 k x).trans h⟩, trivial⟩ (fun k x r h => (verniertop_TopPairs.w k x).trans h) k
def verniertop_TopPairs.Pure : Prop := ∀ (a0 : Int) (a1_0 : Int) (a1_1 : Int) (a1_2 : Int) (a1_3 : Int), (Lit.int .i64 a0).wf = true → (Lit.int .u64 a1_0).wf = true → (Lit.int .u64 a1_1).wf = true → (Lit.int .u64 a1_2).wf = true → (Lit.int .u64 a1_3).wf = true → ∃ k, verniertop_TopPairs.f k a0 a1_0 a1_1 a1_2 a1_3 = some true
end Go.Proofs.Ythofoolgbngobaa.Fn
