-- Written by a program of this session out of its own texts (wip/tools/link.py).
import Derived.Below
import Derived.ChangeKeysEq
import Derived.ChangeSlices
import Derived.Deep.MidRow
import Derived.Deep.RegionHeld3
import Derived.Great.BuildSlice
import Derived.IntWalk
import Derived.LaidEql
import Derived.Laws.Bits64
import Derived.Laws.BitsLemmas
import Derived.Laws.BytesArg
import Derived.Laws.IdiomCopy
import Derived.Laws.OwnMore
import Derived.Laws.Rows
import Derived.Laws.Slices
import Derived.Laws.StructEq
import Derived.Laws.Tables
import Derived.Maps.AppendAt
import Derived.OrdersHeld
import Derived.RowKit
import Derived.Scope
import Derived.SizedLaws
import Derived.Test.YtgjhjgacojlbmaaCAccumBack8
namespace Go.Proofs.Ytgjhjgacojlbmaa.Ab
open Go Go.RowKit Go.ChangeShapes Go.WideShapes
theorem cell_lt {w : World} {a : Addr} {v : Value} (h : w.cell? a = some v) : a.block < w.heap.size := by
  unfold World.cell? at h
  split at h
  · rename_i hc
    exact (Array.getElem?_eq_some_iff.1 hc).1
  · cases h
def dlen {H : Type} : DataW H → Nat
  | .slice e s => e.length + s.length
  | _ => 0
def fsOk (P : Program) : Nat → List Field → List Ck → Bool
  | _, [], [] => true
  | o, f :: fs, k :: ks => Nat.beq f.offset o && (Nat.beq (P.cellsOf f.type) 1 && ((match P.underlying f.type, k with
    | some (.int q'), .int q => decide (q' = q)
    | some .bool, .bool => true
    | _, _ => false) && fsOk P (o + 1) fs ks))
  | _, _, _ => false
theorem fsOk_elem {H : Type} {enc : TypeId × Value → H} {P : Program} {W : World} {base : Nat} {spare : Nat → Bool} {held : Bool} {C : Cx} {cs : List Value} {n : Nat} : ∀ {fs : List Field} {ks : List Ck} {o : Nat}, fsOk P o fs ks = true → cs.length = o + fs.length →
    (∀ f ∈ fs, ∃ y, DataW.trod enc P W base spare held n f.type ((cs.drop f.offset).take (P.cellsOf f.type)) = some y) → ∃ x : CT ks, CpVs C (CT.mk ks x) (cs.drop o) ∧ CT.wf ks x
  | [], [], o, _, hl, _ => ⟨(), by rw [List.drop_eq_nil_of_le (by simp at hl; omega)]; trivial, trivial⟩
  | f :: fs, k :: ks, o, h, hl, hf => by
    unfold fsOk at h
    simp only [Bool.and_eq_true] at h
    obtain ⟨h1, h2, h3, h4⟩ := h
    have h1 := Nat.eq_of_beq_eq_true h1
    have h2 := Nat.eq_of_beq_eq_true h2
    obtain ⟨xs, h5, h6⟩ := fsOk_elem (C := C) (cs := cs) h4 (by simp at hl; omega) (fun g hg => hf g (List.mem_cons_of_mem _ hg))
    obtain ⟨y, hy⟩ := hf f List.mem_cons_self
    rw [h1, h2] at hy
    have ho : o < cs.length := by simp at hl; omega
    have hd : cs.drop o = cs[o] :: cs.drop (o + 1) := List.drop_eq_getElem_cons ho
    rw [hd] at hy ⊢
    simp only [List.take_succ_cons, List.take_zero] at hy
    have one : ∃ x : k.T, CpV C (k.mk x) cs[o] ∧ k.wf x := by
      split at h3
      · rename_i q' q hu
        have := of_decide_eq_true h3
        subst this
        obtain ⟨m, hm, -, hw⟩ := DataW.trod_int hu hy
        exact ⟨m, ⟨by simpa using hm, inK_wf hw⟩, inK_wf hw⟩
      · rename_i hu
        obtain ⟨m, hm, -⟩ := DataW.trod_bool hu hy
        exact ⟨m, (by simpa using hm : cs[o] = .bool m), trivial⟩
      · cases h3
    obtain ⟨x, h7, h8⟩ := one
    cases ks with
    | nil => exact ⟨x, ⟨h7, h5⟩, h8⟩
    | cons k2 ks => exact ⟨(x, xs), ⟨h7, h5⟩, h8, h6⟩
  | [], _ :: _, _, h, _, _ => by simp [fsOk] at h
  | _ :: _, [], _, h, _, _ => by simp [fsOk] at h
theorem pick_list {α : Type} {p : Nat → α → Prop} : ∀ (n : Nat), (∀ i, i < n → ∃ x, p i x) → ∃ l : List α, l.length = n ∧ ∀ i (h : i < l.length), p i l[i]
  | 0, _ => ⟨[], rfl, fun i hi => by simp at hi⟩
  | n + 1, h => by
    obtain ⟨l, h1, h2⟩ := pick_list n fun i hi => h i (by omega)
    obtain ⟨x, hx⟩ := h n (by omega)
    refine ⟨l ++ [x], by simp [h1], fun i hi => ?_⟩
    by_cases hl : i < l.length
    · rw [List.getElem_append_left hl]; exact h2 i hl
    · have : i = l.length := by simp at hi; omega
      subst this
      rw [List.getElem_append_right (Nat.le_refl _)]
      simp only [Nat.sub_self, List.getElem_cons_zero]
      rw [h1]; exact hx
theorem row_rds {H : Type} {enc : TypeId × Value → H} {P : Program} {W : World} {base : Nat} {spare : Nat → Bool} {held : Bool} {t e eT : TypeId} {fs : Array Field} {ks : List Ck} {a : Option Addr} {len cap B : Nat} {d : DataW H} {ps : List MemPlace} {ts : List TypeId} {ds : List (DataW H)} {j : Nat}
    (hsz : (DataW.weightsEach P ts ds).all (· ≤ reachBytes) = true) (ht : ts[j]? = some t) (hd : ds[j]? = some d) (hu : P.underlying t = some (.slice e)) (he : P.underlying e = some (.struct fs)) (hfs : fsOk P 0 fs.toList ks = true) (hks : ks ≠ []) (hc : P.cellsOf e = ks.length) (hB : P.bytesOf e = B)
    (h : DataW.Trod enc P W base spare held t (.slice a len cap) d ps) : ∃ l : List (CT ks), VS (C0 eT W fun _ => True) (.rds ks l) (.slice a len cap) ∧ (∀ x ∈ l, CT.wf ks x) ∧ l.length * B ≤ 140737488351232 ∧ l.length ≤ dlen d := by
  have hfl : fs.toList.length = ks.length := by
    have : ∀ {fs : List Field} {ks : List Ck} {o : Nat}, fsOk P o fs ks = true → fs.length = ks.length := by
      intro fs
      induction fs with
      | nil => intro ks o h; cases ks <;> simp [fsOk] at h ⊢
      | cons f fs ih =>
        intro ks o h
        cases ks with
        | nil => simp [fsOk] at h
        | cons k ks =>
          unfold fsOk at h
          simp only [Bool.and_eq_true] at h
          simp [ih h.2.2.2]
    exact this hfs
  obtain ⟨fuel, hf⟩ := h
  rcases DataW.trod_slice hu hf with ⟨hcs, _⟩ | ⟨x, l, c, elems, rest, n, _, hcs, hx, hb, hl, hm, hlen, hel, hsp, hns⟩
  · simp [Value.cells] at hcs
    obtain ⟨rfl, rfl, rfl⟩ := hcs
    exact ⟨[], ⟨none, 0, rfl, by simp, by simp, fun i hi => by simp at hi⟩, by simp, by simp, by simp⟩
  · simp [Value.cells] at hcs
    obtain ⟨rfl, rfl, rfl⟩ := hcs
    have hpos : 0 < ks.length := by cases ks with | nil => exact absurd rfl hks | cons _ _ => simp
    have cellsAt : ∀ i, i < len → ∃ cs', cs'.length = ks.length ∧ (∀ q, q < ks.length → W.cell? ((x.add (i * ks.length)).add q) = cs'[q]?) ∧ ∃ z : CT ks, CpVs (C0 eT W fun _ => True) (CT.mk ks z) cs' ∧ CT.wf ks z := by
      intro i hi
      have hy := hel i hi
      rw [List.getElem?_eq_getElem (by omega)] at hy
      rw [Option.bind_eq_some_iff] at hy
      obtain ⟨cs', h1, h2⟩ := hy
      obtain ⟨h3, h4, h5⟩ := World.cells?_some h1
      obtain ⟨xs, m, -, -, hcl, hxl, hg⟩ := DataW.trod_struct he h2
      obtain ⟨z, h6, h7⟩ := fsOk_elem (C := C0 eT W fun _ => True) (cs := cs') (enc := enc) (P := P) (W := W) (base := base) (spare := spare) (held := held) (n := m) hfs (by rw [hcl, hc, hfl]; omega) (fun f hf => by
        obtain ⟨q, hq⟩ := List.getElem?_of_mem hf
        have hq' : fs[q]? = some f := by simpa using hq
        have hlt : q < xs.length := by rw [hxl]; exact (Array.getElem?_eq_some_iff.1 hq').1
        exact ⟨_, (hg q f hq').trans (List.getElem?_eq_getElem hlt)⟩)
      rw [hc] at h4 h5
      exact ⟨cs', h4, h5, z, by simpa using h6, h7⟩
    have hspot : 0 < len → x.spot = none ∧ x.block < W.heap.size := by
      intro h0
      obtain ⟨cs', h4, h5, -⟩ := cellsAt 0 h0
      have hs : W.cell? x = some cs'[0] := by
        have := h5 0 hpos
        rw [List.getElem?_eq_getElem (by rw [h4]; exact hpos)] at this
        simpa [Addr.add] using this
      refine ⟨?_, cell_lt hs⟩
      unfold World.cell? at hs
      split at hs
      · split at hs
        · cases hs
        · rename_i hsp
          cases hxs : x.spot with
          | none => rfl
          | some _ => rw [hxs] at hsp; simp at hsp
      · cases hs
    have each : ∀ i, i < len → ∃ z : CT ks, CT.wf ks z ∧ ∃ g off, some x = some (⟨g, off, none⟩ : Addr) ∧ CpRow (C0 eT W fun _ => True) (CT.mk ks z) g (off + i * ks.length) := by
      intro i hi
      obtain ⟨h1, h2⟩ := hspot (by omega)
      obtain ⟨cs', h4, h5, z, h6, h7⟩ := cellsAt i hi
      obtain ⟨g, off, sp⟩ := x
      have h1 : sp = none := h1
      subst h1
      refine ⟨z, h7, g, off, rfl, trivial, h2, cs', h6, fun q u hq => ?_⟩
      have hql : q < ks.length := by have := (List.getElem?_eq_some_iff.1 hq).1; rw [h4] at this; exact this
      have := h5 q hql
      rw [hq, Addr.add_mid, Addr.add_mid] at this
      exact this
    obtain ⟨L, h1, h2⟩ := pick_list len each
    obtain ⟨hx, _⟩ := Prod.mk.inj hx
    subst hx
    have z := sized_slice hsz ht hd hu
    rw [hB] at z
    refine ⟨L, ⟨some x, cap, by rw [h1], by rw [h1]; exact hl, by rw [h1]; unfold maxLen at hm; omega, fun i hi => (h2 i hi).2⟩, fun y hy => ?_, Nat.le_trans (Nat.mul_le_mul_right _ ?_) z, ?_⟩
    · obtain ⟨i, hi, rfl⟩ := List.getElem_of_mem hy
      exact (h2 i hi).1
    · rw [h1]
      simp only [List.length_map]
      omega
    · rw [h1]
      simp only [dlen, List.length_map]
      omega
theorem FnOk.truthL {P : Program} {eT : TypeId} {f : FuncId} {ag : List Ag} {sa : List Sh} {F : TT sa → Option Bool} {fn : Func} (hf : P.funcs[f]? = some fn) (hname : (fn.name == "runtime.NumGoroutine") = false) (hb : fn.body.isSome = true)
    (h : FnOk P eT f ⟨ag, sa, false, [.s], [.bool], false, F⟩) {x : TT sa} {r : Bool} (hr : F x = some r) (w : World) (vs : Array Value) (hv : V1s (C0 eT w fun _ => True) (group ag (TT.mk sa x)) vs.toList) :
    Calls P f vs w fun e w' => e = .returned (.bool r) ∧ Below w.heap.size w w' := by
  have := h x r w (fun _ => True) vs hr hv
  rcases this with ⟨-, h2⟩ | ⟨v, w', h1, -⟩
  · refine h2.mono ?_
    rintro e w' ⟨v, rfl, ⟨y, hy, hv⟩, hbw⟩
    simp only [resAV, cond_false, TT.mk, Sh.mk, group, Option.some.injEq] at hy
    subst hy
    refine ⟨congrArg _ hv, ?_⟩
    exact ⟨hbw.os, hbw.tape, hbw.output, hbw.size, fun k hk => hbw.block k hk (by simp)⟩
  · rw [enters hf hname hb] at h1
    cases h1
end Go.Proofs.Ytgjhjgacojlbmaa.Ab
