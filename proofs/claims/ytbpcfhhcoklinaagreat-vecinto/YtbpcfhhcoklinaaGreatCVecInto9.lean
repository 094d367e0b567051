-- Written by a program of this session out of its own texts (wip/tools/link.py).
import Derived.Below
import Derived.ChangeKeysEq
import Derived.Deep.MidRow
import Derived.Deep.RegionHeld3
import Derived.Great.BuildSlice
import Derived.IntWalk
import Derived.LaidEql
import Derived.Laws.Bits64
import Derived.Laws.BitsLemmas
import Derived.Laws.BytesArg
import Derived.Laws.IdiomCopy
import Derived.Laws.OwnMore
import Derived.Laws.Rows
import Derived.Laws.Slices
import Derived.Laws.StructEq
import Derived.Laws.Tables
import Derived.Maps.AppendAt
import Derived.OrdersHeld
import Derived.RowKit
import Derived.Test.YtbpcfhhcoklinaaGreatCVecInto8
set_option linter.unusedSimpArgs false
set_option linter.unusedVariables false
namespace Go.Proofs.YtbpcfhhcoklinaaGreat.Ab
open Go Go.RowKit
noncomputable section
variable {β:Type} {E:En} {w0:World} {ok0:Nat→Prop} {gs:List Nat} {ρ:Nat→Nat} {vl:Nat→Value} {σ:St} {a:Act} {w:World}
theorem bw_grown {w w':World} (h:w.grownBy w' none) (hd:w.drawn≤w'.drawn):Bw [] w w':=⟨h.os,h.tape,h.output,hd,h.size,fun k hk _=>h.block k hk (by simp)⟩
theorem own_slice {w:World} {base n:Nat} {e:TypeId} {size:Nat} {v:Value} {xs:List Value} (h:w.ownsRow base e size v n xs):∃ A m c,v = .slice A m c:=by
 rcases h.2 with ⟨rfl, -⟩ | ⟨g,cap,cur,rfl, -⟩ <;> exact ⟨_,_,_,rfl⟩
theorem Rel.newInts (hR:Rel E w0 ok0 gs ρ vl σ a w) {w':World} (hw:Bw [] w w') {k:IntKind} {t:TypeId} {l:List Int} {v:Value} (hin:inL k l)
  (ho:w'.ownsRow w0.heap.size t 1 v l.length (l.map (Value.int k))) (hf:∀ g,v.ownBlock=some g→w.heap.size≤g):
  ∃ ρ' vl',Rel E w0 ok0 gs ρ' vl' (σ.new (.ints k t l)) a w'∧VV (cx E w0 ok0 gs ρ' vl' (σ.new (.ints k t l)) w') (.one (.s (.lst σ.bl.length))) v:=by
 have h:=hR.new hw (nb:=.ints k t l) (g:=0) (v:=v) ?_ ?_
 ·refine ⟨_,_,h.1, ?_, ?_,own_slice ho⟩
  ·simp [cx,St.new]
  ·simp only [cx,upd_eq]
 ·intro q hq
  simp only [Bl.at,upd_eq] at hq
  exact ⟨hf q hq,(ho.lt q hq).2⟩
 ·intro _
  refine ⟨hin, ?_⟩
  show w'.ownsRow w0.heap.size t 1 (upd vl σ.bl.length v σ.bl.length) l.length (l.map (Value.int k))
  rw [upd_eq]
  exact ho
theorem Rel.grown (hR:Rel E w0 ok0 gs ρ vl σ a w) {b:Nat} {k0 k:IntKind} {t0 t:TypeId} {l0 l:List Int} (hb:σ.bl[b]? = some (.ints k0 t0 l0)) {w':World} {v:Value} (hin:inL k l) (hd:w.drawn≤w'.drawn) (hg:w.grownBy w' (vl b).ownBlock)
  (ho:w'.ownsRow w0.heap.size t 1 v l.length (l.map (Value.int k))) (hat:∀ g,v.ownBlock=some g→(vl b).ownBlock=some g∨w.heap.size≤g):
  ∃ ρ' vl',Rel E w0 ok0 gs ρ' vl' ((σ.setB b .dead).new (.ints k t l)) a w'∧VV (cx E w0 ok0 gs ρ' vl' ((σ.setB b .dead).new (.ints k t l)) w') (.one (.s (.lst σ.bl.length))) v:=by
 have hlt:=bl_lt hb
 have hsz:w.heap.size≤w'.heap.size:=hg.size
 have hbase:∀ g,(vl b).ownBlock=some g→w0.heap.size≤g∧g < w.heap.size:=fun g h=>(hR.bl b _ hb).2.lt g h
 have hlen:((σ.setB b .dead).new (.ints k t l)).bl.length = σ.bl.length+1:=by simp [St.new,St.setB]
 have hl1:(σ.setB b .dead).bl.length = σ.bl.length:=by simp [St.setB]
 have hget:∀ b' y,((σ.setB b .dead).new (.ints k t l)).bl[b']? = some y→(b'=b∧y = .dead)∨(b' < σ.bl.length∧b'≠b∧σ.bl[b']? = some y)∨(b' = σ.bl.length∧y = .ints k t l):=by
  intro b' y hy
  rcases Nat.lt_trichotomy b' σ.bl.length with h | rfl | h
  ·have h1:(σ.bl.set b .dead)[b']? = some y:=by simpa [St.new,St.setB,List.getElem?_append_left,h] using hy
   by_cases hbb:b'=b
   ·subst hbb
    simp [List.getElem?_set,hlt] at h1
    exact .inl ⟨rfl,h1.symm⟩
   ·rw [List.getElem?_set_ne (Ne.symm hbb)] at h1
    exact .inr (.inl ⟨h,hbb,h1⟩)
  ·refine .inr (.inr ⟨rfl, ?_⟩)
   simp [St.new,St.setB] at hy
   exact hy.symm
  ·rw [List.getElem?_eq_none (by omega)] at hy
   cases hy
 have hlive:∀ b' q,liveAt (upd ρ σ.bl.length 0) (upd vl σ.bl.length v) ((σ.setB b .dead).new (.ints k t l)) b' q→(b' < σ.bl.length∧b'≠b∧liveAt ρ vl σ b' q)∨(b' = σ.bl.length∧v.ownBlock=some q):=by
  rintro b' q ⟨y,h1,h2⟩
  rcases hget b' y h1 with ⟨rfl,rfl⟩ | ⟨h3,h4,h5⟩ | ⟨rfl,rfl⟩
  ·cases h2
  ·refine .inl ⟨h3,h4,y,h5, ?_⟩
   cases y <;> simp only [Bl.at,upd_ne (Nat.ne_of_lt h3)] at h2 ⊢ <;> exact h2
  ·simp only [Bl.at,upd_eq] at h2
   exact .inr ⟨rfl,h2⟩
 have hlb:∀ g,(vl b).ownBlock=some g→liveAt ρ vl σ b g:=fun g h=>⟨_,hb,h⟩
 have hle:(cx E w0 ok0 gs ρ vl σ w).Le (cx E w0 ok0 gs (upd ρ σ.bl.length 0) (upd vl σ.bl.length v) ((σ.setB b .dead).new (.ints k t l)) w'):=by
  refine ⟨rfl,by simp only [cx];omega,fun b hb=>upd_ne (by simp only [cx] at hb;omega),fun b hb=>upd_ne (by simp only [cx] at hb;omega),fun i e h=>⟨e,h,rfl⟩, ?_,hsz, ?_⟩
  ·intro q hq hlt'
   rcases hq with hq | ⟨h1,h1',h2⟩
   ·exact .inl hq
   ·refine .inr ⟨h1,h1',fun b' hl=>?_⟩
    rcases hlive b' q hl with ⟨-, -,h3⟩ | ⟨rfl,h3⟩
    ·exact h2 b' h3
    ·rcases hat q h3 with h4 | h4
     ·exact h2 b (hlb q h4)
     ·have hlt2:q < w.heap.size:=hlt'
      omega
  ·intro q hq hlt'
   refine hg.block q hlt' (fun he=>?_)
   have he':=he.symm
   rcases hq with ⟨-,h1⟩ | ⟨h1, -,h2⟩
   ·have:=(hbase q he').1
    omega
   ·exact h2 b (hlb q he')
 refine ⟨_,_,⟨hR.size,hR.defers,fun t av ht=>⟨(hR.tm t av ht).1,(hR.tm t av ht).2.le hle⟩, ?_, ?_, ?_, ?_, ?_⟩, ?_⟩
 ·intro b' y hy
  rcases hget b' y hy with ⟨rfl,rfl⟩ | ⟨h3,h4,h5⟩ | ⟨rfl,rfl⟩
  ·trivial
  ·refine BS.le hle rfl h3 (fun q hq=>?_) (hR.bl b' y h5)
   refine hg.block q (hR.own b' q ⟨y,h5,hq⟩).2 (fun he=>?_)
   exact h4 (hR.dist b' b q ⟨y,h5,hq⟩ (hlb q he.symm))
  ·refine ⟨hin, ?_⟩
   show w'.ownsRow w0.heap.size t 1 (upd vl σ.bl.length v σ.bl.length) l.length (l.map (Value.int k))
   rw [upd_eq]
   exact ho
 ·intro b1 b2 q h1 h2
  rcases hlive b1 q h1 with ⟨h3,h4,h5⟩ | ⟨rfl,h5⟩ <;> rcases hlive b2 q h2 with ⟨h6,h7,h8⟩ | ⟨rfl,h8⟩
  ·exact hR.dist b1 b2 q h5 h8
  ·rcases hat q h8 with h9 | h9
   ·exact absurd (hR.dist b1 b q h5 (hlb q h9)) h4
   ·have:=(hR.own b1 q h5).2
    omega
  ·rcases hat q h5 with h9 | h9
   ·exact absurd (hR.dist b2 b q h8 (hlb q h9)) h7
   ·have:=(hR.own b2 q h8).2
    omega
  ·rfl
 ·intro b1 q h1
  rcases hlive b1 q h1 with ⟨h3,h4,h5⟩ | ⟨rfl,h5⟩
  ·exact ⟨(hR.own b1 q h5).1,Nat.lt_of_lt_of_le (hR.own b1 q h5).2 hsz⟩
  ·refine ⟨⟨.inl (ho.lt q h5).1,fun hm=>?_⟩,(ho.lt q h5).2⟩
   rcases hat q h5 with h6 | h6
   ·exact (hR.own b q (hlb q h6)).1.2 hm
   ·have:=(hR.bw.hid q hm).2
    omega
 ·refine ⟨⟨hg.os.trans hR.bw.os,hg.tape.trans hR.bw.tape,hg.output.trans hR.bw.output,Nat.le_trans hR.bw.drawn hd,Nat.le_trans hR.bw.size hsz,fun k hk hn=>?_⟩,fun q hq=>⟨(hR.bw.hid q hq).1,Nat.lt_of_lt_of_le (hR.bw.hid q hq).2 hsz⟩⟩
  rw [hg.block k (Nat.lt_of_lt_of_le hk hR.bw.size) (fun he=>?_),hR.bw.block k hk hn]
  have:=(hbase k he.symm).1
  omega
 ·intro q hq
  obtain ⟨h1,h2,h3⟩:=hR.rc q hq
  refine ⟨by omega,fun p hp=>?_,h3⟩
  rcases hlive 0 p hp with ⟨-, -,h4⟩ | ⟨h4, -⟩
  ·exact h2 p h4
  ·omega
 ·refine ⟨?_, ?_,own_slice ho⟩
  ·simp only [cx,hlen];omega
  ·simp only [cx,upd_eq]
theorem Rel.newRows (hR:Rel E w0 ok0 gs ρ vl σ a w) {w':World} (hw:Bw [] w w') {ks:List Ck} {t:TypeId} {l:List (CT ks)} {v:Value} (hin:inR ks l)
  (ho:w'.ownsRow w0.heap.size t ks.length v l.length (flatV ks l)) (hf:∀ g,v.ownBlock=some g→w.heap.size≤g):
  ∃ ρ' vl',Rel E w0 ok0 gs ρ' vl' (σ.new (.rows ks t l)) a w'∧VV (cx E w0 ok0 gs ρ' vl' (σ.new (.rows ks t l)) w') (.one (.s (.lss σ.bl.length))) v:=by
 have h:=hR.new hw (nb:=.rows ks t l) (g:=0) (v:=v) ?_ ?_
 ·refine ⟨_,_,h.1, ?_, ?_,own_slice ho⟩
  ·simp [cx,St.new]
  ·simp only [cx,upd_eq]
 ·intro q hq
  simp only [Bl.at,upd_eq] at hq
  exact ⟨hf q hq,(ho.lt q hq).2⟩
 ·intro _
  refine ⟨hin, ?_⟩
  show w'.ownsRow w0.heap.size t ks.length (upd vl σ.bl.length v σ.bl.length) l.length (flatV ks l)
  rw [upd_eq]
  exact ho
theorem Rel.grownRows (hR:Rel E w0 ok0 gs ρ vl σ a w) {b:Nat} {ks0 ks:List Ck} {t0 t:TypeId} {l0:List (CT ks0)} {l:List (CT ks)} (hb:σ.bl[b]? = some (.rows ks0 t0 l0)) {w':World} {v:Value} (hin:inR ks l) (hd:w.drawn≤w'.drawn) (hg:w.grownBy w' (vl b).ownBlock)
  (ho:w'.ownsRow w0.heap.size t ks.length v l.length (flatV ks l)) (hat:∀ g,v.ownBlock=some g→(vl b).ownBlock=some g∨w.heap.size≤g):
  ∃ ρ' vl',Rel E w0 ok0 gs ρ' vl' ((σ.setB b .dead).new (.rows ks t l)) a w'∧VV (cx E w0 ok0 gs ρ' vl' ((σ.setB b .dead).new (.rows ks t l)) w') (.one (.s (.lss σ.bl.length))) v:=by
 have hlt:=bl_lt hb
 have hsz:w.heap.size≤w'.heap.size:=hg.size
 have hbase:∀ g,(vl b).ownBlock=some g→w0.heap.size≤g∧g < w.heap.size:=fun g h=>(hR.bl b _ hb).2.lt g h
 have hlen:((σ.setB b .dead).new (.rows ks t l)).bl.length = σ.bl.length+1:=by simp [St.new,St.setB]
 have hl1:(σ.setB b .dead).bl.length = σ.bl.length:=by simp [St.setB]
 have hget:∀ b' y,((σ.setB b .dead).new (.rows ks t l)).bl[b']? = some y→(b'=b∧y = .dead)∨(b' < σ.bl.length∧b'≠b∧σ.bl[b']? = some y)∨(b' = σ.bl.length∧y = .rows ks t l):=by
  intro b' y hy
  rcases Nat.lt_trichotomy b' σ.bl.length with h | rfl | h
  ·have h1:(σ.bl.set b .dead)[b']? = some y:=by simpa [St.new,St.setB,List.getElem?_append_left,h] using hy
   by_cases hbb:b'=b
   ·subst hbb
    simp [List.getElem?_set,hlt] at h1
    exact .inl ⟨rfl,h1.symm⟩
   ·rw [List.getElem?_set_ne (Ne.symm hbb)] at h1
    exact .inr (.inl ⟨h,hbb,h1⟩)
  ·refine .inr (.inr ⟨rfl, ?_⟩)
   simp [St.new,St.setB] at hy
   exact hy.symm
  ·rw [List.getElem?_eq_none (by omega)] at hy
   cases hy
 have hlive:∀ b' q,liveAt (upd ρ σ.bl.length 0) (upd vl σ.bl.length v) ((σ.setB b .dead).new (.rows ks t l)) b' q→(b' < σ.bl.length∧b'≠b∧liveAt ρ vl σ b' q)∨(b' = σ.bl.length∧v.ownBlock=some q):=by
  rintro b' q ⟨y,h1,h2⟩
  rcases hget b' y h1 with ⟨rfl,rfl⟩ | ⟨h3,h4,h5⟩ | ⟨rfl,rfl⟩
  ·cases h2
  ·refine .inl ⟨h3,h4,y,h5, ?_⟩
   cases y <;> simp only [Bl.at,upd_ne (Nat.ne_of_lt h3)] at h2 ⊢ <;> exact h2
  ·simp only [Bl.at,upd_eq] at h2
   exact .inr ⟨rfl,h2⟩
 have hlb:∀ g,(vl b).ownBlock=some g→liveAt ρ vl σ b g:=fun g h=>⟨_,hb,h⟩
 have hle:(cx E w0 ok0 gs ρ vl σ w).Le (cx E w0 ok0 gs (upd ρ σ.bl.length 0) (upd vl σ.bl.length v) ((σ.setB b .dead).new (.rows ks t l)) w'):=by
  refine ⟨rfl,by simp only [cx];omega,fun b hb=>upd_ne (by simp only [cx] at hb;omega),fun b hb=>upd_ne (by simp only [cx] at hb;omega),fun i e h=>⟨e,h,rfl⟩, ?_,hsz, ?_⟩
  ·intro q hq hlt'
   rcases hq with hq | ⟨h1,h1',h2⟩
   ·exact .inl hq
   ·refine .inr ⟨h1,h1',fun b' hl=>?_⟩
    rcases hlive b' q hl with ⟨-, -,h3⟩ | ⟨rfl,h3⟩
    ·exact h2 b' h3
    ·rcases hat q h3 with h4 | h4
     ·exact h2 b (hlb q h4)
     ·have hlt2:q < w.heap.size:=hlt'
      omega
  ·intro q hq hlt'
   refine hg.block q hlt' (fun he=>?_)
   have he':=he.symm
   rcases hq with ⟨-,h1⟩ | ⟨h1, -,h2⟩
   ·have:=(hbase q he').1
    omega
   ·exact h2 b (hlb q he')
 refine ⟨_,_,⟨hR.size,hR.defers,fun t av ht=>⟨(hR.tm t av ht).1,(hR.tm t av ht).2.le hle⟩, ?_, ?_, ?_, ?_, ?_⟩, ?_⟩
 ·intro b' y hy
  rcases hget b' y hy with ⟨rfl,rfl⟩ | ⟨h3,h4,h5⟩ | ⟨rfl,rfl⟩
  ·trivial
  ·refine BS.le hle rfl h3 (fun q hq=>?_) (hR.bl b' y h5)
   refine hg.block q (hR.own b' q ⟨y,h5,hq⟩).2 (fun he=>?_)
   exact h4 (hR.dist b' b q ⟨y,h5,hq⟩ (hlb q he.symm))
  ·refine ⟨hin, ?_⟩
   show w'.ownsRow w0.heap.size t ks.length (upd vl σ.bl.length v σ.bl.length) l.length (flatV ks l)
   rw [upd_eq]
   exact ho
 ·intro b1 b2 q h1 h2
  rcases hlive b1 q h1 with ⟨h3,h4,h5⟩ | ⟨rfl,h5⟩ <;> rcases hlive b2 q h2 with ⟨h6,h7,h8⟩ | ⟨rfl,h8⟩
  ·exact hR.dist b1 b2 q h5 h8
  ·rcases hat q h8 with h9 | h9
   ·exact absurd (hR.dist b1 b q h5 (hlb q h9)) h4
   ·have:=(hR.own b1 q h5).2
    omega
  ·rcases hat q h5 with h9 | h9
   ·exact absurd (hR.dist b2 b q h8 (hlb q h9)) h7
   ·have:=(hR.own b2 q h8).2
    omega
  ·rfl
 ·intro b1 q h1
  rcases hlive b1 q h1 with ⟨h3,h4,h5⟩ | ⟨rfl,h5⟩
  ·exact ⟨(hR.own b1 q h5).1,Nat.lt_of_lt_of_le (hR.own b1 q h5).2 hsz⟩
  ·refine ⟨⟨.inl (ho.lt q h5).1,fun hm=>?_⟩,(ho.lt q h5).2⟩
   rcases hat q h5 with h6 | h6
   ·exact (hR.own b q (hlb q h6)).1.2 hm
   ·have:=(hR.bw.hid q hm).2
    omega
 ·refine ⟨⟨hg.os.trans hR.bw.os,hg.tape.trans hR.bw.tape,hg.output.trans hR.bw.output,Nat.le_trans hR.bw.drawn hd,Nat.le_trans hR.bw.size hsz,fun k hk hn=>?_⟩,fun q hq=>⟨(hR.bw.hid q hq).1,Nat.lt_of_lt_of_le (hR.bw.hid q hq).2 hsz⟩⟩
  rw [hg.block k (Nat.lt_of_lt_of_le hk hR.bw.size) (fun he=>?_),hR.bw.block k hk hn]
  have:=(hbase k he.symm).1
  omega
 ·intro q hq
  obtain ⟨h1,h2,h3⟩:=hR.rc q hq
  refine ⟨by omega,fun p hp=>?_,h3⟩
  rcases hlive 0 p hp with ⟨-, -,h4⟩ | ⟨h4, -⟩
  ·exact h2 p h4
  ·omega
 ·refine ⟨?_, ?_,own_slice ho⟩
  ·simp only [cx,hlen];omega
  ·simp only [cx,upd_eq]
end
end Go.Proofs.YtbpcfhhcoklinaaGreat.Ab
namespace Go.Proofs.YtbpcfhhcoklinaaGreat.Ab
open Go Go.RowKit
noncomputable section
variable {β:Type} {E:En} {w0:World} {ok0:Nat→Prop} {gs:List Nat} {ρ:Nat→Nat} {vl:Nat→Value} {σ:St} {a:Act} {w:World}
def initSc (z:List Sc) (js:List Nat):List Sc:=js.map fun j=>z.getD (j%z.length) .nilp
theorem initSc_ok {C:Cx} {z:List Sc} {us:Array Value} (h:VSs C z us.toList) (hz:0 < z.length):∀ js:List Nat,VSs C (initSc z js) (js.map (us[· % us.size]!))
  | []=>trivial
  | j :: js=>by
    refine ⟨?_,initSc_ok h hz js⟩
    have hl:=h.len
    have hlt:j%z.length < z.length:=Nat.mod_lt _ hz
    obtain ⟨v,h1,h2⟩:=h.get (List.getElem?_eq_getElem hlt)
    show VS C (z.getD (j%z.length) Sc.nilp) (us[j%us.size]!)
    rw [List.getD_eq_getElem?_getD,List.getElem?_eq_getElem hlt]
    have:us[j%us.size]! = v:=by
      rw [← hl]
      have hlt':j%z.length < us.size:=by omega
      rw [getElem!_pos us _ hlt']
      have:us.toList[j%z.length]? = some us[j%z.length]:=by simp [hlt']
      rw [h1] at this
      exact (Option.some.inj this).symm
    rw [this]
    exact h2
def popLit (E:En) (σ:St) (t:TypeId) (len:Nat) (ps:Array (Nat×Operand)) (K:AV→St→Option β):Option β:=
  match E.P.underlying t with
  | some (.slice e)=>(match E.P.info? e,zeroSc E e,opdParts E σ ps.toList with
    | some i, some z, some qs => bif (Nat.ble (len * i.size) 16777216 && Nat.blt 0 (len * i.size)) && (Nat.blt 0 z.length && Nat.ble len 16777216) then
        (match fillSc (fun j=>some (j*i.size,i.size)) (initSc z (List.range (len*i.size))) qs with
        | some cs => bif Nat.beq i.size 1 && Nat.beq cs.length len then (match allInts cs with
            | some (k,l)=>K (.one (.s (.lst σ.bl.length))) (σ.new (.ints k e l))
            | none=>K (.one (.s (.sst σ.bl.length len i.size))) (σ.new (.cells cs e)))
          else K (.one (.s (.sst σ.bl.length len i.size))) (σ.new (.cells cs e))
        | none=>none)
      else none
    | _,_,_=>none)
  | _=>none
theorem popLit_ok (hR : Rel E w0 ok0 gs ρ vl σ a w) {o : Oper} {t : TypeId} {len : Nat} {ps : Array (Nat × Operand)} {K : AV → St → Option β} {r : β} (ho : o.op = .buildSlice t len ps) (h : popLit E σ t len ps K = some r) :
    EffRes E w0 ok0 gs a w o K r:=by
  unfold popLit at h
  split at h
  · rename_i e ht
    split at h
    · rename_i i z qs hi hz hq
      obtain ⟨hc,h⟩:=bif_some h
      simp only [Bool.and_eq_true] at hc
      have c1:=Nat.le_of_ble_eq_true hc.1.1
      have c2:0 < len*i.size:=Nat.le_of_ble_eq_true hc.1.2
      have c3:0 < z.length:=Nat.le_of_ble_eq_true hc.2.1
      have c4:=Nat.le_of_ble_eq_true hc.2.2
      obtain ⟨i',zv,h1,h2,h3⟩:=zeroSc_info (C:=cx E w0 ok0 gs ρ vl σ w) rfl hz
      rw [hi] at h1
      injection h1 with h1
      subst h1
      split at h
      · rename_i cs hcs
        have hpe:(ps.map fun (i,x)=>(i,a.eval x)).toList=ps.toList.map fun (x:Nat×Operand)=>(x.1,a.eval x.2):=by simp
        have h4:=initSc_ok h3 c3 (List.range (len*i.size))
        obtain ⟨vs,h5,h6⟩:=fillSc_ok (vs:=((Array.range (len*i.size)).map (zv.cells[· % zv.cells.size]!))) _ (opdParts_ok hR hq) (by simpa using h4) hcs
        have hrun:(execOp a.eval o).run E.P w = .ok (.value (.slice (some ⟨w.heap.size,0,none⟩) len len)) (w.alloc (.cells vs e)):=by
          have:=run_buildSlice (P:=E.P) w t e len (ps.map fun (i,x)=>(i,a.eval x)) vs i zv ht hi h2 (by omega) (by omega) (by rw [hpe];exact h5)
          simp only [execOp,ho,Sem.run_bind,this,Result.andThen_ok]
          rfl
        have hal:w.alloc (.cells vs e) = { w with heap:=w.heap.push (.cells vs e (0,0)) }:=rfl
        have hst:∀ {K':Option β},K'=some r→K'=K (.one (.s (.sst σ.bl.length len i.size))) (σ.new (.cells cs e))→EffRes E w0 ok0 gs a w o K r:=by
          rintro _ hk rfl
          obtain ⟨ρ',vl',h7,h8⟩:=hR.alloc (t:=e) h6
          refine ⟨_,_,_,_, ρ',vl',hk,hrun,h7, ?_,bw_alloc _ _⟩
          obtain ⟨h9,h10⟩:=h8
          refine ⟨h9, ?_⟩
          have h11:ρ' σ.bl.length=w.heap.size:=by
            have:=h10
            simp only [Value.pointer.injEq,Option.some.injEq,Addr.mk.injEq,cx] at this
            exact this.1.symm
          show Value.slice _ _ _ = .slice (some ⟨ρ' σ.bl.length,0,none⟩) len len
          rw [h11]
        cases hb:(Nat.beq i.size 1&&Nat.beq cs.length len) <;> rw [hb] at h
        · exact hst h rfl
        · simp only [cond_true] at h
          simp only [Bool.and_eq_true] at hb
          have s1:=Nat.eq_of_beq_eq_true hb.1
          have s2:=Nat.eq_of_beq_eq_true hb.2
          split at h
          · rename_i k l hl
            obtain ⟨h7,h8⟩:=allInts_ok hl h6
            have hlen:l.length=len:=by
              have:=congrArg List.length h7
              have:=h6.len
              simp at *
              omega
            have hsz:vs.size=len*1:=by have:=h6.len;omega
            have ho':=World.ownsRow_lit (base:=w0.heap.size) (e:=e) (size:=1) w vs len hR.bw.size (by simp only [maxLen];omega) hsz
            rw [h7,← hlen] at ho'
            obtain ⟨ρ',vl',h9,h10⟩:=hR.newInts (bw_alloc w (.cells vs e)) (k:=k) (t:=e) (l:=l) ⟨by omega,h8⟩ ho' (fun g hg=>by simp [Value.ownBlock] at hg;omega)
            rw [hlen] at h10
            exact ⟨_,_,_,_, ρ',vl',h,hrun,h9,h10,bw_alloc _ _⟩
          · exact hst h rfl
      · cases h
    · cases h
  · cases h
def sameO:Operand→Operand→Bool
  | .tmp i,.tmp j=>Nat.beq i j
  | .const (.int k i),.const (.int k' j)=>decide (i=j)
  | _,_=>false
theorem sameO_ok {x y:Operand} {k k':IntKind} {n m:Int} (h:sameO x y=true) (hx:a.eval x = .int k n) (hy:a.eval y = .int k' m):m=n:=by
  unfold sameO at h
  split at h
  · have:=Nat.eq_of_beq_eq_true h
    subst this
    rw [hx] at hy
    injection hy with h1 h2
    exact h2.symm
  · have:=of_decide_eq_true h
    subst this
    simp only [Act.eval] at hx hy
    injection hx with h1 h2
    injection hy with h3 h4
    omega
  · cases h
def made (E:En) (t:TypeId) (n:Int) (lo:Option Int) (K:IntKind→TypeId→List Int→Option β):Option β:=
  match E.P.underlying t with
  | some (.slice e)=>(match E.P.info? e,zeroSc E e with
    | some i, some [.int k z _ _] => bif Nat.beq i.size 1 && Nat.blt 0 i.bytes then
        (bif nonneg lo then (if n.toNat≤281474976710656 / i.bytes then K k e (List.replicate n.toNat z) else none)
         else if 0≤n then (if n.toNat≤281474976710656 / i.bytes then K k e (List.replicate n.toNat z) else none) else none) else none
    | _,_=>none)
  | _=>none
def popMake (E:En) (σ:St) (t:TypeId) (x y:Operand) (K:AV→St→Option β):Option β:=
  match opd E σ x,opd E σ y with
  | some (.one (.s (.int _ n lo hi))),some (.one (.s (.int _ m lo' hi')))=>bif sameO x y then made E t n lo fun k e l=>K (.one (.s (.lst σ.bl.length))) (σ.new (.ints k e l)) else none
  | _,_=>none
theorem nonneg_ok {lo:Option Int} {n:Int} (h:nonneg lo=true) (h0:∀ a,lo=some a→a≤n):0≤n:=by
  unfold nonneg at h
  split at h
  · rename_i a
    have:=of_decide_eq_true h
    have:=h0 a rfl
    omega
  · cases h
theorem popMake_ok (hR : Rel E w0 ok0 gs ρ vl σ a w) {o : Oper} {t : TypeId} {x y : Operand} {K : AV → St → Option β} {r : β} (ho : o.op = .makeSlice t x y) (h : popMake E σ t x y K = some r) :
    EffRes E w0 ok0 gs a w o K r:=by
  unfold popMake at h
  split at h
  · rename_i kx n lo hi ky m lo' hi' hx hy
    obtain ⟨hs,h⟩:=bif_some h
    obtain ⟨e1,g1,g2, -⟩:=opd_ok hR hx
    obtain ⟨e2, -⟩:=opd_ok hR hy
    have hm:=sameO_ok hs e1 e2
    subst hm
    unfold made at h
    split at h
    · rename_i e ht
      split at h
      · rename_i i k z zl zh hi hz
        obtain ⟨hc,h⟩:=bif_some h
        simp only [Bool.and_eq_true] at hc
        have s1:=Nat.eq_of_beq_eq_true hc.1
        have s2:0 < i.bytes:=Nat.le_of_ble_eq_true hc.2
        obtain ⟨i',zv,h1,h2,h3⟩:=zeroSc_info (C:=cx E w0 ok0 gs ρ vl σ w) rfl hz
        rw [hi] at h1
        injection h1 with h1
        subst h1
        have key:0≤m→m.toNat≤281474976710656 / i.bytes→K (.one (.s (.lst σ.bl.length))) (σ.new (.ints k e (List.replicate m.toNat z)))=some r→EffRes E w0 ok0 gs a w o K r:=by
          intro h0 hb hk
          have hbm:i.bytes*m.toNat≤281474976710656:=by
            have:=Nat.mul_le_mul_left i.bytes hb
            have:=Nat.mul_div_le 281474976710656 i.bytes
            omega
          have hn:m.toNat≤281474976710656:=Nat.le_trans hb (Nat.div_le_self _ _)
          obtain ⟨w',h4,h5,h6⟩:=run_make_full (P:=E.P) w w0.heap.size t e i zv 1 ht hi h2 s1 kx ky m.toNat hbm (by simp only [maxLen];omega) hR.bw.size
          have hzc:zv.cells.toList=[.int k z]∧inK k z:=by
            match hzl:zv.cells.toList,h3 with
            | [],h=>exact h.elim
            | [u],h =>
              obtain ⟨⟨e3,e4, -⟩, -⟩:=h
              exact ⟨by rw [e3],e4⟩
            | _ :: _ :: _,h=>exact h.2.elim
          have hza:zv.cells = #[.int k z]:=by rw [← Array.toArray_toList (xs:=zv.cells),hzc.1]
          rw [hza,Nat.mul_one,toList_madeCells_one] at h5
          have hrun:(execOp a.eval o).run E.P w = .ok (.value (.slice (some ⟨w.heap.size,0,none⟩) m.toNat m.toNat)) w':=by
            rw [Int.toNat_of_nonneg h0] at h4
            simp only [execOp,ho,e1,e2,Sem.run_bind,h4,Result.andThen_ok]
            rfl
          have h7:w'.ownsRow w0.heap.size e 1 (.slice (some ⟨w.heap.size,0,none⟩) m.toNat m.toNat) (List.replicate m.toNat z).length ((List.replicate m.toNat z).map (Value.int k)):=by
            rw [List.length_replicate,List.map_replicate]
            exact h5
          obtain ⟨ρ',vl',h9,h10⟩:=hR.newInts (bw_grown h6 (run_drawn _ _ _ _ hrun)) (k:=k) (t:=e) (l:=List.replicate m.toNat z) ⟨by rw [List.length_replicate];omega,fun q hq=>by rw [(List.mem_replicate.1 hq).2];exact hzc.2⟩ h7
            (fun g hg=>by simp [Value.ownBlock] at hg;omega)
          exact ⟨_,_,_,_, ρ',vl',hk,hrun,h9,h10,bw_grown h6 (run_drawn _ _ _ _ hrun)⟩
        cases hn:nonneg lo <;> rw [hn] at h
        · simp only [cond_false] at h
          split at h
          · split at h
            · exact key (by assumption) (by assumption) h
            · cases h
          · cases h
        · simp only [cond_true] at h
          split at h
          · exact key (nonneg_ok hn g2) (by assumption) h
          · cases h
      · cases h
    · cases h
  · cases h
end
end Go.Proofs.YtbpcfhhcoklinaaGreat.Ab
namespace Go.Proofs.YtbpcfhhcoklinaaGreat.Ab
open Go Go.RowKit
noncomputable section
variable {β:Type} {E:En} {w0:World} {ok0:Nat→Prop} {gs:List Nat} {ρ:Nat→Nat} {vl:Nat→Value} {σ:St} {a:Act} {w:World}
def WrRes (E:En) (w0:World) (ok0:Nat→Prop) (gs:List Nat) (a:Act) (w:World) (o:Oper) (K:AV→St→Option β) (r:β):Prop:=
 ∃ x σ' v w' ρ' vl',K x σ'=some r∧(execOp a.eval o).run E.P w = .ok (.value v) w'∧Rel E w0 ok0 gs ρ' vl' σ' a w'∧VV (cx E w0 ok0 gs ρ' vl' σ' w') x v∧(∀ q,q∈gs→w'.heap[q]? = w.heap[q]?)∧w.heap.size≤w'.heap.size
def readRow (σ:St):Sc→Option (Option IntKind×List Int)
 | .rd k l=>some (some k,l)
 | .nils=>some (none,[])
 | .lst b=>(match σ.bl[b]? with
  | some (.ints k _ l)=>some (some k,l)
  | _=>none)
 | .win b o m n=>(match σ.bl[b]? with
  | some (.mix cs k m' l _)=>bif Nat.beq o cs.length&&(Nat.beq m m'&&Nat.ble m 1000) then some (some k,l.take n.toNat) else none
  | _=>none)
 | _=>none
theorem readRow_ok (hR:Rel E w0 ok0 gs ρ vl σ a w) {x:Sc} {k:Option IntKind} {l:List Int} {v:Value} (okp:Nat→Prop) (hk1:(∃ k l,x = .rd k l)→∀ g,(cx E w0 ok0 gs ρ vl σ w).ok g→okp g) (hk2:∀ b,(x = .lst b∨∃ o m n,x = .win b o m n)→∀ g,liveAt ρ vl σ b g→okp g) (h:readRow σ x=some (k,l)) (hv:VS (cx E w0 ok0 gs ρ vl σ w) x v):
  ∃ A c,v = .slice A l.length c∧l.length≤c∧l.length≤9223372036854775807∧(∀ n∈l,∃ k',k=some k'∧inK k' n)∧∀ k',k=some k'∨l=[]→Rds w okp A k' l:=by
 unfold readRow at h
 split at h
 ·rename_i k0 l0
  simp only [Option.some.injEq,Prod.mk.injEq] at h
  obtain ⟨rfl,rfl⟩:=h
  obtain ⟨A,c,h1,h2,h3,h4⟩:=hv
  refine ⟨A,c,h1,h2,h3.1,fun n hn=>⟨_,rfl,h3.2 n hn⟩,fun k' hk i hi=>?_⟩
  rcases hk with hk | rfl
  ·injection hk with hk
   subst hk
   obtain ⟨p,hp,h7,h5,h6⟩:=h4 i hi
   exact ⟨p,hp,hk1 ⟨_,_,rfl⟩ _ h7,h5,h6⟩
  ·simp at hi
 ·simp only [Option.some.injEq,Prod.mk.injEq] at h
  obtain ⟨rfl,rfl⟩:=h
  exact ⟨none,0,hv,Nat.le_refl _,by simp,by simp,fun k' _ i hi=>by simp at hi⟩
 ·rename_i b
  split at h
  ·rename_i k0 t0 l0 hb
   simp only [Option.some.injEq,Prod.mk.injEq] at h
   obtain ⟨rfl,rfl⟩:=h
   have hB:=hR.bl b _ hb
   have hv':v=vl b:=hv.2.1
   obtain ⟨A,c,h1,h2,h3,h4⟩:=own_reads hB.1 hB.2 okp (fun g hg=>hk2 b (.inl rfl) g ⟨_,hb,hg⟩)
   refine ⟨A,c,by rw [hv'];exact h1,h2,h3.1,fun n hn=>⟨_,rfl,h3.2 n hn⟩,fun k' hk=>?_⟩
   rcases hk with hk | rfl
   ·injection hk with hk
    subst hk
    exact h4
   ·exact fun i hi=>by simp at hi
  ·cases h
 ·rename_i b o m n
  split at h
  ·rename_i cs k0 m' l0 t0 hb
   have hq:=bif_some h
   clear h
   obtain ⟨hc,h⟩:=hq
   simp only [Bool.and_eq_true] at hc
   have c1:=Nat.eq_of_beq_eq_true hc.1
   have c2:=Nat.eq_of_beq_eq_true hc.2.1
   have c3:=Nat.le_of_ble_eq_true hc.2.2
   simp only [Option.some.injEq,Prod.mk.injEq] at h
   obtain ⟨rfl,rfl⟩:=h
   obtain ⟨h1,us,h2,h3,h4,h5⟩:=hR.bl b _ hb
   obtain ⟨-,hn0,hnm,c,hcc,rfl⟩:=hv
   have hul:=h3.length
   have hlen:(l0.take n.toNat).length=n.toNat:=by rw [List.length_take];omega
   refine ⟨_,c,by rw [hlen],by rw [hlen];exact hcc,by rw [hlen];omega,fun q hq=>⟨_,rfl,h5.2 q (List.mem_of_mem_take hq)⟩,fun k' hk i hi=>?_⟩
   rcases hk with hk | hk
   ·injection hk with hk
    subst hk
    have hi':i < l0.length:=by rw [hlen] at hi;omega
    refine ⟨_,rfl,hk2 b (.inr ⟨o,m,n,rfl⟩) _ ⟨_,hb,rfl⟩,h1, ?_⟩
    show w.cell? ((⟨ρ b,o,none⟩:Addr).add i)=_
    rw [Addr.add_mid,List.getElem_take]
    exact mix_cell (g:=ρ b) h2 (by omega) hi'
   ·rw [hk] at hi;simp at hi
  ·cases h
 ·cases h
theorem run_append_nothing {P:Program} {w:World} {t ty e:TypeId} {i:TypeInfo} {base size n c:Nat} {v:Value} {xs:List Value} (ht:P.underlying t=some (.slice e)) (hi:P.info? e=some i) (hown:w.ownsRow base e size v n xs):
  (Builtin.append_ #[t,t] ty #[v,.slice none 0 c]).run P w = .ok v w:=by
 rcases hown.2 with ⟨rfl,rfl⟩ | ⟨g,cap,cur,rfl,_,_,hnc,_⟩
 ·simp [Builtin.append_,run_underlying ht,sizeOf,typeInfo,hi,Builtin.lenOf,Builtin.firstCells]
 ·simp [Builtin.append_,run_underlying ht,sizeOf,typeInfo,hi,Builtin.lenOf,Builtin.firstCells,hnc,storeCells]
theorem run_append_row {P:Program} {w:World} {base:Nat} {t ty e:TypeId} {i:TypeInfo} {zv:Value} (ht:P.underlying t=some (.slice e)) (hi:P.info? e=some i) (hz:i.zero=some zv) (hs:i.size=1) (hzs:zv.cells.size=1)
  {k:IntKind} {l l2:List Int} {v:Value} {A:Option Addr} {c:Nat} (hown:w.ownsRow base e 1 v l.length (l.map (Value.int k))) (hr:Rds w (fun _=>True) A k l2) (hl:(l.length+l2.length)*i.bytes≤140737488355328) (hb0:0 < i.bytes) (hbase:base≤w.heap.size) (hAc:l2.length≤c):
  ∃ v' w',(Builtin.append_ #[t,t] ty #[v,.slice A l2.length c]).run P w = .ok v' w'∧w'.ownsRow base e 1 v' (l++l2).length ((l++l2).map (Value.int k))∧w.grownBy w' v.ownBlock∧(v'.ownBlock=v.ownBlock∨v'.ownBlock=some w.heap.size):=by
 have hle:l.length+l2.length≤140737488355328:=Nat.le_trans (Nat.le_mul_of_pos_right _ hb0) hl
 cases A with
 | none =>
  have:l2=[]:=by
   cases l2 with
   | nil=>rfl
   | cons x xs=>obtain ⟨p,hp, -⟩:=hr 0 (by simp);cases hp
  subst this
  refine ⟨v,w,run_append_nothing ht hi hown,by simpa using hown,⟨rfl,rfl,rfl,Nat.le_refl _,fun _ _ _=>rfl⟩,.inl rfl⟩
 | some p =>
  obtain ⟨v',w',h1,h2,h3, -,h4⟩:=run_append_own_at (P:=P) w base t ty e i zv 1 i.bytes ht hi hz hs rfl hzs (by omega) v l.length (l.map (Value.int k)) hown p l2.length c (l2.map (Value.int k)) (by simp)
   (fun j u hj=>by
    rw [List.getElem?_map] at hj
    cases hq:l2[j]? with
    | none=>rw [hq] at hj;cases hj
    | some n =>
     rw [hq] at hj
     obtain ⟨hjl,he⟩:=List.getElem?_eq_some_iff.1 hq
     obtain ⟨q,hq', -, -,h5⟩:=hr j hjl
     injection hq' with hq'
     subst hq'
     rw [h5,he]
     exact hj)
   (fun u hu=>by obtain ⟨n, -,rfl⟩:=List.mem_map.1 hu;rfl) (by simp only [maxLen];omega) hl hbase
  exact ⟨v',w',h1,by rw [List.length_append,List.map_append];exact h2,h3,h4⟩
def capL (bytes:Nat) (l l2:List Int) (K:Option β):Option β:=if l.length+l2.length≤140737488355328 / bytes then K else none
theorem capL_some {bytes:Nat} {l l2:List Int} {K:Option β} {r:β} (h:capL bytes l l2 K=some r):(l.length+l2.length)*bytes≤140737488355328∧K=some r:=by
 unfold capL at h
 split at h
 ·rename_i hm
  exact ⟨Nat.le_trans (Nat.mul_le_mul_right _ hm) (Nat.div_mul_le_self _ _),h⟩
 ·cases h
def fitsK (k:IntKind):Option IntKind→Bool
 | none=>true
 | some k'=>decide (k'=k)
def appTo (σ:St) (k:IntKind) (e:TypeId):Sc→Option (St×List Int)
 | .lst b=>(match σ.bl[b]? with
  | some (.ints k0 t0 l)=>bif decide (k0=k)&&Nat.beq t0 e then some (σ.setB b .dead,l) else none
  | _=>none)
 | .nils=>some (σ,[])
 | _=>none
def catL (x:Sc) (l l2:List Int):List Int:=
 match x with
 | .nils=>l2
 | _=>l++l2
def popApp (E:En) (σ:St) (c:Call) (K:AV→St→Option β):Option β:=
 match c.callee,c.args.toList,c.argTypes.toList with
 | .builtin .append,[x,y],[t,t']=>bif Nat.beq t t' then (match E.P.underlying t with
  | some (.slice e)=>(match E.P.info? e,zeroSc E e with
   | some i,some [.int k _ _ _]=>bif Nat.beq i.size 1&&Nat.blt 0 i.bytes then (match opd E σ x,opd E σ y with
    | some (.one (.s xs)),some (.one (.s ys))=>(match appTo σ k e xs,readRow σ ys with
     | some (σ1,l),some (k',l2)=>bif fitsK k k' then capL i.bytes l l2 (K (.one (.s (.lst σ.bl.length))) (σ1.new (.ints k e (catL xs l l2)))) else none
     | _,_=>none)
    | _,_=>none) else none
   | _,_=>none)
  | _=>none) else none
 | _,_,_=>none
theorem popApp_ok (hR:Rel E w0 ok0 gs ρ vl σ a w) {o:Oper} {c:Call} {K:AV→St→Option β} {r:β} (ho:o.op = .call c) (h:popApp E σ c K=some r):WrRes E w0 ok0 gs a w o K r:=by
 unfold popApp at h
 split at h
 ·rename_i x y t t' hc hargs hty
  obtain ⟨htt,hq⟩:=bif_some h
  clear h
  have h:=hq
  clear hq
  have htt':=Nat.eq_of_beq_eq_true htt
  clear htt
  subst htt'
  split at h
  ·rename_i e ht
   split at h
   ·rename_i i k z zl zh hi hz
    obtain ⟨hb,h⟩:=bif_some h
    simp only [Bool.and_eq_true] at hb
    have s1:=Nat.eq_of_beq_eq_true hb.1
    have s2:0 < i.bytes:=Nat.le_of_ble_eq_true hb.2
    obtain ⟨i',zv,h1,h2,h3⟩:=zeroSc_info (C:=cx E w0 ok0 gs ρ vl σ w) rfl hz
    rw [hi] at h1
    injection h1 with h1
    subst h1
    have hzs:zv.cells.size=1:=by have:=h3.len;simp at this;omega
    split at h
    ·rename_i xs ys hx hy
     have vx:=opd_ok hR hx
     have vy:=opd_ok hR hy
     split at h
     ·rename_i σ1 l k' l2 happ hrd
      obtain ⟨hk,h⟩:=bif_some h
      obtain ⟨hcap,h⟩:=capL_some h
      obtain ⟨A,cc,e2,e3,e4,e5,e6⟩:=readRow_ok hR (fun _=>True) (fun _ _ _=>trivial) (fun _ _ _ _=>trivial) hrd vy
      have hks:∀ n∈l2,inK k n:=by
       intro n hn
       obtain ⟨q,hq,h5⟩:=e5 n hn
       subst hq
       have:=of_decide_eq_true hk
       subst this
       exact h5
      have hrds:Rds w (fun _=>True) A k l2:=by
       refine e6 k ?_
       cases k' with
       | none =>
        refine .inr ?_
        cases l2 with
        | nil=>rfl
        | cons n r=>obtain ⟨q,hq, -⟩:=e5 n (by simp);cases hq
       | some q=>exact .inl (by rw [of_decide_eq_true hk])
      have hlen:l.length+l2.length≤140737488355328:=Nat.le_trans (Nat.le_mul_of_pos_right _ s2) hcap
      have hrun:∀ v v' w',a.eval x=v→(Builtin.append_ #[t,t] o.type #[v,.slice A l2.length cc]).run E.P w = .ok v' w'→(execOp a.eval o).run E.P w = .ok (.value v') w':=by
       rintro v v' w' rfl hrun
       have ha:c.args.map a.eval = #[a.eval x,a.eval y]:=by rw [← Array.toArray_toList (xs:=c.args.map a.eval),Array.toList_map,hargs];rfl
       have hat:c.argTypes = #[t,t]:=by rw [← Array.toArray_toList (xs:=c.argTypes),hty]
       have e2':a.eval y = .slice A l2.length cc:=e2
       rw [e2'] at ha
       simp only [execOp,ho,resolve,hc,Sem.run_bind,Sem.run_pure,Result.andThen_ok,invoke,builtin,ha,hat,hrun]
      cases xs with
      | lst b =>
       unfold appTo at happ
       simp only at happ
       split at happ
       ·rename_i k0 t0 l0 hbl
        obtain ⟨hd,happ2⟩:=bif_some happ
        clear happ
        simp only [Bool.and_eq_true] at hd
        have d1:=of_decide_eq_true hd.1
        have d2:=Nat.eq_of_beq_eq_true hd.2
        subst d1 d2
        simp only [Option.some.injEq,Prod.mk.injEq] at happ2
        obtain ⟨rfl,rfl⟩:=happ2
        obtain ⟨-,hvx, -⟩:=vx
        obtain ⟨hin,hown⟩:=hR.bl b _ hbl
        obtain ⟨v',w',h5,h6,h7,h8⟩:=run_append_row (ty:=o.type) ht hi h2 s1 hzs hown hrds hcap s2 hR.bw.size e3
        obtain ⟨ρ',vl',h9,h10⟩:=hR.grown hbl (k:=k0) (t:=t0) (l:=l0++l2) ⟨by rw [List.length_append];omega,fun n hn=>by rcases List.mem_append.1 hn with hn | hn;exact hin.2 n hn;exact hks n hn⟩ (run_drawn _ _ _ _ h5) h7 h6
         (fun g hg=>h8.elim (fun h8=>.inl (h8.symm.trans hg)) fun h8=>.inr (Nat.le_of_eq (Option.some.inj (h8.symm.trans hg))))
        exact ⟨_,_,_,_, ρ',vl',h,hrun _ _ _ hvx h5,h9,h10,fun q hq=>h7.block q (hR.bw.hid q hq).2 (fun he=>(hR.own b q ⟨_,hbl,he.symm⟩).1.2 hq),h7.size⟩
       ·cases happ
      | nils =>
       simp only [appTo,Option.some.injEq,Prod.mk.injEq] at happ
       obtain ⟨rfl,rfl⟩:=happ
       obtain ⟨v',w',h5,h6,h7,h8⟩:=run_append_row (ty:=o.type) (l:=[]) ht hi h2 s1 hzs (World.ownsRow_nil w w0.heap.size e 1) hrds hcap s2 hR.bw.size e3
       obtain ⟨ρ',vl',h9,h10⟩:=hR.newInts (bw_grown h7 (run_drawn _ _ _ _ h5)) (k:=k) (t:=e) (l:=l2) ⟨by omega,hks⟩ h6
        (fun g hg=>h8.elim (fun h8=>by cases h8.symm.trans hg) fun h8=>Nat.le_of_eq (Option.some.inj (h8.symm.trans hg)))
       exact ⟨_,_,_,_, ρ',vl',h,hrun _ _ _ vx h5,h9,h10,fun q hq=>h7.block q (hR.bw.hid q hq).2 (by simp [Value.ownBlock]),h7.size⟩
      | _=>simp [appTo] at happ
     ·cases h
    ·cases h
   ·cases h
  ·cases h
 ·cases h
theorem cp_vals {C:Cx}:∀ {ks:List Ck} {x:CT ks} {us:List Value},noRow ks=true→CpVs C (CT.mk ks x) us→us=CT.vals ks x∧CT.wf ks x:=by
 have one:∀ (k:Ck) (x:k.T) (u:Value),noRow [k]=true→CpV C (k.mk x) u→u=k.val x∧k.wf x:=by
  intro k x u h hw
  cases k with
  | int k=>exact ⟨hw.1,hw.2⟩
  | bool=>exact ⟨hw,trivial⟩
  | row k=>cases h
 have two:∀ {k:Ck} {r:List Ck},noRow (k :: r)=true→noRow [k]=true∧noRow r=true:=by
  intro k r h
  cases k <;> first | exact ⟨rfl,h⟩ | cases h
 intro ks
 induction ks with
 | nil =>
  intro x us _ h
  cases us with
  | nil=>exact ⟨rfl,trivial⟩
  | cons _ _=>exact h.elim
 | cons k r ih =>
  intro x us hn h
  cases r with
  | nil =>
   cases us with
   | nil=>exact h.elim
   | cons u us =>
    cases us with
    | nil =>
     obtain ⟨h1,h2⟩:=one k x u hn h.1
     exact ⟨by rw [h1];rfl,h2⟩
    | cons _ _=>exact h.2.elim
  | cons k2 r =>
   cases us with
   | nil=>exact h.elim
   | cons u us =>
    obtain ⟨h1,h2⟩:=one k x.1 u (two hn).1 h.1
    obtain ⟨h3,h4⟩:=ih (two hn).2 h.2
    exact ⟨by rw [h1,h3];rfl,h2,h4⟩
def readRowS (σ:St) (ks:List Ck):Sc→Option (List (CT ks))
 | .rds ks' l=>castL ks ks' l
 | .nils=>some []
 | .lss b=>(match σ.bl[b]? with
  | some (.rows ks' _ l)=>castL ks ks' l
  | _=>none)
 | .sst b n sz=>(match σ.bl[b]? with
  | some (.cells cs _)=>bif (Nat.beq sz ks.length&&Nat.ble n 1000)&&Nat.beq cs.length (n*sz) then splitS ks n cs else none
  | _=>none)
 | _=>none
theorem readRowS_ok (hR:Rel E w0 ok0 gs ρ vl σ a w) {x:Sc} {ks:List Ck} {l:List (CT ks)} {v:Value} (hn:noRow ks=true) (hp:0 < ks.length) (h:readRowS σ ks x=some l) (hv:VS (cx E w0 ok0 gs ρ vl σ w) x v):
  VS (C0 E.eT w fun _=>True) (.rds ks l) v∧∀ y∈l,CT.wf ks y:=by
 have wfs:∀ {l:List (CT ks)} {v:Value},VS (C0 E.eT w fun _=>True) (.rds ks l) v→∀ y∈l,CT.wf ks y:=by
  intro l v hv y hy
  obtain ⟨A,c, -, -, -,h4⟩:=hv
  obtain ⟨i,hi,rfl⟩:=List.getElem_of_mem hy
  obtain ⟨g,off, -, -, -,us,h5, -⟩:=h4 i hi
  exact (cp_vals hn h5).2
 unfold readRowS at h
 split at h
 ·have hk:=castL_ok h
  rw [hk] at hv
  obtain ⟨A,c,h1,h2,h3,h4⟩:=hv
  have:VS (C0 E.eT w fun _=>True) (.rds ks l) v:=⟨A,c,h1,h2,h3,fun i hi=>by
   obtain ⟨g,off,h5,h6⟩:=h4 i hi
   exact ⟨g,off,h5,h6.into (okA:=fun _=>True) (fun _ _=>trivial)⟩⟩
  exact ⟨this,wfs this⟩
 ·injection h with h
  subst h
  exact ⟨⟨none,0,hv,by simp,by simp,fun i hi=>by simp at hi⟩,by simp⟩
 ·rename_i b
  split at h
  ·rename_i ks' t l' hb
   have hk:=castL_ok h
   have hB:=hR.bl b _ hb
   have hv':v=vl b:=hv.2.1
   have:=own_readsS (C:=C0 E.eT w fun _=>True) hB.1 hB.2 (fun _ _=>trivial)
   rw [hk] at this
   rw [hv']
   exact ⟨this,wfs this⟩
  ·cases h
 ·rename_i b n sz
  split at h
  ·rename_i cs t hb
   have hq:=bif_some h
   clear h
   obtain ⟨hc,h⟩:=hq
   simp only [Bool.and_eq_true] at hc
   have c1:=Nat.eq_of_beq_eq_true hc.1.1
   have c2:=Nat.eq_of_beq_eq_true hc.2
   have c3:=Nat.le_of_ble_eq_true hc.1.2
   subst c1
   obtain ⟨h1,vs,h2,h3⟩:=hR.bl b _ hb
   obtain ⟨h4,h5,h6⟩:=splitS_ok h h3
   obtain ⟨-,rfl⟩:=hv
   have hl:=h3.len
   have hall:vs.toList=flatV ks l:=by rw [← h5,List.take_of_length_le (by simp;omega)]
   have h2':w.heap[ρ b]? = some (.cells vs t (0,0)):=h2
   refine ⟨⟨some ⟨ρ b,0,none⟩,n,by rw [h4];rfl,by omega,by omega,fun i hi=>⟨ρ b,0,rfl,trivial,h1,CT.vals ks l[i],vals_cp hn (h6 _ (List.getElem_mem hi)),fun j u hj=>?_⟩⟩,h6⟩
   have hjl:j < ks.length:=by have:=(List.getElem?_eq_some_iff.1 hj).1;rw [CT.vals_len] at this;exact this
   show w.cell? ⟨ρ b,0+i*ks.length+j,none⟩=some u
   rw [Nat.zero_add,cell_at h2']
   have:=flatV_get l i j hi hjl
   rw [hj,← hall] at this
   simpa using this
  ·cases h
 ·cases h
theorem rds_cells {C:Cx} {ks:List Ck} {l:List (CT ks)} {A:Option Addr} {n c:Nat} (hn:noRow ks=true) (hp:0 < ks.length) (h:VS C (.rds ks l) (.slice A n c)):n=l.length∧l.length≤c∧l.length≤9223372036854775807∧(A=none→l=[])∧∀ p,A=some p→∀ j u,(flatV ks l)[j]? = some u→C.w.cell? (p.add j)=some u:=by
 obtain ⟨A',c',h1,h2,h3,h4⟩:=h
 injection h1 with e1 e2 e3
 subst e1 e2 e3
 refine ⟨rfl,h2,h3,fun hA=>?_,fun p hA j u hj=>?_⟩
 ·cases l with
  | nil=>rfl
  | cons x r=>obtain ⟨g,off,h5, -⟩:=h4 0 (by simp);rw [hA] at h5;cases h5
 ·have hjl:j < l.length*ks.length:=by have:=(List.getElem?_eq_some_iff.1 hj).1;rw [flatV_len] at this;exact this
  have hi:j / ks.length < l.length:=(Nat.div_lt_iff_lt_mul hp).2 hjl
  have hq:j%ks.length < ks.length:=Nat.mod_lt _ hp
  have hdm:j / ks.length*ks.length+j%ks.length=j:=by rw [Nat.mul_comm];exact Nat.div_add_mod _ _
  obtain ⟨g,off,h5, -, -,us,h6,h7⟩:=h4 _ hi
  rw [hA] at h5
  injection h5 with h5
  subst h5
  obtain ⟨rfl, -⟩:=cp_vals hn h6
  have:=flatV_get l _ _ hi hq
  rw [hdm,hj] at this
  have:=h7 _ u this.symm
  rw [Addr.add_mid,← this]
  congr 2
  omega
theorem vals_one {ks:List Ck}:∀ {l:List (CT ks)} (u:Value),u∈flatV ks l→u.oneCell'=true:=by
 have one:∀ (k:Ck) (x:k.T),(k.val x).oneCell'=true:=by intro k x;cases k <;> rfl
 have key:∀ (ks:List Ck) (x:CT ks) (u:Value),u∈CT.vals ks x→u.oneCell'=true:=by
  intro ks
  induction ks with
  | nil=>intro x u hu;cases hu
  | cons k r ih =>
   intro x u hu
   cases r with
   | nil =>
    rcases List.mem_cons.1 hu with rfl | hu
    ·exact one k x
    ·cases hu
   | cons k2 r =>
    rcases List.mem_cons.1 hu with rfl | hu
    ·exact one k x.1
    ·exact ih x.2 u hu
 intro l u hu
 unfold flatV at hu
 obtain ⟨y,hy,hu⟩:=List.mem_flatten.1 hu
 obtain ⟨x, -,rfl⟩:=List.mem_map.1 hy
 exact key ks x u hu
theorem run_append_rowS {P:Program} {C:Cx} {base:Nat} {t ty e:TypeId} {i:TypeInfo} {zv:Value} (ht:P.underlying t=some (.slice e)) (hi:P.info? e=some i) (hz:i.zero=some zv) {ks:List Ck} (hs:i.size=ks.length) (hzs:zv.cells.size=ks.length) (hn:noRow ks=true) (hp:0 < ks.length)
  {l l2:List (CT ks)} {v:Value} {A:Option Addr} {n c:Nat} (hown:C.w.ownsRow base e ks.length v l.length (flatV ks l)) (hr:VS C (.rds ks l2) (.slice A n c)) (hl:(l.length+l2.length)*i.bytes≤140737488355328) (hb0:0 < i.bytes) (hbase:base≤C.w.heap.size):
  ∃ v' w',(Builtin.append_ #[t,t] ty #[v,.slice A n c]).run P C.w = .ok v' w'∧w'.ownsRow base e ks.length v' (l++l2).length (flatV ks (l++l2))∧C.w.grownBy w' v.ownBlock∧(v'.ownBlock=v.ownBlock∨v'.ownBlock=some C.w.heap.size):=by
 have hle:l.length+l2.length≤140737488355328:=Nat.le_trans (Nat.le_mul_of_pos_right _ hb0) hl
 obtain ⟨rfl,h1,h2,h3,h4⟩:=rds_cells hn hp hr
 cases A with
 | none =>
  have:=h3 rfl
  subst this
  exact ⟨v,C.w,run_append_nothing ht hi hown,by simpa using hown,⟨rfl,rfl,rfl,Nat.le_refl _,fun _ _ _=>rfl⟩,.inl rfl⟩
 | some p =>
  obtain ⟨v',w',h5,h6,h7, -,h8⟩:=run_append_own_at (P:=P) C.w base t ty e i zv ks.length i.bytes ht hi hz hs rfl hzs hp v l.length (flatV ks l) hown p l2.length c (flatV ks l2) (flatV_len l2) (h4 p rfl) vals_one (by simp only [maxLen];omega) hl hbase
  exact ⟨v',w',h5,by rw [List.length_append,flatV_append];exact h6,h7,h8⟩
def capS {α:Type} (bytes:Nat) (l l2:List α) (K:Option β):Option β:=if l.length+l2.length≤140737488355328 / bytes then K else none
theorem capS_some {α:Type} {bytes:Nat} {l l2:List α} {K:Option β} {r:β} (h:capS bytes l l2 K=some r):(l.length+l2.length)*bytes≤140737488355328∧K=some r:=by
 unfold capS at h
 split at h
 ·rename_i hm
  exact ⟨Nat.le_trans (Nat.mul_le_mul_right _ hm) (Nat.div_mul_le_self _ _),h⟩
 ·cases h
def appToS (σ:St) (ks:List Ck) (e:TypeId):Sc→Option (St×List (CT ks))
 | .lss b=>(match σ.bl[b]? with
  | some (.rows ks0 t0 l)=>bif Nat.beq t0 e then (match castL ks ks0 l with
   | some l=>some (σ.setB b .dead,l)
   | none=>none) else none
  | _=>none)
 | .nils=>some (σ,[])
 | _=>none
def catS {α:Type} (x:Sc) (l l2:List α):List α:=
 match x with
 | .nils=>l2
 | _=>l++l2
def popAppS (E:En) (σ:St) (c:Call) (K:AV→St→Option β):Option β:=
 match c.callee,c.args.toList,c.argTypes.toList with
 | .builtin .append,[x,y],[t,t']=>bif Nat.beq t t' then (match E.P.underlying t with
  | some (.slice e)=>(match E.P.info? e,zeroSc E e with
   | some i,some z=>(match ksOf z with
    | some ks=>bif (Nat.beq i.size ks.length&&Nat.blt 0 ks.length)&&Nat.blt 0 i.bytes then (match opd E σ x,opd E σ y with
     | some (.one (.s xs)),some (.one (.s ys))=>(match appToS σ ks e xs,readRowS σ ks ys with
      | some (σ1,l),some l2=>capS i.bytes l l2 (K (.one (.s (.lss σ.bl.length))) (σ1.new (.rows ks e (catS xs l l2))))
      | _,_=>none)
     | _,_=>none) else none
    | none=>none)
   | _,_=>none)
  | _=>none) else none
 | _,_,_=>none
theorem popAppS_ok (hR:Rel E w0 ok0 gs ρ vl σ a w) {o:Oper} {c:Call} {K:AV→St→Option β} {r:β} (ho:o.op = .call c) (h:popAppS E σ c K=some r):WrRes E w0 ok0 gs a w o K r:=by
 unfold popAppS at h
 split at h
 ·rename_i x y t t' hc hargs hty
  have hq:=bif_some h
  clear h
  obtain ⟨htt,h⟩:=hq
  have htt':=Nat.eq_of_beq_eq_true htt
  clear htt
  subst htt'
  split at h
  ·rename_i e ht
   split at h
   ·rename_i i z hi hz
    split at h
    ·rename_i ks hks
     obtain ⟨hnr,hkl⟩:=ksOf_ok hks
     have hq:=bif_some h
     clear h
     obtain ⟨hb,h⟩:=hq
     simp only [Bool.and_eq_true] at hb
     have s1:=Nat.eq_of_beq_eq_true hb.1.1
     have s0:0 < ks.length:=Nat.le_of_ble_eq_true hb.1.2
     have s2:0 < i.bytes:=Nat.le_of_ble_eq_true hb.2
     obtain ⟨i',zv,h1,h2,h3⟩:=zeroSc_info (C:=cx E w0 ok0 gs ρ vl σ w) rfl hz
     rw [hi] at h1
     injection h1 with h1
     subst h1
     have hzs:zv.cells.size=ks.length:=by have:=h3.len;omega
     split at h
     ·rename_i xs ys hx hy
      have vx:=opd_ok hR hx
      have vy:=opd_ok hR hy
      split at h
      ·rename_i σ1 l l2 happ hrd
       obtain ⟨hcap,h⟩:=capS_some h
       obtain ⟨hrv,hwf⟩:=readRowS_ok hR hnr s0 hrd vy
       obtain ⟨A,cc,e2,e3,e4, -⟩:=hrv
       have hrv:VS (C0 E.eT w fun _=>True) (.rds ks l2) (a.eval y):=(readRowS_ok hR hnr s0 hrd vy).1
       rw [show a.eval y = .slice A l2.length cc from e2] at hrv
       have hlen:l.length+l2.length≤140737488355328:=Nat.le_trans (Nat.le_mul_of_pos_right _ s2) hcap
       have hrun:∀ v v' w',a.eval x=v→(Builtin.append_ #[t,t] o.type #[v,.slice A l2.length cc]).run E.P w = .ok v' w'→(execOp a.eval o).run E.P w = .ok (.value v') w':=by
        rintro v v' w' rfl hrun
        have ha:c.args.map a.eval = #[a.eval x,a.eval y]:=by rw [← Array.toArray_toList (xs:=c.args.map a.eval),Array.toList_map,hargs];rfl
        have hat:c.argTypes = #[t,t]:=by rw [← Array.toArray_toList (xs:=c.argTypes),hty]
        have e2':a.eval y = .slice A l2.length cc:=e2
        rw [e2'] at ha
        simp only [execOp,ho,resolve,hc,Sem.run_bind,Sem.run_pure,Result.andThen_ok,invoke,builtin,ha,hat,hrun]
       cases xs with
       | lss b =>
        unfold appToS at happ
        simp only at happ
        split at happ
        ·rename_i ks0 t0 l0 hbl
         obtain ⟨hd,happ2⟩:=bif_some happ
         clear happ
         have d2:=Nat.eq_of_beq_eq_true hd
         subst d2
         split at happ2
         ·rename_i l0' hcl
          simp only [Option.some.injEq,Prod.mk.injEq] at happ2
          obtain ⟨rfl,rfl⟩:=happ2
          have hbl':σ.bl[b]? = some (.rows ks t0 l0'):=by
           unfold castL at hcl
           split at hcl
           ·rename_i he
            subst he
            injection hcl with hcl
            subst hcl
            exact hbl
           ·cases hcl
          obtain ⟨-,hvx, -⟩:=vx
          obtain ⟨hin,hown⟩:=hR.bl b _ hbl'
          obtain ⟨v',w',h5,h6,h7,h8⟩:=run_append_rowS (C:=C0 E.eT w fun _=>True) (ty:=o.type) ht hi h2 s1 hzs hnr s0 hown hrv hcap s2 hR.bw.size
          obtain ⟨ρ',vl',h9,h10⟩:=hR.grownRows hbl' (ks:=ks) (t:=t0) (l:=l0'++l2) ⟨by rw [List.length_append];omega,⟨hnr,s0⟩,fun n hn=>by rcases List.mem_append.1 hn with hn | hn;exact hin.2.2 n hn;exact hwf n hn⟩ (run_drawn _ _ _ _ h5) h7 h6
           (fun g hg=>h8.elim (fun h8=>.inl (h8.symm.trans hg)) fun h8=>.inr (Nat.le_of_eq (Option.some.inj (h8.symm.trans hg))))
          exact ⟨_,_,_,_, ρ',vl',h,hrun _ _ _ hvx h5,h9,h10,fun q hq=>h7.block q (hR.bw.hid q hq).2 (fun he=>(hR.own b q ⟨_,hbl',he.symm⟩).1.2 hq),h7.size⟩
         ·cases happ2
        ·cases happ
       | nils =>
        simp only [appToS,Option.some.injEq,Prod.mk.injEq] at happ
        obtain ⟨rfl,rfl⟩:=happ
        obtain ⟨v',w',h5,h6,h7,h8⟩:=run_append_rowS (C:=C0 E.eT w fun _=>True) (ty:=o.type) (l:=[]) ht hi h2 s1 hzs hnr s0 (World.ownsRow_nil w w0.heap.size e ks.length) hrv hcap s2 hR.bw.size
        obtain ⟨ρ',vl',h9,h10⟩:=hR.newRows (bw_grown h7 (run_drawn _ _ _ _ h5)) (ks:=ks) (t:=e) (l:=l2) ⟨by omega,⟨hnr,s0⟩,hwf⟩ h6
         (fun g hg=>h8.elim (fun h8=>by cases h8.symm.trans hg) fun h8=>Nat.le_of_eq (Option.some.inj (h8.symm.trans hg)))
        exact ⟨_,_,_,_, ρ',vl',h,hrun _ _ _ vx h5,h9,h10,fun q hq=>h7.block q (hR.bw.hid q hq).2 (by simp [Value.ownBlock]),h7.size⟩
       | _=>simp [appToS] at happ
      ·cases h
     ·cases h
    ·cases h
   ·cases h
  ·cases h
 ·cases h
def cpy (l l2:List Int) (n:Int):List Int:=l2.take n.toNat++l.drop (l2.take n.toNat).length
def popCopy (E:En) (σ:St) (c:Call) (K:AV→St→Option β):Option β:=
 match c.callee,c.args.toList,c.argTypes.toList with
 | .builtin .copy,[x,y],[t,_]=>(match E.P.underlying t with
  | some (.slice e)=>(match E.P.info? e with
   | some i=>bif Nat.beq i.size 1 then (match opd E σ x,opd E σ y with
    | some (.one (.s (.win b o m n))),some (.one (.s ys))=>(match σ.bl[b]?,readRow σ ys with
     | some (.mix cs k m' l t0),some (k',l2)=>bif mayWr E b&&(fitsK k k'&&(Nat.beq o cs.length&&(Nat.beq m m'&&Nat.ble m 1000))) then K (.one (.s (.int .i64 (nI (l2.take n.toNat).length) (some 0) none))) (σ.setB b (.mix cs k m' (cpy l l2 n) t0)) else none
     | _,_=>none)
    | _,_=>none) else none
   | none=>none)
  | _=>none)
 | _,_,_=>none
theorem popCopy_ok (hR:Rel E w0 ok0 gs ρ vl σ a w) {o:Oper} {c:Call} {K:AV→St→Option β} {r:β} (ho:o.op = .call c) (h:popCopy E σ c K=some r):WrRes E w0 ok0 gs a w o K r:=by
 unfold popCopy at h
 split at h
 ·rename_i x y t t' hc hargs hty
  split at h
  ·rename_i e ht
   split at h
   ·rename_i i hi
    obtain ⟨hs,h⟩:=bif_some h
    have hs:=Nat.eq_of_beq_eq_true hs
    split at h
    ·rename_i b off m n ys hx hy
     split at h
     ·rename_i cs k m' l t0 k' l2 hb hrd
      obtain ⟨hq,h⟩:=bif_some h
      simp only [Bool.and_eq_true] at hq
      obtain ⟨hmw,hk,c1,c2,c3⟩:=hq
      have c1:=Nat.eq_of_beq_eq_true c1
      have c2:=Nat.eq_of_beq_eq_true c2
      have c3:=Nat.le_of_ble_eq_true c3
      subst c2
      obtain ⟨-,hn0,hnm,cap,hcap,e1⟩:=opd_ok hR hx
      have e1':a.eval x = .slice (some ⟨ρ b,off,none⟩) n.toNat cap:=e1
      obtain ⟨A,cc,e2,e3,e4,e5,e6⟩:=readRow_ok hR (fun _=>True) (fun _ _ _=>trivial) (fun _ _ _ _=>trivial) hrd (opd_ok hR hy)
      have e2':a.eval y = .slice A l2.length cc:=e2
      obtain ⟨h2,us,h3,h4,h4m,h4i⟩:=hR.bl b _ hb
      have hul:=h4.length
      have h3':w.heap[ρ b]? = some (.cells (us++l.map (Value.int k)).toArray t0 (0,0)):=h3
      let cl:List Value:=(l2.take n.toNat).map (Value.int k)
      have hcl:cl.length=Nat.min l2.length n.toNat:=by simp [cl,Nat.min_comm]
      have hclm:cl.length≤m:=by rw [hcl];exact Nat.le_trans (Nat.min_le_right _ _) (by omega)
      have hrds:Rds w (fun _=>True) A k l2:=by
       refine e6 k ?_
       cases k' with
       | none =>
        refine .inr ?_
        cases l2 with
        | nil=>rfl
        | cons n r=>obtain ⟨q,hq, -⟩:=e5 n (by simp);cases hq
       | some q=>exact .inl (by rw [of_decide_eq_true hk])
      have hks:∀ q,q∈l2→inK k q:=by
       intro q hq
       obtain ⟨k2,h5,h6⟩:=e5 q hq
       subst h5
       have:=of_decide_eq_true hk
       subst this
       exact h6
      have hcp:(Builtin.copy_ #[t,t'] o.type #[.slice (some ⟨ρ b,off,none⟩) n.toNat cap,.slice A l2.length cc]).run E.P w = .ok (goInt cl.length) (w.setCells (ρ b) off cl):=by
       cases A with
       | none =>
        have:l2=[]:=by
         cases l2 with
         | nil=>rfl
         | cons x xs=>obtain ⟨p,hp, -⟩:=hrds 0 (by simp);cases hp
        subst this
        have hz:cl=[]:=by simp [cl]
        rw [hz]
        exact run_copy_none w t t' o.type e (some ⟨ρ b,off,none⟩) none n.toNat cap 0 cc ht (by rw [hi];simp [hs]) (Nat.zero_min _)
       | some p =>
        refine run_copy_cells w t t' o.type e (ρ b) off _ _ p _ _ cl ht (by rw [hi];simp [hs]) hcl (fun j v hj=>?_) (fun j hj=>?_) (fun j hj=>?_) (fun v hv=>?_)
        ·simp only [cl,List.getElem?_map,List.getElem?_take] at hj
         split at hj
         ·cases hq:l2[j]? with
          | none=>rw [hq] at hj;cases hj
          | some z =>
           rw [hq] at hj
           obtain ⟨hjl,he⟩:=List.getElem?_eq_some_iff.1 hq
           obtain ⟨q,hq', -, -,h5⟩:=hrds j hjl
           injection hq' with hq'
           subst hq'
           rw [h5,he]
           exact hj
         ·cases hj
        ·rw [c1,show cs.length+j=cs.length+j from rfl,mix_cell (g:=ρ b) h3' (o:=cs.length) (by omega) (show j < l.length by omega)]
         rfl
        ·simp [World.frozen?,h3']
        ·obtain ⟨z, -,rfl⟩:=List.mem_map.1 hv
         rfl
      have hrun:(execOp a.eval o).run E.P w = .ok (.value (goInt cl.length)) (w.setCells (ρ b) off cl):=by
       have ha:c.args.map a.eval = #[a.eval x,a.eval y]:=by rw [← Array.toArray_toList (xs:=c.args.map a.eval),Array.toList_map,hargs];rfl
       have hat:c.argTypes = #[t,t']:=by rw [← Array.toArray_toList (xs:=c.argTypes),hty]
       rw [e1',e2'] at ha
       simp only [execOp,ho,resolve,hc,Sem.run_bind,Sem.run_pure,Result.andThen_ok,invoke,builtin,ha,hat,hcp]
      refine ⟨_,_,_,_, ρ,vl,h,hrun, ?_, ?_,fun q hq=>?_,Nat.le_of_eq (setCells_size _ _ _ _).symm⟩
      ·refine hR.written (g:=ρ b) hmw ⟨_,hb,rfl⟩ (bw_setCells w (ρ b) off cl) rfl (fun hle'=>?_)
       obtain ⟨vs',h10,h11⟩:=heap_setCells t0 (0,0) (ρ b) cl off w _ h3'
       have h12:vs'.toList=us++(cpy l l2 n).map (Value.int k):=by
        rw [h11]
        show setSegV (us++l.map (Value.int k)) off cl=_
        rw [setSegV_eq _ _ _ (by simp;omega),c1,hul,List.take_left,List.append_assoc]
        congr 1
        unfold cpy
        rw [List.map_append]
        congr 1
        rw [← List.drop_drop,List.drop_left,List.map_drop]
        simp [cl]
       refine ⟨?_,us, ?_,h4.lift hle', ?_, ?_,fun q hq=>?_⟩
       ·show ρ b < (w.setCells (ρ b) off cl).heap.size
        rw [setCells_size]
        exact h2
       ·show (w.setCells (ρ b) off cl).heap[ρ b]? = _
        rw [h10,← h12]
       ·unfold cpy
        have:(l2.take n.toNat).length=cl.length:=by simp [cl]
        rw [List.length_append,List.length_drop,this]
        omega
       ·unfold cpy
        have:(l2.take n.toNat).length=cl.length:=by simp [cl]
        rw [List.length_append,List.length_drop,this]
        omega
       ·unfold cpy at hq
        rcases List.mem_append.1 hq with hq | hq
        ·exact hks q (List.mem_of_mem_take hq)
        ·exact h4i.2 q (List.mem_of_mem_drop hq)
      ·rw [nI_eq]
       have:(l2.take n.toNat).length=cl.length:=by simp [cl]
       rw [this]
       exact ⟨rfl,inK_len (by omega),fun a ha=>by injection ha with ha;omega,fun a ha=>by cases ha⟩
      ·exact (bw_setCells w (ρ b) off _).block q (hR.bw.hid q hq).2 (fun hm=>(hR.own b (ρ b) ⟨_,hb,rfl⟩).1.2 (by simp at hm;subst hm;exact hq))
     ·cases h
    ·cases h
   ·cases h
  ·cases h
 ·cases h
end
end Go.Proofs.YtbpcfhhcoklinaaGreat.Ab
namespace Go.Proofs.YtbpcfhhcoklinaaGreat.Ab
open Go Go.RowKit
noncomputable section
variable {β:Type} {E:En} {w0:World} {ok0:Nat→Prop} {gs:List Nat} {ρ:Nat→Nat} {vl:Nat→Value} {σ:St} {a:Act} {w:World}
def bound (E:En) (σ:St):Option Operand→Option (Option (Int×Option Int))
 | none=>some none
 | some x=>(match opd E σ x with
  | some (.one (.s (.int _ n lo _)))=>some (some (n,lo))
  | _=>none)
def BoundV (q:Option (Int×Option Int)) (v:Option Value):Prop:=
 match q,v with
 | none,none=>True
 | some (n,lo),some v=>∃ k,v = .int k n∧∀ a,lo=some a→a≤n
 | _,_=>False
theorem bound_ok (hR:Rel E w0 ok0 gs ρ vl σ a w) {x:Option Operand} {q:Option (Int×Option Int)} (h:bound E σ x=some q):BoundV q (x.map a.eval):=by
 unfold bound at h
 split at h
 ·injection h with h;subst h;trivial
 ·split at h
  ·rename_i k n lo hi hx
   injection h with h
   subst h
   obtain ⟨e1, -,e2, -⟩:=opd_ok hR hx
   exact ⟨k,e1,e2⟩
  ·cases h
def ge0 (n:Int) (lo:Option Int) (K:Option β):Option β:=bif nonneg lo then K else if 0≤n then K else none
theorem ge0_some {n:Int} {lo:Option Int} {K:Option β} {r:β} (hl:∀ a,lo=some a→a≤n) (h:ge0 n lo K=some r):0≤n∧K=some r:=by
 unfold ge0 at h
 cases hn:nonneg lo <;> rw [hn] at h
 ·simp only [cond_false] at h
  split at h
  ·exact ⟨by assumption,h⟩
  ·cases h
 ·exact ⟨nonneg_ok hn hl,h⟩
def ends (m:Nat) (lo hi:Option (Int×Option Int)) (Kl Kh:Int→Option β) (Klh:Int→Int→Option β) (Ka:Option β):Option β:=
 match lo,hi with
 | none,none=>Ka
 | some (x,l),none=>ge0 x l (if x≤nI m then Kl x else none)
 | none,some (y,l)=>ge0 y l (if y≤nI m then Kh y else none)
 | some (x,l),some (y,_)=>ge0 x l (if x≤y then (if y≤nI m then Klh x y else none) else none)
def rowCut (l:List Int) (lo hi:Option (Int×Option Int)) (K:List Int→Option β):Option β:=
 ends l.length lo hi (fun x=>K (l.drop x.toNat)) (fun y=>K (l.take y.toNat)) (fun x y=>K ((l.take y.toNat).drop x.toNat)) (K l)
def strCut (s:ByteArray) (lo hi:Option (Int×Option Int)) (K:ByteArray→Option β):Option β:=
 ends s.size lo hi (fun x=>K (s.extract x.toNat s.size)) (fun y=>K (s.extract 0 y.toNat)) (fun x y=>K (s.extract x.toNat y.toNat)) (K (s.extract 0 s.size))
theorem sizeOf_run {P:Program} {e:TypeId} {i:TypeInfo} (hi:P.info? e=some i) (w:World):(sizeOf e).run P w = .ok i.size w:=by simp [sizeOf,typeInfo,hi]
theorem rds_cut {w:World} {ok:Nat→Prop} {A:Option Addr} {k:IntKind} {l:List Int} {c x y:Nat} (h:Rds w ok A k l) (hxy:x≤y) (hy:y≤l.length) (hc:l.length≤c):
  Rds w ok (if c=x then A else A.map (·.add (x*1))) k ((l.take y).drop x):=by
 intro i hi
 have hi':i+x < y:=by simp at hi;omega
 obtain ⟨p,rfl,h1,h2,h3⟩:=h (x+i) (by omega)
 rw [if_neg (by omega)]
 refine ⟨p.add (x*1),rfl,by rw [add_block];exact h1,by rw [add_block];exact h2, ?_⟩
 rw [Addr.add_add,Nat.mul_one,h3]
 simp [List.getElem_drop,List.getElem_take]
theorem run_cut {P:Program} {t e:TypeId} {i:TypeInfo} (ht:P.underlying t=some (.slice e)) (hi:P.info? e=some i) (hs:i.size=1) {l:List Int} {lo hi':Option (Int×Option Int)} {vlo vhi:Option Value} (hlo:BoundV lo vlo) (hhi:BoundV hi' vhi)
  {A:Option Addr} {c:Nat} (hc:l.length≤c) {K:List Int→Option β} {r:β} (h:rowCut l lo hi' K=some r):
  ∃ x y,x≤y∧y≤l.length∧K ((l.take y).drop x)=some r∧∀ w1,(Instr.slice t (.slice A l.length c) vlo vhi none).run P w1 = .ok (.slice (if c=x then A else A.map (·.add (x*1))) (y - x) (c - x)) w1:=by
 have hel:P.elem t=e:=by simp [Program.elem,ht]
 have hu:P.underlying t=some (.slice (P.elem t)):=by rw [hel];exact ht
 unfold rowCut ends at h
 split at h
 ·cases vlo with
  | some _=>exact hlo.elim
  | none=>cases vhi with
   | some _=>exact hhi.elim
   | none =>
    refine ⟨0,l.length,by omega,by omega,by simpa using h,fun w1=>?_⟩
    rw [run_slice_all w1 t A l.length c hu,hel,sizeOf_run hi w1,hs]
    rfl
 ·rename_i x ll
  cases vhi with
  | some _=>exact hhi.elim
  | none=>cases vlo with
   | none=>exact hlo.elim
   | some v =>
    obtain ⟨k,rfl,hl⟩:=hlo
    obtain ⟨h0,h⟩:=ge0_some hl h
    rw [nI_eq] at h
    split at h
    ·rename_i hx
     refine ⟨x.toNat,l.length,by omega,by omega,by simpa using h,fun w1=>?_⟩
     rw [run_slice_l w1 t A l.length c hu k x h0 hx,hel,sizeOf_run hi w1,hs]
     rfl
    ·cases h
 ·rename_i y ll
  cases vlo with
  | some _=>exact hlo.elim
  | none=>cases vhi with
   | none=>exact hhi.elim
   | some v =>
    obtain ⟨k,rfl,hl⟩:=hhi
    obtain ⟨h0,h⟩:=ge0_some hl h
    rw [nI_eq] at h
    split at h
    ·rename_i hy
     refine ⟨0,y.toNat,by omega,by omega,by simpa using h,fun w1=>?_⟩
     rw [run_slice_h w1 t A l.length c hu k y h0 (by omega),hel,sizeOf_run hi w1,hs]
     rfl
    ·cases h
 ·rename_i x ll y l2
  cases vlo with
  | none=>exact hlo.elim
  | some v=>cases vhi with
   | none=>exact hhi.elim
   | some v' =>
    obtain ⟨k,rfl,hl⟩:=hlo
    obtain ⟨k',rfl, -⟩:=hhi
    obtain ⟨h0,h⟩:=ge0_some hl h
    rw [nI_eq] at h
    split at h
    ·rename_i hx
     split at h
     ·rename_i hy
      refine ⟨x.toNat,y.toNat,by omega,by omega,h,fun w1=>?_⟩
      rw [run_slice_lh w1 t A l.length c hu k k' x y h0 hx (by omega),hel,sizeOf_run hi w1,hs]
      rfl
     ·cases h
    ·cases h
theorem run_cut_str {P:Program} {t:TypeId} (ht:P.underlying t=some .string) {s:ByteArray} {lo hi':Option (Int×Option Int)} {vlo vhi:Option Value} (hlo:BoundV lo vlo) (hhi:BoundV hi' vhi)
  {K:ByteArray→Option β} {r:β} (h:strCut s lo hi' K=some r):
  ∃ x y,x≤y∧y≤s.size∧K (s.extract x y)=some r∧∀ w1,(Instr.slice t (.string s) vlo vhi none).run P w1 = .ok (.string (s.extract x y)) w1:=by
 unfold strCut ends at h
 split at h
 ·cases vlo with
  | some _=>exact hlo.elim
  | none=>cases vhi with
   | some _=>exact hhi.elim
   | none=>exact ⟨0,s.size,by omega,by omega,h,fun w1=>by simp [Instr.slice,run_underlying ht,Instr.sliceBounds]⟩
 ·rename_i x ll
  cases vhi with
  | some _=>exact hhi.elim
  | none=>cases vlo with
   | none=>exact hlo.elim
   | some v =>
    obtain ⟨k,rfl,hl⟩:=hlo
    obtain ⟨h0,h⟩:=ge0_some hl h
    rw [nI_eq] at h
    split at h
    ·rename_i hx
     exact ⟨x.toNat,s.size,by omega,by omega,h,fun w1=>by simp [Instr.slice,run_underlying ht,Instr.sliceBounds,run_sliceBound,h0,hx]⟩
    ·cases h
 ·rename_i y ll
  cases vlo with
  | some _=>exact hlo.elim
  | none=>cases vhi with
   | none=>exact hhi.elim
   | some v =>
    obtain ⟨k,rfl,hl⟩:=hhi
    obtain ⟨h0,h⟩:=ge0_some hl h
    rw [nI_eq] at h
    split at h
    ·rename_i hy
     exact ⟨0,y.toNat,by omega,by omega,h,fun w1=>by simp [Instr.slice,run_underlying ht,Instr.sliceBounds,run_sliceBound,h0,hy]⟩
    ·cases h
 ·rename_i x ll y l2
  cases vlo with
  | none=>exact hlo.elim
  | some v=>cases vhi with
   | none=>exact hhi.elim
   | some v' =>
    obtain ⟨k,rfl,hl⟩:=hlo
    obtain ⟨k',rfl, -⟩:=hhi
    obtain ⟨h0,h⟩:=ge0_some hl h
    rw [nI_eq] at h
    split at h
    ·rename_i hx
     split at h
     ·rename_i hy
      have hy0:0≤y:=by omega
      have e:(y.toNat:Int)=y:=Int.toNat_of_nonneg hy0
      exact ⟨x.toNat,y.toNat,by omega,by omega,h,fun w1=>by simp [Instr.slice,run_underlying ht,Instr.sliceBounds,run_sliceBound,h0,hx,hy,hy0,e]⟩
     ·cases h
    ·cases h
def popCut (E:En) (σ:St) (t:TypeId) (x:Operand) (lo hi mx:Option Operand) (K:AV→St→Option β):Option β:=
 match mx,bound E σ lo,bound E σ hi,E.P.underlying t,opd E σ x with
 | none,some l,some h,some .string,some (.one (.s (.str s _)))=>strCut s l h fun s'=>K (.one (.s (.str s' none))) σ
 | none,some l,some h,some (.slice e),some (.one (.s (.rd k xs)))=>(match E.P.info? e with
  | some i=>bif Nat.beq i.size 1 then rowCut xs l h fun ys=>K (.one (.s (.rd k ys))) σ else none
  | none=>none)
 | none,some l,some h,some (.slice e),some (.one (.s (.lst b)))=>(match E.P.info? e, σ.bl[b]? with
  | some i,some (.ints k _ xs)=>bif Nat.beq i.size 1 then rowCut xs l h fun ys=>K (.one (.s (.rd k ys))) (σ.thaw b k xs) else none
  | _,_=>none)
 | _,_,_,_,_=>none
theorem popCut_ok (hR:Rel E w0 ok0 gs ρ vl σ a w) {o:Oper} {t:TypeId} {x:Operand} {lo hi mx:Option Operand} {K:AV→St→Option β} {r:β} (ho:o.op = .slice t x lo hi mx) (h:popCut E σ t x lo hi mx K=some r):
  PureRes E w0 ok0 gs ρ vl a w o K r:=by
 unfold popCut at h
 split at h
 ·rename_i l hh s n hl hhi ht hx
  obtain ⟨e1,e2, -⟩:=opd_ok hR hx
  obtain ⟨p,q,h1,h2,h3,h4⟩:=run_cut_str ht (bound_ok hR hl) (bound_ok hR hhi) h
  refine .mk' hR h3 ⟨rfl, ?_,by simp⟩ (fun w1=>?_)
  ·rw [ByteArray.size_extract];omega
  ·have e1':a.eval x = .string s:=e1
   simp only [execOp,ho,e1',Sem.run_bind,Option.map_none,run_sliceAt_string w1 t _ _ _ _ ht,h4 w1,Result.andThen_ok]
   rfl
 ·rename_i l hh e k xs hl hhi ht hx
  obtain ⟨A,c,e1,e2,e3,e4⟩:=opd_ok hR hx
  split at h
  ·rename_i i hi
   obtain ⟨hs,h⟩:=bif_some h
   have hs:=Nat.eq_of_beq_eq_true hs
   obtain ⟨p,q,h1,h2,h3,h4⟩:=run_cut ht hi hs (bound_ok hR hl) (bound_ok hR hhi) e2 h (A:=A)
   refine .mk' hR h3 ⟨if c=p then A else A.map (·.add (p*1)),c - p,rfl, ?_, ?_, ?_⟩ (fun w1=>?_)
   ·simp;omega
   ·exact ⟨by have:=e3.1;simp;omega,fun n hn=>e3.2 n (List.mem_of_mem_take (List.mem_of_mem_drop hn))⟩
   ·exact rds_cut e4 h1 h2 e2
   ·have hlen:((xs.take q).drop p).length=q - p:=by simp;omega
    simp only [execOp,ho,e1,Sem.run_bind,Option.map_none,run_sliceAt_slice w1 t _ _ _ _ (show E.P.underlying t=some (.slice (E.P.elem t)) by simp [Program.elem,ht]),h4 w1,Result.andThen_ok,hlen]
    rfl
  ·cases h
 ·rename_i l hh e b hl hhi ht hx
  obtain ⟨-,e0, -⟩:=opd_ok hR hx
  split at h
  ·rename_i i k t0 xs hi hb
   obtain ⟨hs,h⟩:=bif_some h
   have hs:=Nat.eq_of_beq_eq_true hs
   have hB:=hR.bl b _ hb
   obtain ⟨h5,h6,h7⟩:=hR.thaw hb
   obtain ⟨A,c,e1,e2,e3,e4⟩:=own_reads hB.1 hB.2 (cx E w0 ok0 gs ρ vl (σ.thaw b k xs) w).ok (fun g hg=>h7 g ⟨_,hb,hg⟩ (hB.2.lt g hg).1)
   obtain ⟨p,q,h1,h2,h3,h4⟩:=run_cut ht hi hs (bound_ok hR hl) (bound_ok hR hhi) e2 h (A:=A)
   have e1':a.eval x = .slice A xs.length c:=by rw [show a.eval x=vl b from e0];exact e1
   refine .mk' h5 h3 ⟨if c=p then A else A.map (·.add (p*1)),c - p,rfl, ?_, ?_, ?_⟩ (fun w1=>?_)
   ·simp;omega
   ·exact ⟨by have:=e3.1;simp;omega,fun n hn=>e3.2 n (List.mem_of_mem_take (List.mem_of_mem_drop hn))⟩
   ·exact rds_cut e4 h1 h2 e2
   ·have hlen:((xs.take q).drop p).length=q - p:=by simp;omega
    simp only [execOp,ho,e1',Sem.run_bind,Option.map_none,run_sliceAt_slice w1 t _ _ _ _ (show E.P.underlying t=some (.slice (E.P.elem t)) by simp [Program.elem,ht]),h4 w1,Result.andThen_ok,hlen]
    rfl
  ·cases h
 ·cases h
def cutS {α:Type} (n:Int) (lo:Option Int) (l:List α) (K:Option β):Option β:=ge0 n lo (if n≤nI l.length then K else none)
def popCutS (E:En) (σ:St) (t:TypeId) (x:Operand) (lo hi mx:Option Operand) (K:AV→St→Option β):Option β:=
 match mx,lo,hi,E.P.underlying t,opd E σ x with
 | none,none,some h,some (.slice e),some (.one (.s (.lss b)))=>(match E.P.info? e, σ.bl[b]?,opd E σ h with
  | some _,some (.rows ks t0 l),some (.one (.s (.int _ n lo' _)))=>cutS n lo' l (K (.one (.s (.lss σ.bl.length))) ((σ.setB b .dead).new (.rows ks t0 (l.take n.toNat))))
  | _,_,_=>none)
 | _,_,_,_,_=>none
theorem popCutS_ok (hR:Rel E w0 ok0 gs ρ vl σ a w) {o:Oper} {t:TypeId} {x:Operand} {lo hi mx:Option Operand} {K:AV→St→Option β} {r:β} (ho:o.op = .slice t x lo hi mx) (h:popCutS E σ t x lo hi mx K=some r):EffRes E w0 ok0 gs a w o K r:=by
 unfold popCutS at h
 split at h
 ·rename_i hh e b ht hx
  obtain ⟨-,e0, -⟩:=opd_ok hR hx
  have e0':a.eval x=vl b:=e0
  split at h
  ·rename_i i ks t0 l k n lo' hi' hi hb hn
   obtain ⟨e1, -,e3, -⟩:=opd_ok hR hn
   unfold cutS at h
   obtain ⟨h0,h⟩:=ge0_some e3 h
   rw [nI_eq] at h
   split at h
   ·rename_i hle
    have hB:=hR.bl b _ hb
    obtain ⟨hin,hown⟩:=hB
    have hel:E.P.elem t=e:=by simp [Program.elem,ht]
    have hu:E.P.underlying t=some (.slice (E.P.elem t)):=by rw [hel];exact ht
    have hnl:n.toNat≤l.length:=by omega
    have hmap:∀ A:Option Addr,A.map (fun a=>a.add (0*i.size))=A:=by intro A;cases A <;> simp [Addr.add]
    have hrun:∀ A c,vl b = .slice A l.length c→l.length≤c→(execOp a.eval o).run E.P w = .ok (.value (.slice A n.toNat c)) w:=by
     intro A c hv hc
     have e2:a.eval x = .slice A l.length c:=e0'.trans hv
     have hs:=run_slice_h w t A l.length c hu k n h0 (by omega)
     rw [hel,sizeOf_run hi w] at hs
     have hsl:(sliced A 0 n.toNat c i.size)=Value.slice A n.toNat c:=by
      simp [sliced,hmap,Addr.add]
     simp only [execOp,ho,e2,e1,Sem.run_bind,Option.map_none,Option.map_some,run_sliceAt_slice w t _ _ _ _ hu,hs,Result.andThen_ok,hsl]
     rfl
    have hgr:w.grownBy w (vl b).ownBlock:=⟨rfl,rfl,rfl,Nat.le_refl _,fun _ _ _=>rfl⟩
    have hin':inR ks (l.take n.toNat):=⟨by have:=hin.1;simp;omega,hin.2.1,fun y hy=>hin.2.2 y (List.mem_of_mem_take hy)⟩
    have hlen:(l.take n.toNat).length=n.toNat:=by simp;omega
    have fin:∀ v',(execOp a.eval o).run E.P w = .ok (.value v') w→w.ownsRow w0.heap.size t0 ks.length v' (l.take n.toNat).length (flatV ks (l.take n.toNat))→(∀ g,v'.ownBlock=some g→(vl b).ownBlock=some g)→EffRes E w0 ok0 gs a w o K r:=by
     intro v' h1 h2 h3
     obtain ⟨ρ',vl',h9,h10⟩:=hR.grownRows hb (ks:=ks) (t:=t0) (l:=l.take n.toNat) hin' (Nat.le_refl _) hgr h2 (fun g hg=>.inl (h3 g hg))
     exact ⟨_,_,_,_, ρ',vl',h,h1,h9,h10,.refl _ _⟩
    obtain ⟨hl,hw⟩:=hown
    rcases hw with ⟨h1,h2⟩ | ⟨g,cap,cur,h1,h2,h3,h4,h5,h6,h7⟩
    ·have h1':vl b = .slice none 0 0:=h1
     have hz:n.toNat=0:=by omega
     refine fin (.slice none 0 0) ?_ ?_ (fun g hg=>by cases hg)
     ·have:=hrun none 0 (by rw [h1',h2]) (by omega)
      rw [hz] at this
      exact this
     ·rw [hlen,hz]
      have:l.take 0=[]:=rfl
      rw [this]
      exact World.ownsRow_nil w w0.heap.size t0 ks.length
    ·have h1':vl b = .slice (some ⟨g,0,none⟩) l.length cap:=h1
     refine fin (.slice (some ⟨g,0,none⟩) n.toNat cap) (hrun _ _ h1' h4) ?_ (fun g' hg=>by rw [h1'];exact hg)
     refine ⟨flatV_len _,.inr ⟨g,cap,cur,by rw [hlen],h2,h3,by rw [hlen];omega,h5,h6, ?_⟩⟩
     rw [hlen,flatV_take,← h7,List.take_take]
     congr 1
     have:n.toNat*ks.length≤l.length*ks.length:=Nat.mul_le_mul_right _ hnl
     omega
   ·cases h
  ·cases h
 ·cases h
def popCutI (E:En) (σ:St) (t:TypeId) (x:Operand) (lo hi mx:Option Operand) (K:AV→St→Option β):Option β:=
 match mx,lo,hi,E.P.underlying t,opd E σ x with
 | none,none,some h,some (.slice e),some (.one (.s (.lst b)))=>(match E.P.info? e, σ.bl[b]?,opd E σ h with
  | some i,some (.ints k0 t0 l),some (.one (.s (.int _ n lo' _)))=>bif Nat.beq i.size 1 then cutS n lo' l (K (.one (.s (.lst σ.bl.length))) ((σ.setB b .dead).new (.ints k0 t0 (l.take n.toNat)))) else none
  | _,_,_=>none)
 | _,_,_,_,_=>none
theorem popCutI_ok (hR:Rel E w0 ok0 gs ρ vl σ a w) {o:Oper} {t:TypeId} {x:Operand} {lo hi mx:Option Operand} {K:AV→St→Option β} {r:β} (ho:o.op = .slice t x lo hi mx) (h:popCutI E σ t x lo hi mx K=some r):EffRes E w0 ok0 gs a w o K r:=by
 unfold popCutI at h
 split at h
 ·rename_i hh e b ht hx
  obtain ⟨-,e0, -⟩:=opd_ok hR hx
  have e0':a.eval x=vl b:=e0
  split at h
  ·rename_i i k0 t0 l k n lo' hi' hi hb hn
   obtain ⟨hs1,h⟩:=bif_some h
   have hs1:=Nat.eq_of_beq_eq_true hs1
   obtain ⟨e1, -,e3, -⟩:=opd_ok hR hn
   unfold cutS at h
   obtain ⟨h0,h⟩:=ge0_some e3 h
   rw [nI_eq] at h
   split at h
   ·rename_i hle
    have hB:=hR.bl b _ hb
    obtain ⟨hin,hown⟩:=hB
    have hel:E.P.elem t=e:=by simp [Program.elem,ht]
    have hu:E.P.underlying t=some (.slice (E.P.elem t)):=by rw [hel];exact ht
    have hnl:n.toNat≤l.length:=by omega
    have hmap:∀ A:Option Addr,A.map (fun a=>a.add (0*i.size))=A:=by intro A;cases A <;> simp [Addr.add]
    have hrun:∀ A c,vl b = .slice A l.length c→l.length≤c→(execOp a.eval o).run E.P w = .ok (.value (.slice A n.toNat c)) w:=by
     intro A c hv hc
     have e2:a.eval x = .slice A l.length c:=e0'.trans hv
     have hs:=run_slice_h w t A l.length c hu k n h0 (by omega)
     rw [hel,sizeOf_run hi w] at hs
     have hsl:(sliced A 0 n.toNat c i.size)=Value.slice A n.toNat c:=by
      simp [sliced,hmap,Addr.add]
     simp only [execOp,ho,e2,e1,Sem.run_bind,Option.map_none,Option.map_some,run_sliceAt_slice w t _ _ _ _ hu,hs,Result.andThen_ok,hsl]
     rfl
    have hgr:w.grownBy w (vl b).ownBlock:=⟨rfl,rfl,rfl,Nat.le_refl _,fun _ _ _=>rfl⟩
    have hin':inL k0 (l.take n.toNat):=⟨by have:=hin.1;simp;omega,fun y hy=>hin.2 y (List.mem_of_mem_take hy)⟩
    have hlen:(l.take n.toNat).length=n.toNat:=by simp;omega
    have fin:∀ v',(execOp a.eval o).run E.P w = .ok (.value v') w→w.ownsRow w0.heap.size t0 1 v' (l.take n.toNat).length ((l.take n.toNat).map (Value.int k0))→(∀ g,v'.ownBlock=some g→(vl b).ownBlock=some g)→EffRes E w0 ok0 gs a w o K r:=by
     intro v' h1 h2 h3
     obtain ⟨ρ',vl',h9,h10⟩:=hR.grown hb (k:=k0) (t:=t0) (l:=l.take n.toNat) hin' (Nat.le_refl _) hgr h2 (fun g hg=>.inl (h3 g hg))
     exact ⟨_,_,_,_, ρ',vl',h,h1,h9,h10,.refl _ _⟩
    obtain ⟨hl,hw⟩:=hown
    rcases hw with ⟨h1,h2⟩ | ⟨g,cap,cur,h1,h2,h3,h4,h5,h6,h7⟩
    ·have h1':vl b = .slice none 0 0:=h1
     have hz:n.toNat=0:=by omega
     refine fin (.slice none 0 0) ?_ ?_ (fun g hg=>by cases hg)
     ·have:=hrun none 0 (by rw [h1',h2]) (by omega)
      rw [hz] at this
      exact this
     ·rw [hlen,hz]
      exact World.ownsRow_nil w w0.heap.size t0 1
    ·have h1':vl b = .slice (some ⟨g,0,none⟩) l.length cap:=h1
     refine fin (.slice (some ⟨g,0,none⟩) n.toNat cap) (hrun _ _ h1' h4) ?_ (fun g' hg=>by rw [h1'];exact hg)
     refine ⟨by rw [List.length_map,Nat.mul_one],.inr ⟨g,cap,cur,by rw [hlen],h2,h3,by rw [hlen];omega,h5,h6, ?_⟩⟩
     rw [hlen,List.map_take,← h7,List.take_take]
     congr 1
     omega
   ·cases h
  ·cases h
 ·cases h
def popArr (E:En) (σ:St) (op:BinOp) (t:TypeId) (x y:Operand) (K:AV→St→Option β):Option β:=
 match opd E σ x,opd E σ y with
 | some (.one (.mx [] k m l)),some (.one z)=>(match splitMx 0 k m z with
  | some (_,l')=>bif arrEq E.P t m then (match op with
   | .eql=>K (.one (.s (.bool (.lit (l==l'))))) σ
   | .neq=>K (.one (.s (.bool (.not (.lit (l==l')))))) σ
   | _=>none) else none
  | none=>none)
 | _,_=>none
theorem popArr_ok (hR:Rel E w0 ok0 gs ρ vl σ a w) {o:Oper} {op:BinOp} {t yt:TypeId} {x y:Operand} {K:AV→St→Option β} {r:β} (ho:o.op = .binOp op t x y yt) (h:popArr E σ op t x y K=some r):PureRes E w0 ok0 gs ρ vl a w o K r:=by
 have hex:∀ w1,(execOp a.eval o).run E.P w1=(((do eqGuard op t x y (a.eval x) (a.eval y);binOp op t (a.eval x) (a.eval y)):Sem Value).run E.P w1).andThen fun v w'=>.ok (.value v) w':=by
  intro w1;simp only [execOp,ho,Sem.run_bind,Sem.run_pure]
 unfold popArr at h
 split at h
 ·rename_i k m l z hx hy
  obtain ⟨us,e1,h1,h2,h3⟩:=opd_ok hR hx
  have hus:us=[]:=by
   cases us with
   | nil=>rfl
   | cons _ _=>exact h1.elim
  subst hus
  split at h
  ·rename_i q l' hsp
   obtain ⟨hq,h⟩:=bif_some h
   obtain ⟨us',h4,h5,h6,h7,h8⟩:=splitMx_ok hsp (opd_ok hR hy)
   have hus':us'=[]:=by
    cases us' with
    | nil=>rfl
    | cons _ _=>have:=h5.length;rw [h6] at this;simp at this
   subst hus'
   rw [List.nil_append] at h4 e1
   have hag:∃ cs,a.eval y = .agg cs:=by
    cases z with
    | s x=>simp [splitMx] at hsp
    | g cs=>obtain ⟨vs,e, -⟩:=opd_ok hR hy;exact ⟨_,e⟩
    | mx cs k m l=>obtain ⟨vs,e, -⟩:=opd_ok hR hy;exact ⟨_,e⟩
   obtain ⟨cs,e2⟩:=hag
   have e3:a.eval y = .agg (l'.map (Value.int k)).toArray:=by
    rw [e2] at h4 ⊢
    have:cs.toList=l'.map (Value.int k):=h4
    rw [← this]
   obtain ⟨h9,h10⟩:=arrEq_ok hq (k:=k) h2 h7
   split at h
   ·exact .mk' hR h (v:=.bool (l==l')) rfl (fun w1=>by rw [hex,e1,e3];simp [h9,run_eql_struct,h10])
   ·exact .mk' hR h (v:=.bool (!(l==l'))) rfl (fun w1=>by rw [hex,e1,e3];simp [h9,run_neq_struct,h10])
   ·cases h
  ·cases h
 ·cases h
def popWin (E:En) (σ:St) (t:TypeId) (x:Operand) (lo hi mx:Option Operand) (K:AV→St→Option β):Option β:=
 match mx,lo,E.P.underlying t,opd E σ x with
 | none,none,some (.array n e),some (.one (.s (.ptr b o)))=>(match E.P.info? e with
  | some i=>bif Nat.beq i.size 1 then (match hi with
   | none=>K (.one (.s (.win b o n (n:Int)))) σ
   | some y=>(match opd E σ y with
    | some (.one (.s (.int _ q l _)))=>ge0 q l (if q≤(n:Int) then K (.one (.s (.win b o n q))) σ else none)
    | _=>none)) else none
  | none=>none)
 | _,_,_,_=>none
theorem popWin_ok (hR:Rel E w0 ok0 gs ρ vl σ a w) {o:Oper} {t:TypeId} {x:Operand} {lo hi mx:Option Operand} {K:AV→St→Option β} {r:β} (ho:o.op = .slice t x lo hi mx) (h:popWin E σ t x lo hi mx K=some r):
  PureRes E w0 ok0 gs ρ vl a w o K r:=by
 unfold popWin at h
 split at h
 ·rename_i n e b o' ht hx
  obtain ⟨h1,e1⟩:=opd_ok hR hx
  have e1':a.eval x = .pointer (some ⟨ρ b,o',none⟩):=e1
  have hel:E.P.elem t=e:=by simp [Program.elem,ht]
  have hal:E.P.arrayLen t=n:=by simp [Program.arrayLen,ht]
  have hu:E.P.underlying t=some (.array (E.P.arrayLen t) (E.P.elem t)):=by rw [hel,hal];exact ht
  split at h
  ·rename_i i hi'
   obtain ⟨hs,h⟩:=bif_some h
   have hs:=Nat.eq_of_beq_eq_true hs
   have hz:(⟨ρ b,o',none⟩:Addr).add (0*i.size)=⟨ρ b,o',none⟩:=by rw [Addr.add_mid,Nat.zero_mul,Nat.add_zero]
   split at h
   ·refine .mk' hR h (v:=.slice (some ⟨ρ b,o',none⟩) n n) ⟨h1,by omega,by omega,n,by simp,by rw [Int.toNat_natCast];rfl⟩ (fun w1=>?_)
    simp only [execOp,ho,e1',Sem.run_bind,Option.map_none,run_sliceAt_array_all (P:=E.P) w1 t _ hu,hel,sizeOf_run hi' w1,Result.andThen_ok,slicedAt,hal,hz,ite_self,Nat.sub_zero]
    rfl
   ·rename_i y
    split at h
    ·rename_i k q l hq hy
     obtain ⟨e2, -,e3, -⟩:=opd_ok hR hy
     obtain ⟨h0,h⟩:=ge0_some e3 h
     split at h
     ·rename_i hle
      refine .mk' hR h (v:=.slice (some ⟨ρ b,o',none⟩) q.toNat n) ⟨h1,h0,hle,n,by omega,rfl⟩ (fun w1=>?_)
      simp only [execOp,ho,e1',Sem.run_bind,Option.map_none,Option.map_some,e2,run_sliceAt_array_h (P:=E.P) w1 t _ hu k q h0 (by rw [hal];exact hle),hel,sizeOf_run hi' w1,Result.andThen_ok,slicedAt,hal,hz,ite_self,Nat.sub_zero]
      rfl
     ·cases h
    ·cases h
  ·cases h
 ·cases h
theorem rds_bw {w w1:World} {gs1:List Nat} {A:Option Addr} {k:IntKind} {l:List Int} (h:Rds w (fun g=>g ∉ gs1) A k l) (hw:Bw gs1 w w1):∀ i (hi:i < l.length),∃ p,A=some p∧w1.cell? (p.add i)=some (.int k l[i]):=by
 intro i hi
 obtain ⟨p,hp,h0,h1,h2⟩:=h i hi
 exact ⟨p,hp,by rw [cell_of (w:=w) (by rw [add_block];exact hw.block _ h1 h0)];exact h2⟩
theorem run_text {P:Program} {src dst e:TypeId} (hs:P.underlying src=some (.slice e)) (he:P.underlying e=some (.int .u8)) (hd:P.underlying dst=some .string) {w w1:World} {gs1:List Nat} {A:Option Addr} {c:Nat} {l:List Int} (h:Rds w (fun g=>g ∉ gs1) A .u8 l) (hw:Bw gs1 w w1):
  (convert src dst (.slice A l.length c)).run P w1 = .ok (.string (strOfNums l)) w1:=by
 have h':=rds_bw h hw
 cases A with
 | none =>
  have:l=[]:=by
   cases l with
   | nil=>rfl
   | cons x xs=>obtain ⟨p,hp, -⟩:=h' 0 (by simp);cases hp
  subst this
  exact run_convert_bytes_nil w1 src e hs he 0 c dst hd
 | some p =>
  have hl:(loadCells p l.length).run P w1 = .ok (l.map (Value.int .u8)).toArray w1:=by
   have:=run_loadCells_list (P:=P) w1 p (l.map (Value.int .u8)) (fun j v hj=>by
    rw [List.getElem?_map] at hj
    cases hq:l[j]? with
    | none=>rw [hq] at hj;cases hj
    | some n =>
     rw [hq] at hj
     obtain ⟨hjl,hn⟩:=List.getElem?_eq_some_iff.1 hq
     obtain ⟨q,hq',h2⟩:=h' j hjl
     injection hq' with hq'
     subst hq'
     rw [h2,hn]
     exact hj)
   simpa using this
  rw [run_convert_bytes_string w1 src dst e _ l.length c hs he hd,run_bytesToString w1 p l.length c l hl,foldl_push_bytes]
  simp [strOfNums,ByteArray.empty,ByteArray.emptyWithCapacity]
  rfl
def isSlice (P:Program) (t:TypeId):Bool:=
 match P.underlying t with
 | some (.slice _)=>true
 | _=>false
def popText (E:En) (σ:St) (src dst:TypeId) (x:Operand) (K:AV→St→Option β):Option β:=
 match E.P.underlying src,E.P.underlying dst,opd E σ x with
 | some (.slice e),some .string,some (.one (.s y))=>(match E.P.underlying e,readRow σ y with
  | some (.int .u8),some (k,l)=>bif fitsK .u8 k then K (.one (.s (.str (strOfNums l) none))) σ else none
  | _,_=>none)
 | _,_,_=>none
theorem popText_ok (hR:Rel E w0 ok0 gs ρ vl σ a w) {o:Oper} {src dst:TypeId} {x:Operand} {K:AV→St→Option β} {r:β} (ho:o.op = .convert src dst x) (h:popText E σ src dst x K=some r):
  ReadRes E w0 ok0 gs ρ vl σ a w o K r:=by
 unfold popText at h
 split at h
 ·rename_i e y hs hd hx
  have vy:=opd_ok hR hx
  split at h
  ·rename_i k l he hr
   obtain ⟨hk,h⟩:=bif_some h
   obtain ⟨A,c,e2,e3,e4,e5, -⟩:=readRow_ok hR (fun _=>True) (fun _ _ _=>trivial) (fun _ _ _ _=>trivial) hr vy
   have e2':a.eval x = .slice A l.length c:=e2
   refine ⟨_,.string (strOfNums l),h,⟨rfl,by rw [strOfNums_size];exact e4,by simp⟩,fun gs1 w1 hw hg=>?_⟩
   obtain ⟨A',c',e2a, -, -, -,e6⟩:=readRow_ok hR (fun g=>g ∉ gs1) (fun hx' g h=>hg.ok hR (by obtain ⟨k,l,rfl⟩:=hx';simp [srcOf,ho,hx]) h) (fun b hb g hl=>hg.own hR (by rcases hb with rfl | ⟨o,m,n,rfl⟩ <;> simp [srcOf,ho,hx]) hl) hr vy
   have e2b:a.eval x = .slice A' l.length c':=e2a
   have hrds:Rds w (fun g=>g ∉ gs1) A' .u8 l:=by
    refine e6 .u8 ?_
    cases k with
    | none =>
     refine .inr ?_
     cases l with
     | nil=>rfl
     | cons n r=>obtain ⟨q,hq, -⟩:=e5 n (by simp);cases hq
    | some q=>exact .inl (by rw [of_decide_eq_true hk])
   simp only [execOp,ho,e2b,Sem.run_bind,run_text hs he hd hrds hw,Result.andThen_ok]
   rfl
  ·cases h
 ·cases h
end
end Go.Proofs.YtbpcfhhcoklinaaGreat.Ab
namespace Go.Proofs.YtbpcfhhcoklinaaGreat.Ab
open Go Go.RowKit
noncomputable section
variable {β:Type} {E:En} {w0:World} {ok0:Nat→Prop} {gs:List Nat} {ρ:Nat→Nat} {vl:Nat→Value} {σ:St} {a:Act} {w:World}
def isBuiltin:Call→Bool
 | { callee:=.builtin .len,.. } | { callee:=.builtin .min,.. } | { callee:=.builtin .max,.. }=>true
 | _=>false
def isAppend:Call→Bool
 | { callee:=.builtin .append,.. } | { callee:=.builtin .copy,.. }=>true
 | _=>false
def isCopy:Call→Bool
 | { callee:=.builtin .copy,.. }=>true
 | _=>false
def memF (f:FuncId):List FuncId→Bool
 | []=>false
 | g :: r=>Nat.beq g f||memF f r
def wrC (E:En):Call→Bool
 | { callee:=.value (.func f),.. }=>memF f E.wf
 | _=>false
def rowT (E:En) (t:TypeId):Bool:=
 match sliceT E.P t with
 | some s=>!Nat.beq s 1
 | none=>false
def cutT (E:En) (t:TypeId):Bool:=rowT E t||memF 999999 E.wf
def appS (E:En) (c:Call):Bool:=
 match c.argTypes.toList with
 | t :: _=>rowT E t
 | []=>false
def cls (E:En) (o:Oper):Nat:=
 match o.op with
 | .load _ _=>1
 | .convert s _ _=>bif isSlice E.P s then 1 else 0
 | .alloc _ | .box _ _ | .buildSlice _ _ _ | .makeSlice _ _ _ | .makeFunc _ _ _=>2
 | .call c=>bif isBuiltin c then 0 else bif isAppend c then 3 else bif wrC E c then 3 else 2
 | .store _ _ _=>3
 | .slice t _ _ _ _=>bif cutT E t then 2 else 0
 | _=>0
def pop (E:En) (σ:St) (o:Oper) (K:AV→St→Option β):Option β:=
 match o.op with
 | .move x | .assign x=>popMove E σ x K
 | .pick c x y=>popPick E σ c x y K
 | .extract x i=>popExtract E σ x i K
 | .unOp op _ x=>popUn E σ op x K
 | .binOp op t x y _=>(match opd E σ x with
  | some (.one (.mx _ _ _ _))=>popArr E σ op t x y K
  | _=>popBin E σ op t x y K)
 | .convert s d x=>popConv E σ s d x K
 | .field t x f=>popField E σ t x f K
 | .fieldAddr s x f=>popFA E σ s x f K
 | .makeInterface t x=>popMkI E σ t x K
 | .nilCheck x=>popNil E σ x K
 | .build t ps=>popBuild E σ t ps K
 | .indexAddr t x i=>popIdxA E σ t x i K
 | .index t x i=>popIndex E σ t x i K
 | .typeAssert x _ t ok=>popTA E σ x t ok K
 | .call c=>popBuiltin E σ c K
 | .slice t x lo hi mx=>(match opd E σ x with
  | some (.one (.s (.ptr _ _)))=>popWin E σ t x lo hi mx K
  | _=>popCut E σ t x lo hi mx K)
 | _=>none
theorem pop_ok (hR:Rel E w0 ok0 gs ρ vl σ a w) {o:Oper} {K:AV→St→Option β} {r:β} (h:pop E σ o K=some r):PureRes E w0 ok0 gs ρ vl a w o K r:=by
 unfold pop at h
 split at h
 ·exact popMove_ok hR (.inl (by assumption)) h
 ·exact popMove_ok hR (.inr (by assumption)) h
 ·exact popPick_ok hR (by assumption) h
 ·exact popExtract_ok hR (by assumption) h
 ·exact popUn_ok hR (by assumption) h
 ·split at h
  ·exact popArr_ok hR (by assumption) h
  ·exact popBin_ok hR (by assumption) h
 ·exact popConv_ok hR (by assumption) h
 ·exact popField_ok hR (by assumption) h
 ·exact popFA_ok hR (by assumption) h
 ·exact popMkI_ok hR (by assumption) h
 ·exact popNil_ok hR (by assumption) h
 ·exact popBuild_ok hR (by assumption) h
 ·exact popIdxA_ok hR (by assumption) h
 ·exact popIndex_ok hR (by assumption) h
 ·exact popTA_ok hR (by assumption) h
 ·exact popBuiltin_ok hR (by assumption) h
 ·split at h
  ·exact popWin_ok hR (by assumption) h
  ·exact popCut_ok hR (by assumption) h
 ·cases h
def rop (E:En) (σ:St) (o:Oper) (K:AV→St→Option β):Option β:=
 match o.op with
 | .load t x=>popLoad E σ t x K
 | .convert s d x=>popText E σ s d x K
 | _=>none
theorem rop_ok (hR:Rel E w0 ok0 gs ρ vl σ a w) {o:Oper} {K:AV→St→Option β} {r:β} (h:rop E σ o K=some r):ReadRes E w0 ok0 gs ρ vl σ a w o K r:=by
 unfold rop at h
 split at h
 ·exact popLoad_ok hR (by assumption) h
 ·exact popText_ok hR (by assumption) h
 ·cases h
def eop (E:En) (Γ:List (FuncId×Cn)) (σ:St) (o:Oper) (K:AV→St→Option β):Option β:=
 match o.op with
 | .alloc t=>popAlloc E σ t K
 | .box t x=>popBox E σ t x K
 | .buildSlice t n ps=>popLit E σ t n ps K
 | .makeSlice t x y=>popMake E σ t x y K
 | .makeFunc f x y=>popMkF E σ f x y K
 | .slice t x lo hi mx=>(match opd E σ x with
  | some (.one (.s (.lst _)))=>popCutI E σ t x lo hi mx K
  | _=>popCutS E σ t x lo hi mx K)
 | .call c=>popCallQ E Γ σ c K
 | _=>none
theorem eop_ok {Γ:List (FuncId×Cn)} (hΓ:AllOk E.P E.eT Γ) (hR:Rel E w0 ok0 gs ρ vl σ a w) {o:Oper} {K:AV→St→Option β} {r:β} {Q:Exit→Act→World→Prop} (h:eop E Γ σ o K=some r):WpRes E w0 ok0 gs a w o Q K r:=by
 unfold eop at h
 split at h
 ·exact (popAlloc_ok hR (by assumption) h).wp
 ·exact (popBox_ok hR (by assumption) h).wp
 ·exact (popLit_ok hR (by assumption) h).wp
 ·exact (popMake_ok hR (by assumption) h).wp
 ·exact (popMkF_ok hR (by assumption) h).wp
 ·split at h
  ·exact (popCutI_ok hR (by assumption) h).wp
  ·exact (popCutS_ok hR (by assumption) h).wp
 ·exact popCallQ_ok hΓ hR (by assumption) h
 ·cases h
def unV:AV:=.tup []
theorem unV_ok {C:Cx}:VV C unV undef:=⟨#[],rfl,trivial⟩
def sop (E:En) (Γ:List (FuncId×Cn)) (σ:St) (o:Oper) (K:AV→St→Option β):Option β:=
 match o.op with
 | .store t x y=>popStore E σ t x y (K unV)
 | .call c=>(match calledR E Γ σ c with
  | some (rc,as)=>popR E rc σ as K
  | none=>(match calledS E Γ σ c with
   | some (sc,b,cs)=>popSort E sc σ b cs K
   | none=>bif isCopy c then popCopy E σ c K else bif appS E c then popAppS E σ c K else popApp E σ c K))
 | _=>none
def tgtX (E:En) (o:Oper):Option Operand:=
 match o.op with
 | .store _ x _=>some x
 | .call c=>bif wrC E c then c.args.toList.head? else none
 | _=>none
theorem popApp_b {c:Call} {K:AV→St→Option β} {r:β} (h:popApp E σ c K=some r):wrC E c=false:=by
 unfold popApp at h
 split at h
 ·rename_i hc _ _
  unfold wrC
  split
  ·rename_i hcc;cases hc
  ·rfl
 ·cases h
theorem popAppS_b {c:Call} {K:AV→St→Option β} {r:β} (h:popAppS E σ c K=some r):wrC E c=false:=by
 unfold popAppS at h
 split at h
 ·rename_i hc _ _
  unfold wrC
  split
  ·rename_i hcc;cases hc
  ·rfl
 ·cases h
theorem popCopy_b {c:Call} {K:AV→St→Option β} {r:β} (h:popCopy E σ c K=some r):wrC E c=false:=by
 unfold popCopy at h
 split at h
 ·rename_i hc _ _
  unfold wrC
  split
  ·rename_i hcc;cases hc
  ·rfl
 ·cases h
def SRes (E:En) (w0:World) (ok0:Nat→Prop) (gs:List Nat) (a:Act) (w:World) (o:Oper) (K:AV→St→Option β) (r:β):Prop:=
 ∃ x σ' v w' ρ' vl',K x σ'=some r∧((execOp a.eval o).run E.P w = .ok (.value v) w'∨v=undef∧(execOp a.eval o).run E.P w = .ok .skip w')∧Rel E w0 ok0 gs ρ' vl' σ' a w'∧VV (cx E w0 ok0 gs ρ' vl' σ' w') x v ∧
  (∀ x,tgtX E o=some x→∀ g off,a.eval x = .pointer (some ⟨g,off,none⟩)→Bw [g] w w')∧(∀ q,q∈gs→w'.heap[q]? = w.heap[q]?)∧w.heap.size≤w'.heap.size
def SWp (E:En) (w0:World) (ok0:Nat→Prop) (gs:List Nat) (a:Act) (w:World) (o:Oper) (Q:Exit→Act→World→Prop) (K:AV→St→Option β) (r:β):Prop:=
 ∀ Kc:Act→World→Prop,(∀ x σ' v w' ρ' vl',K x σ'=some r→Rel E w0 ok0 gs ρ' vl' σ' a w'→VV (cx E w0 ok0 gs ρ' vl' σ' w') x v→(∀ x,tgtX E o=some x→∀ g off,a.eval x = .pointer (some ⟨g,off,none⟩)→Bw [g] w w')→(∀ q,q∈gs→w'.heap[q]? = w.heap[q]?)∧w.heap.size≤w'.heap.size→Kc (a.put o.dst v) w')→o.wp E.P a w Kc Q
theorem SRes.wp {o:Oper} {K:AV→St→Option β} {r:β} {Q:Exit→Act→World→Prop} (h:SRes E w0 ok0 gs a w o K r):SWp E w0 ok0 gs a w o Q K r:=by
 intro Kc hK
 obtain ⟨x, σ',v,w', ρ',vl',h1,h2,h3,h4,h5,h6⟩:=h
 unfold Oper.wp
 rcases h2 with h2 | ⟨rfl,h2⟩
 ·rw [h2];exact hK _ _ _ _ _ _ h1 h3 h4 h5 h6
 ·rw [h2];exact hK _ _ _ _ _ _ h1 h3 h4 h5 h6
theorem sop_ok {Γ:List (FuncId×Cn)} (hΓ:AllOk E.P E.eT Γ) (hR:Rel E w0 ok0 gs ρ vl σ a w) {o:Oper} {K:AV→St→Option β} {r:β} {Q:Exit→Act→World→Prop} (h:sop E Γ σ o K=some r):SWp E w0 ok0 gs a w o Q K r:=by
 unfold sop at h
 split at h
 ·refine SRes.wp ?_
  rename_i t x y hop
  obtain ⟨σ',w', ρ',vl',h1,h2,h3,h4,h5⟩:=popStore_ok hR hop h
  refine ⟨unV, σ',undef,w', ρ',vl',h1,.inr ⟨rfl,h2⟩,h3,unV_ok,fun z hz g off hg=>?_,h5⟩
  unfold tgtX at hz
  rw [hop] at hz
  injection hz with hz
  subst hz
  exact h4 _ _ _ hop g off hg
 ·rename_i c hc
  split at h
  ·rename_i rc as hcr
   obtain ⟨g,vs,k1,k2,k3,k4⟩:=calledR_ok hΓ hR hc hcr
   intro Kc hK
   refine popR_ok k1 hR k2 k3 h (fun x σ' v w' ρ' vl' l1 l2 l3 _ l6 l5=>hK x σ' v w' ρ' vl' l1 l2 l3 (fun z hz g off hg=>?_) l5)
   unfold tgtX at hz
   rw [hc] at hz
   obtain ⟨-,hz⟩:=bif_some hz
   cases hargs:c.args.toList with
   | nil=>rw [hargs] at hz;cases hz
   | cons y r =>
    rw [hargs] at hz
    injection hz with hz
    subst hz
    exact l6 g off (by rw [k4 _ _ hargs,hg])
  ·split at h
   ·rename_i sc b cs hcs
    obtain ⟨g,us,k1,k2,k3,k4,k5⟩:=calledS_ok hΓ hR hc hcs
    intro Kc hK
    refine popSort_ok k1 hR k3 k4 h (fun x σ' v w' ρ' vl' l1 l2 l3 l5=>hK x σ' v w' ρ' vl' l1 l2 l3 (fun z hz g off hg=>?_) l5)
    unfold tgtX at hz
    rw [hc] at hz
    obtain ⟨-,hz⟩:=bif_some hz
    exact absurd hg (k5 z hz _)
   ·refine SRes.wp ?_
    have hw:WrRes E w0 ok0 gs a w o K r:=by
     cases hcp:isCopy c <;> rw [hcp] at h
     ·rw [cond_false] at h
      cases hap:appS E c <;> rw [hap] at h
      ·exact popApp_ok hR hc h
      ·exact popAppS_ok hR hc h
     ·exact popCopy_ok hR hc h
    have hnw:wrC E c=false:=by
     cases hcp:isCopy c <;> rw [hcp] at h
     ·rw [cond_false] at h
      cases hap:appS E c <;> rw [hap] at h
      ·exact popApp_b h
      ·exact popAppS_b h
     ·exact popCopy_b h
    obtain ⟨x, σ',v,w', ρ',vl',h1,h2,h3,h4,h5⟩:=hw
    refine ⟨x, σ',v,w', ρ',vl',h1,.inl h2,h3,h4,fun z hz=>?_,h5⟩
    unfold tgtX at hz
    rw [hc] at hz
    simp only [hnw,cond_false] at hz
    cases hz
 ·cases h
def putK (E:En) (d:Option Nat) (K:St→Option β) (v:AV) (σ:St):Option β:=
 match d with
 | some t=>bif Nat.blt t E.N then K (σ.put (some t) v) else none
 | none=>K σ
theorem act_put_get {a:Act} {t t':Nat} {v:Value} (h:t < a.tmps.size):(a.put (some t) v).tmps.getD t' undef=if t=t' then v else a.tmps.getD t' undef:=by
 simp only [Act.put,Array.getD_eq_getD_getElem?]
 by_cases he:t=t'
 ·subst he
  simp [h]
 ·rw [if_neg he,Array.getElem?_setIfInBounds_ne he]
theorem Rel.put (hR:Rel E w0 ok0 gs ρ vl σ a w) {t:Nat} {x:AV} {v:Value} (ht:t < E.N) (hv:VV (cx E w0 ok0 gs ρ vl σ w) x v):Rel E w0 ok0 gs ρ vl (σ.put (some t) x) (a.put (some t) v) w:=by
 refine ⟨by simp [Act.put,hR.size],hR.defers,fun t' av h=>?_,hR.bl,hR.dist,hR.own,hR.bw,hR.rc⟩
 have hsz:t < a.tmps.size:=by rw [hR.size];exact ht
 simp only [St.put,look] at h
 rw [act_put_get hsz]
 split at h
 ·rename_i he
  have he:=Nat.eq_of_beq_eq_true he
  subst he
  injection h with h
  subst h
  rw [if_pos rfl]
  exact ⟨ht,hv⟩
 ·rename_i he
  rw [if_neg (fun e=>he (by rw [e];exact Nat.beq_refl _))]
  exact hR.tm t' av h
theorem putK_ok (hR:Rel E w0 ok0 gs ρ vl σ a w) {d:Option Nat} {K:St→Option β} {x:AV} {v:Value} {r:β} (hv:VV (cx E w0 ok0 gs ρ vl σ w) x v) (h:putK E d K x σ = some r):
  ∃ σ',K σ'=some r∧Rel E w0 ok0 gs ρ vl σ' (a.put d v) w:=by
 unfold putK at h
 split at h
 ·obtain ⟨ht,h⟩:=bif_some h
  exact ⟨_,h,hR.put (Nat.le_of_ble_eq_true ht) hv⟩
 ·exact ⟨σ,h,hR⟩
def op1 (E:En) (Γ:List (FuncId×Cn)) (σ:St) (o:Oper) (K:St→Option β):Option β:=
 match cls E o with
 | 0=>pop E σ o (putK E o.dst K)
 | 1=>rop E σ o (putK E o.dst K)
 | 2=>eop E Γ σ o (putK E o.dst K)
 | _=>sop E Γ σ o (putK E o.dst K)
def Then (E:En) (w0:World) (ok0:Nat→Prop) (gs:List Nat) (r:β) (K:St→Option β) (Kc:Act→World→Prop):Prop:=
 ∀ σ' a' w' ρ' vl',K σ'=some r→Rel E w0 ok0 gs ρ' vl' σ' a' w'→Kc a' w'
theorem op1_ok {Γ:List (FuncId×Cn)} (hΓ:AllOk E.P E.eT Γ) (hR:Rel E w0 ok0 gs ρ vl σ a w) {o:Oper} {K:St→Option β} {r:β} {Q:Exit→Act→World→Prop} {Kc:Act→World→Prop} (h:op1 E Γ σ o K=some r)
  (hK:Then E w0 ok0 gs r K Kc):o.wp E.P a w Kc Q:=by
 unfold op1 at h
 split at h
 ·refine (pop_ok hR h).wp Kc (fun x σ' v w' ρ' vl' h1 h2 h3 _=>?_)
  obtain ⟨σ2,h4,h5⟩:=putK_ok h2 h3 h1
  exact hK _ _ _ _ _ h4 h5
 ·refine (rop_ok hR h).wp hR Kc (fun x σ' v w' ρ' vl' h1 h2 h3 _=>?_)
  obtain ⟨σ2,h4,h5⟩:=putK_ok h2 h3 h1
  exact hK _ _ _ _ _ h4 h5
 ·refine eop_ok hΓ hR h Kc (fun x σ' v w' ρ' vl' h1 h2 h3 _=>?_)
  obtain ⟨σ2,h4,h5⟩:=putK_ok h2 h3 h1
  exact hK _ _ _ _ _ h4 h5
 ·refine sop_ok hΓ hR h Kc (fun x σ' v w' ρ' vl' h1 h2 h3 _ _=>?_)
  obtain ⟨σ2,h4,h5⟩:=putK_ok h2 h3 h1
  exact hK _ _ _ _ _ h4 h5
end
end Go.Proofs.YtbpcfhhcoklinaaGreat.Ab
namespace Go.Proofs.YtbpcfhhcoklinaaGreat.Ab
open Go Go.RowKit
noncomputable section
variable {β:Type} {E:En} {w0:World} {ok0:Nat→Prop} {gs:List Nat} {ρ:Nat→Nat} {vl:Nat→Value} {σ:St} {a:Act} {w:World}
theorem Rel.know (hR:Rel E w0 ok0 gs ρ vl σ a w) {t:Nat} {x:AV} (ht:t < E.N) (hv:VV (cx E w0 ok0 gs ρ vl σ w) x (a.tmps.getD t undef)):Rel E w0 ok0 gs ρ vl (σ.put (some t) x) a w:=by
 refine ⟨hR.size,hR.defers,fun t' av h=>?_,hR.bl,hR.dist,hR.own,hR.bw,hR.rc⟩
 simp only [St.put,look] at h
 split at h
 ·rename_i he
  have he:=Nat.eq_of_beq_eq_true he
  subst he
  injection h with h
  subst h
  exact ⟨ht,hv⟩
 ·exact hR.tm t' av h
def guardE (ol:List Oper) (o:Oper) (σ:St) (R S:St→Option β):Option β:=
 match o.guard with
 | none=>R σ
 | some (j,want)=>(match ol[j]? with
  | some oj=>(match oj.dst with
   | some t=>(match look σ.tm t with
    | some (.one (.s (.bool b)))=>b.ite ((bif want then R else S) (σ.put (some t) (.one (.s (.bool (.cst true)))))) ((bif want then S else R) (σ.put (some t) (.one (.s (.bool (.cst false))))))
    | some (.tup [])=>S σ
    | _=>none)
   | none=>none)
  | none=>none)
theorem guardE_ok {ops:Array Oper} (hR:Rel E w0 ok0 gs ρ vl σ a w) {o:Oper} {R S:St→Option β} {r:β} (h:guardE ops.toList o σ R S=some r):
  ∃ σ',Rel E w0 ok0 gs ρ vl σ' a w∧((Region.wanted o (yielded ops a.tmps)=true∧R σ'=some r)∨(Region.wanted o (yielded ops a.tmps)=false∧S σ'=some r)):=by
 unfold guardE at h
 split at h
 ·rename_i hg
  exact ⟨σ,hR,.inl ⟨by simp [Region.wanted,hg],h⟩⟩
 ·rename_i j want hg
  split at h
  ·rename_i oj hoj
   have hoj':ops[j]? = some oj:=by simpa using hoj
   split at h
   ·rename_i t hd
    have hy:∀ v,a.tmps.getD t undef=v→t < E.N→yielded ops a.tmps j=match v with | .bool b=>some b | _=>none:=by
     intro v hv ht
     have hsz:t < a.tmps.size:=by rw [hR.size];exact ht
     have:a.tmps[t]? = some v:=by
      rw [Array.getElem?_eq_getElem hsz,← hv]
      simp [hsz]
     simp only [yielded,hoj',Option.bind_some,hd,this]
     cases v <;> rfl
    split at h
    ·rename_i b hb
     obtain ⟨ht,hv⟩:=hR.tm t _ hb
     have hv':a.tmps.getD t undef = .bool b.val:=hv
     have hw:Region.wanted o (yielded ops a.tmps)=(b.val==want):=by
      simp only [Region.wanted,hg,hy _ hv' ht]
      cases b.val <;> cases want <;> rfl
     rw [hw]
     rcases Bo.ite_some h with ⟨h1,h2⟩ | ⟨h1,h2⟩
     ·refine ⟨_,hR.know (x:=.one (.s (.bool (.cst true)))) ht (by show _=_;rw [hv',h1];rfl), ?_⟩
      cases want
      ·exact .inr ⟨by rw [h1];rfl,h2⟩
      ·exact .inl ⟨by rw [h1];rfl,h2⟩
     ·refine ⟨_,hR.know (x:=.one (.s (.bool (.cst false)))) ht (by show _=_;rw [hv',h1];rfl), ?_⟩
      cases want
      ·exact .inl ⟨by rw [h1];rfl,h2⟩
      ·exact .inr ⟨by rw [h1];rfl,h2⟩
    ·rename_i hb
     obtain ⟨ht,vs,hv,hvs⟩:=hR.tm t _ hb
     refine ⟨σ,hR,.inr ⟨?_,h⟩⟩
     simp only [Region.wanted,hg,hy _ hv ht]
     cases want <;> rfl
    ·cases h
   ·cases h
  ·cases h
def seqR (E:En) (Γ:List (FuncId×Cn)) (ol:List Oper):List Oper→St→(St→Option β)→Option β
 | [], σ,K=>K σ
 | o :: rest, σ,K=>guardE ol o σ (fun σ1=>op1 E Γ σ1 o (fun σ2=>seqR E Γ ol rest σ2 K)) (fun σ1=>putK E o.dst (fun σ2=>seqR E Γ ol rest σ2 K) unV σ1)
theorem seqR_ok {Γ:List (FuncId×Cn)} (hΓ:AllOk E.P E.eT Γ) {ops:Array Oper} {Q:Exit→Act→World→Prop} {K:St→Option β} {r:β} (hK:Then E w0 ok0 gs r K (Q .normal)):
  ∀ {l:List Oper} {σ:St} {a:Act} {w:World} {ρ:Nat→Nat} {vl:Nat→Value},Rel E w0 ok0 gs ρ vl σ a w→seqR E Γ ops.toList l σ K=some r→wpList E.P ops Q l a w
 | [], σ,a,w, ρ,vl,hR,h=>hK _ _ _ _ _ h hR
 | o :: rest, σ,a,w, ρ,vl,hR,h=>by
  unfold seqR at h
  obtain ⟨σ1,hR1,h1⟩:=guardE_ok (ops:=ops) hR h
  refine wpList_step (fun Kc hKc=>?_)
  rcases h1 with ⟨h1,h2⟩ | ⟨h1,h2⟩
  ·rw [if_pos h1]
   refine op1_ok hΓ hR1 h2 (fun σ' a' w' ρ' vl' h3 h4=>hKc _ _ (seqR_ok hΓ hK h4 h3))
  ·rw [if_neg (by rw [h1];simp)]
   obtain ⟨σ2,h3,h4⟩:=putK_ok hR1 unV_ok h2
   exact hKc _ _ (seqR_ok hΓ hK h4 h3)
end
noncomputable section
variable {P:Program} {ops:Array Oper} {Q:Exit→Act→World→Prop} {Wf:Nat→World→World→Prop}
def wpAnyB (P:Program) (ops:Array Oper) (Q:Exit→Act→World→Prop) (Wf:Nat→World→World→Prop):Nat→Array Bool→Act→World→Prop
 | 0,listed,a,w=>Region.ready .any ops listed=[]∧Q .normal a w
 | fuel+1,listed,a,w =>
  (Region.ready .any ops listed=[]→Q .normal a w) ∧
  ∀ i∈Region.ready .any ops listed,wpOp P ops Q i (fun a' w'=>Wf i w w'∧wpAnyB P ops Q Wf fuel (listed.setIfInBounds i true) a' w') a w
theorem wpAny_of_B:∀ (fuel:Nat) (listed:Array Bool) (a:Act) (w:World),wpAnyB P ops Q Wf fuel listed a w→wpAny P .any ops Q fuel listed a w
 | 0,_,_,_,h=>h
 | fuel+1,_,_,_,h=>⟨h.1,fun i hi=>wpOp_mono (fun a' w' h'=>wpAny_of_B fuel _ a' w' h'.2) (h.2 i hi)⟩
theorem unlisted {i:Nat} {listed:Array Bool} (h1:listed.getD i true=false):listed.getD i false=false:=by
 rcases Nat.lt_or_ge i listed.size with h' | h'
 ·simp [h'] at h1 ⊢;exact h1
 ·simp [Array.getElem?_eq_none h'] at h1
theorem wpAnyB_take {i:Nat} {oi:Oper} {v:Value} (hi:ops[i]? = some oi) (hsel:∀ (j:Nat) (o:Oper) cs b,ops[j]? = some o→o.op≠.select cs b)
  (hQ:∀ c a w,¬ Q (.panic c) a w) (S:World→Prop) (hWr:∀ w,Wf i w w) (hS:∀ (j:Nat) (oj:Oper) w w',ops[j]? = some oj→(∀ e∈oj.after,Region.binds .any e=true→e.on≠i∧∀ ok,ops[e.on]? = some ok→∀ e2∈ok.after,Region.binds .any e2=true→e2.on≠i)→S w→Wf j w w'→S w'):
  ∀ (fuel:Nat) (listed:Array Bool) (a:Act) (w:World),
   (∀ j oj,ops[j]? = some oj→j≠i→listed.getD j true=false→(∀ e∈oj.after,Region.binds .any e=true→e.on≠i)→oi.apart ops oj=true) →
   (∀ k ok,ops[k]? = some ok→listed.getD k false=true→∀ e∈ok.after,Region.binds .any e=true→e.on≠i) →
   i∈Region.ready .any ops listed→YieldsIf P ops S oi v a→S w →
   wpAnyB P ops Q Wf fuel (listed.setIfInBounds i true) (a.put oi.dst v) w→wpAnyB P ops Q Wf (fuel+1) listed a w:=by
 have hQ':∀ c a w,Q (.panic c) (a.put oi.dst v) w→Q (.panic c) a w:=fun c a w h=>absurd h (hQ _ _ _)
 intro fuel
 induction fuel with
 | zero =>
  intro listed a w _ _ hr hy hSw H
  refine ⟨fun h=>(by rw [h] at hr;cases hr),fun j hj=>?_⟩
  by_cases hji:j=i
  ·subst hji;exact hy.wpOp hi hSw ⟨hWr _,H⟩
  ·have:=ready_mono hj hji
   rw [H.1] at this
   cases this
 | succ fuel ih =>
  intro listed a w hfree hcl hr hy hSw H
  refine ⟨fun h=>(by rw [h] at hr;cases hr),fun j hj=>?_⟩
  by_cases hji:j=i
  ·subst hji;exact hy.wpOp hi hSw ⟨hWr _,H⟩
  ·have h1:=H.2 j (ready_mono hj hji)
   obtain ⟨hjun,oj,hoj,hall⟩:=mem_ready.1 hj
   have hiun:=unlisted (mem_ready.1 hr).1
   have hnot:∀ e∈oj.after,Region.binds .any e=true→e.on≠i:=fun e he hb heq=>by
    have h1:=hall e he hb
    rw [heq,hiun] at h1
    cases h1
   have h2:=wpOp_putIf hoj (hfree j oj hoj hji hjun hnot) (fun cs b=>hsel i oi cs b hi) (fun cs b=>hsel j oj cs b hoj) hQ' hy h1
   have hfree':∀ k ok,ops[k]? = some ok→k≠i→(listed.setIfInBounds j true).getD k true=false →
     (∀ e∈ok.after,Region.binds .any e=true→e.on≠i)→oi.apart ops ok=true:=fun k ok hk hki hun hno=>by
    refine hfree k ok hk hki ?_ hno
    by_cases hjk:j=k
    ·subst hjk;exact hjun
    ·rw [getD_set_ne true hjk] at hun;exact hun
   have hcl':∀ k ok,ops[k]? = some ok→(listed.setIfInBounds j true).getD k false=true→∀ e∈ok.after,Region.binds .any e=true→e.on≠i:=fun k ok hk hlk=>by
    by_cases hjk:j=k
    ·subst hjk
     rw [hoj] at hk
     injection hk with hk
     subst hk
     exact hnot
    ·rw [getD_set_ne false hjk] at hlk
     exact hcl k ok hk hlk
   refine wpOp_mono (fun a' w' h3=>⟨h3.2.1,ih (listed.setIfInBounds j true) a' w' hfree' hcl' (ready_mono hr (Ne.symm hji)) h3.1 ?_ ?_⟩) h2
   ·exact hS j oj w w' hoj (fun e he hb=>⟨hnot e he hb,fun ok hok=>hcl e.on ok hok (hall e he hb)⟩) hSw h3.2.1
   ·rw [Array.setIfInBounds_comm _ _ hji]
    exact h3.2.2
theorem wpAnyB_done {listed:Array Bool} {a:Act} {w:World} (hr:Region.ready .any ops listed=[]) (h:Q .normal a w):∀ fuel,wpAnyB P ops Q Wf fuel listed a w
 | 0=>⟨hr,h⟩
 | _+1=>⟨fun _=>h,by rw [hr];simp⟩
def tb (L j:Nat):Bool:=Nat.beq (Nat.land (Nat.shiftRight L j) 1) 1
theorem tb_eq (L j:Nat):tb L j=L.testBit j:=by
 unfold tb Nat.testBit
 have h:Nat.land (Nat.shiftRight L j) 1=(L >>> j)%2:=by
  show (L >>> j) &&& 1=_
  exact Nat.and_one_is_mod _
 have h2:1 &&& (L >>> j)=(L >>> j)%2:=by rw [Nat.and_comm];exact Nat.and_one_is_mod _
 rw [h,h2]
 rcases Nat.mod_two_eq_zero_or_one (L >>> j) with h3 | h3 <;> rw [h3] <;> rfl
def needM:List Edge→Nat
 | []=>0
 | e :: r=>bif Region.binds .any e then Nat.lor (Nat.shiftLeft 1 e.on) (needM r) else needM r
theorem bit_one (i j:Nat):(Nat.shiftLeft 1 i).testBit j=decide (i=j):=by
 show (1 <<< i).testBit j=_
 rw [Nat.one_shiftLeft,Nat.testBit_two_pow]
theorem needM_bit:∀ (l:List Edge) (j:Nat),(needM l).testBit j=true↔∃ e∈l,Region.binds .any e=true∧e.on=j
 | [],j=>by simp [needM]
 | e :: r,j=>by
  unfold needM
  cases hb:Region.binds .any e
  ·rw [cond_false,needM_bit r j]
   constructor
   ·rintro ⟨f,hf,h⟩;exact ⟨f,List.mem_cons_of_mem _ hf,h⟩
   ·rintro ⟨f,hf,h⟩
    rcases List.mem_cons.1 hf with rfl | hf
    ·rw [hb] at h;cases h.1
    ·exact ⟨f,hf,h⟩
  ·rw [cond_true,show Nat.lor (Nat.shiftLeft 1 e.on) (needM r)=Nat.shiftLeft 1 e.on ||| needM r from rfl,Nat.testBit_or,bit_one,Bool.or_eq_true,needM_bit r j]
   constructor
   ·rintro (h | ⟨f,hf,h⟩)
    ·exact ⟨e,List.mem_cons_self,hb,of_decide_eq_true h⟩
    ·exact ⟨f,List.mem_cons_of_mem _ hf,h⟩
   ·rintro ⟨f,hf,h⟩
    rcases List.mem_cons.1 hf with rfl | hf
    ·exact .inl (decide_eq_true h.2)
    ·exact .inr ⟨f,hf,h⟩
theorem sub_bits (m L:Nat):Nat.beq (Nat.land m L) m=true↔∀ j,m.testBit j=true→L.testBit j=true:=by
 constructor
 ·intro h j hj
  have h:=Nat.eq_of_beq_eq_true h
  have:(m &&& L).testBit j=true:=by rw [show m &&& L=m from h];exact hj
  rw [Nat.testBit_and,Bool.and_eq_true] at this
  exact this.2
 ·intro h
  have:m &&& L=m:=by
   apply Nat.eq_of_testBit_eq
   intro j
   rw [Nat.testBit_and]
   cases hm:m.testBit j
   ·rfl
   ·rw [h j hm];rfl
  rw [show Nat.land m L=m from this]
  exact Nat.beq_refl m
def rdyB (nd:List Nat) (L j:Nat):Bool:=
 match nd[j]? with
 | some m=>!tb L j&&Nat.beq (Nat.land m L) m
 | none=>false
def rdy (nd:List Nat) (n L:Nat):List Nat:=(List.range n).filter (rdyB nd L)
def needs (ops:List Oper):List Nat:=ops.map fun o=>needM o.after.toList
structure LOk (n:Nat) (L:Nat) (arr:Array Bool):Prop where
 size:arr.size=n
 bit:∀ j,j < n→arr.getD j true=L.testBit j
 small:∀ j,L.testBit j=true→j < n
theorem LOk.bit' {n L:Nat} {arr:Array Bool} (h:LOk n L arr) (j:Nat):arr.getD j false=L.testBit j:=by
 rcases Nat.lt_or_ge j n with hj | hj
 ·have:=h.bit j hj
  have hs:j < arr.size:=by rw [h.size];exact hj
  simp [hs] at this ⊢
  exact this
 ·have hs:¬ j < arr.size:=by rw [h.size];omega
  simp [hs]
  cases hb:L.testBit j
  ·rfl
  ·have:=h.small j hb;omega
theorem LOk.zero (n:Nat):LOk n 0 (Array.replicate n false):=⟨by simp,fun j hj=>by simp [hj],fun j h=>by simp at h⟩
theorem LOk.set {n L:Nat} {arr:Array Bool} (h:LOk n L arr) {i:Nat} (hi:i < n):LOk n (Nat.lor L (Nat.shiftLeft 1 i)) (arr.setIfInBounds i true):=by
 refine ⟨by simp [h.size],fun j hj=>?_,fun j hj=>?_⟩
 ·rw [show Nat.lor L (Nat.shiftLeft 1 i)=L ||| Nat.shiftLeft 1 i from rfl,Nat.testBit_or,bit_one]
  by_cases hij:i=j
  ·subst hij
   have:i < arr.size:=by rw [h.size];exact hi
   simp [this]
  ·rw [getD_set_ne true hij,h.bit j hj]
   simp [hij]
 ·rw [show Nat.lor L (Nat.shiftLeft 1 i)=L ||| Nat.shiftLeft 1 i from rfl,Nat.testBit_or,bit_one,Bool.or_eq_true] at hj
  rcases hj with hj | hj
  ·exact h.small j hj
  ·have:=of_decide_eq_true hj;omega
theorem rdy_eq {ops:Array Oper} {L:Nat} {arr:Array Bool} (h:LOk ops.size L arr):rdy (needs ops.toList) ops.size L=Region.ready .any ops arr:=by
 unfold rdy Region.ready
 apply List.filter_congr
 intro j hj
 have hj:=List.mem_range.1 hj
 have ho:ops[j]? = some ops[j]:=Array.getElem?_eq_getElem hj
 simp only [rdyB,needs,List.getElem?_map,Array.getElem?_toList,ho,Option.map_some,Option.getD_some,tb_eq,h.bit j hj]
 congr 1
 rw [Bool.eq_iff_iff,sub_bits]
 simp only [needM_bit,Array.all_eq_true_iff_forall_mem,Bool.or_eq_true,Bool.not_eq_true',h.bit']
 constructor
 ·intro h1 e he
  cases hb:Region.binds .any e
  ·exact .inl rfl
  ·exact .inr (h1 _ ⟨e,by simpa using he,hb,rfl⟩)
 ·rintro h1 j' ⟨e,he,hb,rfl⟩
  rcases h1 e (by simpa using he) with h2 | h2
  ·rw [hb] at h2;cases h2
  ·exact h2
def clashM (ops:Array Oper) (i:Nat) (oi:Oper):Nat→List Oper→Nat
 | _,[]=>0
 | j,oj :: r=>bif Nat.beq j i||(oi.apart ops oj||tb (needM oj.after.toList) i) then clashM ops i oi (j+1) r else Nat.lor (Nat.shiftLeft 1 j) (clashM ops i oi (j+1) r)
theorem clashM_bit {ops:Array Oper} {i:Nat} {oi:Oper}:∀ (l:List Oper) (k j:Nat) (oj:Oper),l[j]? = some oj→j+k≠i→oi.apart ops oj=false→(needM oj.after.toList).testBit i=false→(clashM ops i oi k l).testBit (j+k)=true
 | [],k,j,oj,h,_,_,_=>by simp at h
 | o :: r,k,0,oj,h,h1,h2,h3=>by
  simp only [List.getElem?_cons_zero,Option.some.injEq] at h
  subst h
  unfold clashM
  have hb:Nat.beq k i=false:=by
   cases hb:Nat.beq k i
   ·rfl
   ·have:=Nat.eq_of_beq_eq_true hb;omega
  rw [hb,h2,tb_eq,h3]
  simp only [Bool.or_self,cond_false,Nat.zero_add]
  rw [show Nat.lor (Nat.shiftLeft 1 k) (clashM ops i oi (k+1) r)=Nat.shiftLeft 1 k ||| clashM ops i oi (k+1) r from rfl,Nat.testBit_or,bit_one]
  simp
 | o :: r,k,j+1,oj,h,h1,h2,h3=>by
  have ih:=clashM_bit r (k+1) j oj (by simpa using h) (by omega) h2 h3
  unfold clashM
  have e:j+1+k=j+(k+1):=by omega
  rw [e]
  cases hc:(Nat.beq k i||(oi.apart ops o||tb (needM o.after.toList) i))
  ·rw [cond_false,show Nat.lor (Nat.shiftLeft 1 k) (clashM ops i oi (k+1) r)=Nat.shiftLeft 1 k ||| clashM ops i oi (k+1) r from rfl,Nat.testBit_or,ih]
   simp
  ·rw [cond_true];exact ih
theorem clash_free {ops:Array Oper} {L i:Nat} {oi:Oper} {arr:Array Bool} (h:LOk ops.size L arr) (hc:Nat.beq (Nat.land (clashM ops i oi 0 ops.toList) L) (clashM ops i oi 0 ops.toList)=true):
  ∀ j oj,ops[j]? = some oj→j≠i→arr.getD j true=false→(∀ e∈oj.after,Region.binds .any e=true→e.on≠i)→oi.apart ops oj=true:=by
 intro j oj hj hne hun hno
 cases ha:oi.apart ops oj
 ·have h3:(needM oj.after.toList).testBit i=false:=by
   cases hb:(needM oj.after.toList).testBit i
   ·rfl
   ·obtain ⟨e,he,hb,heq⟩:=(needM_bit _ _).1 hb
    exact absurd heq (hno e (by simpa using he) hb)
  have h1:=clashM_bit (ops:=ops) (i:=i) (oi:=oi) ops.toList 0 j oj (by simpa using hj) (by omega) ha h3
  have h2:=(sub_bits _ _).1 hc _ h1
  have hlt:j < ops.size:=(Array.getElem?_eq_some_iff.1 hj).1
  rw [h.bit j hlt] at hun
  rw [Nat.add_zero,hun] at h2
  cases h2
 ·rfl
end
end Go.Proofs.YtbpcfhhcoklinaaGreat.Ab
namespace Go.Proofs.YtbpcfhhcoklinaaGreat.Ab
open Go Go.RowKit
noncomputable section
variable {β:Type} {E:En} {w0:World} {ok0:Nat→Prop} {gs:List Nat} {ρ:Nat→Nat} {vl:Nat→Value} {σ:St} {a:Act} {w:World}
theorem Rel.hide (hR:Rel E w0 ok0 gs ρ vl σ a w) {d:Nat} {v:Value} {o:Obj} (hd:look σ.tm d=none):
  Rel E w0 ok0 (w.heap.size :: gs) ρ vl σ (a.put (some d) v) { w with heap:=w.heap.push o }:=by
 have hw:Bw [] w { w with heap:=w.heap.push o }:=bw_alloc w o
 have hle:(cx E w0 ok0 gs ρ vl σ w).Le (cx E w0 ok0 (w.heap.size :: gs) ρ vl σ { w with heap:=w.heap.push o }):=by
  refine ⟨rfl,Nat.le_refl _,fun _ _=>rfl,fun _ _=>rfl,fun i e h=>⟨e,h,rfl⟩, ?_,hw.size,fun q hq hlt=>hw.block q hlt (by simp)⟩
  intro q hq hlt
  rcases hq with hq | ⟨h1,h2,h3⟩
  ·exact .inl hq
  ·refine .inr ⟨h1,fun hm=>?_,h3⟩
   rcases List.mem_cons.1 hm with rfl | hm
   ·exact Nat.lt_irrefl _ (show w.heap.size < w.heap.size from hlt)
   ·exact h2 hm
 refine ⟨by simp [Act.put,hR.size],hR.defers,fun t av ht=>?_,fun b x hx=>BS.le hle rfl (bl_lt hx) (fun q hq=>hw.block q (hR.own b q ⟨x,hx,hq⟩).2 (by simp)) (hR.bl b x hx),hR.dist,fun b g h=>?_,⟨hR.bw.toBw.trans (hw.weak (by simp)),fun g hg=>?_⟩,hR.rc⟩
 ·have hne:d≠t:=by rintro rfl;rw [hd] at ht;cases ht
  obtain ⟨h1,h2⟩:=hR.tm t av ht
  refine ⟨h1, ?_⟩
  have:(a.put (some d) v).tmps.getD t undef=a.tmps.getD t undef:=by
   simp only [Act.put,Array.getD_eq_getD_getElem?,Array.getElem?_setIfInBounds_ne hne]
  rw [this]
  exact h2.le hle
 ·obtain ⟨⟨h1,h2⟩,h3⟩:=hR.own b g h
  refine ⟨⟨h1,fun hm=>?_⟩,Nat.lt_of_lt_of_le h3 hw.size⟩
  rcases List.mem_cons.1 hm with rfl | hm
  ·exact Nat.lt_irrefl _ h3
  ·exact h2 hm
 ·rcases List.mem_cons.1 hg with rfl | hg
  ·exact ⟨hR.bw.size,by simp⟩
  ·exact ⟨(hR.bw.hid g hg).1,Nat.lt_of_lt_of_le (hR.bw.hid g hg).2 hw.size⟩
theorem Rel.tell (hR:Rel E w0 ok0 gs ρ vl σ a w) {gs':List Nat} {g d:Nat} {z:List Sc} {vs:Array Value} {t:TypeId} (hd:d < E.N) (hg:g∈gs) (hgs:∀ q,q∈gs'→q∈gs) (hg':g ∉ gs')
  (hb:w.heap[g]? = some (.cells vs t (0,0))) (hz:∀ C:Cx,C.eT=E.eT→VSs C z vs.toList) (hp:a.tmps.getD d undef = .pointer (some ⟨g,0,none⟩)):
  ∃ ρ',Rel E w0 ok0 gs' ρ' (upd vl σ.bl.length .nilIface) ((σ.new (.cells z t)).put (some d) (.one (.s (.ptr σ.bl.length 0)))) a w:=by
 have hlen:(σ.new (.cells z t)).bl.length = σ.bl.length+1:=by simp [St.new]
 have hlive:∀ b q,liveAt (upd ρ σ.bl.length g) (upd vl σ.bl.length .nilIface) (σ.new (.cells z t)) b q→(b < σ.bl.length∧liveAt ρ vl σ b q)∨(b = σ.bl.length∧q=g):=by
  intro b q h
  rcases live_new h with h | ⟨rfl,h⟩
  ·exact .inl h
  ·simp only [Bl.at,upd_eq,Option.some.injEq] at h
   exact .inr ⟨rfl,h.symm⟩
 have hle:(cx E w0 ok0 gs ρ vl σ w).Le (cx E w0 ok0 gs' (upd ρ σ.bl.length g) (upd vl σ.bl.length .nilIface) (σ.new (.cells z t)) w):=by
  refine ⟨rfl,by simp only [cx];omega,fun b hb=>upd_ne (by simp only [cx] at hb;omega),fun b hb=>upd_ne (by simp only [cx] at hb;omega),fun i e h=>⟨e,h,rfl⟩, ?_,Nat.le_refl _,fun _ _ _=>rfl⟩
  intro q hq _
  rcases hq with hq | ⟨h1,h2,h3⟩
  ·exact .inl hq
  ·refine .inr ⟨h1,fun hm=>h2 (hgs q hm),fun b hl=>?_⟩
   rcases hlive b q hl with ⟨-,h4⟩ | ⟨-,rfl⟩
   ·exact h3 b h4
   ·exact h2 hg
 have hlt:g < w.heap.size:=(hR.bw.hid g hg).2
 refine ⟨upd ρ σ.bl.length g,hR.size,hR.defers,fun t' av ht=>?_,fun b x hx=>?_,fun b b' q h1 h2=>?_,fun b q h=>?_,⟨hR.bw.toBw,fun q hq=>hR.bw.hid q (hgs q hq)⟩,fun q hq=>?_⟩
 ·simp only [St.put,look] at ht
  split at ht
  ·rename_i he
   have he:=Nat.eq_of_beq_eq_true he
   subst he
   injection ht with ht
   subst ht
   refine ⟨hd, ?_, ?_⟩
   ·show σ.bl.length < (σ.new (.cells z t)).bl.length
    omega
   ·show _=Value.pointer (some ⟨upd ρ σ.bl.length g σ.bl.length,0,none⟩)
    rw [upd_eq]
    exact hp
  ·exact ⟨(hR.tm t' av ht).1,(hR.tm t' av ht).2.le hle⟩
 ·rcases Nat.lt_trichotomy b σ.bl.length with h | rfl | h
  ·have hx':σ.bl[b]? = some x:=by rw [← hx];simp [St.put,St.new,List.getElem?_append_left h]
   exact BS.le hle rfl h (fun _ _=>rfl) (hR.bl b x hx')
  ·have:x = .cells z t:=by simp [St.put,St.new] at hx;exact hx.symm
   subst this
   refine ⟨?_,vs, ?_,hz _ rfl⟩
   ·show upd ρ σ.bl.length g σ.bl.length < _
    rw [upd_eq];exact hlt
   ·show w.heap[upd ρ σ.bl.length g σ.bl.length]? = _
    rw [upd_eq];exact hb
  ·have:(σ.bl++[Bl.cells z t])[b]? = some x:=hx
   rw [List.getElem?_eq_none (by simp;omega)] at this
   cases this
 ·rcases hlive b q h1 with ⟨h3,h4⟩ | ⟨rfl,rfl⟩ <;> rcases hlive b' q h2 with ⟨h5,h6⟩ | ⟨rfl,h6⟩
  ·exact hR.dist b b' q h4 h6
  ·subst h6;exact absurd hg (hR.own b q h4).1.2
  ·exact absurd hg (hR.own b' q h6).1.2
  ·rfl
 ·rcases hlive b q h with ⟨h3,h4⟩ | ⟨rfl,rfl⟩
  ·exact ⟨⟨(hR.own b q h4).1.1,fun hm=>(hR.own b q h4).1.2 (hgs q hm)⟩,(hR.own b q h4).2⟩
  ·exact ⟨⟨.inl (hR.bw.hid q hg).1,hg'⟩,hlt⟩
 ·obtain ⟨h1,h2,h3⟩:=hR.rc q hq
  refine ⟨by show 0 < (σ.new (.cells z t)).bl.length;omega,fun p hp=>?_,h3⟩
  rcases hlive 0 p hp with ⟨-,h4⟩ | ⟨h4, -⟩
  ·exact h2 p h4
  ·omega
end
end Go.Proofs.YtbpcfhhcoklinaaGreat.Ab
namespace Go.Proofs.YtbpcfhhcoklinaaGreat.Ab
open Go Go.RowKit
noncomputable section
variable {β:Type} {E:En} {w0:World} {ok0:Nat→Prop} {gs:List Nat} {ρ:Nat→Nat} {vl:Nat→Value} {σ:St} {a:Act} {w:World}
def dsOf (E:En):Nat→List Oper→List Nat
 | _,[]=>[]
 | i,o :: r=>bif Nat.beq (cls E o) 3 then i :: dsOf E (i+1) r else dsOf E (i+1) r
theorem dsOf_spec {E:En}:∀ (l:List Oper) (k j:Nat) (o:Oper),l[j]? = some o→cls E o=3→j+k∈dsOf E k l
 | [],_,_,_,h,_=>by simp at h
 | q :: r,k,0,o,h,hc=>by
  simp only [List.getElem?_cons_zero,Option.some.injEq] at h
  subst h
  unfold dsOf
  rw [hc]
  simp
 | q :: r,k,j+1,o,h,hc=>by
  have ih:=dsOf_spec r (k+1) j o (by simpa using h) hc
  have e:j+1+k=j+(k+1):=by omega
  unfold dsOf
  rw [e]
  cases Nat.beq (cls E q) 3
  ·exact ih
  ·exact List.mem_cons_of_mem _ ih
def tgtO (E:En) (o:Oper):Option Nat:=
 match o.op with
 | .store _ (.tmp p) _=>some p
 | .call c=>bif wrC E c then (match c.args.toList with
  | .tmp p :: _=>some p
  | _=>none) else none
 | _=>none
theorem tgtO_X {E:En} {o:Oper} {p:Nat} (h:tgtO E o=some p):tgtX E o=some (.tmp p):=by
 unfold tgtO at h
 unfold tgtX
 split at h
 ·rename_i hop
  injection h with h
  subst h
  rw [hop]
 ·rename_i c hop
  obtain ⟨hw,h⟩:=bif_some h
  rw [hop]
  simp only [hw,cond_true]
  split at h
  ·rename_i q r hargs
   injection h with h
   subst h
   rw [hargs]
   rfl
  ·cases h
 ·cases h
def fixedT (p:Nat):List Oper→Bool
 | []=>true
 | o :: r=>(match o.dst with
  | some t=>!Nat.beq t p
  | none=>true)&&fixedT p r
theorem fixedT_spec {p:Nat}:∀ {l:List Oper},fixedT p l=true→∀ o∈l,o.dst≠some p
 | [],_,o,ho=>by cases ho
 | q :: r,h,o,ho=>by
  unfold fixedT at h
  simp only [Bool.and_eq_true] at h
  rcases List.mem_cons.1 ho with rfl | ho
  ·intro he
   have h1:=h.1
   rw [he] at h1
   simp at h1
  ·exact fixedT_spec h.2 o ho
def onceT (d i:Nat):Nat→List Oper→Bool
 | _,[]=>true
 | j,o :: r=>(Nat.beq j i||(match o.dst with
  | some t=>!Nat.beq t d
  | none=>true))&&onceT d i (j+1) r
theorem onceT_spec {d i:Nat}:∀ {l:List Oper} {k j:Nat} {o:Oper},onceT d i k l=true→l[j]? = some o→j+k≠i→o.dst≠some d
 | [],_,j,_,_,ho,_=>by simp at ho
 | q :: r,k,0,o,h,ho,hne=>by
  simp only [List.getElem?_cons_zero,Option.some.injEq] at ho
  subst ho
  unfold onceT at h
  simp only [Bool.and_eq_true,Bool.or_eq_true] at h
  intro he
  rcases h.1 with h1 | h1
  ·exact hne (by have:=Nat.eq_of_beq_eq_true h1;omega)
  ·rw [he] at h1
   simp at h1
 | q :: r,k,j+1,o,h,ho,hne=>by
  unfold onceT at h
  simp only [Bool.and_eq_true] at h
  exact onceT_spec (k:=k+1) (j:=j) h.2 (by simpa using ho) (by omega)
def isAl (E:En) (ops:List Oper) (i:Nat):Option (Nat×TypeId×List Sc):=
 match ops[i]? with
 | some o=>(match o.op,o.guard,o.dst with
  | .alloc t,none,some d=>(match zeroSc E t with
   | some z=>bif onceT d i 0 ops&&Nat.blt d E.N then some (d,t,z) else none
   | none=>none)
  | _,_,_=>none)
 | none=>none
theorem isAl_spec {ops:List Oper} {i d:Nat} {t:TypeId} {z:List Sc} (h:isAl E ops i=some (d,t,z)):
  ∃ o,ops[i]? = some o∧o.op = .alloc t∧o.guard=none∧o.dst=some d∧zeroSc E t=some z∧onceT d i 0 ops=true∧d < E.N:=by
 unfold isAl at h
 split at h
 ·rename_i o ho
  split at h
  ·rename_i t' d' h1 h2 h3
   split at h
   ·rename_i z' hz
    obtain ⟨hc,h⟩:=bif_some h
    simp only [Bool.and_eq_true] at hc
    injection h with h
    injection h with h4 h
    injection h with h5 h6
    subst h4 h5 h6
    exact ⟨o,ho,h1,h2,h3,hz,hc.1,Nat.le_of_ble_eq_true hc.2⟩
   ·cases h
  ·cases h
 ·cases h
def newOf (E:En) (ops:List Oper) (m p:Nat):List Nat→Bool
 | []=>false
 | k :: r=>(tb m k&&(match isAl E ops k with
  | some (d,_,_)=>Nat.beq d p
  | none=>false))||newOf E ops m p r
theorem newOf_spec {ops:List Oper} {m p:Nat}:∀ {l:List Nat},newOf E ops m p l=true→∃ k t z,m.testBit k=true∧isAl E ops k=some (p,t,z)
 | [],h=>by cases h
 | k :: r,h=>by
  unfold newOf at h
  simp only [Bool.or_eq_true,Bool.and_eq_true,tb_eq] at h
  rcases h with ⟨h1,h2⟩ | h
  ·split at h2
   ·rename_i d t z hal
    have:=Nat.eq_of_beq_eq_true h2
    subst this
    exact ⟨k,t,z,h1,hal⟩
   ·cases h2
  ·exact newOf_spec h
def FaOp (o:Op) (q:Nat):Prop:=(∃ t f,o = .fieldAddr t (.tmp q) f)∨(∃ t i,o = .indexAddr t (.tmp q) i)∨o = .move (.tmp q)∨o = .nilCheck (.tmp q)
def faSrc:Op→Option Nat
 | .fieldAddr _ (.tmp q) _=>some q
 | .indexAddr _ (.tmp q) _=>some q
 | .move (.tmp q)=>some q
 | .nilCheck (.tmp q)=>some q
 | _=>none
theorem faSrc_spec {o:Op} {q:Nat} (h:faSrc o=some q):FaOp o q:=by
 unfold faSrc at h
 split at h <;> first | (injection h with h;subst h;first | exact .inl ⟨_,_,rfl⟩ | exact .inr (.inl ⟨_,_,rfl⟩) | exact .inr (.inr (.inl rfl)) | exact .inr (.inr (.inr rfl))) | cases h
def isFa1 (E:En) (ops:List Oper) (k:Nat):Option (Nat×Nat×Nat):=
 match ops[k]? with
 | some o=>(match o.guard,o.dst,faSrc o.op with
  | none,some p,some q=>bif onceT p k 0 ops&&Nat.blt p E.N then some (p,q,needM o.after.toList) else none
  | _,_,_=>none)
 | none=>none
theorem isFa1_spec {ops:List Oper} {k p q m:Nat} (h:isFa1 E ops k=some (p,q,m)):
  ∃ o,ops[k]? = some o∧o.guard=none∧o.dst=some p∧FaOp o.op q∧onceT p k 0 ops=true∧p < E.N∧m=needM o.after.toList:=by
 unfold isFa1 at h
 split at h
 ·rename_i o ho
  split at h
  ·rename_i p' q' h1 h2 h3
   obtain ⟨hc,h⟩:=bif_some h
   simp only [Bool.and_eq_true] at hc
   injection h with h
   injection h with h4 h5
   injection h5 with h5 h6
   subst h4 h5 h6
   exact ⟨o,ho,h1,h2,faSrc_spec h3,hc.1,Nat.le_of_ble_eq_true hc.2,rfl⟩
  ·cases h
 ·cases h
def viaFa (F:Nat→Option (Nat×Nat)) (q m p:Nat):List Nat→Option (Nat×Nat)
 | []=>none
 | j :: r=>(match (bif tb m j then F j else none) with
  | some (q',root)=>bif Nat.beq q' q then some (p,root) else viaFa F q m p r
  | none=>viaFa F q m p r)
theorem viaFa_spec {F:Nat→Option (Nat×Nat)} {q m p:Nat}:∀ {l:List Nat} {x y:Nat},viaFa F q m p l=some (x,y)→x=p∧∃ j,m.testBit j=true∧F j=some (q,y)
 | [],_,_,h=>by cases h
 | j :: r,x,y,h=>by
  unfold viaFa at h
  split at h
  ·rename_i q' root hb
   cases hq:Nat.beq q' q <;> rw [hq] at h
   ·exact viaFa_spec h
   ·have:=Nat.eq_of_beq_eq_true hq
    subst this
    rw [cond_true] at h
    injection h with h
    injection h with h1 h2
    subst h1 h2
    obtain ⟨h3,h4⟩:=bif_some hb
    exact ⟨rfl,j,by rw [← tb_eq];exact h3,h4⟩
  ·exact viaFa_spec h
def isFaN (E:En) (ops:List Oper):Nat→Nat→Option (Nat×Nat)
 | 0,_=>none
 | f+1,k=>(match isFa1 E ops k with
  | some (p,q,m)=>bif fixedT q ops then some (p,q) else viaFa (isFaN E ops f) q m p (List.range ops.length)
  | none=>none)
def isFa (E:En) (ops:List Oper) (k:Nat):Option (Nat×Nat):=isFaN E ops 4 k
theorem isFaN_spec {ops:List Oper} {f k p r:Nat} (h:isFaN E ops f k=some (p,r)):
  ∃ o q,ops[k]? = some o∧o.guard=none∧o.dst=some p∧FaOp o.op q∧onceT p k 0 ops=true∧p < E.N∧((q=r∧fixedT q ops=true)∨∃ j f',(needM o.after.toList).testBit j=true∧isFaN E ops f' j=some (q,r)):=by
 cases f with
 | zero=>cases h
 | succ f =>
  unfold isFaN at h
  split at h
  ·rename_i p' q m h1
   obtain ⟨o,h2,h3,h4,h5,h6,h7,rfl⟩:=isFa1_spec h1
   cases hf:fixedT q ops <;> rw [hf] at h
   ·obtain ⟨rfl,j,h8,h9⟩:=viaFa_spec h
    exact ⟨o,q,h2,h3,h4,h5,h6,h7,.inr ⟨j,f,h8,h9⟩⟩
   ·rw [cond_true] at h
    injection h with h
    injection h with h8 h9
    subst h8 h9
    exact ⟨o,q,h2,h3,h4,h5,h6,h7,.inl ⟨rfl,hf⟩⟩
  ·cases h
theorem pop_fa (hR:Rel E w0 ok0 gs ρ vl σ a w) {o:Oper} {q g off:Nat} {K:AV→St→Option β} {r:β} (h:pop E σ o K=some r) (ho:FaOp o.op q)
  (hq:a.tmps.getD q undef = .pointer (some ⟨g,off,none⟩)) {v:Value} {w1:World} (hv:(execOp a.eval o).run E.P w1 = .ok (.value v) w1):∃ off',v = .pointer (some ⟨g,off',none⟩):=by
 have hq':a.eval (.tmp q) = .pointer (some ⟨g,off,none⟩):=hq
 unfold pop at h
 rcases ho with ⟨t,f,ho⟩ | ⟨t,i,ho⟩ | ho | ho
 ·rw [ho] at h
  simp only at h
  unfold popFA at h
  split at h
  ·rename_i b o' k hx hf
   have e:(execOp a.eval o).run E.P w1 = .ok (.value (.pointer (some ⟨g,off+k,none⟩))) w1:=by simp [execOp,ho,hq',fieldOff_ok hf]
   rw [e] at hv
   injection hv with hv
   injection hv with hv
   exact ⟨_,hv.symm⟩
  ·rename_i cs k hx hf
   have e:(execOp a.eval o).run E.P w1 = .ok (.value (.pointer (some ⟨g,off+k,none⟩))) w1:=by simp [execOp,ho,hq',fieldOff_ok hf]
   rw [e] at hv
   injection hv with hv
   injection hv with hv
   exact ⟨_,hv.symm⟩
  ·cases h
 ·rw [ho] at h
  simp only at h
  unfold popIdxA at h
  split at h
  ·rename_i k j lo hi b o' hj hx
   obtain ⟨e2, -⟩:=opd_ok hR hj
   split at h
   ·rename_i n s ht
    have h0:0≤j∧j < (n:Int):=by
     cases hc:(inCells σ b&&litI lo hi) <;> rw [hc] at h
     ·simp only [cond_false] at h
      obtain ⟨-,h⟩:=bif_some h
      obtain ⟨h2,h3, -⟩:=inRange_some h
      exact ⟨h2,h3⟩
     ·simp only [cond_true] at h
      obtain ⟨h2,h3, -⟩:=inRange_some h
      exact ⟨h2,h3⟩
    obtain ⟨h2,h3⟩:=h0
    obtain ⟨e,ti,he,hi',rfl⟩:=arrayT_of ht
    have e:(execOp a.eval o).run E.P w1 = .ok (.value (.pointer (some ⟨g,off+j.toNat*ti.size,none⟩))) w1:=by
     simp only [execOp,ho,hq',e2,Sem.run_bind,run_idx_array he hi' _ _ j h2 h3,Result.andThen_ok,Sem.run_pure,Addr.add_mid]
    rw [e] at hv
    injection hv with hv
    injection hv with hv
    exact ⟨_,hv.symm⟩
   ·cases h
  ·rename_i b o' m n hj hx
   obtain ⟨-, -, -,c, -,e1⟩:=opd_ok hR hx
   rw [hq'] at e1
   cases e1
  ·rename_i b n sz hj hx
   obtain ⟨-,e1⟩:=opd_ok hR hx
   rw [hq'] at e1
   cases e1
  ·rename_i b hj hx
   obtain ⟨-, -,A,n,c,e3⟩:=opd_ok hR hx
   rw [hq'] at e3
   cases e3
  ·rename_i k' l hj hx
   obtain ⟨A,c,e1, -⟩:=opd_ok hR hx
   rw [hq'] at e1
   cases e1
  ·rename_i ks l hj hx
   obtain ⟨A,c,e1, -⟩:=opd_ok hR hx
   rw [hq'] at e1
   cases e1
  ·rename_i b hj hx
   obtain ⟨-, -,A,n,c,e3⟩:=opd_ok hR hx
   rw [hq'] at e3
   cases e3
  ·cases h
 ·have e:(execOp a.eval o).run E.P w1 = .ok (.value (.pointer (some ⟨g,off,none⟩))) w1:=by simp [execOp,ho,hq']
  rw [e] at hv
  injection hv with hv
  injection hv with hv
  exact ⟨_,hv.symm⟩
 ·have e:(execOp a.eval o).run E.P w1 = .ok (.value (.pointer (some ⟨g,off,none⟩))) w1:=by simp [execOp,ho,hq']
  rw [e] at hv
  injection hv with hv
  injection hv with hv
  exact ⟨_,hv.symm⟩
def Wf (E:En) (ops:Array Oper) (a0:Act) (n0:Nat) (d:Nat) (w w':World):Prop:=
 (d ∉ dsOf E 0 ops.toList→Bw [] w w')∧(∀ od p,ops[d]? = some od→tgtO E od=some p→fixedT p ops.toList=true→∀ g off,a0.tmps.getD p undef = .pointer (some ⟨g,off,none⟩)→Bw [g] w w') ∧
 (∀ od p k t z,ops[d]? = some od→tgtO E od=some p→isAl E ops.toList k=some (p,t,z)→(needM od.after.toList).testBit k=true→∃ g,n0≤g∧Bw [g] w w') ∧
 ∀ od p k q f,ops[d]? = some od→tgtO E od=some p→isFaN E ops.toList f k=some (p,q)→(needM od.after.toList).testBit k=true→fixedT q ops.toList=true→∀ g off,a0.tmps.getD q undef = .pointer (some ⟨g,off,none⟩)→Bw [g] w w'
theorem Wf.refl {ops:Array Oper} {a0:Act} {n0 d:Nat} (w:World):Wf E ops a0 n0 d w w:=⟨fun _=>.refl _ _,fun _ _ _ _ _ _ _ _=>.refl _ _,fun _ _ _ _ _ _ _ _ _=>⟨n0,Nat.le_refl _,.refl _ _⟩,fun _ _ _ _ _ _ _ _ _ _ _ _ _=>.refl _ _⟩
def apartR (σ:St) (src:Option Nat) (p:Nat):Bool:=
 match look σ.tm p with
 | some (.one (.s (.ptr b _)))=>(match σ.bl[b]? with
  | some (.cells _ _)=>(match src with
   | some b'=>!Nat.beq b' b
   | none=>true)
  | some (.mix _ _ _ _ _)=>(match src with
   | some b'=>!Nat.beq b' b
   | none=>true)
  | _=>false)
 | _=>false
theorem apartR_ok (hR:Rel E w0 ok0 gs ρ vl σ a w) {src:Option Nat} {p:Nat} (h:apartR σ src p=true):∃ g off,a.tmps.getD p undef = .pointer (some ⟨g,off,none⟩)∧∃ b,liveAt ρ vl σ b g∧src≠some b:=by
 unfold apartR at h
 split at h
 ·rename_i b off hp
  obtain ⟨-, -,hv⟩:=hR.tm p _ hp
  split at h
  ·rename_i cs t hb
   refine ⟨ρ b,off,hv,b,⟨_,hb,rfl⟩, ?_⟩
   split at h
   ·intro he
    injection he with he
    subst he
    simp at h
   ·intro he;cases he
  ·rename_i cs k m l t hb
   refine ⟨ρ b,off,hv,b,⟨_,hb,rfl⟩, ?_⟩
   split at h
   ·intro he
    injection he with he
    subst he
    simp at h
   ·intro he;cases he
  ·cases h
 ·cases h
def oldB (σ:St) (ops:List Oper) (src:Option Nat):List Nat→Bool
 | []=>false
 | p :: r=>(fixedT p ops&&(match look σ.tm p,src with
  | some (.one (.s (.ptr b _))),some b'=>Nat.beq b b'&&(match σ.bl[b]? with
   | some (.cells _ _)=>true
   | _=>false)
  | _,_=>false))||oldB σ ops src r
theorem oldB_spec {σ:St} {ops:List Oper} {src:Option Nat}:∀ {l:List Nat},oldB σ ops src l=true→∃ p b off,p∈l∧fixedT p ops=true∧look σ.tm p=some (.one (.s (.ptr b off)))∧src=some b∧∃ cs t, σ.bl[b]? = some (.cells cs t)
 | [],h=>by cases h
 | p :: r,h=>by
  unfold oldB at h
  simp only [Bool.or_eq_true,Bool.and_eq_true] at h
  rcases h with ⟨h1,h2⟩ | h
  ·split at h2
   ·rename_i b off b' hl
    simp only [Bool.and_eq_true] at h2
    have:=Nat.eq_of_beq_eq_true h2.1
    subst this
    refine ⟨p,b,off,List.mem_cons_self,h1,hl,rfl, ?_⟩
    have h3:=h2.2
    split at h3
    ·rename_i cs t hb;exact ⟨cs,t,hb⟩
    ·cases h3
   ·cases h2
  ·obtain ⟨q,b,off,h1,h2⟩:=oldB_spec h
   exact ⟨q,b,off,List.mem_cons_of_mem _ h1,h2⟩
def faOf (E:En) (σ:St) (src:Option Nat) (ops:List Oper) (m p:Nat):List Nat→Bool
 | []=>false
 | k :: r=>(tb m k&&(match isFa E ops k with
  | some (p',q)=>Nat.beq p' p&&(fixedT q ops&&apartR σ src q)
  | none=>false))||faOf E σ src ops m p r
theorem faOf_spec {σ:St} {src:Option Nat} {ops:List Oper} {m p:Nat}:∀ {l:List Nat},faOf E σ src ops m p l=true→∃ k q,m.testBit k=true∧isFa E ops k=some (p,q)∧fixedT q ops=true∧apartR σ src q=true
 | [],h=>by cases h
 | k :: r,h=>by
  unfold faOf at h
  simp only [Bool.or_eq_true,Bool.and_eq_true,tb_eq] at h
  rcases h with ⟨h1,h2⟩ | h
  ·split at h2
   ·rename_i p' q hal
    simp only [Bool.and_eq_true] at h2
    have:=Nat.eq_of_beq_eq_true h2.1
    subst this
    exact ⟨k,q,h1,hal,h2.2.1,h2.2.2⟩
   ·cases h2
  ·exact faOf_spec h
def via (ops:List Oper) (i:Nat):List Edge→Bool
 | []=>false
 | e :: r=>(Region.binds .any e&&(match ops[e.on]? with
  | some o=>tb (needM o.after.toList) i
  | none=>false))||via ops i r
theorem via_spec {ops:List Oper} {i:Nat}:∀ {l:List Edge},via ops i l=true→∃ e∈l,Region.binds .any e=true∧∃ ok,ops[e.on]? = some ok∧∃ e2∈ok.after,Region.binds .any e2=true∧e2.on=i
 | [],h=>by cases h
 | e :: r,h=>by
  unfold via at h
  rw [Bool.or_eq_true] at h
  rcases h with h | h
  ·rw [Bool.and_eq_true] at h
   obtain ⟨h1,h2⟩:=h
   split at h2
   ·rename_i o ho
    rw [tb_eq] at h2
    obtain ⟨e2,h3,h4,h5⟩:=(needM_bit _ _).1 h2
    exact ⟨e,List.mem_cons_self,h1,o,ho,e2,by simpa using h3,h4,h5⟩
   ·cases h2
  ·obtain ⟨e',h1,h2⟩:=via_spec h
   exact ⟨e',List.mem_cons_of_mem _ h1,h2⟩
def readOk (E:En) (OP:List Nat) (σ:St) (src:Option Nat) (ops:List Oper) (i:Nat):List Nat→Bool
 | []=>true
 | d :: r=>(match ops[d]? with
  | some od=>tb (needM od.after.toList) i||via ops i od.after.toList||(match tgtO E od with
   | some p=>(fixedT p ops&&apartR σ src p)||((newOf E ops (needM od.after.toList) p (List.range ops.length)&&oldB σ ops src OP)||faOf E σ src ops (needM od.after.toList) p (List.range ops.length))
   | none=>false)
  | none=>true)&&readOk E OP σ src ops i r
theorem readOk_spec {OP:List Nat} {σ:St} {src:Option Nat} {ops:Array Oper} {i:Nat}:∀ {l:List Nat},readOk E OP σ src ops.toList i l=true→∀ d∈l,∀ od,ops[d]? = some od→(∃ e∈od.after,Region.binds .any e=true∧(e.on=i∨∃ ok,ops[e.on]? = some ok∧∃ e2∈ok.after,Region.binds .any e2=true∧e2.on=i))∨∃ p,tgtO E od=some p ∧
  ((fixedT p ops.toList=true∧apartR σ src p=true)∨((∃ k t z,(needM od.after.toList).testBit k=true∧isAl E ops.toList k=some (p,t,z))∧oldB σ ops.toList src OP=true)∨(∃ k q,(needM od.after.toList).testBit k=true∧isFa E ops.toList k=some (p,q)∧fixedT q ops.toList=true∧apartR σ src q=true))
 | [],_,d,hd,_,_=>by cases hd
 | d :: r,h,d',hd,od,hod=>by
  unfold readOk at h
  simp only [Bool.and_eq_true] at h
  rcases List.mem_cons.1 hd with rfl | hd
  ·have h1:=h.1
   rw [Array.getElem?_toList,hod] at h1
   simp only [tb_eq,Bool.or_eq_true] at h1
   rcases h1 with (h1 | h1) | h1
   ·obtain ⟨e,he,hb,hi⟩:=(needM_bit _ _).1 h1
    exact .inl ⟨e,by simpa using he,hb,.inl hi⟩
   ·obtain ⟨e,he,hb,ok,hok,hi⟩:=via_spec h1
    exact .inl ⟨e,by simpa using he,hb,.inr ⟨ok,by simpa using hok,hi⟩⟩
   ·split at h1
    ·rename_i p hp
     simp only [Bool.or_eq_true,Bool.and_eq_true] at h1
     rcases h1 with h1 | h1 | h1
     ·exact .inr ⟨p,hp,.inl h1⟩
     ·exact .inr ⟨p,hp,.inr (.inl ⟨newOf_spec h1.1,h1.2⟩)⟩
     ·exact .inr ⟨p,hp,.inr (.inr (faOf_spec h1))⟩
    ·cases h1
  ·exact readOk_spec h.2 d' hd od hod
def ptrSlots (σ:St):List Nat:=σ.tm.filterMap fun x=>match look σ.tm x.1 with
 | some (.one (.s (.ptr b _)))=>(match σ.bl[b]? with
  | some (.cells _ _)=>some x.1
  | _=>none)
 | _=>none
theorem ptrSlots_spec {σ:St} {p:Nat} (h:p∈ptrSlots σ):∃ b off cs t,look σ.tm p=some (.one (.s (.ptr b off)))∧σ.bl[b]? = some (.cells cs t):=by
 unfold ptrSlots at h
 obtain ⟨x, -,hx⟩:=List.mem_filterMap.1 h
 split at hx
 ·rename_i b off hl
  split at hx
  ·rename_i cs t hb
   injection hx with hx
   subst hx
   exact ⟨b,off,cs,t,hl,hb⟩
  ·cases hx
 ·cases hx
theorem put_fixed {a:Act} {d:Option Nat} {v:Value} {p:Nat} (h:d≠some p):(a.put d v).tmps.getD p undef=a.tmps.getD p undef:=by
 cases d with
 | none=>rfl
 | some t =>
  have hne:t≠p:=fun e=>h (by rw [e])
  simp only [Act.put,Array.getD_eq_getD_getElem?,Array.getElem?_setIfInBounds_ne hne]
def quiet (E:En) (ol:List Oper) (i:Nat):Bool:=
 match ol[i]? with
 | some o=>Nat.ble (cls E o) 1
 | none=>false
def alMask (E:En) (ops:List Oper):List Nat→Nat
 | []=>0
 | i :: r=>bif (isAl E ops i).isSome then Nat.lor (Nat.shiftLeft 1 i) (alMask E ops r) else alMask E ops r
theorem alMask_bit {ops:List Oper}:∀ {l:List Nat} {j:Nat},j∈l→(isAl E ops j).isSome=true→(alMask E ops l).testBit j=true
 | [],_,h,_=>by cases h
 | i :: r,j,h,hj=>by
  unfold alMask
  rcases List.mem_cons.1 h with rfl | h
  ·rw [hj,cond_true,show Nat.lor (Nat.shiftLeft 1 j) (alMask E ops r)=Nat.shiftLeft 1 j ||| alMask E ops r from rfl,Nat.testBit_or,bit_one]
   simp
  ·have:=alMask_bit h hj
   cases (isAl E ops i).isSome
   ·exact this
   ·rw [cond_true,show Nat.lor (Nat.shiftLeft 1 i) (alMask E ops r)=Nat.shiftLeft 1 i ||| alMask E ops r from rfl,Nat.testBit_or,this]
    simp
def shutM (L A:Nat):List Nat→Bool
 | []=>true
 | m :: r=>(!(Nat.beq (Nat.land m (Nat.lor L A)) m)||Nat.beq (Nat.land m L) m)&&shutM L A r
theorem shutM_spec {L A:Nat}:∀ {nd:List Nat} {j m:Nat},shutM L A nd=true→nd[j]? = some m→(∀ i,m.testBit i=true→L.testBit i=true∨A.testBit i=true)→∀ i,m.testBit i=true→L.testBit i=true
 | [],j,_,_,h,_=>by simp at h
 | m' :: r,0,m,hs,h,hA=>by
  simp only [List.getElem?_cons_zero,Option.some.injEq] at h
  subst h
  unfold shutM at hs
  simp only [Bool.and_eq_true,Bool.or_eq_true,Bool.not_eq_true'] at hs
  rcases hs.1 with h1 | h1
  ·have:Nat.beq (Nat.land m' (Nat.lor L A)) m'=true:=(sub_bits _ _).2 (fun i hi=>by
    rw [show Nat.lor L A=L ||| A from rfl,Nat.testBit_or,Bool.or_eq_true]
    exact hA i hi)
   rw [this] at h1
   cases h1
  ·exact (sub_bits _ _).1 h1
 | m' :: r,j+1,m,hs,h,hA=>by
  unfold shutM at hs
  simp only [Bool.and_eq_true] at hs
  exact shutM_spec (j:=j) hs.2 (by simpa using h) hA
def alOk (E:En) (σ:St) (ops:List Oper):List Nat→Bool
 | []=>true
 | i :: r=>(match isAl E ops i with
  | some (d,_,_)=>(look σ.tm d).isNone
  | none=>true)&&alOk E σ ops r
theorem alOk_spec {σ:St} {ops:List Oper}:∀ {l:List Nat} {j d:Nat} {t:TypeId} {z:List Sc},alOk E σ ops l=true→j∈l→isAl E ops j=some (d,t,z)→look σ.tm d=none
 | [],_,_,_,_,_,h,_=>by cases h
 | i :: r,j,d,t,z,ha,h,hj=>by
  unfold alOk at ha
  simp only [Bool.and_eq_true] at ha
  rcases List.mem_cons.1 h with rfl | h
  ·have h1:=ha.1
   rw [hj] at h1
   simpa using h1
  ·exact alOk_spec ha.2 h hj
def drawR (E:En) (Γ:List (FuncId×Cn)) (ops:Array Oper) (OP:List Nat):Nat→Nat→St→(St→Option β)→Option β
 | 0,L, σ,K=>(match rdy (needs ops.toList) ops.size L with
  | []=>K σ
  | _ :: _=>none)
 | n+1,L, σ,K=>(match rdy (needs ops.toList) ops.size L with
  | []=>K σ
  | i0 :: r0=>(match (i0 :: r0).find? (quiet E ops.toList) with
   | some i=>(match ops.toList[i]? with
    | some o=>bif Nat.beq (Nat.land (clashM ops i o 0 ops.toList) L) (clashM ops i o 0 ops.toList) then
      guardE ops.toList o σ (fun σ1=>bif Nat.beq (cls E o) 0 then pop E σ1 o (putK E o.dst (fun σ2=>drawR E Γ ops OP n (Nat.lor L (Nat.shiftLeft 1 i)) σ2 K)) else bif readOk E OP σ1 (srcOf E σ1 o) ops.toList i (dsOf E 0 ops.toList) then rop E σ1 o (putK E o.dst (fun σ2=>drawR E Γ ops OP n (Nat.lor L (Nat.shiftLeft 1 i)) σ2 K)) else none)
       (fun σ1=>putK E o.dst (fun σ2=>drawR E Γ ops OP n (Nat.lor L (Nat.shiftLeft 1 i)) σ2 K) unV σ1) else none
    | none=>none)
   | none=>bif alOk E σ ops.toList (i0 :: r0) then
     (match (i0 :: r0).filter (fun i=>(isAl E ops.toList i).isNone) with
     | []=>bif shutM L (alMask E ops.toList r0) (needs ops.toList) then (match isAl E ops.toList i0 with
      | some (d,t,z)=>drawR E Γ ops OP n (Nat.lor L (Nat.shiftLeft 1 i0)) ((σ.new (.cells z t)).put (some d) (.one (.s (.ptr σ.bl.length 0)))) K
      | none=>none) else none
     | [j]=>bif shutM L (alMask E ops.toList (i0 :: r0)) (needs ops.toList) then (match ops.toList[j]? with
      | some o=>guardE ops.toList o σ (fun σ1=>op1 E Γ σ1 o (fun σ2=>drawR E Γ ops OP n (Nat.lor L (Nat.shiftLeft 1 j)) σ2 K)) (fun σ1=>putK E o.dst (fun σ2=>drawR E Γ ops OP n (Nat.lor L (Nat.shiftLeft 1 j)) σ2 K) unV σ1)
      | none=>none) else none
     | _=>none) else none))
theorem cls_cases (E:En) (o:Oper):cls E o=0∨cls E o=1∨cls E o=2∨cls E o=3:=by
 unfold cls
 split
 ·simp
 ·rename_i s _ _ _
  cases isSlice E.P s <;> simp
 ·simp
 ·simp
 ·simp
 ·simp
 ·simp
 ·rename_i c _
  cases isBuiltin c <;> cases isAppend c <;> cases wrC E c <;> simp
 ·simp
 ·rename_i t _ _ _ _ _
  cases cutT E t <;> simp
 ·simp
theorem op1_bw {Γ:List (FuncId×Cn)} (hΓ:AllOk E.P E.eT Γ) (hR:Rel E w0 ok0 gs ρ vl σ a w) {o:Oper} {K:St→Option β} {r:β} {Q:Exit→Act→World→Prop} {Kc:Act→World→Prop} (h:op1 E Γ σ o K=some r)
  (hK:∀ σ' a' w' ρ' vl',K σ'=some r→Rel E w0 ok0 gs ρ' vl' σ' a' w'→(cls E o≠3→Bw [] w w')→(∀ p,tgtO E o=some p→∀ g off,a.tmps.getD p undef = .pointer (some ⟨g,off,none⟩)→Bw [g] w w')→(∀ p,o.dst≠some p→a'.tmps.getD p undef=a.tmps.getD p undef)→(∀ q,q∈gs→w'.heap[q]? = w.heap[q]?)∧w.heap.size≤w'.heap.size→Kc a' w'):o.wp E.P a w Kc Q:=by
 unfold op1 at h
 split at h
 ·refine (pop_ok hR h).wp Kc (fun x σ' v w' ρ' vl' h1 h2 h3 hb=>?_)
  obtain ⟨σ2,h4,h5⟩:=putK_ok h2 h3 h1
  exact hK _ _ _ _ _ h4 h5 (fun _=>hb) (fun _ _ _ _ _=>hb.weak (by simp)) (fun _=>put_fixed) ⟨fun q hq=>hb.block q (hR.bw.hid q hq).2 (by simp),hb.size⟩
 ·refine (rop_ok hR h).wp hR Kc (fun x σ' v w' ρ' vl' h1 h2 h3 hb=>?_)
  obtain ⟨σ2,h4,h5⟩:=putK_ok h2 h3 h1
  exact hK _ _ _ _ _ h4 h5 (fun _=>hb) (fun _ _ _ _ _=>hb.weak (by simp)) (fun _=>put_fixed) ⟨fun q hq=>hb.block q (hR.bw.hid q hq).2 (by simp),hb.size⟩
 ·refine eop_ok hΓ hR h Kc (fun x σ' v w' ρ' vl' h1 h2 h3 hb=>?_)
  obtain ⟨σ2,h4,h5⟩:=putK_ok h2 h3 h1
  exact hK _ _ _ _ _ h4 h5 (fun _=>hb) (fun _ _ _ _ _=>hb.weak (by simp)) (fun _=>put_fixed) ⟨fun q hq=>hb.block q (hR.bw.hid q hq).2 (by simp),hb.size⟩
 ·rename_i hc0 hc1 hc2
  have hc:cls E o=3:=by
   rcases cls_cases E o with h | h | h | h
   ·exact absurd h hc0
   ·exact absurd h hc1
   ·exact absurd h hc2
   ·exact h
  refine sop_ok hΓ hR h Kc (fun x σ' v w' ρ' vl' h1 h2 h3 hst hgs=>?_)
  obtain ⟨σ2,h4,h5⟩:=putK_ok h2 h3 h1
  refine hK _ _ _ _ _ h4 h5 (fun hn=>absurd hc hn) (fun p hp g off hg=>?_) (fun _=>put_fixed) hgs
  exact hst (.tmp p) (tgtO_X hp) g off hg
def cntF (n:Nat) (arr:Array Bool):Nat:=((List.range n).filter (fun j=>!arr.getD j true)).length
theorem cntF_set {n i:Nat} {arr:Array Bool} (hi:i < n) (hs:i < arr.size) (hf:arr.getD i true=false):cntF n (arr.setIfInBounds i true) < cntF n arr:=by
 unfold cntF
 have he:(List.range n).filter (fun j=>!(arr.setIfInBounds i true).getD j true)=((List.range n).filter (fun j=>!arr.getD j true)).filter (fun j=>decide (j≠i)):=by
  rw [List.filter_filter]
  apply List.filter_congr
  intro j hj
  by_cases hji:j=i
  ·subst hji
   simp [hs]
  ·rw [getD_set_ne true (Ne.symm hji)]
   simp [hji]
 rw [he]
 exact List.length_filter_lt_length_iff_exists.2 ⟨i,List.mem_filter.2 ⟨List.mem_range.2 hi,by rw [hf];rfl⟩,by simp⟩
theorem LOk.of {n L:Nat} (h:∀ j,L.testBit j=true→j < n):∃ arr,LOk n L arr:=
 ⟨(Array.range n).map (fun j=>L.testBit j),by simp,fun j hj=>by simp [hj],h⟩
theorem mem_rdy {ops:List Oper} {n L j:Nat}:j∈rdy (needs ops) n L↔j < n∧L.testBit j=false∧∃ o,ops[j]? = some o∧∀ i,(needM o.after.toList).testBit i=true→L.testBit i=true:=by
 unfold rdy
 rw [List.mem_filter,List.mem_range]
 unfold rdyB needs
 rw [List.getElem?_map]
 cases ho:ops[j]? with
 | none=>simp
 | some o =>
  simp only [Option.map_some,Bool.and_eq_true,Bool.not_eq_true',tb_eq,sub_bits,Option.some.injEq,exists_eq_left']
theorem wpOp_of {P:Program} {ops:Array Oper} {Q:Exit→Act→World→Prop} {i:Nat} {oi:Oper} {Kc:Act→World→Prop} {a:Act} {w:World} (hi:ops[i]? = some oi)
  (h:if Region.wanted oi (yielded ops a.tmps)=true then oi.wp P a w Kc Q else Kc (a.put oi.dst undef) w):wpOp P ops Q i Kc a w:=by
 unfold wpOp
 simp only [hi]
 split
 ·rename_i hw;rw [if_pos hw] at h;exact .inl h
 ·rename_i hw;rw [if_neg hw] at h;exact h
structure El where
 i:Nat
 d:Nat
 g:Nat
structure ElOk (E:En) (ops:Array Oper) (L:Nat) (a:Act) (w:World) (e:El):Prop where
 al:∃ t z,isAl E ops.toList e.i=some (e.d,t,z)∧∃ vs,w.heap[e.g]? = some (.cells vs t (0,0))∧∀ C:Cx,C.eT=E.eT→VSs C z vs.toList
 rd:e.i∈rdy (needs ops.toList) ops.size L
 pt:a.tmps.getD e.d undef = .pointer (some ⟨e.g,0,none⟩)
theorem ElOk.step {ops:Array Oper} {L i:Nat} {a a':Act} {w w':World} {e:El} {o:Oper} (h:ElOk E ops L a w e) (hi:ops[i]? = some o) (hne:e.i≠i) (ha:∀ p,o.dst≠some p→a'.tmps.getD p undef=a.tmps.getD p undef) (hw:w'.heap[e.g]? = w.heap[e.g]?):
  ElOk E ops (Nat.lor L (Nat.shiftLeft 1 i)) a' w' e:=by
 obtain ⟨⟨t,z,h1,vs,h2,h3⟩,h4,h5⟩:=h
 obtain ⟨o', -, -, -, -, -,h6, -⟩:=isAl_spec h1
 refine ⟨⟨t,z,h1,vs,by rw [hw];exact h2,h3⟩, ?_, ?_⟩
 ·obtain ⟨h7,h8,oe,h9,h10⟩:=mem_rdy.1 h4
  refine mem_rdy.2 ⟨h7, ?_,oe,h9,fun j hj=>?_⟩
  ·rw [show Nat.lor L (Nat.shiftLeft 1 i)=L ||| Nat.shiftLeft 1 i from rfl,Nat.testBit_or,h8,bit_one]
   simp [Ne.symm hne]
  ·rw [show Nat.lor L (Nat.shiftLeft 1 i)=L ||| Nat.shiftLeft 1 i from rfl,Nat.testBit_or,h10 j hj]
   rfl
 ·rw [ha _ (onceT_spec (k:=0) (j:=i) h6 (by simpa using hi) (by omega))]
  exact h5
theorem lor_bit (L i j:Nat):(Nat.lor L (Nat.shiftLeft 1 i)).testBit j=true↔L.testBit j=true∨i=j:=by
 rw [show Nat.lor L (Nat.shiftLeft 1 i)=L ||| Nat.shiftLeft 1 i from rfl,Nat.testBit_or,bit_one,Bool.or_eq_true,decide_eq_true_iff]
theorem drawR_all {Γ:List (FuncId×Cn)} (hΓ:AllOk E.P E.eT Γ) {ops:Array Oper} (hns:Region.noSelect ops=true) {Q:Exit→Act→World→Prop} (hQ:∀ c a w,¬ Q (.panic c) a w) {K:St→Option β} {r:β} (hK:Then E w0 ok0 [] r K (Q .normal)) (a0:Act) (n0:Nat) (OP:List Nat) (hOP:∀ p∈OP,∃ g off,a0.tmps.getD p undef = .pointer (some ⟨g,off,none⟩)∧g < n0):
  ∀ (N n m L M:Nat) (arr:Array Bool) (σ:St) (a:Act) (w:World) (ρ:Nat→Nat) (vl:Nat→Value) (es:List El),n+m≤N→(∀ j,L.testBit j=true→j < ops.size)→LOk ops.size M arr→(∀ j,M.testBit j=true↔L.testBit j=true∨∃ e∈es,e.i=j)→(∀ k ok,ops[k]? = some ok→M.testBit k=true→∀ e∈ok.after,Region.binds .any e=true→M.testBit e.on=true)→cntF ops.size arr≤m →
   Rel E w0 ok0 (es.map El.g) ρ vl σ a w→(∀ e∈es,ElOk E ops L a w e)→(∀ e∈es,∀ e'∈es,e.g=e'.g→e.i=e'.i)→(∀ p,fixedT p ops.toList=true→a.tmps.getD p undef=a0.tmps.getD p undef)→n0≤w.heap.size→(∀ k d t z,isAl E ops.toList k=some (d,t,z)→M.testBit k=true→∃ g,n0≤g∧a.tmps.getD d undef = .pointer (some ⟨g,0,none⟩)) →
   (∀ f k p q,isFaN E ops.toList f k=some (p,q)→M.testBit k=true→∀ g off,a0.tmps.getD q undef = .pointer (some ⟨g,off,none⟩)→fixedT q ops.toList=true→∃ off',a.tmps.getD p undef = .pointer (some ⟨g,off',none⟩))→drawR E Γ ops OP n L σ K=some r→wpAnyB E.P ops Q (Wf E ops a0 n0) m arr a w:=by
 intro N
 induction N with
 | zero =>
  intro n m L M arr σ a w ρ vl es hN hL hM hLM hcl hcnt hR hes hinj hinv hn0 hmade hfa h
  cases n with
  | succ n=>omega
  | zero =>
   unfold drawR at h
   split at h
   ·rename_i hr
    have he:es=[]:=by
     cases es with
     | nil=>rfl
     | cons e es=>have:=(hes e (by simp)).rd;rw [hr] at this;cases this
    rw [he] at hR hLM
    have hML:M=L:=Nat.eq_of_testBit_eq fun j=>by rw [Bool.eq_iff_iff,hLM];simp
    rw [← hML,rdy_eq hM] at hr
    exact wpAnyB_done hr (hK _ _ _ _ _ h hR) _
   ·cases h
 | succ N ih =>
  intro n m L M arr σ a w ρ vl es hN hL hM hLM hcl hcnt hR hes hinj hinv hn0 hmade hfa h
  have hdone:rdy (needs ops.toList) ops.size L=[]→K σ = some r→wpAnyB E.P ops Q (Wf E ops a0 n0) m arr a w:=by
   intro hr h
   have he:es=[]:=by
    cases es with
    | nil=>rfl
    | cons e es=>have:=(hes e (by simp)).rd;rw [hr] at this;cases this
   rw [he] at hR hLM
   have hML:M=L:=Nat.eq_of_testBit_eq fun j=>by rw [Bool.eq_iff_iff,hLM];simp
   rw [← hML,rdy_eq hM] at hr
   exact wpAnyB_done hr (hK _ _ _ _ _ h hR) _
  -- what is ready by the evaluator's list,and not made early,is ready
  have hready:∀ j,j∈rdy (needs ops.toList) ops.size L→(∀ e∈es,e.i≠j)→j∈Region.ready .any ops arr:=by
   intro j hj hne
   obtain ⟨h1,h2,o,h3,h4⟩:=mem_rdy.1 hj
   rw [← rdy_eq hM]
   refine mem_rdy.2 ⟨h1, ?_,o,h3,fun i hi=>(hLM i).2 (.inl (h4 i hi))⟩
   cases hb:M.testBit j
   ·rfl
   ·rcases (hLM j).1 hb with h5 | ⟨e,he,h5⟩
    ·rw [h5] at h2;cases h2
    ·exact absurd h5 (hne e he)
  have hpos:∀ j,j∈Region.ready .any ops arr→∃ m',m=m'+1∧cntF ops.size (arr.setIfInBounds j true)≤m':=by
   intro j hj
   obtain ⟨h1,o,h2, -⟩:=mem_ready.1 hj
   have hlt:=(Array.getElem?_eq_some_iff.1 h2).1
   have:=cntF_set hlt (by rw [hM.size];exact hlt) h1
   exact ⟨m - 1,by omega,by omega⟩
  have hLset:∀ i,i < ops.size→∀ j,(Nat.lor L (Nat.shiftLeft 1 i)).testBit j=true→j < ops.size:=by
   intro i hi j hj
   rcases (lor_bit _ _ _).1 hj with h1 | rfl
   ·exact hL j h1
   ·exact hi
  have hLMset:∀ i,∀ j,(Nat.lor M (Nat.shiftLeft 1 i)).testBit j=true↔(Nat.lor L (Nat.shiftLeft 1 i)).testBit j=true∨∃ e∈es,e.i=j:=by
   intro i j
   rw [lor_bit,lor_bit,hLM]
   constructor
   ·rintro ((h | h) | h)
    ·exact .inl (.inl h)
    ·exact .inr h
    ·exact .inl (.inr h)
   ·rintro ((h | h) | h)
    ·exact .inl (.inl h)
    ·exact .inr h
    ·exact .inl (.inr h)
  have hclset:∀ i,i∈rdy (needs ops.toList) ops.size L→∀ k ok,ops[k]? = some ok→(Nat.lor M (Nat.shiftLeft 1 i)).testBit k=true→∀ e∈ok.after,Region.binds .any e=true→(Nat.lor M (Nat.shiftLeft 1 i)).testBit e.on=true:=by
   intro i hi k ok hk hb e he hbe
   refine (lor_bit _ _ _).2 (.inl ?_)
   rcases (lor_bit _ _ _).1 hb with hb | rfl
   ·exact hcl k ok hk hb e he hbe
   ·obtain ⟨-, -,o,h3,h4⟩:=mem_rdy.1 hi
    have h3':ops[i]? = some o:=by simpa using h3
    rw [h3'] at hk
    injection hk with hk
    subst hk
    exact (hLM _).2 (.inl (h4 _ ((needM_bit _ _).2 ⟨e,by simpa using he,hbe,rfl⟩)))
  cases n with
  | zero =>
   unfold drawR at h
   split at h
   ·rename_i hr;exact hdone hr h
   ·cases h
  | succ n =>
   have hkeep:=h
   unfold drawR at h
   split at h
   ·rename_i hr;exact hdone hr h
   ·rename_i i0 r0 hr
    split at h
    ·rename_i i hf
     have hmem0:i∈rdy (needs ops.toList) ops.size L:=by rw [hr];exact List.mem_of_find?_eq_some hf
     have hq:quiet E ops.toList i=true:=List.find?_some hf
     split at h
     ·rename_i o ho
      obtain ⟨hc,h⟩:=bif_some h
      have ho':ops[i]? = some o:=by simpa using ho
      have hlt:i < ops.size:=(Array.getElem?_eq_some_iff.1 ho').1
      have hne:∀ e∈es,e.i≠i:=by
       rintro e he rfl
       obtain ⟨t,z,hal, -⟩:=(hes e he).al
       obtain ⟨o',h1,h2, -⟩:=isAl_spec hal
       rw [ho] at h1
       injection h1 with h1
       subst h1
       unfold quiet at hq
       rw [ho] at hq
       simp [cls,h2] at hq
      have hmem:=hready i hmem0 hne
      obtain ⟨m',rfl,hcnt'⟩:=hpos i hmem
      obtain ⟨arrL,hLL⟩:=LOk.of hL
      have hfree0:=clash_free hLL hc
      have hfree:∀ j oj,ops[j]? = some oj→j≠i→arr.getD j true=false→(∀ e∈oj.after,Region.binds .any e=true→e.on≠i)→o.apart ops oj=true:=fun j oj hj hji hun hno=>by
       refine hfree0 j oj hj hji ?_ hno
       have hjl:=(Array.getElem?_eq_some_iff.1 hj).1
       rw [hM.bit j hjl] at hun
       rw [hLL.bit j hjl]
       cases hb:L.testBit j
       ·rfl
       ·rw [(hLM j).2 (.inl hb)] at hun;cases hun
      have hcli:∀ k ok,ops[k]? = some ok→arr.getD k false=true→∀ e∈ok.after,Region.binds .any e=true→e.on≠i:=fun k ok hk hlk e he hb heq=>by
       rw [hM.bit'] at hlk
       have h5:=hcl k ok hk hlk e he hb
       rw [heq] at h5
       have h6:=(mem_ready.1 hmem).1
       rw [hM.bit i hlt,h5] at h6
       cases h6
      have hinv':∀ v p,fixedT p ops.toList=true→(a.put o.dst v).tmps.getD p undef=a0.tmps.getD p undef:=fun v p hp=>by
       rw [put_fixed (fixedT_spec hp o (List.mem_of_getElem? ho))]
       exact hinv p hp
      have hmade':∀ v k d t z,isAl E ops.toList k=some (d,t,z)→(Nat.lor M (Nat.shiftLeft 1 i)).testBit k=true→∃ g,n0≤g∧(a.put o.dst v).tmps.getD d undef = .pointer (some ⟨g,0,none⟩):=fun v k d t z hal hk=>by
       obtain ⟨ok,q1,q2, -, -, -,q6, -⟩:=isAl_spec hal
       have hki:k≠i:=by
        rintro rfl
        rw [ho] at q1
        injection q1 with q1
        subst q1
        unfold quiet at hq
        rw [ho] at hq
        simp [cls,q2] at hq
       rcases (lor_bit _ _ _).1 hk with hk | hk
       ·obtain ⟨g,q3,q4⟩:=hmade k d t z hal hk
        refine ⟨g,q3, ?_⟩
        rw [put_fixed (onceT_spec (k:=0) (j:=i) q6 ho (by omega))]
        exact q4
       ·exact absurd hk.symm hki
      have hfa':∀ v,(∀ q,FaOp o.op q→o.guard=none→∀ g off,a.tmps.getD q undef = .pointer (some ⟨g,off,none⟩)→∃ off',v = .pointer (some ⟨g,off',none⟩)) →
        ∀ f k p q,isFaN E ops.toList f k=some (p,q)→(Nat.lor M (Nat.shiftLeft 1 i)).testBit k=true→∀ g off,a0.tmps.getD q undef = .pointer (some ⟨g,off,none⟩)→fixedT q ops.toList=true→∃ off',(a.put o.dst v).tmps.getD p undef = .pointer (some ⟨g,off',none⟩):=fun v hv f k p q hk hb g off hg hfx=>by
       obtain ⟨ok,q',q1,q2,q3,q4,q5,q6,q7⟩:=isFaN_spec hk
       by_cases hki:k=i
       ·subst hki
        rw [ho] at q1
        injection q1 with q1
        subst q1
        have hsrc:∃ off1,a.tmps.getD q' undef = .pointer (some ⟨g,off1,none⟩):=by
         rcases q7 with ⟨rfl, -⟩ | ⟨j,f',q8,q9⟩
         ·exact ⟨off,by rw [hinv q' hfx];exact hg⟩
         ·obtain ⟨-, -,o2,q10,q11⟩:=mem_rdy.1 hmem0
          rw [ho] at q10
          injection q10 with q10
          subst q10
          exact hfa f' j q' q q9 ((hLM j).2 (.inl (q11 j q8))) g off hg hfx
        obtain ⟨off1,hoff1⟩:=hsrc
        obtain ⟨off',e⟩:=hv q' q4 q2 g off1 hoff1
        refine ⟨off', ?_⟩
        rw [q3,act_put_get (by rw [hR.size];exact q6),if_pos rfl]
        exact e
       ·rcases (lor_bit _ _ _).1 hb with hb | hb
        ·rw [put_fixed (onceT_spec (k:=0) (j:=i) q5 ho (by omega))]
         exact hfa f k p q hk hb g off hg hfx
        ·exact absurd hb.symm hki
      have hes':∀ v,∀ e∈es,ElOk E ops (Nat.lor L (Nat.shiftLeft 1 i)) (a.put o.dst v) w e:=fun v e he=>(hes e he).step ho' (hne e he) (fun _=>put_fixed) rfl
      obtain ⟨σ1,hR1,h1⟩:=guardE_ok (ops:=ops) hR h
      rcases h1 with ⟨hw,h1⟩ | ⟨hw,h1⟩
      ·cases h0:Nat.beq (cls E o) 0 <;> rw [h0] at h1
       ·-- a read
        rw [cond_false] at h1
        obtain ⟨hro,h1⟩:=bif_some h1
        obtain ⟨x,v,h2,h3,h4⟩:=rop_ok hR1 h1
        obtain ⟨σ2,h5,h6⟩:=putK_ok hR1 h3 h2
        refine wpAnyB_take (S:=fun w'=>∃ gs1,Bw gs1 w w'∧Others ρ vl σ1 (srcOf E σ1 o) gs1) ho' (Region.noSelect_spec hns) hQ Wf.refl (fun j oj w1 w2 hoj hnot hS hW=>?_) m' arr a w hfree hcli hmem
         (.inl ⟨hw,fun w1 ⟨gs1,hb1,hg1⟩=>h4 gs1 w1 hb1 hg1⟩) ⟨[],.refl _ _,fun g hg=>by cases hg⟩ (ih _ _ _ _ _ _ _ _ _ _ _ (by omega) (hLset i hlt) (hM.set hlt) (hLMset i) (hclset i hmem0) hcnt' h6 (hes' v) hinj (hinv' v) hn0 (hmade' v) (hfa' v fun q hq=>by rcases hq with ⟨t,f,e⟩ | ⟨t,f,e⟩ | e | e <;> simp [cls,e] at h0) h5)
        obtain ⟨gs1,hb1,hg1⟩:=hS
        by_cases hj:j∈dsOf E 0 ops.toList
        ·rcases readOk_spec hro j hj oj hoj with ⟨e,he,hb,heq | ⟨ok,hok,e2,he2,hb2,heq⟩⟩ | ⟨p,hp1,hp2⟩
         ·exact absurd heq (hnot e he hb).1
         ·exact absurd heq ((hnot e he hb).2 ok hok e2 he2 hb2)
         ·have key:∀ g,Bw [g] w1 w2→((∃ b,liveAt ρ vl σ1 b g∧srcOf E σ1 o≠some b)∨∃ b,srcOf E σ1 o=some b∧¬ liveAt ρ vl σ1 b g)→∃ gs1,Bw gs1 w w2∧Others ρ vl σ1 (srcOf E σ1 o) gs1:=by
           intro g hbw hg
           refine ⟨g :: gs1,(hb1.weak (fun q hq=>List.mem_cons_of_mem _ hq)).trans (hbw.weak (fun q hq=>by simp at hq;subst hq;exact List.mem_cons_self)),fun q hq=>?_⟩
           rcases List.mem_cons.1 hq with rfl | hq
           ·exact hg
           ·exact hg1 q hq
          rcases hp2 with ⟨hp2,hp3⟩ | ⟨⟨k,t,z,hk1,hk2⟩,hold⟩ | ⟨k,q,hk1,hk2,hk3,hk4⟩
          ·obtain ⟨g,off,hv,b,hl,hne⟩:=apartR_ok hR1 hp3
           exact key g (hW.2.1 oj p hoj hp1 hp2 g off (by rw [← hinv p hp2];exact hv)) (.inl ⟨b,hl,hne⟩)
          ·obtain ⟨g,hg0,hbw⟩:=hW.2.2.1 oj p k t z hoj hp1 hk2 hk1
           obtain ⟨p1,b,off,q1,q2,q3,q4,cs,t1,q7⟩:=oldB_spec hold
           obtain ⟨g1,off1,q5,q6⟩:=hOP p1 q1
           refine key g hbw (.inr ⟨b,q4,fun hl=>?_⟩)
           obtain ⟨-, -,hv⟩:=hR1.tm p1 _ q3
           rw [hinv p1 q2,q5] at hv
           injection hv with hv
           injection hv with hv
           injection hv with hv _ _
           obtain ⟨y,hy1,hy2⟩:=hl
           rw [q7] at hy1
           injection hy1 with hy1
           subst hy1
           simp only [Bl.at,Option.some.injEq] at hy2
           have hv':g1 = ρ b:=hv
           omega
          ·obtain ⟨g,off,hv,b,hl,hne⟩:=apartR_ok hR1 hk4
           exact key g (hW.2.2.2 oj p k q 4 hoj hp1 hk2 hk1 hk3 g off (by rw [← hinv q hk3];exact hv)) (.inl ⟨b,hl,hne⟩)
        ·exact ⟨gs1,hb1.trans ((hW.1 hj).weak (by simp)),hg1⟩
       ·rw [cond_true] at h1
        obtain ⟨x, σ',v,h2,h3,h4,h5⟩:=pop_ok hR1 h1
        obtain ⟨σ2,h6,h7⟩:=putK_ok h3 h4 h2
        exact wpAnyB_take (S:=fun _=>True) ho' (Region.noSelect_spec hns) hQ Wf.refl (fun _ _ _ _ _ _ _ _=>trivial) m' arr a w hfree hcli hmem (.inl ⟨hw,fun w1 _=>h5 w1⟩) trivial (ih _ _ _ _ _ _ _ _ _ _ _ (by omega) (hLset i hlt) (hM.set hlt) (hLMset i) (hclset i hmem0) hcnt' h7 (hes' v) hinj (hinv' v) hn0 (hmade' v) (hfa' v fun q hq _ g off hg=>pop_fa hR1 h1 hq hg (h5 w)) h6)
      ·obtain ⟨σ2,h5,h6⟩:=putK_ok hR1 unV_ok h1
       exact wpAnyB_take (S:=fun _=>True) ho' (Region.noSelect_spec hns) hQ Wf.refl (fun _ _ _ _ _ _ _ _=>trivial) m' arr a w hfree hcli hmem (.inr ⟨hw,rfl⟩) trivial (ih _ _ _ _ _ _ _ _ _ _ _ (by omega) (hLset i hlt) (hM.set hlt) (hLMset i) (hclset i hmem0) hcnt' h6 (hes' _) hinj (hinv' _) hn0 (hmade' _) (hfa' _ fun q _ hg=>by simp [Region.wanted,hg] at hw) h5)
     ·cases h
    ·rename_i hfn
     obtain ⟨hc,h1⟩:=bif_some h
     -- what the machine may take: by the evaluator's list,too
     have hact:∀ A,shutM L A (needs ops.toList)=true→(∀ e∈es,A.testBit e.i=true)→∀ q,q∈Region.ready .any ops arr→q∈rdy (needs ops.toList) ops.size L∧∀ e∈es,e.i≠q:=by
      intro A hsh hA q hq
      rw [← rdy_eq hM] at hq
      obtain ⟨h2,h3,o,h4,h5⟩:=mem_rdy.1 hq
      have hLq:L.testBit q=false:=by
       cases hb:L.testBit q
       ·rfl
       ·rw [(hLM q).2 (.inl hb)] at h3;cases h3
      refine ⟨mem_rdy.2 ⟨h2,hLq,o,h4, ?_⟩,fun e he heq=>by rw [(hLM q).2 (.inr ⟨e,he,heq⟩)] at h3;cases h3⟩
      refine shutM_spec (j:=q) hsh (by unfold needs;rw [List.getElem?_map,h4];rfl) (fun i hi=>?_)
      rcases (hLM i).1 (h5 i hi) with h6 | ⟨e,he,rfl⟩
      ·exact .inl h6
      ·exact .inr (hA e he)
     -- a variable that the machine makes early
     have hearly:∀ q m',m=m'+1→cntF ops.size (arr.setIfInBounds q true)≤m'→q∈rdy (needs ops.toList) ops.size L→(∀ e∈es,e.i≠q)→(isAl E ops.toList q).isSome=true →
       wpOp E.P ops Q q (fun a' w'=>Wf E ops a0 n0 q w w'∧wpAnyB E.P ops Q (Wf E ops a0 n0) m' (arr.setIfInBounds q true) a' w') a w:=by
      intro q m' hm hcnt' hq hne hal
      obtain ⟨⟨d,t,z⟩,hal⟩:=Option.isSome_iff_exists.1 hal
      obtain ⟨o,h2,h3,h4,h5,h6,h7,h8⟩:=isAl_spec hal
      have h2':ops[q]? = some o:=by simpa using h2
      have hlt:q < ops.size:=(Array.getElem?_eq_some_iff.1 h2').1
      obtain ⟨ti,v,h9,h10, -⟩:=zeroSc_info (C:=cx E w0 ok0 [] ρ vl σ w) rfl h6
      have hzv:∀ C:Cx,C.eT=E.eT→VSs C z v.cells.toList:=fun C hC=>by
       obtain ⟨ti',v',h11,h12,h13⟩:=zeroSc_info (C:=C) hC h6
       rw [h9] at h11
       injection h11 with h11
       subst h11
       rw [h10] at h12
       injection h12 with h12
       subst h12
       exact h13
      refine wpOp_of h2' ?_
      have hwd:Region.wanted o (yielded ops a.tmps)=true:=by simp [Region.wanted,h4]
      rw [if_pos hwd]
      have hrun:(execOp a.eval o).run E.P w = .ok (.value (.pointer (some ⟨w.heap.size,0,none⟩))) { w with heap:=w.heap.push (.cells v.cells t (0,0)) }:=by
       simp [execOp,h3,Instr.alloc,zeroValue,typeInfo,h9,h10,newVar,newRow]
      unfold Oper.wp
      rw [hrun]
      show Wf E ops a0 n0 q w _∧wpAnyB E.P ops Q (Wf E ops a0 n0) m' _ (a.put o.dst _) _
      rw [h5]
      have hbw:Bw [] w { w with heap:=w.heap.push (.cells v.cells t (0,0)) }:=bw_alloc w _
      have hputd:∀ p,d≠p→(a.put (some d) (.pointer (some ⟨w.heap.size,0,none⟩))).tmps.getD p undef=a.tmps.getD p undef:=fun p hp=>put_fixed (fun e=>hp (by injection e))
      refine ⟨⟨fun _=>hbw,fun _ _ _ _ _ _ _ _=>hbw.weak (by simp),fun _ _ _ _ _ _ _ _ _=>⟨n0,Nat.le_refl _,hbw.weak (by simp)⟩,fun _ _ _ _ _ _ _ _ _ _ _ _ _=>hbw.weak (by simp)⟩, ?_⟩
      refine ih (n+1) m' L (Nat.lor M (Nat.shiftLeft 1 q)) _ σ _ _ ρ vl (⟨q,d,w.heap.size⟩ :: es) (by omega) hL (hM.set hlt) (fun j=>?_) (hclset q hq) hcnt' (hR.hide (alOk_spec hc (by rw [← hr];exact hq) hal)) (fun e he=>?_) (fun e he e' he' hg=>?_) (fun p hp=>?_) (Nat.le_trans hn0 hbw.size) (fun k dk tk zk hk1 hk2=>?_) (fun ff k p q' hk hb g off hg hfx=>?_) hkeep
      ·rw [lor_bit,hLM]
       constructor
       ·rintro ((h | ⟨e,he,h⟩) | h)
        ·exact .inl h
        ·exact .inr ⟨e,List.mem_cons_of_mem _ he,h⟩
        ·exact .inr ⟨_,List.mem_cons_self,h⟩
       ·rintro (h | ⟨e,he,h⟩)
        ·exact .inl (.inl h)
        ·rcases List.mem_cons.1 he with rfl | he
         ·exact .inr h
         ·exact .inl (.inr ⟨e,he,h⟩)
      ·rcases List.mem_cons.1 he with rfl | he
       ·refine ⟨⟨t,z,hal,v.cells,by simp,hzv⟩,hq, ?_⟩
        have hsz:d < a.tmps.size:=by rw [hR.size];exact h8
        rw [act_put_get hsz,if_pos rfl]
       ·obtain ⟨⟨t',z',g1,vs',g2,g3⟩,g4,g5⟩:=hes e he
        have hgl:e.g < w.heap.size:=(hR.bw.hid e.g (List.mem_map.2 ⟨e,he,rfl⟩)).2
        refine ⟨⟨t',z',g1,vs',by rw [hbw.block _ hgl (by simp)];exact g2,g3⟩,g4, ?_⟩
        obtain ⟨oe, -, -, -, -, -,g6, -⟩:=isAl_spec g1
        have hde:=onceT_spec (k:=0) (j:=q) g6 h2 (by have:=hne e he;omega)
        rw [hputd e.d (fun e1=>hde (by rw [h5,e1]))]
        exact g5
      ·rcases List.mem_cons.1 he with rfl | he <;> rcases List.mem_cons.1 he' with rfl | he'
       ·rfl
       ·have:=(hR.bw.hid e'.g (List.mem_map.2 ⟨e',he',rfl⟩)).2
        simp only at hg
        omega
       ·have:=(hR.bw.hid e.g (List.mem_map.2 ⟨e,he,rfl⟩)).2
        simp only at hg
        omega
       ·exact hinj e he e' he' hg
      ·rw [put_fixed (d:=some d) (by rw [← h5];exact fixedT_spec hp o (List.mem_of_getElem? h2))]
       exact hinv p hp
      ·by_cases hkq:k=q
       ·subst hkq
        rw [hal] at hk1
        injection hk1 with hk1
        injection hk1 with hk1 _
        subst hk1
        have hsz:d < a.tmps.size:=by rw [hR.size];exact h8
        exact ⟨w.heap.size,hn0,by rw [act_put_get hsz,if_pos rfl]⟩
       ·rcases (lor_bit _ _ _).1 hk2 with hk2 | hk2
        ·obtain ⟨g,q3,q4⟩:=hmade k dk tk zk hk1 hk2
         obtain ⟨ok, -, -, -, -, -,q6, -⟩:=isAl_spec hk1
         have hde:=onceT_spec (k:=0) (j:=q) q6 h2 (by omega)
         exact ⟨g,q3,by rw [hputd dk (fun e1=>hde (by rw [h5,e1]))];exact q4⟩
        ·exact absurd hk2.symm hkq
      ·obtain ⟨ok,q0,q1,q2,q3,q4,q5,q6, -⟩:=isFaN_spec hk
       have hkq:k≠q:=by
        rintro rfl
        rw [h2] at q1
        injection q1 with q1
        subst q1
        rcases q4 with ⟨t',f,e⟩ | ⟨t',f,e⟩ | e | e <;> rw [e] at h3 <;> cases h3
       rcases (lor_bit _ _ _).1 hb with hb | hb
       ·have hde:=onceT_spec (k:=0) (j:=q) q5 h2 (by omega)
        rw [hputd p (fun e1=>hde (by rw [h5,e1]))]
        exact hfa ff k p q' hk hb g off hg hfx
       ·exact absurd hb.symm hkq
     split at h1
     ·-- variables alone are left
      rename_i hfil
      obtain ⟨hsh,h1⟩:=bif_some h1
      have hall:∀ q∈rdy (needs ops.toList) ops.size L,(isAl E ops.toList q).isSome=true:=by
       intro q hq
       rw [hr] at hq
       have:=List.filter_eq_nil_iff.1 hfil q hq
       cases hq2:isAl E ops.toList q
       ·rw [hq2] at this;simp at this
       ·rfl
      have hi0:i0∈rdy (needs ops.toList) ops.size L:=by rw [hr];exact List.mem_cons_self
      by_cases hin:∃ e∈es,e.i=i0
      ·obtain ⟨e,he,rfl⟩:=hin
       obtain ⟨⟨t,z,g1,vs,g2,g3⟩,g4,g5⟩:=hes e he
       rw [g1] at h1
       obtain ⟨oe,q1, -, -,q4, -,q6,q7⟩:=isAl_spec g1
       have q1':ops[e.i]? = some oe:=by simpa using q1
       have hlt:e.i < ops.size:=(Array.getElem?_eq_some_iff.1 q1').1
       obtain ⟨ρ',hR'⟩:=hR.tell (gs':=(es.filter fun x=>decide (x.i≠e.i)).map El.g) (g:=e.g) q7 (List.mem_map.2 ⟨e,he,rfl⟩) (fun q hq=>by
        obtain ⟨x,hx,rfl⟩:=List.mem_map.1 hq
        exact List.mem_map.2 ⟨x,(List.mem_filter.1 hx).1,rfl⟩) (fun hm=>by
        obtain ⟨x,hx,hg⟩:=List.mem_map.1 hm
        obtain ⟨hx1,hx2⟩:=List.mem_filter.1 hx
        exact absurd (hinj x hx1 e he hg) (by simpa using hx2)) g2 g3 g5
       refine ih n m (Nat.lor L (Nat.shiftLeft 1 e.i)) M arr _ a w ρ' _ (es.filter fun x=>decide (x.i≠e.i)) (by omega) (hLset _ hlt) hM (fun j=>?_) hcl hcnt hR' (fun x hx=>?_) (fun x hx y hy=>hinj x (List.mem_filter.1 hx).1 y (List.mem_filter.1 hy).1) hinv hn0 hmade hfa h1
       ·rw [hLM,lor_bit]
        constructor
        ·rintro (h | ⟨x,hx,h⟩)
         ·exact .inl (.inl h)
         ·by_cases hxe:x.i=e.i
          ·exact .inl (.inr (by rw [← h,hxe]))
          ·exact .inr ⟨x,List.mem_filter.2 ⟨hx,by simpa using hxe⟩,h⟩
        ·rintro ((h | h) | ⟨x,hx,h⟩)
         ·exact .inl h
         ·exact .inr ⟨e,he,h⟩
         ·exact .inr ⟨x,(List.mem_filter.1 hx).1,h⟩
       ·obtain ⟨hx1,hx2⟩:=List.mem_filter.1 hx
        exact (hes x hx1).step q1' (by simpa using hx2) (fun _ _=>rfl) rfl
      ·have hne:∀ e∈es,e.i≠i0:=fun e he h2=>hin ⟨e,he,h2⟩
       have hrdy:=hready i0 hi0 hne
       obtain ⟨m',rfl, -⟩:=hpos i0 hrdy
       refine ⟨fun h0=>(by rw [h0] at hrdy;cases hrdy),fun q hq=>?_⟩
       obtain ⟨h2,h3⟩:=hact _ hsh (fun e he=>by
        have h6:=(hes e he).rd
        refine alMask_bit ?_ (hall _ h6)
        rw [hr] at h6
        exact (List.mem_cons.1 h6).resolve_left (hne e he)) q hq
       obtain ⟨m2,h4,h5⟩:=hpos q hq
       obtain rfl:m2=m':=by omega
       exact hearly q m2 rfl h5 h2 h3 (hall q h2)
     ·-- one operation,and variables
      rename_i j hfil
      obtain ⟨hsh,h1⟩:=bif_some h1
      split at h1
      ·rename_i o ho
       have ho':ops[j]? = some o:=by simpa using ho
       have hlt:j < ops.size:=(Array.getElem?_eq_some_iff.1 ho').1
       have hjm:j∈(i0 :: r0).filter (fun i=>(isAl E ops.toList i).isNone):=by rw [hfil];simp
       obtain ⟨hj1,hj2⟩:=List.mem_filter.1 hjm
       rw [← hr] at hj1
       have hne:∀ e∈es,e.i≠j:=by
        rintro e he rfl
        obtain ⟨t,z,hal, -⟩:=(hes e he).al
        rw [hal] at hj2
        simp at hj2
       have hrdy:=hready j hj1 hne
       obtain ⟨m',rfl,hcnt'⟩:=hpos j hrdy
       refine ⟨fun h0=>(by rw [h0] at hrdy;cases hrdy),fun q hq=>?_⟩
       obtain ⟨h2,h3⟩:=hact _ hsh (fun e he=>by
        refine alMask_bit (by rw [← hr];exact (hes e he).rd) ?_
        obtain ⟨t,z,hal, -⟩:=(hes e he).al
        rw [hal]
        rfl) q hq
       by_cases hal:(isAl E ops.toList q).isSome=true
       ·obtain ⟨m2,h4,h5⟩:=hpos q hq
        obtain rfl:m2=m':=by omega
        exact hearly q m2 rfl h5 h2 h3 hal
       ·have hqj:q=j:=by
         have:q∈(i0 :: r0).filter (fun i=>(isAl E ops.toList i).isNone):=by
          refine List.mem_filter.2 ⟨by rw [← hr];exact h2, ?_⟩
          cases hx:isAl E ops.toList q
          ·rfl
          ·rw [hx] at hal;exact absurd rfl hal
         rw [hfil] at this
         simpa using this
        subst hqj
        obtain ⟨σ1,hR1,h4⟩:=guardE_ok (ops:=ops) hR h1
        refine wpOp_of ho' ?_
        have hmade2:∀ a':Act,(∀ p,o.dst≠some p→a'.tmps.getD p undef=a.tmps.getD p undef)→∀ k d t z,isAl E ops.toList k=some (d,t,z)→(Nat.lor M (Nat.shiftLeft 1 q)).testBit k=true→∃ g,n0≤g∧a'.tmps.getD d undef = .pointer (some ⟨g,0,none⟩):=fun a' ha k d t z hk1 hk2=>by
         have hkq:k≠q:=by rintro rfl;rw [hk1] at hal;exact hal rfl
         rcases (lor_bit _ _ _).1 hk2 with hk2 | hk2
         ·obtain ⟨g,q3,q4⟩:=hmade k d t z hk1 hk2
          obtain ⟨ok, -, -, -, -, -,q6, -⟩:=isAl_spec hk1
          exact ⟨g,q3,by rw [ha d (onceT_spec (k:=0) (j:=q) q6 ho (by omega))];exact q4⟩
         ·exact absurd hk2.symm hkq
        have hfa2:∀ a':Act,(∀ p,o.dst≠some p→a'.tmps.getD p undef=a.tmps.getD p undef)→∀ f k p q',isFaN E ops.toList f k=some (p,q')→(Nat.lor M (Nat.shiftLeft 1 q)).testBit k=true→∀ g off,a0.tmps.getD q' undef = .pointer (some ⟨g,off,none⟩)→fixedT q' ops.toList=true→∃ off',a'.tmps.getD p undef = .pointer (some ⟨g,off',none⟩):=fun a' ha f k p q' hk hb g off hg hfx=>by
         obtain ⟨ok,q0,q1,q2,q3,q4,q5,q6, -⟩:=isFaN_spec hk
         have hkq:k≠q:=by
          rintro rfl
          have hnq:=List.find?_eq_none.1 hfn k (by rw [← hr];exact h2)
          rw [ho] at q1
          injection q1 with q1
          subst q1
          unfold quiet at hnq
          rw [ho] at hnq
          rcases q4 with ⟨t',f,e⟩ | ⟨t',f,e⟩ | e | e <;> simp [cls,e] at hnq
         rcases (lor_bit _ _ _).1 hb with hb | hb
         ·rw [ha p (onceT_spec (k:=0) (j:=q) q5 ho (by omega))]
          exact hfa f k p q' hk hb g off hg hfx
         ·exact absurd hb.symm hkq
        rcases h4 with ⟨hw,h4⟩ | ⟨hw,h4⟩
        ·rw [if_pos hw]
         refine op1_bw hΓ hR1 h4 (fun σ' a' w' ρ' vl' k3 k4 k5 k6 k7 k8=>⟨⟨fun hn=>k5 (fun hc=>hn ?_),fun od p hod hp hfx g off hg=>?_,fun od p k t z hod hp hk1 hk2=>?_,fun od p k q' ff hod hp hk1 hk2 hk3 g off hg=>?_⟩,ih _ _ _ _ _ _ _ _ _ _ _ (by omega) (hLset q hlt) (hM.set hlt) (hLMset q) (hclset q h2) hcnt' k4 (fun e he=>(hes e he).step ho' (hne e he) k7 (k8.1 _ (List.mem_map.2 ⟨e,he,rfl⟩))) hinj (fun p hp=>?_) (Nat.le_trans hn0 k8.2) (hmade2 a' k7) (hfa2 a' k7) k3⟩)
         ·have:=dsOf_spec ops.toList 0 q o ho hc
          simpa using this
         ·rw [ho'] at hod
          injection hod with hod
          subst hod
          exact k6 p hp g off (by rw [hinv p hfx];exact hg)
         ·rw [ho'] at hod
          injection hod with hod
          subst hod
          obtain ⟨-, -,o2,q1,q2⟩:=mem_rdy.1 h2
          rw [ho] at q1
          injection q1 with q1
          subst q1
          obtain ⟨g,q3,q4⟩:=hmade k p t z hk1 ((hLM k).2 (.inl (q2 k hk2)))
          exact ⟨g,q3,k6 p hp g 0 q4⟩
         ·rw [ho'] at hod
          injection hod with hod
          subst hod
          obtain ⟨-, -,o2,q1,q2⟩:=mem_rdy.1 h2
          rw [ho] at q1
          injection q1 with q1
          subst q1
          obtain ⟨off',q4⟩:=hfa ff k p q' hk1 ((hLM k).2 (.inl (q2 k hk2))) g off hg hk3
          exact k6 p hp g off' q4
         ·rw [k7 p (fixedT_spec hp o (List.mem_of_getElem? ho))]
          exact hinv p hp
        ·rw [if_neg (by rw [hw];simp)]
         obtain ⟨σ2,k3,k4⟩:=putK_ok hR1 unV_ok h4
         refine ⟨Wf.refl _,ih _ _ _ _ _ _ _ _ _ _ _ (by omega) (hLset q hlt) (hM.set hlt) (hLMset q) (hclset q h2) hcnt' k4 (fun e he=>(hes e he).step ho' (hne e he) (fun _=>put_fixed) rfl) hinj (fun p hp=>?_) hn0 (hmade2 _ (fun _=>put_fixed)) (hfa2 _ (fun _=>put_fixed)) k3⟩
         rw [put_fixed (fixedT_spec hp o (List.mem_of_getElem? ho))]
         exact hinv p hp
      ·cases h1
     ·cases h1
def regionE (E:En) (Γ:List (FuncId×Cn)) (ops:Array Oper) (draw:Bool) (σ:St) (K:St→Option β):Option β:=
 match draw with
 | false=>seqR E Γ ops.toList ops.toList σ K
 | true=>bif Region.noSelect ops&&E.P.follows .mixedOrders then drawR E Γ ops (ptrSlots σ) ops.size 0 σ K else none
def Goes (Kn:Act→World→Prop):Exit→Act→World→Prop
 | .normal,a,w=>Kn a w
 | _,_,_=>False
theorem regionE_ok {Γ:List (FuncId×Cn)} (hΓ:AllOk E.P E.eT Γ) (hR:Rel E w0 ok0 [] ρ vl σ a w) {id:Nat} {ops:Array Oper} {draw:Bool} {K:St→Option β} {r:β} {Kn:Act→World→Prop} (hK:Then E w0 ok0 [] r K Kn) (h:regionE E Γ ops draw σ K=some r):
  (Code.region id ops draw).wp E.P (Goes Kn) a w:=by
 unfold regionE at h
 split at h
 ·exact wp_region_list (seqR_ok hΓ (Q:=Goes Kn) hK hR h)
 ·obtain ⟨hc,h⟩:=bif_some h
  simp only [Bool.and_eq_true] at hc
  have hd:Bw [] w w.drew:=.drew [] w
  exact wp_region_any hc.2 (wpAny_of_B _ _ _ _ (drawR_all hΓ hc.1 (fun _ _ _ h=>h) (Q:=Goes Kn) hK a w.heap.size (ptrSlots σ) (fun p hp=>by
   obtain ⟨b,off,cs,t,hl,hbl⟩:=ptrSlots_spec hp
   obtain ⟨-,hb,hv⟩:=hR.tm p _ hl
   exact ⟨ρ b,off,hv,(hR.bl b _ hbl).1⟩) _ _ _ 0 0 _ _ _ _ ρ vl [] (Nat.le_refl _) (fun j hj=>by simp at hj) (LOk.zero _) (fun j=>by simp) (fun k ok _ hk=>by simp at hk) (by unfold cntF;exact Nat.le_trans (List.length_filter_le _ _) (by simp)) (hR.step hd).1 (fun e he=>by cases he) (fun e he=>by cases he) (fun _ _=>rfl) (Nat.le_refl _) (fun k d t z _ hk=>by simp at hk) (fun _ k p q _ hk=>by simp at hk) h))
end
end Go.Proofs.YtbpcfhhcoklinaaGreat.Ab
