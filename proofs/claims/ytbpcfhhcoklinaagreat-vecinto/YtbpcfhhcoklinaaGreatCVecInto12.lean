-- Written by a program of this session out of its own texts (wip/tools/link.py).
import Derived.Below
import Derived.ChangeKeysEq
import Derived.ChangeSlices
import Derived.Deep.MidRow
import Derived.Deep.RegionHeld3
import Derived.Great.BuildSlice
import Derived.IntWalk
import Derived.LaidEql
import Derived.Laws.Bits64
import Derived.Laws.BitsLemmas
import Derived.Laws.BytesArg
import Derived.Laws.IdiomCopy
import Derived.Laws.OwnMore
import Derived.Laws.Rows
import Derived.Laws.Slices
import Derived.Laws.StructEq
import Derived.Laws.Tables
import Derived.Maps.AppendAt
import Derived.OrdersHeld
import Derived.RowKit
import Derived.Scope
import Derived.SizedLaws
import Derived.Test.YtbpcfhhcoklinaaGreatCVecInto10
namespace Go.Proofs.YtbpcfhhcoklinaaGreat.Ab
open Go Go.RowKit Go.ChangeShapes Go.WideShapes
theorem cell_lt {w:World} {a:Addr} {v:Value} (h:w.cell? a=some v):a.block < w.heap.size:=by
  unfold World.cell? at h
  split at h
  · rename_i hc
    exact (Array.getElem?_eq_some_iff.1 hc).1
  · cases h
def dlen {H:Type}:DataW H→Nat
  | .slice e s=>e.length+s.length
  | _=>0
theorem row_rd {H : Type} {enc : TypeId × Value → H} {P : Program} {W : World} {base : Nat} {spare : Nat → Bool} {held : Bool} {t e eT : TypeId} {k : IntKind} {a : Option Addr} {len cap B : Nat} {d : DataW H} {ps : List MemPlace} {ts : List TypeId} {ds : List (DataW H)} {j : Nat}
    (hsz:(DataW.weightsEach P ts ds).all (·≤reachBytes)=true) (ht:ts[j]? = some t) (hd:ds[j]? = some d) (hu:P.underlying t=some (.slice e)) (he:P.underlying e=some (.int k)) (hc:P.cellsOf e=1) (hB:P.bytesOf e=B)
    (h:DataW.Trod enc P W base spare held t (.slice a len cap) d ps):∃ l,VS (C0 eT W fun _=>True) (.rd k l) (.slice a len cap)∧inL k l∧l.length*B≤140737488351232∧l.length≤dlen d:=by
  obtain ⟨fuel,hf⟩:=h
  rcases open_ints hu he hc hf with ⟨hcs,_⟩ | ⟨x,l,c,zs,hcs,_,hl,hm,hz,hx,hcell,hwf⟩
  · simp [Value.cells] at hcs
    obtain ⟨rfl,rfl,rfl⟩:=hcs
    have hi:inL k []:=⟨by simp,by simp⟩
    exact ⟨[],⟨none,0,rfl,by simp,hi,fun i hi=>by simp at hi⟩,hi,by simp,by simp⟩
  · simp [Value.cells] at hcs
    obtain ⟨rfl,rfl,rfl⟩:=hcs
    have hl2:len≤zs.length:=by rw [hz];split <;> omega
    have hlen:(zs.take len).length=len:=by rw [List.length_take];omega
    have hin:inL k (zs.take len):=⟨by rw [hlen];unfold maxLen at hm;omega,fun n hn=>inK_wf (hwf n (List.mem_of_mem_take hn))⟩
    obtain ⟨hx,_⟩:=Prod.mk.inj hx
    subst hx
    have z:=sized_slice hsz ht hd hu
    rw [hB] at z
    have h1:(lits (H:=H) k (zs.take len)).length+(lits (H:=H) k (zs.drop len)).length=zs.length:=by
      simp [lits]
      omega
    rw [h1] at z
    refine ⟨zs.take len,⟨some x,cap,by rw [hlen],by rw [hlen];exact hl,hin,fun i hi=>?_⟩,hin,Nat.le_trans (Nat.mul_le_mul_right _ (by rw [hlen];exact hl2)) z,by rw [hlen];show len≤_+_;rw [h1];exact hl2⟩
    have hi2:i < zs.length:=by rw [hlen] at hi;omega
    have hcl:=hcell i hi2
    have hb:=cell_lt hcl
    rw [add_block] at hb
    refine ⟨x,rfl,trivial,hb, ?_⟩
    show W.cell? (x.add i)=_
    rw [hcl,List.getElem_take,List.getD_eq_getElem?_getD,List.getElem?_eq_getElem hi2]
    rfl
theorem slice_of {H:Type} {enc:TypeId×Value→H} {P:Program} {W:World} {base:Nat} {spare:Nat→Bool} {held:Bool} {t e:TypeId} {n:Nat} {v:Value} {y:DataW H×List MemPlace} (hu:P.underlying t=some (.slice e)) (h:DataW.trod enc P W base spare held n t [v]=some y):∃ a len cap,v = .slice a len cap:=by
  rcases DataW.trod_slice hu h with ⟨hcs,_⟩ | ⟨x,l,c,elems,rest,n,_,hcs,_⟩
  · exact ⟨none,0,0,by simpa using hcs⟩
  · exact ⟨some x,l,c,by simpa using hcs⟩
theorem sized_parts {H : Type} {P : Program} {ts : List TypeId} {ds : List (DataW H)} (h : (DataW.weightsEach P ts ds).all (· ≤ reachBytes) = true) {j : Nat} {t : TypeId} {fs : Array Field} {parts : List (DataW H)} (ht : ts[j]? = some t) (hd : ds[j]? = some (.agg parts)) (hu : P.underlying t = some (.struct fs)) :
    (DataW.weightsEach P (fs.toList.map (·.type)) parts).all (·≤reachBytes)=true:=by
  refine List.all_eq_true.2 fun x hx=>?_
  exact List.all_eq_true.1 h _ (DataW.weights_mem_each ht hd x (by simp only [DataW.weights,hu];exact hx))
theorem FnOk.truthL {P : Program} {eT : TypeId} {f : FuncId} {ag : List Ag} {sa : List Sh} {F : TT sa → Option Bool} {fn : Func} (hf : P.funcs[f]? = some fn) (hname : (fn.name == "runtime.NumGoroutine") = false) (hb : fn.body.isSome = true)
    (h:FnOk P eT f ⟨ag,sa,false,[.s],[.bool],false,F⟩) {x:TT sa} {r:Bool} (hr:F x=some r) (w:World) (vs:Array Value) (hv:V1s (C0 eT w fun _=>True) (group ag (TT.mk sa x)) vs.toList):
    Calls P f vs w fun e w'=>e = .returned (.bool r)∧Below w.heap.size w w':=by
  have:=h x r w (fun _=>True) vs hr hv
  rcases this with ⟨-,h2⟩ | ⟨v,w',h1, -⟩
  · refine h2.mono ?_
    rintro e w' ⟨v,rfl,⟨y,hy,hv⟩,hbw⟩
    simp only [resAV,cond_false,TT.mk,Sh.mk,group,Option.some.injEq] at hy
    subst hy
    refine ⟨congrArg _ hv, ?_⟩
    exact ⟨hbw.os,hbw.tape,hbw.output,hbw.size,fun k hk=>hbw.block k hk (by simp)⟩
  · rw [enters hf hname hb] at h1
    cases h1
end Go.Proofs.YtbpcfhhcoklinaaGreat.Ab
