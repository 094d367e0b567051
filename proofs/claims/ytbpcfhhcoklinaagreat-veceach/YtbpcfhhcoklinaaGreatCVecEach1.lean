-- Written by a program of this session out of its own texts (wip/tools/link.py).
import Derived.Lib.SmallJoins
namespace Go.Proofs.YtbpcfhhcoklinaaGreat.AggX
open Go Go.Joins Go.ChangeShapes Go.WideShapes Go.RowKit Go.Deep
section
variable {H:Type} {enc:TypeId×Value→H} {P:Program} {w:World} {base:Nat} {spare:Nat→Bool} {held:Bool}
theorem cell_int {t:TypeId} {k:IntKind} {n:Nat} {v:Value} {y:DataW H×List MemPlace} (ht:P.underlying t=some (.int k)) (h:DataW.trod enc P w base spare held n t [v]=some y):
  ∃ a,v = .int k a∧y=(.lit (.int k a),[])∧(Lit.int k a).wf=true:=by
 obtain ⟨a,hv,hy,hw⟩:=DataW.trod_int ht h
 exact ⟨a,by simpa using hv,hy,hw⟩
theorem array3 {α:Type} {cs:Array α} (h:cs.size=3):∃ c0 c1 c2,cs = #[c0,c1,c2]:=by
 obtain ⟨l⟩:=cs
 match l,h with
 | [c0,c1,c2],_=>exact ⟨c0,c1,c2,rfl⟩
theorem list3 {α:Type} {cs:List α} (h:cs.length=3):∃ c0 c1 c2,cs=[c0,c1,c2]:=by
 match cs,h with
 | [c0,c1,c2],_=>exact ⟨c0,c1,c2,rfl⟩
theorem open_agg3 {r:Reach} {b0:Nat} {t:TypeId} {f0 f1 f2:Field} {v:Value} {d:DataW H} {p:List MemPlace} (hs:P.underlying t=some (.struct #[f0,f1,f2])) (hone:oneCellFields P #[f0,f1,f2]=true) (hC:P.cellsOf t=3)
  (hv:Value.okWide P w r b0 t v) (h:DataW.Trod enc P w base spare held t v d p):
  ∃ (v0 v1 v2:Value) (y0 y1 y2:DataW H×List MemPlace) (n:Nat),v = .agg #[v0,v1,v2]∧d = .agg [y0.1,y1.1,y2.1]∧p=y0.2++(y1.2++(y2.2)) ∧
   DataW.trod enc P w base spare held n f0.type [v0]=some y0∧DataW.trod enc P w base spare held n f1.type [v1]=some y1∧DataW.trod enc P w base spare held n f2.type [v2]=some y2:=by
 obtain ⟨cs,rfl,hsz⟩:=okWide_struct hs hv
 obtain ⟨c0,c1,c2,rfl⟩:=array3 (hsz.trans hC)
 obtain ⟨fuel,hf⟩:=h
 obtain ⟨xs,n,_,hx,_,hlen,hg⟩:=DataW.trod_struct hs hf
 obtain ⟨y0,y1,y2,rfl⟩:=list3 hlen
 obtain ⟨o0,k0⟩:=hone_of hone 0 f0 rfl
 obtain ⟨o1,k1⟩:=hone_of hone 1 f1 rfl
 obtain ⟨o2,k2⟩:=hone_of hone 2 f2 rfl
 simp only [Prod.mk.injEq] at hx
 exact ⟨c0,c1,c2,y0,y1,y2,n,rfl,by simpa using hx.1,by simpa using hx.2,by simpa [Value.cells,o0,k0] using hg 0 f0 rfl,by simpa [Value.cells,o1,k1] using hg 1 f1 rfl,by simpa [Value.cells,o2,k2] using hg 2 f2 rfl⟩
end
end Go.Proofs.YtbpcfhhcoklinaaGreat.AggX
