-- Written by a program of this session out of its own texts (wip/tools/link.py).
import Derived.Lib.SmallJoins
namespace Go.Proofs.YtbpcfhhcoklinaaGreat.AggX
open Go Go.Joins Go.ChangeShapes Go.WideShapes Go.RowKit Go.Deep
section
variable {H:Type} {enc:TypeId×Value→H} {P:Program} {w:World} {base:Nat} {spare:Nat→Bool} {held:Bool}
theorem cell_int {t:TypeId} {k:IntKind} {n:Nat} {v:Value} {y:DataW H×List MemPlace} (ht:P.underlying t=some (.int k)) (h:DataW.trod enc P w base spare held n t [v]=some y):
  ∃ a,v = .int k a∧y=(.lit (.int k a),[])∧(Lit.int k a).wf=true:=by
 obtain ⟨a,hv,hy,hw⟩:=DataW.trod_int ht h
 exact ⟨a,by simpa using hv,hy,hw⟩
theorem cell_bool {t:TypeId} {n:Nat} {v:Value} {y:DataW H×List MemPlace} (ht:P.underlying t=some .bool) (h:DataW.trod enc P w base spare held n t [v]=some y):
  ∃ a,v = .bool a∧y=(.lit (.bool a),[]):=by
 obtain ⟨a,hv,hy⟩:=DataW.trod_bool ht h
 exact ⟨a,by simpa using hv,hy⟩
theorem array4 {α:Type} {cs:Array α} (h:cs.size=4):∃ c0 c1 c2 c3,cs = #[c0,c1,c2,c3]:=by
 obtain ⟨l⟩:=cs
 match l,h with
 | [c0,c1,c2,c3],_=>exact ⟨c0,c1,c2,c3,rfl⟩
theorem list4 {α:Type} {cs:List α} (h:cs.length=4):∃ c0 c1 c2 c3,cs=[c0,c1,c2,c3]:=by
 match cs,h with
 | [c0,c1,c2,c3],_=>exact ⟨c0,c1,c2,c3,rfl⟩
theorem open_agg4 {r:Reach} {b0:Nat} {t:TypeId} {f0 f1 f2 f3:Field} {v:Value} {d:DataW H} {p:List MemPlace} (hs:P.underlying t=some (.struct #[f0,f1,f2,f3])) (hone:oneCellFields P #[f0,f1,f2,f3]=true) (hC:P.cellsOf t=4)
  (hv:Value.okWide P w r b0 t v) (h:DataW.Trod enc P w base spare held t v d p):
  ∃ (v0 v1 v2 v3:Value) (y0 y1 y2 y3:DataW H×List MemPlace) (n:Nat),v = .agg #[v0,v1,v2,v3]∧d = .agg [y0.1,y1.1,y2.1,y3.1]∧p=y0.2++(y1.2++(y2.2++(y3.2))) ∧
   DataW.trod enc P w base spare held n f0.type [v0]=some y0∧DataW.trod enc P w base spare held n f1.type [v1]=some y1∧DataW.trod enc P w base spare held n f2.type [v2]=some y2∧DataW.trod enc P w base spare held n f3.type [v3]=some y3:=by
 obtain ⟨cs,rfl,hsz⟩:=okWide_struct hs hv
 obtain ⟨c0,c1,c2,c3,rfl⟩:=array4 (hsz.trans hC)
 obtain ⟨fuel,hf⟩:=h
 obtain ⟨xs,n,_,hx,_,hlen,hg⟩:=DataW.trod_struct hs hf
 obtain ⟨y0,y1,y2,y3,rfl⟩:=list4 hlen
 obtain ⟨o0,k0⟩:=hone_of hone 0 f0 rfl
 obtain ⟨o1,k1⟩:=hone_of hone 1 f1 rfl
 obtain ⟨o2,k2⟩:=hone_of hone 2 f2 rfl
 obtain ⟨o3,k3⟩:=hone_of hone 3 f3 rfl
 simp only [Prod.mk.injEq] at hx
 exact ⟨c0,c1,c2,c3,y0,y1,y2,y3,n,rfl,by simpa using hx.1,by simpa using hx.2,by simpa [Value.cells,o0,k0] using hg 0 f0 rfl,by simpa [Value.cells,o1,k1] using hg 1 f1 rfl,by simpa [Value.cells,o2,k2] using hg 2 f2 rfl,by simpa [Value.cells,o3,k3] using hg 3 f3 rfl⟩
end
end Go.Proofs.YtbpcfhhcoklinaaGreat.AggX
