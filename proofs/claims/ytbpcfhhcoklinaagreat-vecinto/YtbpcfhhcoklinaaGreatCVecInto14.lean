-- Written by a program of this session out of its own texts (wip/tools/link.py).
import Derived.Below
import Derived.ChangeKeysEq
import Derived.Deep.MidRow
import Derived.Deep.RegionHeld3
import Derived.IntWalk
import Derived.LaidEql
import Derived.Laws.Bits64
import Derived.Laws.BitsLemmas
import Derived.Laws.IdiomCopy
import Derived.Laws.OwnMore
import Derived.Laws.Rows
import Derived.Laws.StructEq
import Derived.Laws.Tables
import Derived.LoopIn
import Derived.LoopNIn
import Derived.OrdersHeld
import Derived.OwnWalkIn
import Derived.RangeFuncBound
import Derived.RangeFuncCalls
import Derived.RangeFuncLeaves
import Derived.RangeFuncNested
import Derived.RowKit
import Derived.Shelf.Abstract
import Derived.Shelf.RegionOpen
import Derived.TacticsInMore
import Derived.WalkKit
import Derived.Test.YtbpcfhhcoklinaaGreatCVecInto8
set_option linter.unusedSimpArgs false
set_option linter.unusedVariables false
namespace Go.Proofs.YtbpcfhhcoklinaaGreat.Rng
open Go Go.RowKit Go.Shelf Go.Proofs.YtbpcfhhcoklinaaGreat.Ab
attribute [local go_sem] Oper.semAt_some
variable {F:Fence} {n:Nat} {P:Program}
structure Lp where
 l:Nat
 D:Nat
 r:LoopState→Option Code→Loop
def Lp.rdy (L:Lp) (W:World):Prop:=W.heap[L.l]? = some (.loop (L.r .ready none))∧W.heap[L.D]? = some (.deferred (some []))
def Lp.lft (L:Lp) (c:Code) (W:World):Prop:=W.heap[L.l]? = some (.loop (L.r .done (some c)))∧W.heap[L.D]? = some (.deferred (some []))
def endP (I:World→Prop) (Ix:Code→World→Prop) (W:World):Exit→Act→World→Prop
 | .normal,_,W'=>KeepsOthers W W'∧I W'
 | .ret,_,W'=>KeepsOthers W W'∧Ix .ret W'
 | .exit id,_,W'=>KeepsOthers W W'∧Ix (.exit id) W'
 | .goto t,_,W'=>KeepsOthers W W'∧Ix (.goto t) W'
 | .panic _,_,_=>False
 | .outgrown,_,_=>False
def Deaf (l:Nat) (I:World→Prop):Prop:=∀ W o,l < W.heap.size→I W→I (W.putObj l o)
theorem round_of {m:Nat} {L:Lp} {fn:FuncId} {tmps:Array Value} {ps:Array Tmp} {assign body:Code} (hr:∀ st pe,L.r st pe = { state:=st,pending:=pe,fn,tmps,params:=ps,assign,body,defers:=L.D }) (hlD:L.l≠L.D) (hfn:F.fn fn)
  {args:Array Value} (hps:args.size=ps.size) {W:World} (hW:L.rdy W) {I:World→Prop} {Ix:Code→World→Prop} (hI:Deaf L.l I) (hIx:∀ c,Deaf L.l (Ix c)) (a₁:Act)
  (hassign:∀ K:Act→World→Prop,K a₁ W→assign.wpIn (F.inRound L.l) m P (Exit.then K (fun _ _ _=>False)) { tmps:=(ps.zip args).foldl (fun t (p,v)=>t.setIfInBounds p v) tmps,defers:=[] } W)
  (hbody:body.wpIn (F.inRound L.l) m P (endP I Ix (W.putObj L.l (.loop (L.r .busy none)))) a₁ (W.putObj L.l (.loop (L.r .busy none)))):
  YieldAt F m P L.l args W fun e W'=>(e = .returned (.bool true)∧I W'∧L.rdy W')∨(e = .returned (.bool false)∧∃ c,Ix c W'∧L.lft c W'):=by
 obtain ⟨h1,h2⟩:=hW
 have hlt:L.l < W.heap.size:=(Array.getElem?_eq_some_iff.1 h1).1
 have hy:=run_yield (P:=P) (args:=args) h1 (by rw [hr];exact hps)
 rw [hr] at hy
 refine ⟨fn,_,assign,body,hy,roundIn_of_wpIn hfn (hassign _ ⟨W.putObj L.l (.loop (L.r .busy none)), ?_, ?_⟩)⟩
 ·have:=run_beginRound (P:=P) h1 (by rw [hr])
  rw [this,hr,hr]
 ·refine wpIn_mono hbody ?_
  have g1:(W.putObj L.l (.loop (L.r .busy none))).heap[L.l]? = some (.loop (L.r .busy none)):=World.putObj_heap_same hlt
  have g2:(W.putObj L.l (.loop (L.r .busy none))).heap[L.D]? = some (.deferred (some [])):=(World.putObj_heap_other (fun e=>hlD e.symm)).trans h2
  have fin:∀ (j:Option Code) (W3:World),KeepsOthers (W.putObj L.l (.loop (L.r .busy none))) W3 →
    (Instr.endRound L.l j).run P W3 = .ok (.bool j.isNone) (W3.putObj L.l (.loop (L.r (if j.isNone then .ready else .done) j)))∧L.l < W3.heap.size ∧
    (W3.putObj L.l (.loop (L.r (if j.isNone then .ready else .done) j))).heap[L.l]? = some (.loop (L.r (if j.isNone then .ready else .done) j)) ∧
    (W3.putObj L.l (.loop (L.r (if j.isNone then .ready else .done) j))).heap[L.D]? = some (.deferred (some [])):=fun j W3 hk=>by
   have k1:=hk.same _ _ g1 rfl
   have k2:=hk.same _ _ g2 rfl
   have k3:=(Array.getElem?_eq_some_iff.1 k1).1
   have k4:=run_endRound (P:=P) j k1
   refine ⟨?_,k3,World.putObj_heap_same k3,(World.putObj_heap_other (fun e=>hlD e.symm)).trans k2⟩
   rw [k4,hr,hr]
  intro e a3 W3 hp
  cases e with
  | normal =>
   obtain ⟨hk,hi⟩:=hp
   obtain ⟨f1,f2,f3,f4⟩:=fin none W3 hk
   exact ⟨_,_,f1,.inl ⟨rfl,hI _ _ f2 hi,f3,f4⟩⟩
  | ret =>
   obtain ⟨hk,hi⟩:=hp
   obtain ⟨f1,f2,f3,f4⟩:=fin (some .ret) W3 hk
   exact ⟨_,_,f1,.inr ⟨rfl,.ret,hIx _ _ _ f2 hi,f3,f4⟩⟩
  | exit id =>
   obtain ⟨hk,hi⟩:=hp
   obtain ⟨f1,f2,f3,f4⟩:=fin (some (.exit id)) W3 hk
   exact ⟨_,_,f1,.inr ⟨rfl,.exit id,hIx _ _ _ f2 hi,f3,f4⟩⟩
  | goto t =>
   obtain ⟨hk,hi⟩:=hp
   obtain ⟨f1,f2,f3,f4⟩:=fin (some (.goto t)) W3 hk
   exact ⟨_,_,f1,.inr ⟨rfl,.goto t,hIx _ _ _ f2 hi,f3,f4⟩⟩
  | panic _=>exact hp.elim
  | outgrown=>exact hp.elim
theorem stmt_of {g:Operand} {ps:Array Tmp} {assign body:Code} {Q:Exit→Act→World→Prop} {a:Act} {w:World} (hro:F.round=none) (h1:1≤n) {gf:Nat} {lb:Array Value} (hg:a.eval g = .func (.func gf) #[] lb) (hFg:F.fn gf)
  (eg:∀ args w,(callFunc gf args).run P w = .ok (.enter gf args) w) {I:World→Prop} {Ix:Code→World→Prop}
  (hit:∀ (L:Lp) (W:World) (fn:FuncId),F.fn fn→L.l=w.heap.size+1→L.D=w.heap.size→(∀ st pe,L.r st pe = { state:=st,pending:=pe,fn,tmps:=a.tmps,params:=ps,assign,body,defers:=L.D })→L.rdy W→Bw [] w W →
   CallsIn F (n - 1) P gf (#[.func (.yield L.l) #[] #[]]++lb) W fun e W'=>(∃ v,e = .returned v)∧((I W'∧L.rdy W')∨∃ c,Ix c W'∧L.lft c W'))
  (hdone:∀ W,I W→W.heap[w.heap.size]? = some (.deferred (some []))→∀ W',W'=W.putObj (w.heap.size+1) (W'.heap.getD (w.heap.size+1) default)→W'.heap[w.heap.size]? = some (.deferred (some []))→w.heap.size+1 < W.heap.size→Q .normal { a with defers:={ target:=.collected w.heap.size,args:=#[] } :: a.defers } W')
  (hstop:∀ c W,Ix c W→W.heap[w.heap.size]? = some (.deferred (some []))→∀ W',W'=W.putObj (w.heap.size+1) (W'.heap.getD (w.heap.size+1) default)→W'.heap[w.heap.size]? = some (.deferred (some []))→w.heap.size+1 < W.heap.size→c.wpIn F n P Q { a with defers:={ target:=.collected w.heap.size,args:=#[] } :: a.defers } W'):
  (Code.rangeFunc g ps assign body).wpIn F n P Q a w:=by
 refine wpIn_rangeFunc fun fn hfn=>?_
 rw [hro]
 obtain ⟨W1,hW1⟩:∃ W1,(w.alloc (.deferred (some []))).alloc (.loop { state:=.ready,pending:=none,fn,tmps:=a.tmps,params:=ps,assign,body,defers:=w.heap.size })=W1:=⟨_,rfl⟩
 have e1:W1.heap[w.heap.size+1]? = some (.loop { state:=.ready,pending:=none,fn,tmps:=a.tmps,params:=ps,assign,body,defers:=w.heap.size }):=by
  rw [← hW1]
  have:=World.alloc_heap_new (w.alloc (.deferred (some []))) (.loop { state:=.ready,pending:=none,fn,tmps:=a.tmps,params:=ps,assign,body,defers:=w.heap.size })
  rwa [World.size_alloc] at this
 have e2:W1.heap[w.heap.size]? = some (.deferred (some [])):=by
  rw [← hW1]
  exact (Below.heap_alloc _ _ _ (by simp)).trans (World.alloc_heap_new w _)
 have e3:Bw [] w W1:=by
  rw [← hW1]
  have hb:=((Below.refl w.heap.size w).alloc (Nat.le_refl _) (.deferred (some []))).alloc (by simp) (.loop { state:=.ready,pending:=none,fn,tmps:=a.tmps,params:=ps,assign,body,defers:=w.heap.size })
  exact ⟨hb.os,hb.tape,hb.output,Nat.le_refl _,hb.size,fun k hk _=>hb.block k hk⟩
 refine ⟨w.heap.size+1,[{ target:=.collected w.heap.size,args:=#[] }],W1,{ target:=.fn (.func gf) lb,args:=#[.func (.yield (w.heap.size+1)) #[] #[]] },W1,gf, #[.func (.yield (w.heap.size+1)) #[] #[]]++lb,W1, ?_, ?_, ?_, ?_,fun _=>h1, ?_⟩
 ·rw [← hW1];exact run_enterLoop_outer _ _ _ _ _
 ·simp only [resolve,hg]
  simp [go_sem]
 ·intro f' hf';simp [Target.leads] at hf';subst hf';exact hFg
 ·simp [invoke,go_sem,eg]
 ·refine (hit ⟨w.heap.size+1,w.heap.size,fun st pe=>{ state:=st,pending:=pe,fn,tmps:=a.tmps,params:=ps,assign,body,defers:=w.heap.size }⟩ W1 fn hfn rfl rfl (fun _ _=>rfl) ⟨e1,e2⟩ e3).mono ?_
  have back:∀ (W:World) (o o':Obj),W.heap[w.heap.size+1]? = some o→W.heap[w.heap.size]? = some (.deferred (some []))→W.putObj (w.heap.size+1) o'=W.putObj (w.heap.size+1) ((W.putObj (w.heap.size+1) o').heap.getD (w.heap.size+1) default)∧(W.putObj (w.heap.size+1) o').heap[w.heap.size]? = some (.deferred (some []))∧w.heap.size+1 < W.heap.size:=by
   intro W o o' h1 h2
   have h3:=(Array.getElem?_eq_some_iff.1 h1).1
   refine ⟨?_,(World.putObj_heap_other (by omega)).trans h2,h3⟩
   have h4:=World.putObj_heap_same (o:=o') h3
   rw [Array.getD_eq_getD_getElem?,h4]
   rfl
  rintro e W2 ⟨⟨v,rfl⟩,⟨hi,hl,hk⟩ | ⟨c,hi,hl,hk⟩⟩
  ·have h:=run_endLoop (P:=P) hl (by simp)
   obtain ⟨b1,b2,b3⟩:=back W2 _ _ hl hk
   exact ⟨none,_,h,hdone _ hi hk _ b1 b2 b3⟩
  ·have h:=run_endLoop (P:=P) hl (by simp)
   obtain ⟨b1,b2,b3⟩:=back W2 _ _ hl hk
   exact ⟨some c,_,h,hstop _ _ hi hk _ b1 b2 b3⟩
end Go.Proofs.YtbpcfhhcoklinaaGreat.Rng
