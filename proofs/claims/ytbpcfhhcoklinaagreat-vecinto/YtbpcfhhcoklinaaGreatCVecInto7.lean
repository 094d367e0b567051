-- Written by a program of this session out of its own texts (wip/tools/link.py).
import Derived.Below
import Derived.ChangeKeysEq
import Derived.Deep.MidRow
import Derived.Deep.RegionHeld3
import Derived.IntWalk
import Derived.LaidEql
import Derived.Laws.Bits64
import Derived.Laws.BitsLemmas
import Derived.Laws.OwnMore
import Derived.Laws.Rows
import Derived.Laws.StructEq
import Derived.OrdersHeld
import Derived.RowKit
import Derived.Test.YtbpcfhhcoklinaaGreatCVecInto6
set_option linter.unusedSimpArgs false
set_option linter.unusedVariables false
namespace Go.Proofs.YtbpcfhhcoklinaaGreat.Ab
open Go Go.RowKit
def St.put (σ:St) (d:Option Nat) (v:AV):St:=
 match d with
 | some t=>{ σ with tm:=(t,v) :: σ.tm }
 | none=>σ
def cstI (k:IntKind) (n:Int):Option AV:=bif decide (kLo k≤n)&&decide (n≤kHi k) then some (.one (.s (.int k n (some n) (some n)))) else none
def cstS:ByteArray→Option AV
 | ⟨⟨l⟩⟩=>bif Nat.ble l.length 1000 then some (.one (.s (.str ⟨⟨l⟩⟩ (some l.length)))) else none
def cst (E:En):Value→Option AV
 | .int k n=>cstI k n
 | .bool b=>some (.one (.s (.bool (.cst b))))
 | .string s=>cstS s
 | .nilIface=>some (.one (.s (.erc none)))
 | .nilFunc=>some (.one (.s .nof))
 | .pointer none=>some (.one (.s .nilp))
 | .slice none n c=>bif Nat.beq n 0&&Nat.beq c 0 then some (.one (.s .nils)) else none
 | .iface t (.int .i64 c)=>bif Nat.beq t E.eT&&(decide (kLo .i64≤c)&&decide (c≤kHi .i64)) then some (.one (.s (.erc (some c)))) else none
 | _=>none
theorem cst_ok {E:En} {C:Cx} (hE:C.eT=E.eT) {v:Value} {x:AV} (h:cst E v=some x):VV C x v:=by
 unfold cst at h
 split at h
 ·unfold cstI at h
  rename_i k n
  cases hc:(decide (kLo k≤n)&&decide (n≤kHi k)) <;> rw [hc] at h <;> simp at h
  subst h
  simp only [Bool.and_eq_true,decide_eq_true_eq] at hc
  exact ⟨rfl,hc,by simp,by simp⟩
 ·injection h with h;subst h;rfl
 ·unfold cstS at h
  split at h
  rename_i l
  cases hc:Nat.ble l.length 1000 <;> rw [hc] at h <;> simp at h
  subst h
  have h1:l.length≤1000:=Nat.le_of_ble_eq_true hc
  refine ⟨rfl, ?_, ?_⟩
  ·show l.length≤_;omega
  ·intro m hm;injection hm with hm
 ·injection h with h;subst h;exact ⟨rfl,by simp⟩
 ·injection h with h;subst h;rfl
 ·injection h with h;subst h;rfl
 ·rename_i n c
  cases hc:(Nat.beq n 0&&Nat.beq c 0) <;> rw [hc] at h <;> simp at h
  subst h
  simp only [Bool.and_eq_true] at hc
  rw [Nat.eq_of_beq_eq_true hc.1,Nat.eq_of_beq_eq_true hc.2]
  rfl
 ·rename_i t c
  cases hc:(Nat.beq t E.eT&&(decide (kLo .i64≤c)&&decide (c≤kHi .i64))) <;> rw [hc] at h <;> simp at h
  subst h
  simp only [Bool.and_eq_true,decide_eq_true_eq] at hc
  have:t=E.eT:=Nat.eq_of_beq_eq_true hc.1
  refine ⟨?_,fun q hq=>?_⟩
  ·show Value.iface t (.int .i64 c) = .iface C.eT (.int .i64 c)
   rw [hE,this]
  ·injection hq with hq
   subst hq
   exact hc.2
 ·cases h
def opd (E:En) (σ:St):Operand→Option AV
 | .tmp t=>look σ.tm t
 | .const v=>cst E v
 | .func f=>some (.one (.s (.fn f)))
 | .global _=>none
section
variable {β:Type} {E:En} {w0:World} {ok0:Nat→Prop} {gs:List Nat} {ρ:Nat→Nat} {vl:Nat→Value} {σ:St} {a:Act} {w:World}
theorem opd_ok (hR:Rel E w0 ok0 gs ρ vl σ a w) {x:Operand} {v:AV} (h:opd E σ x=some v):VV (cx E w0 ok0 gs ρ vl σ w) v (a.eval x):=by
 cases x with
 | tmp t=>exact (hR.tm t v h).2
 | const u=>exact cst_ok rfl h
 | func f=>injection h with h;subst h;rfl
 | global g=>cases h
def PureRes (E:En) (w0:World) (ok0:Nat→Prop) (gs:List Nat) (ρ:Nat→Nat) (vl:Nat→Value) (a:Act) (w:World) (o:Oper) (K:AV→St→Option β) (r:β):Prop:=
 ∃ x σ' v,K x σ'=some r∧Rel E w0 ok0 gs ρ vl σ' a w∧VV (cx E w0 ok0 gs ρ vl σ' w) x v∧∀ w1,(execOp a.eval o).run E.P w1 = .ok (.value v) w1
theorem PureRes.mk' (hR:Rel E w0 ok0 gs ρ vl σ a w) {o:Oper} {K:AV→St→Option β} {r:β} {x:AV} {v:Value} (h:K x σ = some r) (hv:VV (cx E w0 ok0 gs ρ vl σ w) x v)
  (hr:∀ w1,(execOp a.eval o).run E.P w1 = .ok (.value v) w1):PureRes E w0 ok0 gs ρ vl a w o K r:=⟨x, σ,v,h,hR,hv,hr⟩
def popMove (E:En) (σ:St) (x:Operand) (K:AV→St→Option β):Option β:=
 match opd E σ x with
 | some v=>K v σ
 | none=>none
theorem popMove_ok (hR:Rel E w0 ok0 gs ρ vl σ a w) {o:Oper} {x:Operand} {K:AV→St→Option β} {r:β} (ho:o.op = .move x∨o.op = .assign x) (h:popMove E σ x K=some r):
  PureRes E w0 ok0 gs ρ vl a w o K r:=by
 unfold popMove at h
 split at h
 ·rename_i v hv
  exact .mk' hR h (opd_ok hR hv) (fun w1=>by rcases ho with ho | ho <;> simp [execOp,ho])
 ·cases h
def popPick (E:En) (σ:St) (c x y:Operand) (K:AV→St→Option β):Option β:=
 match opd E σ c,opd E σ x,opd E σ y with
 | some (.one (.s (.bool b))),some vx,some vy=>b.ite (K vx σ) (K vy σ)
 | _,_,_=>none
theorem popPick_ok (hR:Rel E w0 ok0 gs ρ vl σ a w) {o:Oper} {c x y:Operand} {K:AV→St→Option β} {r:β} (ho:o.op = .pick c x y) (h:popPick E σ c x y K=some r):
  PureRes E w0 ok0 gs ρ vl a w o K r:=by
 unfold popPick at h
 split at h
 ·rename_i b vx vy hc hx hy
  have hb:a.eval c = .bool b.val:=opd_ok hR hc
  rcases Bo.ite_some h with ⟨h1,h2⟩ | ⟨h1,h2⟩
  ·exact .mk' hR h2 (opd_ok hR hx) (fun w1=>by simp [execOp,ho,hb,asBool,h1])
  ·exact .mk' hR h2 (opd_ok hR hy) (fun w1=>by simp [execOp,ho,hb,asBool,h1])
 ·cases h
def popExtract (E:En) (σ:St) (x:Operand) (i:Nat) (K:AV→St→Option β):Option β:=
 match opd E σ x with
 | some (.tup l)=>match l[i]? with
  | some y=>K (.one y) σ
  | none=>none
 | _=>none
theorem popExtract_ok (hR:Rel E w0 ok0 gs ρ vl σ a w) {o:Oper} {x:Operand} {i:Nat} {K:AV→St→Option β} {r:β} (ho:o.op = .extract x i) (h:popExtract E σ x i K=some r):
  PureRes E w0 ok0 gs ρ vl a w o K r:=by
 unfold popExtract at h
 split at h
 ·rename_i l hx
  obtain ⟨vs,h1,h2⟩:=opd_ok hR hx
  split at h
  ·rename_i y hy
   obtain ⟨v,h3,h4⟩:=h2.get hy
   exact .mk' hR h h4 (fun w1=>by simp only [execOp,ho,h1,Instr.extract,← Array.getElem?_toList,h3];rfl)
  ·cases h
 ·cases h
def negF (k:IntKind) (y:Int) (yl yh:Option Int):Sc:=bif yl.isSome&&yh.isSome then wrapped k (-y) (osub (some 0) yh) (osub (some 0) yl) else wr k (-y)
def popUn (E:En) (σ:St) (op:UnOp) (x:Operand) (K:AV→St→Option β):Option β:=
 match op,opd E σ x with
 | .neg,some (.one (.s (.int k y yl yh)))=>K (.one (.s (negF k y yl yh))) σ
 | .xor,some (.one (.s (.int k y _ _)))=>K (.one (.s (.int k (Go.bits .xor k (bif k.signed then -1 else kHi k) y) none none))) σ
 | .not,some (.one (.s (.bool b)))=>K (.one (.s (.bool (.not b)))) σ
 | _,_=>none
theorem max_kHi (k:IntKind):k.max=kHi k:=by cases k <;> simp [IntKind.max,kHi,IntKind.signed,IntKind.bits]
theorem popUn_ok (hR:Rel E w0 ok0 gs ρ vl σ a w) {o:Oper} {op:UnOp} {t:TypeId} {x:Operand} {K:AV→St→Option β} {r:β} (ho:o.op = .unOp op t x) (h:popUn E σ op x K=some r):
  PureRes E w0 ok0 gs ρ vl a w o K r:=by
 unfold popUn at h
 split at h
 ·rename_i k y yl yh hx
  obtain ⟨h1,h2,h3,h4⟩:=opd_ok hR hx
  refine .mk' hR h (v:=.int k (k.wrap (0 - y))) ?_ (fun w1=>by simp [execOp,ho,h1,Op.unary,Op.intArith])
  rw [Int.zero_sub]
  show VS _ (negF k y yl yh) _
  unfold negF
  cases hc:(yl.isSome&&yh.isSome)
  ·exact wr_ok _ k _
  ·cases yl with
   | none=>simp at hc
   | some p =>
    cases yh with
    | none=>simp at hc
    | some q =>
     have e1:=h3 p rfl
     have e2:=h4 q rfl
     rw [cond_true]
     refine wrapped_ok _ k _ _ _ ?_ ?_
     ·intro z hz;simp only [osub,Option.some.injEq] at hz;omega
     ·intro z hz;simp only [osub,Option.some.injEq] at hz;omega
 ·rename_i k y yl yh hx
  obtain ⟨h1,h2,h3,h4⟩:=opd_ok hR hx
  refine .mk' hR h ⟨rfl,wrap_inK _ _,by simp,by simp⟩ (fun w1=>?_)
  simp only [execOp,ho,h1,Op.unary,intBits_xor,max_kHi]
  cases k <;> rfl
 ·rename_i b hx
  have h1:a.eval x = .bool b.val:=opd_ok hR hx
  exact .mk' hR h (v:=.bool (!b.val)) rfl (fun w1=>by simp [execOp,ho,h1,Op.unary])
 ·cases h
inductive Eb where
 | st (b:Bool) | ex (b:Bool)
def Eb.val:Eb→Bool
 | .st b=>b | .ex b=>b
def boolEq:Bo→Bo→Eb
 | .cst p,.cst q=>.st (p==q)
 | .cst p,y=>.ex (bif p then y.val else !y.val)
 | x,.cst q=>.ex (bif q then x.val else !x.val)
 | x,y=>.ex (x.val==y.val)
theorem bifL (p v:Bool):(bif p then v else !v)=(p==v):=by cases p <;> cases v <;> rfl
theorem bifR (p v:Bool):(bif p then v else !v)=(v==p):=by cases p <;> cases v <;> rfl
theorem boolEq_val (x y:Bo):(boolEq x y).val=(x.val==y.val):=by
 cases x <;> cases y <;> first | rfl | exact bifL _ _ | exact bifR _ _
def intEq (x:Int) (xl xh:Option Int) (y:Int) (yl yh:Option Int):Eb:=
 match litOf xl xh,litOf yl yh with
 | some p,some q=>.st (decide (p=q))
 | _,_=>.ex (x==y)
theorem intEq_val {x y:Int} {xl xh yl yh:Option Int} (h3:∀ a,xl=some a→a≤x) (h4:∀ a,xh=some a→x≤a) (h5:∀ a,yl=some a→a≤y) (h6:∀ a,yh=some a→y≤a):
  (intEq x xl xh y yl yh).val=(x==y):=by
 unfold intEq
 split
 ·rename_i p q hp hq
  rw [litOf_eq hp h3 h4,litOf_eq hq h5 h6]
  rfl
 ·rfl
def cellEq:Sc→Sc→Option Eb
 | .int k x xl xh,.int k' y yl yh=>bif decide (k=k') then some (intEq x xl xh y yl yh) else none
 | .bool x,.bool y=>some (boolEq x y)
 | .str x _,.str y _=>some (.ex (x.toList==y.toList))
 | _,_=>none
def fitsT:TypeDesc→Sc→Bool
 | .bool,.bool _=>true
 | .int _,.int _ _ _ _=>true
 | .string,.str _ _=>true
 | _,_=>false
def ebAnd:Eb→Eb→Eb
 | .st true,y=>y
 | .st false,_=>.st false
 | .ex _,.st false=>.st false
 | .ex b,.st true=>.ex b
 | .ex b,.ex c=>.ex (b&&c)
theorem ebAnd_val (x y:Eb):(ebAnd x y).val=(x.val&&y.val):=by
 cases x with
 | st b=>cases b <;> simp [ebAnd,Eb.val]
 | ex b =>
  cases y with
  | st c=>cases c <;> simp [ebAnd,Eb.val]
  | ex c=>simp [ebAnd,Eb.val]
def Eb.bo:Eb→Bo
 | .st b=>.cst b | .ex b=>.lit b
def Eb.nbo:Eb→Bo
 | .st b=>.cst (!b) | .ex b=>.not (.lit b)
theorem Eb.bo_val (x:Eb):x.bo.val=x.val:=by cases x <;> rfl
theorem Eb.nbo_val (x:Eb):x.nbo.val = !x.val:=by cases x <;> rfl
def eqFs (P:Program) (xs ys:List Sc):List Field→Option Eb
 | []=>some (.st true)
 | f :: fs =>
  bif f.name == "_" then none else
  match P.underlying f.type,xs[f.offset]?,ys[f.offset]? with
  | some d,some x,some y =>
   bif fitsT d x then (match cellEq x y,eqFs P xs ys fs with
     | some p,some q=>some (ebAnd p q)
     | _,_=>none) else none
  | _,_,_=>none
def eqCells:List Sc→List Sc→Option Eb
 | [],[]=>some (.st true)
 | .int k x xl xh :: xs,y :: ys=>match cellEq (.int k x xl xh) y,eqCells xs ys with
  | some p,some q=>some (ebAnd p q)
  | _,_=>none
 | _,_=>none
def popEqAgg (E:En) (t:TypeId) (xs ys:List Sc):Option Eb:=
 bif E.P.eqGuardType E.P.depth t then none else
 match E.P.underlying t with
 | some (.struct fs)=>bif E.P.stoodInHeld t then none else eqFs E.P xs ys fs.toList
 | some (.array n e)=>(match E.P.underlying e,E.P.info? e with
  | some (.int _),some i=>bif Nat.beq i.size 1&&(Nat.beq n xs.length&&Nat.beq n ys.length) then eqCells xs ys else none
  | _,_=>none)
 | _=>none
end
end Go.Proofs.YtbpcfhhcoklinaaGreat.Ab
namespace Go.Proofs.YtbpcfhhcoklinaaGreat.Ab
open Go Go.RowKit
section
variable {β:Type} {E:En} {w0:World} {ok0:Nat→Prop} {gs:List Nat} {ρ:Nat→Nat} {vl:Nat→Value} {σ:St} {a:Act} {w:World}
theorem bif_some {α:Type} {b:Bool} {x:Option α} {r:α} (h:(bif b then x else none)=some r):b=true∧x=some r:=by
 cases b
 ·cases h
 ·exact ⟨rfl,h⟩
theorem cellEq_ok {P:Program} {C:Cx} {x y:Sc} {e:Eb} {u v:Value} {d:Nat} {t:TypeId} {dd:TypeDesc} (h:cellEq x y=some e) (hx:VS C x u) (hy:VS C y v) (ht:P.underlying t=some dd)
  (hd:fitsT dd x=true) (w1:World):(Op.equalIn (d+1) t u v).run P w1 = .ok e.val w1:=by
 unfold cellEq at h
 split at h
 ·have h1:=bif_some h
  clear h
  have hkk:=of_decide_eq_true h1.1
  have h:=Option.some.inj h1.2
  clear h1
  subst hkk
  subst h
  obtain ⟨rfl, -,h3,h4⟩:=hx
  obtain ⟨rfl, -,h5,h6⟩:=hy
  cases dd <;> simp only [fitsT,Bool.false_eq_true] at hd
  rw [run_equalIn_int w1 d t _ _ _ _ ht,intEq_val h3 h4 h5 h6]
 ·rename_i p q
  injection h with h
  subst h
  obtain rfl:u = .bool p.val:=hx
  obtain rfl:v = .bool q.val:=hy
  cases dd <;> simp only [fitsT,Bool.false_eq_true] at hd
  rw [run_equalIn_bool' w1 d t _ _ ht,boolEq_val]
 ·injection h with h
  subst h
  obtain ⟨rfl, -⟩:=hx
  obtain ⟨rfl, -⟩:=hy
  cases dd <;> simp only [fitsT,Bool.false_eq_true] at hd
  exact run_equalIn_string w1 d t _ _ ht
 ·cases h
theorem fitsT_row {d:TypeDesc} {x:Sc} (h:fitsT d x=true):d.isRow=false:=by cases d <;> first | rfl | simp [fitsT] at h
theorem isAgg_no {P:Program} {t:TypeId} {d:TypeDesc} (h:P.underlying t=some d) (hd:d.isRow=false) (w1:World):(isAgg t).run P w1 = .ok false w1:=by
 unfold isAgg
 rw [Sem.run_bind,run_underlying h]
 cases d <;> simp_all
theorem part_one {P:Program} {t:TypeId} {d:TypeDesc} (h:P.underlying t=some d) (hd:d.isRow=false) {cs:Array Value} {off:Nat} {v:Value} (hv:cs.toList[off]? = some v) (w1:World):
  (part t cs off).run P w1 = .ok v w1:=by
 have hv':cs[off]? = some v:=by simpa using hv
 simp [part,isAgg_no h hd,hv']
theorem eqFs_ok {P:Program} {C:Cx} {xs ys:List Sc} {us vs:Array Value} {d:Nat} (hx:VSs C xs us.toList) (hy:VSs C ys vs.toList) (w1:World):
  ∀ {fs:List Field} {e:Eb},eqFs P xs ys fs=some e→(Op.eqFields (d+1) us vs fs).run P w1 = .ok e.val w1
 | [],e,h=>by simp only [eqFs,Option.some.injEq] at h;subst h;simp [Op.eqFields,Eb.val]
 | f :: fs,e,h=>by
  unfold eqFs at h
  cases hn : f.name == "_" <;> rw [hn] at h <;> simp only [cond_true, cond_false, reduceCtorEq] at h
  split at h
  ·rename_i dd x y hdd hxx hyy
   obtain ⟨hf,h⟩:=bif_some h
   split at h
   ·rename_i p q hp hq
    injection h with h
    subst h
    obtain ⟨u,hu1,hu2⟩:=hx.get hxx
    obtain ⟨v,hv1,hv2⟩:=hy.get hyy
    have h1:=part_one (P:=P) hdd (fitsT_row hf) hu1 w1
    have h2:=part_one (P:=P) hdd (fitsT_row hf) hv1 w1
    have h3:=cellEq_ok (P:=P) (d:=d) hp hu2 hv2 hdd hf w1
    have h4:=eqFs_ok (d:=d) hx hy w1 hq
    have hn' : f.name ≠ "_" := by simpa using hn
    rw [Op.eqFields,ebAnd_val]
    simp only [if_pos hn',Sem.run_bind,h1,h2,h3,Result.andThen_ok]
    cases p.val
    ·simp
    ·simpa using h4
   ·cases h
  ·cases h
theorem eqCells_ok {P:Program} {C:Cx} {d:Nat} {e:TypeId} {i:TypeInfo} {k0:IntKind} (he:P.underlying e=some (.int k0)) (hi:P.info? e=some i) (hs:i.size=1) {us vs:Array Value} (w1:World):
  ∀ {xs ys:List Sc} {b:Eb} (j:Nat),VSs C xs (us.toList.drop j)→VSs C ys (vs.toList.drop j)→eqCells xs ys=some b →
   (Op.eqItems (d+1) e (P.cellsOf e) us vs (List.range' j xs.length)).run P w1 = .ok b.val w1
 | [],[],b,j,_,_,h=>by simp only [eqCells,Option.some.injEq] at h;subst h;simp [Op.eqItems,Eb.val]
 | .int k x xl xh :: xs,y :: ys,b,j,hx,hy,h=>by
  simp only [eqCells] at h
  split at h
  ·rename_i p q hp hq
   injection h with h
   subst h
   have hc:P.cellsOf e=1:=by simp [Program.cellsOf,hi,hs]
   cases hu:us.toList.drop j with
   | nil=>rw [hu] at hx;exact hx.elim
   | cons u us' =>
    cases hv:vs.toList.drop j with
    | nil=>rw [hv] at hy;exact hy.elim
    | cons v vs' =>
     have hu1:us.toList[j]? = some u:=by have:=congrArg (fun l=>l[0]?) hu;simpa using this
     have hv1:vs.toList[j]? = some v:=by have:=congrArg (fun l=>l[0]?) hv;simpa using this
     have hu2:us.toList.drop (j+1)=us':=by rw [← List.drop_drop,hu];rfl
     have hv2:vs.toList.drop (j+1)=vs':=by rw [← List.drop_drop,hv];rfl
     rw [hu] at hx
     rw [hv] at hy
     have h1:=part_one (P:=P) (t:=e) he rfl hu1 w1
     have h2:=part_one (P:=P) (t:=e) he rfl hv1 w1
     have h3:=cellEq_ok (P:=P) (d:=d) (t:=e) hp hx.1 hy.1 he rfl w1
     have h4:=eqCells_ok (d:=d) he hi hs w1 (j+1) (by rw [hu2];exact hx.2) (by rw [hv2];exact hy.2) hq
     rw [List.length_cons,List.range'_succ,Op.eqItems,ebAnd_val]
     rw [hc] at h4 ⊢
     simp only [Nat.mul_one,Sem.run_bind,h1,h2,h3,Result.andThen_ok]
     cases p.val
     ·simp
     ·simpa using h4
  ·cases h
 | .int _ _ _ _ :: _,[],_,_,_,_,h=>by simp [eqCells] at h
 | [],_ :: _,_,_,_,_,h=>by simp [eqCells] at h
 | .bool _ :: _,_,_,_,_,_,h=>by simp [eqCells] at h
 | .str _ _ :: _,_,_,_,_,_,h=>by simp [eqCells] at h
 | .err _ :: _,_,_,_,_,_,h=>by simp [eqCells] at h
 | .erc _ :: _,_,_,_,_,_,h=>by simp [eqCells] at h
 | .ptr _ _ :: _,_,_,_,_,_,h=>by simp [eqCells] at h
 | .nilp :: _,_,_,_,_,_,h=>by simp [eqCells] at h
 | .lst _ :: _,_,_,_,_,_,h=>by simp [eqCells] at h
 | .nils :: _,_,_,_,_,_,h=>by simp [eqCells] at h
 | .rd _ _ :: _,_,_,_,_,_,h=>by simp [eqCells] at h
 | .ep _ _ :: _,_,_,_,_,_,h=>by simp [eqCells] at h
 | .rp _ _ _ :: _,_,_,_,_,_,h=>by simp [eqCells] at h
 | .sst _ _ _ :: _,_,_,_,_,_,h=>by simp [eqCells] at h
 | .rds _ _ :: _,_,_,_,_,_,h=>by simp [eqCells] at h
 | .rps _ :: _,_,_,_,_,_,h=>by simp [eqCells] at h
 | .lss _ :: _,_,_,_,_,_,h=>by simp [eqCells] at h
 | .es _ _ _ :: _,_,_,_,_,_,h=>by simp [eqCells] at h
 | .fn _ :: _,_,_,_,_,_,h=>by simp [eqCells] at h
theorem eqInts_ok {P:Program} {d:Nat} {e:TypeId} {i:TypeInfo} {k k0:IntKind} (he:P.underlying e=some (.int k0)) (hi:P.info? e=some i) (hs:i.size=1) {us vs:Array Value} (w1:World):
  ∀ {xs ys:List Int} (j:Nat),us.toList.drop j=xs.map (Value.int k)→vs.toList.drop j=ys.map (Value.int k)→xs.length=ys.length→(Op.eqItems (d+1) e (P.cellsOf e) us vs (List.range' j xs.length)).run P w1 = .ok (xs==ys) w1
 | [],[],j,_,_,_=>by simp [Op.eqItems]
 | x :: xs,y :: ys,j,hx,hy,hl=>by
  have hc:P.cellsOf e=1:=by simp [Program.cellsOf,hi,hs]
  have hu1:us.toList[j]? = some (.int k x):=by have:=congrArg (fun l=>l[0]?) hx;simpa using this
  have hv1:vs.toList[j]? = some (.int k y):=by have:=congrArg (fun l=>l[0]?) hy;simpa using this
  have hu2:us.toList.drop (j+1)=xs.map (Value.int k):=by rw [← List.drop_drop,hx];rfl
  have hv2:vs.toList.drop (j+1)=ys.map (Value.int k):=by rw [← List.drop_drop,hy];rfl
  have h1:=part_one (P:=P) (t:=e) he rfl hu1 w1
  have h2:=part_one (P:=P) (t:=e) he rfl hv1 w1
  have h3:=run_equalIn_int (P:=P) w1 d e k k0 x y he
  have h4:=eqInts_ok (d:=d) he hi hs w1 (j+1) hu2 hv2 (by simpa using hl)
  rw [List.length_cons,List.range'_succ,Op.eqItems]
  rw [hc] at h4 ⊢
  simp only [Nat.mul_one,Sem.run_bind,h1,h2,h3,Result.andThen_ok]
  rw [List.cons_beq_cons]
  cases x==y
  ·simp
  ·simpa using h4
 | [],_ :: _,_,_,_,h=>by simp at h
 | _ :: _,[],_,_,_,h=>by simp at h
def arrEq (P:Program) (t:TypeId) (m:Nat):Bool:=
 bif P.eqGuardType P.depth t then false else (match P.underlying t with
 | some (.array n e)=>(match P.underlying e,P.info? e with
  | some (.int _),some i=>Nat.beq i.size 1&&Nat.beq n m
  | _,_=>false)
 | _=>false)
theorem arrEq_ok {P:Program} {t:TypeId} {m:Nat} (h:arrEq P t m=true) {k:IntKind} {l l':List Int} (hl:l.length=m) (hl':l'.length=m):
  (∀ (op:BinOp) (x y:Operand) (w1:World),(eqGuard op t x y (.agg (l.map (Value.int k)).toArray) (.agg (l'.map (Value.int k)).toArray)).run P w1 = .ok () w1) ∧
  ∀ w1,(Op.equalIn 10000 t (.agg (l.map (Value.int k)).toArray) (.agg (l'.map (Value.int k)).toArray)).run P w1 = .ok (l==l') w1:=by
 unfold arrEq at h
 cases hg:P.eqGuardType P.depth t <;> rw [hg] at h <;> simp only [cond_true,cond_false,Bool.false_eq_true] at h
 refine ⟨fun op x y w1=>run_eqGuard_agg (P:=P) w1 op t x y _ _ hg,fun w1=>?_⟩
 split at h
 ·rename_i n e hu
  split at h
  ·rename_i k0 i he hi
   simp only [Bool.and_eq_true] at h
   have h1:=Nat.eq_of_beq_eq_true h.1
   have h2:=Nat.eq_of_beq_eq_true h.2
   rw [run_equalIn_array (P:=P) w1 9999 _ _ hu hi,List.range_eq_range',h2,← hl]
   exact eqInts_ok (P:=P) (d:=9998) (k:=k) he hi h1 w1 0 (by simp) (by simp) (by omega)
  ·cases h
 ·cases h
theorem eqAgg_ok {C:Cx} {t:TypeId} {xs ys:List Sc} {b:Eb} {us vs:Array Value} (h:popEqAgg E t xs ys=some b) (hx:VSs C xs us.toList) (hy:VSs C ys vs.toList):
  (∀ (op:BinOp) (x y:Operand) (w1:World),(eqGuard op t x y (.agg us) (.agg vs)).run E.P w1 = .ok () w1)∧∀ w1,(Op.equalIn 10000 t (.agg us) (.agg vs)).run E.P w1 = .ok b.val w1:=by
 unfold popEqAgg at h
 cases hg:E.P.eqGuardType E.P.depth t <;> rw [hg] at h <;> simp only [cond_true,cond_false,reduceCtorEq] at h
 refine ⟨fun op x y w1=>run_eqGuard_agg (P:=E.P) w1 op t x y us vs hg,fun w1=>?_⟩
 split at h
 ·rename_i fs hu
  cases hp:E.P.stoodInHeld t <;> rw [hp] at h <;> simp only [cond_true,cond_false,reduceCtorEq] at h
  have hf:E.P.fieldsOf t=fs:=by simp [Program.fieldsOf,hu]
  rw [run_equalIn_struct (P:=E.P) w1 9999 t us vs (by rw [hf];exact hu) hp,hf]
  exact eqFs_ok (d:=9998) hx hy w1 h
 ·rename_i n e hu
  split at h
  ·rename_i k0 i he hi
   obtain ⟨hb,h⟩:=bif_some h
   simp only [Bool.and_eq_true] at hb
   have h1:=Nat.eq_of_beq_eq_true hb.1
   have h2:=Nat.eq_of_beq_eq_true hb.2.1
   rw [run_equalIn_array (P:=E.P) w1 9999 us vs hu hi,List.range_eq_range',h2]
   exact eqCells_ok (P:=E.P) (d:=9998) he hi h1 w1 0 (by simpa using hx) (by simpa using hy) h
  ·cases h
 ·cases h
end
end Go.Proofs.YtbpcfhhcoklinaaGreat.Ab
namespace Go.Proofs.YtbpcfhhcoklinaaGreat.Ab
open Go Go.RowKit
section
variable {β:Type} {E:En} {w0:World} {ok0:Nat→Prop} {gs:List Nat} {ρ:Nat→Nat} {vl:Nat→Value} {σ:St} {a:Act} {w:World}
def isShift:BinOp→Bool
 | .shl | .shr=>true
 | _=>false
def isCst:Operand→Bool
 | .const _=>true
 | _=>false
def isIface (P:Program) (t:TypeId):Bool:=
 match P.underlying t with
 | some (.interface _)=>true
 | _=>false
def isBoolT (P:Program) (t:TypeId):Bool:=
 match P.underlying t with
 | some .bool=>true
 | _=>false
def St.setE (σ:St) (i:Nat) (e:Ee):St:={ σ with es:=σ.es.set i e }
theorem es_same {l:List Ee} {i:Nat} {e e':Ee} (h:l[i]? = some e) (he:e'.val=e.val) (j:Nat) (x:Ee) (hx:l[j]? = some x):∃ x',(l.set i e')[j]? = some x'∧x'.val=x.val:=by
 by_cases hij:i=j
 ·subst hij
  have hlt:i < l.length:=(List.getElem?_eq_some_iff.1 h).1
  rw [h] at hx
  injection hx with hx
  subst hx
  exact ⟨e',by simp [List.getElem?_set,hlt],he⟩
 ·exact ⟨x,by rw [List.getElem?_set_ne hij];exact hx,rfl⟩
theorem cx_setE {i:Nat} {e e':Ee} (h:σ.es[i]? = some e) (he:e'.val=e.val):(cx E w0 ok0 gs ρ vl σ w).Le (cx E w0 ok0 gs ρ vl (σ.setE i e') w):=
 ⟨rfl,Nat.le_refl _,fun _ _=>rfl,fun _ _=>rfl,fun j x hx=>es_same h he j x hx,fun g hg _=>hg,Nat.le_refl _,fun _ _ _=>rfl⟩
theorem BS.le {C D:Cx} (h:C.Le D) (hb:D.base=C.base) {b:Nat} (hlt:b < C.nb) {x:Bl} (hw:∀ g,x.at C.ρ C.vl b=some g→D.w.heap[g]? = C.w.heap[g]?) (hx:BS C b x):BS D b x:=by
 cases x with
 | cells cs t =>
  obtain ⟨h1,vs,h2,h3⟩:=hx
  exact ⟨by rw [h.ρ b hlt];exact Nat.lt_of_lt_of_le h1 h.size,vs,by rw [h.ρ b hlt,hw _ rfl];exact h2,h3.le h⟩
 | ints k t l =>
  obtain ⟨h0,h1⟩:=hx
  refine ⟨h0, ?_⟩
  rw [h.vl b hlt,hb]
  obtain ⟨h2,h3⟩:=h1
  refine ⟨h2, ?_⟩
  rcases h3 with h3 | ⟨g,cap,cur,e1,e2,e3,e4⟩
  ·exact .inl h3
  ·exact .inr ⟨g,cap,cur,e1,e2,by rw [hw g (by simp [Bl.at,e1,Value.ownBlock])];exact e3,e4⟩
 | rows ks t l =>
  obtain ⟨h0,h1⟩:=hx
  refine ⟨h0, ?_⟩
  rw [h.vl b hlt,hb]
  obtain ⟨h2,h3⟩:=h1
  refine ⟨h2, ?_⟩
  rcases h3 with h3 | ⟨g,cap,cur,e1,e2,e3,e4⟩
  ·exact .inl h3
  ·exact .inr ⟨g,cap,cur,e1,e2,by rw [hw g (by simp [Bl.at,e1,Value.ownBlock])];exact e3,e4⟩
 | dead=>trivial
 | mix cs k m l t =>
  obtain ⟨h1,us,h2,h3,h4⟩:=hx
  exact ⟨by rw [h.ρ b hlt];exact Nat.lt_of_lt_of_le h1 h.size,us,by rw [h.ρ b hlt,hw _ rfl];exact h2,h3.le h,h4⟩
theorem bl_lt {b:Nat} {x:Bl} (h:σ.bl[b]? = some x):b < σ.bl.length:=(List.getElem?_eq_some_iff.1 h).1
theorem Rel.setE (hR:Rel E w0 ok0 gs ρ vl σ a w) {i:Nat} {e e':Ee} (h:σ.es[i]? = some e) (he:e'.val=e.val):Rel E w0 ok0 gs ρ vl (σ.setE i e') a w where
 size:=hR.size
 defers:=hR.defers
 tm:=fun t av ht=>⟨(hR.tm t av ht).1,(hR.tm t av ht).2.le (cx_setE h he)⟩
 bl:=fun b x hb=>BS.le (cx_setE h he) rfl (bl_lt hb) (fun _ _=>rfl) (hR.bl b x hb)
 dist:=hR.dist
 own:=hR.own
 bw:=hR.bw
 rc:=hR.rc
def errCase (σ:St) (s:Sc) (Ky:St→Option β) (Kn:St→Int→Option β):Option β:=
 match s with
 | .erc none=>Ky σ
 | .erc (some c)=>Kn σ c
 | .err i=>match σ.es[i]? with
  | some .nil=>Ky σ
  | some (.code c)=>Kn σ c
  | some (.unk e)=>if e.isNone=true then Ky (σ.setE i .nil) else Kn (σ.setE i (.code (e.getD 0))) (e.getD 0)
  | none=>none
 | _=>none
theorem errCase_ok (hR:Rel E w0 ok0 gs ρ vl σ a w) {s:Sc} {Ky:St→Option β} {Kn:St→Int→Option β} {r:β} {v:Value} (hv:VS (cx E w0 ok0 gs ρ vl σ w) s v) (h:errCase σ s Ky Kn=some r):
  ∃ σ',Rel E w0 ok0 gs ρ vl σ' a w∧((v = .nilIface∧Ky σ'=some r)∨(∃ c,v = .iface E.eT (.int .i64 c)∧inK .i64 c∧Kn σ' c=some r)):=by
 unfold errCase at h
 split at h
 ·exact ⟨σ,hR,.inl ⟨hv.1,h⟩⟩
 ·exact ⟨σ,hR,.inr ⟨_,hv.1,hv.2 _ rfl,h⟩⟩
 ·rename_i i
  obtain ⟨e,h1,h2,h3⟩:=hv
  have h1':σ.es[i]? = some e:=h1
  rw [h1'] at h
  cases e with
  | nil=>exact ⟨σ,hR,.inl ⟨h2,h⟩⟩
  | code c=>exact ⟨σ,hR,.inr ⟨_,h2,h3 _ rfl,h⟩⟩
  | unk e =>
   simp only at h
   cases e with
   | none=>exact ⟨_,hR.setE (e':=.nil) h1' rfl,.inl ⟨h2,by simpa using h⟩⟩
   | some c=>exact ⟨_,hR.setE (e':=.code c) h1' rfl,.inr ⟨_,h2,h3 _ rfl,by simpa using h⟩⟩
 ·cases h
def errNil (σ:St) (s:Sc) (Ky Kn:St→Option β):Option β:=errCase σ s Ky (fun σ' _=>Kn σ')
theorem errNil_ok (hR:Rel E w0 ok0 gs ρ vl σ a w) {s:Sc} {Ky Kn:St→Option β} {r:β} {v:Value} (hv:VS (cx E w0 ok0 gs ρ vl σ w) s v) (h:errNil σ s Ky Kn=some r):
  ∃ σ',Rel E w0 ok0 gs ρ vl σ' a w∧((v = .nilIface∧Ky σ'=some r)∨(∃ u,v = .iface E.eT u∧Kn σ'=some r)):=by
 obtain ⟨σ',h1,h2⟩:=errCase_ok hR hv h
 refine ⟨σ',h1, ?_⟩
 rcases h2 with h2 | ⟨c,h2,h3,h4⟩
 ·exact .inl h2
 ·exact .inr ⟨_,h2,h4⟩
theorem isIface_of {P:Program} {t:TypeId} (h:isIface P t=true):∃ ms,P.underlying t=some (.interface ms):=by
 unfold isIface at h
 split at h
 ·exact ⟨_,by assumption⟩
 ·cases h
theorem isBoolT_of {P:Program} {t:TypeId} (h:isBoolT P t=true):P.underlying t=some .bool:=by
 unfold isBoolT at h
 split at h
 ·assumption
 ·cases h
theorem run_nilcmp {P:Program} {t:TypeId} (op:BinOp) (hop:op = .eql∨op = .neq) {ms:Array (String×TypeId)} (hi:P.underlying t=some (.interface ms)) (x y:Operand) (hc:isCst x=true∨isCst y=true) (w1:World):
  ((do eqGuard op t x y .nilIface .nilIface;binOp op t .nilIface .nilIface):Sem Value).run P w1 = .ok (.bool (op == .eql)) w1 ∧
  ∀ d u,((do eqGuard op t x y (.iface d u) .nilIface;binOp op t (.iface d u) .nilIface):Sem Value).run P w1 = .ok (.bool (op == .neq)) w1:=by
 have hg:eqGuard op t x y .nilIface .nilIface=pure ():=by
  rcases hc with hc | hc
  ·cases x <;> simp [isCst] at hc
   exact eqGuard_nil_constL _ _ _ _
  ·cases y <;> simp [isCst] at hc
   exact eqGuard_nil_constR _ _ _ _
 have e1:∀ d:Nat,(Op.equalIn (d+1) t .nilIface .nilIface).run P w1 = .ok true w1:=fun d=>by simp [Op.equalIn,run_underlying hi]
 have e2:∀ (d:Nat) p u,(Op.equalIn (d+1) t (.iface p u) .nilIface).run P w1 = .ok false w1:=fun d p u=>by simp [Op.equalIn,run_underlying hi]
 refine ⟨?_,fun d u=>?_⟩
 ·rw [hg]
  rcases hop with rfl | rfl <;> simp [binOp,Op.equal,Op.maxDepth,e1 9999] <;> rfl
 ·rw [eqGuard_at_iface]
  rcases hop with rfl | rfl <;> simp [binOp,Op.equal,Op.maxDepth,e2 9999] <;> rfl
def codeT (E:En):Bool:=
 match E.P.underlying E.eT,E.P.info? E.eT with
 | some (.int _),some i=>i.comparable
 | _,_=>false
theorem run_codecmp {E:En} {t:TypeId} {ms:Array (String×TypeId)} (hi:E.P.underlying t=some (.interface ms)) (hc:codeT E=true) (w1:World) (c:Int):
  (∀ q:Int,(Op.equalIn 10000 t (.iface E.eT (.int .i64 q)) (.iface E.eT (.int .i64 c))).run E.P w1 = .ok (q==c) w1)∧(Op.equalIn 10000 t .nilIface (.iface E.eT (.int .i64 c))).run E.P w1 = .ok false w1:=by
 unfold codeT at hc
 split at hc
 ·rename_i k i hn hinfo
  have e1:∀ (d:Nat) (q:Int),(Op.equalIn (d+2) t (.iface E.eT (.int .i64 q)) (.iface E.eT (.int .i64 c))).run E.P w1 = .ok (q==c) w1:=fun d q=>by
   simp [Op.equalIn,run_underlying hi,run_underlying hn,typeInfo,hinfo,hc]
  have e2:∀ d:Nat,(Op.equalIn (d+1) t .nilIface (.iface E.eT (.int .i64 c))).run E.P w1 = .ok false w1:=fun d=>by simp [Op.equalIn,run_underlying hi]
  exact ⟨fun q=>e1 9998 q,e2 9999⟩
 ·cases hc
def isPtrT (P:Program) (t:TypeId):Bool:=
 match P.underlying t with
 | some (.pointer _)=>true
 | _=>false
theorem isPtrT_of {P:Program} {t:TypeId} (h:isPtrT P t=true):∃ e,P.underlying t=some (.pointer e):=by
 unfold isPtrT at h
 split at h
 ·exact ⟨_,by assumption⟩
 ·cases h
def ptrNil:Sc→Option Bool
 | .nilp=>some true
 | .ptr _ _=>some false
 | _=>none
theorem ptrNil_ok {C:Cx} {s:Sc} {b:Bool} {v:Value} (h:ptrNil s=some b) (hv:VS C s v):∃ p:Option Addr,v = .pointer p∧p.isNone=b:=by
 unfold ptrNil at h
 split at h
 ·injection h with h
  subst h
  exact ⟨none,hv,rfl⟩
 ·injection h with h
  subst h
  exact ⟨some _,hv.2,rfl⟩
 ·cases h
theorem run_ptrcmp {P:Program} {t e:TypeId} (op:BinOp) (ht:P.underlying t=some (.pointer e)) (x y:Operand) (p:Option Addr) (w1:World):
  (op = .eql→((do eqGuard op t x y (.pointer p) (.pointer none);binOp op t (.pointer p) (.pointer none)):Sem Value).run P w1 = .ok (.bool p.isNone) w1) ∧
  (op = .neq→((do eqGuard op t x y (.pointer p) (.pointer none);binOp op t (.pointer p) (.pointer none)):Sem Value).run P w1 = .ok (.bool (!p.isNone)) w1):=by
 have hg:eqGuard op t x y (.pointer p) (.pointer none)=pure ():=by cases op <;> rfl
 have e1:∀ d:Nat,(Op.equalIn (d+1) t (.pointer p) (.pointer none)).run P w1 = .ok p.isNone w1:=fun d=>by cases p <;> simp [Op.equalIn,run_underlying ht]
 rw [hg]
 refine ⟨?_, ?_⟩ <;> rintro rfl <;> simp [binOp,Op.equal,Op.maxDepth,e1 9999]
def popBin (E:En) (σ:St) (op:BinOp) (t:TypeId) (x y:Operand) (K:AV→St→Option β):Option β:=
 match opd E σ x,opd E σ y with
 | some (.one (.s (.int k p pl ph))),some (.one (.s (.int k' q ql qh)))=>bif decide (k'=k)||isShift op then ibin op k p pl ph q ql qh (fun s=>K (.one (.s s)) σ) else none
 | some (.one (.s (.bool p))),some (.one (.s (.bool q)))=>bif isBoolT E.P t then (match op with
   | .eql=>K (.one (.s (.bool (boolEq p q).bo))) σ
   | .neq=>K (.one (.s (.bool (boolEq p q).nbo))) σ
   | _=>none) else none
 | some (.one (.s (.str p m))),some (.one (.s (.str q n)))=>(match op with
   | .add=>if p.size+q.size≤9223372036854775807 then K (.one (.s (.str (p++q) none))) σ else none
   | .eql=>K (.one (.s (.bool (.lit (p.toList==q.toList))))) σ
   | .neq=>K (.one (.s (.bool (.not (.lit (p.toList==q.toList)))))) σ
   | _=>none)
 | some (.one (.g p)),some (.one (.g q))=>(match op,popEqAgg E t p q with
   | .eql,some e=>K (.one (.s (.bool e.bo))) σ
   | .neq,some e=>K (.one (.s (.bool e.nbo))) σ
   | _,_=>none)
 | some (.one (.s p)),some (.one (.s (.erc none)))=>bif isIface E.P t&&(isCst x||isCst y) then (match op with
   | .eql=>errNil σ p (K (.one (.s (.bool (.cst true))))) (K (.one (.s (.bool (.cst false)))))
   | .neq=>errNil σ p (K (.one (.s (.bool (.cst false))))) (K (.one (.s (.bool (.cst true)))))
   | _=>none) else none
 | some (.one (.s p)),some (.one (.s (.erc (some c))))=>bif isIface E.P t&&codeT E then (match op with
   | .eql=>errCase σ p (K (.one (.s (.bool (.cst false))))) (fun σ' q=>K (.one (.s (.bool (.eq q c)))) σ')
   | .neq=>errCase σ p (K (.one (.s (.bool (.cst true))))) (fun σ' q=>K (.one (.s (.bool (.ne q c)))) σ')
   | _=>none) else none
 | some (.one (.s p)),some (.one (.s .nilp))=>bif isPtrT E.P t then (match op,ptrNil p with
   | .eql,some b=>K (.one (.s (.bool (.cst b)))) σ
   | .neq,some b=>K (.one (.s (.bool (.cst (!b))))) σ
   | _,_=>none) else none
 | _,_=>none
theorem popBin_ok (hR:Rel E w0 ok0 gs ρ vl σ a w) {o:Oper} {op:BinOp} {t yt:TypeId} {x y:Operand} {K:AV→St→Option β} {r:β} (ho:o.op = .binOp op t x y yt) (h:popBin E σ op t x y K=some r):
  PureRes E w0 ok0 gs ρ vl a w o K r:=by
 have hex:∀ w1,(execOp a.eval o).run E.P w1=(((do eqGuard op t x y (a.eval x) (a.eval y);binOp op t (a.eval x) (a.eval y)):Sem Value).run E.P w1).andThen fun v w'=>.ok (.value v) w':=by
  intro w1;simp only [execOp,ho,Sem.run_bind,Sem.run_pure]
 unfold popBin at h
 split at h
 ·rename_i k p pl ph k' q ql qh hx hy
  obtain ⟨hc,h⟩:=bif_some h
  obtain ⟨e1,h1,h2,h3⟩:=opd_ok hR hx
  obtain ⟨e2,h4,h5,h6⟩:=opd_ok hR hy
  have hk:k'=k∨op = .shl∨op = .shr:=by
   rcases Bool.or_eq_true _ _▸hc with hc | hc
   ·exact .inl (of_decide_eq_true hc)
   ·cases op <;> simp [isShift] at hc <;> simp
  obtain ⟨s,v,h7,h8,h9⟩:=ibin_ok E.P (cx E w0 ok0 gs ρ vl σ w) op k p pl ph k' q ql qh _ r t hk h1 h2 h3 h5 h6 h
  exact .mk' hR h7 h8 (fun w1=>by rw [hex,e1,e2,eqGuard_at_int];simp [h9])
 ·rename_i p q hx hy
  obtain ⟨hc,h⟩:=bif_some h
  have ht:=isBoolT_of hc
  have e1:a.eval x = .bool p.val:=opd_ok hR hx
  have e2:a.eval y = .bool q.val:=opd_ok hR hy
  have he:∀ w1,(Op.equalIn 10000 t (.bool p.val) (.bool q.val)).run E.P w1 = .ok (p.val==q.val) w1:=fun w1=>run_equalIn_bool' w1 9999 t _ _ ht
  split at h
  ·refine .mk' hR h (v:=.bool (p.val==q.val)) ?_ (fun w1=>?_)
   ·show _=_;rw [Eb.bo_val,boolEq_val]
   ·rw [hex,e1,e2,eqGuard_at_bool];simp [binOp,Op.equal,Op.maxDepth,he]
  ·refine .mk' hR h (v:=.bool (!(p.val==q.val))) ?_ (fun w1=>?_)
   ·show _=_;rw [Eb.nbo_val,boolEq_val]
   ·rw [hex,e1,e2,eqGuard_at_bool];simp [binOp,Op.equal,Op.maxDepth,he]
  ·cases h
 ·rename_i p m q n hx hy
  obtain ⟨e1,h1,h2⟩:=opd_ok hR hx
  obtain ⟨e2,h3,h4⟩:=opd_ok hR hy
  split at h
  ·split at h
   ·rename_i hle
    refine .mk' hR h (v:=.string (p++q)) ⟨rfl,by rw [ByteArray.size_append];exact hle,by simp⟩ (fun w1=>?_)
    rw [hex,e1,e2,eqGuard_at_string]
    have hmx:IntKind.i64.max=9223372036854775807:=by simp [IntKind.max,IntKind.signed,IntKind.bits]
    simp only [binOp,Op.stringOp,Sem.run_bind,Sem.run_pure,Result.andThen_ok,hmx]
    rw [if_neg (by omega)]
    rfl
   ·cases h
  ·exact .mk' hR h (v:=.bool (p.toList==q.toList)) rfl (fun w1=>by rw [hex,e1,e2,eqGuard_at_string];simp [binOp,Op.stringOp])
  ·exact .mk' hR h (v:=.bool (!(p.toList==q.toList))) rfl (fun w1=>by rw [hex,e1,e2,eqGuard_at_string];simp [binOp,Op.stringOp])
  ·cases h
 ·rename_i p q hx hy
  obtain ⟨us,e1,h1⟩:=opd_ok hR hx
  obtain ⟨vs,e2,h2⟩:=opd_ok hR hy
  split at h
  ·rename_i e he
   obtain ⟨h3,h4⟩:=eqAgg_ok he h1 h2
   refine .mk' hR h (v:=.bool e.val) ?_ (fun w1=>?_)
   ·show _=_;rw [Eb.bo_val]
   ·rw [hex,e1,e2];simp [h3,run_eql_struct,h4]
  ·rename_i e he
   obtain ⟨h3,h4⟩:=eqAgg_ok he h1 h2
   refine .mk' hR h (v:=.bool (!e.val)) ?_ (fun w1=>?_)
   ·show _=_;rw [Eb.nbo_val]
   ·rw [hex,e1,e2];simp [h3,run_neq_struct,h4]
  ·cases h
 ·rename_i p hx hy
  obtain ⟨hc,h⟩:=bif_some h
  simp only [Bool.and_eq_true,Bool.or_eq_true] at hc
  obtain ⟨ms,ht⟩:=isIface_of hc.1
  have e2:a.eval y = .nilIface:=(opd_ok hR hy).1
  have hv:=opd_ok hR hx
  split at h
  ·obtain ⟨σ',h1,h2⟩:=errNil_ok hR hv h
   rcases h2 with ⟨e1,h2⟩ | ⟨u,e1,h2⟩
   ·exact ⟨_, σ',_,h2,h1,(show Value.bool (BinOp.eql==BinOp.eql)=Value.bool true from rfl),fun w1=>by rw [hex,e1,e2,(run_nilcmp .eql (.inl rfl) ht x y hc.2 w1).1];rfl⟩
   ·exact ⟨_, σ',_,h2,h1,(show Value.bool (BinOp.eql==BinOp.neq)=Value.bool false from rfl),fun w1=>by rw [hex,e1,e2,(run_nilcmp .eql (.inl rfl) ht x y hc.2 w1).2];rfl⟩
  ·obtain ⟨σ',h1,h2⟩:=errNil_ok hR hv h
   rcases h2 with ⟨e1,h2⟩ | ⟨u,e1,h2⟩
   ·exact ⟨_, σ',_,h2,h1,(show Value.bool (BinOp.neq==BinOp.eql)=Value.bool false from rfl),fun w1=>by rw [hex,e1,e2,(run_nilcmp .neq (.inr rfl) ht x y hc.2 w1).1];rfl⟩
   ·exact ⟨_, σ',_,h2,h1,(show Value.bool (BinOp.neq==BinOp.neq)=Value.bool true from rfl),fun w1=>by rw [hex,e1,e2,(run_nilcmp .neq (.inr rfl) ht x y hc.2 w1).2];rfl⟩
  ·cases h
 ·rename_i p c hx hy
  obtain ⟨hc,h⟩:=bif_some h
  simp only [Bool.and_eq_true] at hc
  obtain ⟨ms,ht⟩:=isIface_of hc.1
  have e2:a.eval y = .iface E.eT (.int .i64 c):=(opd_ok hR hy).1
  have hv:=opd_ok hR hx
  split at h
  ·obtain ⟨σ',h1,h2⟩:=errCase_ok hR hv h
   rcases h2 with ⟨e1,h2⟩ | ⟨u,e1, -,h2⟩
   ·exact ⟨_, σ',.bool false,h2,h1,(rfl:VS _ (.bool (.cst false)) _),fun w1=>by rw [hex,e1,e2,eqGuard_nil_iface];simp [binOp,Op.equal,Op.maxDepth,(run_codecmp ht hc.2 w1 c).2]⟩
   ·exact ⟨_, σ',.bool (u==c),h2,h1,(rfl:VS _ (.bool (.eq u c)) _),fun w1=>by rw [hex,e1,e2,eqGuard_at_iface];simp [binOp,Op.equal,Op.maxDepth,(run_codecmp ht hc.2 w1 c).1]⟩
  ·obtain ⟨σ',h1,h2⟩:=errCase_ok hR hv h
   rcases h2 with ⟨e1,h2⟩ | ⟨u,e1, -,h2⟩
   ·exact ⟨_, σ',.bool true,h2,h1,(rfl:VS _ (.bool (.cst true)) _),fun w1=>by rw [hex,e1,e2,eqGuard_nil_iface];simp [binOp,Op.equal,Op.maxDepth,(run_codecmp ht hc.2 w1 c).2]⟩
   ·exact ⟨_, σ',.bool (u != c),h2,h1,(rfl:VS _ (.bool (.ne u c)) _),fun w1=>by rw [hex,e1,e2,eqGuard_at_iface];simp [binOp,Op.equal,Op.maxDepth,(run_codecmp ht hc.2 w1 c).1,bne]⟩
  ·cases h
 ·rename_i p hx hy
  have hq:=bif_some h
  clear h
  obtain ⟨hc,h⟩:=hq
  obtain ⟨e,ht⟩:=isPtrT_of hc
  have e2:a.eval y = .pointer none:=opd_ok hR hy
  have hv:=opd_ok hR hx
  split at h
  ·rename_i b hb
   obtain ⟨q,e1,rfl⟩:=ptrNil_ok hb hv
   exact ⟨_, σ,.bool q.isNone,h,hR,rfl,fun w1=>by rw [hex,e1,e2,(run_ptrcmp .eql ht x y q w1).1 rfl];rfl⟩
  ·rename_i b hb
   obtain ⟨q,e1,rfl⟩:=ptrNil_ok hb hv
   exact ⟨_, σ,.bool (!q.isNone),h,hR,rfl,fun w1=>by rw [hex,e1,e2,(run_ptrcmp .neq ht x y q w1).2 rfl];rfl⟩
  ·cases h
 ·cases h
def popConv (E:En) (σ:St) (src dst:TypeId) (x:Operand) (K:AV→St→Option β):Option β:=
 match E.P.underlying src,E.P.underlying dst,opd E σ x with
 | some _,some (.int k),some (.one (.s (.int k' n lo hi)))=>bif decide (k'=k) then K (.one (.s (.int k n lo hi))) σ else K (.one (.s (wrapped k n lo hi))) σ
 | _,_,_=>none
theorem popConv_ok (hR:Rel E w0 ok0 gs ρ vl σ a w) {o:Oper} {src dst:TypeId} {x:Operand} {K:AV→St→Option β} {r:β} (ho:o.op = .convert src dst x) (h:popConv E σ src dst x K=some r):
  PureRes E w0 ok0 gs ρ vl a w o K r:=by
 unfold popConv at h
 split at h
 ·rename_i d k k' n lo hi hs hd hx
  obtain ⟨e1,h1,h2,h3⟩:=opd_ok hR hx
  have hr:∀ w1,(execOp a.eval o).run E.P w1 = .ok (.value (.int k (k.wrap n))) w1:=fun w1=>by
   simp [execOp,ho,e1,convert,run_underlying hs,run_underlying hd,Conv.intToInt]
  cases hk:decide (k'=k) <;> rw [hk] at h
  ·exact .mk' hR h (wrapped_ok _ k n lo hi h2 h3) hr
  ·have hkk:=of_decide_eq_true hk
   subst hkk
   exact .mk' hR h ⟨by rw [wrap_in h1.1 h1.2],h1,h2,h3⟩ hr
 ·cases h
def aggSz (P:Program) (t:TypeId):Option (Bool×Nat):=
 match P.underlying t,P.info? t with
 | some d,some i=>some (d.isRow,i.size)
 | _,_=>none
theorem isAgg_yes {P:Program} {t:TypeId} {d:TypeDesc} (h:P.underlying t=some d) (hd:d.isRow=true) (w1:World):(isAgg t).run P w1 = .ok true w1:=by
 unfold isAgg
 rw [Sem.run_bind,run_underlying h]
 cases d <;> simp_all
def partSc (P:Program) (t:TypeId) (cs:List Sc) (off:Nat):Option A1:=
 match aggSz P t with
 | some (true,n)=>some (.g ((cs.drop off).take n))
 | some (false,_)=>(cs[off]?).map .s
 | none=>none
theorem VSs.drop {C:Cx}:∀ {xs:List Sc} {vs:List Value} (n:Nat),VSs C xs vs→VSs C (xs.drop n) (vs.drop n)
 | _,_,0,h=>by simpa using h
 | [],[],_+1,_=>trivial
 | _ :: _,_ :: _,n+1,h=>by simpa using VSs.drop n h.2
 | [],_ :: _,_,h=>h.elim
 | _ :: _,[],_,h=>h.elim
theorem VSs.take {C:Cx}:∀ {xs:List Sc} {vs:List Value} (n:Nat),VSs C xs vs→VSs C (xs.take n) (vs.take n)
 | _,_,0,_=>by simp [VSs]
 | [],[],_+1,_=>trivial
 | _ :: _,_ :: _,n+1,h=>⟨h.1,VSs.take n h.2⟩
 | [],_ :: _,_,h=>h.elim
 | _ :: _,[],_,h=>h.elim
theorem VSs.append {C:Cx}:∀ {xs ys:List Sc} {us vs:List Value},VSs C xs us→VSs C ys vs→VSs C (xs++ys) (us++vs)
 | [],_,[],_,_,h=>h
 | _ :: _,_,_ :: _,_,h1,h2=>⟨h1.1,VSs.append h1.2 h2⟩
 | [],_,_ :: _,_,h,_=>h.elim
 | _ :: _,_,[],_,h,_=>h.elim
theorem aggSz_of {P:Program} {t:TypeId} {b:Bool} {n:Nat} (h:aggSz P t=some (b,n)):∃ d i,P.underlying t=some d∧P.info? t=some i∧d.isRow=b∧i.size=n:=by
 unfold aggSz at h
 split at h
 ·rename_i d i hd hi
  injection h with h
  injection h with h1 h2
  exact ⟨d,i,hd,hi,h1,h2⟩
 ·cases h
theorem partSc_ok {P:Program} {C:Cx} {t:TypeId} {cs:List Sc} {off:Nat} {x:A1} {us:Array Value} (h:partSc P t cs off=some x) (hv:VSs C cs us.toList):
  ∃ v,V1 C x v∧∀ w1,(part t us off).run P w1 = .ok v w1:=by
 unfold partSc at h
 split at h
 ·rename_i n hs
  injection h with h
  subst h
  obtain ⟨d,i,hd,hi,hr,hn⟩:=aggSz_of hs
  refine ⟨.agg (us.extract off (off+n)),⟨_,rfl, ?_⟩,fun w1=>?_⟩
  ·have:=(hv.drop off).take n
   rw [Array.toList_extract,List.extract_eq_take_drop]
   simpa using this
  ·simp [part,isAgg_yes hd hr,sizeOf,typeInfo,hi,hn]
 ·rename_i n hs
  obtain ⟨d,i,hd,hi,hr,hn⟩:=aggSz_of hs
  cases hc:cs[off]? with
  | none=>rw [hc] at h;cases h
  | some y =>
   rw [hc] at h
   injection h with h
   subst h
   obtain ⟨v,h1,h2⟩:=hv.get hc
   exact ⟨v,h2,fun w1=>part_one hd hr h1 w1⟩
 ·cases h
def popField (E:En) (σ:St) (t:TypeId) (x:Operand) (f:Nat) (K:AV→St→Option β):Option β:=
 match E.P.underlying t,opd E σ x with
 | some (.struct fs),some (.one (.g cs))=>(match fs[f]? with
  | some fd=>match partSc E.P fd.type cs fd.offset with
   | some y=>K (.one y) σ
   | none=>none
  | none=>none)
 | _,_=>none
theorem popField_ok (hR:Rel E w0 ok0 gs ρ vl σ a w) {o:Oper} {t:TypeId} {x:Operand} {f:Nat} {K:AV→St→Option β} {r:β} (ho:o.op = .field t x f) (h:popField E σ t x f K=some r):
  PureRes E w0 ok0 gs ρ vl a w o K r:=by
 unfold popField at h
 split at h
 ·rename_i fs cs ht hx
  obtain ⟨us,e1,h1⟩:=opd_ok hR hx
  split at h
  ·rename_i fd hf
   split at h
   ·rename_i y hy
    obtain ⟨v,h2,h3⟩:=partSc_ok hy h1
    exact .mk' hR h h2 (fun w1=>by simp [execOp,ho,e1,Instr.field,run_underlying ht,hf,asAgg,h3])
   ·cases h
  ·cases h
 ·cases h
def fieldOff (P:Program) (s:TypeId) (f:Nat):Option Nat:=
 match P.underlying s with
 | some (.struct fs)=>(match fs[f]? with
  | some fd=>(match P.info? fd.type with
   | some i=>bif Nat.beq i.size 0 then none else some fd.offset
   | none=>none)
  | none=>none)
 | _=>none
theorem fieldOff_ok {P:Program} {s:TypeId} {f k:Nat} (h:fieldOff P s f=some k) (b o:Nat) (w1:World):
  (Instr.fieldAt s (.pointer (some ⟨b,o,none⟩)) f).run P w1 = .ok (.pointer (some ⟨b,o+k,none⟩)) w1:=by
 unfold fieldOff at h
 split at h
 ·rename_i fs hs
  split at h
  ·rename_i fd hf
   split at h
   ·rename_i i hi
    cases hz:Nat.beq i.size 0 <;> rw [hz] at h <;> simp only [cond_true,cond_false,reduceCtorEq,Option.some.injEq] at h
    subst h
    have hz':i.size≠0:=by intro e;rw [e] at hz;cases hz
    simp [Instr.fieldAt,run_underlying hs,hf,Instr.sureAddr,fieldPlace,sizeOf,typeInfo,hi,hz',Addr.add_mid]
   ·cases h
  ·cases h
 ·cases h
def popFA (E:En) (σ:St) (s:TypeId) (x:Operand) (f:Nat) (K:AV→St→Option β):Option β:=
 match opd E σ x,fieldOff E.P s f with
 | some (.one (.s (.ptr b o))),some k=>K (.one (.s (.ptr b (o+k)))) σ
 | some (.one (.s (.rps cs))),some k=>(match cs[k]? with
  | some c=>K (.one (.s (.cp c))) σ
  | none=>none)
 | _,_=>none
theorem CpVs.get {C:Cx}:∀ {cs:List Cp} {us:List Value} {k:Nat} {c:Cp},CpVs C cs us→cs[k]? = some c→∃ u,us[k]? = some u∧CpV C c u
 | _ :: _,_ :: _,0,_,h,hk=>by simp at hk;subst hk;exact ⟨_,rfl,h.1⟩
 | _ :: _,_ :: _,k+1,_,h,hk=>by
  obtain ⟨u,h1,h2⟩:=CpVs.get (k:=k) h.2 (by simpa using hk)
  exact ⟨u,by simpa using h1,h2⟩
 | [],_,_,_,_,hk=>by simp at hk
 | _ :: _,[],_,_,h,_=>h.elim
theorem popFA_ok (hR:Rel E w0 ok0 gs ρ vl σ a w) {o:Oper} {s:TypeId} {x:Operand} {f:Nat} {K:AV→St→Option β} {r:β} (ho:o.op = .fieldAddr s x f) (h:popFA E σ s x f K=some r):
  PureRes E w0 ok0 gs ρ vl a w o K r:=by
 unfold popFA at h
 split at h
 ·rename_i b o' k hx hf
  obtain ⟨h1,e1⟩:=opd_ok hR hx
  exact .mk' hR h ⟨h1,rfl⟩ (fun w1=>by simp [execOp,ho,e1,fieldOff_ok hf])
 ·rename_i cs k hx hf
  obtain ⟨g,off,e1,h1,h2,us,h3,h4⟩:=opd_ok hR hx
  split at h
  ·rename_i c hc
   obtain ⟨u,h5,h6⟩:=h3.get hc
   exact .mk' hR h ⟨⟨g,off+k,none⟩,u,rfl,h1,h2,h4 k u h5,h6⟩ (fun w1=>by simp [execOp,ho,e1,fieldOff_ok hf])
  ·cases h
 ·cases h
def popMkI (E:En) (σ:St) (t:TypeId) (x:Operand) (K:AV→St→Option β):Option β:=
 match opd E σ x,E.P.underlying t with
 | some (.one (.s (.int .i64 c _ _))),some (.int _)=>bif Nat.beq t E.eT then K (.one (.s (.erc (some c)))) σ else none
 | _,_=>none
theorem popMkI_ok (hR:Rel E w0 ok0 gs ρ vl σ a w) {o:Oper} {t:TypeId} {x:Operand} {K:AV→St→Option β} {r:β} (ho:o.op = .makeInterface t x) (h:popMkI E σ t x K=some r):
  PureRes E w0 ok0 gs ρ vl a w o K r:=by
 unfold popMkI at h
 split at h
 ·rename_i c lo hi k hx ht
  obtain ⟨hb,h⟩:=bif_some h
  obtain ⟨e1,e2, -⟩:=opd_ok hR hx
  have:=Nat.eq_of_beq_eq_true hb
  exact .mk' hR h (v:=.iface t (.int .i64 c)) (show VS _ (.erc (some c)) _ from ⟨by rw [this];rfl,fun q hq=>by injection hq with hq;subst hq;exact e2⟩) (fun w1=>by simp [execOp,ho,e1,Instr.makeInterface,run_underlying ht])
 ·cases h
def popNil (E:En) (σ:St) (x:Operand) (K:AV→St→Option β):Option β:=
 match opd E σ x with
 | some (.one (.s (.ptr b o)))=>K (.one (.s (.ptr b o))) σ
 | some (.one (.s (.ep b i)))=>K (.one (.s (.ep b i))) σ
 | some (.one (.s (.rp k l i)))=>K (.one (.s (.rp k l i))) σ
 | some (.one (.s (.fn f)))=>K (.one (.s (.fn f))) σ
 | _=>none
theorem popNil_ok (hR:Rel E w0 ok0 gs ρ vl σ a w) {o:Oper} {x:Operand} {K:AV→St→Option β} {r:β} (ho:o.op = .nilCheck x) (h:popNil E σ x K=some r):
  PureRes E w0 ok0 gs ρ vl a w o K r:=by
 unfold popNil at h
 split at h
 ·rename_i b o' hx
  have hv:=opd_ok hR hx
  obtain ⟨h1,e1⟩:=hv
  exact .mk' hR h (opd_ok hR hx) (fun w1=>by simp [execOp,ho,e1])
 ·rename_i b i hx
  obtain ⟨h0,A,n,c,h1,h2,h3,e1⟩:=opd_ok hR hx
  exact .mk' hR h (opd_ok hR hx) (fun w1=>by simp [execOp,ho,e1])
 ·rename_i k l i hx
  obtain ⟨h0,hl,A,e1,h2⟩:=opd_ok hR hx
  exact .mk' hR h (opd_ok hR hx) (fun w1=>by simp [execOp,ho,e1])
 ·rename_i f hx
  have e1:a.eval x = .func (.func f) #[] #[]:=opd_ok hR hx
  exact .mk' hR h (opd_ok hR hx) (fun w1=>by simp [execOp,ho,e1])
 ·cases h
end
end Go.Proofs.YtbpcfhhcoklinaaGreat.Ab
