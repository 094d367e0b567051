-- Written by a program of this session out of its own texts (wip/tools/link.py).
import Derived.Below
import Derived.ChangeKeysEq
import Derived.Deep.MidRow
import Derived.Deep.RegionHeld3
import Derived.Great.BuildSlice
import Derived.IntWalk
import Derived.LaidEql
import Derived.Laws.Bits64
import Derived.Laws.BitsLemmas
import Derived.Laws.BytesArg
import Derived.Laws.IdiomCopy
import Derived.Laws.OwnMore
import Derived.Laws.Rows
import Derived.Laws.Slices
import Derived.Laws.StructEq
import Derived.Laws.Tables
import Derived.Maps.AppendAt
import Derived.OrdersHeld
import Derived.RowKit
import Derived.Scope
import Derived.Test.YtbpcfhhcoklinaaGreatCVecInto9
set_option linter.unusedSimpArgs false
set_option linter.unusedVariables false
namespace Go.Proofs.YtbpcfhhcoklinaaGreat.Ab
open Go Go.RowKit
def Ends (P:Program) (R:Exit→Act→World→Prop) (T:List Item) (a:Act) (w:World):Prop:=
 ∀ (b:Frame) (k:List Item) (cs:List Frame),∃ e a' w',R e a' w'∧Arrives P (lone (b.at a (T++k)) cs w) b k cs e a' w'
noncomputable section
variable {P:Program} {R:Exit→Act→World→Prop} {T:List Item} {a:Act} {w:World}
theorem Ends.nil (h:R .normal a w):Ends P R [] a w:=fun b k cs=>⟨.normal,a,w,h,Steps.refl _ _⟩
theorem Ends.ret (h:R .ret a w):Ends P R (.code .ret :: T) a w:=fun b k cs=>⟨.ret,a,w,h,_,.one step_ret⟩
theorem Ends.by {T':List Item} (hs:∀ (b:Frame) (k:List Item) (cs:List Frame),step P (lone (b.at a (T++k)) cs w) = .next (lone (b.at a (T'++k)) cs w)) (h:Ends P R T' a w):Ends P R T a w:=fun b k cs =>
 let ⟨e,a',w',h1,h2⟩:=h b k cs
 ⟨e,a',w',h1,.of_steps (.one (hs b k cs)) h2⟩
def popTo (id:Nat):List Item→Option (List Item)
 | .inBlock id' :: k=>bif Nat.beq id' id then some k else popTo id k
 | _ :: k=>popTo id k
 | []=>none
theorem popTo_exit {id:Nat}:∀ {T T':List Item} (k:List Item),popTo id T=some T'→exitTo id (T++k)=some (T'++k)
 | [],_,_,h=>by cases h
 | x :: T,T',k,h=>by
  cases x with
  | inBlock id' =>
   unfold popTo at h
   cases hb:Nat.beq id' id <;> rw [hb] at h
   ·have hne:(id'==id)=false:=by
     cases h':id'==id
     ·rfl
     ·have:id'=id:=by simpa using h'
      subst this
      rw [Nat.beq_refl] at hb
      cases hb
    simp only [List.cons_append,exitTo,hne]
    exact popTo_exit k h
   ·have:=Nat.eq_of_beq_eq_true hb
    subst this
    simp only [cond_true,Option.some.injEq] at h
    subst h
    simp [exitTo]
  | _=>simp only [List.cons_append,exitTo];exact popTo_exit k h
theorem Ends.region {id:Nat} {ops:Array Oper} {draw:Bool} (h:(Code.region id ops draw).wp P (Goes (Ends P R T)) a w):Ends P R (.code (.region id ops draw) :: T) a w:=fun b k cs=>by
 obtain ⟨e,a1,w1,h1,h2⟩:=h b (T++k) cs
 cases e with
 | normal =>
  obtain ⟨e,a2,w2,h3,h4⟩:=h1 b k cs
  exact ⟨e,a2,w2,h3,.of_steps h2 h4⟩
 | _=>exact h1.elim
end
abbrev Path:=List Nat
abbrev AItem:=Path×Item
def stackAt (root:Code):Path→List AItem
 | []=>[([],.code root)]
 | 0 :: p=>(match stackAt root p with
  | (_,.code (.seq x y)) :: T=>(0 :: p,.code x) :: (1 :: p,.code y) :: T
  | _=>[])
 | 1 :: p=>(match stackAt root p with
  | (_,.code (.seq _ y)) :: T=>(1 :: p,.code y) :: T
  | _=>[])
 | 2 :: p=>(match stackAt root p with
  | (_,.code (.cond _ x _)) :: T=>(2 :: p,.code x) :: T
  | _=>[])
 | 3 :: p=>(match stackAt root p with
  | (_,.code (.cond _ _ y)) :: T=>(3 :: p,.code y) :: T
  | _=>[])
 | 4 :: p=>(match stackAt root p with
  | (_,.code (.block id c)) :: T=>(4 :: p,.code c) :: (5 :: p,.inBlock id) :: T
  | _=>[])
 | 5 :: p=>(match stackAt root p with
  | (_,.code (.block id _)) :: T=>(5 :: p,.inBlock id) :: T
  | _=>[])
 | 6 :: p=>(match stackAt root p with
  | (_,.code (.loop c)) :: T=>(6 :: p,.code c) :: (7 :: p,.inLoop c) :: T
  | _=>[])
 | 7 :: p=>(match stackAt root p with
  | (_,.code (.loop c)) :: T=>(7 :: p,.inLoop c) :: T
  | _=>[])
 | 8 :: p=>(match stackAt root p with
  | (_,.code (.scope c)) :: T=>(8 :: p,.code c) :: (9 :: p,.inScope c) :: T
  | _=>[])
 | 9 :: p=>(match stackAt root p with
  | (_,.code (.scope c)) :: T=>(9 :: p,.inScope c) :: T
  | _=>[])
 | _=>[]
def Good (root:Code):List AItem→Prop
 | []=>True
 | (p,i) :: T=>stackAt root p=(p,i) :: T∧Good root T
def eqP:Path→Path→Bool
 | [],[]=>true
 | x :: xs,y :: ys=>bif Nat.beq x y then eqP xs ys else false
 | _,_=>false
theorem eqP_eq:∀ {p q:Path},eqP p q=true→p=q
 | [],[],_=>rfl
 | x :: xs,y :: ys,h=>by
  unfold eqP at h
  cases hb:Nat.beq x y <;> rw [hb] at h
  ·cases h
  ·rw [Nat.eq_of_beq_eq_true hb,eqP_eq h]
 | [],_ :: _,h=>by cases h
 | _ :: _,[],h=>by cases h
noncomputable section
variable {β:Type}
def lookP:List (Path×(St→Option β))→Path→Option (St→Option β)
 | [],_=>none
 | (q,c) :: r,p=>bif eqP q p then some c else lookP r p
def popToA (id:Nat):List AItem→Option (List AItem)
 | (_,.inBlock id') :: k=>bif Nat.beq id' id then some k else popToA id k
 | _ :: k=>popToA id k
 | []=>none
theorem popToA_good {root:Code} {id:Nat}:∀ {T T':List AItem},Good root T→popToA id T=some T'→Good root T'∧popTo id (T.map (·.2))=some (T'.map (·.2))
 | [],_,_,h=>by cases h
 | (p,x) :: T,T',hg,h=>by
  cases x with
  | inBlock id' =>
   unfold popToA at h
   simp only [List.map_cons,popTo]
   cases hb:Nat.beq id' id <;> rw [hb] at h
   ·exact popToA_good hg.2 h
   ·simp only [cond_true,Option.some.injEq] at h
    subst h
    exact ⟨hg.2,rfl⟩
  | _ =>
   have h':popToA id T=some T':=h
   have h2:=popToA_good (T:=T) hg.2 h'
   exact h2
def walk (E:En) (Γ:List (FuncId×Cn)) (cuts:List (Path×(St→Option β))) (ret:St→Option β):Nat→Bool→List AItem→St→Option β
 | 0,_,_,_=>none
 | n+1,first,T, σ=>match T with
  | []=>ret σ
  | (p,it) :: T'=>(match (bif first then none else lookP cuts p) with
   | some c=>c σ
   | none=>(match it with
    | .code (.seq x y)=>walk E Γ cuts ret n false ((0 :: p,.code x) :: (1 :: p,.code y) :: T') σ
    | .code (.region _ ops draw)=>regionE E Γ ops draw σ (fun σ'=>walk E Γ cuts ret n false T' σ')
    | .code (.cond c x y)=>(match opd E σ c with
     | some (.one (.s (.bool b)))=>b.ite (walk E Γ cuts ret n false ((2 :: p,.code x) :: T') σ) (walk E Γ cuts ret n false ((3 :: p,.code y) :: T') σ)
     | _=>none)
    | .code .skip=>walk E Γ cuts ret n false T' σ
    | .code .ret=>ret σ
    | .code (.block id c)=>walk E Γ cuts ret n false ((4 :: p,.code c) :: (5 :: p,.inBlock id) :: T') σ
    | .inBlock _=>walk E Γ cuts ret n false T' σ
    | .code (.loop c)=>walk E Γ cuts ret n false ((6 :: p,.code c) :: (7 :: p,.inLoop c) :: T') σ
    | .inLoop c=>(match p with
     | 7 :: q=>walk E Γ cuts ret n false ((6 :: q,.code c) :: (7 :: q,.inLoop c) :: T') σ
     | _=>none)
    | .code (.exit id)=>(match popToA id T' with
     | some T2=>walk E Γ cuts ret n false T2 σ
     | none=>none)
    | .code (.scope c)=>walk E Γ cuts ret n false ((8 :: p,.code c) :: (9 :: p,.inScope c) :: T') σ
    | .inScope _=>walk E Γ cuts ret n false T' σ
    | .code (.label _)=>walk E Γ cuts ret n false T' σ
    | _=>none))
variable {E:En} {w0:World} {ok0:Nat→Prop}
def CutsOk (E:En) (w0:World) (ok0:Nat→Prop) (root:Code) (R:β→Exit→Act→World→Prop) (cuts:List (Path×(St→Option β))):Prop:=
 ∀ p c,lookP cuts p=some c→∀ (σ:St) (a:Act) (w:World) (ρ:Nat→Nat) (vl:Nat→Value) (r:β),c σ = some r→Rel E w0 ok0 [] ρ vl σ a w→Ends E.P (R r) ((stackAt root p).map (·.2)) a w
theorem walk_ok {Γ:List (FuncId×Cn)} (hΓ:AllOk E.P E.eT Γ) {root:Code} {R:β→Exit→Act→World→Prop} {cuts:List (Path×(St→Option β))} (hcuts:CutsOk E w0 ok0 root R cuts) {ret:St→Option β}
  (hret:∀ (σ:St) (a:Act) (w:World) (ρ:Nat→Nat) (vl:Nat→Value) (r:β),ret σ = some r→Rel E w0 ok0 [] ρ vl σ a w→R r .ret a w∧R r .normal a w) (r:β):
  ∀ (n:Nat) (first:Bool) (T:List AItem) (σ:St) (a:Act) (w:World) (ρ:Nat→Nat) (vl:Nat→Value),Good root T→Rel E w0 ok0 [] ρ vl σ a w→walk E Γ cuts ret n first T σ = some r→Ends E.P (R r) (T.map (·.2)) a w:=by
 intro n
 induction n with
 | zero=>intro first T σ a w ρ vl _ _ h;cases h
 | succ n ih =>
  intro first T σ a w ρ vl hg hR h
  unfold walk at h
  split at h
  ·exact .nil (hret σ a w ρ vl r h hR).2
  ·rename_i p it T'
   obtain ⟨hp,hgT⟩:=hg
   split at h
   ·rename_i c hc
    cases first
    ·have:=hcuts p c hc σ a w ρ vl r h hR
     rw [hp] at this
     exact this
    ·cases hc
   ·simp only [List.map_cons]
    split at h
    ·rename_i x y
     refine .by (fun b k cs=>step_seq) (ih _ _ _ _ _ _ _ ?_ hR h)
     exact ⟨by simp only [stackAt,hp],by simp only [stackAt,hp],hgT⟩
    ·rename_i id ops draw
     refine .region (regionE_ok hΓ hR (r:=r) (fun σ' a' w' ρ' vl' h1 h2=>ih _ _ _ _ _ _ _ hgT h2 h1) h)
    ·rename_i c x y
     split at h
     ·rename_i b hb
      have hv:a.eval c = .bool b.val:=opd_ok hR hb
      rcases Bo.ite_some h with ⟨h1,h2⟩ | ⟨h1,h2⟩
      ·refine .by (T':=Item.code x :: List.map (fun z:AItem=>z.2) T') (fun b' k cs=>?_) (ih _ _ _ _ _ _ _ ?_ hR h2)
       ·have:=step_cond (P:=E.P) (b:=b') (k:=T'.map (·.2)++k) (cs:=cs) (w:=w) (x:=x) (y:=y) hv
        rw [h1] at this
        exact this
       ·exact ⟨by simp only [stackAt,hp],hgT⟩
      ·refine .by (T':=Item.code y :: List.map (fun z:AItem=>z.2) T') (fun b' k cs=>?_) (ih _ _ _ _ _ _ _ ?_ hR h2)
       ·have:=step_cond (P:=E.P) (b:=b') (k:=T'.map (·.2)++k) (cs:=cs) (w:=w) (x:=x) (y:=y) hv
        rw [h1] at this
        exact this
       ·exact ⟨by simp only [stackAt,hp],hgT⟩
     ·cases h
    ·exact .by (fun b k cs=>step_skip) (ih _ _ _ _ _ _ _ hgT hR h)
    ·exact .ret (hret σ a w ρ vl r h hR).1
    ·rename_i id c
     refine .by (fun b k cs=>step_block) (ih _ _ _ _ _ _ _ ?_ hR h)
     exact ⟨by simp only [stackAt,hp],by simp only [stackAt,hp],hgT⟩
    ·exact .by (fun b k cs=>step_inBlock) (ih _ _ _ _ _ _ _ hgT hR h)
    ·rename_i c
     refine .by (fun b k cs=>step_loop) (ih _ _ _ _ _ _ _ ?_ hR h)
     exact ⟨by simp only [stackAt,hp],by simp only [stackAt,hp],hgT⟩
    ·rename_i c
     split at h
     ·rename_i q
      refine .by (fun b k cs=>step_inLoop) (ih _ _ _ _ _ _ _ ?_ hR h)
      refine ⟨?_,hp,hgT⟩
      simp only [stackAt] at hp ⊢
      split at hp
      ·rename_i p' c' T2 hst
       simp only [List.cons.injEq,Prod.mk.injEq,true_and] at hp
       obtain ⟨h1,h2⟩:=hp
       injection h1 with h1
       subst h1 h2
       rfl
      ·cases hp
     ·cases h
    ·rename_i id
     split at h
     ·rename_i T2 hT
      obtain ⟨h1,h2⟩:=popToA_good hgT hT
      exact .by (fun b k cs=>step_exit (popTo_exit k h2)) (ih _ _ _ _ _ _ _ h1 hR h)
     ·cases h
    ·rename_i c
     refine .by (fun b k cs=>step_scope) (ih _ _ _ _ _ _ _ ?_ hR h)
     exact ⟨by simp only [stackAt,hp],by simp only [stackAt,hp],hgT⟩
    ·exact .by (fun b k cs=>step_inScope) (ih _ _ _ _ _ _ _ hgT hR h)
    ·exact .by (fun b k cs=>step_label) (ih _ _ _ _ _ _ _ hgT hR h)
    ·cases h
end
end Go.Proofs.YtbpcfhhcoklinaaGreat.Ab
namespace Go.Proofs.YtbpcfhhcoklinaaGreat.Ab
open Go Go.RowKit
abbrev WT:List Nat→Type
 | []=>List Int
 | _ :: r=>Int×WT r
abbrev MT:List Sh→List Nat→Type
 | [],ws=>WT ws
 | s :: r,ws=>s.T×MT r ws
def WT.l:(ws:List Nat)→WT ws→List Int
 | [],x=>x
 | _ :: r,x=>WT.l r x.2
def WT.ns:(ws:List Nat)→WT ws→List Int
 | [],_=>[]
 | _ :: r,x=>x.1 :: WT.ns r x.2
def WT.mk:(ws:List Nat)→List Int→List Int→WT ws
 | [],l,_=>l
 | _ :: r,l,ns=>(ns.headD 0,WT.mk r l ns.tail)
def MT.tt:(ss:List Sh)→(ws:List Nat)→MT ss ws→TT ss
 | [],_,_=>()
 | [_],_,x=>x.1
 | _ :: t :: r,ws,x=>(x.1,MT.tt (t :: r) ws x.2)
def MT.w:(ss:List Sh)→(ws:List Nat)→MT ss ws→WT ws
 | [],_,x=>x
 | _ :: r,ws,x=>MT.w r ws x.2
def MT.mk:(ss:List Sh)→(ws:List Nat)→TT ss→WT ws→MT ss ws
 | [],_,_,y=>y
 | [_],_,x,y=>(x,y)
 | _ :: t :: r,ws,x,y=>(x.1,MT.mk (t :: r) ws x.2 y)
theorem WT.l_mk:∀ (ws:List Nat) (l ns:List Int),WT.l ws (WT.mk ws l ns)=l
 | [],_,_=>rfl
 | _ :: r,l,ns=>WT.l_mk r l ns.tail
theorem WT.ns_mk:∀ (ws:List Nat) (l ns:List Int),ns.length=ws.length→WT.ns ws (WT.mk ws l ns)=ns
 | [],_,ns,h=>by cases ns <;> simp_all [WT.ns]
 | _ :: r,l,[],h=>by simp at h
 | _ :: r,l,n :: ns,h=>by show n :: WT.ns r (WT.mk r l ns)=_;rw [WT.ns_mk r l ns (by simpa using h)]
theorem MT.tt_mk:∀ (ss:List Sh) (ws:List Nat) (x:TT ss) (y:WT ws),MT.tt ss ws (MT.mk ss ws x y)=x
 | [],_,_,_=>rfl
 | [_],_,_,_=>rfl
 | _ :: t :: r,ws,x,y=>by show (x.1,MT.tt (t :: r) ws (MT.mk (t :: r) ws x.2 y))=x;rw [MT.tt_mk]
theorem MT.w_mk:∀ (ss:List Sh) (ws:List Nat) (x:TT ss) (y:WT ws),MT.w ss ws (MT.mk ss ws x y)=y
 | [],_,_,_=>rfl
 | [_],_,_,_=>rfl
 | _ :: t :: r,ws,x,y=>MT.w_mk (t :: r) ws x.2 y
inductive Ent where
 | sc (t:Nat) (s:Sh) | ag (t:Nat) (ss:List Sh) | box (t:Nat) (ty:TypeId) (ss:List Sh) | lst (t:Nat) (k:IntKind) (ty:TypeId) | nil (t:Nat)
 | mbw (t:Option Nat) (ty:TypeId) (ss:List Sh) (k:IntKind) (m:Nat) (ws:List Nat)   -- a block with an array at its end;slots that hold rows of that array
 | lss (t:Nat) (ks:List Ck) (ty:TypeId)   -- a list of structs of the call's own
abbrev Ent.T:Ent→Type
 | .sc _ s=>s.T | .ag _ ss=>TT ss | .box _ _ ss=>TT ss | .lst _ _ _=>List Int | .nil _=>Unit | .mbw _ _ ss _ _ ws=>MT ss ws | .lss _ ks _=>List (CT ks)
abbrev ET:List Ent→Type
 | []=>Unit
 | [e]=>e.T
 | e :: f :: r=>e.T×ET (f :: r)
def winT (b o m:Nat):List Nat→List Int→List (Nat×AV)
 | w :: ws,n :: ns=>(w,.one (.s (.win b o m n))) :: winT b o m ws ns
 | _,_=>[]
def ptrT (b:Nat):Option Nat→List (Nat×AV)
 | some t=>[(t,.one (.s (.ptr b 0)))]
 | none=>[]
def mk1 (σ:St):(e:Ent)→e.T→St
 | .sc t s,x=>(match (intern σ.es [s.mk x]).2 with
  | [y]=>{ tm:=(t,.one (.s y)) :: σ.tm,bl:=σ.bl,es:=(intern σ.es [s.mk x]).1 }
  | _=>σ)
 | .ag t ss,x=>{ tm:=(t,.one (.g (intern σ.es (TT.mk ss x)).2)) :: σ.tm,bl:=σ.bl,es:=(intern σ.es (TT.mk ss x)).1 }
 | .box t ty ss,x=>{ tm:=(t,.one (.s (.ptr σ.bl.length 0))) :: σ.tm,bl:=σ.bl++[.cells (intern σ.es (TT.mk ss x)).2 ty],es:=(intern σ.es (TT.mk ss x)).1 }
 | .lst t k ty,l=>{ tm:=(t,.one (.s (.lst σ.bl.length))) :: σ.tm,bl:=σ.bl++[.ints k ty l],es:=σ.es }
 | .nil t,_=>{ tm:=(t,.one (.s .nils)) :: σ.tm,bl:=σ.bl,es:=σ.es }
 | .lss t ks ty,l=>{ tm:=(t,.one (.s (.lss σ.bl.length))) :: σ.tm,bl:=σ.bl++[.rows ks ty l],es:=σ.es }
 | .mbw t ty ss k m ws,x=>{ tm:=(ptrT σ.bl.length t++winT σ.bl.length ss.length m ws (WT.ns ws (MT.w ss ws x))) ++ σ.tm,bl:=σ.bl++[.mix (intern σ.es (TT.mk ss (MT.tt ss ws x))).2 k m (WT.l ws (MT.w ss ws x)) ty],es:=(intern σ.es (TT.mk ss (MT.tt ss ws x))).1 }
def slotB (σ:St):Option Nat→List Nat→Option Nat
 | some t,_=>(match look σ.tm t with
  | some (.one (.s (.ptr b 0)))=>some b
  | _=>none)
 | none,w :: _=>(match look σ.tm w with
  | some (.one (.s (.win b _ _ _)))=>some b
  | _=>none)
 | none,[]=>none
def winsOf (σ:St) (b o m:Nat):List Nat→Option (List Int)
 | []=>some []
 | w :: ws=>(match look σ.tm w,winsOf σ b o m ws with
  | some (.one (.s (.win b' o' m' n))),some ns=>bif Nat.beq b' b&&(Nat.beq o' o&&Nat.beq m' m) then some (n :: ns) else none
  | _,_=>none)
def of1 (σ:St):(e:Ent)→Option (e.T×List Nat)
 | .sc t s=>(match look σ.tm t with
  | some (.one (.s x))=>bif noLst [x] then (s.of σ x).map fun y=>(y,[]) else none
  | _=>none)
 | .ag t ss=>(match look σ.tm t with
  | some (.one (.g cs))=>bif noLst cs then (TT.of σ ss cs).map fun y=>(y,[]) else none
  | _=>none)
 | .box t ty ss=>(match look σ.tm t with
  | some (.one (.s (.ptr b o)))=>(match σ.bl[b]? with
   | some (.cells cs ty')=>bif Nat.beq o 0&&(Nat.beq ty' ty&&noLst cs) then (TT.of σ ss cs).map fun y=>(y,[b]) else none
   | _=>none)
  | _=>none)
 | .lst t k ty=>(match look σ.tm t with
  | some (.one (.s (.lst b)))=>(match σ.bl[b]? with
   | some (.ints k' ty' l)=>bif decide (k'=k)&&Nat.beq ty' ty then some (l,[b]) else none
   | _=>none)
  | some (.one (.s .nils))=>some ([],[])
  | _=>none)
 | .nil t=>(match look σ.tm t with
  | some (.one (.s .nils))=>some ((),[])
  | _=>none)
 | .lss t ks ty=>(match look σ.tm t with
  | some (.one (.s (.lss b)))=>(match σ.bl[b]? with
   | some (.rows ks' ty' l)=>bif Nat.beq ty' ty then (match castL ks ks' l with
    | some l=>some (l,[b])
    | none=>none) else none
   | _=>none)
  | some (.one (.s .nils))=>bif noRow ks&&Nat.blt 0 ks.length then some ([],[]) else none
  | _=>none)
 | .mbw t ty ss k m ws=>(match slotB σ t ws with
  | some b=>(match σ.bl[b]? with
   | some (.mix cs k' m' l ty')=>bif decide (k'=k)&&(Nat.beq m' m&&(Nat.beq ty' ty&&(noLst cs&&Nat.beq cs.length ss.length))) then (match TT.of σ ss cs,winsOf σ b cs.length m ws with
    | some y,some ns=>some (MT.mk ss ws y (WT.mk ws l ns),[b])
    | _,_=>none) else none
   | _=>none)
  | none=>none)
def memN (x:Nat):List Nat→Bool
 | []=>false
 | y :: r=>Nat.beq y x||memN x r
theorem memN_of {x:Nat}:∀ {l:List Nat},memN x l=false→x ∉ l
 | [],_=>by simp
 | y :: r,h=>by
  unfold memN at h
  simp only [Bool.or_eq_false_iff] at h
  intro hm
  rcases List.mem_cons.1 hm with rfl | hm
  ·rw [Nat.beq_refl] at h;cases h.1
  ·exact memN_of h.2 hm
def apartN:List Nat→List Nat→Bool
 | [],_=>true
 | x :: r,l=>!memN x l&&apartN r l
theorem apartN_of {l:List Nat}:∀ {us:List Nat},apartN us l=true→∀ x∈us,x ∉ l
 | [],_,x,hx=>by cases hx
 | y :: r,h,x,hx=>by
  unfold apartN at h
  simp only [Bool.and_eq_true,Bool.not_eq_true'] at h
  rcases List.mem_cons.1 hx with rfl | hx
  ·exact memN_of h.1
  ·exact apartN_of h.2 x hx
def mkE:(es:List Ent)→ET es→St→St
 | [],_, σ=>σ
 | [e],x, σ=>mk1 σ e x
 | e :: f :: r,x, σ=>mkE (f :: r) x.2 (mk1 σ e x.1)
def ofE (σ:St):(es:List Ent)→List Nat→Option (ET es)
 | [],_=>some ()
 | [e],l=>(match of1 σ e with
  | some (x,us)=>bif apartN us l then some x else none
  | none=>none)
 | e :: f :: r,l=>(match of1 σ e with
  | some (x,us)=>bif apartN us l then (match ofE σ (f :: r) (us++l) with
   | some y=>some (x,y)
   | none=>none) else none
  | none=>none)
noncomputable section
variable {E:En} {w0:World} {ok0:Nat→Prop} {gs:List Nat} {ρ:Nat→Nat} {vl:Nat→Value} {σ:St} {a:Act} {w:World}
def xc (E:En) (w0:World) (ok:Nat→Prop) (ρ:Nat→Nat) (vl:Nat→Value) (σ:St) (w:World):Cx:=⟨E.eT,w,w0.heap.size, σ.bl.length, ρ,vl, σ.es,ok⟩
structure Adopt (E:En) (w0:World) (ok0:Nat→Prop) (gs:List Nat) (ρ:Nat→Nat) (vl:Nat→Value) (σ:St) (a:Act) (w:World) (ρ':Nat→Nat) (vl':Nat→Value) (σ':St) (used:List Nat):Prop where
 tm:∀ t av,look σ'.tm t=some av→t < E.N∧VV (xc E w0 (cx E w0 ok0 gs ρ vl σ w).ok ρ' vl' σ' w) av (a.tmps.getD t undef)
 bl:∀ b x, σ'.bl[b]? = some x→BS (xc E w0 (cx E w0 ok0 gs ρ vl σ w).ok ρ' vl' σ' w) b x
 dist:∀ b b' g,liveAt ρ' vl' σ' b g→liveAt ρ' vl' σ' b' g→b=b'
 src:∀ j g,liveAt ρ' vl' σ' j g→∃ b,b∈used∧liveAt ρ vl σ b g
 rc:E.rcv.isSome=true→(σ'.bl=[]∧used=[])∨(0∈used∧0 < σ'.bl.length∧∀ j q,liveAt ρ' vl' σ' j q→(liveAt ρ vl σ 0 q↔j=0))
theorem Adopt.rel (hR:Rel E w0 ok0 gs ρ vl σ a w) {ρ':Nat→Nat} {vl':Nat→Value} {σ':St} {used:List Nat} (h:Adopt E w0 ok0 gs ρ vl σ a w ρ' vl' σ' used) (hne:E.rcv.isSome=true→σ'.bl≠[]):Rel E w0 ok0 gs ρ' vl' σ' a w:=by
 have hle:(xc E w0 (cx E w0 ok0 gs ρ vl σ w).ok ρ' vl' σ' w).Le (cx E w0 ok0 gs ρ' vl' σ' w):=by
  refine ⟨rfl,Nat.le_refl _,fun _ _=>rfl,fun _ _=>rfl,fun i e h=>⟨e,h,rfl⟩, ?_,Nat.le_refl _,fun _ _ _=>rfl⟩
  intro g hg _
  rcases hg with hg | ⟨h1,h1',h2⟩
  ·exact .inl hg
  ·exact .inr ⟨h1,h1',fun j hj=>by obtain ⟨b, -,hb⟩:=h.src j g hj;exact h2 b hb⟩
 exact ⟨hR.size,hR.defers,fun t av ht=>⟨(h.tm t av ht).1,(h.tm t av ht).2.le hle⟩,fun b x hx=>BS.le hle rfl (bl_lt hx) (fun _ _=>rfl) (h.bl b x hx),h.dist,
  fun j g hj=>by
   obtain ⟨b, -,hb⟩:=h.src j g hj
   obtain ⟨⟨h1,h2⟩,h3⟩:=hR.own b g hb
   refine ⟨⟨?_,h2⟩,h3⟩
   rcases h1 with h1 | ⟨rfl,h1⟩
   ·exact .inl h1
   ·rcases h.rc (by rw [h1];rfl) with ⟨h4, -⟩ | ⟨-, -,h4⟩
    ·obtain ⟨y,hy, -⟩:=hj
     rw [h4] at hy
     simp at hy
    ·exact .inr ⟨(h4 j g hj).1 hb,h1⟩,
  hR.bw,fun g hg=>by
   have hs:E.rcv.isSome=true:=by rw [hg];rfl
   rcases h.rc hs with ⟨h4, -⟩ | ⟨-,h5,h4⟩
   ·exact absurd h4 (hne hs)
   ·exact ⟨h5,fun q hq=>(hR.rc g hg).2.1 q ((h4 0 q hq).2 rfl),(hR.rc g hg).2.2⟩⟩
theorem xc_le {ok:Nat→Prop} {ρ' ρ'':Nat→Nat} {vl' vl'':Nat→Value} {σ' σ'':St} (h1:σ'.bl.length≤σ''.bl.length) (h2:∀ b,b < σ'.bl.length→ρ'' b = ρ' b) (h3:∀ b,b < σ'.bl.length→vl'' b=vl' b) (h4:∀ (i:Nat) (e:Ee), σ'.es[i]? = some e→σ''.es[i]? = some e):
  (xc E w0 ok ρ' vl' σ' w).Le (xc E w0 ok ρ'' vl'' σ'' w):=
 ⟨rfl,h1,h2,h3,fun i e h=>⟨e,h4 i e h,rfl⟩,fun _ h _=>h,Nat.le_refl _,fun _ _ _=>rfl⟩
theorem hand_on (hR:Rel E w0 ok0 gs ρ vl σ a w) {ss:List Sh} {cs:List Sc} {x:TT ss} (hl:noLst cs=true) (h:TT.of σ ss cs=some x) {es:List Ee} {D:Cx} (hD:D.eT=E.eT) (hDw:D.w=w) (hDok:D.ok=(cx E w0 ok0 gs ρ vl σ w).ok)
  (hes:D.es=(intern es (TT.mk ss x)).1) {vs:List Value} (hv:VSs (cx E w0 ok0 gs ρ vl σ w) cs vs):VSs D (intern es (TT.mk ss x)).2 vs:=by
 have h1:=TT.of_ok hR (okA:=(cx E w0 ok0 gs ρ vl σ w).ok) (fun g hg=>hg) (.inl hl) h
 have h2:=h1.ok hv
 refine Lift.ok ?_ h2
 refine intern_ok (C:=C0 E.eT w (cx E w0 ok0 gs ρ vl σ w).ok) (D:=D) hD (fun y v _ hy=>?_) (fun i e he=>by rw [hes];exact he)
 refine VS.le (C:=C0 E.eT w (cx E w0 ok0 gs ρ vl σ w).ok) ?_ hy
 refine ⟨hD,Nat.zero_le _,fun b hb=>absurd hb (Nat.not_lt_zero _),fun b hb=>absurd hb (Nat.not_lt_zero _),fun i e he=>by simp [C0] at he,fun g hg _=>by rw [hDok];exact hg,by rw [hDw];exact Nat.le_refl _,fun g _ _=>by rw [hDw];rfl⟩
theorem Adopt.slot {ρ':Nat→Nat} {vl':Nat→Value} {σ':St} {used:List Nat} (h:Adopt E w0 ok0 gs ρ vl σ a w ρ' vl' σ' used) {t:Nat} {y:AV} {es':List Ee} (ht:t < E.N)
  (hes:∀ (i:Nat) (e:Ee), σ'.es[i]? = some e→es'[i]? = some e) (hy:VV (xc E w0 (cx E w0 ok0 gs ρ vl σ w).ok ρ' vl' { tm:=(t,y) :: σ'.tm,bl:=σ'.bl,es:=es' } w) y (a.tmps.getD t undef)):
  Adopt E w0 ok0 gs ρ vl σ a w ρ' vl' { tm:=(t,y) :: σ'.tm,bl:=σ'.bl,es:=es' } used:=by
 have hle:=xc_le (E:=E) (w0:=w0) (w:=w) (ok:=(cx E w0 ok0 gs ρ vl σ w).ok) (ρ':=ρ') (ρ'':=ρ') (vl':=vl') (vl'':=vl') (σ':=σ') (σ'':={ tm:=(t,y) :: σ'.tm,bl:=σ'.bl,es:=es' }) (Nat.le_refl _) (fun _ _=>rfl) (fun _ _=>rfl) hes
 refine ⟨fun t' av h'=>?_,fun b x hx=>BS.le hle rfl (bl_lt (σ:=σ') hx) (fun _ _=>rfl) (h.bl b x hx),h.dist,h.src,h.rc⟩
 simp only [look] at h'
 split at h'
 ·rename_i he
  have he:=Nat.eq_of_beq_eq_true he
  subst he
  injection h' with h'
  subst h'
  exact ⟨ht,hy⟩
 ·exact ⟨(h.tm t' av h').1,(h.tm t' av h').2.le hle⟩
theorem live_new' {ρ':Nat→Nat} {vl':Nat→Value} {σ':St} {nb:Bl} {g:Nat} {v:Value} {tm:List (Nat×AV)} {es:List Ee} {b g':Nat} (h:liveAt (upd ρ' σ'.bl.length g) (upd vl' σ'.bl.length v) { tm:=tm,bl:=σ'.bl++[nb],es:=es } b g'):
  (b < σ'.bl.length∧liveAt ρ' vl' σ' b g')∨(b = σ'.bl.length∧nb.at (upd ρ' σ'.bl.length g) (upd vl' σ'.bl.length v) b=some g'):=live_new (σ:=σ') h
theorem Adopt.block {ρ':Nat→Nat} {vl':Nat→Value} {σ':St} {used us:List Nat} (h:Adopt E w0 ok0 gs ρ vl σ a w ρ' vl' σ' used) {t:Nat} {y:AV} {es':List Ee} {nb:Bl} {g:Nat} {v:Value} (ht:t < E.N)
  (hes:∀ (i:Nat) (e:Ee), σ'.es[i]? = some e→es'[i]? = some e)
  (hnb:BS (xc E w0 (cx E w0 ok0 gs ρ vl σ w).ok (upd ρ' σ'.bl.length g) (upd vl' σ'.bl.length v) { tm:=(t,y) :: σ'.tm,bl:=σ'.bl++[nb],es:=es' } w) σ'.bl.length nb)
  (hy:VV (xc E w0 (cx E w0 ok0 gs ρ vl σ w).ok (upd ρ' σ'.bl.length g) (upd vl' σ'.bl.length v) { tm:=(t,y) :: σ'.tm,bl:=σ'.bl++[nb],es:=es' } w) y (a.tmps.getD t undef))
  (hlive:∀ q,nb.at (upd ρ' σ'.bl.length g) (upd vl' σ'.bl.length v) σ'.bl.length=some q→∃ b,b∈us∧b ∉ used∧liveAt ρ vl σ b q) (hd:∀ b b' q,liveAt ρ vl σ b q→liveAt ρ vl σ b' q→b=b') (h0:E.rcv.isSome=true→used=[]→us=[0]):
  Adopt E w0 ok0 gs ρ vl σ a w (upd ρ' σ'.bl.length g) (upd vl' σ'.bl.length v) { tm:=(t,y) :: σ'.tm,bl:=σ'.bl++[nb],es:=es' } (us++used):=by
 have hle:=xc_le (E:=E) (w0:=w0) (w:=w) (ok:=(cx E w0 ok0 gs ρ vl σ w).ok) (ρ':=ρ') (ρ'':=upd ρ' σ'.bl.length g) (vl':=vl') (vl'':=upd vl' σ'.bl.length v) (σ':=σ') (σ'':={ tm:=(t,y) :: σ'.tm,bl:=σ'.bl++[nb],es:=es' }) (by simp) (fun b hb=>upd_ne (by omega)) (fun b hb=>upd_ne (by omega)) hes
 have hcross:∀ b q,liveAt ρ' vl' σ' b q→nb.at (upd ρ' σ'.bl.length g) (upd vl' σ'.bl.length v) σ'.bl.length=some q→False:=by
  intro b q h1 h2
  obtain ⟨b1,h3,h4⟩:=h.src b q h1
  obtain ⟨b2,h5,h6,h7⟩:=hlive q h2
  exact h6 (hd b1 b2 q h4 h7▸h3)
 refine ⟨fun t' av h'=>?_,fun b x hx=>?_,fun b b' q h1 h2=>?_,fun j q hj=>?_,fun hs=>?_⟩
 ·simp only [look] at h'
  split at h'
  ·rename_i he
   have he:=Nat.eq_of_beq_eq_true he
   subst he
   injection h' with h'
   subst h'
   exact ⟨ht,hy⟩
  ·exact ⟨(h.tm t' av h').1,(h.tm t' av h').2.le hle⟩
 ·rcases Nat.lt_trichotomy b σ'.bl.length with hlt | rfl | hgt
  ·have hx':σ'.bl[b]? = some x:=by rw [← hx];simp [List.getElem?_append_left hlt]
   exact BS.le hle rfl hlt (fun _ _=>rfl) (h.bl b x hx')
  ·have:x=nb:=by simp at hx;exact hx.symm
   subst this
   exact hnb
  ·simp only at hx
   rw [List.getElem?_append_right (by omega),List.getElem?_eq_none (by simp;omega)] at hx
   cases hx
 ·rcases live_new' h1 with ⟨h3,h4⟩ | ⟨rfl,h4⟩ <;> rcases live_new' h2 with ⟨h5,h6⟩ | ⟨rfl,h6⟩
  ·exact h.dist b b' q h4 h6
  ·exact (hcross b q h4 h6).elim
  ·exact (hcross b' q h6 h4).elim
  ·rfl
 ·rcases live_new' hj with ⟨h3,h4⟩ | ⟨rfl,h4⟩
  ·obtain ⟨b,h5,h6⟩:=h.src j q h4
   exact ⟨b,List.mem_append_right _ h5,h6⟩
  ·obtain ⟨b,h5, -,h7⟩:=hlive q h4
   exact ⟨b,List.mem_append_left _ h5,h7⟩
 ·refine .inr ?_
  rcases h.rc hs with ⟨h1,h2⟩ | ⟨h1,h2,h3⟩
  ·have h4:=h0 hs h2
   refine ⟨by rw [h4];simp,by simp,fun j q hj=>?_⟩
   rcases live_new' hj with ⟨h5, -⟩ | ⟨rfl,h5⟩
   ·rw [h1] at h5;simp at h5
   ·obtain ⟨b,h6, -,h7⟩:=hlive q h5
    rw [h4] at h6
    have:b=0:=by simpa using h6
    subst this
    rw [h1]
    exact ⟨fun _=>rfl,fun _=>h7⟩
  ·refine ⟨List.mem_append_right _ h1,by simp,fun j q hj=>?_⟩
   rcases live_new' hj with ⟨-,h5⟩ | ⟨rfl,h5⟩
   ·exact h3 j q h5
   ·obtain ⟨b,h6,h7,h8⟩:=hlive q h5
    refine ⟨fun h9=>?_,fun h9=>by omega⟩
    have:=hd b 0 q h8 h9
    subst this
    exact absurd h1 h7
theorem Adopt.blk {ρ':Nat→Nat} {vl':Nat→Value} {σ':St} {used us:List Nat} (h:Adopt E w0 ok0 gs ρ vl σ a w ρ' vl' σ' used) {es':List Ee} {nb:Bl} {g:Nat} {v:Value}
  (hes:∀ (i:Nat) (e:Ee), σ'.es[i]? = some e→es'[i]? = some e)
  (hnb:BS (xc E w0 (cx E w0 ok0 gs ρ vl σ w).ok (upd ρ' σ'.bl.length g) (upd vl' σ'.bl.length v) { tm:=σ'.tm,bl:=σ'.bl++[nb],es:=es' } w) σ'.bl.length nb)
  (hlive:∀ q,nb.at (upd ρ' σ'.bl.length g) (upd vl' σ'.bl.length v) σ'.bl.length=some q→∃ b,b∈us∧b ∉ used∧liveAt ρ vl σ b q) (hd:∀ b b' q,liveAt ρ vl σ b q→liveAt ρ vl σ b' q→b=b') (h0:E.rcv.isSome=true→used=[]→us=[0]):
  Adopt E w0 ok0 gs ρ vl σ a w (upd ρ' σ'.bl.length g) (upd vl' σ'.bl.length v) { tm:=σ'.tm,bl:=σ'.bl++[nb],es:=es' } (us++used):=by
 have hle:=xc_le (E:=E) (w0:=w0) (w:=w) (ok:=(cx E w0 ok0 gs ρ vl σ w).ok) (ρ':=ρ') (ρ'':=upd ρ' σ'.bl.length g) (vl':=vl') (vl'':=upd vl' σ'.bl.length v) (σ':=σ') (σ'':={ tm:=σ'.tm,bl:=σ'.bl++[nb],es:=es' }) (by simp) (fun b hb=>upd_ne (by omega)) (fun b hb=>upd_ne (by omega)) hes
 have hcross:∀ b q,liveAt ρ' vl' σ' b q→nb.at (upd ρ' σ'.bl.length g) (upd vl' σ'.bl.length v) σ'.bl.length=some q→False:=by
  intro b q h1 h2
  obtain ⟨b1,h3,h4⟩:=h.src b q h1
  obtain ⟨b2,h5,h6,h7⟩:=hlive q h2
  exact h6 (hd b1 b2 q h4 h7▸h3)
 refine ⟨fun t' av h'=>⟨(h.tm t' av h').1,(h.tm t' av h').2.le hle⟩,fun b x hx=>?_,fun b b' q h1 h2=>?_,fun j q hj=>?_,fun hs=>?_⟩
 ·rcases Nat.lt_trichotomy b σ'.bl.length with hlt | rfl | hgt
  ·have hx':σ'.bl[b]? = some x:=by rw [← hx];simp [List.getElem?_append_left hlt]
   exact BS.le hle rfl hlt (fun _ _=>rfl) (h.bl b x hx')
  ·have:x=nb:=by simp at hx;exact hx.symm
   subst this
   exact hnb
  ·simp only at hx
   rw [List.getElem?_append_right (by omega),List.getElem?_eq_none (by simp;omega)] at hx
   cases hx
 ·rcases live_new' h1 with ⟨h3,h4⟩ | ⟨rfl,h4⟩ <;> rcases live_new' h2 with ⟨h5,h6⟩ | ⟨rfl,h6⟩
  ·exact h.dist b b' q h4 h6
  ·exact (hcross b q h4 h6).elim
  ·exact (hcross b' q h6 h4).elim
  ·rfl
 ·rcases live_new' hj with ⟨h3,h4⟩ | ⟨rfl,h4⟩
  ·obtain ⟨b,h5,h6⟩:=h.src j q h4
   exact ⟨b,List.mem_append_right _ h5,h6⟩
  ·obtain ⟨b,h5, -,h7⟩:=hlive q h4
   exact ⟨b,List.mem_append_left _ h5,h7⟩
 ·refine .inr ?_
  rcases h.rc hs with ⟨h1,h2⟩ | ⟨h1,h2,h3⟩
  ·have h4:=h0 hs h2
   refine ⟨by rw [h4];simp,by simp,fun j q hj=>?_⟩
   rcases live_new' hj with ⟨h5, -⟩ | ⟨rfl,h5⟩
   ·rw [h1] at h5;simp at h5
   ·obtain ⟨b,h6, -,h7⟩:=hlive q h5
    rw [h4] at h6
    have:b=0:=by simpa using h6
    subst this
    rw [h1]
    exact ⟨fun _=>rfl,fun _=>h7⟩
  ·refine ⟨List.mem_append_right _ h1,by simp,fun j q hj=>?_⟩
   rcases live_new' hj with ⟨-,h5⟩ | ⟨rfl,h5⟩
   ·exact h3 j q h5
   ·obtain ⟨b,h6,h7,h8⟩:=hlive q h5
    refine ⟨fun h9=>?_,fun h9=>by omega⟩
    have:=hd b 0 q h8 h9
    subst this
    exact absurd h1 h7
theorem Adopt.slots {ρ':Nat→Nat} {vl':Nat→Value} {σ':St} {used:List Nat} (h:Adopt E w0 ok0 gs ρ vl σ a w ρ' vl' σ' used):∀ L:List (Nat×AV),(∀ p,p∈L→p.1 < E.N∧VV (xc E w0 (cx E w0 ok0 gs ρ vl σ w).ok ρ' vl' σ' w) p.2 (a.tmps.getD p.1 undef)) →
  Adopt E w0 ok0 gs ρ vl σ a w ρ' vl' { tm:=L ++ σ'.tm,bl:=σ'.bl,es:=σ'.es } used
 | [],_=>h
 | p :: L,hL=>by
  have h1:=Adopt.slots h L (fun q hq=>hL q (List.mem_cons_of_mem _ hq))
  exact h1.slot (hL p List.mem_cons_self).1 (fun _ _ h=>h) (hL p List.mem_cons_self).2
theorem winsOf_ok {b o m:Nat}:∀ {ws:List Nat} {ns:List Int},winsOf σ b o m ws=some ns→ns.length=ws.length∧∀ b2 p,p∈winT b2 o m ws ns→∃ n,p.2 = .one (.s (.win b2 o m n))∧look σ.tm p.1=some (.one (.s (.win b o m n)))
 | [],ns,h=>by simp only [winsOf,Option.some.injEq] at h;subst h;exact ⟨rfl,fun _ p hp=>by cases hp⟩
 | w :: ws,ns,h=>by
  unfold winsOf at h
  split at h
  ·rename_i b' o' m' n ns' h1 h2
   have hq:=bif_some h
   clear h
   obtain ⟨hc,h⟩:=hq
   simp only [Bool.and_eq_true] at hc
   have c1:=Nat.eq_of_beq_eq_true hc.1
   have c2:=Nat.eq_of_beq_eq_true hc.2.1
   have c3:=Nat.eq_of_beq_eq_true hc.2.2
   subst c1 c2 c3
   injection h with h
   subst h
   obtain ⟨h3,h4⟩:=winsOf_ok h2
   refine ⟨by simp [h3],fun b2 p hp=>?_⟩
   rcases List.mem_cons.1 hp with rfl | hp
   ·exact ⟨n,rfl,h1⟩
   ·exact h4 b2 p hp
  ·cases h
theorem intern_one (es:List Ee) (x:Sc):∃ y,(intern es [x]).2=[y]:=by cases x <;> exact ⟨_,rfl⟩
theorem Adopt.more (hR:Rel E w0 ok0 gs ρ vl σ a w) {ρ':Nat→Nat} {vl':Nat→Value} {σ':St} {used us:List Nat} (h:Adopt E w0 ok0 gs ρ vl σ a w ρ' vl' σ' used) {e:Ent} {x:e.T} (h1:of1 σ e=some (x,us)) (h2:apartN us used=true) (h0:E.rcv.isSome=true→used=[]→us=[0]):
  ∃ ρ'' vl'',Adopt E w0 ok0 gs ρ vl σ a w ρ'' vl'' (mk1 σ' e x) (us++used):=by
 have hap:=apartN_of h2
 cases e with
 | mbw t ty ss k m ws =>
  simp only [of1] at h1
  split at h1
  ·rename_i b hsb
   split at h1
   ·rename_i cs k' m' l ty' hb
    have h10:=bif_some h1
    clear h1
    obtain ⟨hc,h1⟩:=h10
    simp only [Bool.and_eq_true] at hc
    have c1:=of_decide_eq_true hc.1
    have c2:=Nat.eq_of_beq_eq_true hc.2.1
    have c3:=Nat.eq_of_beq_eq_true hc.2.2.1
    have c4:=Nat.eq_of_beq_eq_true hc.2.2.2.2
    subst c1 c2 c3
    split at h1
    ·rename_i z ns hz hns
     simp only [Option.some.injEq,Prod.mk.injEq] at h1
     obtain ⟨rfl,rfl⟩:=h1
     obtain ⟨hnl,hnw⟩:=winsOf_ok hns
     obtain ⟨hB1,vs,hB2,hB3,hB4,hB5⟩:=hR.bl b _ hb
     have hm:mk1 σ' (Ent.mbw t ty' ss k' m' ws) (MT.mk ss ws z (WT.mk ws l ns)) = { tm:=(ptrT σ'.bl.length t++winT σ'.bl.length ss.length m' ws ns) ++ σ'.tm,bl:=σ'.bl++[.mix (intern σ'.es (TT.mk ss z)).2 k' m' l ty'],es:=(intern σ'.es (TT.mk ss z)).1 }:=by
      simp only [mk1,MT.tt_mk,MT.w_mk,WT.l_mk,WT.ns_mk ws l ns hnl]
     rw [hm]
     have hblk:=h.blk (es':=(intern σ'.es (TT.mk ss z)).1) (nb:=.mix (intern σ'.es (TT.mk ss z)).2 k' m' l ty') (us:=[b]) (g:=ρ b) (v:=.nilIface) (intern_mono _ _) ⟨by
       show upd ρ' σ'.bl.length (ρ b) σ'.bl.length < _
       rw [upd_eq];exact hB1,vs,by
       show w.heap[upd ρ' σ'.bl.length (ρ b) σ'.bl.length]? = _
       rw [upd_eq];exact hB2,hand_on hR hc.2.2.2.1 hz (es:=σ'.es) (D:=xc E w0 (cx E w0 ok0 gs ρ vl σ w).ok (upd ρ' σ'.bl.length (ρ b)) (upd vl' σ'.bl.length .nilIface) { tm:=σ'.tm,bl:=σ'.bl++[.mix (intern σ'.es (TT.mk ss z)).2 k' m' l ty'],es:=(intern σ'.es (TT.mk ss z)).1 } w) rfl rfl rfl rfl hB3,hB4,hB5⟩ (fun q hq=>by
       simp only [Bl.at,upd_eq,Option.some.injEq] at hq
       subst hq
       exact ⟨b,by simp,hap b (by simp),⟨_,hb,rfl⟩⟩) hR.dist h0
     refine ⟨_,_,hblk.slots _ (fun p hp=>?_)⟩
     rcases List.mem_append.1 hp with hp | hp
     ·cases t with
      | none=>cases hp
      | some t =>
       have hp:p=(t,.one (.s (.ptr σ'.bl.length 0))):=by simpa [ptrT] using hp
       subst hp
       unfold slotB at hsb
       split at hsb
       ·rename_i t2 _ he
        injection he with he
        subst he
        split at hsb
        ·rename_i b2 hlk
         injection hsb with hsb
         subst hsb
         obtain ⟨ht, -,hv⟩:=hR.tm _ _ hlk
         refine ⟨ht, ?_, ?_⟩
         ·show σ'.bl.length < (σ'.bl++[_]).length
          simp
         ·show _=Value.pointer (some ⟨upd ρ' σ'.bl.length (ρ b2) σ'.bl.length,0,none⟩)
          rw [upd_eq];exact hv
        ·cases hsb
       ·rename_i he;cases he
       ·rename_i he;cases he
     ·obtain ⟨n,hp2,hlk⟩:=hnw _ p (by rw [c4];exact hp)
      obtain ⟨ht, -,hn0,hnm,c,hc',hv⟩:=hR.tm _ _ hlk
      refine ⟨ht, ?_⟩
      rw [hp2]
      refine ⟨?_,hn0,hnm,c,hc', ?_⟩
      ·show σ'.bl.length < (σ'.bl++[_]).length
       simp
      ·show _=Value.slice (some ⟨upd ρ' σ'.bl.length (ρ b) σ'.bl.length,cs.length,none⟩) n.toNat c
       rw [upd_eq];exact hv
    ·cases h1
   ·cases h1
  ·cases h1
 | nil t =>
  simp only [of1] at h1
  split at h1
  ·rename_i hy
   injection h1 with h1
   injection h1 with h1 h3
   subst h3
   obtain ⟨ht,hv⟩:=hR.tm t _ hy
   exact ⟨ρ',vl',h.slot ht (fun _ _ h=>h) hv⟩
  ·cases h1
 | sc t s =>
  simp only [of1] at h1
  split at h1
  ·rename_i y hy
   obtain ⟨hl,h1⟩:=bif_some h1
   cases hx:s.of σ y with
   | none=>rw [hx] at h1;cases h1
   | some z =>
    rw [hx] at h1
    simp only [Option.map_some,Option.some.injEq,Prod.mk.injEq] at h1
    obtain ⟨rfl,rfl⟩:=h1
    obtain ⟨ht,hv⟩:=hR.tm t _ hy
    obtain ⟨q,hq⟩:=intern_one σ'.es (s.mk z)
    refine ⟨ρ',vl', ?_⟩
    have hm:mk1 σ' (Ent.sc t s) z = { tm:=(t,.one (.s q)) :: σ'.tm,bl:=σ'.bl,es:=(intern σ'.es [s.mk z]).1 }:=by simp only [mk1,hq]
    rw [hm]
    refine h.slot ht (intern_mono _ _) ?_
    have hh:=hand_on (ss:=[s]) (x:=z) hR hl (by simpa [TT.of] using hx) (es:=σ'.es) (D:=xc E w0 (cx E w0 ok0 gs ρ vl σ w).ok ρ' vl' { tm:=(t,.one (.s q)) :: σ'.tm,bl:=σ'.bl,es:=(intern σ'.es [s.mk z]).1 } w) rfl rfl rfl rfl (vs:=[a.tmps.getD t undef]) ⟨hv,trivial⟩
    rw [show TT.mk [s] z=[s.mk z] from rfl,hq] at hh
    exact hh.1
  ·cases h1
 | ag t ss =>
  simp only [of1] at h1
  split at h1
  ·rename_i cs hy
   obtain ⟨hl,h1⟩:=bif_some h1
   cases hx:TT.of σ ss cs with
   | none=>rw [hx] at h1;cases h1
   | some z =>
    rw [hx] at h1
    simp only [Option.map_some,Option.some.injEq,Prod.mk.injEq] at h1
    obtain ⟨rfl,rfl⟩:=h1
    obtain ⟨ht,vs,hv,hvs⟩:=hR.tm t _ hy
    refine ⟨ρ',vl',h.slot ht (intern_mono _ _) ⟨vs,hv, ?_⟩⟩
    exact hand_on hR hl hx (es:=σ'.es) (D:=xc E w0 (cx E w0 ok0 gs ρ vl σ w).ok ρ' vl' { tm:=(t,.one (.g (intern σ'.es (TT.mk ss z)).2)) :: σ'.tm,bl:=σ'.bl,es:=(intern σ'.es (TT.mk ss z)).1 } w) rfl rfl rfl rfl hvs
  ·cases h1
 | box t ty ss =>
  simp only [of1] at h1
  split at h1
  ·rename_i b o hy
   split at h1
   ·rename_i cs ty' hb
    have h10:=bif_some h1
    clear h1
    obtain ⟨hc,h1⟩:=h10
    simp only [Bool.and_eq_true] at hc
    have ho:=Nat.eq_of_beq_eq_true hc.1
    have hty:=Nat.eq_of_beq_eq_true hc.2.1
    subst ho hty
    cases hx:TT.of σ ss cs with
    | none=>rw [hx] at h1;cases h1
    | some z =>
     rw [hx] at h1
     simp only [Option.map_some,Option.some.injEq,Prod.mk.injEq] at h1
     obtain ⟨rfl,rfl⟩:=h1
     obtain ⟨ht,hlt,hv⟩:=hR.tm t _ hy
     obtain ⟨hB1,vs,hB2,hB3⟩:=hR.bl b _ hb
     refine ⟨_,_,h.block (g:=ρ b) (v:=.nilIface) ht (intern_mono _ _) ⟨?_,vs, ?_, ?_⟩ ⟨?_, ?_⟩ ?_ hR.dist h0⟩
     ·show upd ρ' σ'.bl.length (ρ b) σ'.bl.length < _
      rw [upd_eq];exact hB1
     ·show w.heap[upd ρ' σ'.bl.length (ρ b) σ'.bl.length]? = _
      rw [upd_eq];exact hB2
     ·exact hand_on hR hc.2.2 hx (es:=σ'.es) (D:=xc E w0 (cx E w0 ok0 gs ρ vl σ w).ok (upd ρ' σ'.bl.length (ρ b)) (upd vl' σ'.bl.length .nilIface) (mk1 σ' (Ent.box t ty' ss) z) w) rfl rfl rfl rfl hB3
     ·show σ'.bl.length < (σ'.bl++[_]).length
      simp
     ·show _=Value.pointer (some ⟨upd ρ' σ'.bl.length (ρ b) σ'.bl.length,0,none⟩)
      rw [upd_eq];exact hv
     ·intro q hq
      simp only [Bl.at,upd_eq,Option.some.injEq] at hq
      subst hq
      exact ⟨b,by simp,hap b (by simp),⟨_,hb,rfl⟩⟩
   ·cases h1
  ·cases h1
 | lst t k ty =>
  simp only [of1] at h1
  split at h1
  ·rename_i b hy
   split at h1
   ·rename_i k' ty' l hb
    have h10:=bif_some h1
    clear h1
    obtain ⟨hc,h1⟩:=h10
    simp only [Bool.and_eq_true] at hc
    have hk:=of_decide_eq_true hc.1
    have hty:=Nat.eq_of_beq_eq_true hc.2
    subst hk hty
    simp only [Option.some.injEq,Prod.mk.injEq] at h1
    obtain ⟨rfl,rfl⟩:=h1
    obtain ⟨ht,hlt,hv,hsl⟩:=hR.tm t _ hy
    have hB:=hR.bl b _ hb
    refine ⟨_,_,h.block (g:=0) (v:=vl b) ht (fun i e h=>h) ⟨hB.1, ?_⟩ ⟨?_, ?_,hsl⟩ ?_ hR.dist h0⟩
    ·show w.ownsRow w0.heap.size ty' 1 (upd vl' σ'.bl.length (vl b) σ'.bl.length) l.length _
     rw [upd_eq];exact hB.2
    ·show σ'.bl.length < (σ'.bl++[_]).length
     simp
    ·show _=upd vl' σ'.bl.length (vl b) σ'.bl.length
     rw [upd_eq];exact hv
    ·intro q hq
     simp only [Bl.at,upd_eq] at hq
     exact ⟨b,by simp,hap b (by simp),⟨_,hb,hq⟩⟩
   ·cases h1
  ·rename_i hy
   simp only [Option.some.injEq,Prod.mk.injEq] at h1
   obtain ⟨rfl,rfl⟩:=h1
   obtain ⟨ht,hv⟩:=hR.tm t _ hy
   have hv':a.tmps.getD t undef = .slice none 0 0:=hv
   refine ⟨_,_,h.block (us:=[]) (g:=0) (v:=.slice none 0 0) ht (fun i e h=>h) ⟨⟨by simp,by simp⟩, ?_⟩ ⟨?_, ?_,none,0,0,hv'⟩ ?_ hR.dist h0⟩
   ·show w.ownsRow w0.heap.size ty 1 (upd vl' σ'.bl.length (.slice none 0 0) σ'.bl.length) 0 _
    rw [upd_eq];exact World.ownsRow_nil _ _ _ _
   ·show σ'.bl.length < (σ'.bl++[_]).length
    simp
   ·show _=upd vl' σ'.bl.length (.slice none 0 0) σ'.bl.length
    rw [upd_eq];exact hv'
   ·intro q hq
    simp [Bl.at,upd_eq,Value.ownBlock] at hq
  ·cases h1
 | lss t ks ty =>
  simp only [of1] at h1
  split at h1
  ·rename_i b hy
   split at h1
   ·rename_i ks' ty' l' hb'
    have h10:=bif_some h1
    clear h1
    obtain ⟨hc,h1⟩:=h10
    have hty:=Nat.eq_of_beq_eq_true hc
    subst hty
    split at h1
    ·rename_i l hcl
     have hb:σ.bl[b]? = some (.rows ks ty' l):=by
      unfold castL at hcl
      split at hcl
      ·rename_i he
       subst he
       injection hcl with hcl
       subst hcl
       exact hb'
      ·cases hcl
     simp only [Option.some.injEq,Prod.mk.injEq] at h1
     obtain ⟨rfl,rfl⟩:=h1
     obtain ⟨ht,hlt,hv,hsl⟩:=hR.tm t _ hy
     have hB:=hR.bl b _ hb
     refine ⟨_,_,h.block (g:=0) (v:=vl b) ht (fun i e h=>h) ⟨hB.1, ?_⟩ ⟨?_, ?_,hsl⟩ ?_ hR.dist h0⟩
     ·show w.ownsRow w0.heap.size ty' ks.length (upd vl' σ'.bl.length (vl b) σ'.bl.length) l.length _
      rw [upd_eq];exact hB.2
     ·show σ'.bl.length < (σ'.bl++[_]).length
      simp
     ·show _=upd vl' σ'.bl.length (vl b) σ'.bl.length
      rw [upd_eq];exact hv
     ·intro q hq
      simp only [Bl.at,upd_eq] at hq
      exact ⟨b,by simp,hap b (by simp),⟨_,hb,hq⟩⟩
    ·cases h1
   ·cases h1
  ·rename_i hy
   have h10:=bif_some h1
   clear h1
   obtain ⟨hc,h1⟩:=h10
   simp only [Bool.and_eq_true] at hc
   simp only [Option.some.injEq,Prod.mk.injEq] at h1
   obtain ⟨rfl,rfl⟩:=h1
   obtain ⟨ht,hv⟩:=hR.tm t _ hy
   have hv':a.tmps.getD t undef = .slice none 0 0:=hv
   refine ⟨_,_,h.block (us:=[]) (g:=0) (v:=.slice none 0 0) ht (fun i e h=>h) ⟨⟨by simp,⟨hc.1,Nat.le_of_ble_eq_true hc.2⟩,by simp⟩, ?_⟩ ⟨?_, ?_,none,0,0,hv'⟩ ?_ hR.dist h0⟩
   ·show w.ownsRow w0.heap.size ty ks.length (upd vl' σ'.bl.length (.slice none 0 0) σ'.bl.length) 0 _
    rw [upd_eq];exact World.ownsRow_nil _ _ _ _
   ·show σ'.bl.length < (σ'.bl++[_]).length
    simp
   ·show _=upd vl' σ'.bl.length (.slice none 0 0) σ'.bl.length
    rw [upd_eq];exact hv'
   ·intro q hq
    simp [Bl.at,upd_eq,Value.ownBlock] at hq
  ·cases h1
def rcvOk (E:En) (σ:St) (es:List Ent):Bool:=
 match E.rcv with
 | none=>true
 | some _=>(match es with
  | e :: _=>(match of1 σ e with
   | some (_,[b])=>Nat.beq b 0
   | _=>false)
  | []=>false)
theorem first_us {e:Ent} {r:List Ent} {used us:List Nat} {y:e.T} (h0:used≠[]∨rcvOk E σ (e :: r)=true) (hy:of1 σ e=some (y,us)):E.rcv.isSome=true→used=[]→us=[0]:=by
 intro hs hu
 rcases h0 with h0 | h0
 ·exact absurd hu h0
 ·unfold rcvOk at h0
  split at h0
  ·rename_i hn;rw [hn] at hs;cases hs
  ·simp only [hy] at h0
   split at h0
   ·rename_i b he
    injection he with he
    injection he with he1 he2
    rw [he2,Nat.eq_of_beq_eq_true h0]
   ·cases h0
theorem Adopt.all (hR:Rel E w0 ok0 gs ρ vl σ a w):∀ {es:List Ent} {x:ET es} {ρ':Nat→Nat} {vl':Nat→Value} {σ':St} {used:List Nat},Adopt E w0 ok0 gs ρ vl σ a w ρ' vl' σ' used→(used≠[]∨rcvOk E σ es=true)→ofE σ es used=some x →
  ∃ ρ'' vl'' used',Adopt E w0 ok0 gs ρ vl σ a w ρ'' vl'' (mkE es x σ') used'∧(E.rcv.isSome=true→used'≠[])
 | [],x, ρ',vl', σ',used,h,h0,_=>⟨ρ',vl',used,h,fun hs=>by
   rcases h0 with h0 | h0
   ·exact h0
   ·unfold rcvOk at h0;split at h0
    ·rename_i hn;rw [hn] at hs;cases hs
    ·cases h0⟩
 | [e],x, ρ',vl', σ',used,h,h0,hx=>by
  unfold ofE at hx
  split at hx
  ·rename_i y us hy
   obtain ⟨hc,hx⟩:=bif_some hx
   injection hx with hx
   subst hx
   have hus:=first_us h0 hy
   obtain ⟨ρ2,vl2,h2⟩:=h.more hR hy hc hus
   refine ⟨ρ2,vl2,_,h2,fun hs he=>?_⟩
   obtain ⟨h3,h4⟩:=List.append_eq_nil_iff.1 he
   rw [hus hs h4] at h3
   cases h3
  ·cases hx
 | e :: f :: r,x, ρ',vl', σ',used,h,h0,hx=>by
  unfold ofE at hx
  split at hx
  ·rename_i y us hy
   obtain ⟨hc,hx⟩:=bif_some hx
   split at hx
   ·rename_i z hz
    injection hx with hx
    subst hx
    have hus:=first_us h0 hy
    obtain ⟨ρ2,vl2,h2⟩:=h.more hR hy hc hus
    refine Adopt.all (es:=f :: r) hR h2 ?_ hz
    cases hs:E.rcv with
    | none=>exact .inr (by unfold rcvOk;rw [hs])
    | some g =>
     refine .inl fun he=>?_
     obtain ⟨h3,h4⟩:=List.append_eq_nil_iff.1 he
     rw [hus (by rw [hs];rfl) h4] at h3
     cases h3
   ·cases hx
  ·cases hx
def St.nil:St:=⟨[],[],[]⟩
theorem ofE_ok (hR:Rel E w0 ok0 gs ρ vl σ a w) {es:List Ent} {x:ET es} (h:(bif rcvOk E σ es then ofE σ es [] else none)=some x):∃ ρ' vl',Rel E w0 ok0 gs ρ' vl' (mkE es x St.nil) a w:=by
 obtain ⟨hok,h⟩:=bif_some h
 have h0:Adopt E w0 ok0 gs ρ vl σ a w ρ vl St.nil []:=by
  refine ⟨fun t av h=>by simp [St.nil,look] at h,fun b x h=>by simp [St.nil] at h, ?_, ?_,fun _=>.inl ⟨rfl,rfl⟩⟩
  ·rintro b b' g ⟨y,hy, -⟩;simp [St.nil] at hy
  ·rintro b g ⟨y,hy, -⟩;simp [St.nil] at hy
 obtain ⟨ρ',vl',used,h1,h2⟩:=Adopt.all hR h0 (.inr hok) h
 refine ⟨ρ',vl',h1.rel hR fun hs he=>?_⟩
 rcases h1.rc hs with ⟨-,h3⟩ | ⟨-,h3, -⟩
 ·exact h2 hs h3
 ·rw [he] at h3;simp at h3
def frz1 (σ:St):Ent→St
 | .sc t (.rd _)=>(match look σ.tm t with
  | some (.one (.s (.lst b)))=>(match σ.bl[b]? with
   | some (.ints k _ l)=>σ.thaw b k l
   | _=>σ)
  | _=>σ)
 | .sc t (.rds _)=>(match look σ.tm t with
  | some (.one (.s (.lss b)))=>(match σ.bl[b]? with
   | some (.rows ks _ l)=>σ.thawS b ks l
   | _=>σ)
  | _=>σ)
 | _=>σ
theorem frz1_ok (hR:Rel E w0 ok0 gs ρ vl σ a w) (e:Ent):Rel E w0 ok0 gs ρ vl (frz1 σ e) a w:=by
 unfold frz1
 split
 ·rename_i t k
  split
  ·rename_i b hb
   split
   ·rename_i k' ty l hbl
    exact (hR.thaw hbl).1
   ·exact hR
  ·exact hR
 ·rename_i t k
  split
  ·rename_i b hb
   split
   ·rename_i ks ty l hbl
    exact (hR.thawS hbl).1
   ·exact hR
  ·exact hR
 ·exact hR
def frzE:List Ent→St→St
 | [], σ=>σ
 | e :: r, σ=>frzE r (frz1 σ e)
theorem frzE_ok:∀ (es:List Ent) (σ:St),Rel E w0 ok0 gs ρ vl σ a w→Rel E w0 ok0 gs ρ vl (frzE es σ) a w
 | [],_,hR=>hR
 | e :: r,_,hR=>frzE_ok r _ (frz1_ok hR e)
end
end Go.Proofs.YtbpcfhhcoklinaaGreat.Ab
namespace Go.Proofs.YtbpcfhhcoklinaaGreat.Ab
open Go Go.RowKit
noncomputable section
variable {E:En} {w0:World} {ok0:Nat→Prop} {gs:List Nat} {ρ:Nat→Nat} {vl:Nat→Value} {σ:St} {a:Act} {w:World}
def resSc (E:En) (σ:St):List ResultVar→Option (List A1)
  | []=>some []
  | .tmp t :: r=>(match look σ.tm t,resSc E σ r with
    | some (.one y),some ys=>some (y :: ys)
    | _,_=>none)
  | .cell p ty :: r=>(match look σ.tm p with
    | some (.one (.s (.ptr b o)))=>(match σ.bl[b]? with
      | some (.cells cs _)=>(match partLd E.P ty cs o,resSc E σ r with
        | some y,some ys=>some (y :: ys)
        | _,_=>none)
      | some (.mix cs k m l _)=>(match partMx E.P ty cs k m l o,resSc E σ r with
        | some y,some ys=>some (y :: ys)
        | _,_=>none)
      | _=>none)
    | _=>none)
theorem resSc_ok (hR : Rel E w0 ok0 gs ρ vl σ a w) : ∀ {l : List ResultVar} {ys : List A1}, resSc E σ l = some ys →
    ∃ vs,V1s (cx E w0 ok0 gs ρ vl σ w) ys vs∧(l.mapM (m:=Sem) (fun | .tmp t=>pure (a.tmps.getD t undef) | .cell p t=>do loadVar t (← asAddr (a.tmps.getD p undef)))).run E.P w = .ok vs w
  | [],ys,h=>by simp only [resSc,Option.some.injEq] at h;subst h;exact ⟨[],trivial,by simp⟩
  | .tmp t :: r,ys,h=>by
    unfold resSc at h
    split at h
    · rename_i y zs hy hz
      injection h with h
      subst h
      obtain ⟨vs,h1,h2⟩:=resSc_ok hR hz
      exact ⟨_ :: vs,⟨(hR.tm t _ hy).2,h1⟩,by rw [List.mapM_cons];simp only [Sem.run_bind,Sem.run_pure,Result.andThen_ok,h2]⟩
    · cases h
  | .cell p ty :: r,ys,h=>by
    unfold resSc at h
    split at h
    · rename_i b o hp
      split at h
      · rename_i cs t0 hb
        split at h
        · rename_i y zs hy hz
          injection h with h
          subst h
          obtain ⟨vs,h1,h2⟩:=resSc_ok hR hz
          obtain ⟨-,hlt,hv⟩:=hR.tm p _ hp
          obtain ⟨hB1,us,hB2,hB3⟩:=hR.bl b _ hb
          obtain ⟨v,h3,h4⟩:=partLd_ok (g:=ρ b) (t0:=t0) hy hB3
          have hv':a.tmps.getD p undef = .pointer (some ⟨ρ b,o,none⟩):=hv
          have h5:=h4 w hB2
          simp only [Instr.loadAt,Instr.sureAddr,Sem.run_bind,Sem.run_pure,Result.andThen_ok] at h5
          refine ⟨v :: vs,⟨h3,h1⟩, ?_⟩
          have h6:(asAddr (a.tmps.getD p undef)).run E.P w = .ok ⟨ρ b,o,none⟩ w:=by rw [hv'];rfl
          rw [List.mapM_cons]
          simp only [Sem.run_bind,Sem.run_pure,Result.andThen_ok,h6,h5,h2]
        · cases h
      · rename_i cs k m l t0 hb
        split at h
        · rename_i y zs hy hz
          injection h with h
          subst h
          obtain ⟨vs,h1,h2⟩:=resSc_ok hR hz
          obtain ⟨-,hlt,hv⟩:=hR.tm p _ hp
          obtain ⟨hB1,hmx⟩:=hR.bl b _ hb
          obtain ⟨us,hB2,hB3,hB4,hB5⟩:=hmx
          obtain ⟨v,h3,h4⟩:=partMx_ok (g:=ρ b) (t0:=t0) hy hB3 hB4 hB5
          have hv':a.tmps.getD p undef = .pointer (some ⟨ρ b,o,none⟩):=hv
          have h5:=h4 w hB2
          simp only [Instr.loadAt,Instr.sureAddr,Sem.run_bind,Sem.run_pure,Result.andThen_ok] at h5
          refine ⟨v :: vs,⟨h3,h1⟩, ?_⟩
          have h6:(asAddr (a.tmps.getD p undef)).run E.P w = .ok ⟨ρ b,o,none⟩ w:=by rw [hv'];rfl
          rw [List.mapM_cons]
          simp only [Sem.run_bind,Sem.run_pure,Result.andThen_ok,h6,h5,h2]
        · cases h
      · cases h
    · cases h
def noRdS:List Sh→Bool
  | []=>true
  | .rd _ :: _=>false
  | .clo _ _ :: _=>false
  | .cp _ :: _=>false
  | .rds _ :: _=>false
  | _ :: r=>noRdS r
theorem noRd_lift {eT:TypeId} {w:World} {ok1 ok2:Nat→Prop}:∀ {ss:List Sh} {x:TT ss},noRdS ss=true→Lift (C0 eT w ok1) (C0 eT w ok2) (TT.mk ss x) (TT.mk ss x)
  | [],_,_=>trivial
  | [s],x,h=>by
    refine ⟨fun v hv=>?_,trivial⟩
    cases s <;> first | exact hv | simp [noRdS] at h
  | s :: t :: r,x,h=>by
    refine ⟨fun v hv=>?_,noRd_lift (ss:=t :: r) ?_⟩
    · cases s <;> first | exact hv | simp [noRdS] at h
    · cases s <;> simp [noRdS] at h ⊢ <;> exact h
structure Sig where
  ag:List Ag
  sa:List Sh
  tup:Bool
  rg:List Ag
  sb:List Sh
  al:Bool
def Sig.con (s:Sig) (F:TT s.sa→Option (TT s.sb)):Con:=⟨s.ag,s.sa,s.tup,s.rg,s.sb,s.al,F⟩
def retE (E:En) (rs:List ResultVar) (s:Sig) (σ:St):Option (TT s.sb):=
  match resSc E σ rs with
  | some l=>bif (bif s.tup then !Nat.beq l.length 1 else Nat.beq l.length 1)&&(s.al||noRdS s.sb) then (match ungroup s.rg l with
    | some cs=>TT.of σ s.sb cs
    | none=>none) else none
  | none=>none
theorem V1s.one {C:Cx}:∀ {l:List A1} {vs:List Value},V1s C l vs→l.length=vs.length:=V1s.length
theorem group_len:∀ (ag:List Ag) (cs:List Sc),(group ag cs).length≤ag.length
  | [],_=>Nat.le_refl _
  | .s :: r,x :: xs=>by simpa [group] using group_len r xs
  | .s :: _,[]=>by simp [group]
  | .g n :: r,xs=>by simpa [group] using group_len r (xs.drop n)
theorem retE_ok {fn : Func} {s : Sig} (hR : Rel E w0 ok0 [] ρ vl σ a w) {r : TT s.sb} (h : retE E fn.results.toList s σ = some r) :
    ∃ v,(results fn a.tmps).run E.P w = .ok v w∧(∃ y,resAV s.tup s.rg (TT.mk s.sb r)=some y∧VV (C0 E.eT w (okRes s.al w0 ok0)) y v):=by
  unfold retE at h
  split at h
  · rename_i l hl
    obtain ⟨hc,h⟩:=bif_some h
    simp only [Bool.and_eq_true] at hc
    split at h
    · rename_i cs hcs
      obtain ⟨vs,h1,h2⟩:=resSc_ok hR hl
      have hlen:=h1.length
      have hlift:Lift (cx E w0 ok0 [] ρ vl σ w) (C0 E.eT w (okRes s.al w0 ok0)) cs (TT.mk s.sb r):=by
        cases hal:s.al
        · have h3:=TT.of_ok hR (okA:=fun _=>True) (fun _ _=>trivial) (.inr fun _ _ _=>trivial) h
          refine h3.trans (noRd_lift ?_)
          have:=hc.2
          rw [hal] at this
          simpa using this
        · refine TT.of_ok' hR (fun g hg=>?_) (.inr ⟨fun b k t l g hb hg=>?_,fun b k t l g hb hg=>?_⟩) h
          · rcases hg with ⟨h4,h5⟩ | ⟨h4, -⟩
            · exact .inl ⟨rfl,h4,h5⟩
            · exact .inr h4
          · exact .inr ((hR.bl b _ hb).2.lt g hg).1
          · exact .inr ((hR.bl b _ hb).2.lt g hg).1
      have h3:=group_ok hcs h1 hlift
      have hres:(results fn a.tmps).run E.P w = .ok (if h:vs.toArray.size=1 then vs.toArray[0] else .tuple vs.toArray) w:=by
        unfold results
        rw [Array.mapM_eq_mapM_toList]
        simp only [Sem.run_bind,Sem.run_map,Sem.run_pure]
        have hz:∀ z:Result (List Value),z = .ok vs w→((z.andThen fun a w'=>Result.ok a.toArray w').andThen fun a w'=>Result.ok (if h:a.size=1 then a[0] else Value.tuple a) w') = .ok (if h:vs.toArray.size=1 then vs.toArray[0] else .tuple vs.toArray) w:=by
          rintro _ rfl;rfl
        exact hz _ h2
      refine ⟨_,hres, ?_⟩
      have hg:=h3.length
      cases ht:s.tup
      · have hc1:=hc.1
        rw [ht] at hc1
        have hl1:=Nat.eq_of_beq_eq_true hc1
        have hv1:vs.length=1:=by omega
        obtain ⟨v,rfl⟩:=List.length_eq_one_iff.1 hv1
        obtain ⟨y,hy⟩:=List.length_eq_one_iff.1 (show (group s.rg (TT.mk s.sb r)).length=1 by omega)
        refine ⟨.one y,by unfold resAV;rw [hy];rfl, ?_⟩
        rw [hy] at h3
        exact h3.1
      · have hc1:=hc.1
        rw [ht] at hc1
        have hl1:l.length≠1:=by intro e;rw [e] at hc1;cases hc1
        have hne:¬ vs.toArray.size=1:=by simp;omega
        exact ⟨.tup (group s.rg (TT.mk s.sb r)),rfl,vs.toArray,by rw [dif_neg hne],by simpa using h3⟩
    · cases h
  · cases h
end
def tm0:Nat→List A1→List (Nat×AV)
  | _,[]=>[]
  | i,y :: r=>(i,.one y) :: tm0 (i+1) r
theorem look_tm0:∀ {l:List A1} {i t:Nat} {av:AV},look (tm0 i l) t=some av→∃ j y,t=i+j∧l[j]? = some y∧av = .one y
  | [],_,_,_,h=>by cases h
  | y :: r,i,t,av,h=>by
    simp only [tm0,look] at h
    split at h
    · rename_i he
      have he:=Nat.eq_of_beq_eq_true he
      subst he
      injection h with h
      exact ⟨0,y,rfl,rfl,h.symm⟩
    · obtain ⟨j,z,h1,h2,h3⟩:=look_tm0 h
      exact ⟨j+1,z,by omega,by simpa using h2,h3⟩
def St0 (s:Sig) (x:TT s.sa):St:=⟨tm0 0 (group s.ag (intern [] (TT.mk s.sa x)).2),[],(intern [] (TT.mk s.sa x)).1⟩
structure Cut (β:Type) where
  p:Path
  es:List Ent
  c:Nat→ET es→Option β
def cutAt {β:Type} (E:En) (k:Nat) (c:Cut β) (σ:St):Option β:=
  match (bif rcvOk E (frzE c.es σ) c.es then ofE (frzE c.es σ) c.es [] else none) with
  | some x=>c.c k x
  | none=>none
def cutsAt {β:Type} (E:En) (k:Nat):List (Cut β)→List (Path×(St→Option β))
  | []=>[]
  | c :: r=>(c.p,cutAt E k c) :: cutsAt E k r
def CutsStep {β:Type} (E:En) (Γ:Nat→List (FuncId×Cn)) (cuts:List (Cut β)) (ret:St→Option β) (body:Code) (fuel:Nat):List (Cut β)→Prop
  | []=>True
  | c :: r=>((∀ x,c.c 0 x=none)∧∀ k x q,c.c (k+1) x=some q→walk E (Γ k) (cutsAt E k cuts) ret fuel true (stackAt body c.p) (mkE c.es x St.nil)=some q)∧CutsStep E Γ cuts ret body fuel r
theorem stack_good (root:Code):∀ p:Path,Good root (stackAt root p):=by
  intro p
  induction p with
  | nil=>exact ⟨rfl,trivial⟩
  | cons i p ih =>
    match i with
    | 0 => simp only [stackAt]; split
           · rename_i q x y T h;rw [h] at ih;exact ⟨by simp only [stackAt,h],by simp only [stackAt,h],ih.2⟩
           · trivial
    | 1 => simp only [stackAt]; split
           · rename_i q x y T h;rw [h] at ih;exact ⟨by simp only [stackAt,h],ih.2⟩
           · trivial
    | 2 => simp only [stackAt]; split
           · rename_i q c x y T h;rw [h] at ih;exact ⟨by simp only [stackAt,h],ih.2⟩
           · trivial
    | 3 => simp only [stackAt]; split
           · rename_i q c x y T h;rw [h] at ih;exact ⟨by simp only [stackAt,h],ih.2⟩
           · trivial
    | 4 => simp only [stackAt]; split
           · rename_i q x y T h;rw [h] at ih;exact ⟨by simp only [stackAt,h],by simp only [stackAt,h],ih.2⟩
           · trivial
    | 5 => simp only [stackAt]; split
           · rename_i q x y T h;rw [h] at ih;exact ⟨by simp only [stackAt,h],ih.2⟩
           · trivial
    | 6 => simp only [stackAt]; split
           · rename_i q x T h;rw [h] at ih;exact ⟨by simp only [stackAt,h],by simp only [stackAt,h],ih.2⟩
           · trivial
    | 7 => simp only [stackAt]; split
           · rename_i q x T h;rw [h] at ih;exact ⟨by simp only [stackAt,h],ih.2⟩
           · trivial
    | 8 => simp only [stackAt]; split
           · rename_i q x T h;rw [h] at ih;exact ⟨by simp only [stackAt,h],by simp only [stackAt,h],ih.2⟩
           · trivial
    | 9 => simp only [stackAt]; split
           · rename_i q x T h;rw [h] at ih;exact ⟨by simp only [stackAt,h],ih.2⟩
           · trivial
    | n+10=>simp only [stackAt];trivial
theorem cuts_ok {β : Type} {E : En} {w0 : World} {ok0 : Nat → Prop} {Γ : Nat → List (FuncId × Cn)} (hΓ : ∀ k, AllOk E.P E.eT (Γ k)) {body : Code} {R : β → Exit → Act → World → Prop} {ret : St → Option β}
    (hret:∀ (σ:St) (a:Act) (w:World) (ρ:Nat→Nat) (vl:Nat→Value) (r:β),ret σ = some r→Rel E w0 ok0 [] ρ vl σ a w→R r .ret a w∧R r .normal a w) {fuel:Nat} {cuts:List (Cut β)} (h:CutsStep E Γ cuts ret body fuel cuts):
    ∀ k,CutsOk E w0 ok0 body R (cutsAt E k cuts):=by
  have key:∀ (l:List (Cut β)) (k:Nat) (p:Path) (c:St→Option β),lookP (cutsAt E k l) p=some c→∃ d,d∈l∧d.p=p∧c=cutAt E k d:=by
    intro l
    induction l with
    | nil=>intro k p c h;cases h
    | cons d l ih =>
      intro k p c h
      simp only [cutsAt,lookP] at h
      cases hb:eqP d.p p <;> rw [hb] at h
      · obtain ⟨d',h1,h2⟩:=ih k p c h
        exact ⟨d',List.mem_cons_of_mem _ h1,h2⟩
      · injection h with h
        exact ⟨d,List.mem_cons_self,eqP_eq hb,h.symm⟩
  have hmem:∀ (l:List (Cut β)),CutsStep E Γ cuts ret body fuel l→∀ d∈l,(∀ x,d.c 0 x=none)∧∀ k x q,d.c (k+1) x=some q→walk E (Γ k) (cutsAt E k cuts) ret fuel true (stackAt body d.p) (mkE d.es x St.nil)=some q:=by
    intro l
    induction l with
    | nil=>intro _ d hd;cases hd
    | cons e l ih =>
      intro hs d hd
      rcases List.mem_cons.1 hd with rfl | hd
      · exact hs.1
      · exact ih hs.2 d hd
  intro k
  induction k with
  | zero =>
    intro p c hc σ a w ρ vl r hr hR
    obtain ⟨d,h1,h2,rfl⟩:=key cuts 0 p c hc
    unfold cutAt at hr
    split at hr
    · rename_i x hx
      rw [(hmem cuts h d h1).1 x] at hr
      cases hr
    · cases hr
  | succ k ih =>
    intro p c hc σ a w ρ vl r hr hR
    obtain ⟨d,h1,rfl,rfl⟩:=key cuts (k+1) p c hc
    unfold cutAt at hr
    split at hr
    · rename_i x hx
      have hw:=(hmem cuts h d h1).2 k x r hr
      obtain ⟨ρ',vl',hR'⟩:=ofE_ok (frzE_ok d.es σ hR) hx
      exact walk_ok (hΓ k) ih hret r _ _ _ _ _ _ _ _ (stack_good body d.p) hR' hw
    · cases hr
theorem enters {P : Program} {f : FuncId} {fn : Func} (hf : P.funcs[f]? = some fn) (hname : (fn.name == "runtime.NumGoroutine") = false) (hb : fn.body.isSome = true) (args : Array Value) (w : World) : (callFunc f args).run P w = .ok (.enter f args) w := by
  have h1 : fn.name ≠ "runtime.NumGoroutine" := by simpa using hname
  obtain ⟨c,hc⟩:=Option.isSome_iff_exists.1 hb
  simp [callFunc,hf,h1,hc]
theorem FnOk.walk {E : En} {f : FuncId} {fn : Func} {body : Code} (hf : E.P.funcs[f]? = some fn) (hb : fn.body = some body) (hname : (fn.name == "runtime.NumGoroutine") = false) (hN : fn.ntmps = E.N) (hrc : E.rcv = none) (s : Sig) (hag : Nat.ble s.ag.length E.N = true)
    (F:Nat→TT s.sa→Option (TT s.sb)) (Γ:Nat→List (FuncId×Cn)) (hΓ:∀ k,AllOk E.P E.eT (Γ k)) (fuel:Nat) (cuts:List (Cut (TT s.sb))) (hcuts:CutsStep E Γ cuts (retE E fn.results.toList s) body fuel cuts)
    (hmain:∀ k x r,F k x=some r→Ab.walk E (Γ k) (cutsAt E k cuts) (retE E fn.results.toList s) fuel true [([],.code body)] (St0 s x)=some r) (k:Nat):FnOk E.P E.eT f (s.con (F k)):=by
  intro x r w ok vs hF hv
  refine .inl ⟨enters hf hname (by rw [hb];rfl) vs w, ?_⟩
  refine calls_of_wp hf hb ?_
  have hret : ∀ (σ : St) (a : Act) (w' : World) (ρ : Nat → Nat) (vl : Nat → Value) (r : TT s.sb), retE E fn.results.toList s σ = some r → Rel E w ok [] ρ vl σ a w' →
      bodyPost E.P fn (fun e w'=>∃ v,e = .returned v∧(∃ y,resAV s.tup s.rg (TT.mk s.sb r)=some y∧VV (C0 E.eT w' (okRes s.al w ok)) y v)∧Bw [] w w') .ret a w' ∧
      bodyPost E.P fn (fun e w'=>∃ v,e = .returned v∧(∃ y,resAV s.tup s.rg (TT.mk s.sb r)=some y∧VV (C0 E.eT w' (okRes s.al w ok)) y v)∧Bw [] w w') .normal a w':=by
    intro σ a w' ρ vl r hr hR
    obtain ⟨v,h1,h2⟩:=retE_ok hR hr
    have hbw:Bw [] w w':=by have:=hR.bw.toBw;rw [show E.ms=[] by unfold En.ms;rw [hrc];cases E.ro <;> rfl] at this;exact this
    exact ⟨⟨hR.defers,v,h1,v,rfl,h2,hbw⟩,⟨hR.defers,v,h1,v,rfl,h2,hbw⟩⟩
  have hle:=Nat.le_of_ble_eq_true hag
  have hlen:=hv.length
  have hgl:=group_len s.ag (TT.mk s.sa x)
  have hsz:vs.size≤E.N:=by simp at hlen;have:(group s.ag (TT.mk s.sa x)).length=vs.size:=hlen;omega
  have hR0:Rel E w ok [] (fun _=>0) (fun _=>.nilIface) (St0 s x) { tmps:=vs++Array.replicate (fn.ntmps - vs.size) undef,defers:=[] } w:=by
    refine ⟨by simp;omega,rfl,fun t av ht=>?_,fun b y hb=>by simp [St0] at hb, ?_, ?_,⟨.refl _ _,fun g hg=>by cases hg⟩,fun g hg=>by rw [hrc] at hg;cases hg⟩
    · obtain ⟨j,y,h1,h2,rfl⟩:=look_tm0 ht
      rw [Nat.zero_add] at h1
      subst h1
      have hC:(C0 E.eT w ok).Le (cx E w ok [] (fun _=>0) (fun _=>.nilIface) (St0 s x) w):=
        ⟨rfl,Nat.zero_le _,fun b hb=>absurd hb (Nat.not_lt_zero _),fun b hb=>absurd hb (Nat.not_lt_zero _),fun i e he=>by simp [C0] at he,fun g hg hl=>.inl ⟨hg,hl⟩,Nat.le_refl _,fun _ _ _=>rfl⟩
      have hL:Lift (C0 E.eT w ok) (cx E w ok [] (fun _=>0) (fun _=>.nilIface) (St0 s x) w) (TT.mk s.sa x) (intern [] (TT.mk s.sa x)).2:=
        intern_ok (C:=C0 E.eT w ok) (D:=cx E w ok [] (fun _=>0) (fun _=>.nilIface) (St0 s x) w) rfl (fun y v _ hy=>hy.le hC) (fun i e he=>he)
      have hv2:=regroup_ok (show V1s (C0 E.eT w ok) (group s.ag (TT.mk s.sa x)) vs.toList from hv) hL
      obtain ⟨v,h3,h4⟩:=hv2.get h2
      have hj:t < vs.size:=by have:=(List.getElem?_eq_some_iff.1 h3).1;simpa using this
      refine ⟨by omega, ?_⟩
      have:(vs++Array.replicate (fn.ntmps - vs.size) undef).getD t undef=v:=by
        rw [Array.getElem?_toList] at h3
        simp only [Array.getD_eq_getD_getElem?,Array.getElem?_append_left hj,h3,Option.getD_some]
      rw [this]
      exact h4
    · rintro b b' g ⟨y,hy, -⟩;simp [St0] at hy
    · rintro b g ⟨y,hy, -⟩;simp [St0] at hy
  exact walk_ok (R:=fun r=>bodyPost E.P fn (fun e w'=>∃ v,e = .returned v∧(∃ y,resAV s.tup s.rg (TT.mk s.sb r)=some y∧VV (C0 E.eT w' (okRes s.al w ok)) y v)∧Bw [] w w')) (hΓ k) (cuts_ok hΓ hret hcuts k) hret r _ _ _ _ _ _ _ _ (show Good body [([],Item.code body)] from ⟨rfl,trivial⟩) hR0 (hmain k x r hF)
end Go.Proofs.YtbpcfhhcoklinaaGreat.Ab
namespace Go.Proofs.YtbpcfhhcoklinaaGreat.Ab
open Go Go.RowKit
noncomputable section
variable {E:En} {w0:World} {ok0:Nat→Prop} {gs:List Nat} {ρ:Nat→Nat} {vl:Nat→Value} {σ:St} {a:Act} {w:World}
structure RSig where
 rL:Option Ly
 rT:TypeId
 win:Bool
 ro:Bool
 ag:List Ag
 sa:List Sh
 oL:Option Ow
 oT:TypeId
 tup:Bool
 rg:List Ag
 sb:List Sh
 al:Bool
abbrev RSig.R (s:RSig):Type:=CnT s.rL s.ro×OwT s.oL×TT s.sb
def RSig.con (s:RSig) (F:RcT s.rL s.win→TT s.sa→Option s.R):RCon:=⟨s.rL,s.rT,s.win,s.ro,s.ag,s.sa,s.oL,s.oT,s.tup,s.rg,s.sb,s.al,F⟩
def RSig.quiet (s:RSig):Bool:=s.ro||s.rL.isNone
def LT.dft:(ks:List Ck)→(tl:Option (IntKind×Nat))→LT ks tl
 | [],none=>()
 | [],some _=>([]:List Int)
 | [k],none=>k.dft
 | [k],some _=>(k.dft,([]:List Int))
 | k :: k2 :: r,tl=>(k.dft,LT.dft (k2 :: r) tl)
def ownOf (E:En) (σ:St) (t:TypeId):(oL:Option Ow)→List A1→Option (OwT oL×List A1)
 | none,l=>some ((),l)
 | some (.arr k m),.mx [] k' m' x :: l=>bif decide (k'=k)&&Nat.beq m' m then some (x,l) else none
 | some (.ptr L),.s .nilp :: l=>some ((false,LT.dft L.ks L.tl),l)
 | some (.ptr L),.s (.ptr b 0) :: l=>(match σ.bl[b]? with
  | some bl=>bif (Nat.beq b 0&&E.rcv.isSome) || !Nat.beq bl.ty t then none else (match Ly.of σ L.ks L.tl bl with
   | some x=>some ((true,x),l)
   | none=>none)
  | none=>none)
 | _,_=>none
def cntOf (σ:St) (t:TypeId):(rL:Option Ly)→(ro:Bool)→Option (CnT rL ro)
 | none,_=>some ()
 | some L,false=>(match σ.bl[0]? with
  | some bl=>bif Nat.beq bl.ty t then Ly.of σ L.ks L.tl bl else none
  | none=>none)
 | some _,true=>some ()
def retR (E:En) (rs:List ResultVar) (s:RSig) (σ:St):Option s.R:=
 match resSc E σ rs with
 | some l=>bif (bif s.tup then !Nat.beq l.length 1 else Nat.beq l.length 1)&&(s.al||(s.quiet&&(s.oL.isNone&&noRdS s.sb))) then (match cntOf σ s.rT s.rL s.ro,ownOf E σ s.oT s.oL l with
  | some c,some (o,r)=>(match ungroup s.rg r with
   | some cs=>(match TT.of σ s.sb cs with
    | some y=>some (c,o,y)
    | none=>none)
   | none=>none)
  | _,_=>none) else none
 | none=>none
theorem cntOf_ok (hR:Rel E w0 ok0 gs ρ vl σ a w) {okA:Nat→Prop} (hok:∀ g,(cx E w0 ok0 gs ρ vl σ w).ok g→okA g) {t:TypeId} {rL:Option Ly} {ro:Bool} {c:CnT rL ro} {g:Nat} (hg:rL.isSome=true→E.rcv=some g) (h:cntOf σ t rL ro=some c):CnIs (C0 E.eT w okA) g t rL ro c:=by
 unfold cntOf at h
 split at h
 ·trivial
 ·rename_i L
  split at h
  ·rename_i bl hbl
   have hq:=bif_some h
   clear h
   obtain ⟨ht,h⟩:=hq
   have ht:=Nat.eq_of_beq_eq_true ht
   subst ht
   obtain ⟨h1,h2, -⟩:=Ly.of_ok hR hok hbl h
   have:=(hR.rc g (hg rfl)).2.1 (ρ 0) ⟨_,hbl,h2⟩
   subst this
   exact h1
  ·cases h
 ·trivial
theorem ownOf_ok (hR:Rel E w0 ok0 gs ρ vl σ a w) {t:TypeId} {oL:Option Ow} {x:OwT oL} {l r:List A1} {vs:List Value} (h:ownOf E σ t oL l=some (x,r)) (hv:V1s (cx E w0 ok0 gs ρ vl σ w) l vs):
  ∃ (q:Option Nat) (ovs us:List Value),vs=ovs++us∧V1s (cx E w0 ok0 gs ρ vl σ w) r us∧(∀ okA:Nat→Prop,(∀ g,(cx E w0 ok0 gs ρ vl σ w).ok g→okA g)→OwIs (C0 E.eT w okA) w0.heap.size q t oL x ovs) ∧
   (∀ z,q=some z→∃ b bl,liveAt ρ vl σ b z∧σ.bl[b]? = some bl∧bl.isRow=false):=by
 unfold ownOf at h
 split at h
 ·injection h with h
  injection h with h1 h2
  subst h2
  exact ⟨none,[],vs,rfl,hv,fun _ _=>⟨rfl,rfl⟩,fun z hz=>by cases hz⟩
 ·rename_i k m k' m' x l
  have hq:=bif_some h
  clear h
  obtain ⟨hc,h⟩:=hq
  simp only [Bool.and_eq_true] at hc
  have c1:=of_decide_eq_true hc.1
  have c2:=Nat.eq_of_beq_eq_true hc.2
  subst c1 c2
  injection h with h
  injection h with h1 h2
  subst h1 h2
  cases vs with
  | nil=>exact hv.elim
  | cons v vs =>
   obtain ⟨⟨us,rfl,h3,h4,h5⟩,hv2⟩:=hv
   cases us with
   | nil=>exact ⟨none,[_],vs,rfl,hv2,fun _ _=>⟨rfl,rfl,h4,h5⟩,fun z hz=>by cases hz⟩
   | cons _ _=>exact h3.elim
 ·rename_i L l
  injection h with h
  injection h with h1 h2
  subst h1 h2
  cases vs with
  | nil=>exact hv.elim
  | cons v vs=>exact ⟨none,[v],vs,rfl,hv.2,fun _ _=>⟨v,rfl,.inl ⟨rfl,rfl,hv.1⟩⟩,fun z hz=>by cases hz⟩
 ·rename_i L b l
  split at h
  ·rename_i bl hbl
   obtain ⟨hc,h⟩:=bif_none h
   simp only [Bool.or_eq_false_iff,Bool.not_eq_false'] at hc
   have hty:=Nat.eq_of_beq_eq_true hc.2
   split at h
   ·rename_i y hy
    injection h with h
    injection h with h1 h2
    subst h1 h2
    cases vs with
    | nil=>exact hv.elim
    | cons v vs =>
     obtain ⟨-,h4,h5⟩:=Ly.of_ok hR (okA:=fun _=>True) (fun _ _=>trivial) hbl hy
     have hl:liveAt ρ vl σ b (ρ b):=⟨_,hbl,h4⟩
     refine ⟨some (ρ b),[v],vs,rfl,hv.2,fun okA hok=>⟨v,rfl,.inr ⟨rfl, ρ b,rfl, ?_,hv.1.2, ?_⟩⟩,fun z hz=>?_⟩
     ·rcases (hR.own b _ hl).1.1 with h6 | ⟨h6,h7⟩
      ·exact h6
      ·have:=hc.1
       rw [h6,h7] at this
       simp at this
     ·have:=(Ly.of_ok hR hok hbl hy).1
      rw [hty] at this
      exact this
     ·injection hz with hz
      subst hz
      exact ⟨b,bl,hl,hbl,h5⟩
   ·cases h
  ·cases h
 ·cases h
theorem tupIs_res:∀ (tup:Bool) (vs:List Value),(bif tup then !Nat.beq vs.length 1 else Nat.beq vs.length 1)=true→tupIs tup vs (if h:vs.toArray.size=1 then vs.toArray[0] else .tuple vs.toArray)
 | true,vs,h=>by
  have hne:¬ vs.toArray.size=1:=by
   intro e
   have e:vs.length=1:=by simpa using e
   rw [e] at h
   cases h
  show _=_
  rw [dif_neg hne]
 | false,[v],_=>rfl
 | false,[],h=>by cases h
 | false,_ :: _ :: _,h=>by
  have:=Nat.eq_of_beq_eq_true h
  simp at this
theorem OwIs.any {C D:Cx} {n0 n1:Nat} {q:Option Nat} {t:TypeId} {oL:Option Ow} {x:OwT oL} {vs:List Value} (h0:oL.isNone=true) (h:OwIs C n0 q t oL x vs):OwIs D n1 q t oL x vs:=by
 cases oL with
 | none=>exact h
 | some L=>cases h0
theorem CnIs.any {C:Cx} {g:Nat} {t:TypeId} {rL:Option Ly} {ro:Bool} (c:CnT rL ro) (h:(ro||rL.isNone)=true):CnIs C g t rL ro c:=by
 cases rL with
 | none=>trivial
 | some L=>cases ro with
  | true=>trivial
  | false=>cases h
theorem retR_ok {fn:Func} {s:RSig} (hR:Rel E w0 ok0 [] ρ vl σ a w) {g:Nat} (hg:s.rL.isSome=true→E.rcv=some g) {r:s.R} (h:retR E fn.results.toList s σ = some r):
  ∃ v,(results fn a.tmps).run E.P w = .ok v w∧∃ (q:Option Nat) (us ovs:List Value),OwIs (C0 E.eT w fun p=>okRes s.al w0 ok0 p∧q≠some p) w0.heap.size q s.oT s.oL r.2.1 ovs ∧
   V1s (C0 E.eT w fun p=>okRes s.al w0 ok0 p∧q≠some p) (group s.rg (TT.mk s.sb r.2.2)) us∧tupIs s.tup (ovs++us) v∧CnIs (C0 E.eT w fun p=>okRes s.al w0 ok0 p∧q≠some p) g s.rT s.rL s.ro r.1:=by
 unfold retR at h
 split at h
 ·rename_i l hl
  obtain ⟨hc,h⟩:=bif_some h
  rw [Bool.and_eq_true] at hc
  split at h
  ·rename_i c o r' hcnt hown
   split at h
   ·rename_i cs hcs
    split at h
    ·rename_i y hy
     injection h with h
     subst h
     obtain ⟨vs,h1,h2⟩:=resSc_ok hR hl
     have hlen:=h1.length
     obtain ⟨q,ovs,us,rfl,h3,h4,h5⟩:=ownOf_ok hR hown h1
     have hres:(results fn a.tmps).run E.P w = .ok (if h:(ovs++us).toArray.size=1 then (ovs++us).toArray[0] else .tuple (ovs++us).toArray) w:=by
      unfold results
      rw [Array.mapM_eq_mapM_toList]
      simp only [Sem.run_bind,Sem.run_map,Sem.run_pure]
      have hz:∀ z:Result (List Value),z = .ok (ovs++us) w→((z.andThen fun a w'=>Result.ok a.toArray w').andThen fun a w'=>Result.ok (if h:a.size=1 then a[0] else Value.tuple a) w') = .ok (if h:(ovs++us).toArray.size=1 then (ovs++us).toArray[0] else .tuple (ovs++us).toArray) w:=by
       rintro _ rfl;rfl
      exact hz _ h2
     have htup:=tupIs_res s.tup (ovs++us) (by have:=hc.1;rw [hlen] at this;exact this)
     refine ⟨_,hres,q,us,ovs, ?_⟩
     cases hal:s.al
     ·have hq:=hc.2
      rw [hal] at hq
      simp only [Bool.false_or,Bool.and_eq_true] at hq
      refine ⟨(h4 (fun _=>True) (fun _ _=>trivial)).any hq.2.1, ?_,htup,CnIs.any _ hq.1⟩
      have h6:=TT.of_ok hR (okA:=fun _=>True) (fun _ _=>trivial) (.inr fun _ _ _=>trivial) hy
      exact group_ok hcs h3 (h6.trans (noRd_lift hq.2.2))
     ·have hok:∀ p,(cx E w0 ok0 [] ρ vl σ w).ok p→okRes true w0 ok0 p∧q≠some p:=by
       intro p hp
       refine ⟨?_,fun hq=>?_⟩
       ·rcases hp with ⟨h6,h7⟩ | ⟨h6, -⟩
        ·exact .inl ⟨rfl,h6,h7⟩
        ·exact .inr h6
       ·obtain ⟨b,bl,h6, -⟩:=h5 p hq
        exact live_not_ok hR h6 hp
      refine ⟨h4 _ hok, ?_,htup,cntOf_ok hR hok hg hcnt⟩
      refine group_ok hcs h3 (TT.of_ok' hR hok (.inr ⟨fun b k t l p hb hp=>⟨.inr ((hR.bl b _ hb).2.lt p hp).1,fun hq=>?_⟩,fun b k t l p hb hp=>⟨.inr ((hR.bl b _ hb).2.lt p hp).1,fun hq=>?_⟩⟩) hy)
      all_goals
       obtain ⟨b2,bl,h6,h7,h8⟩:=h5 p hq
       have:=hR.dist b b2 p ⟨_,hb,hp⟩ h6
       subst this
       rw [hb] at h7
       injection h7 with h7
       rw [← h7] at h8
       cases h8
    ·cases h
   ·cases h
  ·cases h
 ·cases h
end
def tlN:Option (IntKind×Nat)→Nat
 | some (_,m)=>m
 | none=>0
def rcv0 (t:TypeId):(rL:Option Ly)→(win:Bool)→RcT rL win→List A1×List Bl
 | none,_,_=>([],[])
 | some L,false,x=>([.s (.ptr 0 0)],[lyBl L.ks L.tl x t])
 | some L,true,x=>([.s (.win 0 L.ks.length (tlN L.tl) x.1)],[lyBl L.ks L.tl x.2 t])
def St0R (s:RSig) (x:RcT s.rL s.win) (y:TT s.sa):St:=⟨tm0 0 ((rcv0 s.rT s.rL s.win x).1++group s.ag (intern [] (TT.mk s.sa y)).2),(rcv0 s.rT s.rL s.win x).2,(intern [] (TT.mk s.sa y)).1⟩
def enR (P:Program) (eT:TypeId) (N:Nat) (wf:List FuncId) (s:RSig) (g:Nat):En:=⟨P,eT,N,bif s.rL.isSome then some g else none,s.ro,wf⟩
theorem rcv0_ok {E:En} {w:World} {ok:Nat→Prop} {es:List Ee} {tm:List (Nat×AV)} {g:Nat} {t:TypeId} {rL:Option Ly} {win:Bool} {x:RcT rL win} {v0s:List Value} (h:RcvIs (C0 E.eT w ok) g t rL win x v0s):
  V1s (cx E w ok [] (fun _=>g) (fun _=>.nilIface) ⟨tm,(rcv0 t rL win x).2,es⟩ w) (rcv0 t rL win x).1 v0s ∧
  (∀ b y,(rcv0 t rL win x).2[b]? = some y→rL.isSome=true∧b=0∧g < w.heap.size∧y.at (fun _=>g) (fun _=>.nilIface) b=some g∧BS (cx E w ok [] (fun _=>g) (fun _=>.nilIface) ⟨tm,(rcv0 t rL win x).2,es⟩ w) b y)∧(rL.isSome=true→0 < (rcv0 t rL win x).2.length)∧v0s.length≤1:=by
 have one:∀ {L:Ly} {z:LT L.ks L.tl} {bl:List Bl},BlkIs (C0 E.eT w ok) g t L.ks L.tl z→bl=[lyBl L.ks L.tl z t]→∀ b y,bl[b]? = some y→b=0∧g < w.heap.size∧y.at (fun _=>g) (fun _=>.nilIface) b=some g∧BS (cx E w ok [] (fun _=>g) (fun _=>.nilIface) ⟨tm,bl,es⟩ w) b y:=by
  rintro L z _ hz rfl b y hy
  have hb:b=0:=by
   have:=(List.getElem?_eq_some_iff.1 hy).1
   simpa using this
  subst hb
  have:y=lyBl L.ks L.tl z t:=by simpa using hy.symm
  subst this
  exact ⟨rfl,hz.1,lyBl_at _ _ _ _ _ _ _,BlkIs.bs (C:=C0 E.eT w ok) (D:=cx E w ok [] (fun _=>g) (fun _=>.nilIface) ⟨tm,[lyBl L.ks L.tl z t],es⟩ w) rfl (fun p hp hlt=>.inl ⟨hp,hlt⟩) rfl hz⟩
 cases rL with
 | none =>
  have h:v0s=[]:=h
  subst h
  exact ⟨trivial,(fun b y hy=>by simp [rcv0] at hy),(fun h=>by cases h),by simp⟩
 | some L =>
  cases win with
  | false =>
   obtain ⟨h1,rfl⟩:=h
   exact ⟨⟨⟨by show 0 < 1;omega,rfl⟩,trivial⟩,fun b y hy=>⟨rfl,one h1 rfl b y hy⟩,fun _=>by show 0 < 1;omega,by simp⟩
  | true =>
   obtain ⟨h1,k,m,c,h2,h3,h4,h5,rfl⟩:=h
   have hm:tlN L.tl=m:=by rw [h2];rfl
   exact ⟨⟨⟨by show 0 < 1;omega,h3,by have:=h4;omega,c,h5,rfl⟩,trivial⟩,fun b y hy=>⟨rfl,one h1 rfl b y hy⟩,fun _=>by show 0 < 1;omega,by simp⟩
theorem FnOkR.walk {P : Program} {eT : TypeId} {f : FuncId} {fn : Func} {body : Code} {N : Nat} {wf : List FuncId} (hf : P.funcs[f]? = some fn) (hb : fn.body = some body) (hname : (fn.name == "runtime.NumGoroutine") = false) (hN : fn.ntmps = N) (s : RSig) (hag : Nat.ble (s.ag.length + 1) N = true)
  (F:Nat→RcT s.rL s.win→TT s.sa→Option s.R) (Γ:Nat→List (FuncId×Cn)) (hΓ:∀ k,AllOk P eT (Γ k)) (fuel:Nat) (cuts:List (Cut s.R)) (hcuts:∀ g,CutsStep (enR P eT N wf s g) Γ cuts (retR (enR P eT N wf s g) fn.results.toList s) body fuel cuts)
  (hmain:∀ g k x y r,F k x y=some r→Ab.walk (enR P eT N wf s g) (Γ k) (cutsAt (enR P eT N wf s g) k cuts) (retR (enR P eT N wf s g) fn.results.toList s) fuel true [([],.code body)] (St0R s x y)=some r) (k:Nat):FnOkR P eT f (s.con (F k)):=by
 intro x y r w ok g v0s vs hF hnok hrcv hv
 refine .inl ⟨enters hf hname (by rw [hb];rfl) _ w, ?_⟩
 refine calls_of_wp hf hb ?_
 have hgr:s.rL.isSome=true→(enR P eT N wf s g).rcv=some g:=fun h=>by show (bif s.rL.isSome then some g else none)=_;rw [h];rfl
 have hgn:∀ q,(enR P eT N wf s g).rcv=some q→s.rL.isSome=true∧q=g:=by
  intro q hq
  have hq:(bif s.rL.isSome then some g else none)=some q:=hq
  cases hs:s.rL.isSome <;> rw [hs] at hq
  ·cases hq
  ·injection hq with hq;exact ⟨rfl,hq.symm⟩
 let Post:s.R→Ending→World→Prop:=fun r e w'=>∃ v,e = .returned v∧∃ (q:Option Nat) (us ovs:List Value),OwIs (C0 eT w' fun p=>okRes s.al w ok p∧q≠some p) w.heap.size q s.oT s.oL r.2.1 ovs ∧
   V1s (C0 eT w' fun p=>okRes s.al w ok p∧q≠some p) (group s.rg (TT.mk s.sb r.2.2)) us∧tupIs s.tup (ovs++us) v∧CnIs (C0 eT w' fun p=>okRes s.al w ok p∧q≠some p) g s.rT s.rL s.ro r.1∧Bw (bif s.quiet then [] else [g]) w w'
 have hret:∀ (σ:St) (a:Act) (w':World) (ρ:Nat→Nat) (vl:Nat→Value) (r:s.R),retR (enR P eT N wf s g) fn.results.toList s σ = some r→Rel (enR P eT N wf s g) w ok [] ρ vl σ a w'→bodyPost P fn (Post r) .ret a w'∧bodyPost P fn (Post r) .normal a w':=by
  intro σ a w' ρ vl r hr hR
  obtain ⟨v,h1,q,us,ovs,h2,h3,h4,h5⟩:=retR_ok hR hgr hr
  have hbw:Bw (bif s.quiet then [] else [g]) w w':=by
   refine hR.bw.toBw.weak fun z hz=>?_
   obtain ⟨h6,h7⟩:=En.mem_ms.1 hz
   obtain ⟨h8,rfl⟩:=hgn z h7
   have h6:s.ro=false:=h6
   have:s.quiet=false:=by
    unfold RSig.quiet
    rw [h6]
    cases hs:s.rL
    ·rw [hs] at h8;cases h8
    ·rfl
   rw [this]
   simp
  have hpost:Post r (.returned v) w':=⟨v,rfl,q,us,ovs,h2,h3,h4,h5,hbw⟩
  exact ⟨⟨hR.defers,v,h1,hpost⟩,⟨hR.defers,v,h1,hpost⟩⟩
 have hle:=Nat.le_of_ble_eq_true hag
 have hlen:(group s.ag (TT.mk s.sa y)).length=vs.toList.length:=hv.length
 have hgl:=group_len s.ag (TT.mk s.sa y)
 obtain ⟨hr1,hr2,hr3,hr4⟩:=rcv0_ok (E:=enR P eT N wf s g) (es:=(intern [] (TT.mk s.sa y)).1) (tm:=(St0R s x y).tm) hrcv
 have hvl:(group s.ag (TT.mk s.sa y)).length=vs.size:=by simpa using hlen
 have hsz:(v0s.toArray++vs).size≤N:=by simp;omega
 have hR0:Rel (enR P eT N wf s g) w ok [] (fun _=>g) (fun _=>.nilIface) (St0R s x y) { tmps:=(v0s.toArray++vs)++Array.replicate (fn.ntmps - (v0s.toArray++vs).size) undef,defers:=[] } w:=by
  refine ⟨?_,rfl,fun t av ht=>?_,fun b z hb=>(hr2 b z hb).2.2.2.2, ?_, ?_,⟨.refl _ _,fun g hg=>by cases hg⟩,fun q hq=>?_⟩
  ·show _=N
   rw [Array.size_append,Array.size_replicate]
   omega
  ·obtain ⟨j,z,h1,h2,rfl⟩:=look_tm0 ht
   rw [Nat.zero_add] at h1
   subst h1
   have hC:(C0 eT w ok).Le (cx (enR P eT N wf s g) w ok [] (fun _=>g) (fun _=>.nilIface) (St0R s x y) w):=
    ⟨rfl,Nat.zero_le _,fun b hb=>absurd hb (Nat.not_lt_zero _),fun b hb=>absurd hb (Nat.not_lt_zero _),fun i e he=>by simp [C0] at he,fun g hg hl=>.inl ⟨hg,hl⟩,Nat.le_refl _,fun _ _ _=>rfl⟩
   have hL:Lift (C0 eT w ok) (cx (enR P eT N wf s g) w ok [] (fun _=>g) (fun _=>.nilIface) (St0R s x y) w) (TT.mk s.sa y) (intern [] (TT.mk s.sa y)).2:=
    intern_ok (C:=C0 eT w ok) (D:=cx (enR P eT N wf s g) w ok [] (fun _=>g) (fun _=>.nilIface) (St0R s x y) w) rfl (fun y v _ hy=>hy.le hC) (fun i e he=>he)
   have hv2:=regroup_ok (show V1s (C0 eT w ok) (group s.ag (TT.mk s.sa y)) vs.toList from hv) hL
   have hv3:=V1s.append hr1 hv2
   obtain ⟨v,h3,h4⟩:=hv3.get h2
   have h3':(v0s.toArray++vs)[t]? = some v:=by
    rw [← Array.getElem?_toList]
    simpa using h3
   have hj:t < (v0s.toArray++vs).size:=(Array.getElem?_eq_some_iff.1 h3').1
   refine ⟨Nat.lt_of_lt_of_le hj hsz, ?_⟩
   have:((v0s.toArray++vs)++Array.replicate (fn.ntmps - (v0s.toArray++vs).size) undef).getD t undef=v:=by
    simp only [Array.getD_eq_getD_getElem?,Array.getElem?_append_left hj,h3',Option.getD_some]
   rw [this]
   exact h4
  ·rintro b b' q ⟨z,hz, -⟩ ⟨z',hz', -⟩
   rw [(hr2 b z hz).2.1,(hr2 b' z' hz').2.1]
  ·rintro b q ⟨z,hz,hq⟩
   obtain ⟨h1,rfl,h3,h4, -⟩:=hr2 b z hz
   rw [h4] at hq
   injection hq with hq
   subst hq
   exact ⟨⟨.inr ⟨rfl,hgr h1⟩,by simp⟩,h3⟩
  ·obtain ⟨h1,rfl⟩:=hgn q hq
   refine ⟨hr3 h1, ?_,hnok h1⟩
   rintro p ⟨z,hz,hp⟩
   have:=(hr2 0 z hz).2.2.2.1
   rw [this] at hp
   injection hp with hp
   exact hp.symm
 exact walk_ok (E:=enR P eT N wf s g) (R:=fun r=>bodyPost P fn (Post r)) (hΓ k) (cuts_ok (E:=enR P eT N wf s g) hΓ hret (hcuts g) k) hret r _ _ _ _ _ _ _ _ (show Good body [([],Item.code body)] from ⟨rfl,trivial⟩) hR0 (hmain g k x y r hF)
end Go.Proofs.YtbpcfhhcoklinaaGreat.Ab
namespace Go.Proofs.YtbpcfhhcoklinaaGreat.Ab
open Go Go.RowKit
theorem iteC {c:Prop} [Decidable c] {α:Type} {a a' b b':α} (ha:c→a=a') (hb:¬c→b=b'):(if c then a else b)=if c then a' else b':=by
 by_cases h:c
 ·rw [if_pos h,if_pos h,ha h]
 ·rw [if_neg h,if_neg h,hb h]
theorem bindC {α β:Type} {o:Option α} {f g:α→Option β} (h:∀ x,f x=g x):o.bind f=o.bind g:=by
 cases o
 ·rfl
 ·exact h _
def Ev {α:Type} (g:Nat→Option α) (r:α):Prop:=∃ K,∀ k,K≤k→g k=some r
theorem Ev.now {α:Type} (r:α):Ev (fun _=>some r) r:=⟨0,fun _ _=>rfl⟩
theorem Ev.rounds {α:Type} {g:Nat→Option α} {r:α} (h:Ev g r):∃ k,g k=some r:=h.elim fun K h=>⟨K,h K (Nat.le_refl _)⟩
theorem Ev.bind {α β:Type} {g:Nat→Option α} {f:Nat→α→Option β} {a:α} {r:β} (h:Ev g a) (k:Ev (fun n=>f n a) r):Ev (fun n=>(g n).bind (f n)) r:=by
 obtain ⟨K,h⟩:=h
 obtain ⟨L,k⟩:=k
 exact ⟨max K L,fun n hn=>by show (g n).bind (f n)=_;rw [h n (by omega)];exact k n (by omega)⟩
theorem Ev.step {α:Type} {g f:Nat→Option α} {r:α} (h:∀ k,g (k+1)=f k) (k:Ev f r):Ev g r:=by
 obtain ⟨K,k⟩:=k
 refine ⟨K+1,fun n hn=>?_⟩
 obtain ⟨m,rfl⟩:∃ m,n=m+1:=⟨n - 1,by omega⟩
 rw [h]
 exact k m (by omega)
theorem Ev.congr {α:Type} {g f:Nat→Option α} {r:α} (h:∀ k,g k=f k) (k:Ev f r):Ev g r:=k.elim fun K k=>⟨K,fun n hn=>(h n).trans (k n hn)⟩
theorem inK_wf {k:IntKind} {a:Int} (h:(Lit.int k a).wf=true):inK k a:=by
 cases k <;> simp [Lit.wf,IntKind.min,IntKind.max,IntKind.bits,IntKind.signed] at h <;> simp only [inK,kLo,kHi] <;> omega
end Go.Proofs.YtbpcfhhcoklinaaGreat.Ab
