-- Written by a program of this session out of its own texts (wip/tools/link.py).
import Derived.Below
import Derived.ChangeKeysEq
import Derived.Deep.MidRow
import Derived.Deep.RegionHeld3
import Derived.IntWalk
import Derived.LaidEql
import Derived.Laws.Bits64
import Derived.Laws.BitsLemmas
import Derived.Laws.IdiomCopy
import Derived.Laws.OwnMore
import Derived.Laws.Rows
import Derived.Laws.StructEq
import Derived.Laws.Tables
import Derived.OrdersHeld
import Derived.RowKit
import Derived.Test.YtbpcfhhcoklinaaGreatCVecInto7
set_option linter.unusedSimpArgs false
set_option linter.unusedVariables false
namespace Go.Proofs.YtbpcfhhcoklinaaGreat.Ab
open Go Go.RowKit
def cstSc (E:En) (v:Value):Option Sc:=
 match cst E v with
 | some (.one (.s x))=>some x
 | _=>none
def cstScs (E:En):List Value→Option (List Sc)
 | []=>some []
 | v :: vs=>match cstSc E v,cstScs E vs with
  | some x,some xs=>some (x :: xs)
  | _,_=>none
theorem cstSc_ok {E:En} {C:Cx} (hE:C.eT=E.eT) {v:Value} {x:Sc} (h:cstSc E v=some x):VS C x v:=by
 unfold cstSc at h
 split at h
 ·rename_i y hy
  injection h with h
  subst h
  exact cst_ok hE hy
 ·cases h
theorem cstScs_ok {E:En} {C:Cx} (hE:C.eT=E.eT):∀ {vs:List Value} {xs:List Sc},cstScs E vs=some xs→VSs C xs vs
 | [],xs,h=>by simp only [cstScs,Option.some.injEq] at h;subst h;trivial
 | v :: vs,xs,h=>by
  unfold cstScs at h
  split at h
  ·rename_i x ys hx hy
   injection h with h
   subst h
   exact ⟨cstSc_ok hE hx,cstScs_ok hE hy⟩
  ·cases h
def zeroSc (E:En) (t:TypeId):Option (List Sc):=
 match E.P.info? t with
 | some i=>(match i.zero with
  | some v=>cstScs E v.cells.toList
  | none=>none)
 | none=>none
theorem zeroSc_info {E:En} {C:Cx} (hE:C.eT=E.eT) {t:TypeId} {xs:List Sc} (h:zeroSc E t=some xs):∃ i v,E.P.info? t=some i∧i.zero=some v∧VSs C xs v.cells.toList:=by
 unfold zeroSc at h
 split at h
 ·rename_i i hi
  split at h
  ·rename_i v hv
   exact ⟨i,v,hi,hv,cstScs_ok hE h⟩
  ·cases h
 ·cases h
theorem zeroSc_ok {E:En} {C:Cx} (hE:C.eT=E.eT) {t:TypeId} {xs:List Sc} (h:zeroSc E t=some xs):∃ v,VSs C xs v.cells.toList∧∀ w1,(zeroValue t).run E.P w1 = .ok v w1:=by
 unfold zeroSc at h
 split at h
 ·rename_i i hi
  split at h
  ·rename_i v hv
   exact ⟨v,cstScs_ok hE h,fun w1=>by simp [zeroValue,typeInfo,hi,hv]⟩
  ·cases h
 ·cases h
def setSeg:List Sc→Nat→List Sc→List Sc
 | cs,_,[]=>cs
 | cs,o,x :: xs=>setSeg (cs.set o x) (o+1) xs
def setSegV:List Value→Nat→List Value→List Value
 | cs,_,[]=>cs
 | cs,o,x :: xs=>setSegV (cs.set o x) (o+1) xs
theorem setSeg_ok {C:Cx}:∀ {xs:List Sc} {us:List Value} {cs:List Sc} {vs:List Value} (o:Nat),VSs C xs us→VSs C cs vs→VSs C (setSeg cs o xs) (setSegV vs o us)
 | [],[],_,_,_,_,h=>h
 | _ :: _,_ :: _,_,_,o,h1,h2=>setSeg_ok (o+1) h1.2 (h2.set o h1.1)
 | [],_ :: _,_,_,_,h,_=>h.elim
 | _ :: _,[],_,_,_,h,_=>h.elim
theorem setSegV_length:∀ (us vs:List Value) (o:Nat),(setSegV vs o us).length=vs.length
 | [],_,_=>rfl
 | u :: us,vs,o=>by rw [setSegV,setSegV_length us,List.length_set]
theorem setSegV_take:∀ (us cs:List Value) (o m:Nat),(setSegV cs o us).take m=setSegV (cs.take m) o us
 | [],_,_,_=>rfl
 | u :: us,cs,o,m=>by rw [setSegV,setSegV_take us,setSegV,List.take_set]
theorem setSegV_right:∀ (us A cs:List Value) (o:Nat),setSegV (A++cs) (A.length+o) us=A++setSegV cs o us
 | [],_,_,_=>rfl
 | u :: us,A,cs,o=>by
  rw [setSegV,setSegV,List.set_append_right _ _ (by omega),Nat.add_sub_cancel_left,Nat.add_assoc,setSegV_right us]
theorem setSegV_zero:∀ (us A cs:List Value),us.length=A.length→setSegV (A++cs) 0 us=us++cs:=by
 have key:∀ (us P A cs:List Value),us.length=A.length→setSegV (P++(A++cs)) P.length us=P++(us++cs):=by
  intro us
  induction us with
  | nil =>
   intro P A cs h
   cases A with
   | nil=>rfl
   | cons _ _=>simp at h
  | cons u us ih =>
   intro P A cs h
   cases A with
   | nil=>simp at h
   | cons a A =>
    have:=ih (P++[u]) A cs (by simpa using h)
    rw [setSegV,List.set_append_right _ _ (Nat.le_refl _),Nat.sub_self]
    simp only [List.cons_append,List.set_cons_zero]
    simpa using this
 intro us A cs h
 exact key us [] A cs h
theorem flatV_set {ks:List Ck} {x:CT ks}:∀ (l:List (CT ks)) (i:Nat),i < l.length→flatV ks (l.set i x)=setSegV (flatV ks l) (i*ks.length) (CT.vals ks x)
 | y :: l,0,_=>by
  unfold flatV
  rw [List.set_cons_zero,List.map_cons,List.flatten_cons,List.map_cons,List.flatten_cons,Nat.zero_mul,setSegV_zero _ _ _ (by rw [CT.vals_len,CT.vals_len])]
 | y :: l,i+1,h=>by
  have:=flatV_set (x:=x) l i (by simpa using h)
  unfold flatV at this ⊢
  rw [List.set_cons_succ,List.map_cons,List.flatten_cons,List.map_cons,List.flatten_cons,this,Nat.add_mul,Nat.one_mul,Nat.add_comm (i*ks.length)]
  have h2:=setSegV_right (CT.vals ks x) (CT.vals ks y) (l.map (CT.vals ks)).flatten (i*ks.length)
  rw [CT.vals_len] at h2
  exact h2.symm
 | [],_,h=>by simp at h
theorem foldl_seg:∀ (us:List Value) (k o:Nat) (cs:Array Value),((us.zipIdx k).foldl (fun cs (x:Value×Nat)=>cs.setIfInBounds (o+x.2) x.1) cs).toList=setSegV cs.toList (o+k) us
 | [],_,_,_=>rfl
 | u :: us,k,o,cs=>by
  rw [List.zipIdx_cons,List.foldl_cons,foldl_seg us (k+1) o,setSegV]
  simp [Nat.add_assoc]
def runSc (k:IntKind) (m:Nat) (l:List Int):List Sc:=(List.range m).map fun (i:Nat)=>.int k (rd l (i:Int)) none none
theorem runSc_ok {C:Cx} {k:IntKind} {m:Nat} {l:List Int} (h:l.length=m) (hin:inL k l):VSs C (runSc k m l) (l.map (Value.int k)):=by
 have e:(List.range m).map (fun (i:Nat)=>rd l (i:Int))=l:=by
  subst h
  apply List.ext_getElem
  ·simp
  ·intro i h1 h2
   simp [rd,h2]
 have key:∀ l:List Int,(∀ n,n∈l→inK k n)→VSs C (l.map fun n=>Sc.int k n none none) (l.map (Value.int k)):=by
  intro l
  induction l with
  | nil=>intro _;trivial
  | cons n l ih=>intro h;exact ⟨⟨rfl,h n (by simp),by simp,by simp⟩,ih fun q hq=>h q (by simp [hq])⟩
 have:=key l hin.2
 unfold runSc
 rw [← e,List.map_map] at this
 rw [e] at this
 exact this
def A1.cells:A1→List Sc
 | .s x=>[x]
 | .g cs=>cs
 | .mx cs k m l=>cs++runSc k m l
theorem VS.one {C:Cx} {x:Sc} {v:Value} (h:VS C x v):v.oneCell'=true∧v.cells = #[v]:=by
 cases x with
 | int k n lo hi=>obtain ⟨rfl, -⟩:=h;exact ⟨rfl,rfl⟩
 | bool b=>obtain rfl:=h;exact ⟨rfl,rfl⟩
 | str s n=>obtain ⟨rfl, -⟩:=h;exact ⟨rfl,rfl⟩
 | err i=>obtain ⟨e,h1,rfl, -⟩:=h;cases e.val <;> exact ⟨rfl,rfl⟩
 | erc e=>obtain ⟨rfl, -⟩:=h;cases e <;> exact ⟨rfl,rfl⟩
 | ptr b o=>obtain ⟨-,rfl⟩:=h;exact ⟨rfl,rfl⟩
 | nilp=>obtain rfl:=h;exact ⟨rfl,rfl⟩
 | lst b=>obtain ⟨-, -,A,n,c,rfl⟩:=h;exact ⟨rfl,rfl⟩
 | nils=>obtain rfl:=h;exact ⟨rfl,rfl⟩
 | rd k l=>obtain ⟨A,c,rfl, -⟩:=h;exact ⟨rfl,rfl⟩
 | ep b i=>obtain ⟨-,A,n,c, -, -, -,rfl⟩:=h;exact ⟨rfl,rfl⟩
 | rp k l i=>obtain ⟨-, -,A,rfl, -⟩:=h;exact ⟨rfl,rfl⟩
 | sst b n sz=>obtain ⟨-,rfl⟩:=h;exact ⟨rfl,rfl⟩
 | fn f=>obtain rfl:=h;exact ⟨rfl,rfl⟩
 | nof=>obtain rfl:=h;exact ⟨rfl,rfl⟩
 | clo f cs=>obtain ⟨us,rfl, -⟩:=h;exact ⟨rfl,rfl⟩
 | cp c=>obtain ⟨a,u,rfl, -⟩:=h;exact ⟨rfl,rfl⟩
 | me b o n j=>obtain ⟨-, -, -,rfl⟩:=h;exact ⟨rfl,rfl⟩
 | win b o m n=>obtain ⟨-, -, -,c, -,rfl⟩:=h;exact ⟨rfl,rfl⟩
 | rds ks l=>obtain ⟨A,c,rfl, -⟩:=h;exact ⟨rfl,rfl⟩
 | rps cs=>obtain ⟨g,off,rfl, -⟩:=h;exact ⟨rfl,rfl⟩
 | lss b=>obtain ⟨-, -,A,n,c,rfl⟩:=h;exact ⟨rfl,rfl⟩
 | es b sz i=>obtain ⟨-,A,n,c, -, -, -,rfl⟩:=h;exact ⟨rfl,rfl⟩
 | arr k m l=>obtain ⟨rfl, -⟩:=h;exact ⟨rfl,rfl⟩
theorem V1.cells_ok {C:Cx} {x:A1} {v:Value} (h:V1 C x v):VSs C x.cells v.cells.toList:=by
 cases x with
 | s x=>rw [(VS.one h).2];exact ⟨h,trivial⟩
 | g cs=>obtain ⟨vs,rfl,h⟩:=h;exact h
 | mx cs k m l=>obtain ⟨us,rfl,h1,h2,h3⟩:=h;exact VSs.append h1 (runSc_ok h2 h3)
def intsK (k:IntKind):List Sc→Option (List Int)
 | []=>some []
 | .int k' n _ _ :: r=>bif decide (k'=k) then (match intsK k r with
  | some l=>some (n :: l)
  | none=>none) else none
 | _=>none
def allInts:List Sc→Option (IntKind×List Int)
 | .int k n lo hi :: r=>(intsK k (.int k n lo hi :: r)).map fun l=>(k,l)
 | _=>none
theorem intsK_ok {C:Cx} {k:IntKind}:∀ {cs:List Sc} {vs:List Value} {l:List Int},intsK k cs=some l→VSs C cs vs→vs=l.map (Value.int k)∧∀ n,n∈l→inK k n
 | [],[],l,h,_=>by simp only [intsK,Option.some.injEq] at h;subst h;exact ⟨rfl,by simp⟩
 | [],_ :: _,_,_,h=>h.elim
 | x :: cs,[],_,_,h=>h.elim
 | x :: cs,v :: vs,l,h,hv=>by
  cases x with
  | int k' n lo hi =>
   unfold intsK at h
   obtain ⟨hk,h⟩:=bif_some h
   have hk:=of_decide_eq_true hk
   subst hk
   split at h
   ·rename_i l' hl
    injection h with h
    subst h
    obtain ⟨⟨rfl,h1, -⟩,h2⟩:=hv
    obtain ⟨rfl,h3⟩:=intsK_ok hl h2
    exact ⟨rfl,fun m hm=>by rcases List.mem_cons.1 hm with rfl | hm;exact h1;exact h3 m hm⟩
   ·cases h
  | _=>simp [intsK] at h
theorem allInts_ok {C:Cx} {cs:List Sc} {vs:List Value} {k:IntKind} {l:List Int} (h:allInts cs=some (k,l)) (hv:VSs C cs vs):vs=l.map (Value.int k)∧∀ n,n∈l→inK k n:=by
 unfold allInts at h
 split at h
 ·rename_i k' n lo hi r
  cases hi2:intsK k' (.int k' n lo hi :: r) with
  | none=>rw [hi2] at h;cases h
  | some l' =>
   rw [hi2] at h
   simp only [Option.map_some,Option.some.injEq,Prod.mk.injEq] at h
   obtain ⟨rfl,rfl⟩:=h
   exact intsK_ok hi2 hv
 ·cases h
theorem setSegV_eq:∀ (us vs:List Value) (o:Nat),o+us.length≤vs.length→setSegV vs o us=vs.take o++us++vs.drop (o+us.length)
 | [],vs,o,_=>by simp [setSegV]
 | u :: us,vs,o,h=>by
  have h':o < vs.length:=by simp at h;omega
  rw [setSegV,setSegV_eq us (vs.set o u) (o+1) (by simp at h ⊢;omega)]
  have e1:(vs.set o u).take (o+1)=vs.take o++[u]:=by
   rw [List.take_succ_eq_append_getElem (by simpa using h'),List.take_set_of_le (Nat.le_refl _)]
   simp
  have e2:(vs.set o u).drop (o+1+us.length)=vs.drop (o+(u :: us).length):=by
   rw [List.drop_set_of_lt (by omega)]
   congr 1
   simp
   omega
  rw [e1,e2]
  simp
def splitMx (h:Nat) (k:IntKind) (m:Nat):A1→Option (List Sc×List Int)
 | .mx cs k' m' l=>bif decide (k'=k)&&(Nat.beq m' m&&Nat.beq cs.length h) then some (cs,l) else none
 | .g cs=>(match intsK k (cs.drop h) with
  | some l=>bif Nat.ble h cs.length&&(Nat.beq l.length m&&Nat.ble m 1000) then some (cs.take h,l) else none
  | none=>none)
 | .s _=>none
theorem splitMx_ok {C:Cx} {h:Nat} {k:IntKind} {m:Nat} {z:A1} {v:Value} {cs:List Sc} {l:List Int} (hs:splitMx h k m z=some (cs,l)) (hv:V1 C z v):
  ∃ us,v.cells.toList=us++l.map (Value.int k)∧VSs C cs us∧cs.length=h∧l.length=m∧inL k l:=by
 unfold splitMx at hs
 split at hs
 ·rename_i cs' k' m' l'
  have hs':=bif_some hs
  clear hs
  obtain ⟨hc,hs⟩:=hs'
  simp only [Bool.and_eq_true] at hc
  have c1:=of_decide_eq_true hc.1
  have c2:=Nat.eq_of_beq_eq_true hc.2.1
  have c3:=Nat.eq_of_beq_eq_true hc.2.2
  subst c1 c2
  simp only [Option.some.injEq,Prod.mk.injEq] at hs
  obtain ⟨rfl,rfl⟩:=hs
  obtain ⟨us,rfl,h1,h2,h3⟩:=hv
  exact ⟨us,rfl,h1,c3,h2,h3⟩
 ·rename_i cs'
  split at hs
  ·rename_i l' hl
   obtain ⟨hc,hs⟩:=bif_some hs
   simp only [Bool.and_eq_true] at hc
   have c1:=Nat.le_of_ble_eq_true hc.1
   have c2:=Nat.eq_of_beq_eq_true hc.2.1
   have c3:=Nat.le_of_ble_eq_true hc.2.2
   simp only [Option.some.injEq,Prod.mk.injEq] at hs
   obtain ⟨rfl,rfl⟩:=hs
   obtain ⟨vs,rfl,h1⟩:=hv
   obtain ⟨h2,h3⟩:=intsK_ok hl (h1.drop h)
   refine ⟨vs.toList.take h, ?_,h1.take h,by rw [List.length_take];omega,c2,by omega,h3⟩
   show vs.toList=_
   rw [← h2,List.take_append_drop]
  ·cases hs
 ·cases hs
def mxT (P:Program) (t:TypeId):Option (Nat×Nat):=
 match P.underlying t with
 | some (.array n _)=>bif Nat.ble 10 n then some (0,n) else none
 | some (.struct fs)=>(match fs.toList.getLast? with
  | some f=>(match P.underlying f.type with
   | some (.array n _)=>bif Nat.ble 10 n then some (f.offset,n) else none
   | _=>none)
  | none=>none)
 | _=>none
def blOf (P:Program) (t:TypeId) (y:A1):Option Bl:=
 match mxT P t with
 | none=>some (.cells y.cells t)
 | some (h,m)=>(match y with
  | .mx cs k m' l=>(match splitMx h k m y with
   | some (cs,l)=>some (.mix cs k m l t)
   | none=>none)
  | .g cs=>(match allInts (cs.drop h) with
   | some (k,_)=>(match splitMx h k m y with
    | some (cs,l)=>some (.mix cs k m l t)
    | none=>none)
   | none=>none)
  | .s _=>none)
theorem blOf_ok {P:Program} {C:Cx} {t:TypeId} {y:A1} {bl:Bl} {v:Value} {b:Nat} (h:blOf P t y=some bl) (hv:V1 C y v) (hb:C.ρ b < C.w.heap.size) (hh:C.w.heap[C.ρ b]? = some (.cells v.cells t (0,0))):BS C b bl:=by
 have key:∀ {hd:Nat} {k:IntKind} {m:Nat} {cs:List Sc} {l:List Int},splitMx hd k m y=some (cs,l)→BS C b (.mix cs k m l t):=by
  intro hd k m cs l hs
  obtain ⟨us,h1,h2,h3,h4,h5⟩:=splitMx_ok hs hv
  refine ⟨hb,us, ?_,h2,h4,h5⟩
  rw [hh,← h1]
 unfold blOf at h
 split at h
 ·injection h with h
  subst h
  exact ⟨hb,_,hh,hv.cells_ok⟩
 ·split at h
  ·split at h
   ·rename_i hs
    injection h with h
    subst h
    exact key hs
   ·cases h
  ·split at h
   ·split at h
    ·rename_i hs
     injection h with h
     subst h
     exact key hs
    ·cases h
   ·cases h
  ·cases h
theorem blOf_at {P:Program} {t:TypeId} {y:A1} {bl:Bl} (h:blOf P t y=some bl) (ρ:Nat→Nat) (vl:Nat→Value) (b:Nat):bl.at ρ vl b=some (ρ b):=by
 unfold blOf at h
 split at h
 ·injection h with h;subst h;rfl
 ·split at h
  ·split at h
   ·injection h with h;subst h;rfl
   ·cases h
  ·split at h
   ·split at h
    ·injection h with h;subst h;rfl
    ·cases h
   ·cases h
  ·cases h
def fillSc (place:Nat→Option (Nat×Nat)) (cs:List Sc):List (Nat×A1)→Option (List Sc)
 | []=>some cs
 | (i,x) :: rest=>match place i with
  | none=>none
  | some (o,n)=>bif Nat.beq x.cells.length n&&Nat.ble (o+x.cells.length) cs.length then fillSc place (setSeg cs o x.cells) rest else none
theorem VSs.len {C:Cx} {xs:List Sc} {vs:Array Value} (h:VSs C xs vs.toList):xs.length=vs.size:=by rw [h.length];simp
def V1p (C:Cx):List (Nat×A1)→List (Nat×Value)→Prop
 | [],[]=>True
 | (i,x) :: xs,(j,v) :: vs=>i=j∧V1 C x v∧V1p C xs vs
 | _,_=>False
theorem fillSc_ok {C:Cx} (place:Nat→Option (Nat×Nat)):∀ {ps:List (Nat×A1)} {qs:List (Nat×Value)} {cs r:List Sc} {vs:Array Value},V1p C ps qs→VSs C cs vs.toList→fillSc place cs ps=some r →
  ∃ vs',Instr.fill place vs qs=some vs'∧VSs C r vs'.toList
 | [],[],cs,r,vs,_,h2,h=>by simp only [fillSc,Option.some.injEq] at h;subst h;exact ⟨vs,rfl,h2⟩
 | (i,x) :: ps,(j,v) :: qs,cs,r,vs,h1,h2,h=>by
  obtain ⟨rfl,hx,h1⟩:=h1
  unfold fillSc at h
  unfold Instr.fill
  cases hp:place i with
  | none=>rw [hp] at h;cases h
  | some on =>
   obtain ⟨o,n⟩:=on
   rw [hp] at h
   obtain ⟨hb,h⟩:=bif_some h
   simp only [Bool.and_eq_true] at hb
   have e1:=Nat.eq_of_beq_eq_true hb.1
   have e2:=Nat.le_of_ble_eq_true hb.2
   have hc:=hx.cells_ok
   have hl:=hc.len
   have hl2:=h2.len
   have hcond:¬ ((v.cells.size≠n||decide (o+v.cells.size > vs.size))=true):=by
    simp
    omega
   simp only
   rw [if_neg hcond]
   have he:(v.cells.zipIdx.foldl (fun cs (x:Value×Nat)=>cs.setIfInBounds (o+x.2) x.1) vs).toList=setSegV vs.toList o v.cells.toList:=by
    rw [← Array.foldl_toList,Array.toList_zipIdx]
    exact foldl_seg v.cells.toList 0 o vs
   refine fillSc_ok place h1 ?_ h
   rw [show (v.cells.zipIdx.foldl (fun cs x=>match x with | (c,j)=>cs.setIfInBounds (o+j) c) vs)=v.cells.zipIdx.foldl (fun cs (x:Value×Nat)=>cs.setIfInBounds (o+x.2) x.1) vs from rfl,he]
   exact setSeg_ok o hc h2
 | [],_ :: _,_,_,_,h,_,_=>h.elim
 | _ :: _,[],_,_,_,h,_,_=>h.elim
section
variable {β:Type} {E:En} {w0:World} {ok0:Nat→Prop} {gs:List Nat} {ρ:Nat→Nat} {vl:Nat→Value} {σ:St} {a:Act} {w:World}
def opdParts (E:En) (σ:St):List (Nat×Operand)→Option (List (Nat×A1))
 | []=>some []
 | (i,x) :: r=>match opd E σ x,opdParts E σ r with
  | some (.one y),some ys=>some ((i,y) :: ys)
  | _,_=>none
theorem opdParts_ok (hR:Rel E w0 ok0 gs ρ vl σ a w):∀ {ps:List (Nat×Operand)} {qs:List (Nat×A1)},opdParts E σ ps=some qs →
  V1p (cx E w0 ok0 gs ρ vl σ w) qs (ps.map fun (x:Nat×Operand)=>(x.1,a.eval x.2))
 | [],qs,h=>by simp only [opdParts,Option.some.injEq] at h;subst h;trivial
 | (i,x) :: r,qs,h=>by
  unfold opdParts at h
  split at h
  ·rename_i y ys hx hr
   injection h with h
   subst h
   exact ⟨rfl,opd_ok hR hx,opdParts_ok hR hr⟩
  ·cases h
def popBuild (E:En) (σ:St) (t:TypeId) (parts:Array (Nat×Operand)) (K:AV→St→Option β):Option β:=
 match zeroSc E t,opdParts E σ parts.toList,E.P.underlying t with
 | some z,some ps,some (.struct fs)=>(match fs.toList.mapM (fun f=>(E.P.info? f.type).map fun i=>(f.offset,i.size)) with
  | some pl=>(match fillSc (fun i=>pl[i]?) z ps with
   | some cs=>K (.one (.g cs)) σ
   | none=>none)
  | none=>none)
 | some z,some ps,some (.array _ e)=>(match E.P.info? e with
  | some i=>(match fillSc (fun j=>some (j*i.size,i.size)) z ps with
   | some cs=>K (.one (.g cs)) σ
   | none=>none)
  | none=>none)
 | _,_,_=>none
theorem popBuild_ok (hR:Rel E w0 ok0 gs ρ vl σ a w) {o:Oper} {t:TypeId} {parts:Array (Nat×Operand)} {K:AV→St→Option β} {r:β} (ho:o.op = .build t parts) (h:popBuild E σ t parts K=some r):
  PureRes E w0 ok0 gs ρ vl a w o K r:=by
 have hpe:(parts.map fun (i,x)=>(i,a.eval x)).toList=parts.toList.map fun (x:Nat×Operand)=>(x.1,a.eval x.2):=by simp
 unfold popBuild at h
 split at h
 ·rename_i z ps fs hz hp ht
  obtain ⟨i,zv,hi,hzv,h1⟩:=zeroSc_info (C:=cx E w0 ok0 gs ρ vl σ w) rfl hz
  have h3:=opdParts_ok hR hp
  split at h
  ·rename_i pl hpl
   split at h
   ·rename_i cs hcs
    obtain ⟨vs,h4,h5⟩:=fillSc_ok _ h3 h1 hcs
    refine .mk' hR h (v:=.agg vs) ⟨vs,rfl,h5⟩ (fun w1=>?_)
    have hb:E.P.built t (parts.map fun (i,x)=>(i,a.eval x)).toList=some vs:=by
     rw [hpe]
     simp only [Program.built,hi,ht,hzv,hpl]
     simpa using h4
    simp only [execOp,ho,Sem.run_bind,run_build w1 t _ vs hb,Result.andThen_ok,Sem.run_pure]
   ·cases h
  ·cases h
 ·rename_i z ps n e hz hp ht
  obtain ⟨i,zv,hi,hzv,h1⟩:=zeroSc_info (C:=cx E w0 ok0 gs ρ vl σ w) rfl hz
  have h3:=opdParts_ok hR hp
  split at h
  ·rename_i ie hie
   split at h
   ·rename_i cs hcs
    obtain ⟨vs,h4,h5⟩:=fillSc_ok _ h3 h1 hcs
    refine .mk' hR h (v:=.agg vs) ⟨vs,rfl,h5⟩ (fun w1=>?_)
    have hb:E.P.built t (parts.map fun (i,x)=>(i,a.eval x)).toList=some vs:=by
     rw [hpe]
     simp only [Program.built,hi,ht,hzv,hie]
     exact h4
    simp only [execOp,ho,Sem.run_bind,run_build w1 t _ vs hb,Result.andThen_ok,Sem.run_pure]
   ·cases h
  ·cases h
 ·cases h
end
end Go.Proofs.YtbpcfhhcoklinaaGreat.Ab
namespace Go.Proofs.YtbpcfhhcoklinaaGreat.Ab
open Go Go.RowKit
section
variable {β:Type} {E:En} {w0:World} {ok0:Nat→Prop} {gs:List Nat} {ρ:Nat→Nat} {vl:Nat→Value} {σ:St} {a:Act} {w:World}
def partLd (P:Program) (t:TypeId) (cs:List Sc) (o:Nat):Option A1:=
 match aggSz P t with
 | some (true,n)=>bif Nat.ble (o+n) cs.length then some (.g ((cs.drop o).take n)) else none
 | some (false,_)=>(cs[o]?).map .s
 | none=>none
def partMx (P:Program) (t:TypeId) (cs:List Sc) (k:IntKind) (m:Nat) (l:List Int) (o:Nat):Option A1:=
 match aggSz P t with
 | some (true,n)=>bif Nat.beq o cs.length&&Nat.beq n m then some (.mx [] k m l) else bif Nat.beq o 0&&Nat.beq n (cs.length+m) then some (.mx cs k m l) else none
 | some (false,_)=>(cs[o]?).map .s
 | none=>none
def scalarT (P:Program) (t:TypeId):Bool:=
 match aggSz P t with
 | some (false,_)=>true
 | _=>false
theorem load_one {P:Program} {t:TypeId} {d:TypeDesc} (h:P.underlying t=some d) (hd:d.isRow=false) {p:Addr} {v:Value} {w1:World} (hv:w1.cell? p=some v):
  (Instr.loadAt t (.pointer (some p))).run P w1 = .ok v w1:=by
 simp [Instr.loadAt,Instr.sureAddr,loadVar,isAgg_no h hd,hv]
theorem cell_at {w1:World} {g o:Nat} {vs:Array Value} {t:TypeId} {fr:Nat×Nat} (h:w1.heap[g]? = some (.cells vs t fr)):w1.cell? ⟨g,o,none⟩=vs[o]?:=by
 simp [World.cell?,h]
theorem partLd_ok {P:Program} {C:Cx} {t t0:TypeId} {cs:List Sc} {o g:Nat} {x:A1} {us:Array Value} (h:partLd P t cs o=some x) (hv:VSs C cs us.toList):
  ∃ v,V1 C x v∧∀ w1:World,w1.heap[g]? = some (.cells us t0 (0,0))→(Instr.loadAt t (.pointer (some ⟨g,o,none⟩))).run P w1 = .ok v w1:=by
 unfold partLd at h
 split at h
 ·rename_i n hs
  obtain ⟨hb,h⟩:=bif_some h
  injection h with h
  subst h
  have hle:=Nat.le_of_ble_eq_true hb
  obtain ⟨d,i,hd,hi,hr,hn⟩:=aggSz_of hs
  have hl:=hv.len
  refine ⟨.agg ((us.toList.drop o).take n).toArray,⟨_,rfl,by simpa using (hv.drop o).take n⟩,fun w1 hw=>?_⟩
  refine run_loadAt_mid w1 g o t ((us.toList.drop o).take n) d ?_ hd hr ?_
  ·intro j v hj
   rw [cell_at hw]
   rw [List.getElem?_take] at hj
   split at hj
   ·rw [List.getElem?_drop] at hj
    simpa using hj
   ·cases hj
  ·rw [hi]
   simp
   omega
 ·rename_i n hs
  obtain ⟨d,i,hd,hi,hr,hn⟩:=aggSz_of hs
  cases hc:cs[o]? with
  | none=>rw [hc] at h;cases h
  | some y =>
   rw [hc] at h
   injection h with h
   subst h
   obtain ⟨v,h1,h2⟩:=hv.get hc
   exact ⟨v,h2,fun w1 hw=>load_one hd hr (by rw [cell_at hw];simpa using h1)⟩
 ·cases h
theorem partMx_ok {P:Program} {C:Cx} {t t0:TypeId} {cs:List Sc} {k:IntKind} {m:Nat} {l:List Int} {o g:Nat} {x:A1} {us:List Value} (h:partMx P t cs k m l o=some x) (hv:VSs C cs us) (hm:l.length=m) (hin:inL k l):
  ∃ v,V1 C x v∧∀ w1:World,w1.heap[g]? = some (.cells (us++l.map (Value.int k)).toArray t0 (0,0))→(Instr.loadAt t (.pointer (some ⟨g,o,none⟩))).run P w1 = .ok v w1:=by
 have hl:=hv.length
 unfold partMx at h
 split at h
 ·rename_i n hs
  obtain ⟨d,i,hd,hi,hr,hn⟩:=aggSz_of hs
  cases hb:(Nat.beq o cs.length&&Nat.beq n m) <;> rw [hb] at h
  ·simp only [cond_false] at h
   obtain ⟨hc,h⟩:=bif_some h
   simp only [Bool.and_eq_true] at hc
   have c1:=Nat.eq_of_beq_eq_true hc.1
   have c2:=Nat.eq_of_beq_eq_true hc.2
   injection h with h
   subst h c1
   refine ⟨.agg (us++l.map (Value.int k)).toArray,⟨us,rfl,hv,hm,hin⟩,fun w1 hw=>?_⟩
   refine run_loadAt_mid w1 g 0 t (us++l.map (Value.int k)) d ?_ hd hr ?_
   ·intro j v hj
    rw [cell_at hw]
    simpa using hj
   ·rw [hi]
    simp
    omega
  ·simp only [cond_true,Option.some.injEq] at h
   simp only [Bool.and_eq_true] at hb
   have c1:=Nat.eq_of_beq_eq_true hb.1
   have c2:=Nat.eq_of_beq_eq_true hb.2
   subst h c1
   refine ⟨.agg (l.map (Value.int k)).toArray,⟨[],rfl,trivial,hm,hin⟩,fun w1 hw=>?_⟩
   refine run_loadAt_mid w1 g cs.length t (l.map (Value.int k)) d ?_ hd hr ?_
   ·intro j v hj
    rw [cell_at hw,hl]
    simp only [List.getElem?_toArray]
    rw [List.getElem?_append_right (by omega)]
    simpa using hj
   ·rw [hi]
    simp
    omega
 ·rename_i n hs
  obtain ⟨d,i,hd,hi,hr,hn⟩:=aggSz_of hs
  cases hc:cs[o]? with
  | none=>rw [hc] at h;cases h
  | some y =>
   rw [hc] at h
   injection h with h
   subst h
   obtain ⟨v,h1,h2⟩:=hv.get hc
   refine ⟨v,h2,fun w1 hw=>load_one hd hr ?_⟩
   rw [cell_at hw]
   simp only [List.getElem?_toArray]
   rw [List.getElem?_append_left (List.getElem?_eq_some_iff.1 h1).1]
   exact h1
 ·cases h
theorem mix_cell {w1:World} {g:Nat} {us:List Value} {k:IntKind} {l:List Int} {t:TypeId} (h:w1.heap[g]? = some (.cells (us++l.map (Value.int k)).toArray t (0,0))) {o j:Nat} (ho:o=us.length) (hj:j < l.length):w1.cell? ⟨g,o+j,none⟩=some (.int k l[j]):=by
 rw [cell_at h,ho]
 simp only [List.getElem?_toArray]
 rw [List.getElem?_append_right (by omega)]
 simp [hj]
def srcOf (E:En) (σ:St) (o:Oper):Option Nat:=
 match o.op with
 | .load _ x | .convert _ _ x=>(match opd E σ x with
  | some (.one (.s (.ptr b _)))=>some b
  | some (.one (.s (.ep b _)))=>some b
  | some (.one (.s (.lst b)))=>some b
  | some (.one (.s (.me b _ _ _)))=>some b
  | some (.one (.s (.win b _ _ _)))=>some b
  | some (.one (.s (.es b _ _)))=>some b
  | _=>none)
 | _=>none
def Others (ρ:Nat→Nat) (vl:Nat→Value) (σ:St) (src:Option Nat) (gs1:List Nat):Prop:=∀ g∈gs1,(∃ b,liveAt ρ vl σ b g∧src≠some b)∨∃ b,src=some b∧¬ liveAt ρ vl σ b g
def ReadRes (E:En) (w0:World) (ok0:Nat→Prop) (gs:List Nat) (ρ:Nat→Nat) (vl:Nat→Value) (σ:St) (a:Act) (w:World) (o:Oper) (K:AV→St→Option β) (r:β):Prop:=
 ∃ x v,K x σ = some r∧VV (cx E w0 ok0 gs ρ vl σ w) x v∧∀ gs1 w1,Bw gs1 w w1→Others ρ vl σ (srcOf E σ o) gs1→(execOp a.eval o).run E.P w1 = .ok (.value v) w1
theorem Others.own (hR:Rel E w0 ok0 gs ρ vl σ a w) {src:Option Nat} {gs1:List Nat} (h:Others ρ vl σ src gs1) {b g:Nat} (hs:src=some b) (hl:liveAt ρ vl σ b g):g ∉ gs1:=by
 intro hm
 rcases h g hm with ⟨b',h1,h2⟩ | ⟨b',h1,h2⟩
 ·exact h2 (by rw [hs,hR.dist b' b g h1 hl])
 ·rw [hs] at h1
  injection h1 with h1
  subst h1
  exact h2 hl
theorem Others.ok (hR:Rel E w0 ok0 gs ρ vl σ a w) {src:Option Nat} {gs1:List Nat} (h:Others ρ vl σ src gs1) (hs:src=none) {g:Nat} (hg:(cx E w0 ok0 gs ρ vl σ w).ok g):g ∉ gs1:=by
 intro hm
 obtain ⟨b',h1, -⟩:=(h g hm).resolve_right (by rintro ⟨b,h1, -⟩;rw [hs] at h1;cases h1)
 rcases hg with ⟨h0,h2⟩ | ⟨-, -,h2⟩
 ·rcases (hR.own b' g h1).1.1 with h3 | h3
  ·omega
  ·exact (hR.rc g h3.2).2.2 h0
 ·exact h2 b' h1
def Cp.sc:Cp→Sc
 | .int k n=>.int k n none none
 | .row k l=>.rd k l
 | .bool b=>.bool (.lit b)
theorem CpVs.scs {C:Cx}:∀ {cs:List Cp} {us:List Value},CpVs C cs us→VSs C (cs.map Cp.sc) us∧us.length=cs.length
 | [],[],_=>⟨trivial,rfl⟩
 | c :: cs,u :: us,h=>by
  obtain ⟨h1,h2⟩:=CpVs.scs h.2
  refine ⟨⟨?_,h1⟩,by simp [h2]⟩
  cases c with
  | int k n=>exact ⟨h.1.1,h.1.2,by simp,by simp⟩
  | row k l=>exact h.1
  | bool b=>exact h.1
 | [],_ :: _,h=>h.elim
 | _ :: _,[],h=>h.elim
def pickSc (j:Int):List Int→List Sc→(Sc→Option β)→Option β
 | i :: is,x :: xs,K=>if j=i then K x else pickSc j is xs K
 | _,_,_=>none
theorem pickSc_some {j:Int} {K:Sc→Option β} {r:β}:∀ {is:List Int} {xs:List Sc},pickSc j is xs K=some r→∃ (m:Nat) (x:Sc),is[m]? = some j∧xs[m]? = some x∧K x=some r
 | [],xs,h=>by simp [pickSc] at h
 | _ :: _,[],h=>by simp [pickSc] at h
 | i :: is,x :: xs,h=>by
  unfold pickSc at h
  split at h
  ·rename_i hj
   exact ⟨0,x,by rw [hj];rfl,rfl,h⟩
  ·obtain ⟨m,y,h1,h2,h3⟩:=pickSc_some h
   exact ⟨m+1,y,by simpa using h1,by simpa using h2,h3⟩
theorem pick_at {j:Int}:∀ {m:Nat},([0,1,2,3,4,5,6,7]:List Int)[m]? = some j→m=j.toNat
 | 0,h | 1,h | 2,h | 3,h | 4,h | 5,h | 6,h | 7,h=>by
  simp at h
  omega
 | m+8,h=>by simp at h
def popLoad (E:En) (σ:St) (t:TypeId) (x:Operand) (K:AV→St→Option β):Option β:=
 match opd E σ x with
 | some (.one (.s (.ptr b o)))=>(match σ.bl[b]? with
  | some (.cells cs _)=>(match partLd E.P t cs o with
   | some y=>K (.one y) σ
   | none=>none)
  | some (.mix cs k m l _)=>(match partMx E.P t cs k m l o with
   | some y=>K (.one y) σ
   | none=>none)
  | _=>none)
 | some (.one (.s (.me b o n j)))=>(match σ.bl[b]? with
  | some (.mix cs k m l _)=>bif scalarT E.P t&&(Nat.beq o cs.length&&Nat.ble n m) then K (.one (.s (.int k (rd l j) none none))) σ else none
  | some (.cells cs _)=>(match allInts ((cs.drop o).take n) with
   | some (k,l)=>bif scalarT E.P t&&(Nat.beq l.length n&&Nat.ble (o+n) cs.length) then K (.one (.s (.int k (rd l j) none none))) σ else none
   | none=>bif scalarT E.P t&&Nat.ble n 8 then pickSc j [0,1,2,3,4,5,6,7] ((cs.drop o).take n) (fun y=>K (.one (.s y)) σ) else none)
  | _=>none)
 | some (.one (.s (.ep b i)))=>(match σ.bl[b]? with
  | some (.ints k _ l)=>bif scalarT E.P t then K (.one (.s (.int k (rd l i) none none))) σ else none
  | _=>none)
 | some (.one (.s (.rp k l i)))=>bif scalarT E.P t then K (.one (.s (.int k (rd l i) none none))) σ else none
 | some (.one (.s (.cp (.int k n))))=>bif scalarT E.P t then K (.one (.s (.int k n none none))) σ else none
 | some (.one (.s (.cp (.row k l))))=>bif scalarT E.P t then K (.one (.s (.rd k l))) σ else none
 | some (.one (.s (.cp (.bool b))))=>bif scalarT E.P t then K (.one (.s (.bool (.lit b)))) σ else none
 | some (.one (.s (.rps cs)))=>(match aggSz E.P t with
  | some (true,n)=>bif Nat.beq n cs.length then K (.one (.g (cs.map Cp.sc))) σ else none
  | _=>none)
 | some (.one (.s (.es b sz i)))=>(match σ.bl[b]?,aggSz E.P t with
  | some (.rows ks _ l),some (true,n)=>bif Nat.beq n ks.length&&Nat.beq sz ks.length then K (.one (.g ((CT.mk ks (l.getD i.toNat (CT.dft ks))).map Cp.sc))) σ else none
  | _,_=>none)
 | _=>none
theorem rows_at {C:Cx} {b:Nat} {ks:List Ck} {t:TypeId} {l:List (CT ks)} (h:BS C b (.rows ks t l)) {A:Addr} {n c:Nat} (hv:C.vl b = .slice (some A) n c):
  n=l.length∧A.block < C.w.heap.size∧C.base≤A.block∧(C.vl b).ownBlock=some A.block∧A=⟨A.block,0,none⟩∧n≤c∧∃ cur,C.w.heap[A.block]? = some (.cells cur t (0,0))∧cur.size=c*ks.length∧cur.toList.take (n*ks.length)=flatV ks l:=by
 obtain ⟨hin,h1,h2⟩:=h
 rcases h2 with ⟨h2, -⟩ | ⟨g,cap,cur,e1,e2,e3,e4,e5,e6,e7⟩
 ·rw [hv] at h2;cases h2
 ·rw [hv] at e1
  injection e1 with e1 e8 e9
  injection e1 with e1
  subst e1 e8 e9
  exact ⟨rfl,(Array.getElem?_eq_some_iff.1 e3).1,e2,by rw [hv];rfl,rfl,e4,cur,e3,e6,e7⟩
theorem vals_cp {C:Cx}:∀ {ks:List Ck} {x:CT ks},noRow ks=true→CT.wf ks x→CpVs C (CT.mk ks x) (CT.vals ks x):=by
 have one:∀ (k:Ck) (x:k.T),noRow [k]=true→k.wf x→CpV C (k.mk x) (k.val x):=by
  intro k x h hw
  cases k with
  | int k=>exact ⟨rfl,hw⟩
  | bool=>exact rfl
  | row k=>cases h
 have two:∀ {k:Ck} {r:List Ck},noRow (k :: r)=true→noRow [k]=true∧noRow r=true:=by
  intro k r h
  cases k <;> first | exact ⟨rfl,h⟩ | cases h
 intro ks
 induction ks with
 | nil=>intro x _ _;trivial
 | cons k r ih =>
  intro x h hw
  cases r with
  | nil=>exact ⟨one k x h hw,trivial⟩
  | cons k2 r=>exact ⟨one k x.1 (two h).1 hw.1,ih (two h).2 hw.2⟩
theorem scalarT_of {P:Program} {t:TypeId} (h:scalarT P t=true):∃ d,P.underlying t=some d∧d.isRow=false:=by
 unfold scalarT at h
 split at h
 ·rename_i n hs
  obtain ⟨d,i,hd,hi,hr,hn⟩:=aggSz_of hs
  exact ⟨d,hd,hr⟩
 ·cases h
theorem rd_get {l:List Int} {i:Int} (h:i.toNat < l.length):rd l i=l[i.toNat]:=by
 unfold rd
 rw [List.getD_eq_getElem?_getD,List.getElem?_eq_getElem h]
 rfl
theorem ints_at {C:Cx} {b:Nat} {k:IntKind} {t:TypeId} {l:List Int} (h:BS C b (.ints k t l)) {A:Addr} {n c:Nat} (hv:C.vl b = .slice (some A) n c):
  n=l.length∧A.block < C.w.heap.size∧C.base≤A.block∧(C.vl b).ownBlock=some A.block∧A=⟨A.block,0,none⟩∧n≤c∧∃ cur,C.w.heap[A.block]? = some (.cells cur t (0,0))∧cur.size=c∧cur.toList.take n=l.map (Value.int k):=by
 obtain ⟨hin,h1,h2⟩:=h
 rcases h2 with ⟨h2, -⟩ | ⟨g,cap,cur,e1,e2,e3,e4,e5,e6,e7⟩
 ·rw [hv] at h2;cases h2
 ·rw [hv] at e1
  injection e1 with e1 e8 e9
  injection e1 with e1
  subst e1 e8 e9
  exact ⟨rfl,(Array.getElem?_eq_some_iff.1 e3).1,e2,by rw [hv];rfl,rfl,e4,cur,e3,by omega,by simpa using e7⟩
theorem popLoad_ok (hR:Rel E w0 ok0 gs ρ vl σ a w) {o:Oper} {t:TypeId} {x:Operand} {K:AV→St→Option β} {r:β} (ho:o.op = .load t x) (h:popLoad E σ t x K=some r):
  ReadRes E w0 ok0 gs ρ vl σ a w o K r:=by
 unfold popLoad at h
 split at h
 ·rename_i b o' hx
  obtain ⟨h1,e1⟩:=opd_ok hR hx
  split at h
  ·rename_i cs t0 hb
   obtain ⟨h2,us,h3,h4⟩:=hR.bl b _ hb
   split at h
   ·rename_i y hy
    obtain ⟨v,h5,h6⟩:=partLd_ok (g:=ρ b) (t0:=t0) hy h4
    refine ⟨_,v,h,h5,fun gs1 w1 hw hg=>?_⟩
    have e1':a.eval x = .pointer (some ⟨ρ b,o',none⟩):=e1
    have hn:=hg.own hR (b:=b) (g:=ρ b) (by simp [srcOf,ho,hx]) ⟨_,hb,rfl⟩
    simp only [execOp,ho,e1',Sem.run_bind,h6 w1 ((hw.block _ h2 hn).trans h3),Result.andThen_ok,Sem.run_pure]
   ·cases h
  ·rename_i cs k m l t0 hb
   obtain ⟨h2,us,h3,h4,h4m,h4i⟩:=hR.bl b _ hb
   split at h
   ·rename_i y hy
    obtain ⟨v,h5,h6⟩:=partMx_ok (g:=ρ b) (t0:=t0) hy h4 h4m h4i
    refine ⟨_,v,h,h5,fun gs1 w1 hw hg=>?_⟩
    have e1':a.eval x = .pointer (some ⟨ρ b,o',none⟩):=e1
    have hn:=hg.own hR (b:=b) (g:=ρ b) (by simp [srcOf,ho,hx]) ⟨_,hb,rfl⟩
    simp only [execOp,ho,e1',Sem.run_bind,h6 w1 ((hw.block _ h2 hn).trans h3),Result.andThen_ok,Sem.run_pure]
   ·cases h
  ·cases h
 ·rename_i b o' n j hx
  obtain ⟨h1,hj0,hjn,e1⟩:=opd_ok hR hx
  have e1':a.eval x = .pointer (some ⟨ρ b,o'+j.toNat,none⟩):=e1
  split at h
  ·rename_i cs k m l t0 hb
   obtain ⟨hs,h⟩:=bif_some h
   simp only [Bool.and_eq_true] at hs
   obtain ⟨d,hd,hr⟩:=scalarT_of hs.1
   have s1:=Nat.eq_of_beq_eq_true hs.2.1
   have s2:=Nat.le_of_ble_eq_true hs.2.2
   obtain ⟨h2,us,h3,h4,h4m,h4i⟩:=hR.bl b _ hb
   have hl:=h4.length
   have hj:j.toNat < l.length:=by omega
   refine ⟨_,_,h,⟨rfl,by rw [rd_get hj];exact h4i.2 _ (List.getElem_mem hj),by simp,by simp⟩,fun gs1 w1 hw hg=>?_⟩
   have hn:=hg.own hR (b:=b) (g:=ρ b) (by simp [srcOf,ho,hx]) ⟨_,hb,rfl⟩
   have hcell:w1.cell? ⟨ρ b,o'+j.toNat,none⟩=some (.int k (rd l j)):=by
    rw [rd_get hj]
    exact mix_cell (g:=ρ b) ((hw.block _ h2 hn).trans h3) (by omega) hj
   simp only [execOp,ho,e1',Sem.run_bind,load_one hd hr hcell,Result.andThen_ok,Sem.run_pure]
  ·rename_i cs t0 hb
   split at h
   ·rename_i k l hai
    obtain ⟨hs,h⟩:=bif_some h
    simp only [Bool.and_eq_true] at hs
    obtain ⟨d,hd,hr⟩:=scalarT_of hs.1
    have s1:=Nat.eq_of_beq_eq_true hs.2.1
    have s2:=Nat.le_of_ble_eq_true hs.2.2
    obtain ⟨h2,vs,h3,h4⟩:=hR.bl b _ hb
    obtain ⟨h5,h6⟩:=allInts_ok hai ((h4.drop o').take n)
    have hj:j.toNat < l.length:=by omega
    refine ⟨_,_,h,⟨rfl,by rw [rd_get hj];exact h6 _ (List.getElem_mem hj),by simp,by simp⟩,fun gs1 w1 hw hg=>?_⟩
    have hn:=hg.own hR (b:=b) (g:=ρ b) (by simp [srcOf,ho,hx]) ⟨_,hb,rfl⟩
    have hcell:w1.cell? ⟨ρ b,o'+j.toNat,none⟩=some (.int k (rd l j)):=by
     rw [rd_get hj]
     refine (cell_at (g:=ρ b) ((hw.block _ h2 hn).trans h3)).trans ?_
     have h7:((vs.toList.drop o').take n)[j.toNat]? = some (.int k l[j.toNat]):=by rw [h5];simp [hj]
     rw [List.getElem?_take,if_pos (by omega),List.getElem?_drop] at h7
     simpa using h7
    simp only [execOp,ho,e1',Sem.run_bind,load_one hd hr hcell,Result.andThen_ok,Sem.run_pure]
   ·obtain ⟨hs,h⟩:=bif_some h
    simp only [Bool.and_eq_true] at hs
    obtain ⟨d,hd,hr⟩:=scalarT_of hs.1
    obtain ⟨h2,vs,h3,h4⟩:=hR.bl b _ hb
    obtain ⟨m,y,hjm,hm,hk⟩:=pickSc_some h
    have hm2:m=j.toNat:=pick_at hjm
    subst hm2
    obtain ⟨v,hv1,hv2⟩:=((h4.drop o').take n).get hm
    refine ⟨_,v,hk,hv2,fun gs1 w1 hw hg=>?_⟩
    have hn:=hg.own hR (b:=b) (g:=ρ b) (by simp [srcOf,ho,hx]) ⟨_,hb,rfl⟩
    have hcell:w1.cell? ⟨ρ b,o'+j.toNat,none⟩=some v:=by
     refine (cell_at (g:=ρ b) ((hw.block _ h2 hn).trans h3)).trans ?_
     rw [List.getElem?_take] at hv1
     split at hv1
     ·rw [List.getElem?_drop] at hv1
      simpa using hv1
     ·cases hv1
    simp only [execOp,ho,e1',Sem.run_bind,load_one hd hr hcell,Result.andThen_ok,Sem.run_pure]
  ·cases h
 ·rename_i b i hx
  obtain ⟨h0,A,n,c,h1,h2,h3,e1⟩:=opd_ok hR hx
  split at h
  ·rename_i k t0 l hb
   obtain ⟨hs,h⟩:=bif_some h
   obtain ⟨d,hd,hr⟩:=scalarT_of hs
   have hB:=hR.bl b _ hb
   obtain ⟨e2,h4,h5,h6,h7,h8,cur,h9,h10,h11⟩:=ints_at hB h1
   have hi:i.toNat < l.length:=by omega
   have hcell:∀ gs1 w1,Bw gs1 w w1→Others ρ vl σ (srcOf E σ o) gs1→w1.cell? (A.add i.toNat)=some (.int k (rd l i)):=by
    intro gs1 w1 hw hg
    have hn:=hg.own hR (b:=b) (g:=A.block) (by simp [srcOf,ho,hx]) ⟨_,hb,h6⟩
    rw [cell_of (w:=w) (by rw [add_block];exact hw.block _ h4 hn),h7,Addr.add_mid,cell_at (w1:=w) h9]
    have:(cur.toList.take n)[i.toNat]? = some (.int k (rd l i)):=by
     rw [h11,List.getElem?_map,List.getElem?_eq_getElem hi,rd_get hi];rfl
    rw [List.getElem?_take,if_pos (by omega)] at this
    simpa using this
   refine ⟨_,_,h,⟨rfl, ?_,by simp,by simp⟩,fun gs1 w1 hw hg=>?_⟩
   ·rw [rd_get hi];exact hB.1.2 _ (List.getElem_mem hi)
   ·simp only [execOp,ho,e1,Sem.run_bind,load_one hd hr (hcell gs1 w1 hw hg),Result.andThen_ok,Sem.run_pure]
  ·cases h
 ·rename_i k l i hx
  obtain ⟨hs,h⟩:=bif_some h
  obtain ⟨d,hd,hr⟩:=scalarT_of hs
  obtain ⟨h0,hl,A,e1,h1,h2,h3,h4⟩:=opd_ok hR hx
  refine ⟨_,_,h,⟨rfl,by rw [rd_get hl];exact h4,by simp,by simp⟩,fun gs1 w1 hw hg=>?_⟩
  have hcell:w1.cell? A=some (.int k (rd l i)):=by
   rw [cell_of (w:=w) (hw.block _ h2 (hg.ok hR (by simp [srcOf,ho,hx]) h1)),rd_get hl];exact h3
  simp only [execOp,ho,e1,Sem.run_bind,load_one hd hr hcell,Result.andThen_ok,Sem.run_pure]
 ·rename_i k n hx
  obtain ⟨hs,h⟩:=bif_some h
  obtain ⟨d,hd,hr⟩:=scalarT_of hs
  obtain ⟨A,u,e1,h1,h2,h3,rfl,h4⟩:=opd_ok hR hx
  refine ⟨_,_,h,⟨rfl,h4,by simp,by simp⟩,fun gs1 w1 hw hg=>?_⟩
  have hcell:w1.cell? A=some (.int k n):=by
   rw [cell_of (w:=w) (hw.block _ h2 (hg.ok hR (by simp [srcOf,ho,hx]) h1))];exact h3
  simp only [execOp,ho,e1,Sem.run_bind,load_one hd hr hcell,Result.andThen_ok,Sem.run_pure]
 ·rename_i k l hx
  obtain ⟨hs,h⟩:=bif_some h
  obtain ⟨d,hd,hr⟩:=scalarT_of hs
  obtain ⟨A,u,e1,h1,h2,h3,h4⟩:=opd_ok hR hx
  refine ⟨_,u,h,h4,fun gs1 w1 hw hg=>?_⟩
  have hcell:w1.cell? A=some u:=by
   rw [cell_of (w:=w) (hw.block _ h2 (hg.ok hR (by simp [srcOf,ho,hx]) h1))];exact h3
  simp only [execOp,ho,e1,Sem.run_bind,load_one hd hr hcell,Result.andThen_ok,Sem.run_pure]
 ·rename_i b hx
  obtain ⟨hs,h⟩:=bif_some h
  obtain ⟨d,hd,hr⟩:=scalarT_of hs
  obtain ⟨A,u,e1,h1,h2,h3,h4⟩:=opd_ok hR hx
  refine ⟨_,u,h,h4,fun gs1 w1 hw hg=>?_⟩
  have hcell:w1.cell? A=some u:=by
   rw [cell_of (w:=w) (hw.block _ h2 (hg.ok hR (by simp [srcOf,ho,hx]) h1))];exact h3
  simp only [execOp,ho,e1,Sem.run_bind,load_one hd hr hcell,Result.andThen_ok,Sem.run_pure]
 ·rename_i cs hx
  obtain ⟨g,off,e1,h1,h2,us,h3,h4⟩:=opd_ok hR hx
  split at h
  ·rename_i n hs
   obtain ⟨hn,h⟩:=bif_some h
   have hn:=Nat.eq_of_beq_eq_true hn
   obtain ⟨d,i,hd,hi,hr,hsz⟩:=aggSz_of hs
   obtain ⟨h5,h6⟩:=h3.scs
   refine ⟨_,.agg us.toArray,h,⟨_,rfl,by simpa using h5⟩,fun gs1 w1 hw hg=>?_⟩
   have hb:=hw.block _ h2 (hg.ok hR (by simp [srcOf,ho,hx]) h1)
   have:=run_loadAt_mid w1 g off t us d (fun j v hj=>by rw [cell_of (w:=w) hb];exact h4 j v hj) hd hr (by rw [hi];simp;omega)
   simp only [execOp,ho,e1,Sem.run_bind,this,Result.andThen_ok,Sem.run_pure]
  ·cases h
 ·rename_i b sz i hx
  obtain ⟨h0,A,n,c,h1,h2,h3,e1⟩:=opd_ok hR hx
  split at h
  ·rename_i ks t0 l m hb hs
   obtain ⟨hn,h⟩:=bif_some h
   simp only [Bool.and_eq_true] at hn
   have hn1:=Nat.eq_of_beq_eq_true hn.1
   have hn2:=Nat.eq_of_beq_eq_true hn.2
   obtain ⟨d,ti,hd,hi,hr,hsz⟩:=aggSz_of hs
   have hB:=hR.bl b _ hb
   obtain ⟨e2,h4,h5,h6,h7,h8,cur,h9,h10,h11⟩:=rows_at hB h1
   have hil:i.toNat < l.length:=by omega
   have hget:l.getD i.toNat (CT.dft ks)=l[i.toNat]:=by rw [List.getD_eq_getElem?_getD,List.getElem?_eq_getElem hil];rfl
   rw [hget] at h
   have hcp:=vals_cp (C:=cx E w0 ok0 gs ρ vl σ w) hB.1.2.1.1 (hB.1.2.2 _ (List.getElem_mem hil))
   obtain ⟨h12,h13⟩:=hcp.scs
   refine ⟨_,.agg (CT.vals ks l[i.toNat]).toArray,h,⟨_,rfl,by simpa using h12⟩,fun gs1 w1 hw hg=>?_⟩
   have hnm:=hg.own hR (b:=b) (g:=A.block) (by simp [srcOf,ho,hx]) ⟨_,hb,h6⟩
   have hcell:∀ (j:Nat) (v:Value),(CT.vals ks l[i.toNat])[j]? = some v→w1.cell? ⟨A.block,i.toNat*sz+j,none⟩=some v:=by
    intro j v hj
    have hjl:j < ks.length:=by have:=(List.getElem?_eq_some_iff.1 hj).1;rw [CT.vals_len] at this;exact this
    rw [cell_of (w:=w) (a:=⟨A.block,i.toNat*sz+j,none⟩) (hw.block A.block h4 hnm),cell_at (w1:=w) h9,hn2]
    have:=flatV_get l i.toNat j hil hjl
    rw [hj,← h11,List.getElem?_take,if_pos (by rw [e2];have:(i.toNat+1)*ks.length≤l.length*ks.length:=Nat.mul_le_mul_right _ hil;rw [Nat.add_mul,Nat.one_mul] at this;omega)] at this
    simpa using this
   have:=run_loadAt_mid w1 A.block (i.toNat*sz) t (CT.vals ks l[i.toNat]) d hcell hd hr (by rw [hi,CT.vals_len];simp;omega)
   rw [h7,Addr.add_mid,Nat.zero_add] at e1
   simp only [execOp,ho,e1,Sem.run_bind,this,Result.andThen_ok,Sem.run_pure]
  ·cases h
 ·cases h
def upd {α:Type} (f:Nat→α) (n:Nat) (x:α):Nat→α:=fun b=>if b=n then x else f b
theorem upd_ne {α:Type} {f:Nat→α} {n b:Nat} {x:α} (h:b≠n):upd f n x b=f b:=if_neg h
theorem upd_eq {α:Type} {f:Nat→α} {n:Nat} {x:α}:upd f n x n=x:=if_pos rfl
def St.new (σ:St) (b:Bl):St:={ σ with bl:=σ.bl++[b] }
theorem live_lt {b g:Nat} (h:liveAt ρ vl σ b g):b < σ.bl.length:=by
 obtain ⟨x,h1, -⟩:=h
 exact bl_lt h1
theorem live_new {σ:St} {nb:Bl} {g:Nat} {v:Value} {b g':Nat} (h:liveAt (upd ρ σ.bl.length g) (upd vl σ.bl.length v) (σ.new nb) b g'):
  (b < σ.bl.length∧liveAt ρ vl σ b g')∨(b = σ.bl.length∧nb.at (upd ρ σ.bl.length g) (upd vl σ.bl.length v) b=some g'):=by
 obtain ⟨x,h1,h2⟩:=h
 rcases Nat.lt_trichotomy b σ.bl.length with hb | hb | hb
 ·refine .inl ⟨hb,x, ?_, ?_⟩
  ·rw [← h1];simp [St.new,List.getElem?_append_left hb]
  ·cases x <;> simp only [Bl.at] at h2 ⊢
   ·rw [upd_ne (by omega)] at h2;exact h2
   ·rw [upd_ne (by omega)] at h2;exact h2
   ·exact h2
   ·rw [upd_ne (by omega)] at h2;exact h2
   ·rw [upd_ne (by omega)] at h2;exact h2
 ·subst hb
  have:x=nb:=by simp [St.new] at h1;exact h1.symm
  subst this
  exact .inr ⟨rfl,h2⟩
 ·simp [St.new] at h1
  rw [List.getElem?_append_right (by omega)] at h1
  rw [List.getElem?_eq_none (by simp;omega)] at h1
  cases h1
theorem Rel.new (hR:Rel E w0 ok0 gs ρ vl σ a w) {w':World} (hw:Bw [] w w') {nb:Bl} {g:Nat} {v:Value} (hg:∀ q,nb.at (upd ρ σ.bl.length g) (upd vl σ.bl.length v) σ.bl.length=some q→w.heap.size≤q∧q < w'.heap.size)
  (hb:(∀ x u,VS (cx E w0 ok0 gs ρ vl σ w) x u→VS (cx E w0 ok0 gs (upd ρ σ.bl.length g) (upd vl σ.bl.length v) (σ.new nb) w') x u)→BS (cx E w0 ok0 gs (upd ρ σ.bl.length g) (upd vl σ.bl.length v) (σ.new nb) w') σ.bl.length nb):
  Rel E w0 ok0 gs (upd ρ σ.bl.length g) (upd vl σ.bl.length v) (σ.new nb) a w'∧(cx E w0 ok0 gs ρ vl σ w).Le (cx E w0 ok0 gs (upd ρ σ.bl.length g) (upd vl σ.bl.length v) (σ.new nb) w'):=by
 have hlen:(σ.new nb).bl.length = σ.bl.length+1:=by simp [St.new]
 have hle:(cx E w0 ok0 gs ρ vl σ w).Le (cx E w0 ok0 gs (upd ρ σ.bl.length g) (upd vl σ.bl.length v) (σ.new nb) w'):=by
  refine ⟨rfl,by simp only [cx];omega,fun b hb=>upd_ne (by simp only [cx] at hb;omega),fun b hb=>upd_ne (by simp only [cx] at hb;omega),fun i e h=>⟨e,h,rfl⟩, ?_,hw.size,fun q hq hlt=>hw.block q hlt (by simp)⟩
  intro q hq hlt
  rcases hq with hq | ⟨h1,h1',h2⟩
  ·exact .inl hq
  ·refine .inr ⟨h1,h1',fun b hl=>?_⟩
   rcases live_new hl with ⟨-,h3⟩ | ⟨rfl,h3⟩
   ·exact h2 b h3
   ·have:=(hg q h3).1
    have hlt':q < w.heap.size:=hlt
    omega
 refine ⟨⟨hR.size,hR.defers,fun t av ht=>⟨(hR.tm t av ht).1,(hR.tm t av ht).2.le hle⟩, ?_, ?_, ?_, ?_, ?_⟩,hle⟩
 ·intro b x hx
  rcases Nat.lt_trichotomy b σ.bl.length with hlt | rfl | hgt
  ·have hx':σ.bl[b]? = some x:=by rw [← hx];simp [St.new,List.getElem?_append_left hlt]
   refine BS.le hle rfl hlt (fun q hq=>?_) (hR.bl b x hx')
   exact hw.block q (hR.own b q ⟨x,hx',hq⟩).2 (by simp)
  ·have:x=nb:=by simp [St.new] at hx;exact hx.symm
   subst this
   exact hb (fun x u h=>h.le hle)
  ·simp [St.new] at hx
   rw [List.getElem?_append_right (by omega)] at hx
   rw [List.getElem?_eq_none (by simp;omega)] at hx
   cases hx
 ·intro b b' q h1 h2
  rcases live_new h1 with ⟨h3,h4⟩ | ⟨rfl,h4⟩ <;> rcases live_new h2 with ⟨h5,h6⟩ | ⟨rfl,h6⟩
  ·exact hR.dist b b' q h4 h6
  ·have:=(hg q h6).1
   have:=(hR.own b q h4).2
   omega
  ·have:=(hg q h4).1
   have:=(hR.own b' q h6).2
   omega
  ·rfl
 ·intro b q h1
  rcases live_new h1 with ⟨h3,h4⟩ | ⟨rfl,h4⟩
  ·exact ⟨(hR.own b q h4).1,Nat.lt_of_lt_of_le (hR.own b q h4).2 hw.size⟩
  ·have:=hR.bw.size
   exact ⟨⟨.inl (Nat.le_trans this (hg q h4).1),fun hm=>by have:=(hR.bw.hid q hm).2;have:=(hg q h4).1;omega⟩,(hg q h4).2⟩
 ·exact hR.bw.step hw
 ·intro q hq
  obtain ⟨h1,h2,h3⟩:=hR.rc q hq
  refine ⟨by omega,fun p hp=>?_,h3⟩
  rcases live_new hp with ⟨-,h4⟩ | ⟨h4, -⟩
  ·exact h2 p h4
  ·omega
end
end Go.Proofs.YtbpcfhhcoklinaaGreat.Ab
namespace Go.Proofs.YtbpcfhhcoklinaaGreat.Ab
open Go Go.RowKit
section
variable {β:Type} {E:En} {w0:World} {ok0:Nat→Prop} {gs:List Nat} {ρ:Nat→Nat} {vl:Nat→Value} {σ:St} {a:Act} {w:World}
def EffRes (E:En) (w0:World) (ok0:Nat→Prop) (gs:List Nat) (a:Act) (w:World) (o:Oper) (K:AV→St→Option β) (r:β):Prop:=
 ∃ x σ' v w' ρ' vl',K x σ'=some r∧(execOp a.eval o).run E.P w = .ok (.value v) w'∧Rel E w0 ok0 gs ρ' vl' σ' a w'∧VV (cx E w0 ok0 gs ρ' vl' σ' w') x v∧Bw [] w w'
theorem bw_alloc (w:World) (o:Obj):Bw [] w { w with heap:=w.heap.push o }:=
 ⟨rfl,rfl,rfl,Nat.le_refl _,by simp,fun k hk _=>by simp only [Array.getElem?_push];rw [if_neg (by omega)]⟩
theorem Rel.alloc (hR:Rel E w0 ok0 gs ρ vl σ a w) {cs:List Sc} {vs:Array Value} {t:TypeId} (hv:VSs (cx E w0 ok0 gs ρ vl σ w) cs vs.toList):
  ∃ ρ' vl',Rel E w0 ok0 gs ρ' vl' (σ.new (.cells cs t)) a { w with heap:=w.heap.push (.cells vs t (0,0)) } ∧
   VV (cx E w0 ok0 gs ρ' vl' (σ.new (.cells cs t)) { w with heap:=w.heap.push (.cells vs t (0,0)) }) (.one (.s (.ptr σ.bl.length 0))) (.pointer (some ⟨w.heap.size,0,none⟩)):=by
 have h:=hR.new (bw_alloc w (.cells vs t (0,0))) (nb:=.cells cs t) (g:=w.heap.size) (v:=.nilIface) ?_ ?_
 ·refine ⟨_,_,h.1, ?_, ?_⟩
  ·simp [cx,St.new]
  ·simp only [cx,upd_eq]
 ·intro q hq
  simp only [Bl.at,upd_eq,Option.some.injEq] at hq
  subst hq
  simp
 ·intro hle
  refine ⟨by simp [cx,upd_eq],vs, ?_, ?_⟩
  ·show (w.heap.push (Obj.cells vs t (0,0)))[upd ρ σ.bl.length w.heap.size σ.bl.length]? = _
   rw [upd_eq,Array.getElem?_push,if_pos rfl]
  have:∀ {xs:List Sc} {us:List Value},VSs (cx E w0 ok0 gs ρ vl σ w) xs us→VSs (cx E w0 ok0 gs (upd ρ σ.bl.length w.heap.size) (upd vl σ.bl.length .nilIface) (σ.new (.cells cs t)) { w with heap:=w.heap.push (.cells vs t (0,0)) }) xs us:=by
   intro xs
   induction xs with
   | nil=>intro us h;cases us <;> exact h
   | cons x xs ih=>intro us h;cases us with
    | nil=>exact h.elim
    | cons u us=>exact ⟨hle _ _ h.1,ih h.2⟩
  exact this hv
theorem VSs.lift {C D:Cx} (h:∀ x u,VS C x u→VS D x u):∀ {xs:List Sc} {us:List Value},VSs C xs us→VSs D xs us
 | [],[],_=>trivial
 | _ :: _,_ :: _,hv=>⟨h _ _ hv.1,VSs.lift h hv.2⟩
 | [],_ :: _,hv=>hv.elim
 | _ :: _,[],hv=>hv.elim
theorem V1.lift {C D:Cx} (h:∀ x u,VS C x u→VS D x u) {x:A1} {v:Value} (hv:V1 C x v):V1 D x v:=by
 cases x with
 | s x=>exact h _ _ hv
 | g cs=>obtain ⟨vs,h1,h2⟩:=hv;exact ⟨vs,h1,h2.lift h⟩
 | mx cs k m l=>obtain ⟨us,h1,h2,h3⟩:=hv;exact ⟨us,h1,h2.lift h,h3⟩
theorem Rel.allocB (hR:Rel E w0 ok0 gs ρ vl σ a w) {y:A1} {v:Value} {t:TypeId} {nb:Bl} (hb:blOf E.P t y=some nb) (hv:V1 (cx E w0 ok0 gs ρ vl σ w) y v):
  ∃ ρ' vl',Rel E w0 ok0 gs ρ' vl' (σ.new nb) a { w with heap:=w.heap.push (.cells v.cells t (0,0)) } ∧
   VV (cx E w0 ok0 gs ρ' vl' (σ.new nb) { w with heap:=w.heap.push (.cells v.cells t (0,0)) }) (.one (.s (.ptr σ.bl.length 0))) (.pointer (some ⟨w.heap.size,0,none⟩)):=by
 have h:=hR.new (bw_alloc w (.cells v.cells t (0,0))) (nb:=nb) (g:=w.heap.size) (v:=.nilIface) ?_ ?_
 ·refine ⟨_,_,h.1, ?_, ?_⟩
  ·simp [cx,St.new]
  ·simp only [cx,upd_eq]
 ·intro q hq
  rw [blOf_at hb,upd_eq] at hq
  simp only [Option.some.injEq] at hq
  subst hq
  simp
 ·intro hle
  refine blOf_ok hb (hv.lift hle) ?_ ?_
  ·simp [cx,upd_eq]
  ·show (w.heap.push (Obj.cells v.cells t (0,0)))[upd ρ σ.bl.length w.heap.size σ.bl.length]? = _
   rw [upd_eq,Array.getElem?_push,if_pos rfl]
def popAlloc (E:En) (σ:St) (t:TypeId) (K:AV→St→Option β):Option β:=
 match zeroSc E t with
 | some z=>(match blOf E.P t (.g z) with
  | some nb=>K (.one (.s (.ptr σ.bl.length 0))) (σ.new nb)
  | none=>none)
 | none=>none
theorem popAlloc_ok (hR:Rel E w0 ok0 gs ρ vl σ a w) {o:Oper} {t:TypeId} {K:AV→St→Option β} {r:β} (ho:o.op = .alloc t) (h:popAlloc E σ t K=some r):EffRes E w0 ok0 gs a w o K r:=by
 unfold popAlloc at h
 split at h
 ·rename_i z hz
  split at h
  ·rename_i nb hnb
   obtain ⟨v,h1,h2⟩:=zeroSc_ok (C:=cx E w0 ok0 gs ρ vl σ w) rfl hz
   obtain ⟨ρ',vl',h3,h4⟩:=hR.allocB (v:=.agg v.cells) hnb ⟨v.cells,rfl,h1⟩
   exact ⟨_,_,_,_, ρ',vl',h,by simp [execOp,ho,Instr.alloc,h2,newVar,newRow,show (Value.agg v.cells).cells=v.cells from rfl],h3,h4,bw_alloc _ _⟩
  ·cases h
 ·cases h
def popBox (E:En) (σ:St) (t:TypeId) (x:Operand) (K:AV→St→Option β):Option β:=
 match opd E σ x with
 | some (.one y)=>(match blOf E.P t y with
  | some nb=>K (.one (.s (.ptr σ.bl.length 0))) (σ.new nb)
  | none=>none)
 | _=>none
theorem popBox_ok (hR:Rel E w0 ok0 gs ρ vl σ a w) {o:Oper} {t:TypeId} {x:Operand} {K:AV→St→Option β} {r:β} (ho:o.op = .box t x) (h:popBox E σ t x K=some r):EffRes E w0 ok0 gs a w o K r:=by
 unfold popBox at h
 split at h
 ·rename_i y hy
  split at h
  ·rename_i nb hnb
   obtain ⟨ρ',vl',h3,h4⟩:=hR.allocB hnb (opd_ok hR hy)
   exact ⟨_,_,_,_, ρ',vl',h,by simp [execOp,ho,Instr.box,newVar,newRow],h3,h4,bw_alloc _ _⟩
  ·cases h
 ·cases h
def St.setB (σ:St) (b:Nat) (x:Bl):St:={ σ with bl:=σ.bl.set b x }
theorem heap_setCell {w:World} {g o:Nat} {vs:Array Value} {t:TypeId} {fr:Nat×Nat} (h:w.heap[g]? = some (.cells vs t fr)) (v:Value):
  (w.setCell ⟨g,o,none⟩ v).heap[g]? = some (.cells (vs.setIfInBounds o v) t fr):=by
 simp [World.setCell,Array.getElem?_modify,h]
theorem heap_setCells (t:TypeId) (fr:Nat×Nat) (g:Nat):∀ (us:List Value) (o:Nat) (w:World) (vs:Array Value),w.heap[g]? = some (.cells vs t fr) →
  ∃ vs',(w.setCells g o us).heap[g]? = some (.cells vs' t fr)∧vs'.toList=setSegV vs.toList o us
 | [],_,_,vs,h=>⟨vs,h,rfl⟩
 | u :: us,o,w,vs,h=>by
  obtain ⟨vs',h1,h2⟩:=heap_setCells t fr g us (o+1) _ _ (heap_setCell (o:=o) h u)
  exact ⟨vs',h1,by rw [h2];simp [setSegV]⟩
theorem heap_setCells_ne (g:Nat):∀ (us:List Value) (o:Nat) (w:World) (k:Nat),k≠g→(w.setCells g o us).heap[k]? = w.heap[k]?
 | [],_,_,_,_=>rfl
 | u :: us,o,w,k,h=>by rw [World.setCells,heap_setCells_ne g us (o+1) _ k h,Below.heap_setCell w ⟨g,o,none⟩ u k h]
theorem setCells_size (g:Nat):∀ (us:List Value) (o:Nat) (w:World),(w.setCells g o us).heap.size=w.heap.size
 | [],_,_=>rfl
 | u :: us,o,w=>by rw [World.setCells,setCells_size g us];simp [World.setCell]
theorem setCells_rest (g:Nat):∀ (us:List Value) (o:Nat) (w:World),(w.setCells g o us).os=w.os∧(w.setCells g o us).tape=w.tape∧(w.setCells g o us).output=w.output
 | [],_,_=>⟨rfl,rfl,rfl⟩
 | u :: us,o,w=>setCells_rest g us (o+1) (w.setCell ⟨g,o,none⟩ u)
theorem setCells_drawn (g:Nat):∀ (us:List Value) (o:Nat) (w:World),(w.setCells g o us).drawn=w.drawn
 | [],_,_=>rfl
 | u :: us,o,w=>setCells_drawn g us (o+1) (w.setCell ⟨g,o,none⟩ u)
theorem bw_setCells (w:World) (g o:Nat) (us:List Value):Bw [g] w (w.setCells g o us):=
 ⟨(setCells_rest g us o w).1,(setCells_rest g us o w).2.1,(setCells_rest g us o w).2.2,Nat.le_of_eq (setCells_drawn g us o w).symm,Nat.le_of_eq (setCells_size g us o w).symm,fun k _ hk=>heap_setCells_ne g us o w k (by simpa using hk)⟩
def mayWr (E:En) (b:Nat):Bool:=!(E.ro&&Nat.beq b 0)
theorem Rel.written' (hR:Rel E w0 ok0 gs ρ vl σ a w) {w':World} {gs':List Nat} (hg1:∀ p,p∈gs→p∈gs') (hg2:∀ p,p∈gs'→p∈gs∨(w.heap.size≤p∧p < w'.heap.size)) {b g:Nat} (hro:mayWr E b=true) (hl:liveAt ρ vl σ b g) (hw:Bw [g] w w') {x:Bl} (hx:x.at ρ vl b=some g)
  (hb:(∀ y u,VS (cx E w0 ok0 gs ρ vl σ w) y u→VS (cx E w0 ok0 gs' ρ vl (σ.setB b x) w') y u)→BS (cx E w0 ok0 gs' ρ vl (σ.setB b x) w') b x):
  Rel E w0 ok0 gs' ρ vl (σ.setB b x) a w'∧(cx E w0 ok0 gs ρ vl σ w).Le (cx E w0 ok0 gs' ρ vl (σ.setB b x) w'):=by
 have hlt:=live_lt hl
 have hlive:∀ b' q,liveAt ρ vl (σ.setB b x) b' q↔liveAt ρ vl σ b' q:=by
  intro b' q
  by_cases hbb:b'=b
  ·subst hbb
   constructor
   ·rintro ⟨y,h1,h2⟩
    have:y=x:=by simp [St.setB,List.getElem?_set,hlt] at h1;exact h1.symm
    subst this
    rw [hx] at h2
    injection h2 with h2
    subst h2
    exact hl
   ·intro h
    obtain ⟨y,h1,h2⟩:=h
    obtain ⟨z,h3,h4⟩:=hl
    rw [h1] at h3
    injection h3 with h3
    subst h3
    rw [h2] at h4
    exact ⟨x,by simp [St.setB,List.getElem?_set,hlt],by rw [hx,h4]⟩
  ·constructor
   ·rintro ⟨y,h1,h2⟩
    exact ⟨y,by simpa [St.setB,List.getElem?_set_ne (Ne.symm hbb)] using h1,h2⟩
   ·rintro ⟨y,h1,h2⟩
    exact ⟨y,by simpa [St.setB,List.getElem?_set_ne (Ne.symm hbb)] using h1,h2⟩
 have hown:=hR.own b g hl
 have hle:(cx E w0 ok0 gs ρ vl σ w).Le (cx E w0 ok0 gs' ρ vl (σ.setB b x) w'):=by
  refine ⟨rfl,by simp [cx,St.setB],fun _ _=>rfl,fun _ _=>rfl,fun i e h=>⟨e,h,rfl⟩, ?_,hw.size, ?_⟩
  ·intro q hq hlt0
   rcases hq with hq | ⟨h1,h1',h2⟩
   ·exact .inl hq
   ·exact .inr ⟨h1,fun hm=>(hg2 q hm).elim h1' fun h3=>absurd hlt0 (Nat.not_lt_of_le h3.1),fun b' h=>h2 b' ((hlive b' q).1 h)⟩
  ·intro q hq hlt'
   refine hw.block q hlt' ?_
   have hne:q≠g:=by
    rintro rfl
    rcases hq with ⟨h0,h1⟩ | ⟨h1, -,h2⟩
    ·rcases hown.1.1 with h3 | h3
     ·omega
     ·exact (hR.rc _ h3.2).2.2 h0
    ·exact h2 b hl
   simpa using hne
 refine ⟨⟨hR.size,hR.defers,fun t av ht=>⟨(hR.tm t av ht).1,(hR.tm t av ht).2.le hle⟩, ?_, ?_, ?_, ?_, ?_⟩,hle⟩
 ·intro b' y hy
  by_cases hbb:b'=b
  ·subst hbb
   have:y=x:=by simp [St.setB,List.getElem?_set,hlt] at hy;exact hy.symm
   subst this
   exact hb (fun y u h=>h.le hle)
  ·have hy':σ.bl[b']? = some y:=by simpa [St.setB,List.getElem?_set_ne (Ne.symm hbb)] using hy
   refine BS.le hle rfl (bl_lt hy') (fun q hq=>?_) (hR.bl b' y hy')
   have hl':liveAt ρ vl σ b' q:=⟨y,hy',hq⟩
   refine hw.block q (hR.own b' q hl').2 ?_
   have hne:q≠g:=by
    rintro rfl
    exact hbb (hR.dist b' b q hl' hl)
   simpa using hne
 ·intro b1 b2 q h1 h2
  exact hR.dist b1 b2 q ((hlive b1 q).1 h1) ((hlive b2 q).1 h2)
 ·intro b1 q h1
  have:=hR.own b1 q ((hlive b1 q).1 h1)
  exact ⟨⟨this.1.1,fun hm=>(hg2 q hm).elim this.1.2 fun h3=>absurd this.2 (Nat.not_lt_of_le h3.1)⟩,Nat.lt_of_lt_of_le this.2 hw.size⟩
 ·refine ⟨⟨hw.os.trans hR.bw.os,hw.tape.trans hR.bw.tape,hw.output.trans hR.bw.output,Nat.le_trans hR.bw.drawn hw.drawn,Nat.le_trans hR.bw.size hw.size,fun k hk hn=>?_⟩,fun q hq=>(hg2 q hq).elim (fun hq=>⟨(hR.bw.hid q hq).1,Nat.lt_of_lt_of_le (hR.bw.hid q hq).2 hw.size⟩) fun h3=>⟨Nat.le_trans hR.bw.size h3.1,h3.2⟩⟩
  rw [hw.block k (Nat.lt_of_lt_of_le hk hR.bw.size) ?_,hR.bw.block k hk hn]
  have hne:k≠g:=by
   rintro rfl
   rcases hown.1.1 with h3 | h3
   ·omega
   ·refine hn (En.mem_ms.2 ⟨?_,h3.2⟩)
    unfold mayWr at hro
    rw [h3.1] at hro
    simpa using hro
  simpa using hne
 ·intro q hq
  obtain ⟨h1,h2,h3⟩:=hR.rc q hq
  exact ⟨by simpa [St.setB] using h1,fun p hp=>h2 p ((hlive 0 p).1 hp),h3⟩
theorem Rel.written (hR:Rel E w0 ok0 gs ρ vl σ a w) {w':World} {b g:Nat} (hro:mayWr E b=true) (hl:liveAt ρ vl σ b g) (hw:Bw [g] w w') {x:Bl} (hx:x.at ρ vl b=some g)
  (hb:(∀ y u,VS (cx E w0 ok0 gs ρ vl σ w) y u→VS (cx E w0 ok0 gs ρ vl (σ.setB b x) w') y u)→BS (cx E w0 ok0 gs ρ vl (σ.setB b x) w') b x):
  Rel E w0 ok0 gs ρ vl (σ.setB b x) a w':=
 (hR.written' (fun _ h=>h) (fun _ h=>.inl h) hro hl hw hx hb).1
def StRes (E:En) (w0:World) (ok0:Nat→Prop) (gs:List Nat) (a:Act) (w:World) (o:Oper) (K:St→Option β) (r:β):Prop:=
 ∃ σ' w' ρ' vl',K σ'=some r∧(execOp a.eval o).run E.P w = .ok .skip w'∧Rel E w0 ok0 gs ρ' vl' σ' a w' ∧
  (∀ t x y,o.op = .store t x y→∀ g off,a.eval x = .pointer (some ⟨g,off,none⟩)→Bw [g] w w')∧(∀ q,q∈gs→w'.heap[q]? = w.heap[q]?)∧w.heap.size≤w'.heap.size
def storeMx (cs:List Sc) (k:IntKind) (m:Nat) (l:List Int) (o n:Nat) (z:A1):Option (List Sc×List Int):=
 match z with
 | .s x=>bif Nat.beq n 1&&Nat.blt o cs.length then some (cs.set o x,l) else none
 | _=>bif Nat.beq o cs.length&&Nat.beq n m then (match splitMx 0 k m z with
   | some (_,l')=>some (cs,l')
   | none=>none)
  else bif Nat.beq o 0&&Nat.beq n (cs.length+m) then splitMx cs.length k m z else none
theorem storeMx_ok {C:Cx} {cs:List Sc} {k:IntKind} {m:Nat} {l:List Int} {o n:Nat} {z:A1} {v:Value} {cs':List Sc} {l':List Int} {us:List Value} (h:storeMx cs k m l o n z=some (cs',l')) (hz:V1 C z v) (hs:v.cells.size=n)
  (hu:VSs C cs us) (hm:l.length=m) (hin:inL k l):o+n≤(us++l.map (Value.int k)).length∧∃ us',setSegV (us++l.map (Value.int k)) o v.cells.toList=us'++l'.map (Value.int k)∧VSs C cs' us'∧l'.length=m∧inL k l':=by
 have hul:=hu.length
 have hsl:v.cells.toList.length=n:=by simpa using hs
 unfold storeMx at h
 split at h
 ·rename_i x
  obtain ⟨hc,h⟩:=bif_some h
  simp only [Bool.and_eq_true] at hc
  have c1:=Nat.eq_of_beq_eq_true hc.1
  have c2:o < cs.length:=Nat.le_of_ble_eq_true hc.2
  simp only [Option.some.injEq,Prod.mk.injEq] at h
  obtain ⟨rfl,rfl⟩:=h
  have hv1:=(VS.one hz).2
  refine ⟨by simp;omega,us.set o v, ?_,hu.set o hz,hm,hin⟩
  rw [hv1]
  show setSegV _ o [v]=_
  rw [setSegV,setSegV,List.set_append_left _ _ (by omega)]
 ·cases hb:(Nat.beq o cs.length&&Nat.beq n m) <;> rw [hb] at h
  ·simp only [cond_false] at h
   obtain ⟨hc,h⟩:=bif_some h
   simp only [Bool.and_eq_true] at hc
   have c1:=Nat.eq_of_beq_eq_true hc.1
   have c2:=Nat.eq_of_beq_eq_true hc.2
   obtain ⟨us',h1,h2,h3,h4,h5⟩:=splitMx_ok h hz
   have hu':=h2.length
   subst c1
   refine ⟨by simp;omega,us', ?_,h2,h4,h5⟩
   rw [setSegV_eq _ _ _ (by rw [hsl];simp;omega),h1,List.take_zero,List.nil_append,List.drop_of_length_le (by simp;omega),List.append_nil]
  ·simp only [cond_true] at h
   simp only [Bool.and_eq_true] at hb
   have c1:=Nat.eq_of_beq_eq_true hb.1
   have c2:=Nat.eq_of_beq_eq_true hb.2
   split at h
   ·rename_i q l2 hsp
    simp only [Option.some.injEq,Prod.mk.injEq] at h
    obtain ⟨rfl,rfl⟩:=h
    obtain ⟨us',h1,h2,h3,h4,h5⟩:=splitMx_ok hsp hz
    have:us'=[]:=by
     cases us' with
     | nil=>rfl
     | cons _ _=>have:=h2.length;simp [h3] at this
    subst this
    rw [List.nil_append] at h1
    refine ⟨by simp;omega,us, ?_,hu,h4,h5⟩
    rw [setSegV_eq _ _ _ (by rw [hsl];simp;omega),h1,c1,hul,List.take_left,List.drop_of_length_le (by simp;omega),List.append_nil]
   ·cases h
def scOf:(k:Ck)→Sc→Option k.T
 | .int k,.int k' n _ _=>bif decide (k'=k) then some n else none
 | .bool,.bool b=>some b.val
 | _,_=>none
def ctOf:(ks:List Ck)→List Sc→Option (CT ks)
 | [],[]=>some ()
 | [k],[c]=>scOf k c
 | k :: l :: r,c :: cs=>(match scOf k c,ctOf (l :: r) cs with
  | some x,some xs=>some (x,xs)
  | _,_=>none)
 | _,_=>none
theorem scOf_ok {C:Cx} {k:Ck} {c:Sc} {x:k.T} {v:Value} (h:scOf k c=some x) (hv:VS C c v):v=k.val x∧k.wf x:=by
 unfold scOf at h
 split at h
 ·obtain ⟨hk,h⟩:=bif_some h
  have hk:=of_decide_eq_true hk
  subst hk
  injection h with h
  subst h
  exact ⟨hv.1,hv.2.1⟩
 ·injection h with h
  subst h
  exact ⟨hv,trivial⟩
 ·cases h
theorem ctOf_ok {C:Cx}:∀ {ks:List Ck} {cs:List Sc} {x:CT ks} {vs:List Value},ctOf ks cs=some x→VSs C cs vs→vs=CT.vals ks x∧CT.wf ks x
 | [],[],_,[],_,_=>⟨rfl,trivial⟩
 | [k],[c],x,[v],h,hv=>by
  obtain ⟨h1,h2⟩:=scOf_ok h hv.1
  exact ⟨by rw [h1];rfl,h2⟩
 | k :: l :: r,c :: cs,x,v :: vs,h,hv=>by
  unfold ctOf at h
  split at h
  ·rename_i y ys hy hys
   injection h with h
   subst h
   obtain ⟨h1,h2⟩:=scOf_ok hy hv.1
   obtain ⟨h3,h4⟩:=ctOf_ok hys hv.2
   exact ⟨by rw [h1,h3];rfl,h2,h4⟩
  ·cases h
 | [],[],_,_ :: _,_,hv=>hv.elim
 | [_],[_],_,[],_,hv=>hv.elim
 | [_],[_],_,_ :: _ :: _,_,hv=>hv.2.elim
 | _ :: _ :: _,_ :: _,_,[],_,hv=>hv.elim
 | [],_ :: _,_,_,h,_=>by simp [ctOf] at h
 | [_],[],_,_,h,_=>by simp [ctOf] at h
 | [_],_ :: _ :: _,_,_,h,_=>by simp [ctOf] at h
 | _ :: _ :: _,[],_,_,h,_=>by simp [ctOf] at h
def ksOf:List Sc→Option (List Ck)
 | []=>some []
 | .int k _ _ _ :: r=>(match ksOf r with
  | some ks=>some (.int k :: ks)
  | none=>none)
 | .bool _ :: r=>(match ksOf r with
  | some ks=>some (.bool :: ks)
  | none=>none)
 | _=>none
theorem ksOf_ok:∀ {z:List Sc} {ks:List Ck},ksOf z=some ks→noRow ks=true∧ks.length=z.length:=by
 intro z
 induction z with
 | nil=>intro ks h;injection h with h;subst h;exact ⟨rfl,rfl⟩
 | cons x r ih =>
  intro ks h
  cases x with
  | int k n lo hi =>
   unfold ksOf at h
   split at h
   ·rename_i ks' h'
    injection h with h
    subst h
    obtain ⟨h1,h2⟩:=ih h'
    exact ⟨h1,by simp [h2]⟩
   ·cases h
  | bool b =>
   unfold ksOf at h
   split at h
   ·rename_i ks' h'
    injection h with h
    subst h
    obtain ⟨h1,h2⟩:=ih h'
    exact ⟨h1,by simp [h2]⟩
   ·cases h
  | _=>simp [ksOf] at h
def splitS (ks:List Ck):Nat→List Sc→Option (List (CT ks))
 | 0,_=>some []
 | n+1,cs=>(match ctOf ks (cs.take ks.length),splitS ks n (cs.drop ks.length) with
  | some x,some xs=>some (x :: xs)
  | _,_=>none)
theorem splitS_ok {C:Cx} {ks:List Ck}:∀ {n:Nat} {cs:List Sc} {l:List (CT ks)} {vs:List Value},splitS ks n cs=some l→VSs C cs vs→l.length=n∧vs.take (n*ks.length)=flatV ks l∧∀ x∈l,CT.wf ks x
 | 0,_,l,vs,h,_=>by
  injection h with h
  subst h
  simp [flatV]
 | n+1,cs,l,vs,h,hv=>by
  unfold splitS at h
  split at h
  ·rename_i x xs hx hxs
   injection h with h
   subst h
   obtain ⟨h1,h2⟩:=ctOf_ok hx (hv.take _)
   obtain ⟨h3,h4,h5⟩:=splitS_ok hxs (hv.drop _)
   refine ⟨by simp [h3], ?_,fun y hy=>by rcases List.mem_cons.1 hy with rfl | hy;exact h2;exact h5 y hy⟩
   have e:flatV ks (x :: xs)=CT.vals ks x++flatV ks xs:=by simp [flatV]
   rw [e,← h1,← h4,Nat.add_mul,Nat.one_mul,Nat.add_comm,List.take_add]
  ·cases h
def popStore (E:En) (σ:St) (t:TypeId) (x y:Operand) (K:St→Option β):Option β:=
 match opd E σ x,opd E σ y,E.P.info? t with
 | some (.one (.s (.ptr b o))),some (.one z),some i=>(match σ.bl[b]? with
  | some (.cells cs t0)=>bif mayWr E b&&(Nat.beq z.cells.length i.size&&Nat.ble (o+z.cells.length) cs.length) then K (σ.setB b (.cells (setSeg cs o z.cells) t0)) else none
  | some (.mix cs k m l t0)=>(match storeMx cs k m l o i.size z with
   | some (cs',l')=>bif mayWr E b&&Nat.beq z.cells.length i.size then K (σ.setB b (.mix cs' k m l' t0)) else none
   | none=>none)
  | _=>none)
 | some (.one (.s (.me b o n j))),some (.one (.s (.int k q _ _))),some i=>(match σ.bl[b]? with
  | some (.mix cs k' m l t0)=>bif mayWr E b&&((Nat.beq i.size 1&&decide (k=k'))&&(Nat.beq o cs.length&&Nat.ble n m)) then K (σ.setB b (.mix cs k' m (l.set j.toNat q) t0)) else none
  | _=>none)
 | some (.one (.s (.ep b j))),some (.one (.s (.int k n _ _))),some i=>(match σ.bl[b]? with
  | some (.ints k' t0 l)=>bif mayWr E b&&(Nat.beq i.size 1&&decide (k=k')) then K (σ.setB b (.ints k' t0 (l.set j.toNat n))) else none
  | _=>none)
 | some (.one (.s (.es b sz j))),some (.one (.g cs)),some i=>(match σ.bl[b]? with
  | some (.rows ks t0 l)=>(match ctOf ks cs with
   | some x=>bif mayWr E b&&(Nat.beq i.size ks.length&&Nat.beq sz ks.length) then K (σ.setB b (.rows ks t0 (l.set j.toNat x))) else none
   | none=>none)
  | _=>none)
 | _,_,_=>none
theorem VSs.ones {C:Cx}:∀ {xs:List Sc} {vs:List Value},VSs C xs vs→∀ v,v∈vs→v.oneCell'=true
 | [],[],_,v,hv=>by cases hv
 | _ :: _,_ :: _,h,v,hv=>by
  rcases List.mem_cons.1 hv with rfl | hv
  ·exact (VS.one h.1).1
  ·exact VSs.ones h.2 v hv
 | [],_ :: _,h,_,_=>h.elim
 | _ :: _,[],h,_,_=>h.elim
theorem storeVar_run {P:Program} {w1:World} {g o:Nat} {t t0:TypeId} {vs:Array Value} {v:Value} {i:TypeInfo} (hg:w1.heap[g]? = some (.cells vs t0 (0,0))) (hi:P.info? t=some i) (hs:v.cells.size=i.size)
  (hle:o+v.cells.size≤vs.size) (h1:∀ u,u∈v.cells.toList→u.oneCell'=true):
  (Instr.storeAt t (.pointer (some ⟨g,o,none⟩)) v).run P w1 = .ok () (w1.setCells g o v.cells.toList):=by
 have hc:∀ j,j < v.cells.toList.length→(w1.cell? ⟨g,o+j,none⟩).isSome=true:=by
  intro j hj
  rw [cell_at hg,Array.getElem?_eq_getElem (by simp at hj;omega)]
  rfl
 have hf:∀ j,j < v.cells.toList.length→w1.frozen? ⟨g,o+j,none⟩=false:=by
  intro j hj
  simp [World.frozen?,hg]
 have:=run_storeCells_cells (P:=P) g o v.cells.toList 0 w1 (fun j hj=>by simpa using hc j hj) (fun j hj=>by simpa using hf j hj) h1
 simp only [Nat.add_zero] at this
 simp [Instr.storeAt,Instr.sureAddr,storeVar,sizeOf,typeInfo,hi,hs,this]
theorem mixStored (hR:Rel E w0 ok0 gs ρ vl σ a w) {o:Oper} {t:TypeId} {x y:Operand} {K:St→Option β} {r:β} (ho:o.op = .store t x y) {b:Nat} {cs:List Sc} {k:IntKind} {m:Nat} {l:List Int} {t0:TypeId} (hb:σ.bl[b]? = some (.mix cs k m l t0)) (hmw:mayWr E b=true)
  {us:List Value} (h2:ρ b < w.heap.size) (h3:w.heap[ρ b]? = some (.cells (us++l.map (Value.int k)).toArray t0 (0,0))) {off:Nat} (hx:a.eval x = .pointer (some ⟨ρ b,off,none⟩)) {i:TypeInfo} (hi:E.P.info? t=some i) (hs:(a.eval y).cells.size=i.size)
  (hle:off+(a.eval y).cells.size≤(us++l.map (Value.int k)).toArray.size) (h1:∀ u,u∈(a.eval y).cells.toList→u.oneCell'=true) {us':List Value} {cs':List Sc} {l':List Int} (h6:setSegV (us++l.map (Value.int k)) off (a.eval y).cells.toList=us'++l'.map (Value.int k))
  (h7:VSs (cx E w0 ok0 gs ρ vl σ w) cs' us') (h8:l'.length=m) (h9:inL k l') (h:K (σ.setB b (.mix cs' k m l' t0))=some r):StRes E w0 ok0 gs a w o K r:=by
 have hrun:=storeVar_run (P:=E.P) (o:=off) h3 hi hs hle h1
 refine ⟨_,_, ρ,vl,h,by simp only [execOp,ho,hx,Sem.run_bind];rw [hrun];rfl, ?_,fun t' x' y' ho' g off' hp=>?_,fun q hq=>?_,Nat.le_of_eq (setCells_size _ _ _ _).symm⟩
 rotate_left
 ·rw [ho] at ho'
  injection ho' with _ ho' _
  subst ho'
  rw [hx] at hp
  injection hp with hp
  injection hp with hp
  injection hp with hp _ _
  subst hp
  exact bw_setCells w (ρ b) off _
 ·exact (bw_setCells w (ρ b) off _).block q (hR.bw.hid q hq).2 (fun hm=>(hR.own b (ρ b) ⟨_,hb,rfl⟩).1.2 (by simp at hm;subst hm;exact hq))
 refine hR.written (g:=ρ b) hmw ⟨_,hb,rfl⟩ (bw_setCells w (ρ b) off _) rfl (fun hle'=>?_)
 obtain ⟨vs',h10,h11⟩:=heap_setCells t0 (0,0) (ρ b) (a.eval y).cells.toList off w _ h3
 have h12:vs'.toList=us'++l'.map (Value.int k):=by rw [h11];exact h6
 refine ⟨?_,us', ?_,h7.lift hle',h8,h9⟩
 ·show ρ b < (w.setCells (ρ b) off (a.eval y).cells.toList).heap.size
  rw [setCells_size]
  exact h2
 ·show (w.setCells (ρ b) off (a.eval y).cells.toList).heap[ρ b]? = _
  rw [h10,← h12]
theorem popStore_ok (hR:Rel E w0 ok0 gs ρ vl σ a w) {o:Oper} {t:TypeId} {x y:Operand} {K:St→Option β} {r:β} (ho:o.op = .store t x y) (h:popStore E σ t x y K=some r):StRes E w0 ok0 gs a w o K r:=by
 unfold popStore at h
 split at h
 ·rename_i b o' z i hx hy hi
  obtain ⟨h1,e1⟩:=opd_ok hR hx
  have e1':a.eval x = .pointer (some ⟨ρ b,o',none⟩):=e1
  have hz:=V1.cells_ok (opd_ok hR hy)
  split at h
  ·rename_i cs t0 hb
   obtain ⟨hc,h⟩:=bif_some h
   simp only [Bool.and_eq_true] at hc
   obtain ⟨hmw,hc⟩:=hc
   have hn:=Nat.eq_of_beq_eq_true hc.1
   have hle:=Nat.le_of_ble_eq_true hc.2
   obtain ⟨h2,us,h3,h4⟩:=hR.bl b _ hb
   have hl1:=hz.len
   have hl2:=h4.len
   have hrun:=storeVar_run (P:=E.P) (o:=o') h3 hi (by omega) (by omega) hz.ones
   refine ⟨_,_, ρ,vl,h,by simp only [execOp,ho,e1',Sem.run_bind];rw [show ((cx E w0 ok0 gs ρ vl σ w).w)=w from rfl,show (cx E w0 ok0 gs ρ vl σ w).ρ b = ρ b from rfl] at hrun;rw [hrun];rfl, ?_,fun t' x' y' ho' g off hp=>?_,fun q hq=>?_,Nat.le_of_eq (setCells_size _ _ _ _).symm⟩
   rotate_left
   ·rw [ho] at ho'
    injection ho' with _ ho' _
    subst ho'
    rw [e1'] at hp
    injection hp with hp
    injection hp with hp
    injection hp with hp _ _
    subst hp
    exact bw_setCells w (ρ b) o' _
   ·exact (bw_setCells w (ρ b) o' _).block q (hR.bw.hid q hq).2 (fun hm=>(hR.own b (ρ b) ⟨_,hb,rfl⟩).1.2 (by simp at hm;subst hm;exact hq))
   refine hR.written (g:=ρ b) hmw ⟨_,hb,rfl⟩ (bw_setCells w (ρ b) o' _) rfl (fun hle'=>?_)
   obtain ⟨vs',h5,h6⟩:=heap_setCells t0 (0,0) (ρ b) (a.eval y).cells.toList o' w us h3
   refine ⟨by rw [show (cx E w0 ok0 gs ρ vl (σ.setB b (.cells (setSeg cs o' z.cells) t0)) (w.setCells (ρ b) o' (a.eval y).cells.toList)).w=w.setCells (ρ b) o' (a.eval y).cells.toList from rfl,setCells_size];exact h2,vs',h5, ?_⟩
   rw [h6]
   have lift:∀ {xs:List Sc} {us:List Value},VSs (cx E w0 ok0 gs ρ vl σ w) xs us→VSs (cx E w0 ok0 gs ρ vl (σ.setB b (.cells (setSeg cs o' z.cells) t0)) (w.setCells (ρ b) o' (a.eval y).cells.toList)) xs us:=by
    intro xs
    induction xs with
    | nil=>intro us h;cases us <;> exact h
    | cons x xs ih=>intro us h;cases us with
     | nil=>exact h.elim
     | cons u us=>exact ⟨hle' _ _ h.1,ih h.2⟩
   exact setSeg_ok o' (lift hz) (lift h4)
  ·rename_i cs k m l t0 hb
   split at h
   ·rename_i cs' l' hst
    obtain ⟨hc,h⟩:=bif_some h
    simp only [Bool.and_eq_true] at hc
    obtain ⟨hmw,hn⟩:=hc
    have hn:=Nat.eq_of_beq_eq_true hn
    obtain ⟨h2,us,h3,h4,h4m,h4i⟩:=hR.bl b _ hb
    have hl1:=hz.len
    obtain ⟨h5,us',h6,h7,h8,h9⟩:=storeMx_ok hst (opd_ok hR hy) (by omega) h4 h4m h4i
    exact mixStored hR ho hb hmw h2 h3 e1' hi (by omega) (by simpa using (by omega:o'+(a.eval y).cells.size≤(us++l.map (Value.int k)).length)) hz.ones h6 h7 h8 h9 h
   ·cases h
  ·cases h
 ·rename_i b o' n j k q lo hi' i hx hy hi
  obtain ⟨h1,hj0,hjn,e1⟩:=opd_ok hR hx
  have e1':a.eval x = .pointer (some ⟨ρ b,o'+j.toNat,none⟩):=e1
  obtain ⟨e2,hk, -⟩:=opd_ok hR hy
  split at h
  ·rename_i cs k' m l t0 hb
   obtain ⟨hc,h⟩:=bif_some h
   simp only [Bool.and_eq_true] at hc
   obtain ⟨hmw,⟨hn,hkk⟩,hoc,hnm⟩:=hc
   have hn:=Nat.eq_of_beq_eq_true hn
   have hkk:=of_decide_eq_true hkk
   subst hkk
   have hoc:=Nat.eq_of_beq_eq_true hoc
   have hnm:=Nat.le_of_ble_eq_true hnm
   obtain ⟨h2,us,h3,h4,h4m,h4i⟩:=hR.bl b _ hb
   have hl:=h4.length
   have hj:j.toNat < l.length:=by omega
   have hcells:(a.eval y).cells = #[.int k q]:=by rw [e2];rfl
   refine mixStored hR ho hb hmw h2 h3 e1' hi (by rw [hcells,hn];rfl) (by rw [hcells];simp;omega) (by rw [hcells];simp [Value.oneCell']) (us':=us) (l':=l.set j.toNat q) ?_ h4 (by simpa using h4m) ⟨by simpa using h4i.1,fun p hp=>?_⟩ h
   ·rw [hcells]
    show setSegV _ _ [_]=_
    rw [setSegV,setSegV,hoc,hl,List.set_append_right _ _ (by omega),Nat.add_sub_cancel_left,List.map_set]
   ·rcases List.mem_or_eq_of_mem_set hp with hp | rfl
    ·exact h4i.2 p hp
    ·exact hk
  ·cases h
 ·rename_i b j k n lo hi' i hx hy hi
  obtain ⟨h0,A,m,c,h1,h2,h3,e1⟩:=opd_ok hR hx
  obtain ⟨e2,hk, -⟩:=opd_ok hR hy
  split at h
  ·rename_i k' t0 l hb
   obtain ⟨hc,h⟩:=bif_some h
   simp only [Bool.and_eq_true] at hc
   obtain ⟨hmw,hc⟩:=hc
   have hn:=Nat.eq_of_beq_eq_true hc.1
   have hkk:=of_decide_eq_true hc.2
   subst hkk
   have hB:=hR.bl b _ hb
   obtain ⟨e3,h4,h5,h6,h7,h8,cur,h9,h10,h11⟩:=ints_at hB h1
   have hlen:cur.size=c:=h10
   rw [h7] at e1
   rw [Addr.add_mid] at e1
   have hrun:=storeVar_run (P:=E.P) (t:=t) (v:=.int k n) (o:=0+j.toNat) h9 hi (by simp [Value.cells,hn]) (by simp [Value.cells];omega) (by simp [Value.cells,Value.oneCell'])
   refine ⟨_,_, ρ,vl,h,by simp only [execOp,ho,e1,e2,Sem.run_bind];rw [show ((cx E w0 ok0 gs ρ vl σ w).w)=w from rfl] at hrun;rw [hrun];rfl, ?_,fun t' x' y' ho' g off hp=>?_,fun q hq=>?_,Nat.le_of_eq (setCells_size _ _ _ _).symm⟩
   rotate_left
   ·rw [ho] at ho'
    injection ho' with _ ho' _
    subst ho'
    rw [e1] at hp
    injection hp with hp
    injection hp with hp
    injection hp with hp _ _
    subst hp
    exact bw_setCells w A.block _ _
   ·exact (bw_setCells w A.block _ _).block q (hR.bw.hid q hq).2 (fun hm=>(hR.own b A.block ⟨_,hb,h6⟩).1.2 (by simp at hm;subst hm;exact hq))
   refine hR.written (g:=A.block) hmw ⟨_,hb,h6⟩ (bw_setCells w A.block _ _) h6 (fun hle'=>?_)
   have hst:=World.ownsRow.stored (w:=w) (by have:=hB.2;rw [h1,h7,e3] at this;exact this) (0+j.toNat) (.int k n)
   refine ⟨⟨by simpa using hB.1.1,fun q hq=>?_⟩, ?_⟩
   ·rcases List.mem_or_eq_of_mem_set hq with hq | rfl
    ·exact hB.1.2 q hq
    ·exact hk
   ·have h12:=hst.1
    show (w.setCell ⟨A.block,0+j.toNat,none⟩ (.int k n)).ownsRow w0.heap.size t0 1 (vl b) (l.set j.toNat n).length ((l.set j.toNat n).map (Value.int k))
    rw [List.length_set,List.map_set,show vl b=_ from h1,h7,e3]
    rw [Nat.zero_add] at h12 ⊢
    exact h12
  ·cases h
 ·rename_i b sz j cs i hx hy hi
  obtain ⟨h0,A,m,c,h1,h2,h3,e1⟩:=opd_ok hR hx
  obtain ⟨us,e2,hus⟩:=opd_ok hR hy
  split at h
  ·rename_i ks t0 l hb
   split at h
   ·rename_i x' hct
    obtain ⟨hc,h⟩:=bif_some h
    simp only [Bool.and_eq_true] at hc
    obtain ⟨hmw,hc⟩:=hc
    have hn:=Nat.eq_of_beq_eq_true hc.1
    have hsz:=Nat.eq_of_beq_eq_true hc.2
    obtain ⟨hvals,hwf⟩:=ctOf_ok hct hus
    have hB:=hR.bl b _ hb
    obtain ⟨e3,h4,h5,h6,h7,h8,cur,h9,h10,h11⟩:=rows_at hB h1
    have hjl:j.toNat < l.length:=by omega
    rw [h7] at e1
    rw [Addr.add_mid,Nat.zero_add,hsz] at e1
    have hvl:(CT.vals ks x').length=ks.length:=CT.vals_len _ _
    have hcells:(Value.agg us).cells=us:=rfl
    have husz:us.size=ks.length:=by rw [← hvl,← hvals];simp
    have hfit:(j.toNat+1)*ks.length≤c*ks.length:=Nat.mul_le_mul_right _ (by omega)
    rw [Nat.add_mul,Nat.one_mul] at hfit
    have hrun:=storeVar_run (P:=E.P) (t:=t) (v:=.agg us) (o:=j.toNat*ks.length) h9 hi (by rw [hcells];omega) (by rw [hcells];omega) (by rw [hcells];exact hus.ones)
    rw [hcells] at hrun
    refine ⟨_,_, ρ,vl,h,by simp only [execOp,ho,e1,e2,Sem.run_bind];rw [show ((cx E w0 ok0 gs ρ vl σ w).w)=w from rfl] at hrun;rw [hrun];rfl, ?_,fun t' x' y' ho' g off hp=>?_,fun q hq=>?_,Nat.le_of_eq (setCells_size _ _ _ _).symm⟩
    rotate_left
    ·rw [ho] at ho'
     injection ho' with _ ho' _
     subst ho'
     rw [e1] at hp
     injection hp with hp
     injection hp with hp
     injection hp with hp _ _
     subst hp
     exact bw_setCells w A.block _ _
    ·exact (bw_setCells w A.block _ _).block q (hR.bw.hid q hq).2 (fun hm=>(hR.own b A.block ⟨_,hb,h6⟩).1.2 (by simp at hm;subst hm;exact hq))
    refine hR.written (g:=A.block) hmw ⟨_,hb,h6⟩ (bw_setCells w A.block _ _) h6 (fun hle'=>?_)
    obtain ⟨vs',h12,h13⟩:=heap_setCells t0 (0,0) A.block us.toList (j.toNat*ks.length) w _ h9
    refine ⟨⟨by simpa using hB.1.1,hB.1.2.1,fun q hq=>?_⟩, ?_⟩
    ·rcases List.mem_or_eq_of_mem_set hq with hq | rfl
     ·exact hB.1.2.2 q hq
     ·exact hwf
    ·show (w.setCells A.block (j.toNat*ks.length) us.toList).ownsRow w0.heap.size t0 ks.length (vl b) (l.set j.toNat x').length (flatV ks (l.set j.toNat x'))
     have h1':vl b = .slice (some A) m c:=h1
     have hcm:c≤maxLen:=by
      obtain ⟨-,hB3⟩:=hB.2
      rcases hB3 with ⟨hB3, -⟩ | ⟨g,cap,cur',f1,f2,f3,f4,f5,f6,f7⟩
      ·rw [show (cx E w0 ok0 gs ρ vl σ w).vl b=vl b from rfl,h1'] at hB3;cases hB3
      ·rw [show (cx E w0 ok0 gs ρ vl σ w).vl b=vl b from rfl,h1'] at f1
       injection f1 with _ _ f1
       subst f1
       exact f5
     rw [List.length_set,flatV_set l j.toNat hjl]
     refine ⟨?_,.inr ⟨A.block,c,vs',by rw [h1',h7,e3],h5,h12,by omega,hcm, ?_, ?_⟩⟩
     ·rw [setSegV_length,flatV_len]
     ·have:vs'.toList.length=cur.toList.length:=by rw [h13,setSegV_length]
      simp at this
      omega
     ·rw [h13,setSegV_take,← e3,h11,hvals]
   ·cases h
  ·cases h
 ·cases h
end
end Go.Proofs.YtbpcfhhcoklinaaGreat.Ab
namespace Go.Proofs.YtbpcfhhcoklinaaGreat.Ab
open Go Go.RowKit
def Ck.of:(k:Ck)→Cp→Option k.T
 | .int k,.int k' n=>bif decide (k'=k) then some n else none
 | .row k,.row k' l=>bif decide (k'=k) then some l else none
 | .bool,.bool b=>some b
 | _,_=>none
def CT.of:(ks:List Ck)→List Cp→Option (CT ks)
 | [],[]=>some ()
 | [k],[c]=>k.of c
 | k :: l :: r,c :: cs=>(match k.of c,CT.of (l :: r) cs with
  | some x,some xs=>some (x,xs)
  | _,_=>none)
 | _,_=>none
theorem Ck.of_eq {k:Ck} {c:Cp} {x:k.T} (h:k.of c=some x):k.mk x=c:=by
 unfold Ck.of at h
 split at h
 ·obtain ⟨hk,h⟩:=bif_some h
  have hk:=of_decide_eq_true hk
  subst hk
  injection h with h
  subst h
  rfl
 ·obtain ⟨hk,h⟩:=bif_some h
  have hk:=of_decide_eq_true hk
  subst hk
  injection h with h
  subst h
  rfl
 ·injection h with h
  subst h
  rfl
 ·cases h
theorem CT.of_eq:∀ {ks:List Ck} {cs:List Cp} {x:CT ks},CT.of ks cs=some x→CT.mk ks x=cs
 | [],[],_,_=>rfl
 | [k],[c],x,h=>by simp only [CT.mk,Ck.of_eq h]
 | k :: l :: r,c :: cs,x,h=>by
  unfold CT.of at h
  split at h
  ·rename_i y ys hy hys
   injection h with h
   subst h
   simp only [CT.mk,Ck.of_eq hy,CT.of_eq hys]
  ·cases h
 | [],_ :: _,_,h=>by simp [CT.of] at h
 | [_],[],_,h=>by simp [CT.of] at h
 | [_],_ :: _ :: _,_,h=>by simp [CT.of] at h
 | _ :: _ :: _,[],_,h=>by simp [CT.of] at h
inductive Sh where
 | int (k:IntKind) | bool | str | err | rd (k:IntKind) | fn (g:FuncId) | clo (g:FuncId) (ks:List Ck) | cp (k:Ck) | rds (ks:List Ck)
abbrev Sh.T:Sh→Type
 | .int _=>Int | .bool=>Bool | .str=>ByteArray | .err=>Option Int | .rd _=>List Int | .fn _=>Unit | .clo _ ks=>CT ks | .cp k=>k.T | .rds ks=>List (CT ks)
def Sh.mk:(s:Sh)→s.T→Sc
 | .int k,n=>.int k n none none
 | .bool,b=>.bool (.lit b)
 | .str,s=>.str s none
 | .err,e=>.erc e
 | .rd k,l=>.rd k l
 | .fn g,_=>.fn g
 | .clo g ks,x=>.clo g (CT.mk ks x)
 | .cp k,x=>.cp (k.mk x)
 | .rds ks,l=>.rds ks l
def castL (ks ks':List Ck) (l:List (CT ks')):Option (List (CT ks)):=if h:ks'=ks then some (h▸l) else none
theorem castL_ok {ks ks':List Ck} {l:List (CT ks')} {x:List (CT ks)} (h:castL ks ks' l=some x):Sc.rds ks' l=Sc.rds ks x:=by
 unfold castL at h
 split at h
 ·rename_i he
  subst he
  injection h with h
  subst h
  rfl
 ·cases h
def Sh.of (σ:St):(s:Sh)→Sc→Option s.T
 | .int k,.int k' n _ _=>bif decide (k'=k) then some n else none
 | .bool,.bool b=>some b.val
 | .str,.str s _=>some s
 | .err,.erc e=>some e
 | .err,.err i=>(match σ.es[i]? with
  | some x=>some x.val
  | none=>none)
 | .rd k,.rd k' l=>bif decide (k'=k) then some l else none
 | .rd _,.nils=>some []
 | .rd k,.lst b=>(match σ.bl[b]? with
  | some (.ints k' _ l)=>bif decide (k'=k) then some l else none
  | _=>none)
 | .fn g,.fn g'=>bif Nat.beq g g' then some () else none
 | .clo g ks,.clo g' cs=>bif Nat.beq g g' then CT.of ks cs else none
 | .cp k,.cp c=>k.of c
 | .rds ks,.rds ks' l=>castL ks ks' l
 | .rds _,.nils=>some []
 | .rds ks,.lss b=>(match σ.bl[b]? with
  | some (.rows ks' _ l)=>castL ks ks' l
  | _=>none)
 | _,_=>none
abbrev TT:List Sh→Type
 | []=>Unit
 | [s]=>s.T
 | s :: t :: r=>s.T×TT (t :: r)
def TT.mk:(ss:List Sh)→TT ss→List Sc
 | [],_=>[]
 | [s],x=>[s.mk x]
 | s :: t :: r,x=>s.mk x.1 :: TT.mk (t :: r) x.2
def TT.of (σ:St):(ss:List Sh)→List Sc→Option (TT ss)
 | [],[]=>some ()
 | [s],[c]=>s.of σ c
 | s :: t :: r,c :: cs=>(match s.of σ c,TT.of σ (t :: r) cs with
  | some x,some xs=>some (x,xs)
  | _,_=>none)
 | _,_=>none
inductive Ag where
 | s | g (n:Nat)
def ungroup:List Ag→List A1→Option (List Sc)
 | [],[]=>some []
 | .s :: r,.s x :: xs=>(match ungroup r xs with
  | some l=>some (x :: l)
  | none=>none)
 | .g n :: r,.g cs :: xs=>bif Nat.beq cs.length n then (match ungroup r xs with
  | some l=>some (cs++l)
  | none=>none) else none
 | _,_=>none
def group:List Ag→List Sc→List A1
 | [],_=>[]
 | .s :: r,x :: xs=>.s x :: group r xs
 | .s :: _,[]=>[]
 | .g n :: r,xs=>.g (xs.take n) :: group r (xs.drop n)
def Lift (C D:Cx):List Sc→List Sc→Prop
 | [],[]=>True
 | x :: xs,y :: ys=>(∀ v,VS C x v→VS D y v)∧Lift C D xs ys
 | _,_=>False
theorem Lift.ok {C D:Cx}:∀ {xs ys:List Sc} {vs:List Value},Lift C D xs ys→VSs C xs vs→VSs D ys vs
 | [],[],[],_,_=>trivial
 | [],[],_ :: _,_,hv=>hv.elim
 | _ :: _,_ :: _,_ :: _,h,hv=>⟨h.1 _ hv.1,Lift.ok h.2 hv.2⟩
 | _ :: _,_ :: _,[],_,hv=>hv.elim
 | [],_ :: _,_,h,_=>h.elim
 | _ :: _,[],_,h,_=>h.elim
theorem Lift.take {C D:Cx}:∀ {xs ys:List Sc} (n:Nat),Lift C D xs ys→Lift C D (xs.take n) (ys.take n)
 | _,_,0,_=>by simp [Lift]
 | [],[],_+1,_=>trivial
 | _ :: _,_ :: _,n+1,h=>⟨h.1,Lift.take n h.2⟩
 | [],_ :: _,_,h=>h.elim
 | _ :: _,[],_,h=>h.elim
theorem Lift.drop {C D:Cx}:∀ {xs ys:List Sc} (n:Nat),Lift C D xs ys→Lift C D (xs.drop n) (ys.drop n)
 | _,_,0,h=>by simpa using h
 | [],[],_+1,_=>trivial
 | _ :: _,_ :: _,n+1,h=>by simpa using Lift.drop n h.2
 | [],_ :: _,_,h=>h.elim
 | _ :: _,[],_,h=>h.elim
theorem group_ok {C D:Cx}:∀ {ag:List Ag} {l:List A1} {cs ds:List Sc} {vs:List Value},ungroup ag l=some cs→V1s C l vs→Lift C D cs ds→V1s D (group ag ds) vs
 | [],[],cs,ds,[],h,hv,hl=>trivial
 | [],[],cs,ds,_ :: _,h,hv,hl=>hv.elim
 | .s :: r,.s x :: xs,cs,ds,vs,h,hv,hl=>by
  unfold ungroup at h
  split at h
  ·rename_i l hl'
   injection h with h
   subst h
   cases ds with
   | nil=>exact hl.elim
   | cons d ds=>cases vs with
    | nil=>exact hv.elim
    | cons v vs=>exact ⟨hl.1 v hv.1,group_ok hl' hv.2 hl.2⟩
  ·cases h
 | .g n :: r,.g c :: xs,cs,ds,vs,h,hv,hl=>by
  unfold ungroup at h
  obtain ⟨hn,h⟩:=bif_some h
  have hn':=Nat.eq_of_beq_eq_true hn
  split at h
  ·rename_i l hl'
   injection h with h
   subst h
   cases vs with
   | nil=>exact hv.elim
   | cons v vs =>
    obtain ⟨⟨us,rfl,hu⟩,hv2⟩:=hv
    have h1:=hl.take n
    have h2:=hl.drop n
    rw [← hn',List.take_left] at h1
    rw [← hn',List.drop_left] at h2
    exact ⟨⟨us,rfl,by rw [← hn'];exact h1.ok hu⟩,group_ok hl' hv2 (by rw [← hn'];exact h2)⟩
  ·cases h
 | [],_ :: _,_,_,_,h,_,_=>by simp [ungroup] at h
 | .s :: _,[],_,_,_,h,_,_=>by simp [ungroup] at h
 | .s :: _,.g _ :: _,_,_,_,h,_,_=>by simp [ungroup] at h
 | .g _ :: _,[],_,_,_,h,_,_=>by simp [ungroup] at h
 | .g _ :: _,.s _ :: _,_,_,_,h,_,_=>by simp [ungroup] at h
theorem regroup_ok {C D:Cx}:∀ {ag:List Ag} {cs ds:List Sc} {vs:List Value},V1s C (group ag cs) vs→Lift C D cs ds→V1s D (group ag ds) vs
 | [],cs,ds,[],hv,hl=>trivial
 | [],cs,ds,_ :: _,hv,hl=>hv.elim
 | .s :: r,[],[],[],hv,hl=>trivial
 | .s :: r,[],[],_ :: _,hv,hl=>hv.elim
 | .s :: r,x :: xs,y :: ys,vs,hv,hl=>by
  cases vs with
  | nil=>exact hv.elim
  | cons v vs=>exact ⟨hl.1 v hv.1,regroup_ok hv.2 hl.2⟩
 | .g n :: r,cs,ds,vs,hv,hl=>by
  cases vs with
  | nil=>exact hv.elim
  | cons v vs =>
   obtain ⟨⟨us,rfl,hu⟩,hv2⟩:=hv
   exact ⟨⟨us,rfl,(hl.take n).ok hu⟩,regroup_ok hv2 (hl.drop n)⟩
 | .s :: _,_ :: _,[],_,_,hl=>hl.elim
 | .s :: _,[],_ :: _,_,_,hl=>hl.elim
def C0 (eT:TypeId) (w:World) (ok:Nat→Prop):Cx:=⟨eT,w,0,0,fun _=>0,fun _=>.nilIface,[],ok⟩
structure Con where
 ag:List Ag
 sa:List Sh
 tup:Bool
 rg:List Ag
 sb:List Sh
 al:Bool
 F:TT sa→Option (TT sb)
def resAV (tup:Bool) (rg:List Ag) (cs:List Sc):Option AV:=
 bif tup then some (.tup (group rg cs)) else (match group rg cs with
  | [x]=>some (.one x)
  | _=>none)
def CallOk (P:Program) (f:FuncId) (vs:Array Value) (w:World) (R:Value→World→Prop):Prop:=
 ((callFunc f vs).run P w = .ok (.enter f vs) w∧Calls P f vs w fun e w'=>∃ v,e = .returned v∧R v w') ∨
 ∃ v w',(callFunc f vs).run P w = .ok (.value v) w'∧R v w'
theorem CallOk.mono {P:Program} {f:FuncId} {vs:Array Value} {w:World} {R R':Value→World→Prop} (h:CallOk P f vs w R) (hr:∀ v w',R v w'→R' v w'):CallOk P f vs w R':=by
 rcases h with ⟨h1,h2⟩ | ⟨v,w',h1,h2⟩
 ·exact .inl ⟨h1,h2.mono fun e w' ⟨v,he,hv⟩=>⟨v,he,hr _ _ hv⟩⟩
 ·exact .inr ⟨v,w',h1,hr _ _ h2⟩
def okRes (al:Bool) (w:World) (ok:Nat→Prop):Nat→Prop:=fun g=>(al=true∧ok g∧g < w.heap.size)∨w.heap.size≤g
def FnOk (P:Program) (eT:TypeId) (f:FuncId) (c:Con):Prop:=
 ∀ (x:TT c.sa) (r:TT c.sb) (w:World) (ok:Nat→Prop) (vs:Array Value),c.F x=some r→V1s (C0 eT w ok) (group c.ag (TT.mk c.sa x)) vs.toList →
  CallOk P f vs w fun v w'=>(∃ y,resAV c.tup c.rg (TT.mk c.sb r)=some y∧VV (C0 eT w' (okRes c.al w ok)) y v)∧Bw [] w w'
def fitS:List Sh→List Sc→Bool
 | .fn g :: r,.fn h :: xs=>Nat.beq g h&&fitS r xs
 | .clo g _ :: r,.clo h _ :: xs=>Nat.beq g h&&fitS r xs
 | .clo _ _ :: _,.fn _ :: _=>false
 | .fn _ :: _,.clo _ _ :: _=>false
 | _ :: r,_ :: xs=>fitS r xs
 | _,_=>true
def Con.fits (x:Con) (l:List A1):Bool:=match ungroup x.ag l with
 | some cs=>fitS x.sa cs
 | none=>false
abbrev LT:List Ck→Option (IntKind×Nat)→Type
 | [],none=>Unit
 | [],some _=>List Int
 | [k],none=>k.T
 | [k],some _=>k.T×List Int
 | k :: k2 :: r,tl=>k.T×LT (k2 :: r) tl
def LT.cs:(ks:List Ck)→(tl:Option (IntKind×Nat))→LT ks tl→List Cp
 | [],none,_=>[]
 | [],some _,_=>[]
 | [k],none,x=>[k.mk x]
 | [k],some _,x=>[k.mk x.1]
 | k :: k2 :: r,tl,x=>k.mk x.1 :: LT.cs (k2 :: r) tl x.2
def LT.l:(ks:List Ck)→(tl:Option (IntKind×Nat))→LT ks tl→List Int
 | [],none,_=>[]
 | [],some _,x=>x
 | [_],none,_=>[]
 | [_],some _,x=>x.2
 | _ :: k2 :: r,tl,x=>LT.l (k2 :: r) tl x.2
structure Ly where
 ks:List Ck
 tl:Option (IntKind×Nat)
def lyBl (ks:List Ck) (tl:Option (IntKind×Nat)) (x:LT ks tl) (t:TypeId):Bl:=
 match tl,x with
 | none,x=>.cells ((LT.cs ks none x).map Cp.sc) t
 | some (k,m),x=>.mix ((LT.cs ks (some (k,m)) x).map Cp.sc) k m (LT.l ks (some (k,m)) x) t
def tailIs:Option (IntKind×Nat)→List Int→List Value→Prop
 | none,_,vs=>vs=[]
 | some (k,m),l,vs=>vs=l.map (Value.int k)∧l.length=m∧inL k l
def BlkIs (C:Cx) (g:Nat) (t:TypeId) (ks:List Ck) (tl:Option (IntKind×Nat)) (x:LT ks tl):Prop:=
 g < C.w.heap.size∧∃ us ls,C.w.heap[g]? = some (.cells (us++ls).toArray t (0,0))∧CpVs C (LT.cs ks tl x) us∧tailIs tl (LT.l ks tl x) ls
abbrev RcT:Option Ly→Bool→Type
 | none,_=>Unit
 | some L,false=>LT L.ks L.tl
 | some L,true=>Int×LT L.ks L.tl
abbrev CnT:Option Ly→Bool→Type
 | none,_=>Unit
 | some L,false=>LT L.ks L.tl
 | some _,true=>Unit
inductive Ow where
 | ptr (L:Ly) | arr (k:IntKind) (m:Nat)
abbrev OwT:Option Ow→Type
 | none=>Unit
 | some (.ptr L)=>Bool×LT L.ks L.tl
 | some (.arr _ _)=>List Int
structure RCon where
 rL:Option Ly
 rT:TypeId
 win:Bool
 ro:Bool
 ag:List Ag
 sa:List Sh
 oL:Option Ow
 oT:TypeId
 tup:Bool
 rg:List Ag
 sb:List Sh
 al:Bool
 F:RcT rL win→TT sa→Option (CnT rL ro×OwT oL×TT sb)
def RcvIs (C:Cx) (g:Nat) (t:TypeId):(rL:Option Ly)→(win:Bool)→RcT rL win→List Value→Prop
 | none,_,_,vs=>vs=[]
 | some L,false,x,vs=>BlkIs C g t L.ks L.tl x∧vs=[.pointer (some ⟨g,0,none⟩)]
 | some L,true,x,vs=>BlkIs C g t L.ks L.tl x.2∧∃ k m c,L.tl=some (k,m)∧0≤x.1∧x.1≤(m:Int)∧x.1.toNat≤c∧vs=[.slice (some ⟨g,L.ks.length,none⟩) x.1.toNat c]
def CnIs (C:Cx) (g:Nat) (t:TypeId):(rL:Option Ly)→(ro:Bool)→CnT rL ro→Prop
 | none,_,_=>True
 | some L,false,x=>BlkIs C g t L.ks L.tl x
 | some _,true,_=>True
def OwIs (C:Cx) (n0:Nat) (q:Option Nat) (t:TypeId):(oL:Option Ow)→OwT oL→List Value→Prop
 | none,_,vs=>q=none∧vs=[]
 | some (.arr k m),x,vs=>q=none∧vs=[.agg (x.map (Value.int k)).toArray]∧x.length=m∧inL k x
 | some (.ptr L),x,vs=>∃ p,vs=[p]∧((x.1=false∧q=none∧p = .pointer none)∨(x.1=true∧∃ g,q=some g∧n0≤g∧p = .pointer (some ⟨g,0,none⟩)∧BlkIs C g t L.ks L.tl x.2))
def tupIs:Bool→List Value→Value→Prop
 | true,vs,v=>v = .tuple vs.toArray
 | false,vs,v=>vs=[v]
def RCon.quiet (c:RCon):Bool:=c.ro||c.rL.isNone
def FnOkR (P:Program) (eT:TypeId) (f:FuncId) (c:RCon):Prop:=
 ∀ (x:RcT c.rL c.win) (y:TT c.sa) (r:CnT c.rL c.ro×OwT c.oL×TT c.sb) (w:World) (ok:Nat→Prop) (g:Nat) (v0s:List Value) (vs:Array Value),c.F x y=some r→(c.rL.isSome=true→¬ ok g) →
  RcvIs (C0 eT w ok) g c.rT c.rL c.win x v0s→V1s (C0 eT w ok) (group c.ag (TT.mk c.sa y)) vs.toList →
  CallOk P f (v0s.toArray++vs) w fun v w'=>∃ (q:Option Nat) (us ovs:List Value),OwIs (C0 eT w' fun p=>okRes c.al w ok p∧q≠some p) w.heap.size q c.oT c.oL r.2.1 ovs ∧
   V1s (C0 eT w' fun p=>okRes c.al w ok p∧q≠some p) (group c.rg (TT.mk c.sb r.2.2)) us∧tupIs c.tup (ovs++us) v ∧
   CnIs (C0 eT w' fun p=>okRes c.al w ok p∧q≠some p) g c.rT c.rL c.ro r.1∧Bw (bif c.quiet then [] else [g]) w w'
structure SCon where
 k:IntKind
 t:TypeId
 nf:FuncId
 ks:List Ck
 F:CT ks→List Int→Option (List Int)
structure SSig where
 k:IntKind
 t:TypeId
 nf:FuncId
 ks:List Ck
def SSig.con (s:SSig) (F:CT s.ks→List Int→Option (List Int)):SCon:=⟨s.k,s.t,s.nf,s.ks,F⟩
def FnOkS (P:Program) (eT:TypeId) (f:FuncId) (c:SCon):Prop:=
 ∀ (x:CT c.ks) (l r:List Int) (w:World) (ok:Nat→Prop) (base:Nat) (v:Value) (us:Array Value),c.F x l=some r→inL c.k l→w.ownsRow base c.t 1 v l.length (l.map (Value.int c.k))→(∀ g,v.ownBlock=some g→¬ ok g)→CpAs (C0 eT w ok) (CT.mk c.ks x) us.toList →
  CallOk P f #[v,.func (.func c.nf) #[] us] w fun u w'=>u = .tuple #[]∧inL c.k r∧w'.ownsRow base c.t 1 v r.length (r.map (Value.int c.k))∧Bw v.ownBlock.toList w w'
inductive Cn where
 | f (c:Con) | r (c:RCon) | s (c:SCon)
def RCon.fits (c:RCon) (l:List A1):Bool:=
 match c.rL,c.win,l with
 | some L,true,.s (.win _ o _ _) :: _=>Nat.beq o L.ks.length
 | _,_,_=>true
def SCon.fits (c:SCon):List A1→Bool
 | [.s (.lst _),.s (.clo g _)]=>Nat.beq g c.nf
 | _=>false
def Cn.fits (c:Cn) (l:List A1):Bool:=
 match c with
 | .f c=>c.fits l
 | .r c=>c.fits l
 | .s c=>c.fits l
def CnOk (P:Program) (eT:TypeId) (f:FuncId):Cn→Prop
 | .f c=>FnOk P eT f c
 | .r c=>FnOkR P eT f c
 | .s c=>FnOkS P eT f c
def lookC:List (FuncId×Cn)→FuncId→List A1→Option Cn
 | [],_,_=>none
 | (t,x) :: r,i,l=>bif Nat.beq t i&&x.fits l then some x else lookC r i l
def AllOk (P:Program) (eT:TypeId):List (FuncId×Cn)→Prop
 | []=>True
 | (f,c) :: r=>CnOk P eT f c∧AllOk P eT r
theorem AllOk.get {P:Program} {eT:TypeId}:∀ {Γ:List (FuncId×Cn)} {f:FuncId} {l:List A1} {c:Cn},AllOk P eT Γ→lookC Γ f l=some c→CnOk P eT f c
 | [],_,_,_,_,h=>by cases h
 | (t,x) :: r,f,l,c,h,hl=>by
  unfold lookC at hl
  cases hb:Nat.beq t f&&x.fits l <;> rw [hb] at hl
  ·exact AllOk.get h.2 hl
  ·injection hl with hl
   subst hl
   rw [Bool.and_eq_true] at hb
   have:=Nat.eq_of_beq_eq_true hb.1
   subst this
   exact h.1
def intern:List Ee→List Sc→List Ee×List Sc
 | es,[]=>(es,[])
 | es,.erc e :: cs=>let r:=intern (es++[.unk e]) cs;(r.1,.err es.length :: r.2)
 | es,x :: cs=>let r:=intern es cs;(r.1,x :: r.2)
def thawA (b:Nat) (k:IntKind) (l:List Int):AV→AV
 | .one (.s (.lst c))=>bif Nat.beq c b then .one (.s (.rd k l)) else .one (.s (.lst c))
 | av=>av
def thawT (b:Nat) (k:IntKind) (l:List Int):List (Nat×AV)→List (Nat×AV)
 | []=>[]
 | (t,av) :: r=>(t,thawA b k l av) :: thawT b k l r
def St.thaw (σ:St) (b:Nat) (k:IntKind) (l:List Int):St:=⟨thawT b k l σ.tm, σ.bl.set b .dead, σ.es⟩
theorem look_thaw {b:Nat} {k:IntKind} {l:List Int}:∀ {tm:List (Nat×AV)} {t:Nat} {av:AV},look (thawT b k l tm) t=some av→∃ av0,look tm t=some av0∧av=thawA b k l av0
 | [],_,_,h=>by cases h
 | (t0,av0) :: r,t,av,h=>by
  simp only [thawT,look] at h ⊢
  split at h
  ·rename_i he
   injection h with h
   exact ⟨av0,by rw [if_pos he],h.symm⟩
  ·rename_i he
   rw [if_neg he]
   exact look_thaw h
def thawAS (b:Nat) (ks:List Ck) (l:List (CT ks)):AV→AV
 | .one (.s (.lss c))=>bif Nat.beq c b then .one (.s (.rds ks l)) else .one (.s (.lss c))
 | av=>av
def thawTS (b:Nat) (ks:List Ck) (l:List (CT ks)):List (Nat×AV)→List (Nat×AV)
 | []=>[]
 | (t,av) :: r=>(t,thawAS b ks l av) :: thawTS b ks l r
def St.thawS (σ:St) (b:Nat) (ks:List Ck) (l:List (CT ks)):St:=⟨thawTS b ks l σ.tm, σ.bl.set b .dead, σ.es⟩
theorem look_thawS {b:Nat} {ks:List Ck} {l:List (CT ks)}:∀ {tm:List (Nat×AV)} {t:Nat} {av:AV},look (thawTS b ks l tm) t=some av→∃ av0,look tm t=some av0∧av=thawAS b ks l av0
 | [],_,_,h=>by cases h
 | (t0,av0) :: r,t,av,h=>by
  simp only [thawTS,look] at h ⊢
  split at h
  ·rename_i he
   injection h with h
   exact ⟨av0,by rw [if_pos he],h.symm⟩
  ·rename_i he
   rw [if_neg he]
   exact look_thawS h
def freezeSc (rv:Bool) (σ:St):Sc→Option (St×Sc)
 | .lst b=>(match σ.bl[b]? with
  | some (.ints k _ l)=>some (σ.thaw b k l,.rd k l)
  | _=>none)
 | .lss b=>(match σ.bl[b]? with
  | some (.rows ks _ l)=>some (σ.thawS b ks l,.rds ks l)
  | _=>none)
 | .sst b n sz=>(match σ.bl[b]? with
  | some (.cells cs _)=>(match ksOf (cs.take sz) with
   | some ks=>bif ((!rv||Nat.blt 0 b)&&(Nat.beq sz ks.length&&Nat.blt 0 sz))&&(Nat.ble n 1000&&Nat.beq cs.length (n*sz)) then (match splitS ks n cs with
    | some l=>some (σ.setB b .dead,.rds ks l)
    | none=>none) else none
   | none=>none)
  | _=>none)
 | x=>some (σ,x)
def freezeL (rv:Bool):St→List Sc→Option (St×List Sc)
 | σ,[]=>some (σ,[])
 | σ,x :: xs=>(match freezeSc rv σ x with
  | some (σ1,y)=>(match freezeL rv σ1 xs with
   | some (σ2,ys)=>some (σ2,y :: ys)
   | none=>none)
  | none=>none)
end Go.Proofs.YtbpcfhhcoklinaaGreat.Ab
namespace Go.Proofs.YtbpcfhhcoklinaaGreat.Ab
open Go Go.RowKit
theorem own_reads {w : World} {base : Nat} {k : IntKind} {t : TypeId} {v : Value} {l : List Int} (hin : inL k l) (h : w.ownsRow base t 1 v l.length (l.map (Value.int k))) (ok : Nat → Prop) (hok : ∀ g, v.ownBlock = some g → ok g) :
    ∃ A c,v = .slice A l.length c∧l.length≤c∧inL k l∧Rds w ok A k l:=by
  obtain ⟨h1,h2⟩:=h
  rcases h2 with ⟨rfl,h2⟩ | ⟨g,cap,cur,rfl,e2,e3,e4,e5,e6,e7⟩
  · refine ⟨none,0,by rw [h2],by omega,hin,fun i hi=>by omega⟩
  · refine ⟨_,cap,rfl,e4,hin,fun i hi=>⟨_,rfl, ?_, ?_, ?_⟩⟩
    · exact hok g rfl
    · exact (Array.getElem?_eq_some_iff.1 e3).1
    · rw [Addr.add_mid,cell_at e3]
      have:(cur.toList.take (l.length*1))[i]? = some (.int k l[i]):=by
        rw [e7,List.getElem?_map,List.getElem?_eq_getElem hi];rfl
      rw [List.getElem?_take,if_pos (by omega)] at this
      simpa using this
theorem own_readsS {C:Cx} {base:Nat} {ks:List Ck} {t:TypeId} {v:Value} {l:List (CT ks)} (hin:inR ks l) (h:C.w.ownsRow base t ks.length v l.length (flatV ks l)) (hok:∀ g,v.ownBlock=some g→C.ok g):VS C (.rds ks l) v:=by
  obtain ⟨h1,h2⟩:=h
  rcases h2 with ⟨rfl,h2⟩ | ⟨g,cap,cur,rfl,e2,e3,e4,e5,e6,e7⟩
  · exact ⟨none,0,by rw [h2],by omega,hin.1,fun i hi=>by omega⟩
  · refine ⟨_,cap,rfl,e4,hin.1,fun i hi=>⟨g,0,rfl,hok g rfl,(Array.getElem?_eq_some_iff.1 e3).1,CT.vals ks l[i],vals_cp hin.2.1.1 (hin.2.2 _ (List.getElem_mem hi)),fun j u hj=>?_⟩⟩
    have hjl:j < ks.length:=by have:=(List.getElem?_eq_some_iff.1 hj).1;rw [CT.vals_len] at this;exact this
    have hfit:(i+1)*ks.length≤l.length*ks.length:=Nat.mul_le_mul_right _ hi
    rw [Nat.add_mul,Nat.one_mul] at hfit
    rw [Nat.zero_add,cell_at e3]
    have:=flatV_get l i j hi hjl
    rw [hj,← e7,List.getElem?_take,if_pos (by omega)] at this
    simpa using this
section
variable {β:Type} {E:En} {w0:World} {ok0:Nat→Prop} {gs:List Nat} {ρ:Nat→Nat} {vl:Nat→Value} {σ:St} {a:Act} {w:World}
def noLst:List Sc→Bool
  | []=>true
  | .lst _ :: _=>false
  | .lss _ :: _=>false
  | _ :: r=>noLst r
theorem CpA.into (C:Cx) {okA:Nat→Prop} (hok:∀ g,C.ok g→okA g) {c:Cp} {v:Value} (hv:CpA C c v):CpA (C0 C.eT C.w okA) c v:=by
  obtain ⟨a,u,rfl,h1,h2,h3,h4⟩:=hv
  refine ⟨a,u,rfl,hok _ h1,h2,h3, ?_⟩
  cases c with
  | int k n=>exact h4
  | bool b=>exact h4
  | row k l=>obtain ⟨A,c,h5,h6,h7,h8⟩:=h4;exact ⟨A,c,h5,h6,h7,fun i hi=>by obtain ⟨p,h9,h10,h11⟩:=h8 i hi;exact ⟨p,h9,hok _ h10,h11⟩⟩
theorem CpAs.into {C:Cx} {okA:Nat→Prop} (hok:∀ g,C.ok g→okA g):∀ {cs:List Cp} {vs:List Value},CpAs C cs vs→CpAs (C0 C.eT C.w okA) cs vs
  | [],[],_=>trivial
  | _ :: _,_ :: _,hv=>⟨CpA.into C hok hv.1,CpAs.into hok hv.2⟩
  | [],_ :: _,hv=>hv.elim
  | _ :: _,[],hv=>hv.elim
theorem CpVs.into {C:Cx} {okA:Nat→Prop} (hok:∀ g,C.ok g→okA g):∀ {cs:List Cp} {vs:List Value},CpVs C cs vs→CpVs (C0 C.eT C.w okA) cs vs
  | [],[],_=>trivial
  | c :: _,_ :: _,hv=>by
    refine ⟨?_,CpVs.into hok hv.2⟩
    have h4:=hv.1
    cases c with
    | int k n=>exact h4
    | bool b=>exact h4
    | row k l=>obtain ⟨A,c,h5,h6,h7,h8⟩:=h4;exact ⟨A,c,h5,h6,h7,fun i hi=>by obtain ⟨p,h9,h10,h11⟩:=h8 i hi;exact ⟨p,h9,hok _ h10,h11⟩⟩
  | [],_ :: _,hv=>hv.elim
  | _ :: _,[],hv=>hv.elim
theorem CpRow.into {C:Cx} {okA:Nat→Prop} (hok:∀ g,C.ok g→okA g) {cs:List Cp} {g off:Nat} (h:CpRow C cs g off):CpRow (C0 C.eT C.w okA) cs g off:=by
  obtain ⟨h1,h2,us,h3,h4⟩:=h
  exact ⟨hok _ h1,h2,us,h3.into hok,h4⟩
theorem Sh.of_ok (hR : Rel E w0 ok0 gs ρ vl σ a w) {s : Sh} {c : Sc} {x : s.T} {v : Value} {okA : Nat → Prop} (hok : ∀ g, (cx E w0 ok0 gs ρ vl σ w).ok g → okA g) (hl : ∀ b, c = .lst b → ∀ k t l g, σ.bl[b]? = some (.ints k t l) → (vl b).ownBlock = some g → okA g) (hl2 : ∀ b, c = .lss b → ∀ ks t l g, σ.bl[b]? = some (.rows ks t l) → (vl b).ownBlock = some g → okA g)
    (h:s.of σ c=some x) (hv:VS (cx E w0 ok0 gs ρ vl σ w) c v):VS (C0 E.eT w okA) (s.mk x) v:=by
  unfold Sh.of at h
  split at h
  · obtain ⟨hk,h⟩:=bif_some h
    have hk:=of_decide_eq_true hk
    subst hk
    injection h with h
    subst h
    exact ⟨hv.1,hv.2.1,by simp,by simp⟩
  · injection h with h;subst h;exact hv
  · injection h with h;subst h;exact ⟨hv.1,hv.2.1,by simp⟩
  · injection h with h;subst h;exact hv
  · obtain ⟨e,h1,h2⟩:=hv
    have h1':σ.es[_]? = some e:=h1
    rw [h1'] at h
    injection h with h
    subst h
    exact h2
  · obtain ⟨hk,h⟩:=bif_some h
    have hk:=of_decide_eq_true hk
    subst hk
    injection h with h
    subst h
    obtain ⟨A,c,h1,h2,h3,h4⟩:=hv
    exact ⟨A,c,h1,h2,h3,fun i hi=>by obtain ⟨p,h5,h6,h7⟩:=h4 i hi;exact ⟨p,h5,hok _ h6,h7⟩⟩
  · injection h with h
    subst h
    exact ⟨none,0,hv,by simp,⟨by simp,by simp⟩,fun i hi=>by simp at hi⟩
  · rename_i k b
    split at h
    · rename_i k' t l hb
      obtain ⟨hk,h⟩:=bif_some h
      have hk:=of_decide_eq_true hk
      subst hk
      injection h with h
      subst h
      have hB:=hR.bl b _ hb
      have hv':v=vl b:=hv.2.1
      rw [hv']
      exact own_reads hB.1 hB.2 okA (fun g hg=>hl b rfl _ _ _ g hb hg)
    · cases h
  · obtain ⟨hk,h⟩:=bif_some h
    have hk:=Nat.eq_of_beq_eq_true hk
    subst hk
    exact hv
  · have hk:=bif_some h
    have hk1:=Nat.eq_of_beq_eq_true hk.1
    subst hk1
    obtain ⟨us,h1,h2⟩:=hv
    refine ⟨us,h1, ?_⟩
    rw [CT.of_eq hk.2]
    exact h2.into hok
  · show CpA _ _ _
    rw [Ck.of_eq h]
    exact CpA.into (cx E w0 ok0 gs ρ vl σ w) hok hv
  · have hk:=castL_ok h
    rw [hk] at hv
    obtain ⟨A,c,h1,h2,h3,h4⟩:=hv
    refine ⟨A,c,h1,h2,h3,fun i hi=>?_⟩
    obtain ⟨g,off,h5,h6⟩:=h4 i hi
    exact ⟨g,off,h5,h6.into hok⟩
  · injection h with h
    subst h
    exact ⟨none,0,hv,by simp,by simp,fun i hi=>by simp at hi⟩
  · rename_i ks b
    split at h
    · rename_i ks' t l hb
      have hk:=castL_ok h
      have hB:=hR.bl b _ hb
      have hv':v=vl b:=hv.2.1
      rw [hv']
      have:=own_readsS (C:=C0 E.eT w okA) hB.1 hB.2 (fun g hg=>hl2 b rfl _ _ _ g hb hg)
      rw [hk] at this
      exact this
    · cases h
  · cases h
theorem TT.of_ok' (hR : Rel E w0 ok0 gs ρ vl σ a w) {okA : Nat → Prop} (hok : ∀ g, (cx E w0 ok0 gs ρ vl σ w).ok g → okA g) :
    ∀ {ss:List Sh} {cs:List Sc} {x:TT ss},(noLst cs=true∨((∀ b k t l g, σ.bl[b]? = some (.ints k t l)→(vl b).ownBlock=some g→okA g)∧∀ b ks t l g, σ.bl[b]? = some (.rows ks t l)→(vl b).ownBlock=some g→okA g))→TT.of σ ss cs=some x→Lift (cx E w0 ok0 gs ρ vl σ w) (C0 E.eT w okA) cs (TT.mk ss x)
  | [],[],x,_,h=>trivial
  | [s],[c],x,hl,h=>by
    refine ⟨fun v hv=>Sh.of_ok hR hok (fun b hb k t l g hbl hg=>?_) (fun b hb k t l g hbl hg=>?_) h hv,trivial⟩
    · rcases hl with hl | hl
      · subst hb;simp [noLst] at hl
      · exact hl.1 b k t l g hbl hg
    · rcases hl with hl | hl
      · subst hb;simp [noLst] at hl
      · exact hl.2 b k t l g hbl hg
  | s :: t :: r,c :: cs,x,hl,h=>by
    unfold TT.of at h
    split at h
    · rename_i y ys hy hys
      injection h with h
      subst h
      refine ⟨fun v hv=>Sh.of_ok hR hok (fun b hb k t l g hbl hg=>?_) (fun b hb k t l g hbl hg=>?_) hy hv,TT.of_ok' hR hok ?_ hys⟩
      · rcases hl with hl | hl
        · subst hb;simp [noLst] at hl
        · exact hl.1 b k t l g hbl hg
      · rcases hl with hl | hl
        · subst hb;simp [noLst] at hl
        · exact hl.2 b k t l g hbl hg
      · rcases hl with hl | hl
        · refine .inl ?_
          cases c <;> simp [noLst] at hl ⊢ <;> exact hl
        · exact .inr hl
    · cases h
  | [],_ :: _,_,_,h=>by simp [TT.of] at h
  | [_],[],_,_,h=>by simp [TT.of] at h
  | [_],_ :: _ :: _,_,_,h=>by simp [TT.of] at h
  | _ :: _ :: _,[],_,_,h=>by simp [TT.of] at h
theorem TT.of_ok (hR:Rel E w0 ok0 gs ρ vl σ a w) {okA:Nat→Prop} (hok:∀ g,(cx E w0 ok0 gs ρ vl σ w).ok g→okA g) {ss:List Sh} {cs:List Sc} {x:TT ss} (hl:noLst cs=true∨∀ b g,liveAt ρ vl σ b g→okA g) (h:TT.of σ ss cs=some x):Lift (cx E w0 ok0 gs ρ vl σ w) (C0 E.eT w okA) cs (TT.mk ss x):=
  TT.of_ok' hR hok (hl.imp id fun h=>⟨fun b k t l g hb hg=>h b g ⟨_,hb,hg⟩,fun b k t l g hb hg=>h b g ⟨_,hb,hg⟩⟩) h
theorem Rel.kill (hR : Rel E w0 ok0 gs ρ vl σ a w) {b : Nat} (hb : b < σ.bl.length) : Rel E w0 ok0 gs ρ vl (σ.setB b .dead) a w ∧ (cx E w0 ok0 gs ρ vl σ w).Le (cx E w0 ok0 gs ρ vl (σ.setB b .dead) w) ∧
    ∀ g,liveAt ρ vl σ b g→w0.heap.size≤g→(cx E w0 ok0 gs ρ vl (σ.setB b .dead) w).ok g:=by
  have hlive:∀ b' q,liveAt ρ vl (σ.setB b .dead) b' q→b'≠b∧liveAt ρ vl σ b' q:=by
    rintro b' q ⟨y,h1,h2⟩
    by_cases hbb:b'=b
    · subst hbb
      have:y = .dead:=by simp [St.setB,List.getElem?_set,hb] at h1;exact h1.symm
      subst this
      cases h2
    · exact ⟨hbb,y,by simpa [St.setB,List.getElem?_set_ne (Ne.symm hbb)] using h1,h2⟩
  have hle:(cx E w0 ok0 gs ρ vl σ w).Le (cx E w0 ok0 gs ρ vl (σ.setB b .dead) w):=by
    refine ⟨rfl,by simp [cx,St.setB],fun _ _=>rfl,fun _ _=>rfl,fun i e h=>⟨e,h,rfl⟩, ?_,Nat.le_refl _,fun _ _ _=>rfl⟩
    intro q hq _
    rcases hq with hq | ⟨h1,h1',h2⟩
    · exact .inl hq
    · exact .inr ⟨h1,h1',fun b' h=>h2 b' (hlive b' q h).2⟩
  refine ⟨⟨hR.size,hR.defers,fun t av ht=>⟨(hR.tm t av ht).1,(hR.tm t av ht).2.le hle⟩, ?_, ?_, ?_,hR.bw,fun q hq=>⟨by simpa [St.setB] using (hR.rc q hq).1,fun p hp=>(hR.rc q hq).2.1 p (hlive 0 p hp).2,(hR.rc q hq).2.2⟩⟩,hle, ?_⟩
  · intro b' y hy
    by_cases hbb:b'=b
    · subst hbb
      have:y = .dead:=by simp [St.setB,List.getElem?_set,hb] at hy;exact hy.symm
      subst this
      trivial
    · have hy':σ.bl[b']? = some y:=by simpa [St.setB,List.getElem?_set_ne (Ne.symm hbb)] using hy
      exact BS.le hle rfl (bl_lt hy') (fun q hq=>rfl) (hR.bl b' y hy')
  · intro b1 b2 q h1 h2
    exact hR.dist b1 b2 q (hlive b1 q h1).2 (hlive b2 q h2).2
  · intro b1 q h1
    exact hR.own b1 q (hlive b1 q h1).2
  · intro g hg hb'
    refine .inr ⟨hb',(hR.own b g hg).1.2,fun b' h=>?_⟩
    obtain ⟨h1,h2⟩:=hlive b' g h
    exact h1 (hR.dist b' b g h2 hg)
theorem Rel.thaw (hR : Rel E w0 ok0 gs ρ vl σ a w) {b : Nat} {k : IntKind} {t : TypeId} {l : List Int} (hbl : σ.bl[b]? = some (.ints k t l)) : Rel E w0 ok0 gs ρ vl (σ.thaw b k l) a w ∧ (cx E w0 ok0 gs ρ vl σ w).Le (cx E w0 ok0 gs ρ vl (σ.thaw b k l) w) ∧
    ∀ g,liveAt ρ vl σ b g→w0.heap.size≤g→(cx E w0 ok0 gs ρ vl (σ.thaw b k l) w).ok g:=by
  obtain ⟨h1,h2,h3⟩:=hR.kill (bl_lt hbl)
  refine ⟨⟨h1.size,h1.defers,fun t' av ht=>?_,h1.bl,h1.dist,h1.own,h1.bw,h1.rc⟩,h2,h3⟩
  obtain ⟨av0,h4,rfl⟩:=look_thaw ht
  obtain ⟨h5,h6⟩:=h1.tm t' av0 h4
  refine ⟨h5, ?_⟩
  unfold thawA
  split
  · rename_i c
    cases hc:Nat.beq c b
    · exact h6
    · have hc:=Nat.eq_of_beq_eq_true hc
      subst hc
      have hB:=hR.bl c _ hbl
      have hv:a.tmps.getD t' undef=vl c:=h6.2.1
      show VS _ (.rd k l) _
      rw [hv]
      exact own_reads hB.1 hB.2 _ (fun g hg=>h3 g ⟨_,hbl,hg⟩ (hB.2.lt g hg).1)
  · exact h6
theorem Rel.thawS (hR : Rel E w0 ok0 gs ρ vl σ a w) {b : Nat} {ks : List Ck} {t : TypeId} {l : List (CT ks)} (hbl : σ.bl[b]? = some (.rows ks t l)) : Rel E w0 ok0 gs ρ vl (σ.thawS b ks l) a w ∧ (cx E w0 ok0 gs ρ vl σ w).Le (cx E w0 ok0 gs ρ vl (σ.thawS b ks l) w) ∧
    ∀ g,liveAt ρ vl σ b g→w0.heap.size≤g→(cx E w0 ok0 gs ρ vl (σ.thawS b ks l) w).ok g:=by
  obtain ⟨h1,h2,h3⟩:=hR.kill (bl_lt hbl)
  refine ⟨⟨h1.size,h1.defers,fun t' av ht=>?_,h1.bl,h1.dist,h1.own,h1.bw,h1.rc⟩,h2,h3⟩
  obtain ⟨av0,h4,rfl⟩:=look_thawS ht
  obtain ⟨h5,h6⟩:=h1.tm t' av0 h4
  refine ⟨h5, ?_⟩
  unfold thawAS
  split
  · rename_i c
    cases hc:Nat.beq c b
    · exact h6
    · have hc:=Nat.eq_of_beq_eq_true hc
      subst hc
      have hB:=hR.bl c _ hbl
      have hv:a.tmps.getD t' undef=vl c:=h6.2.1
      show VS _ (.rds ks l) _
      rw [hv]
      exact own_readsS hB.1 hB.2 (fun g hg=>h3 g ⟨_,hbl,hg⟩ (hB.2.lt g hg).1)
  · exact h6
theorem freezeSc_ok (hR : Rel E w0 ok0 gs ρ vl σ a w) {σ' : St} {x y : Sc} (h : freezeSc E.rcv.isSome σ x = some (σ', y)) :
    Rel E w0 ok0 gs ρ vl σ' a w∧(cx E w0 ok0 gs ρ vl σ w).Le (cx E w0 ok0 gs ρ vl σ' w)∧(∀ v,VS (cx E w0 ok0 gs ρ vl σ w) x v→VS (cx E w0 ok0 gs ρ vl σ' w) y v):=by
  unfold freezeSc at h
  split at h
  · rename_i b
    split at h
    · rename_i k t l hb
      injection h with h
      injection h with h1 h2
      subst h1 h2
      obtain ⟨h3,h4,h5⟩:=hR.thaw hb
      refine ⟨h3,h4,fun v hv=>?_⟩
      have hB:=hR.bl b _ hb
      have hv':v=vl b:=hv.2.1
      rw [hv']
      refine own_reads hB.1 hB.2 _ (fun g hg=>h5 g ⟨_,hb,hg⟩ ?_)
      exact (hB.2.lt g hg).1
    · cases h
  · rename_i b
    split at h
    · rename_i ks t l hb
      injection h with h
      injection h with h1 h2
      subst h1 h2
      obtain ⟨h3,h4,h5⟩:=hR.thawS hb
      refine ⟨h3,h4,fun v hv=>?_⟩
      have hB:=hR.bl b _ hb
      have hv':v=vl b:=hv.2.1
      rw [hv']
      exact own_readsS hB.1 hB.2 (fun g hg=>h5 g ⟨_,hb,hg⟩ (hB.2.lt g hg).1)
    · cases h
  · rename_i b n sz
    split at h
    · rename_i cs t hb
      split at h
      · rename_i ks hks
        have hq:=bif_some h
        clear h
        obtain ⟨hc,h⟩:=hq
        split at h
        · rename_i l hl
          injection h with h
          injection h with e1 e2
          subst e1 e2
          simp only [Bool.and_eq_true,Bool.or_eq_true,Bool.not_eq_true'] at hc
          obtain ⟨⟨c0,c1,c2⟩,c3,c4⟩:=hc
          have c1:=Nat.eq_of_beq_eq_true c1
          have c4:=Nat.eq_of_beq_eq_true c4
          have c3:=Nat.le_of_ble_eq_true c3
          obtain ⟨hn, -⟩:=ksOf_ok hks
          subst c1
          obtain ⟨h3,h4,h5⟩:=hR.kill (bl_lt hb)
          obtain ⟨b1,vs,b2,b3⟩:=hR.bl b _ hb
          have hlive:liveAt ρ vl σ b (ρ b):=⟨_,hb,rfl⟩
          have hbase:w0.heap.size≤ρ b:=by
            rcases (hR.own b _ hlive).1.1 with h6 | ⟨h6,h7⟩
            · exact h6
            · rcases c0 with c0 | c0
              · rw [h7] at c0;cases c0
              · subst h6;exact absurd c0 (by decide)
          have hok:=h5 _ hlive hbase
          obtain ⟨s1,s2,s3⟩:=splitS_ok hl b3
          have hlen:=b3.len
          have hall:vs.toList=flatV ks l:=by rw [← s2,List.take_of_length_le (by simp;omega)]
          have b2':w.heap[ρ b]? = some (.cells vs t (0,0)):=b2
          refine ⟨h3,h4,fun v hv=>?_⟩
          obtain ⟨-,rfl⟩:=hv
          refine ⟨some ⟨ρ b,0,none⟩,n,by rw [s1];rfl,by omega,by omega,fun i hi=>⟨ρ b,0,rfl,hok,b1,CT.vals ks l[i],vals_cp hn (s3 _ (List.getElem_mem hi)),fun j u hj=>?_⟩⟩
          have hjl:j < ks.length:=by have:=(List.getElem?_eq_some_iff.1 hj).1;rw [CT.vals_len] at this;exact this
          show w.cell? ⟨ρ b,0+i*ks.length+j,none⟩=some u
          rw [Nat.zero_add,cell_at b2']
          have:=flatV_get l i j hi hjl
          rw [hj,← hall] at this
          simpa using this
        · cases h
      · cases h
    · cases h
  · injection h with h
    injection h with h1 h2
    subst h1 h2
    exact ⟨hR,.refl _,fun v hv=>hv⟩
theorem Lift.refl (C:Cx):∀ xs:List Sc,Lift C C xs xs
  | []=>trivial
  | _ :: xs=>⟨fun _ h=>h,Lift.refl C xs⟩
theorem Lift.of_le {C D:Cx} (h:C.Le D):∀ xs:List Sc,Lift C D xs xs
  | []=>trivial
  | _ :: xs=>⟨fun _ hv=>hv.le h,Lift.of_le h xs⟩
theorem Lift.trans {C D F:Cx}:∀ {xs ys zs:List Sc},Lift C D xs ys→Lift D F ys zs→Lift C F xs zs
  | [],[],[],_,_=>trivial
  | _ :: _,_ :: _,_ :: _,h1,h2=>⟨fun v hv=>h2.1 v (h1.1 v hv),Lift.trans h1.2 h2.2⟩
  | [],_ :: _,_,h,_=>h.elim
  | _ :: _,[],_,h,_=>h.elim
  | _ :: _,_ :: _,[],_,h=>h.elim
  | [],[],_ :: _,_,h=>h.elim
theorem freezeL_ok : ∀ {xs ys : List Sc} {σ σ' : St}, Rel E w0 ok0 gs ρ vl σ a w → freezeL E.rcv.isSome σ xs = some (σ', ys) →
    Rel E w0 ok0 gs ρ vl σ' a w∧(cx E w0 ok0 gs ρ vl σ w).Le (cx E w0 ok0 gs ρ vl σ' w)∧Lift (cx E w0 ok0 gs ρ vl σ w) (cx E w0 ok0 gs ρ vl σ' w) xs ys
  | [],ys, σ, σ',hR,h=>by
    simp only [freezeL,Option.some.injEq,Prod.mk.injEq] at h
    obtain ⟨rfl,rfl⟩:=h
    exact ⟨hR,.refl _,trivial⟩
  | x :: xs,ys, σ, σ',hR,h=>by
    unfold freezeL at h
    split at h
    · rename_i σ1 y h1
      split at h
      · rename_i σ2 zs h2
        simp only [Option.some.injEq,Prod.mk.injEq] at h
        obtain ⟨rfl,rfl⟩:=h
        obtain ⟨h3,h4,h5⟩:=freezeSc_ok hR h1
        obtain ⟨h6,h7,h8⟩:=freezeL_ok h3 h2
        have h47:(cx E w0 ok0 gs ρ vl σ w).Le (cx E w0 ok0 gs ρ vl σ2 w):=
          ⟨rfl,Nat.le_trans h4.nb h7.nb,fun _ _=>rfl,fun _ _=>rfl,fun i e he=>by obtain ⟨e1,a1,a2⟩:=h4.es i e he;obtain ⟨e2,a3,a4⟩:=h7.es i e1 a1;exact ⟨e2,a3,a4.trans a2⟩,fun g hg hl=>h7.ok g (h4.ok g hg hl) hl,Nat.le_refl _,fun _ _ _=>rfl⟩
        exact ⟨h6,h47,fun v hv=>(h5 v hv).le h7,(Lift.of_le h4 xs).trans h8⟩
      · cases h
    · cases h
theorem intern_ok {C D:Cx} (hD:D.eT=C.eT):∀ {cs:List Sc} {es:List Ee},(∀ x v,(∀ e,x≠.erc e)→VS C x v→VS D x v)→(∀ (i:Nat) (e:Ee),(intern es cs).1[i]? = some e→D.es[i]? = some e)→Lift C D cs (intern es cs).2
  | [],es,_,_=>trivial
  | x :: cs,es,hx,he=>by
    have key:∀ (y:Sc),(∀ e,y≠.erc e)→intern es (y :: cs)=((intern es cs).1,y :: (intern es cs).2)→x=y→Lift C D (x :: cs) (intern es (x :: cs)).2:=by
      intro y hy hi hxy
      subst hxy
      rw [hi] at he ⊢
      exact ⟨fun v hv=>hx _ _ hy hv,intern_ok hD hx he⟩
    cases x with
    | erc e =>
      have hmono:∀ (cs:List Sc) (es:List Ee) (i:Nat) (e:Ee),es[i]? = some e→(intern es cs).1[i]? = some e:=by
        intro cs
        induction cs with
        | nil=>intro es i e h;exact h
        | cons x cs ih =>
          intro es i e h
          cases x <;> simp only [intern] <;> first
            | exact ih _ _ _ h
            | (refine ih _ _ _ ?_;rw [List.getElem?_append_left (List.getElem?_eq_some_iff.1 h).1];exact h)
      refine ⟨fun v hv=>⟨.unk e,he _ _ (hmono cs _ _ _ (by simp)), ?_⟩,intern_ok hD hx he⟩
      obtain ⟨hv1,hv2⟩:=hv
      exact ⟨by rw [hv1,hD];rfl,hv2⟩
    | _=>exact key _ (by intro e h;cases h) rfl rfl
theorem intern_mono:∀ (cs:List Sc) (es:List Ee) (i:Nat) (e:Ee),es[i]? = some e→(intern es cs).1[i]? = some e:=by
  intro cs
  induction cs with
  | nil=>intro es i e h;exact h
  | cons x cs ih =>
    intro es i e h
    cases x <;> simp only [intern] <;> first
      | exact ih _ _ _ h
      | (refine ih _ _ _ ?_;rw [List.getElem?_append_left (List.getElem?_eq_some_iff.1 h).1];exact h)
theorem Rel.step' (hR:Rel E w0 ok0 gs ρ vl σ a w) {w':World} {gs':List Nat} (hg1:∀ p,p∈gs→p∈gs') (hg2:∀ p,p∈gs'→p∈gs∨(w.heap.size≤p∧p < w'.heap.size)) (hw:Bw [] w w'):Rel E w0 ok0 gs' ρ vl σ a w'∧(cx E w0 ok0 gs ρ vl σ w).Le (cx E w0 ok0 gs' ρ vl σ w'):=by
  have hle:(cx E w0 ok0 gs ρ vl σ w).Le (cx E w0 ok0 gs' ρ vl σ w'):=
    ⟨rfl,Nat.le_refl _,fun _ _=>rfl,fun _ _=>rfl,fun i e h=>⟨e,h,rfl⟩,fun q hq hlt0=>by
      rcases hq with hq | ⟨h1,h1',h2⟩
      · exact .inl hq
      · exact .inr ⟨h1,fun hm=>(hg2 q hm).elim h1' fun h3=>absurd hlt0 (Nat.not_lt_of_le h3.1),h2⟩,hw.size,fun g _ hl=>hw.block g hl (by simp)⟩
  refine ⟨⟨hR.size,hR.defers,fun t av ht=>⟨(hR.tm t av ht).1,(hR.tm t av ht).2.le hle⟩, ?_,hR.dist, ?_,⟨(hR.bw.step hw).toBw,fun q hq=>(hg2 q hq).elim (fun hq=>(hR.bw.step hw).hid q hq) fun h3=>⟨Nat.le_trans hR.bw.size h3.1,h3.2⟩⟩,hR.rc⟩,hle⟩
  · intro b x hx
    exact BS.le hle rfl (bl_lt hx) (fun q hq=>hw.block q (hR.own b q ⟨x,hx,hq⟩).2 (by simp)) (hR.bl b x hx)
  · intro b g h
    have this:=hR.own b g h
    exact ⟨⟨this.1.1,fun hm=>(hg2 g hm).elim this.1.2 fun h3=>absurd this.2 (Nat.not_lt_of_le h3.1)⟩,Nat.lt_of_lt_of_le this.2 hw.size⟩
theorem Rel.step (hR:Rel E w0 ok0 gs ρ vl σ a w) {w':World} (hw:Bw [] w w'):Rel E w0 ok0 gs ρ vl σ a w'∧(cx E w0 ok0 gs ρ vl σ w).Le (cx E w0 ok0 gs ρ vl σ w'):=
  hR.step' (fun _ h=>h) (fun _ h=>.inl h) hw
theorem Rel.more (hR : Rel E w0 ok0 gs ρ vl σ a w) {es' : List Ee} (he : ∀ (i : Nat) (e : Ee), σ.es[i]? = some e → es'[i]? = some e) :
    Rel E w0 ok0 gs ρ vl { σ with es:=es' } a w∧(cx E w0 ok0 gs ρ vl σ w).Le (cx E w0 ok0 gs ρ vl { σ with es:=es' } w):=by
  have hle:(cx E w0 ok0 gs ρ vl σ w).Le (cx E w0 ok0 gs ρ vl { σ with es:=es' } w):=
    ⟨rfl,Nat.le_refl _,fun _ _=>rfl,fun _ _=>rfl,fun i e h=>⟨e,he i e h,rfl⟩,fun g hg _=>hg,Nat.le_refl _,fun g _ hl=>rfl⟩
  exact ⟨⟨hR.size,hR.defers,fun t av ht=>⟨(hR.tm t av ht).1,(hR.tm t av ht).2.le hle⟩,fun b x hx=>BS.le hle rfl (bl_lt hx) (fun q hq=>rfl) (hR.bl b x hx),hR.dist,hR.own,hR.bw,hR.rc⟩,hle⟩
def opds1 (E:En) (σ:St):List Operand→Option (List A1)
  | []=>some []
  | x :: r=>(match opd E σ x,opds1 E σ r with
    | some (.one y),some ys=>some (y :: ys)
    | _,_=>none)
theorem opds1_ok (hR:Rel E w0 ok0 gs ρ vl σ a w):∀ {xs:List Operand} {ys:List A1},opds1 E σ xs=some ys→V1s (cx E w0 ok0 gs ρ vl σ w) ys (xs.map a.eval)
  | [],ys,h=>by simp only [opds1,Option.some.injEq] at h;subst h;trivial
  | x :: xs,ys,h=>by
    unfold opds1 at h
    split at h
    · rename_i y zs hy hz
      injection h with h
      subst h
      exact ⟨opd_ok hR hy,opds1_ok hR hz⟩
    · cases h
def finishCall (con:Con) (σ:St) (K:AV→St→Option β) (r:TT con.sb):Option β:=
  match resAV con.tup con.rg (intern σ.es (TT.mk con.sb r)).2 with
  | some y=>K y { σ with es:=(intern σ.es (TT.mk con.sb r)).1 }
  | none=>none
def calleeSc:Sc→Option (FuncId×List A1)
  | .fn g=>some (g,[])
  | .clo g cs=>some (g,cs.map fun c=>.s (.cp c))
  | _=>none
theorem caps_ok {C:Cx}:∀ {cs:List Cp} {us:List Value},CpAs C cs us→V1s C (cs.map fun c=>.s (.cp c)) us
  | [],[],_=>trivial
  | _ :: _,_ :: _,hv=>⟨hv.1,caps_ok hv.2⟩
  | [],_ :: _,hv=>hv.elim
  | _ :: _,[],hv=>hv.elim
theorem calleeSc_ok {C:Cx} {x:Sc} {g:FuncId} {ex:List A1} {v:Value} (h:calleeSc x=some (g,ex)) (hv:VS C x v):∃ us,v = .func (.func g) #[] us∧V1s C ex us.toList:=by
  unfold calleeSc at h
  split at h
  · injection h with h
    injection h with h1 h2
    subst h1 h2
    exact ⟨#[],hv,trivial⟩
  · injection h with h
    injection h with h1 h2
    subst h1 h2
    obtain ⟨us,h3,h4⟩:=hv
    exact ⟨us,h3,caps_ok h4⟩
  · cases h
theorem V1s.append {C:Cx}:∀ {xs ys:List A1} {us vs:List Value},V1s C xs us→V1s C ys vs→V1s C (xs++ys) (us++vs)
  | [],_,[],_,_,h=>h
  | _ :: _,_,_ :: _,_,h1,h2=>⟨h1.1,V1s.append h1.2 h2⟩
  | [],_,_ :: _,_,h,_=>h.elim
  | _ :: _,_,[],_,h,_=>h.elim
def popCall (E:En) (Γ:List (FuncId×Cn)) (σ:St) (c:Call) (K:AV→St→Option β):Option β:=
  match c.callee with
  | .value f=>(match opd E σ f,opds1 E σ c.args.toList with
    | some (.one (.s fx)),some as0=>(match calleeSc fx with
     | some (g,ex)=>(match lookC Γ g (as0++ex) with
      | some (.f con)=>(match ungroup con.ag (as0++ex) with
        | some cs=>(match (bif con.al then freezeL E.rcv.isSome σ cs else some (σ,cs)) with
          | some (σ1,cs1)=>bif !con.al||noLst cs1 then (match TT.of σ1 con.sa cs1 with
            | some x=>(con.F x).bind (finishCall con σ1 K)
            | none=>none) else none
          | none=>none)
        | none=>none)
      | _=>none)
     | none=>none)
    | _,_=>none)
  | _=>none
def capSc (E:En) (σ:St):A1→Option (St×Cp)
  | .s (.ptr b 0)=>bif Nat.beq b 0&&E.rcv.isSome then none else (match σ.bl[b]? with
    | some (.cells [.int k n _ _] _)=>some (σ.setB b .dead,.int k n)
    | some (.cells [.rd k l] _)=>some (σ.setB b .dead,.row k l)
    | _=>none)
  | .s (.cp c)=>some (σ,c)
  | _=>none
def capAll (E:En):St→List A1→Option (St×List Cp)
  | σ,[]=>some (σ,[])
  | σ,x :: xs=>(match capSc E σ x with
    | some (σ1,y)=>(match capAll E σ1 xs with
      | some (σ2,ys)=>some (σ2,y :: ys)
      | none=>none)
    | none=>none)
theorem bif_none {α:Type} {c:Bool} {x:Option α} {r:α} (h:(bif c then none else x)=some r):c=false∧x=some r:=by cases c <;> simp_all
theorem capSc_ok (hR : Rel E w0 ok0 gs ρ vl σ a w) {σ' : St} {x : A1} {c : Cp} {v : Value} (h : capSc E σ x = some (σ', c)) (hv : V1 (cx E w0 ok0 gs ρ vl σ w) x v) :
    Rel E w0 ok0 gs ρ vl σ' a w∧(cx E w0 ok0 gs ρ vl σ w).Le (cx E w0 ok0 gs ρ vl σ' w)∧CpA (cx E w0 ok0 gs ρ vl σ' w) c v:=by
  unfold capSc at h
  split at h
  · rename_i b
    obtain ⟨hb0,h⟩:=bif_none h
    have hown:∀ g,liveAt ρ vl σ b g→w0.heap.size≤g:=fun g hg=>by
      rcases (hR.own b g hg).1.1 with h3 | ⟨h3,h4⟩
      · exact h3
      · rw [h3,h4] at hb0;simp at hb0
    split at h
    · rename_i k n lo hi t hb
      injection h with h
      injection h with h1 h2
      subst h1 h2
      obtain ⟨h3,h4,h5⟩:=hR.kill (bl_lt hb)
      obtain ⟨h6,vs,h7,h8⟩:=hR.bl b _ hb
      obtain ⟨-,hv⟩:=hv
      obtain ⟨u,h9,h10⟩:=h8.get (i:=0) rfl
      refine ⟨h3,h4,⟨ρ b,0,none⟩,u,hv,h5 _ ⟨_,hb,rfl⟩ (hown _ ⟨_,hb,rfl⟩),h6, ?_,h10.1,h10.2.1⟩
      refine (cell_at (w1:=w) h7).trans ?_
      simpa using h9
    · rename_i k l t hb
      injection h with h
      injection h with h1 h2
      subst h1 h2
      obtain ⟨h3,h4,h5⟩:=hR.kill (bl_lt hb)
      obtain ⟨h6,vs,h7,h8⟩:=hR.bl b _ hb
      obtain ⟨-,hv⟩:=hv
      obtain ⟨u,h9,h10⟩:=h8.get (i:=0) rfl
      refine ⟨h3,h4,⟨ρ b,0,none⟩,u,hv,h5 _ ⟨_,hb,rfl⟩ (hown _ ⟨_,hb,rfl⟩),h6, ?_, ?_⟩
      · refine (cell_at (w1:=w) h7).trans ?_
        simpa using h9
      · exact VS.le (x:=.rd k l) h4 h10
    · cases h
  · injection h with h
    injection h with h1 h2
    subst h1 h2
    exact ⟨hR,.refl _,hv⟩
  · cases h
theorem cx_le_trans {ρ:Nat→Nat} {vl:Nat→Value} {σ1 σ2 σ3:St} {w:World} (h4:(cx E w0 ok0 gs ρ vl σ1 w).Le (cx E w0 ok0 gs ρ vl σ2 w)) (h7:(cx E w0 ok0 gs ρ vl σ2 w).Le (cx E w0 ok0 gs ρ vl σ3 w)):(cx E w0 ok0 gs ρ vl σ1 w).Le (cx E w0 ok0 gs ρ vl σ3 w):=
  ⟨rfl,Nat.le_trans h4.nb h7.nb,fun _ _=>rfl,fun _ _=>rfl,fun i e he=>by obtain ⟨e1,a1,a2⟩:=h4.es i e he;obtain ⟨e2,a3,a4⟩:=h7.es i e1 a1;exact ⟨e2,a3,a4.trans a2⟩,fun g hg hl=>h7.ok g (h4.ok g hg hl) hl,Nat.le_refl _,fun _ _ _=>rfl⟩
theorem capAll_ok : ∀ {xs : List A1} {cs : List Cp} {vs : List Value} {σ σ' : St}, Rel E w0 ok0 gs ρ vl σ a w → capAll E σ xs = some (σ', cs) → V1s (cx E w0 ok0 gs ρ vl σ w) xs vs →
    Rel E w0 ok0 gs ρ vl σ' a w∧(cx E w0 ok0 gs ρ vl σ w).Le (cx E w0 ok0 gs ρ vl σ' w)∧CpAs (cx E w0 ok0 gs ρ vl σ' w) cs vs
  | [],cs,vs, σ, σ',hR,h,hv=>by
    simp only [capAll,Option.some.injEq,Prod.mk.injEq] at h
    obtain ⟨rfl,rfl⟩:=h
    cases vs with
    | nil=>exact ⟨hR,.refl _,trivial⟩
    | cons _ _=>exact hv.elim
  | x :: xs,cs,vs, σ, σ',hR,h,hv=>by
    unfold capAll at h
    split at h
    · rename_i σ1 y h1
      split at h
      · rename_i σ2 ys h2
        simp only [Option.some.injEq,Prod.mk.injEq] at h
        obtain ⟨rfl,rfl⟩:=h
        cases vs with
        | nil=>exact hv.elim
        | cons v vs =>
          obtain ⟨h3,h4,h5⟩:=capSc_ok hR h1 hv.1
          obtain ⟨h6,h7,h8⟩:=capAll_ok h3 h2 (hv.2.le h4)
          exact ⟨h6,cx_le_trans h4 h7,h5.le h7,h8⟩
      · cases h
    · cases h
def popMkF (E:En) (σ:St) (fn:Fn) (first captured:Array Operand) (K:AV→St→Option β):Option β:=
  match fn,first.toList with
  | .func f,[]=>(match opds1 E σ captured.toList with
    | some ys=>(match capAll E σ ys with
      | some (σ',[])=>K (.one (.s (.fn f))) σ'
      | some (σ',c :: cs)=>K (.one (.s (.clo f (c :: cs)))) σ'
      | none=>none)
    | none=>none)
  | _,_=>none
theorem popMkF_ok (hR : Rel E w0 ok0 gs ρ vl σ a w) {o : Oper} {fn : Fn} {first captured : Array Operand} {K : AV → St → Option β} {r : β} (ho : o.op = .makeFunc fn first captured) (h : popMkF E σ fn first captured K = some r) :
    EffRes E w0 ok0 gs a w o K r:=by
  unfold popMkF at h
  split at h
  · rename_i f hfi
    have hfi':first = #[]:=by rw [← Array.toArray_toList (xs:=first),hfi]
    split at h
    · rename_i ys hys
      have hv:=opds1_ok hR hys
      have hrun:(execOp a.eval o).run E.P w = .ok (.value (.func (.func f) #[] (captured.map a.eval))) w:=by simp [execOp,ho,Instr.makeFunc,hfi']
      split at h
      · rename_i σ' hc
        obtain ⟨h1,h2,h3⟩:=capAll_ok hR hc hv
        refine ⟨_,_,_,w, ρ,vl,h,hrun,h1, ?_,.refl _ _⟩
        have:captured.map a.eval = #[]:=by
          cases hl:captured.toList.map a.eval with
          | nil=>rw [← Array.toArray_toList (xs:=captured.map a.eval),Array.toList_map,hl]
          | cons _ _=>rw [hl] at h3;exact h3.elim
        show _=_
        rw [this]
      · rename_i σ' c cs hc
        obtain ⟨h1,h2,h3⟩:=capAll_ok hR hc hv
        exact ⟨_,_,_,w, ρ,vl,h,hrun,h1,⟨_,rfl,by simpa using h3⟩,.refl _ _⟩
      · cases h
    · cases h
  · cases h
def WpRes (E:En) (w0:World) (ok0:Nat→Prop) (gs:List Nat) (a:Act) (w:World) (o:Oper) (Q:Exit→Act→World→Prop) (K:AV→St→Option β) (r:β):Prop:=
  ∀ Kc:Act→World→Prop,(∀ x σ' v w' ρ' vl',K x σ'=some r→Rel E w0 ok0 gs ρ' vl' σ' a w'→VV (cx E w0 ok0 gs ρ' vl' σ' w') x v→Bw [] w w'→Kc (a.put o.dst v) w')→o.wp E.P a w Kc Q
theorem PureRes.wp {o:Oper} {K:AV→St→Option β} {r:β} {Q:Exit→Act→World→Prop} (h:PureRes E w0 ok0 gs ρ vl a w o K r):WpRes E w0 ok0 gs a w o Q K r:=by
  intro Kc hK
  obtain ⟨x, σ',v,h1,h2,h3,h4⟩:=h
  unfold Oper.wp
  rw [h4 w]
  exact hK x σ' v w ρ vl h1 h2 h3 (.refl _ _)
theorem ReadRes.wp (hR:Rel E w0 ok0 gs ρ vl σ a w) {o:Oper} {K:AV→St→Option β} {r:β} {Q:Exit→Act→World→Prop} (h:ReadRes E w0 ok0 gs ρ vl σ a w o K r):WpRes E w0 ok0 gs a w o Q K r:=by
  intro Kc hK
  obtain ⟨x,v,h1,h3,h4⟩:=h
  unfold Oper.wp
  rw [h4 [] w (.refl _ _) (fun g hg=>by cases hg)]
  exact hK x σ v w ρ vl h1 hR h3 (.refl _ _)
theorem EffRes.wp {o:Oper} {K:AV→St→Option β} {r:β} {Q:Exit→Act→World→Prop} (h:EffRes E w0 ok0 gs a w o K r):WpRes E w0 ok0 gs a w o Q K r:=by
  intro Kc hK
  obtain ⟨x, σ',v,w', ρ',vl',h1,h2,h3,h4,h5⟩:=h
  unfold Oper.wp
  rw [h2]
  exact hK x σ' v w' ρ' vl' h1 h3 h4 h5
theorem resAV_ok {C D:Cx} {tup:Bool} {rg:List Ag} {cs ds:List Sc} {y z:AV} {v:Value} (h1:resAV tup rg cs=some y) (h2:resAV tup rg ds=some z) (hl:Lift C D cs ds) (hv:VV C y v):VV D z v:=by
  unfold resAV at h1 h2
  cases tup
  · simp only [cond_false] at h1 h2
    split at h1
    · rename_i x hx
      split at h2
      · rename_i x' hx'
        injection h1 with h1
        injection h2 with h2
        subst h1 h2
        have:=regroup_ok (C:=C) (D:=D) (ag:=rg) (vs:=[v]) (by rw [hx];exact ⟨hv,trivial⟩) hl
        rw [hx'] at this
        exact this.1
      · cases h2
    · cases h1
  · simp only [cond_true,Option.some.injEq] at h1 h2
    subst h1 h2
    obtain ⟨vs,rfl,hv⟩:=hv
    exact ⟨vs,rfl,regroup_ok hv hl⟩
theorem popCall_ok {Γ : List (FuncId × Cn)} (hΓ : AllOk E.P E.eT Γ) (hR : Rel E w0 ok0 gs ρ vl σ a w) {o : Oper} {c : Call} {K : AV → St → Option β} {r : β} {Q : Exit → Act → World → Prop} (ho : o.op = .call c) (h : popCall E Γ σ c K = some r) :
    WpRes E w0 ok0 gs a w o Q K r:=by
  intro Kc hK
  unfold popCall at h
  split at h
  · rename_i f hf
    split at h
    · rename_i fx as0 hg has
      split at h
      rotate_left
      · cases h
      rename_i g ex hgx
      obtain ⟨us,e1,hex⟩:=calleeSc_ok hgx (opd_ok hR hg)
      split at h
      · rename_i con hcon
        split at h
        · rename_i cs hcs
          split at h
          · rename_i σ1 cs1 hfr
            obtain ⟨hal,h⟩:=bif_some h
            split at h
            · rename_i x hx
              have hF:FnOk E.P E.eT g con:=hΓ.get hcon
              have hargs:=(opds1_ok hR has).append hex
              -- the state behind the rows that are given up
              have h1:Rel E w0 ok0 gs ρ vl σ1 a w∧Lift (cx E w0 ok0 gs ρ vl σ w) (cx E w0 ok0 gs ρ vl σ1 w) cs cs1:=by
                cases hc:con.al <;> rw [hc] at hfr
                · simp only [cond_false,Option.some.injEq,Prod.mk.injEq] at hfr
                  obtain ⟨rfl,rfl⟩:=hfr
                  exact ⟨hR,.refl _ _⟩
                · have:=freezeL_ok hR hfr
                  exact ⟨this.1,this.2.2⟩
              obtain ⟨hR1,hl1⟩:=h1
              let okA:Nat→Prop:=if con.al=true then (cx E w0 ok0 gs ρ vl σ1 w).ok else fun _=>True
              have hokA:∀ g,(cx E w0 ok0 gs ρ vl σ1 w).ok g→okA g:=by
                intro g hg
                simp only [okA]
                split
                · exact hg
                · trivial
              have hl2:=TT.of_ok hR1 hokA (by
                cases hc:con.al
                · right;intro b g _;simp only [okA,hc];trivial
                · left;rw [hc] at hal;simpa using hal) hx
              have hv:=group_ok hcs hargs (hl1.trans hl2)
              cases hr:con.F x with
              | none=>rw [hr] at h;cases h
              | some q =>
                rw [hr] at h
                simp only [Option.bind_some] at h
                have hv':V1s (C0 E.eT w okA) (group con.ag (TT.mk con.sa x)) (c.args.map a.eval++us).toList:=by simpa using hv
                have hcall:=hF x q w okA (c.args.map a.eval++us) hr hv'
                have hexec:∀ (n:Next) (w':World),(callFunc g (c.args.map a.eval++us)).run E.P w = .ok n w'→(execOp a.eval o).run E.P w = .ok n w':=by
                  intro n w' hn
                  simp only [execOp,ho,Sem.run_bind,resolve,hf,e1,Deferred.ofValue,Sem.run_pure,Result.andThen_ok,invoke]
                  simpa using hn
                have hfin:∀ v w',(∃ y,resAV con.tup con.rg (TT.mk con.sb q)=some y∧VV (C0 E.eT w' (okRes con.al w okA)) y v)∧Bw [] w w'→Kc (a.put o.dst v) w':=by
                  rintro v w' ⟨⟨y,hy,hvy⟩,hbw⟩
                  unfold finishCall at h
                  split at h
                  · rename_i z hz
                    obtain ⟨hR2,hle2⟩:=hR1.step hbw
                    obtain ⟨hR3,hle3⟩:=hR2.more (es':=(intern σ1.es (TT.mk con.sb q)).1) (intern_mono _ _)
                    refine hK z _ v w' ρ vl h hR3 (resAV_ok hy hz ?_ hvy) hbw
                    have hle:(C0 E.eT w' (okRes con.al w okA)).Le (cx E w0 ok0 gs ρ vl { σ1 with es:=(intern σ1.es (TT.mk con.sb q)).1 } w'):=by
                      refine ⟨rfl,Nat.zero_le _,fun b hb=>absurd hb (Nat.not_lt_zero _),fun b hb=>absurd hb (Nat.not_lt_zero _),fun i e he=>by simp [C0] at he, ?_,Nat.le_refl _,fun _ _ _=>rfl⟩
                      intro g' hg' hlt
                      rcases hg' with ⟨h5,h6,h7⟩ | h5
                      · simp only [okA,h5,if_true] at h6
                        exact h6
                      · refine .inr ⟨Nat.le_trans hR1.bw.size h5,fun hm=>by have:=(hR1.bw.hid g' hm).2;omega,fun b hb=>?_⟩
                        have:=(hR1.own b g' hb).2
                        omega
                    exact intern_ok (C:=C0 E.eT w' (okRes con.al w okA)) (D:=cx E w0 ok0 gs ρ vl { σ1 with es:=(intern σ1.es (TT.mk con.sb q)).1 } w') rfl (fun x v _ hv=>VS.le hle hv) (fun i e he=>he)
                  · cases h
                unfold Oper.wp
                rcases hcall with ⟨h5,h6⟩ | ⟨v,w',h5,h6⟩
                · rw [hexec _ _ h5,Oper.upon_enter]
                  refine h6.mono fun e w' he=>?_
                  obtain ⟨v,rfl,hq⟩:=he
                  exact hfin v w' hq
                · rw [hexec _ _ h5,Oper.upon_value]
                  exact hfin v w' h6
            · cases h
          · cases h
        · cases h
      · cases h
    · cases h
  · cases h
end
end Go.Proofs.YtbpcfhhcoklinaaGreat.Ab
namespace Go.Proofs.YtbpcfhhcoklinaaGreat.Ab
open Go Go.RowKit
section
variable {β:Type} {E:En} {w0:World} {ok0:Nat→Prop} {gs:List Nat} {ρ:Nat→Nat} {vl:Nat→Value} {σ:St} {a:Act} {w:World}
def Ck.ofS (σ:St):(k:Ck)→Sc→Option k.T
  | .int k,x=>Sh.of σ (.int k) x
  | .row k,x=>Sh.of σ (.rd k) x
  | .bool,x=>Sh.of σ .bool x
def LT.of (σ:St):(ks:List Ck)→(tl:Option (IntKind×Nat))→List Sc→List Int→Option (LT ks tl)
  | [],none,[],_=>some ()
  | [],some _,[],l=>some l
  | [k],none,[c],_=>k.ofS σ c
  | [k],some _,[c],l=>(match k.ofS σ c with
    | some x=>some (x,l)
    | none=>none)
  | k :: k2 :: r,tl,c :: cs,l=>(match k.ofS σ c,LT.of σ (k2 :: r) tl cs l with
    | some x,some y=>some (x,y)
    | _,_=>none)
  | _,_,_,_=>none
def Ly.of (σ:St) (ks:List Ck) (tl:Option (IntKind×Nat)) (bl:Bl):Option (LT ks tl):=
  match tl,bl with
  | none,.cells cs _=>bif noLst cs then LT.of σ ks none cs [] else none
  | some (k,m),.mix cs k' m' l _=>bif noLst cs&&(decide (k'=k)&&Nat.beq m' m) then LT.of σ ks (some (k,m)) cs l else none
  | _,_=>none
def Bl.ty:Bl→TypeId
  | .cells _ t=>t
  | .ints _ t _=>t
  | .dead=>0
  | .rows _ t _=>t
  | .mix _ _ _ _ t=>t
def Bl.isRow:Bl→Bool
  | .ints _ _ _=>true
  | .rows _ _ _=>true
  | _=>false
theorem Ck.ofS_ok (hR:Rel E w0 ok0 gs ρ vl σ a w) {okA:Nat→Prop} (hok:∀ g,(cx E w0 ok0 gs ρ vl σ w).ok g→okA g) {k:Ck} {c:Sc} {x:k.T} {v:Value} (hn:∀ b,c≠.lst b∧c≠.lss b) (h:k.ofS σ c=some x) (hv:VS (cx E w0 ok0 gs ρ vl σ w) c v):CpV (C0 E.eT w okA) (k.mk x) v:=by
  cases k with
  | int k=>have:=Sh.of_ok hR hok (fun b hb=>absurd hb (hn b).1) (fun b hb=>absurd hb (hn b).2) (s:=.int k) h hv;exact ⟨this.1,this.2.1⟩
  | row k=>exact Sh.of_ok hR hok (fun b hb=>absurd hb (hn b).1) (fun b hb=>absurd hb (hn b).2) (s:=.rd k) h hv
  | bool=>exact Sh.of_ok hR hok (fun b hb=>absurd hb (hn b).1) (fun b hb=>absurd hb (hn b).2) (s:=.bool) h hv
theorem noLst_cons {c:Sc} {cs:List Sc} (h:noLst (c :: cs)=true):(∀ b,c≠.lst b∧c≠.lss b)∧noLst cs=true:=by
  cases c <;> simp [noLst] at h ⊢ <;> exact h
theorem LT.of_ok (hR : Rel E w0 ok0 gs ρ vl σ a w) {okA : Nat → Prop} (hok : ∀ g, (cx E w0 ok0 gs ρ vl σ w).ok g → okA g) : ∀ {ks : List Ck} {tl : Option (IntKind × Nat)} {cs : List Sc} {l : List Int} {x : LT ks tl} {us : List Value}, noLst cs = true → LT.of σ ks tl cs l = some x → VSs (cx E w0 ok0 gs ρ vl σ w) cs us →
    CpVs (C0 E.eT w okA) (LT.cs ks tl x) us∧(tl≠none→LT.l ks tl x=l)
  | [],none,[],l,x,us,_,h,hv=>by
    cases us with
    | nil=>exact ⟨trivial,fun h=>absurd rfl h⟩
    | cons _ _=>exact hv.elim
  | [],some _,[],l,x,us,_,h,hv=>by
    cases us with
    | nil=>injection h with h;subst h;exact ⟨trivial,fun _=>rfl⟩
    | cons _ _=>exact hv.elim
  | [k],none,[c],l,x,us,hn,h,hv=>by
    cases us with
    | nil=>exact hv.elim
    | cons u us=>cases us with
      | cons _ _=>exact hv.2.elim
      | nil=>exact ⟨⟨Ck.ofS_ok hR hok (noLst_cons hn).1 h hv.1,trivial⟩,fun h=>absurd rfl h⟩
  | [k],some _,[c],l,x,us,hn,h,hv=>by
    cases us with
    | nil=>exact hv.elim
    | cons u us=>cases us with
      | cons _ _=>exact hv.2.elim
      | nil =>
        unfold LT.of at h
        split at h
        · rename_i y hy
          injection h with h
          subst h
          exact ⟨⟨Ck.ofS_ok hR hok (noLst_cons hn).1 hy hv.1,trivial⟩,fun _=>rfl⟩
        · cases h
  | k :: k2 :: r,tl,c :: cs,l,x,us,hn,h,hv=>by
    cases us with
    | nil=>exact hv.elim
    | cons u us =>
      unfold LT.of at h
      split at h
      · rename_i y z hy hz
        injection h with h
        subst h
        obtain ⟨h1,h2⟩:=LT.of_ok hR hok (noLst_cons hn).2 hz hv.2
        exact ⟨⟨Ck.ofS_ok hR hok (noLst_cons hn).1 hy hv.1,h1⟩,h2⟩
      · cases h
  | [],none,_ :: _,_,_,_,_,h,_=>by simp [LT.of] at h
  | [],some _,_ :: _,_,_,_,_,h,_=>by simp [LT.of] at h
  | [_],none,[],_,_,_,_,h,_=>by simp [LT.of] at h
  | [_],some _,[],_,_,_,_,h,_=>by simp [LT.of] at h
  | [_],none,_ :: _ :: _,_,_,_,_,h,_=>by simp [LT.of] at h
  | [_],some _,_ :: _ :: _,_,_,_,_,h,_=>by simp [LT.of] at h
  | _ :: _ :: _,_,[],_,_,_,_,h,_=>by simp [LT.of] at h
theorem Ly.of_ok (hR : Rel E w0 ok0 gs ρ vl σ a w) {okA : Nat → Prop} (hok : ∀ g, (cx E w0 ok0 gs ρ vl σ w).ok g → okA g) {ks : List Ck} {tl : Option (IntKind × Nat)} {b : Nat} {bl : Bl} {x : LT ks tl} (hb : σ.bl[b]? = some bl) (h : Ly.of σ ks tl bl = some x) :
    BlkIs (C0 E.eT w okA) (ρ b) bl.ty ks tl x∧bl.at ρ vl b=some (ρ b)∧bl.isRow=false:=by
  unfold Ly.of at h
  split at h
  · rename_i cs t
    obtain ⟨hn,h⟩:=bif_some h
    obtain ⟨h1,vs,h2,h3⟩:=hR.bl b _ hb
    obtain ⟨h4, -⟩:=LT.of_ok hR hok hn h h3
    exact ⟨⟨h1,vs.toList,[],by rw [List.append_nil];exact h2,h4,rfl⟩,rfl,rfl⟩
  · rename_i k m cs k' m' l t
    obtain ⟨hc,h⟩:=bif_some h
    simp only [Bool.and_eq_true] at hc
    have c1:=of_decide_eq_true hc.2.1
    have c2:=Nat.eq_of_beq_eq_true hc.2.2
    subst c1 c2
    obtain ⟨h1,us,h2,h3,h4,h5⟩:=hR.bl b _ hb
    obtain ⟨h6,h7⟩:=LT.of_ok hR hok hc.1 h h3
    have h8:=h7 (by simp)
    refine ⟨⟨h1,us,l.map (Value.int k'),h2,h6, ?_⟩,rfl,rfl⟩
    rw [h8]
    exact ⟨rfl,h4,h5⟩
  · cases h
theorem CpV.up {C D:Cx} (hw:D.w=C.w) (hok:∀ g,C.ok g→g < C.w.heap.size→D.ok g) {c:Cp} {v:Value} (h:CpV C c v):VS D c.sc v:=by
  cases c with
  | int k n=>exact ⟨h.1,h.2,by simp,by simp⟩
  | row k l=>obtain ⟨A,c,h1,h2,h3,h4⟩:=h;exact ⟨A,c,h1,h2,h3,fun i hi=>by obtain ⟨p,h5,h6,h7,h8⟩:=h4 i hi;exact ⟨p,h5,hok _ h6 h7,by rw [hw];exact h7,by rw [hw];exact h8⟩⟩
  | bool b=>exact h
theorem CpVs.up {C D:Cx} (hw:D.w=C.w) (hok:∀ g,C.ok g→g < C.w.heap.size→D.ok g):∀ {cs:List Cp} {vs:List Value},CpVs C cs vs→VSs D (cs.map Cp.sc) vs
  | [],[],_=>trivial
  | _ :: _,_ :: _,h=>⟨h.1.up hw hok,CpVs.up hw hok h.2⟩
  | [],_ :: _,h=>h.elim
  | _ :: _,[],h=>h.elim
theorem BlkIs.bs {C D:Cx} (hw:D.w=C.w) (hok:∀ g,C.ok g→g < C.w.heap.size→D.ok g) {g b:Nat} (hg:D.ρ b=g) {t:TypeId} {ks:List Ck} {tl:Option (IntKind×Nat)} {x:LT ks tl} (h:BlkIs C g t ks tl x):BS D b (lyBl ks tl x t):=by
  subst hg
  obtain ⟨h1,us,ls,h2,h3,h4⟩:=h
  unfold lyBl
  split
  · have h4:ls=[]:=h4
    subst h4
    rw [List.append_nil] at h2
    exact ⟨by rw [hw];exact h1,us.toArray,by rw [hw];exact h2,h3.up hw hok⟩
  · obtain ⟨rfl,h5,h6⟩:=h4
    exact ⟨by rw [hw];exact h1,us,by rw [hw];exact h2,h3.up hw hok,h5,h6⟩
theorem lyBl_at (ks:List Ck) (tl:Option (IntKind×Nat)) (x:LT ks tl) (t:TypeId) (ρ:Nat→Nat) (vl:Nat→Value) (b:Nat):(lyBl ks tl x t).at ρ vl b=some (ρ b):=by
  unfold lyBl
  split <;> rfl
def restOf:Option Ly→List A1→List A1
  | none,as=>as
  | some _,as=>as.tail
def tlM:Option (IntKind×Nat)→Nat→Bool
  | some (_,m'),m=>Nat.beq m' m
  | none,_=>false
def rcvOf (σ:St):(rL:Option Ly)→(win:Bool)→List A1→Option (RcT rL win×Option Nat)
  | none,_,_=>some ((),none)
  | some L,false,.s (.ptr b 0) :: _=>(match σ.bl[b]? with
    | some bl=>(match Ly.of σ L.ks L.tl bl with
      | some x=>some (x,some b)
      | none=>none)
    | none=>none)
  | some L,true,.s (.win b o m n) :: _=>(match σ.bl[b]? with
    | some bl=>bif Nat.beq o L.ks.length&&tlM L.tl m then (match Ly.of σ L.ks L.tl bl with
      | some x=>some ((n,x),some b)
      | none=>none) else none
    | none=>none)
  | _,_,_=>none
def setRcv (σ:St) (b:Option Nat):(rL:Option Ly)→(ro:Bool)→CnT rL ro→St
  | some L,false,x=>(match b with
    | some b=>(match σ.bl[b]? with
      | some bl=>σ.setB b (lyBl L.ks L.tl x bl.ty)
      | none=>σ)
    | none=>σ)
  | none,_,_=>σ
  | some _,true,_=>σ
def resL (tup:Bool) (l:List A1):Option AV:=bif tup then some (.tup l) else (match l with
  | [x]=>some (.one x)
  | _=>none)
def ownBr (σ:St) (t:TypeId):(oL:Option Ow)→OwT oL→(List A1→St→Option β)→Option β
  | none,_,K=>K [] σ
  | some (.arr k m),x,K=>K [.mx [] k m x] σ
  | some (.ptr L),x,K=>(Bo.lit x.1).ite (K [.s (.ptr σ.bl.length 0)] (σ.new (lyBl L.ks L.tl x.2 t))) (K [.s .nilp] σ)
def finishR (rc:RCon) (b:Option Nat) (σ:St) (K:AV→St→Option β) (r:CnT rc.rL rc.ro×OwT rc.oL×TT rc.sb):Option β:=
  ownBr { setRcv σ b rc.rL rc.ro r.1 with es:=(intern (setRcv σ b rc.rL rc.ro r.1).es (TT.mk rc.sb r.2.2)).1 } rc.oT rc.oL r.2.1 fun l σ2 =>
    match resL rc.tup (l++group rc.rg (intern (setRcv σ b rc.rL rc.ro r.1).es (TT.mk rc.sb r.2.2)).2) with
    | some y=>K y σ2
    | none=>none
def wrOk (E:En) (rc:RCon):Option Nat→Bool
  | none=>rc.quiet
  | some b=>rc.quiet||mayWr E b
def tyOk (σ:St) (t:TypeId):Option Nat→Bool
  | none=>true
  | some b=>(match σ.bl[b]? with
    | some bl=>Nat.beq bl.ty t
    | none=>false)
def popR (E:En) (rc:RCon) (σ:St) (as:List A1) (K:AV→St→Option β):Option β:=
  match ungroup rc.ag (restOf rc.rL as) with
  | some cs=>(match (bif rc.al then freezeL E.rcv.isSome σ cs else some (σ,cs)) with
    | some (σ1,cs1)=>bif !rc.al||noLst cs1 then (match rcvOf σ1 rc.rL rc.win as,TT.of σ1 rc.sa cs1 with
      | some (x,b),some y=>bif wrOk E rc b&&tyOk σ1 rc.rT b then (rc.F x y).bind (finishR rc b σ1 K) else none
      | _,_=>none) else none
    | none=>none)
  | none=>none
theorem live_not_ok (hR:Rel E w0 ok0 gs ρ vl σ a w) {b g:Nat} (hl:liveAt ρ vl σ b g):¬ (cx E w0 ok0 gs ρ vl σ w).ok g:=by
  rintro (⟨h1,h2⟩ | ⟨-, -,h3⟩)
  · rcases (hR.own b g hl).1.1 with h4 | ⟨-,h4⟩
    · omega
    · exact (hR.rc g h4).2.2 h1
  · exact h3 b hl
theorem Rel.tellB {g : Nat} (hR : Rel E w0 ok0 (g :: gs) ρ vl σ a w) {nb : Bl} (hat : ∀ ρ vl b, nb.at ρ vl b = some (ρ b)) (hg' : g ∉ gs)
    (hB:∀ D:Cx,D.w=w→(∀ p,(cx E w0 ok0 (g :: gs) ρ vl σ w).ok p→D.ok p)→∀ b,D.ρ b=g→BS D b nb):
    ∃ ρ' vl',Rel E w0 ok0 gs ρ' vl' (σ.new nb) a w∧(cx E w0 ok0 (g :: gs) ρ vl σ w).Le (cx E w0 ok0 gs ρ' vl' (σ.new nb) w)∧ρ' σ.bl.length=g:=by
  have hlen:(σ.new nb).bl.length = σ.bl.length+1:=by simp [St.new]
  have hgm:g∈g :: gs:=List.mem_cons_self
  have hlive:∀ b q,liveAt (upd ρ σ.bl.length g) (upd vl σ.bl.length .nilIface) (σ.new nb) b q→(b < σ.bl.length∧liveAt ρ vl σ b q)∨(b = σ.bl.length∧q=g):=by
    intro b q h
    rcases live_new h with h | ⟨rfl,h⟩
    · exact .inl h
    · rw [hat,upd_eq] at h
      exact .inr ⟨rfl,(Option.some.inj h).symm⟩
  have hle:(cx E w0 ok0 (g :: gs) ρ vl σ w).Le (cx E w0 ok0 gs (upd ρ σ.bl.length g) (upd vl σ.bl.length .nilIface) (σ.new nb) w):=by
    refine ⟨rfl,by simp only [cx];omega,fun b hb=>upd_ne (by simp only [cx] at hb;omega),fun b hb=>upd_ne (by simp only [cx] at hb;omega),fun i e h=>⟨e,h,rfl⟩, ?_,Nat.le_refl _,fun _ _ _=>rfl⟩
    intro q hq _
    rcases hq with hq | ⟨h1,h2,h3⟩
    · exact .inl hq
    · refine .inr ⟨h1,fun hm=>h2 (List.mem_cons_of_mem _ hm),fun b hl=>?_⟩
      rcases hlive b q hl with ⟨-,h4⟩ | ⟨-,rfl⟩
      · exact h3 b h4
      · exact h2 hgm
  have hlt:g < w.heap.size:=(hR.bw.hid g hgm).2
  refine ⟨upd ρ σ.bl.length g,upd vl σ.bl.length .nilIface,⟨hR.size,hR.defers,fun t' av ht=>⟨(hR.tm t' av ht).1,(hR.tm t' av ht).2.le hle⟩,fun b x hx=>?_,fun b b' q h1 h2=>?_,fun b q h=>?_,⟨hR.bw.toBw,fun q hq=>hR.bw.hid q (List.mem_cons_of_mem _ hq)⟩,fun q hq=>?_⟩,hle,upd_eq⟩
  · rcases Nat.lt_trichotomy b σ.bl.length with h | rfl | h
    · have hx':σ.bl[b]? = some x:=by rw [← hx];simp [St.new,List.getElem?_append_left h]
      exact BS.le hle rfl h (fun _ _=>rfl) (hR.bl b x hx')
    · have:x=nb:=by simp [St.new] at hx;exact hx.symm
      subst this
      exact hB _ rfl (fun p hp=>by
        rcases hp with hp | ⟨h1,h2,h3⟩
        · exact .inl hp
        · refine .inr ⟨h1,fun hm=>h2 (List.mem_cons_of_mem _ hm),fun b hl=>?_⟩
          rcases hlive b p hl with ⟨-,h4⟩ | ⟨-,rfl⟩
          · exact h3 b h4
          · exact h2 hgm) _ upd_eq
    · have:(σ.bl++[nb])[b]? = some x:=hx
      rw [List.getElem?_eq_none (by simp;omega)] at this
      cases this
  · rcases hlive b q h1 with ⟨h3,h4⟩ | ⟨rfl,rfl⟩ <;> rcases hlive b' q h2 with ⟨h5,h6⟩ | ⟨rfl,h6⟩
    · exact hR.dist b b' q h4 h6
    · subst h6;exact absurd hgm (hR.own b q h4).1.2
    · exact absurd hgm (hR.own b' q h6).1.2
    · rfl
  · rcases hlive b q h with ⟨h3,h4⟩ | ⟨rfl,rfl⟩
    · exact ⟨⟨(hR.own b q h4).1.1,fun hm=>(hR.own b q h4).1.2 (List.mem_cons_of_mem _ hm)⟩,(hR.own b q h4).2⟩
    · exact ⟨⟨.inl (hR.bw.hid q hgm).1,hg'⟩,hlt⟩
  · obtain ⟨h1,h2,h3⟩:=hR.rc q hq
    refine ⟨by omega,fun p hp=>?_,h3⟩
    rcases hlive 0 p hp with ⟨-,h4⟩ | ⟨h4, -⟩
    · exact h2 p h4
    · omega
theorem rcvOf_ok (hR : Rel E w0 ok0 gs ρ vl σ a w) {okA : Nat → Prop} (hok : ∀ g, (cx E w0 ok0 gs ρ vl σ w).ok g → okA g) {rL : Option Ly} {win : Bool} {as : List A1} {x : RcT rL win} {b : Option Nat} {vs : List Value} (h : rcvOf σ rL win as = some (x, b)) (hv : V1s (cx E w0 ok0 gs ρ vl σ w) as vs) (t0 : TypeId) :
    ∃ v0s rest g t,(b=none→t=t0)∧vs=v0s++rest∧(∀ D:Cx,V1s D as vs→V1s D (restOf rL as) rest)∧RcvIs (C0 E.eT w okA) g t rL win x v0s ∧
      ((rL=none∧b=none)∨∃ b' bl,b=some b'∧g = ρ b'∧liveAt ρ vl σ b' g∧σ.bl[b']? = some bl∧bl.ty=t∧bl.at ρ vl b'=some (ρ b')∧bl.isRow=false):=by
  unfold rcvOf at h
  split at h
  · injection h with h
    injection h with h1 h2
    subst h2
    exact ⟨[],vs,0,t0,fun _=>rfl,rfl,fun _ h=>h,rfl,.inl ⟨rfl,rfl⟩⟩
  · rename_i L b' r
    split at h
    · rename_i bl hbl
      split at h
      · rename_i y hy
        injection h with h
        injection h with h1 h2
        subst h1 h2
        obtain ⟨h3,h4,h5⟩:=Ly.of_ok hR hok hbl hy
        cases vs with
        | nil=>exact hv.elim
        | cons v vs =>
          obtain ⟨⟨-,rfl⟩,hv2⟩:=hv
          exact ⟨[_],vs, ρ b',bl.ty,(fun h=>by cases h),rfl,fun _ h=>h.2,⟨h3,rfl⟩,.inr ⟨b',bl,rfl,rfl,⟨_,hbl,h4⟩,hbl,rfl,h4,h5⟩⟩
      · cases h
    · cases h
  · rename_i L b' o m n r
    split at h
    · rename_i bl hbl
      have h':=bif_some h
      clear h
      obtain ⟨hc,h⟩:=h'
      simp only [Bool.and_eq_true] at hc
      have ho:=Nat.eq_of_beq_eq_true hc.1
      split at h
      · rename_i y hy
        injection h with h
        injection h with h1 h2
        subst h1 h2
        obtain ⟨h3,h4,h5⟩:=Ly.of_ok hR hok hbl hy
        cases vs with
        | nil=>exact hv.elim
        | cons v vs =>
          obtain ⟨⟨-,hn0,hnm,c,hc',rfl⟩,hv2⟩:=hv
          refine ⟨[_],vs, ρ b',bl.ty,(fun h=>by cases h),rfl,fun _ h=>h.2,⟨h3, ?_⟩,.inr ⟨b',bl,rfl,rfl,⟨_,hbl,h4⟩,hbl,rfl,h4,h5⟩⟩
          have hm:=hc.2
          unfold tlM at hm
          split at hm
          · rename_i k m' htl
            have hm:=Nat.eq_of_beq_eq_true hm
            subst hm
            exact ⟨k,_,c,htl,hn0,hnm,hc',by rw [ho];rfl⟩
          · cases hm
      · cases h
    · cases h
  · cases h
theorem live_setB {b b' p:Nat} {x:Bl} (h:liveAt ρ vl (σ.setB b x) b' p):(b'=b∧x.at ρ vl b=some p)∨liveAt ρ vl σ b' p:=by
  obtain ⟨y,h1,h2⟩:=h
  by_cases hbb:b'=b
  · subst hbb
    have hlt:b' < σ.bl.length:=by have:=(List.getElem?_eq_some_iff.1 h1).1;simpa [St.setB] using this
    have:y=x:=by simp [St.setB,List.getElem?_set,hlt] at h1;exact h1.symm
    subst this
    exact .inl ⟨rfl,h2⟩
  · exact .inr ⟨y,by simpa [St.setB,List.getElem?_set_ne (Ne.symm hbb)] using h1,h2⟩
theorem setRcv_ok (hR : Rel E w0 ok0 gs ρ vl σ a w) {w' : World} {gs' : List Nat} (hg1 : ∀ p, p ∈ gs → p ∈ gs') (hg2 : ∀ p, p ∈ gs' → p ∈ gs ∨ (w.heap.size ≤ p ∧ p < w'.heap.size)) {rL : Option Ly} {ro : Bool} {b : Option Nat} {g : Nat} {t : TypeId} {c : CnT rL ro}
    (hb:(rL=none∧b=none)∨∃ b' bl,b=some b'∧g = ρ b'∧liveAt ρ vl σ b' g∧σ.bl[b']? = some bl∧bl.ty=t∧bl.at ρ vl b'=some (ρ b')∧bl.isRow=false)
    (hwr:(ro||rL.isNone)=true∨∃ b',b=some b'∧mayWr E b'=true) (hbw:Bw (bif (ro||rL.isNone) then [] else [g]) w w') {okq:Nat→Prop} (hokq:∀ z,okq z→(z < w.heap.size∧(cx E w0 ok0 gs ρ vl σ w).ok z)∨(w.heap.size≤z∧z ∉ gs'))
    (hCn:CnIs (C0 E.eT w' okq) g t rL ro c):
    Rel E w0 ok0 gs' ρ vl (setRcv σ b rL ro c) a w'∧(cx E w0 ok0 gs ρ vl σ w).Le (cx E w0 ok0 gs' ρ vl (setRcv σ b rL ro c) w')∧(∀ z,okq z→(cx E w0 ok0 gs' ρ vl (setRcv σ b rL ro c) w').ok z)∧(setRcv σ b rL ro c).es = σ.es:=by
  have same:∀ {w':World} (hg2:∀ p,p∈gs'→p∈gs∨(w.heap.size≤p∧p < w'.heap.size)),Bw [] w w'→Rel E w0 ok0 gs' ρ vl σ a w'∧(cx E w0 ok0 gs ρ vl σ w).Le (cx E w0 ok0 gs' ρ vl σ w')∧(∀ z,okq z→(cx E w0 ok0 gs' ρ vl σ w').ok z)∧σ.es = σ.es:=by
    intro w' hg2 hw
    obtain ⟨h1,h2⟩:=hR.step' hg1 hg2 hw
    refine ⟨h1,h2,fun z hz=>?_,rfl⟩
    rcases hokq z hz with ⟨h3,h4⟩ | ⟨h3,h4⟩
    · exact h2.ok z h4 h3
    · exact .inr ⟨Nat.le_trans hR.bw.size h3,h4,fun b' hl=>by have:=(hR.own b' z hl).2;omega⟩
  cases rL with
  | none=>exact same hg2 (by simpa using hbw)
  | some L =>
    cases ro with
    | true=>exact same hg2 (by simpa using hbw)
    | false =>
      rcases hb with ⟨h, -⟩ | ⟨b',bl,rfl,rfl,hl,hbl,rfl,hat,hni⟩
      · cases h
      · have hmw : mayWr E b' = true := by
          rcases hwr with h | ⟨b2,h1,h2⟩
          · cases h
          · injection h1 with h1;subst h1;exact h2
        have hset:setRcv σ (some b') (some L) false c = σ.setB b' (lyBl L.ks L.tl c bl.ty):=by simp only [setRcv,hbl]
        rw [hset]
        have hok':∀ z,okq z→(cx E w0 ok0 gs' ρ vl (σ.setB b' (lyBl L.ks L.tl c bl.ty)) w').ok z:=by
          intro z hz
          have hnl:∀ b2,liveAt ρ vl (σ.setB b' (lyBl L.ks L.tl c bl.ty)) b2 z→∃ b3,liveAt ρ vl σ b3 z:=by
            intro b2 h
            rcases live_setB h with ⟨-,h⟩ | h
            · rw [lyBl_at] at h
              injection h with h
              subst h
              exact ⟨_,hl⟩
            · exact ⟨_,h⟩
          rcases hokq z hz with ⟨h3,h4⟩ | ⟨h3,h4⟩
          · rcases h4 with h4 | ⟨h4,h5,h6⟩
            · exact .inl h4
            · exact .inr ⟨h4,fun hm=>(hg2 z hm).elim h5 fun h7=>absurd h3 (Nat.not_lt_of_le h7.1),fun b2 h=>by obtain ⟨b3,h⟩:=hnl b2 h;exact h6 b3 h⟩
          · exact .inr ⟨Nat.le_trans hR.bw.size h3,h4,fun b2 h=>by obtain ⟨b3,h⟩:=hnl b2 h;have:=(hR.own b3 z h).2;omega⟩
        obtain ⟨h1,h2⟩:=hR.written' hg1 hg2 hmw hl (by simpa using hbw) (x:=lyBl L.ks L.tl c bl.ty) (lyBl_at _ _ _ _ _ _ _) (fun _=>BlkIs.bs (C:=C0 E.eT w' okq) (D:=cx E w0 ok0 gs' ρ vl (σ.setB b' (lyBl L.ks L.tl c bl.ty)) w') rfl (fun z hz _=>hok' z hz) rfl hCn)
        exact ⟨h1,h2,hok',rfl⟩
theorem OwIs.new {C:Cx} {n0:Nat} {q:Option Nat} {t:TypeId} {oL:Option Ow} {x:OwT oL} {vs:List Value} (h:OwIs C n0 q t oL x vs):∀ z,q=some z→n0≤z∧z < C.w.heap.size:=by
  intro z hz
  cases oL with
  | none=>rw [h.1] at hz;cases hz
  | some o=>cases o with
   | arr k m=>rw [h.1] at hz;cases hz
   | ptr L =>
    obtain ⟨p, -,h⟩:=h
    rcases h with ⟨-,h, -⟩ | ⟨-,g,h1,h2, -,h3⟩
    · rw [h] at hz;cases hz
    · rw [h1] at hz
      injection hz with hz
      subst hz
      exact ⟨h2,h3.1⟩
theorem ownBr_ok {q : Option Nat} {oL : Option Ow} {x : OwT oL} {t : TypeId} {n0 : Nat} {ovs : List Value} {okq : Nat → Prop} (hR : Rel E w0 ok0 (q.toList ++ gs) ρ vl σ a w) (hq : ∀ z, q = some z → z ∉ gs) (hokq : ∀ z, okq z → (cx E w0 ok0 (q.toList ++ gs) ρ vl σ w).ok z)
    (hO:OwIs (C0 E.eT w okq) n0 q t oL x ovs) {K:List A1→St→Option β} {r:β} (h:ownBr σ t oL x K=some r):
    ∃ l σ' ρ' vl',K l σ'=some r∧Rel E w0 ok0 gs ρ' vl' σ' a w∧(cx E w0 ok0 (q.toList++gs) ρ vl σ w).Le (cx E w0 ok0 gs ρ' vl' σ' w)∧V1s (cx E w0 ok0 gs ρ' vl' σ' w) l ovs∧σ'.es = σ.es:=by
  cases oL with
  | none =>
    obtain ⟨rfl,rfl⟩:=hO
    exact ⟨[], σ, ρ,vl,h,hR,.refl _,trivial,rfl⟩
  | some o=>cases o with
   | arr k m =>
    obtain ⟨rfl,rfl,h1,h2⟩:=hO
    exact ⟨_, σ, ρ,vl,h,hR,.refl _,⟨⟨[],rfl,trivial,h1,h2⟩,trivial⟩,rfl⟩
   | ptr L =>
    obtain ⟨p,rfl,hO⟩:=hO
    unfold ownBr at h
    rcases Bo.ite_some h with ⟨h1,h2⟩ | ⟨h1,h2⟩
    · rcases hO with ⟨h3, -⟩ | ⟨-,g,rfl,h4,rfl,h5⟩
      · have h1':x.1=true:=h1
        rw [h1'] at h3;cases h3
      · obtain ⟨ρ',vl',h6,h7,h8⟩:=hR.tellB (gs:=gs) (g:=g) (nb:=lyBl L.ks L.tl x.2 t) (fun _ _ _=>lyBl_at _ _ _ _ _ _ _) (hq g rfl) (fun D hD hok b hb=>BlkIs.bs (C:=C0 E.eT w okq) hD (fun z hz _=>hok z (hokq z hz)) hb h5)
        refine ⟨_,_, ρ',vl',h2,h6,h7,⟨⟨?_, ?_⟩,trivial⟩,rfl⟩
        · show σ.bl.length < (σ.new _).bl.length
          simp [St.new]
        · show _=Value.pointer (some ⟨ρ' σ.bl.length,0,none⟩)
          rw [h8]
    · rcases hO with ⟨h3,rfl,rfl⟩ | ⟨h3, -⟩
      · exact ⟨_, σ, ρ,vl,h2,hR,.refl _,⟨rfl,trivial⟩,rfl⟩
      · have h1':x.1=false:=h1
        rw [h1'] at h3;cases h3
theorem resL_ok {C:Cx} {tup:Bool} {l:List A1} {vs:List Value} {y:AV} {v:Value} (h:resL tup l=some y) (hv:V1s C l vs) (hu:tupIs tup vs v):VV C y v:=by
  unfold resL at h
  cases tup with
  | true =>
    simp only [cond_true,Option.some.injEq] at h
    subst h
    have hu:v = .tuple vs.toArray:=hu
    exact ⟨vs.toArray,hu,by simpa using hv⟩
  | false =>
    simp only [cond_false] at h
    have hu:vs=[v]:=hu
    subst hu
    split at h
    · injection h with h
      subst h
      exact hv.1
    · cases h
theorem rcvIs_head {C:Cx} {g:Nat} {t:TypeId} {rL:Option Ly} {win:Bool} {x:RcT rL win} {v0s rest:List Value} (h:RcvIs C g t rL win x v0s) (hs:rL.isSome=true) {p off:Nat} (hp:(v0s++rest).head? = some (.pointer (some ⟨p,off,none⟩))):p=g:=by
  cases rL with
  | none=>cases hs
  | some L =>
    cases win with
    | false =>
      obtain ⟨-,rfl⟩:=h
      simp only [List.cons_append,List.head?_cons,Option.some.injEq,Value.pointer.injEq,Addr.mk.injEq] at hp
      exact hp.1.symm
    | true =>
      obtain ⟨-,k,m,c, -, -, -, -,rfl⟩:=h
      simp at hp
theorem popR_ok {f : FuncId} {rc : RCon} (hF : FnOkR E.P E.eT f rc) (hR : Rel E w0 ok0 gs ρ vl σ a w) {o : Oper} {as : List A1} {vs : Array Value} (hvs : V1s (cx E w0 ok0 gs ρ vl σ w) as vs.toList)
    (hexec:∀ (n:Next) (w':World),(callFunc f vs).run E.P w = .ok n w'→(execOp a.eval o).run E.P w = .ok n w') {K:AV→St→Option β} {r:β} {Q:Exit→Act→World→Prop} {Kc:Act→World→Prop} (h:popR E rc σ as K=some r)
    (hK:∀ x σ' v w' ρ' vl',K x σ'=some r→Rel E w0 ok0 gs ρ' vl' σ' a w'→VV (cx E w0 ok0 gs ρ' vl' σ' w') x v→(rc.quiet=true→Bw [] w w')→(∀ p off,vs.toList.head? = some (.pointer (some ⟨p,off,none⟩))→Bw [p] w w')→(∀ q,q∈gs→w'.heap[q]? = w.heap[q]?)∧w.heap.size≤w'.heap.size→Kc (a.put o.dst v) w'):o.wp E.P a w Kc Q:=by
  unfold popR at h
  split at h
  · rename_i cs hcs
    split at h
    · rename_i σ1 cs1 hfr
      obtain ⟨hal,h⟩:=bif_some h
      split at h
      · rename_i x b y hx hy
        obtain ⟨hwt,h⟩:=bif_some h
        rw [Bool.and_eq_true] at hwt
        obtain ⟨hwr,hty⟩:=hwt
        have h1:Rel E w0 ok0 gs ρ vl σ1 a w∧(cx E w0 ok0 gs ρ vl σ w).Le (cx E w0 ok0 gs ρ vl σ1 w)∧Lift (cx E w0 ok0 gs ρ vl σ w) (cx E w0 ok0 gs ρ vl σ1 w) cs cs1:=by
          cases hc:rc.al <;> rw [hc] at hfr
          · simp only [cond_false,Option.some.injEq,Prod.mk.injEq] at hfr
            obtain ⟨rfl,rfl⟩:=hfr
            exact ⟨hR,.refl _,.refl _ _⟩
          · exact freezeL_ok hR hfr
        obtain ⟨hR1,hle1,hl1⟩:=h1
        let okA:Nat→Prop:=if rc.al=true then (cx E w0 ok0 gs ρ vl σ1 w).ok else fun p=>∀ b',b=some b'→p≠ρ b'
        obtain ⟨_,_,_,_,_,_,_,_,hb0⟩:=rcvOf_ok hR1 (okA:=fun _=>True) (fun _ _=>trivial) hx (hvs.le hle1) 0
        have hokA:∀ g,(cx E w0 ok0 gs ρ vl σ1 w).ok g→okA g:=by
          intro p hp
          simp only [okA]
          split
          · exact hp
          · rintro b' rfl rfl
            rcases hb0 with ⟨-,h2⟩ | ⟨b2,bl,h2,rfl,h3, -⟩
            · cases h2
            · injection h2 with h2
              subst h2
              exact live_not_ok hR1 h3 hp
        obtain ⟨v0s,rest,g,t,htn,hvv,hrest,hrcv,hb⟩:=rcvOf_ok hR1 hokA hx (hvs.le hle1) rc.rT
        have ht:t=rc.rT:=by
          rcases hb with ⟨-,h2⟩ | ⟨b',bl,h2, -, -,h3,h4, -⟩
          · exact htn h2
          · rw [h2] at hty
            unfold tyOk at hty
            simp only [h3] at hty
            rw [← h4]
            exact Nat.eq_of_beq_eq_true hty
        subst ht
        have hl2:=TT.of_ok' hR1 hokA (by
          cases hc:rc.al
          · right
            have key:∀ (b2:Nat) (x2:Bl) (p:Nat), σ1.bl[b2]? = some x2→x2.isRow=true→x2.at ρ vl b2=some p→okA p:=by
              intro b2 x2 p hbl hrow hp
              simp only [okA,hc,Bool.false_eq_true,if_false]
              rintro b' rfl rfl
              rcases hb with ⟨-,h2⟩ | ⟨b3,bl,h2,rfl,h3,h4, -, -,h5⟩
              · cases h2
              · injection h2 with h2
                subst h2
                have:=hR1.dist b2 b' _ ⟨_,hbl,hp⟩ h3
                subst this
                rw [hbl] at h4
                injection h4 with h4
                rw [← h4,hrow] at h5
                cases h5
            exact ⟨fun b2 k t2 l p hbl hp=>key b2 _ p hbl rfl hp,fun b2 k t2 l p hbl hp=>key b2 _ p hbl rfl hp⟩
          · left;rw [hc] at hal;simpa using hal) hy
        have hargs:=group_ok hcs (hrest _ hvs) (hl1.trans hl2)
        cases hr:rc.F x y with
        | none=>rw [hr] at h;cases h
        | some q =>
          rw [hr] at h
          simp only [Option.bind_some] at h
          have hnok:rc.rL.isSome=true→¬ okA g:=by
            intro hs
            rcases hb with ⟨h2, -⟩ | ⟨b',bl,rfl,rfl,h3, -⟩
            · rw [h2] at hs;cases hs
            · simp only [okA]
              split
              · exact live_not_ok hR1 h3
              · exact fun hk=>hk b' rfl rfl
          have hcall:=hF x y q w okA g v0s rest.toArray hr hnok hrcv (by simpa using hargs)
          have hvv':v0s.toArray++rest.toArray=vs:=by
            rw [← Array.toArray_toList (xs:=vs),hvv]
            simp
          rw [hvv'] at hcall
          have hfin : ∀ v w', (∃ (p : Option Nat) (us ovs : List Value), OwIs (C0 E.eT w' fun z => okRes rc.al w okA z ∧ p ≠ some z) w.heap.size p rc.oT rc.oL q.2.1 ovs ∧
              V1s (C0 E.eT w' fun z=>okRes rc.al w okA z∧p≠some z) (group rc.rg (TT.mk rc.sb q.2.2)) us∧tupIs rc.tup (ovs++us) v ∧
              CnIs (C0 E.eT w' fun z=>okRes rc.al w okA z∧p≠some z) g rc.rT rc.rL rc.ro q.1∧Bw (bif rc.quiet then [] else [g]) w w')→Kc (a.put o.dst v) w':=by
            rintro v w' ⟨p,us,ovs,hO,hoth,hv,hCn,hbw⟩
            have hp:=hO.new
            have hg2:∀ z,z∈p.toList++gs→z∈gs∨(w.heap.size≤z∧z < w'.heap.size):=by
              intro z hz
              rcases List.mem_append.1 hz with hz | hz
              · exact .inr (hp z (by simpa using hz))
              · exact .inl hz
            have hokq:∀ z,(okRes rc.al w okA z∧p≠some z)→(z < w.heap.size∧(cx E w0 ok0 gs ρ vl σ1 w).ok z)∨(w.heap.size≤z∧z ∉ p.toList++gs):=by
              rintro z ⟨hz,hne⟩
              rcases hz with ⟨h5,h6,h7⟩ | h5
              · simp only [okA,h5,if_true] at h6
                exact .inl ⟨h7,h6⟩
              · refine .inr ⟨h5,fun hm=>?_⟩
                rcases List.mem_append.1 hm with hm | hm
                · exact hne (by simpa using hm)
                · have:=(hR1.bw.hid z hm).2;omega
            obtain ⟨hR2,hle2,hok2,hes⟩:=setRcv_ok (c:=q.1) (ro:=rc.ro) hR1 (fun z hz=>List.mem_append_right p.toList hz) hg2 hb (by
              cases hbb:b with
              | none=>rw [hbb] at hwr;exact .inl hwr
              | some b' =>
                rw [hbb] at hwr
                have hwr:(rc.quiet||mayWr E b')=true:=hwr
                rw [Bool.or_eq_true] at hwr
                exact hwr.imp id fun h=>⟨b',rfl,h⟩) hbw hokq hCn
            unfold finishR at h
            obtain ⟨hR3,hle3⟩:=hR2.more (es':=(intern (setRcv σ1 b rc.rL rc.ro q.1).es (TT.mk rc.sb q.2.2)).1) (intern_mono _ _)
            obtain ⟨l, σ4, ρ4,vl4,h6,hR4,hle4,h7,hes4⟩:=ownBr_ok hR3 (fun z hz hm=>by have:=(hp z hz).1;have:=(hR1.bw.hid z hm).2;omega) (fun z hz=>hok2 z hz) hO h
            split at h6
            · rename_i yv hyv
              have hL:Lift (C0 E.eT w' fun z=>okRes rc.al w okA z∧p≠some z) (cx E w0 ok0 gs ρ4 vl4 σ4 w') (TT.mk rc.sb q.2.2) (intern (setRcv σ1 b rc.rL rc.ro q.1).es (TT.mk rc.sb q.2.2)).2:=by
                have hle:(C0 E.eT w' fun z=>okRes rc.al w okA z∧p≠some z).Le (cx E w0 ok0 gs ρ4 vl4 σ4 w'):=by
                  refine ⟨rfl,Nat.zero_le _,fun b hb=>absurd hb (Nat.not_lt_zero _),fun b hb=>absurd hb (Nat.not_lt_zero _),fun i e he=>by simp [C0] at he,fun z hz hlt=>?_,Nat.le_refl _,fun _ _ _=>rfl⟩
                  exact hle4.ok z (hle3.ok z (hok2 z hz) hlt) hlt
                exact intern_ok (C:=C0 E.eT w' fun z=>okRes rc.al w okA z∧p≠some z) (D:=cx E w0 ok0 gs ρ4 vl4 σ4 w') rfl (fun x v _ hv=>VS.le hle hv) (fun i e he=>by
                  have:(cx E w0 ok0 gs ρ4 vl4 σ4 w').es = σ4.es:=rfl
                  rw [this,hes4]
                  exact he)
              refine hK yv σ4 v w' ρ4 vl4 h6 hR4 (resL_ok hyv (h7.append (regroup_ok hoth hL)) hv) (fun hq=>by rw [hq] at hbw;exact hbw) (fun p' off hp'=>by
                rw [hvv] at hp'
                cases hq:rc.quiet <;> rw [hq] at hbw
                · have hs : rc.rL.isSome = true := by
                    unfold RCon.quiet at hq
                    cases hrl:rc.rL
                    · rw [hrl] at hq;simp at hq
                    · rfl
                  have:=rcvIs_head hrcv hs hp'
                  subst this
                  exact hbw
                · exact hbw.weak (fun q hq=>by cases hq)) ⟨fun z hz=>?_,hbw.size⟩
              · refine hbw.block z (hR1.bw.hid z hz).2 (fun hm=>?_)
                cases hq:rc.quiet <;> rw [hq] at hm
                · have hm:z=g:=by simpa using hm
                  subst hm
                  rcases hb with ⟨h8, -⟩ | ⟨b',bl, -, -,h8, -⟩
                  · unfold RCon.quiet at hq;rw [h8] at hq;simp at hq
                  · exact (hR1.own b' z h8).1.2 hz
                · cases hm
            · cases h6
          unfold Oper.wp
          rcases hcall with ⟨h5,h6⟩ | ⟨v,w',h5,h6⟩
          · rw [hexec _ _ h5,Oper.upon_enter]
            refine h6.mono fun e w' he=>?_
            obtain ⟨v,rfl,hq⟩:=he
            exact hfin v w' hq
          · rw [hexec _ _ h5,Oper.upon_value]
            exact hfin v w' h6
      · cases h
    · cases h
  · cases h
def calledR (E:En) (Γ:List (FuncId×Cn)) (σ:St) (c:Call):Option (RCon×List A1):=
  match c.callee with
  | .value f=>(match opd E σ f,opds1 E σ c.args.toList with
    | some (.one (.s fx)),some as0=>(match calleeSc fx with
      | some (g,ex)=>(match lookC Γ g (as0++ex) with
        | some (.r rc)=>some (rc,as0++ex)
        | _=>none)
      | none=>none)
    | _,_=>none)
  | _=>none
theorem calledR_ok {Γ : List (FuncId × Cn)} (hΓ : AllOk E.P E.eT Γ) (hR : Rel E w0 ok0 gs ρ vl σ a w) {o : Oper} {c : Call} {rc : RCon} {as : List A1} (ho : o.op = .call c) (h : calledR E Γ σ c = some (rc, as)) :
    ∃ (g:FuncId) (vs:Array Value),FnOkR E.P E.eT g rc∧V1s (cx E w0 ok0 gs ρ vl σ w) as vs.toList∧(∀ (n:Next) (w':World),(callFunc g vs).run E.P w = .ok n w'→(execOp a.eval o).run E.P w = .ok n w')∧∀ x r,c.args.toList=x :: r→vs.toList.head? = some (a.eval x):=by
  unfold calledR at h
  split at h
  · rename_i f hf
    split at h
    · rename_i fx as0 hg has
      split at h
      · rename_i g ex hgx
        obtain ⟨us,e1,hex⟩:=calleeSc_ok hgx (opd_ok hR hg)
        split at h
        · rename_i rc' hcon
          simp only [Option.some.injEq,Prod.mk.injEq] at h
          obtain ⟨rfl,rfl⟩:=h
          refine ⟨g,c.args.map a.eval++us,hΓ.get hcon, ?_,fun n w' hn=>?_,fun x r hxr=>by simp [hxr]⟩
          · have:=(opds1_ok hR has).append hex
            simpa using this
          · simp only [execOp,ho,Sem.run_bind,resolve,hf,e1,Deferred.ofValue,Sem.run_pure,Result.andThen_ok,invoke]
            simpa using hn
        · cases h
      · cases h
    · cases h
  · cases h
def popCallQ (E:En) (Γ:List (FuncId×Cn)) (σ:St) (c:Call) (K:AV→St→Option β):Option β:=
  match calledR E Γ σ c with
  | some (rc,as)=>bif rc.quiet then popR E rc σ as K else none
  | none=>popCall E Γ σ c K
theorem popCallQ_ok {Γ:List (FuncId×Cn)} (hΓ:AllOk E.P E.eT Γ) (hR:Rel E w0 ok0 gs ρ vl σ a w) {o:Oper} {c:Call} {K:AV→St→Option β} {r:β} {Q:Exit→Act→World→Prop} (ho:o.op = .call c) (h:popCallQ E Γ σ c K=some r):WpRes E w0 ok0 gs a w o Q K r:=by
  unfold popCallQ at h
  split at h
  · rename_i rc as hc
    obtain ⟨hq,h⟩:=bif_some h
    obtain ⟨g,vs,h1,h2,h3, -⟩:=calledR_ok hΓ hR ho hc
    intro Kc hK
    exact popR_ok h1 hR h2 h3 h (fun x σ' v w' ρ' vl' k1 k2 k3 k4 _ _=>hK x σ' v w' ρ' vl' k1 k2 k3 (k4 hq))
  · exact popCall_ok hΓ hR ho h
def calledS (E:En) (Γ:List (FuncId×Cn)) (σ:St) (c:Call):Option (SCon×Nat×List Cp):=
  match c.callee with
  | .value f=>(match opd E σ f,opds1 E σ c.args.toList with
    | some (.one (.s (.fn g))),some [.s (.lst b),.s (.clo g2 cs)]=>(match lookC Γ g [.s (.lst b),.s (.clo g2 cs)] with
      | some (.s sc)=>bif Nat.beq g2 sc.nf then some (sc,b,cs) else none
      | _=>none)
    | _,_=>none)
  | _=>none
def popSort (E:En) (sc:SCon) (σ:St) (b:Nat) (cs:List Cp) (K:AV→St→Option β):Option β:=
  match σ.bl[b]? with
  | some (.ints k t l)=>bif decide (k=sc.k)&&(Nat.beq t sc.t&&mayWr E b) then (match CT.of sc.ks cs with
    | some x=>(match sc.F x l with
      | some r=>K (.tup []) (σ.setB b (.ints sc.k sc.t r))
      | none=>none)
    | none=>none) else none
  | _=>none
theorem calledS_ok {Γ : List (FuncId × Cn)} (hΓ : AllOk E.P E.eT Γ) (hR : Rel E w0 ok0 gs ρ vl σ a w) {o : Oper} {c : Call} {sc : SCon} {b : Nat} {cs : List Cp} (ho : o.op = .call c) (h : calledS E Γ σ c = some (sc, b, cs)) :
    ∃ (g:FuncId) (us:Array Value),FnOkS E.P E.eT g sc∧b < σ.bl.length∧CpAs (cx E w0 ok0 gs ρ vl σ w) cs us.toList∧(∀ (n:Next) (w':World),(callFunc g #[vl b,.func (.func sc.nf) #[] us]).run E.P w = .ok n w'→(execOp a.eval o).run E.P w = .ok n w')∧∀ x,c.args.toList.head? = some x→∀ p,a.eval x≠.pointer p:=by
  unfold calledS at h
  split at h
  · rename_i f hf
    split at h
    · rename_i g b' g2 cs' hg has
      split at h
      · rename_i sc' hcon
        have h10:=bif_some h
        clear h
        obtain ⟨h2,h⟩:=h10
        have h2:=Nat.eq_of_beq_eq_true h2
        subst h2
        simp only [Option.some.injEq,Prod.mk.injEq] at h
        obtain ⟨rfl,rfl,rfl⟩:=h
        have e1:a.eval f = .func (.func g) #[] #[]:=opd_ok hR hg
        have hv:=opds1_ok hR has
        cases hl:c.args.toList with
        | nil=>rw [hl] at hv;exact hv.elim
        | cons y l =>
          rw [hl] at hv
          cases l with
          | nil=>exact hv.2.elim
          | cons z l =>
            cases l with
            | cons _ _=>exact hv.2.2.elim
            | nil =>
              obtain ⟨⟨h3,h4,A,n,cc,h5⟩,⟨us,h6,h7⟩, -⟩:=hv
              have h4':a.eval y=vl b':=h4
              have hargs:c.args.map a.eval = #[vl b',.func (.func sc'.nf) #[] us]:=by
                rw [← Array.toList_inj,Array.toList_map,hl]
                simp only [List.map_cons,List.map_nil,h4',h6]
              refine ⟨g,us,hΓ.get hcon,h3,h7,fun n w' hn=>?_,fun x hx p hp=>?_⟩
              · simp only [execOp,ho,Sem.run_bind,resolve,hf,e1,Deferred.ofValue,Sem.run_pure,Result.andThen_ok,invoke,hargs]
                simpa using hn
              · simp only [List.head?_cons,Option.some.injEq] at hx
                subst hx
                rw [h5] at hp
                cases hp
      · cases h
    · cases h
  · cases h
theorem popSort_ok {g : FuncId} {sc : SCon} {b : Nat} {cs : List Cp} {us : Array Value} (hF : FnOkS E.P E.eT g sc) (hR : Rel E w0 ok0 gs ρ vl σ a w) {o : Oper} (hcs : CpAs (cx E w0 ok0 gs ρ vl σ w) cs us.toList)
    (hexec:∀ (n:Next) (w':World),(callFunc g #[vl b,.func (.func sc.nf) #[] us]).run E.P w = .ok n w'→(execOp a.eval o).run E.P w = .ok n w') {K:AV→St→Option β} {r:β} {Q:Exit→Act→World→Prop} {Kc:Act→World→Prop} (h:popSort E sc σ b cs K=some r)
    (hK:∀ x σ' v w' ρ' vl',K x σ'=some r→Rel E w0 ok0 gs ρ' vl' σ' a w'→VV (cx E w0 ok0 gs ρ' vl' σ' w') x v→(∀ q,q∈gs→w'.heap[q]? = w.heap[q]?)∧w.heap.size≤w'.heap.size→Kc (a.put o.dst v) w'):o.wp E.P a w Kc Q:=by
  unfold popSort at h
  split at h
  · rename_i k t l hb
    have h10:=bif_some h
    clear h
    obtain ⟨hc,h⟩:=h10
    simp only [Bool.and_eq_true] at hc
    have c1:=of_decide_eq_true hc.1
    have c2:=Nat.eq_of_beq_eq_true hc.2.1
    have hmw:=hc.2.2
    subst c1 c2
    cases hx:CT.of sc.ks cs with
    | none=>rw [hx] at h;cases h
    | some x =>
      rw [hx] at h
      cases hq:sc.F x l with
      | none=>simp only [hq] at h;cases h
      | some q =>
        simp only [hq] at h
        obtain ⟨hin,hown⟩:=hR.bl b _ hb
        have hnok:∀ g,(vl b).ownBlock=some g→¬ (cx E w0 ok0 gs ρ vl σ w).ok g:=fun g hg=>live_not_ok hR ⟨_,hb,hg⟩
        have hcp:=CpAs.into (okA:=(cx E w0 ok0 gs ρ vl σ w).ok) (fun _ h=>h) hcs
        rw [← CT.of_eq hx] at hcp
        have hcall:=hF x l q w _ _ (vl b) us hq hin hown hnok hcp
        have hfin:∀ v w',(v = .tuple #[]∧inL sc.k q∧w'.ownsRow w0.heap.size sc.t 1 (vl b) q.length (q.map (Value.int sc.k))∧Bw (vl b).ownBlock.toList w w')→Kc (a.put o.dst v) w':=by
          rintro v w' ⟨rfl,h1,h2,h3⟩
          cases hob:(vl b).ownBlock with
          | some p =>
            rw [hob] at h3
            have hp:liveAt ρ vl σ b p:=⟨_,hb,hob⟩
            have h4:=hR.written (x:=.ints sc.k sc.t q) hmw hp h3 hob (fun _=>⟨h1,h2⟩)
            refine hK _ _ _ _ _ _ h h4 ⟨#[],rfl,trivial⟩ ⟨fun z hz=>h3.block z (hR.bw.hid z hz).2 (fun hm=>?_),h3.size⟩
            have hm:z=p:=by simpa using hm
            subst hm
            exact (hR.own b z hp).1.2 hz
          | none =>
            rw [hob] at h3
            have h3:Bw [] w w':=h3
            have hz:∀ {W:World} {base e n:Nat} {xs:List Value},W.ownsRow base e 1 (vl b) n xs→n=0:=by
              intro W base e n xs ho
              rcases ho.2 with ⟨-,h0⟩ | ⟨g',cap,cur,h0, -⟩
              · exact h0
              · rw [h0] at hob
                cases hob
            have q0:q=[]:=List.length_eq_zero_iff.1 (hz h2)
            have l0:l=[]:=List.length_eq_zero_iff.1 (hz hown)
            subst q0 l0
            have hs:σ.setB b (.ints sc.k sc.t []) = σ:=by
              unfold St.setB
              have:σ.bl.set b (.ints sc.k sc.t []) = σ.bl:=by
                apply List.ext_getElem?
                intro i
                by_cases hi:i=b
                · subst hi
                  rw [List.getElem?_set_self (bl_lt hb),hb]
                · rw [List.getElem?_set_ne (fun e=>hi e.symm)]
              rw [this]
            rw [hs] at h
            exact hK _ _ _ _ _ _ h (hR.step h3).1 ⟨#[],rfl,trivial⟩ ⟨fun z hz=>h3.block z (hR.bw.hid z hz).2 (by simp),h3.size⟩
        unfold Oper.wp
        rcases hcall with ⟨h5,h6⟩ | ⟨v,w',h5,h6⟩
        · rw [hexec _ _ h5,Oper.upon_enter]
          refine h6.mono fun e w' he=>?_
          obtain ⟨v,rfl,hq⟩:=he
          exact hfin v w' hq
        · rw [hexec _ _ h5,Oper.upon_value]
          exact hfin v w' h6
  · cases h
end
end Go.Proofs.YtbpcfhhcoklinaaGreat.Ab
namespace Go.Proofs.YtbpcfhhcoklinaaGreat.Ab
open Go Go.RowKit
noncomputable section
variable {β:Type} {E:En} {w0:World} {ok0:Nat→Prop} {gs:List Nat} {ρ:Nat→Nat} {vl:Nat→Value} {σ:St} {a:Act} {w:World}
def inRange (i n:Int) (K:Option β):Option β:=if 0≤i then (if i < n then K else none) else none
theorem inRange_some {i n:Int} {K:Option β} {r:β} (h:inRange i n K=some r):0≤i∧i < n∧K=some r:=by
 unfold inRange at h
 split at h
 ·split at h
  ·exact ⟨by assumption,by assumption,h⟩
  ·cases h
 ·cases h
def inRangeL (i:Int) (n:Nat) (K:Option β):Option β:=if 0≤i then (if i < nI n then K else none) else none
theorem inRangeL_some {i:Int} {n:Nat} {K:Option β} {r:β} (h:inRangeL i n K=some r):0≤i∧i < (n:Int)∧K=some r:=by
 unfold inRangeL at h
 rw [nI_eq] at h
 exact inRange_some h
def sliceT (P:Program) (t:TypeId):Option Nat:=
 match P.underlying t with
 | some (.slice e)=>(P.info? e).map (·.size)
 | _=>none
def arrayT (P:Program) (t:TypeId):Option (Nat×Nat):=
 match P.underlying t with
 | some (.array n e)=>(P.info? e).map fun i=>(n,i.size)
 | _=>none
theorem sliceT_of {P:Program} {t:TypeId} {s:Nat} (h:sliceT P t=some s):∃ e i,P.underlying t=some (.slice e)∧P.info? e=some i∧i.size=s:=by
 unfold sliceT at h
 split at h
 ·rename_i e he
  cases hi:P.info? e with
  | none=>rw [hi] at h;cases h
  | some i=>rw [hi] at h;exact ⟨e,i,he,hi,by simpa using h⟩
 ·cases h
theorem arrayT_of {P:Program} {t:TypeId} {n s:Nat} (h:arrayT P t=some (n,s)):∃ e i,P.underlying t=some (.array n e)∧P.info? e=some i∧i.size=s:=by
 unfold arrayT at h
 split at h
 ·rename_i m e he
  cases hi:P.info? e with
  | none=>rw [hi] at h;cases h
  | some i =>
   rw [hi] at h
   simp only [Option.map_some,Option.some.injEq,Prod.mk.injEq] at h
   obtain ⟨rfl,rfl⟩:=h
   exact ⟨e,i,he,hi,rfl⟩
 ·cases h
theorem run_idx_slice {P:Program} {t e:TypeId} {i:TypeInfo} (he:P.underlying t=some (.slice e)) (hi:P.info? e=some i) (p:Addr) (len cap:Nat) (k:IntKind) (j:Int) (h0:0≤j) (h1:j < len) (w1:World):
  (Instr.indexAt t (.slice (some p) len cap) (.int k j)).run P w1 = .ok (.pointer (some (p.add (j.toNat*i.size)))) w1:=by
 simp [Instr.indexAt,run_underlying he,asIntOf,h0,h1,sizeOf,typeInfo,hi]
theorem run_idx_array {P:Program} {t e:TypeId} {i:TypeInfo} {n:Nat} (he:P.underlying t=some (.array n e)) (hi:P.info? e=some i) (p:Addr) (k:IntKind) (j:Int) (h0:0≤j) (h1:j < n) (w1:World):
  (Instr.indexAt t (.pointer (some p)) (.int k j)).run P w1 = .ok (.pointer (some (p.add (j.toNat*i.size)))) w1:=by
 simp [Instr.indexAt,run_underlying he,asIntOf,Instr.sureAddr,h0,h1,sizeOf,typeInfo,hi]
def litI (lo hi:Option Int):Bool:=
 match lo,hi with
 | some a,some b=>decide (a=b)
 | _,_=>false
def inCells (σ:St) (b:Nat):Bool:=
 match σ.bl[b]? with
 | some (.mix _ _ _ _ _)=>false
 | _=>true
def popIdxA (E:En) (σ:St) (t:TypeId) (x i:Operand) (K:AV→St→Option β):Option β:=
 match opd E σ i,opd E σ x with
 | some (.one (.s (.int _ j lo hi))),some (.one (.s (.ptr b o)))=>(match arrayT E.P t with
  | some (n,s)=>bif inCells σ b&&litI lo hi then inRange j n (K (.one (.s (.ptr b (o+j.toNat*s)))) σ) else bif Nat.beq s 1 then inRange j n (K (.one (.s (.me b o n j))) σ) else none
  | none=>none)
 | some (.one (.s (.int _ j _ _))),some (.one (.s (.win b o m n)))=>(match sliceT E.P t with
  | some s=>bif Nat.beq s 1 then inRange j n (K (.one (.s (.me b o m j))) σ) else none
  | none=>none)
 | some (.one (.s (.int _ j _ _))),some (.one (.s (.sst b n sz)))=>(match sliceT E.P t with
  | some s=>bif Nat.beq s sz then inRange j n (K (.one (.s (.ptr b (j.toNat*sz)))) σ) else none
  | none=>none)
 | some (.one (.s (.int _ j _ _))),some (.one (.s (.lst b)))=>(match sliceT E.P t, σ.bl[b]? with
  | some s,some (.ints _ _ l)=>bif Nat.beq s 1 then inRangeL j l.length (K (.one (.s (.ep b j))) σ) else none
  | _,_=>none)
 | some (.one (.s (.int _ j _ _))),some (.one (.s (.rd k l)))=>(match sliceT E.P t with
  | some s=>bif Nat.beq s 1 then inRangeL j l.length (K (.one (.s (.rp k l j))) σ) else none
  | none=>none)
 | some (.one (.s (.int _ j _ _))),some (.one (.s (.rds ks l)))=>(match sliceT E.P t with
  | some s=>bif Nat.beq s ks.length then inRangeL j l.length (K (.one (.s (.rps (CT.mk ks (l.getD j.toNat (CT.dft ks)))))) σ) else none
  | none=>none)
 | some (.one (.s (.int _ j _ _))),some (.one (.s (.lss b)))=>(match sliceT E.P t, σ.bl[b]? with
  | some s,some (.rows _ _ l)=>inRangeL j l.length (K (.one (.s (.es b s j))) σ)
  | _,_=>none)
 | _,_=>none
theorem popIdxA_ok (hR:Rel E w0 ok0 gs ρ vl σ a w) {o:Oper} {t:TypeId} {x i:Operand} {K:AV→St→Option β} {r:β} (ho:o.op = .indexAddr t x i) (h:popIdxA E σ t x i K=some r):
  PureRes E w0 ok0 gs ρ vl a w o K r:=by
 unfold popIdxA at h
 split at h
 ·rename_i k j lo hi b o' hj hx
  obtain ⟨e2, -⟩:=opd_ok hR hj
  obtain ⟨h1,e1⟩:=opd_ok hR hx
  split at h
  ·rename_i n s ht
   cases hc:(inCells σ b&&litI lo hi) <;> rw [hc] at h
   ·simp only [cond_false] at h
    obtain ⟨hs,h⟩:=bif_some h
    have hs:=Nat.eq_of_beq_eq_true hs
    obtain ⟨h2,h3,h⟩:=inRange_some h
    obtain ⟨e,ti,he,hi',h4⟩:=arrayT_of ht
    refine .mk' hR h ⟨h1,h2,h3,rfl⟩ (fun w1=>?_)
    simp only [execOp,ho,e1,e2,Sem.run_bind,run_idx_array he hi' _ _ j h2 h3,Result.andThen_ok,Sem.run_pure,Addr.add_mid,h4,hs,Nat.mul_one]
   ·simp only [cond_true] at h
    obtain ⟨h2,h3,h⟩:=inRange_some h
    obtain ⟨e,ti,he,hi',rfl⟩:=arrayT_of ht
    refine .mk' hR h ⟨h1,rfl⟩ (fun w1=>?_)
    simp only [execOp,ho,e1,e2,Sem.run_bind,run_idx_array he hi' _ _ j h2 h3,Result.andThen_ok,Sem.run_pure,Addr.add_mid]
  ·cases h
 ·rename_i k j lo hi b o' m n hj hx
  obtain ⟨e2, -⟩:=opd_ok hR hj
  obtain ⟨h1,hn0,hnm,c,hc,e1⟩:=opd_ok hR hx
  split at h
  ·rename_i s ht
   obtain ⟨hs,h⟩:=bif_some h
   have hs:=Nat.eq_of_beq_eq_true hs
   obtain ⟨h2,h3,h⟩:=inRange_some h
   obtain ⟨e,ti,he,hi',h4⟩:=sliceT_of ht
   refine .mk' hR h ⟨h1,h2,by omega,rfl⟩ (fun w1=>?_)
   simp only [execOp,ho,e1,e2,Sem.run_bind,run_idx_slice he hi' _ _ _ _ j h2 (show j < (n.toNat:Int) by omega),Result.andThen_ok,Sem.run_pure,Addr.add_mid,h4,hs,Nat.mul_one]
  ·cases h
 ·rename_i k j lo hi b n sz hj hx
  obtain ⟨e2, -⟩:=opd_ok hR hj
  obtain ⟨h1,e1⟩:=opd_ok hR hx
  split at h
  ·rename_i s ht
   obtain ⟨hs,h⟩:=bif_some h
   have hs:=Nat.eq_of_beq_eq_true hs
   obtain ⟨h2,h3,h⟩:=inRange_some h
   obtain ⟨e,ti,he,hi',h4⟩:=sliceT_of ht
   refine .mk' hR h ⟨h1,rfl⟩ (fun w1=>?_)
   simp only [execOp,ho,e1,e2,Sem.run_bind,run_idx_slice he hi' _ _ _ _ j h2 h3,Result.andThen_ok,Sem.run_pure,Addr.add_mid,h4,hs,Nat.zero_add]
  ·cases h
 ·rename_i k j lo hi b hj hx
  obtain ⟨e2, -⟩:=opd_ok hR hj
  obtain ⟨h1,e1,A,n,c,e3⟩:=opd_ok hR hx
  split at h
  ·rename_i s k' t0 l ht hb
   obtain ⟨hs,h⟩:=bif_some h
   have hs:=Nat.eq_of_beq_eq_true hs
   obtain ⟨h2,h3,h⟩:=inRangeL_some h
   obtain ⟨e,ti,he,hi',h4⟩:=sliceT_of ht
   have hB:=hR.bl b _ hb
   have hvl:(cx E w0 ok0 gs ρ vl σ w).vl b = .slice A n c:=by rw [← e1];exact e3
   cases A with
   | none =>
    obtain ⟨hin,h5,h6⟩:=hB
    rcases h6 with ⟨h6,h7⟩ | ⟨g,cap,cur,h6, -⟩
    ·omega
    ·rw [hvl] at h6;cases h6
   | some A =>
    obtain ⟨h5, -⟩:=ints_at hB hvl
    subst h5
    refine .mk' hR h ⟨h1,A,_,c,hvl,h2,h3,rfl⟩ (fun w1=>?_)
    simp only [execOp,ho,e3,e2,Sem.run_bind,run_idx_slice he hi' _ _ _ _ j h2 h3,Result.andThen_ok,Sem.run_pure,h4,hs,Nat.mul_one]
  ·cases h
 ·rename_i k j lo hi k' l hj hx
  obtain ⟨e2, -⟩:=opd_ok hR hj
  obtain ⟨A,c,e1,h4,h5,h6⟩:=opd_ok hR hx
  split at h
  ·rename_i s ht
   obtain ⟨hs,h⟩:=bif_some h
   have hs:=Nat.eq_of_beq_eq_true hs
   obtain ⟨h2,h3,h⟩:=inRangeL_some h
   obtain ⟨e,ti,he,hi',h7⟩:=sliceT_of ht
   have hlt:j.toNat < l.length:=by omega
   obtain ⟨p,rfl,h8,h9,h10⟩:=h6 j.toNat hlt
   refine .mk' hR h ⟨h2,hlt,p.add j.toNat,rfl,by rw [add_block];exact h8,by rw [add_block];exact h9,h10,h5.2 _ (List.getElem_mem hlt)⟩ (fun w1=>?_)
   simp only [execOp,ho,e1,e2,Sem.run_bind,run_idx_slice he hi' _ _ _ _ j h2 h3,Result.andThen_ok,Sem.run_pure,h7,hs,Nat.mul_one]
  ·cases h
 ·rename_i k j lo hi ks l hj hx
  obtain ⟨e2, -⟩:=opd_ok hR hj
  obtain ⟨A,c,e1,h4,h5,h6⟩:=opd_ok hR hx
  split at h
  ·rename_i s ht
   obtain ⟨hs,h⟩:=bif_some h
   have hs:=Nat.eq_of_beq_eq_true hs
   obtain ⟨h2,h3,h⟩:=inRangeL_some h
   obtain ⟨e,ti,he,hi',h7⟩:=sliceT_of ht
   have hlt:j.toNat < l.length:=by omega
   obtain ⟨g,off,rfl,h8⟩:=h6 j.toNat hlt
   have hget:l.getD j.toNat (CT.dft ks)=l[j.toNat]:=by rw [List.getD_eq_getElem?_getD,List.getElem?_eq_getElem hlt];rfl
   rw [hget] at h
   refine .mk' hR h ⟨g,off+j.toNat*ks.length,rfl,h8⟩ (fun w1=>?_)
   simp only [execOp,ho,e1,e2,Sem.run_bind,run_idx_slice he hi' _ _ _ _ j h2 h3,Result.andThen_ok,Sem.run_pure,h7,hs,Addr.add_mid]
  ·cases h
 ·rename_i k j lo hi b hj hx
  obtain ⟨e2, -⟩:=opd_ok hR hj
  obtain ⟨h1,e1,A,n,c,e3⟩:=opd_ok hR hx
  split at h
  ·rename_i s ks t0 l ht hb
   obtain ⟨h2,h3,h⟩:=inRangeL_some h
   obtain ⟨e,ti,he,hi',h4⟩:=sliceT_of ht
   have hB:=hR.bl b _ hb
   have hvl:(cx E w0 ok0 gs ρ vl σ w).vl b = .slice A n c:=by rw [← e1];exact e3
   cases A with
   | none =>
    obtain ⟨hin,h5,h6⟩:=hB
    rcases h6 with ⟨h6,h7⟩ | ⟨g,cap,cur,h6, -⟩
    ·omega
    ·rw [hvl] at h6;cases h6
   | some A =>
    obtain ⟨h5, -⟩:=rows_at hB hvl
    subst h5
    refine .mk' hR h ⟨h1,A,_,c,hvl,h2,h3,rfl⟩ (fun w1=>?_)
    simp only [execOp,ho,e3,e2,Sem.run_bind,run_idx_slice he hi' _ _ _ _ j h2 h3,Result.andThen_ok,Sem.run_pure,h4]
  ·cases h
 ·cases h
def popIndex (E:En) (σ:St) (t:TypeId) (x i:Operand) (K:AV→St→Option β):Option β:=
 match opd E σ i,opd E σ x with
 | some (.one (.s (.int _ j _ _))),some (.one (.s (.str s _)))=>(match E.P.underlying t with
  | some .string=>inRangeL j s.size (K (.one (.s (.int .u8 (bt s j) none none))) σ)
  | _=>none)
 | some (.one (.s (.int _ j _ _))),some (.one (.g cs))=>(match E.P.underlying t with
  | some (.array n e)=>(match E.P.info? e,partSc E.P e cs (j.toNat*(E.P.cellsOf e)) with
   | some _,some y=>inRange j n (K (.one y) σ)
   | _,_=>none)
  | _=>none)
 | _,_=>none
theorem popIndex_ok (hR:Rel E w0 ok0 gs ρ vl σ a w) {o:Oper} {t:TypeId} {x i:Operand} {K:AV→St→Option β} {r:β} (ho:o.op = .index t x i) (h:popIndex E σ t x i K=some r):
  PureRes E w0 ok0 gs ρ vl a w o K r:=by
 unfold popIndex at h
 split at h
 ·rename_i k j lo hi s m hj hx
  obtain ⟨e2, -⟩:=opd_ok hR hj
  obtain ⟨e1, -⟩:=opd_ok hR hx
  split at h
  ·rename_i ht
   obtain ⟨h2,h3,h⟩:=inRangeL_some h
   have hlt:j.toNat < s.size:=by omega
   have hb:bt s j=((s[j.toNat]'hlt).toNat:Int):=by unfold bt;rw [dif_pos hlt]
   refine .mk' hR h (v:=.int .u8 (bt s j)) ⟨rfl, ?_,by simp,by simp⟩ (fun w1=>?_)
   ·rw [hb]
    have:=(s[j.toNat]'hlt).toNat_lt
    refine ⟨?_, ?_⟩ <;> simp only [kLo,kHi] <;> omega
   ·rw [hb]
    have hg:s[j.toNat]? = some (s[j.toNat]'hlt):=getElem?_pos s j.toNat hlt
    simp [execOp,ho,e1,e2,Instr.index,asIntOf,run_underlying ht,h2,hg]
  ·cases h
 ·rename_i k j lo hi cs hj hx
  obtain ⟨e2, -⟩:=opd_ok hR hj
  obtain ⟨us,e1,h1⟩:=opd_ok hR hx
  split at h
  ·rename_i n e ht
   split at h
   ·rename_i ti y hti hy
    obtain ⟨h2,h3,h⟩:=inRange_some h
    obtain ⟨v,h4,h5⟩:=partSc_ok hy h1
    refine .mk' hR h h4 (fun w1=>?_)
    have hc:E.P.cellsOf e=ti.size:=by simp [Program.cellsOf,hti]
    rw [hc] at h5
    simp [execOp,ho,e1,e2,Instr.index,asIntOf,run_underlying ht,h2,h3,sizeOf,typeInfo,hti,h5]
   ·cases h
  ·cases h
 ·cases h
def lenSc (σ:St) (d:TypeDesc) (x:Sc):Option Sc:=
 match d,x with
 | .string,.str s none=>some (.int .i64 (nI s.size) (some 0) none)
 | .string,.str s (some m)=>some (.int .i64 (m:Int) (some (m:Int)) (some (m:Int)))
 | .slice _,.rd _ l=>some (.int .i64 (nI l.length) (some 0) none)
 | .slice _,.rds _ l=>some (.int .i64 (nI l.length) (some 0) none)
 | .slice _,.lss b=>(match σ.bl[b]? with
  | some (.rows _ _ l)=>some (.int .i64 (nI l.length) (some 0) none)
  | _=>none)
 | .slice _,.nils=>some (.int .i64 0 (some 0) (some 0))
 | .slice _,.win _ _ m n=>bif Nat.ble m 1000 then some (.int .i64 n (some 0) (some (m:Int))) else none
 | .slice _,.sst _ n _=>bif Nat.ble n 1000 then some (.int .i64 (n:Int) (some (n:Int)) (some (n:Int))) else none
 | .slice _,.lst b=>(match σ.bl[b]? with
  | some (.ints _ _ l)=>some (.int .i64 (nI l.length) (some 0) none)
  | _=>none)
 | _,_=>none
theorem inK_len {n:Nat} (h:n≤9223372036854775807):inK .i64 (n:Int):=by refine ⟨?_, ?_⟩ <;> simp only [kLo,kHi] <;> omega
theorem lenSc_ok (hR:Rel E w0 ok0 gs ρ vl σ a w) {d:TypeDesc} {t ty:TypeId} {x y:Sc} {v:Value} (ht:E.P.underlying t=some d) (h:lenSc σ d x=some y) (hv:VS (cx E w0 ok0 gs ρ vl σ w) x v):
  ∃ u,VS (cx E w0 ok0 gs ρ vl σ w) y u∧∀ w1,(Builtin.len_ #[t] ty #[v]).run E.P w1 = .ok u w1:=by
 unfold lenSc at h
 simp only [nI_eq] at h
 split at h
 ·injection h with h
  subst h
  obtain ⟨rfl,h1,h2⟩:=hv
  exact ⟨_,⟨rfl,inK_len h1,by simp,by simp⟩,fun w1=>by simp [Builtin.len_,run_underlying ht,goInt]⟩
 ·rename_i s m
  injection h with h
  subst h
  obtain ⟨rfl,h1,h2⟩:=hv
  have:=h2 _ rfl
  subst this
  exact ⟨_,⟨rfl,inK_len h1,by simp,by simp⟩,fun w1=>by simp [Builtin.len_,run_underlying ht,goInt]⟩
 ·injection h with h
  subst h
  obtain ⟨A,c,rfl,h1,h2,h3⟩:=hv
  exact ⟨_,⟨rfl,inK_len h2.1,by simp,by simp⟩,fun w1=>by simp [Builtin.len_,run_underlying ht,goInt]⟩
 ·injection h with h
  subst h
  obtain ⟨A,c,rfl,h1,h2,h3⟩:=hv
  exact ⟨_,⟨rfl,inK_len h2,by simp,by simp⟩,fun w1=>by simp [Builtin.len_,run_underlying ht,goInt]⟩
 ·rename_i b
  split at h
  ·rename_i ks t0 l hb
   injection h with h
   subst h
   have hB:=hR.bl b _ hb
   obtain ⟨A,c,e1,e2,e3, -⟩:=own_readsS (C:=C0 E.eT w fun _=>True) hB.1 hB.2 (fun _ _=>trivial)
   have hv':v=vl b:=hv.2.1
   have e1':vl b = .slice A l.length c:=e1
   rw [hv',e1']
   exact ⟨_,⟨rfl,inK_len e3,by simp,by simp⟩,fun w1=>by simp [Builtin.len_,run_underlying ht,goInt]⟩
  ·cases h
 ·injection h with h
  subst h
  obtain rfl:=hv
  exact ⟨_,⟨rfl,by constructor <;> simp [kLo,kHi],by simp,by simp⟩,fun w1=>by simp [Builtin.len_,run_underlying ht,goInt]⟩
 ·rename_i b o m n
  obtain ⟨hb,h⟩:=bif_some h
  have:=Nat.le_of_ble_eq_true hb
  injection h with h
  subst h
  obtain ⟨-,h1,h2,c, -,rfl⟩:=hv
  refine ⟨.int .i64 n,⟨rfl,⟨by simp only [kLo];omega,by simp only [kHi];omega⟩,fun a ha=>by injection ha with ha;omega,fun a ha=>by injection ha with ha;omega⟩,fun w1=>?_⟩
  have e:(n.toNat:Int)=n:=Int.toNat_of_nonneg h1
  simp [Builtin.len_,run_underlying ht,goInt,e]
 ·rename_i b n sz
  obtain ⟨hb,h⟩:=bif_some h
  have:=Nat.le_of_ble_eq_true hb
  injection h with h
  subst h
  obtain ⟨-,rfl⟩:=hv
  exact ⟨_,⟨rfl,inK_len (by omega),by simp,by simp⟩,fun w1=>by simp [Builtin.len_,run_underlying ht,goInt]⟩
 ·rename_i b
  split at h
  ·rename_i k t0 l hb
   injection h with h
   subst h
   have hB:=hR.bl b _ hb
   obtain ⟨A,c,e1,e2,e3, -⟩:=own_reads hB.1 hB.2 (fun _=>True) (fun _ _=>trivial)
   have hv':v=vl b:=hv.2.1
   have e1':vl b = .slice A l.length c:=e1
   rw [hv',e1']
   exact ⟨_,⟨rfl,inK_len e3.1,by simp,by simp⟩,fun w1=>by simp [Builtin.len_,run_underlying ht,goInt]⟩
  ·cases h
 ·cases h
def o2 (f:Int→Int→Int) (a b:Option Int) (one:Bool):Option Int:=
 match a,b with
 | some x,some y=>some (f x y)
 | some x,none=>bif one then some x else none
 | none,some y=>bif one then some y else none
 | none,none=>none
def mm2 (isMax:Bool):Sc→Sc→Option Sc
 | .int k x xl xh,.int k' y yl yh=>bif decide (k'=k) then
   (bif isMax then some (.int k (mx x y) (o2 max xl yl true) (o2 max xh yh false)) else some (.int k (mn x y) (o2 min xl yl false) (o2 min xh yh true))) else none
 | _,_=>none
theorem mm2_ok {C:Cx} {P:Program} {m:Bool} {x y z:Sc} {u v:Value} (h:mm2 m x y=some z) (hx:VS C x u) (hy:VS C y v):
  ∃ q,VS C z q∧∀ w1,((bif m then Builtin.max2 else Builtin.min2) u v).run P w1 = .ok q w1:=by
 unfold mm2 at h
 split at h
 ·rename_i k p pl ph k' q ql qh
  obtain ⟨hk,h⟩:=bif_some h
  have hk:=of_decide_eq_true hk
  subst hk
  obtain ⟨rfl,⟨h1,h2⟩,h3,h4⟩:=hx
  obtain ⟨rfl,⟨h5,h6⟩,h7,h8⟩:=hy
  cases m
  ·simp only [cond_false,Option.some.injEq] at h
   subst h
   refine ⟨.int k' (mn p q),⟨rfl, ?_, ?_, ?_⟩,fun w1=>by simp [Builtin.min2,mn]⟩
   ·unfold mn;split <;> constructor <;> assumption
   ·intro c hc
    cases pl <;> cases ql <;> simp [o2] at hc
    have:=h3 _ rfl;have:=h7 _ rfl
    unfold mn;split <;> omega
   ·intro c hc
    cases ph <;> cases qh <;> simp [o2] at hc <;> unfold mn
    ·have:=h8 _ rfl;split <;> omega
    ·have:=h4 _ rfl;split <;> omega
    ·have:=h4 _ rfl;have:=h8 _ rfl;split <;> omega
  ·simp only [cond_true,Option.some.injEq] at h
   subst h
   refine ⟨.int k' (mx p q),⟨rfl, ?_, ?_, ?_⟩,fun w1=>by simp [Builtin.max2,mx]⟩
   ·unfold mx;split <;> constructor <;> assumption
   ·intro c hc
    cases pl <;> cases ql <;> simp [o2] at hc <;> unfold mx
    ·have:=h7 _ rfl;split <;> omega
    ·have:=h3 _ rfl;split <;> omega
    ·have:=h3 _ rfl;have:=h7 _ rfl;split <;> omega
   ·intro c hc
    cases ph <;> cases qh <;> simp [o2] at hc
    have:=h4 _ rfl;have:=h8 _ rfl
    unfold mx;split <;> omega
 ·cases h
def mmL (isMax:Bool) (x:Sc):List A1→Option Sc
 | []=>some x
 | .s y :: r=>(match mm2 isMax x y with
  | some z=>mmL isMax z r
  | none=>none)
 | .g _ :: _=>none
 | .mx _ _ _ _ :: _=>none
theorem mmL_ok {C:Cx} {P:Program} {m:Bool}:∀ {r:List A1} {x z:Sc} {u:Value} {vs:List Value},mmL m x r=some z→VS C x u→V1s C r vs →
  ∃ q,VS C z q∧∀ w1,(vs.foldlM (bif m then Builtin.max2 else Builtin.min2) u:Sem Value).run P w1 = .ok q w1
 | [],x,z,u,[],h,hx,_=>by
  simp only [mmL,Option.some.injEq] at h
  subst h
  exact ⟨u,hx,fun w1=>by simp⟩
 | .s y :: r,x,z,u,v :: vs,h,hx,hy=>by
  unfold mmL at h
  split at h
  ·rename_i q hq
   obtain ⟨q',h1,h2⟩:=mm2_ok (P:=P) hq hx hy.1
   obtain ⟨q2,h3,h4⟩:=mmL_ok h h1 hy.2
   exact ⟨q2,h3,fun w1=>by rw [List.foldlM_cons,Sem.run_bind,h2,Result.andThen_ok,h4]⟩
  ·cases h
 | .g _ :: _,_,_,_,_,h,_,_=>by simp [mmL] at h
 | .mx _ _ _ _ :: _,_,_,_,_,h,_,_=>by simp [mmL] at h
 | [],_,_,_,_ :: _,_,_,h=>h.elim
 | .s _ :: _,_,_,_,[],_,_,h=>h.elim
def popBuiltin (E:En) (σ:St) (c:Call) (K:AV→St→Option β):Option β:=
 match c.callee with
 | .builtin .len=>(match opds1 E σ c.args.toList,c.argTypes.toList with
  | some [.s x],[t]=>(match E.P.underlying t with
   | some d=>(match lenSc σ d x with
    | some y=>K (.one (.s y)) σ
    | none=>none)
   | none=>none)
  | _,_=>none)
 | .builtin .max=>(match opds1 E σ c.args.toList with
  | some (.s x :: r)=>(match mmL true x r with
   | some y=>K (.one (.s y)) σ
   | none=>none)
  | _=>none)
 | .builtin .min=>(match opds1 E σ c.args.toList with
  | some (.s x :: r)=>(match mmL false x r with
   | some y=>K (.one (.s y)) σ
   | none=>none)
  | _=>none)
 | _=>none
theorem popBuiltin_ok (hR:Rel E w0 ok0 gs ρ vl σ a w) {o:Oper} {c:Call} {K:AV→St→Option β} {r:β} (ho:o.op = .call c) (h:popBuiltin E σ c K=some r):
  PureRes E w0 ok0 gs ρ vl a w o K r:=by
 unfold popBuiltin at h
 split at h
 ·rename_i hb
  split at h
  ·rename_i x t hx ht
   have hv:=opds1_ok hR hx
   split at h
   ·rename_i d hd
    split at h
    ·rename_i y hy
     have hat:c.argTypes = #[t]:=by rw [← Array.toArray_toList (xs:=c.argTypes),ht]
     cases hl:c.args.toList.map a.eval with
     | nil=>rw [hl] at hv;exact hv.elim
     | cons v vs =>
      cases vs with
      | cons _ _=>rw [hl] at hv;exact hv.2.elim
      | nil =>
       rw [hl] at hv
       obtain ⟨u,h1,h2⟩:=lenSc_ok hR (ty:=o.type) hd hy hv.1
       have ha:c.args.map a.eval = #[v]:=by rw [← Array.toArray_toList (xs:=c.args.map a.eval),Array.toList_map,hl]
       exact .mk' hR h h1 (fun w1=>by simp [execOp,ho,resolve,hb,invoke,builtin,ha,hat,h2])
    ·cases h
   ·cases h
  ·cases h
 ·rename_i hb
  split at h
  ·rename_i x q hx
   have hv:=opds1_ok hR hx
   split at h
   ·rename_i y hy
    cases hl:c.args.toList.map a.eval with
    | nil=>rw [hl] at hv;exact hv.elim
    | cons v vs =>
     rw [hl] at hv
     obtain ⟨u,h1,h2⟩:=mmL_ok (P:=E.P) hy hv.1 hv.2
     have ha:(c.args.map a.eval).toList=v :: vs:=by rw [Array.toList_map,hl]
     have h2':∀ w1,(vs.foldlM Builtin.max2 v:Sem Value).run E.P w1 = .ok u w1:=h2
     exact .mk' hR h h1 (fun w1=>by simp only [execOp,ho,resolve,hb,invoke,builtin,Sem.run_bind,Sem.run_pure,Result.andThen_ok,Builtin.max_,ha,h2'])
   ·cases h
  ·cases h
 ·rename_i hb
  split at h
  ·rename_i x q hx
   have hv:=opds1_ok hR hx
   split at h
   ·rename_i y hy
    cases hl:c.args.toList.map a.eval with
    | nil=>rw [hl] at hv;exact hv.elim
    | cons v vs =>
     rw [hl] at hv
     obtain ⟨u,h1,h2⟩:=mmL_ok (P:=E.P) hy hv.1 hv.2
     have ha:(c.args.map a.eval).toList=v :: vs:=by rw [Array.toList_map,hl]
     have h2':∀ w1,(vs.foldlM Builtin.min2 v:Sem Value).run E.P w1 = .ok u w1:=h2
     exact .mk' hR h h1 (fun w1=>by simp only [execOp,ho,resolve,hb,invoke,builtin,Sem.run_bind,Sem.run_pure,Result.andThen_ok,Builtin.min_,ha,h2'])
   ·cases h
  ·cases h
 ·cases h
def zero64 (P:Program) (t:TypeId):Bool:=
 match P.info? t with
 | some i=>(match i.zero with
  | some (.int .i64 n)=>decide (n=0)
  | _=>false)
 | none=>false
theorem zero64_of {P:Program} {t:TypeId} (h:zero64 P t=true) (w1:World):(zeroValue t).run P w1 = .ok (.int .i64 0) w1:=by
 unfold zero64 at h
 split at h
 ·rename_i i hi
  split at h
  ·rename_i n hn
   have:=of_decide_eq_true h
   subst this
   simp [zeroValue,typeInfo,hi,hn]
  ·cases h
 ·cases h
def popTA (E:En) (σ:St) (x:Operand) (t:TypeId) (ok:Bool) (K:AV→St→Option β):Option β:=
 match opd E σ x,E.P.underlying t with
 | some (.one (.s s)),some (.int _)=>bif (ok&&Nat.beq t E.eT)&&zero64 E.P t then
   errCase σ s (K (.tup [.s (.int .i64 0 (some 0) (some 0)),.s (.bool (.cst false))])) (fun σ' c=>K (.tup [.s (.int .i64 c none none),.s (.bool (.cst true))]) σ') else none
 | _,_=>none
theorem popTA_ok (hR:Rel E w0 ok0 gs ρ vl σ a w) {o:Oper} {x:Operand} {xt t:TypeId} {ok:Bool} {K:AV→St→Option β} {r:β} (ho:o.op = .typeAssert x xt t ok) (h:popTA E σ x t ok K=some r):
  PureRes E w0 ok0 gs ρ vl a w o K r:=by
 unfold popTA at h
 split at h
 ·rename_i s k hx ht
  obtain ⟨hb,h1⟩:=bif_some h
  simp only [Bool.and_eq_true] at hb
  obtain ⟨⟨rfl,hb⟩,hz⟩:=hb
  have hb:=Nat.eq_of_beq_eq_true hb
  obtain ⟨σ',h2,h3⟩:=errCase_ok hR (opd_ok hR hx) h1
  rcases h3 with ⟨e1,h3⟩ | ⟨c,e1,h4,h3⟩
  ·refine ⟨.tup [.s (.int .i64 0 (some 0) (some 0)),.s (.bool (.cst false))], σ',.tuple #[.int .i64 0,.bool false],h3,h2,⟨_,rfl,⟨rfl,by constructor <;> simp [kLo,kHi],by simp,by simp⟩,rfl,trivial⟩,fun w1=>?_⟩
   simp [execOp,ho,e1,Instr.typeAssert,run_underlying ht,zero64_of hz]
  ·refine ⟨.tup [.s (.int .i64 c none none),.s (.bool (.cst true))], σ',.tuple #[.int .i64 c,.bool true],h3,h2,⟨_,rfl,⟨rfl,h4,by simp,by simp⟩,rfl,trivial⟩,fun w1=>?_⟩
   rw [hb] at ht
   simp [execOp,ho,e1,Instr.typeAssert,run_underlying ht,hb]
 ·cases h
end
end Go.Proofs.YtbpcfhhcoklinaaGreat.Ab
