-- Written by a program of this session out of its own texts (wip/tools/link.py).
import Derived.Below
import Derived.ChangeKeysEq
import Derived.Deep.MidRow
import Derived.Deep.RegionHeld3
import Derived.Great.BuildSlice
import Derived.IntWalk
import Derived.KernelRfl
import Derived.LaidEql
import Derived.Laws.Bits64
import Derived.Laws.BitsLemmas
import Derived.Laws.BytesArg
import Derived.Laws.IdiomCopy
import Derived.Laws.OwnMore
import Derived.Laws.Rows
import Derived.Laws.Slices
import Derived.Laws.StructEq
import Derived.Laws.Tables
import Derived.Lib.BitFns
import Derived.Lib.Slices
import Derived.Lib.Small
import Derived.Lib.Strings
import Derived.Lib.Walk
import Derived.LoopIn
import Derived.LoopNIn
import Derived.Maps.AppendAt
import Derived.OrdersHeld
import Derived.OwnWalkIn
import Derived.RangeFuncBound
import Derived.RangeFuncCalls
import Derived.RangeFuncLeaves
import Derived.RangeFuncNested
import Derived.RowKit
import Derived.Scope
import Derived.Shelf.Abstract
import Derived.Shelf.RegionOpen
import Derived.Shelf.Spec.BitsCarry
import Derived.TacticsInMore
import Derived.Test.YtbpcfhhcoklinaaGreatProg
import Derived.WalkKit
import Derived.Test.YtbpcfhhcoklinaaGreatCVecInto10
import Derived.Test.YtbpcfhhcoklinaaGreatCVecInto15
import Derived.Test.YtbpcfhhcoklinaaGreatCVecInto16
noncomputable section
set_option linter.unusedVariables false
set_option maxRecDepth 100000
noncomputable section
namespace Go.Proofs.YtbpcfhhcoklinaaGreat.Fn
open Go Go.RowKit Go.Proofs.YtbpcfhhcoklinaaGreat.Ab
def S26:RSig:=⟨some ⟨[.int .i64,.bool,.int .i64],some (.u64,16)⟩,100,false,false,[.s,.s],[(.rd .u64),(.rd .u64)],none,0,false,[.s],[.err],true⟩
def E26 (gg:Nat):En:=enR Tryz.prog 76 Tryz.f26.ntmps [67] S26 gg
def vec_Into.l0 (k:Nat):(Int×Bool×Int×List Int)→List (Int×Int)→Option ((Int×Bool×Int×List Int)×Unit×Option Int)
  | c,[]=>some (c,(),none)
  | c,(p,q) :: l=>(accum_Acc_Put.f k c.1 c.2.1 c.2.2.1 c.2.2.2 p q).bind fun t=>match t.2.2 with
    | none=>vec_Into.l0 k t.1 l
    | some e=>some (t.1,(),some e)
def vec_Into.f (k:Nat) (c0:Int) (c1:Bool) (c2:Int) (c3:List Int) (l1:List Int) (l2:List Int):Option ((Int×Bool×Int×List Int)×Unit×Option Int):=
  if l1.length=l2.length then (accum_Acc_State.f c0 c1 c2 c3).bind fun t=>if (l1.length:Int) > wrap64 (2147483647 - t.2.2.2.2.1) then some ((c0,c1,c2,c3),(),some 11) else vec_Into.l0 k (c0,c1,c2,c3) (l1.zip l2) else some ((c0,c1,c2,c3),(),some 15)
--@ok
def vec_Into.c (k:Nat):RCon:=S26.con fun x y=>vec_Into.f k x.1 x.2.1 x.2.2.1 x.2.2.2 y.1 y.2
def vec_Into.put (k:Nat) (c:Int×Bool×Int×List Int) (p q:Int):Option ((Int×Bool×Int×List Int)×Option Int):=(accum_Acc_Put.f k c.1 c.2.1 c.2.2.1 c.2.2.2 p q).map fun t=>(t.1,t.2.2)
theorem vec_Into.runs (k:Nat):∀ (l:List (Int×Int)) (c:Int×Bool×Int×List Int) (r:(Int×Bool×Int×List Int)×Unit×Option Int),vec_Into.l0 k c l=some r→Rng.runL (vec_Into.put k) c l=some (r.1,r.2.2)
  | [],c,r,h=>by
    simp only [vec_Into.l0] at h
    injection h with h
    subst h
    rfl
  | (p,q) :: l,c,r,h=>by
    simp only [vec_Into.l0] at h
    cases hp:accum_Acc_Put.f k c.1 c.2.1 c.2.2.1 c.2.2.2 p q with
    | none=>rw [hp] at h;cases h
    | some t =>
      rw [hp] at h
      simp only [Option.bind_some] at h
      have e1:vec_Into.put k c p q=some (t.1,t.2.2):=by unfold vec_Into.put;rw [hp];rfl
      simp only [Rng.runL,e1]
      cases ht:t.2.2 with
      | none =>
        simp only [ht] at h
        exact vec_Into.runs k l _ _ h
      | some e =>
        simp only [ht] at h
        injection h with h
        subst h
        rfl
theorem vec_Into.move {eT g t:Nat} {W W':World} {ok ok':Nat→Prop} {x:LT [.int .i64,.bool,.int .i64] (some (.u64,16))} (he:W'.heap[g]? = W.heap[g]?) (h:BlkIs (C0 eT W ok) g t [.int .i64,.bool,.int .i64] (some (.u64,16)) x):BlkIs (C0 eT W' ok') g t [.int .i64,.bool,.int .i64] (some (.u64,16)) x:=by
  obtain ⟨h1,us,ls,h2,h3,h4⟩:=h
  have h2':W'.heap[g]? = some (.cells (us++ls).toArray t (0,0)):=he.trans h2
  have hs:=(Array.getElem?_eq_some_iff.1 h2').1
  match us,h3,h2' with
  | [u0,u1,u2],h3,h2'=>exact ⟨hs,[u0,u1,u2],ls,h2',⟨h3.1,h3.2.1,h3.2.2.1,trivial⟩,h4⟩
  | [],h3,_=>exact h3.elim
  | [_],h3,_=>exact h3.2.elim
  | [_,_],h3,_=>exact h3.2.2.elim
  | _ :: _ :: _ :: _ :: _,h3,_=>exact h3.2.2.2.elim
theorem vec_Into.ok (k:Nat):FnOkR Tryz.prog (E26 0).eT 26 (vec_Into.c k):=by
  intro x y r w ok g v0s vs hF hrg hrcv hv
  obtain ⟨c0,c1,c2,c3⟩:=x
  obtain ⟨a,b⟩:=y
  obtain ⟨hblk,rfl⟩:=hrcv
  obtain ⟨l⟩:=vs
  match l,hv with
  | [va,vb],hv =>
    obtain ⟨⟨A,ca,rfl,ha1,ha2,ha3⟩,⟨B,cb,rfl,hb1,hb2,hb3⟩, -⟩:=hv
    have hok:¬ ok g:=hrg rfl
    have hF':vec_Into.f k c0 c1 c2 c3 a b=some r:=hF
    have hst : ∀ t, accum_Acc_State.f c0 c1 c2 c3 = some t → ∀ W, BlkIs (C0 (E26 0).eT W ok) g S26.rT [.int .i64, .bool, .int .i64] (some (.u64, 16)) ((c0, c1, c2, c3) : Int × Bool × Int × List Int) →
        Calls Tryz.prog 28 #[.pointer (some ⟨g,0,none⟩)] W fun e W'=>(∃ v0 v1 v3,e = .returned (.agg #[v0,v1,.int .i64 t.2.2.2.2.1,v3]))∧Bw [] W W':=by
      intro t ht W hW
      have h:=accum_Acc_State.ok (c0,c1,c2,c3) () t W (fun _=>False) g [.pointer (some ⟨g,0,none⟩)] #[] ht (fun _ h=>h) ⟨vec_Into.move rfl hW,rfl⟩ trivial
      refine (Rng.Calls.of_ok (enters_of Tryz.func28 (by kernel_rfl) rfl) h).mono ?_
      rintro e W' ⟨v,rfl,q,us,ovs,⟨hq,ho⟩,hu,ht2, -,hbw⟩
      subst ho
      obtain ⟨t0,t1,n,nr,tt,wl⟩:=t
      match us,hu with
      | [u],hu =>
        obtain ⟨⟨ls,rfl,hl⟩, -⟩:=hu
        obtain ⟨ls⟩:=ls
        match ls,hl with
        | [u0,u1,u2,u3],hl =>
          obtain ⟨-, -,⟨rfl, -⟩, -, -⟩:=hl
          have hv:v = .agg #[u0,u1,.int .i64 tt,u3]:=by injection ht2 with ht2;exact ht2.symm
          subst hv
          exact ⟨⟨u0,u1,u3,rfl⟩,hbw⟩
    have hput : ∀ (x : Int × Bool × Int × List Int) (p q : Int) (y : Int × Bool × Int × List Int) (e : Option Int) (W : World), inK .u64 p → inK .u64 q → vec_Into.put k x p q = some (y, e) → BlkIs (C0 (E26 0).eT W ok) g S26.rT [.int .i64, .bool, .int .i64] (some (.u64, 16)) x →
        Calls Tryz.prog 67 #[.pointer (some ⟨g,0,none⟩),.int .u64 p,.int .u64 q] W fun e' W'=>e' = .returned (errV 76 e)∧Rng.Ek e∧BlkIs (C0 (E26 0).eT W' ok) g S26.rT [.int .i64,.bool,.int .i64] (some (.u64,16)) y∧Bw [g] W W':=by
      intro x p q y e W hp hq hpe hW
      unfold vec_Into.put at hpe
      cases ht:accum_Acc_Put.f k x.1 x.2.1 x.2.2.1 x.2.2.2 p q with
      | none=>rw [ht] at hpe;cases hpe
      | some t =>
        rw [ht] at hpe
        injection hpe with hpe
        injection hpe with h1 h2
        subst h1 h2
        have h:=accum_Acc_Put.ok k x (p,q) t W (fun _=>False) g [.pointer (some ⟨g,0,none⟩)] #[.int .u64 p,.int .u64 q] ht (fun _ h=>h) ⟨vec_Into.move rfl hW,rfl⟩ ⟨⟨rfl,hp,by simp,by simp⟩,⟨rfl,hq,by simp,by simp⟩,trivial⟩
        refine (Rng.Calls.of_ok (enters_of Tryz.func67 (by kernel_rfl) rfl) h).mono ?_
        rintro e W' ⟨v,rfl,q,us,ovs,⟨hq,ho⟩,hu,ht2,hc,hbw⟩
        subst ho
        obtain ⟨t0,t1,e⟩:=t
        match us,hu with
        | [u],hu =>
          obtain ⟨⟨rfl,hek⟩, -⟩:=hu
          have hv:v=errV 76 e:=by injection ht2 with ht2;exact ht2.symm
          subst hv
          exact ⟨rfl,hek,vec_Into.move rfl hc,hbw⟩
    have main : ∀ (tm : Int), (a.length = b.length → ∀ W, BlkIs (C0 (E26 0).eT W ok) g S26.rT [.int .i64, .bool, .int .i64] (some (.u64, 16)) ((c0, c1, c2, c3) : Int × Bool × Int × List Int) → Calls Tryz.prog 28 #[.pointer (some ⟨g, 0, none⟩)] W fun e W' => (∃ v0 v1 v3, e = .returned (.agg #[v0, v1, .int .i64 tm, v3])) ∧ Bw [] W W') →
        Rng.intoR tm (vec_Into.put k) (c0,c1,c2,c3) a b=some (r.1,r.2.2) →
        CallOk Tryz.prog 26 ([Value.pointer (some ⟨g,0,none⟩)].toArray ++ #[.slice A a.length ca,.slice B b.length cb]) w fun v w'=>∃ (q:Option Nat) (us ovs:List Value),OwIs (C0 (E26 0).eT w' fun p=>okRes true w ok p∧q≠some p) w.heap.size q 0 none r.2.1 ovs ∧
          V1s (C0 (E26 0).eT w' fun p=>okRes true w ok p∧q≠some p) (group [.s] (TT.mk [.err] r.2.2)) us∧tupIs false (ovs++us) v∧BlkIs (C0 (E26 0).eT w' fun p=>okRes true w ok p∧q≠some p) g S26.rT [.int .i64,.bool,.int .i64] (some (.u64,16)) r.1∧Bw [g] w w':=by
      intro tm hs hr
      refine .inl ⟨enters_of Tryz.func26 (by kernel_rfl) rfl _ _, ?_⟩
      refine (Rng.into_calls (fun x W=>BlkIs (C0 (E26 0).eT W ok) g S26.rT [.int .i64,.bool,.int .i64] (some (.u64,16)) x) g (fun x W W' he h=>vec_Into.move he h) ?_ tm (c0,c1,c2,c3) a b hs (vec_Into.put k) hput A B ca cb w ok hok ha2.1 hb2.1 ha3 hb3 ha2.2 hb2.2 hblk r.1 r.2.2 hr).mono ?_
      · rintro x W ⟨h1,us,ls,h2, -, -⟩
        refine ⟨h1,fun o ho=>?_⟩
        have h3:=ho.symm.trans h2
        injection h3 with h3
        rw [h3]
        rfl
      · rintro e' W' ⟨rfl,hek,h1,h2⟩
        exact ⟨_,rfl,none,[errV 76 r.2.2],[],⟨rfl,rfl⟩,⟨⟨rfl,hek⟩,trivial⟩,rfl,vec_Into.move rfl h1,h2⟩
    unfold vec_Into.f at hF'
    by_cases hl:a.length=b.length
    · rw [if_pos hl] at hF'
      cases ht:accum_Acc_State.f c0 c1 c2 c3 with
      | none=>rw [ht] at hF';cases hF'
      | some t =>
        rw [ht] at hF'
        simp only [Option.bind_some] at hF'
        refine main t.2.2.2.2.1 (fun _=>hst t ht) ?_
        unfold Rng.intoR
        rw [if_pos hl]
        by_cases hf:(a.length:Int) > wrap64 (2147483647 - t.2.2.2.2.1)
        · rw [if_pos hf] at hF' ⊢
          injection hF' with hF'
          subst hF'
          rfl
        · rw [if_neg hf] at hF' ⊢
          exact vec_Into.runs k _ _ _ hF'
    · rw [if_neg hl] at hF'
      injection hF' with hF'
      subst hF'
      refine main 0 (fun h=>absurd h hl) ?_
      unfold Rng.intoR
      rw [if_neg hl]
      rfl
  | [],hv=>exact hv.elim
  | [_],hv=>exact hv.2.elim
  | _ :: _ :: _ :: _,hv=>exact hv.2.2.elim
def S74:RSig:=⟨some ⟨[.int .i64,.bool,.int .i64],some (.u64,16)⟩,100,false,true,[],[],none,0,false,[.s],[.bool],false⟩
def E74 (gg:Nat):En:=enR Tryz.prog 76 Tryz.f74.ntmps [] S74 gg
def B74:Go.Code:=Tryz.f74.body.get!
def accum_Acc_negative.f (c0:Int) (c1:Bool) (c2:Int) (c3:List Int):Option (Unit×Unit×(Bool)):=(accum_Acc_size.f c0 c1 c2 c3).bind fun t100=>(if 0≤(wrap64 (t100.2.2 - 1)) then (if (wrap64 (t100.2.2 - 1)) < 16 then (some ((),(),((rd c3 (wrap64 (t100.2.2 - 1))) / 9223372036854775808)==1)) else (none)) else (none))
--@ok
def accum_Acc_negative.c:RCon:=S74.con fun x y=>accum_Acc_negative.f x.1 x.2.1 x.2.2.1 x.2.2.2
def accum_Acc_negative.G (k:Nat):List (Go.FuncId×Cn):=[(60,.r accum_Acc_size.c)]
def accum_Acc_negative.cuts:List (Cut (RSig.R S74)):=[]
theorem accum_Acc_negative.w (gg:Nat) (k:Nat) (x:RcT S74.rL S74.win) (y:TT S74.sa):walk (E74 gg) (accum_Acc_negative.G k) (cutsAt (E74 gg) k accum_Acc_negative.cuts) (retR (E74 gg) Tryz.f74.results.toList S74) 4000 true [([],.code B74)] (St0R S74 x y)=accum_Acc_negative.f x.1 x.2.1 x.2.2.1 x.2.2.2:=by kernel_rfl
theorem accum_Acc_negative.ok:FnOkR Tryz.prog (E74 0).eT 74 (accum_Acc_negative.c):=FnOkR.walk (P:=(E74 0).P) (eT:=(E74 0).eT) (N:=(E74 0).N) (wf:=(E74 0).wf) (body:=B74) Tryz.func74 rfl (by rfl) Tryz.ntmps74 S74 (by rfl) (fun k x y=>accum_Acc_negative.f x.1 x.2.1 x.2.2.1 x.2.2.2) accum_Acc_negative.G (fun k=>⟨accum_Acc_size.ok,trivial⟩) 4000 accum_Acc_negative.cuts (fun gg=>trivial) (fun gg k x y r h=>(accum_Acc_negative.w gg k x y).trans h) 0
def S100112:RSig:=⟨some ⟨[],some (.u64,16)⟩,98,true,false,[],[],none,0,true,[],[],true⟩
def E100112 (gg:Nat):En:=enR Tryz.prog 76 Tryz.f112.ntmps [] S100112 gg
def B100112:Go.Code:=Tryz.f112.body.get!
def accum_turn_arr.l0:Nat→Int→Int→List Int→Int→Int→Int→Option ((List Int)×Unit×(Unit))
 | 0,_,_,_,_,_,_=>none
 | k+1,x0,x5,yl,x2,x6,x7=>if x7 < x6 then (if 0≤x7 then (if x7 < ((x5,yl).1) then ((bits_Add64.f (Go.bits .xor .u64 18446744073709551615 (rd ((x5,yl).2) x7)) 0 x2).bind fun t100=>(if x7 < x0 then (accum_turn_arr.l0 k x0 ((x5,yl).1) (((x5,yl).2).set ((x7:Int).toNat) t100.1) t100.2 x6 (wrap64 (x7+1))) else (none))) else (none)) else (none)) else (some ((x5,yl).2,(),()))
def accum_turn_arr.f (k:Nat) (w:Int) (c0:List Int):Option ((List Int)×Unit×(Unit)):=accum_turn_arr.l0 k w w c0 1 w 0
--@ok
def accum_turn_arr.l0R (k:Nat) (x0:Int) (x5:Int) (yl:List Int) (x2:Int) (x6:Int) (x7:Int):Option ((List Int)×Unit×(Unit)):=if x7 < x6 then (if 0≤x7 then (if x7 < ((x5,yl).1) then ((bits_Add64.f (Go.bits .xor .u64 18446744073709551615 (rd ((x5,yl).2) x7)) 0 x2).bind fun t100=>(if 0≤x7 then (if x7 < x0 then (accum_turn_arr.l0 k x0 ((x5,yl).1) (((x5,yl).2).set ((x7:Int).toNat) t100.1) t100.2 x6 (wrap64 (x7+1))) else (none)) else (none))) else (none)) else (none)) else (some ((x5,yl).2,(),()))
theorem accum_turn_arr.l0E (k:Nat) (x0:Int) (x5:Int) (yl:List Int) (x2:Int) (x6:Int) (x7:Int):accum_turn_arr.l0R k x0 x5 yl x2 x6 x7=accum_turn_arr.l0 (k+1) x0 x5 yl x2 x6 x7:=by
  unfold accum_turn_arr.l0R
  rw [accum_turn_arr.l0]
  exact iteC (fun h0=>iteC (fun h1=>iteC (fun h2=>bindC fun _=>(if_pos h1).trans (iteC (fun h3=>rfl) (fun h3=>rfl))) (fun h2=>rfl)) (fun h1=>rfl)) (fun h0=>rfl)
def accum_turn_arr.c (k:Nat):RCon:=S100112.con fun x y=>accum_turn_arr.f k x.1 x.2
def accum_turn_arr.G (k:Nat):List (Go.FuncId×Cn):=[(153,.f bits_Add64.c)]
def accum_turn_arr.cuts:List (Cut (RSig.R S100112)):=[⟨[6,4,1,1],[.mbw (none) 98 [] .u64 16 [0,5],.sc 2 (.int .u64),.sc 6 (.int .i64),.sc 7 (.int .i64)],fun k x=>accum_turn_arr.l0 k x.1.1 x.1.2.1 x.1.2.2 x.2.1 x.2.2.1 x.2.2.2⟩]
theorem accum_turn_arr.w0 (gg:Nat) (k:Nat) (x:ET [.mbw (none) 98 [] .u64 16 [0,5],.sc 2 (.int .u64),.sc 6 (.int .i64),.sc 7 (.int .i64)]):walk (E100112 gg) (accum_turn_arr.G k) (cutsAt (E100112 gg) k accum_turn_arr.cuts) (retR (E100112 gg) Tryz.f112.results.toList S100112) 4000 true (stackAt B100112 [6,4,1,1]) (mkE [.mbw (none) 98 [] .u64 16 [0,5],.sc 2 (.int .u64),.sc 6 (.int .i64),.sc 7 (.int .i64)] x St.nil)=accum_turn_arr.l0 (k+1) x.1.1 x.1.2.1 x.1.2.2 x.2.1 x.2.2.1 x.2.2.2:=Eq.trans (b:=accum_turn_arr.l0R k x.1.1 x.1.2.1 x.1.2.2 x.2.1 x.2.2.1 x.2.2.2) (by kernel_rfl) (accum_turn_arr.l0E k x.1.1 x.1.2.1 x.1.2.2 x.2.1 x.2.2.1 x.2.2.2)
theorem accum_turn_arr.w (gg:Nat) (k:Nat) (x:RcT S100112.rL S100112.win) (y:TT S100112.sa):walk (E100112 gg) (accum_turn_arr.G k) (cutsAt (E100112 gg) k accum_turn_arr.cuts) (retR (E100112 gg) Tryz.f112.results.toList S100112) 4000 true [([],.code B100112)] (St0R S100112 x y)=accum_turn_arr.f k x.1 x.2:=by kernel_rfl
theorem accum_turn_arr.ok (k:Nat):FnOkR Tryz.prog (E100112 0).eT 112 (accum_turn_arr.c k):=FnOkR.walk (P:=(E100112 0).P) (eT:=(E100112 0).eT) (N:=(E100112 0).N) (wf:=(E100112 0).wf) (body:=B100112) Tryz.func112 rfl (by rfl) Tryz.ntmps112 S100112 (by rfl) (fun k x y=>accum_turn_arr.f k x.1 x.2) accum_turn_arr.G (fun k=>⟨bits_Add64.ok,trivial⟩) 4000 accum_turn_arr.cuts (fun gg=>⟨⟨fun _=>rfl,fun k x q h=>(accum_turn_arr.w0 gg k x).trans h⟩,trivial⟩) (fun gg k x y r h=>(accum_turn_arr.w gg k x y).trans h) k
def S71:RSig:=⟨some ⟨[.int .i64,.bool,.int .i64],some (.u64,16)⟩,100,false,true,[],[],some (.arr .u64 16),0,false,[],[],true⟩
def E71 (gg:Nat):En:=enR Tryz.prog 76 Tryz.f71.ntmps [112] S71 gg
def B71:Go.Code:=Tryz.f71.body.get!
def accum_Acc_magnitude.f (k:Nat) (c0:Int) (c1:Bool) (c2:Int) (c3:List Int):Option (Unit×List Int×(Unit)):=(accum_Acc_negative.f c0 c1 c2 c3).bind fun t100=>(if t100.2.2=true then ((accum_Acc_size.f c0 c1 c2 c3).bind fun t101=>(if 0≤t101.2.2 then (if t101.2.2≤16 then ((accum_turn_arr.f k t101.2.2 c3).bind fun t102=>(some ((),t102.1,()))) else (none)) else (none))) else (some ((),c3,())))
--@ok
def accum_Acc_magnitude.c (k:Nat):RCon:=S71.con fun x y=>accum_Acc_magnitude.f k x.1 x.2.1 x.2.2.1 x.2.2.2
def accum_Acc_magnitude.G (k:Nat):List (Go.FuncId×Cn):=[(60,.r accum_Acc_size.c),(74,.r accum_Acc_negative.c),(112,.r (accum_turn_arr.c k))]
def accum_Acc_magnitude.cuts:List (Cut (RSig.R S71)):=[]
theorem accum_Acc_magnitude.w (gg:Nat) (k:Nat) (x:RcT S71.rL S71.win) (y:TT S71.sa):walk (E71 gg) (accum_Acc_magnitude.G k) (cutsAt (E71 gg) k accum_Acc_magnitude.cuts) (retR (E71 gg) Tryz.f71.results.toList S71) 4000 true [([],.code B71)] (St0R S71 x y)=accum_Acc_magnitude.f k x.1 x.2.1 x.2.2.1 x.2.2.2:=by kernel_rfl
theorem accum_Acc_magnitude.ok (k:Nat):FnOkR Tryz.prog (E71 0).eT 71 (accum_Acc_magnitude.c k):=FnOkR.walk (P:=(E71 0).P) (eT:=(E71 0).eT) (N:=(E71 0).N) (wf:=(E71 0).wf) (body:=B71) Tryz.func71 rfl (by rfl) Tryz.ntmps71 S71 (by rfl) (fun k x y=>accum_Acc_magnitude.f k x.1 x.2.1 x.2.2.1 x.2.2.2) accum_Acc_magnitude.G (fun k=>⟨accum_Acc_size.ok,accum_Acc_negative.ok,accum_turn_arr.ok k,trivial⟩) 4000 accum_Acc_magnitude.cuts (fun gg=>trivial) (fun gg k x y r h=>(accum_Acc_magnitude.w gg k x y).trans h) k
def S31:RSig:=⟨some ⟨[.int .i64,.bool,.int .i64],some (.u64,16)⟩,100,false,true,[],[],none,0,false,[.s],[(.int .u64)],false⟩
def E31 (gg:Nat):En:=enR Tryz.prog 76 Tryz.f31.ntmps [] S31 gg
def B31:Go.Code:=Tryz.f31.body.get!
mutual
def accum_Acc_Round.l0:Nat→Int→Bool→Int→List Int→Int→List Int→Option (Unit×Unit×(Int))
 | 0,_,_,_,_,_,_=>none
 | k+1,y0,y1,y2,yl,x4,x3900=>if x4 > 0 then (if 0≤x4 then (if x4 < 16 then (if (rd x3900 x4)=0 then (accum_Acc_Round.l0 k y0 ((y1,y2).1) ((y1,y2).2) yl (wrap64 (x4 - 1)) x3900) else (accum_Acc_Round.j1 k y0 ((y1,y2).1) ((y1,y2).2) yl x4 x3900)) else (none)) else (none)) else (accum_Acc_Round.j1 k y0 ((y1,y2).1) ((y1,y2).2) yl x4 x3900)
def accum_Acc_Round.j1:Nat→Int→Bool→Int→List Int→Int→List Int→Option (Unit×Unit×(Int))
 | 0,_,_,_,_,_,_=>none
 | k+1,y0,y1,y2,yl,x4,x3900=>if x4≥0 then (if 0≤(wrap64 (x4 - 0)) then (if (wrap64 (x4 - 0)) < 16 then (if x4≥1 then (if 0≤(wrap64 (x4 - 1)) then (if (wrap64 (x4 - 1)) < 16 then (if x4≥2 then (if 0≤(wrap64 (x4 - 2)) then (if (wrap64 (x4 - 2)) < 16 then (accum_Acc_Round.j2 k y0 ((y1,y2).1) ((y1,y2).2) yl x4 x3900 (rd x3900 (wrap64 (x4 - 0))) (rd x3900 (wrap64 (x4 - 1))) (rd x3900 (wrap64 (x4 - 2)))) else (none)) else (none)) else (accum_Acc_Round.j2 k y0 ((y1,y2).1) ((y1,y2).2) yl x4 x3900 (rd x3900 (wrap64 (x4 - 0))) (rd x3900 (wrap64 (x4 - 1))) 0)) else (none)) else (none)) else (if x4≥2 then (if 0≤(wrap64 (x4 - 2)) then (if (wrap64 (x4 - 2)) < 16 then (accum_Acc_Round.j2 k y0 ((y1,y2).1) ((y1,y2).2) yl x4 x3900 (rd x3900 (wrap64 (x4 - 0))) 0 (rd x3900 (wrap64 (x4 - 2)))) else (none)) else (none)) else (accum_Acc_Round.j2 k y0 ((y1,y2).1) ((y1,y2).2) yl x4 x3900 (rd x3900 (wrap64 (x4 - 0))) 0 0))) else (none)) else (none)) else (if x4≥1 then (if 0≤(wrap64 (x4 - 1)) then (if (wrap64 (x4 - 1)) < 16 then (if x4≥2 then (if 0≤(wrap64 (x4 - 2)) then (if (wrap64 (x4 - 2)) < 16 then (accum_Acc_Round.j2 k y0 ((y1,y2).1) ((y1,y2).2) yl x4 x3900 0 (rd x3900 (wrap64 (x4 - 1))) (rd x3900 (wrap64 (x4 - 2)))) else (none)) else (none)) else (accum_Acc_Round.j2 k y0 ((y1,y2).1) ((y1,y2).2) yl x4 x3900 0 (rd x3900 (wrap64 (x4 - 1))) 0)) else (none)) else (none)) else (if x4≥2 then (if 0≤(wrap64 (x4 - 2)) then (if (wrap64 (x4 - 2)) < 16 then (accum_Acc_Round.j2 k y0 ((y1,y2).1) ((y1,y2).2) yl x4 x3900 0 0 (rd x3900 (wrap64 (x4 - 2)))) else (none)) else (none)) else (accum_Acc_Round.j2 k y0 ((y1,y2).1) ((y1,y2).2) yl x4 x3900 0 0 0)))
def accum_Acc_Round.j2:Nat→Int→Bool→Int→List Int→Int→List Int→Int→Int→Int→Option (Unit×Unit×(Int))
 | 0,_,_,_,_,_,_,_,_,_=>none
 | k+1,y0,y1,y2,yl,x4,x3900,x5000,x5001,x5002=>(bits_LeadingZeros64.f x5000).bind fun t102=>(if 0≤(Int.tmod t102 64) then (if 0≤(wrap64 (63 - (Int.tmod t102 64))) then (accum_Acc_Round.l1 k y0 ((y1,y2).1) ((y1,y2).2) yl x4 (Int.tmod t102 64) (Go.bits .or .u64 (shl .u64 x5000 (Int.tmod t102 64)) (shr .u64 (x5001 / 2) (wrap64 (63 - (Int.tmod t102 64))))) (Go.bits .or .u64 (shl .u64 x5001 (Int.tmod t102 64)) (shr .u64 (x5002 / 2) (wrap64 (63 - (Int.tmod t102 64))))) ((shl .u64 x5002 (Int.tmod t102 64)) != 0) 0 x3900) else (none)) else (none))
def accum_Acc_Round.l1:Nat→Int→Bool→Int→List Int→Int→Int→Int→Int→Bool→Int→List Int→Option (Unit×Unit×(Int))
 | 0,_,_,_,_,_,_,_,_,_,_,_=>none
 | k+1,y0,y1,y2,yl,x4,x7,x8,x9,x10,x11,x3900=>if x11 < (wrap64 (x4 - 2)) then (if x10=true then (accum_Acc_Round.l1 k y0 ((y1,y2).1) ((y1,y2).2) yl x4 x7 x8 x9 true (wrap64 (x11+1)) x3900) else (if 0≤x11 then (if x11 < 16 then (accum_Acc_Round.l1 k y0 ((y1,y2).1) ((y1,y2).2) yl x4 x7 x8 x9 ((rd x3900 x11) != 0) (wrap64 (x11+1)) x3900) else (none)) else (none))) else ((accum_Acc_negative.f y0 ((y1,y2).1) ((y1,y2).2) yl).bind fun t103=>((round_Make.f k t103.2.2 x8 x9 (wrap64 ((wrap64 ((wrap64 ((wrap64 (64*(wrap64 (x4 - 1)))) - x7))+16)) - (wrap64 (8*y0)))) x10).bind fun t104=>(if t104.2.2.2.2.2.2.isNone=true then ((round_Round.f k y0 t104.1 t104.2.1 t104.2.2.1 t104.2.2.2.1 t104.2.2.2.2.1 t104.2.2.2.2.2.1).bind fun t105=>(if t105.2.isNone=true then (some ((),(),t105.1)) else (some ((),(),0)))) else (some ((),(),0)))))
end
def accum_Acc_Round.f (k:Nat) (c0:Int) (c1:Bool) (c2:Int) (c3:List Int):Option (Unit×Unit×(Int)):=if c1=true then (if 0≤(wrap64 (c0 - 1)) then (some ((),(),shl .u64 1 (wrap64 (c0 - 1)))) else (none)) else ((accum_Acc_magnitude.f k c0 c1 c2 c3).bind fun t100=>((accum_Acc_size.f c0 c1 c2 c3).bind fun t101=>(accum_Acc_Round.l0 k c0 c1 c2 c3 (wrap64 (t101.2.2 - 1)) t100.2.1)))
--@ok
def accum_Acc_Round.j2R (k:Nat) (y0:Int) (y1:Bool) (y2:Int) (yl:List Int) (x4:Int) (x3900:List Int) (x5000:Int) (x5001:Int) (x5002:Int):Option (Unit×Unit×(Int)):=(bits_LeadingZeros64.f x5000).bind fun t102=>(if 0≤(Int.tmod t102 64) then (if 0≤(wrap64 (63 - (Int.tmod t102 64))) then (if 0≤(Int.tmod t102 64) then (if 0≤(wrap64 (63 - (Int.tmod t102 64))) then (if 0≤(Int.tmod t102 64) then (accum_Acc_Round.l1 k y0 ((y1,y2).1) ((y1,y2).2) yl x4 (Int.tmod t102 64) (Go.bits .or .u64 (shl .u64 x5000 (Int.tmod t102 64)) (shr .u64 (x5001 / 2) (wrap64 (63 - (Int.tmod t102 64))))) (Go.bits .or .u64 (shl .u64 x5001 (Int.tmod t102 64)) (shr .u64 (x5002 / 2) (wrap64 (63 - (Int.tmod t102 64))))) ((shl .u64 x5002 (Int.tmod t102 64)) != 0) 0 x3900) else (none)) else (none)) else (none)) else (none)) else (none))
theorem accum_Acc_Round.j2E (k:Nat) (y0:Int) (y1:Bool) (y2:Int) (yl:List Int) (x4:Int) (x3900:List Int) (x5000:Int) (x5001:Int) (x5002:Int):accum_Acc_Round.j2R k y0 y1 y2 yl x4 x3900 x5000 x5001 x5002=accum_Acc_Round.j2 (k+1) y0 y1 y2 yl x4 x3900 x5000 x5001 x5002:=by
  unfold accum_Acc_Round.j2R
  rw [accum_Acc_Round.j2]
  exact bindC fun _=>iteC (fun h0=>iteC (fun h1=>(if_pos h0).trans ((if_pos h1).trans ((if_pos h0).trans (rfl)))) (fun h1=>rfl)) (fun h0=>rfl)
def accum_Acc_Round.c (k:Nat):RCon:=S31.con fun x y=>accum_Acc_Round.f k x.1 x.2.1 x.2.2.1 x.2.2.2
def accum_Acc_Round.G (k:Nat):List (Go.FuncId×Cn):=[(60,.r accum_Acc_size.c),(71,.r (accum_Acc_magnitude.c k)),(72,.f bits_LeadingZeros64.c),(73,.f (round_Make.c k)),(74,.r accum_Acc_negative.c),(75,.f (round_Round.c k))]
def accum_Acc_Round.cuts:List (Cut (RSig.R S31)):=[⟨[6,4,0,1,1,1,1],[.mbw (some 0) 100 [.int .i64,.bool,.int .i64] .u64 16 [],.sc 4 (.int .i64),.mbw (some 3) 98 [] .u64 16 []],fun k x=>accum_Acc_Round.l0 k x.1.1 x.1.2.1 x.1.2.2.1 x.1.2.2.2 x.2.1 x.2.2⟩,⟨[1,1,1,1,1],[.mbw (some 0) 100 [.int .i64,.bool,.int .i64] .u64 16 [],.sc 4 (.int .i64),.mbw (some 3) 98 [] .u64 16 []],fun k x=>accum_Acc_Round.j1 k x.1.1 x.1.2.1 x.1.2.2.1 x.1.2.2.2 x.2.1 x.2.2⟩,⟨[1,1,1,1,1,1,1],[.mbw (some 0) 100 [.int .i64,.bool,.int .i64] .u64 16 [],.sc 4 (.int .i64),.mbw (some 3) 98 [] .u64 16 [],.box 5 116 [.int .u64,.int .u64,.int .u64]],fun k x=>accum_Acc_Round.j2 k x.1.1 x.1.2.1 x.1.2.2.1 x.1.2.2.2 x.2.1 x.2.2.1 x.2.2.2.1 x.2.2.2.2.1 x.2.2.2.2.2⟩,⟨[6,4,1,0,1,1,1,1,1,1,1,1,1,1,1],[.mbw (some 0) 100 [.int .i64,.bool,.int .i64] .u64 16 [],.sc 4 (.int .i64),.sc 7 (.int .i64),.sc 8 (.int .u64),.sc 9 (.int .u64),.sc 10 (.bool),.sc 11 (.int .i64),.mbw (some 3) 98 [] .u64 16 []],fun k x=>accum_Acc_Round.l1 k x.1.1 x.1.2.1 x.1.2.2.1 x.1.2.2.2 x.2.1 x.2.2.1 x.2.2.2.1 x.2.2.2.2.1 x.2.2.2.2.2.1 x.2.2.2.2.2.2.1 x.2.2.2.2.2.2.2⟩]
theorem accum_Acc_Round.w0 (gg:Nat) (k:Nat) (x:ET [.mbw (some 0) 100 [.int .i64,.bool,.int .i64] .u64 16 [],.sc 4 (.int .i64),.mbw (some 3) 98 [] .u64 16 []]):walk (E31 gg) (accum_Acc_Round.G k) (cutsAt (E31 gg) k accum_Acc_Round.cuts) (retR (E31 gg) Tryz.f31.results.toList S31) 4000 true (stackAt B31 [6,4,0,1,1,1,1]) (mkE [.mbw (some 0) 100 [.int .i64,.bool,.int .i64] .u64 16 [],.sc 4 (.int .i64),.mbw (some 3) 98 [] .u64 16 []] x St.nil)=accum_Acc_Round.l0 (k+1) x.1.1 x.1.2.1 x.1.2.2.1 x.1.2.2.2 x.2.1 x.2.2:=by kernel_rfl
theorem accum_Acc_Round.w1 (gg:Nat) (k:Nat) (x:ET [.mbw (some 0) 100 [.int .i64,.bool,.int .i64] .u64 16 [],.sc 4 (.int .i64),.mbw (some 3) 98 [] .u64 16 []]):walk (E31 gg) (accum_Acc_Round.G k) (cutsAt (E31 gg) k accum_Acc_Round.cuts) (retR (E31 gg) Tryz.f31.results.toList S31) 4000 true (stackAt B31 [1,1,1,1,1]) (mkE [.mbw (some 0) 100 [.int .i64,.bool,.int .i64] .u64 16 [],.sc 4 (.int .i64),.mbw (some 3) 98 [] .u64 16 []] x St.nil)=accum_Acc_Round.j1 (k+1) x.1.1 x.1.2.1 x.1.2.2.1 x.1.2.2.2 x.2.1 x.2.2:=by kernel_rfl
theorem accum_Acc_Round.w2 (gg:Nat) (k:Nat) (x:ET [.mbw (some 0) 100 [.int .i64,.bool,.int .i64] .u64 16 [],.sc 4 (.int .i64),.mbw (some 3) 98 [] .u64 16 [],.box 5 116 [.int .u64,.int .u64,.int .u64]]):walk (E31 gg) (accum_Acc_Round.G k) (cutsAt (E31 gg) k accum_Acc_Round.cuts) (retR (E31 gg) Tryz.f31.results.toList S31) 4000 true (stackAt B31 [1,1,1,1,1,1,1]) (mkE [.mbw (some 0) 100 [.int .i64,.bool,.int .i64] .u64 16 [],.sc 4 (.int .i64),.mbw (some 3) 98 [] .u64 16 [],.box 5 116 [.int .u64,.int .u64,.int .u64]] x St.nil)=accum_Acc_Round.j2 (k+1) x.1.1 x.1.2.1 x.1.2.2.1 x.1.2.2.2 x.2.1 x.2.2.1 x.2.2.2.1 x.2.2.2.2.1 x.2.2.2.2.2:=Eq.trans (b:=accum_Acc_Round.j2R k x.1.1 x.1.2.1 x.1.2.2.1 x.1.2.2.2 x.2.1 x.2.2.1 x.2.2.2.1 x.2.2.2.2.1 x.2.2.2.2.2) (by kernel_rfl) (accum_Acc_Round.j2E k x.1.1 x.1.2.1 x.1.2.2.1 x.1.2.2.2 x.2.1 x.2.2.1 x.2.2.2.1 x.2.2.2.2.1 x.2.2.2.2.2)
theorem accum_Acc_Round.w3 (gg:Nat) (k:Nat) (x:ET [.mbw (some 0) 100 [.int .i64,.bool,.int .i64] .u64 16 [],.sc 4 (.int .i64),.sc 7 (.int .i64),.sc 8 (.int .u64),.sc 9 (.int .u64),.sc 10 (.bool),.sc 11 (.int .i64),.mbw (some 3) 98 [] .u64 16 []]):walk (E31 gg) (accum_Acc_Round.G k) (cutsAt (E31 gg) k accum_Acc_Round.cuts) (retR (E31 gg) Tryz.f31.results.toList S31) 4000 true (stackAt B31 [6,4,1,0,1,1,1,1,1,1,1,1,1,1,1]) (mkE [.mbw (some 0) 100 [.int .i64,.bool,.int .i64] .u64 16 [],.sc 4 (.int .i64),.sc 7 (.int .i64),.sc 8 (.int .u64),.sc 9 (.int .u64),.sc 10 (.bool),.sc 11 (.int .i64),.mbw (some 3) 98 [] .u64 16 []] x St.nil)=accum_Acc_Round.l1 (k+1) x.1.1 x.1.2.1 x.1.2.2.1 x.1.2.2.2 x.2.1 x.2.2.1 x.2.2.2.1 x.2.2.2.2.1 x.2.2.2.2.2.1 x.2.2.2.2.2.2.1 x.2.2.2.2.2.2.2:=by kernel_rfl
theorem accum_Acc_Round.w (gg:Nat) (k:Nat) (x:RcT S31.rL S31.win) (y:TT S31.sa):walk (E31 gg) (accum_Acc_Round.G k) (cutsAt (E31 gg) k accum_Acc_Round.cuts) (retR (E31 gg) Tryz.f31.results.toList S31) 4000 true [([],.code B31)] (St0R S31 x y)=accum_Acc_Round.f k x.1 x.2.1 x.2.2.1 x.2.2.2:=by kernel_rfl
theorem accum_Acc_Round.ok (k:Nat):FnOkR Tryz.prog (E31 0).eT 31 (accum_Acc_Round.c k):=FnOkR.walk (P:=(E31 0).P) (eT:=(E31 0).eT) (N:=(E31 0).N) (wf:=(E31 0).wf) (body:=B31) Tryz.func31 rfl (by rfl) Tryz.ntmps31 S31 (by rfl) (fun k x y=>accum_Acc_Round.f k x.1 x.2.1 x.2.2.1 x.2.2.2) accum_Acc_Round.G (fun k=>⟨accum_Acc_size.ok,accum_Acc_magnitude.ok k,bits_LeadingZeros64.ok,round_Make.ok k,accum_Acc_negative.ok,round_Round.ok k,trivial⟩) 4000 accum_Acc_Round.cuts (fun gg=>⟨⟨fun _=>rfl,fun k x q h=>(accum_Acc_Round.w0 gg k x).trans h⟩,⟨fun _=>rfl,fun k x q h=>(accum_Acc_Round.w1 gg k x).trans h⟩,⟨fun _=>rfl,fun k x q h=>(accum_Acc_Round.w2 gg k x).trans h⟩,⟨fun _=>rfl,fun k x q h=>(accum_Acc_Round.w3 gg k x).trans h⟩,trivial⟩) (fun gg k x y r h=>(accum_Acc_Round.w gg k x y).trans h) k
def S58:RSig:=⟨none,0,false,false,[.s],[(.int .i64)],some (.ptr ⟨[.int .i64,.bool,.int .i64],some (.u64,16)⟩),100,true,[.s],[.err],true⟩
def E58 (gg:Nat):En:=enR Tryz.prog 76 Tryz.f58.ntmps [] S58 gg
def B58:Go.Code:=Tryz.f58.body.get!
def accum_New.f (k:Nat) (a0:Int):Option (Unit×(Bool×(Int×Bool×Int×List Int))×(Option Int)):=(codec_Decode.f k a0 0).bind fun t100=>(if t100.2.2.2.2.isNone=true then (some ((),(true,(a0,false,0,([0,0,0,0,0,0,0,0,0,0,0,0,0,0,0,0]:List Int))),none)) else (some ((),(false,(0,false,0,([]:List Int))),some (t100.2.2.2.2.getD 0))))
--@ok
def accum_New.c (k:Nat):RCon:=S58.con fun x y=>accum_New.f k y
def accum_New.G (k:Nat):List (Go.FuncId×Cn):=[(95,.f (codec_Decode.c k))]
def accum_New.cuts:List (Cut (RSig.R S58)):=[]
theorem accum_New.w (gg:Nat) (k:Nat) (x:RcT S58.rL S58.win) (y:TT S58.sa):walk (E58 gg) (accum_New.G k) (cutsAt (E58 gg) k accum_New.cuts) (retR (E58 gg) Tryz.f58.results.toList S58) 4000 true [([],.code B58)] (St0R S58 x y)=accum_New.f k y:=by kernel_rfl
theorem accum_New.ok (k:Nat):FnOkR Tryz.prog (E58 0).eT 58 (accum_New.c k):=FnOkR.walk (P:=(E58 0).P) (eT:=(E58 0).eT) (N:=(E58 0).N) (wf:=(E58 0).wf) (body:=B58) Tryz.func58 rfl (by rfl) Tryz.ntmps58 S58 (by rfl) (fun k x y=>accum_New.f k y) accum_New.G (fun k=>⟨codec_Decode.ok k,trivial⟩) 4000 accum_New.cuts (fun gg=>trivial) (fun gg k x y r h=>(accum_New.w gg k x y).trans h) k
def E33:En:=⟨Tryz.prog,76,Tryz.f33.ntmps,none,false,[26]⟩
def S33:Sig:=⟨[.s,.s,.s],[(.int .i64),(.rd .u64),(.rd .u64)],true,[.s,.s],[(.int .u64),.err],false⟩
def B33:Go.Code:=Tryz.f33.body.get!
def vec_Dot.f (k:Nat) (a0:Int) (l1:List Int) (l2:List Int):Option (Int×Option Int):=(accum_New.f k a0).bind fun t100=>(if t100.2.1.1=true then (if t100.2.2.isNone=true then ((vec_Into.f k t100.2.1.2.1 t100.2.1.2.2.1 t100.2.1.2.2.2.1 t100.2.1.2.2.2.2 l1 l2).bind fun t101=>(if t101.2.2.isNone=true then ((accum_Acc_Round.f k t101.1.1 t101.1.2.1 t101.1.2.2.1 t101.1.2.2.2).bind fun t102=>(some (t102.2.2,none))) else (some (0,some (t101.2.2.getD 0))))) else (some (0,some (t100.2.2.getD 0)))) else (if t100.2.2.isNone=true then (none) else (some (0,some (t100.2.2.getD 0)))))
--@ok
def vec_Dot.c (k:Nat):Con:=S33.con fun x=>vec_Dot.f k x.1 x.2.1 x.2.2
def vec_Dot.G (k:Nat):List (Go.FuncId×Cn):=[(26,.r (vec_Into.c k)),(31,.r (accum_Acc_Round.c k)),(58,.r (accum_New.c k))]
def vec_Dot.cuts:List (Cut (TT S33.sb)):=[]
theorem vec_Dot.w (k:Nat) (x:TT S33.sa):walk E33 (vec_Dot.G k) (cutsAt E33 k vec_Dot.cuts) (retE E33 Tryz.f33.results.toList S33) 4000 true [([],.code B33)] (St0 S33 x)=vec_Dot.f k x.1 x.2.1 x.2.2:=by kernel_rfl
theorem vec_Dot.ok (k:Nat):FnOk Tryz.prog E33.eT 33 (vec_Dot.c k):=FnOk.walk (E:=E33) (body:=B33) Tryz.func33 rfl (by rfl) Tryz.ntmps33 rfl S33 rfl (fun k x=>vec_Dot.f k x.1 x.2.1 x.2.2) vec_Dot.G (fun k=>⟨vec_Into.ok k,accum_Acc_Round.ok k,accum_New.ok k,trivial⟩) 4000 vec_Dot.cuts trivial (fun k x r h=>(vec_Dot.w k x).trans h) k
def E87:En:=⟨Tryz.prog,76,Tryz.f87.ntmps,none,false,[]⟩
def S87:Sig:=⟨[.s,.s],[(.int .i64),(.int .u64)],true,[.s,.s],[(.int .u64),.err],false⟩
def B87:Go.Code:=Tryz.f87.body.get!
def order_Neg.f (a0:Int) (a1:Int):Option (Int×Option Int):=(shape_Fold.f a0 (IntKind.u64.wrap (-a1))).bind fun t100=>(some (t100.1,t100.2))
--@ok
def order_Neg.c:Con:=S87.con fun x=>order_Neg.f x.1 x.2
def order_Neg.G (k:Nat):List (Go.FuncId×Cn):=[(93,.f shape_Fold.c)]
def order_Neg.cuts:List (Cut (TT S87.sb)):=[]
theorem order_Neg.w (k:Nat) (x:TT S87.sa):walk E87 (order_Neg.G k) (cutsAt E87 k order_Neg.cuts) (retE E87 Tryz.f87.results.toList S87) 4000 true [([],.code B87)] (St0 S87 x)=order_Neg.f x.1 x.2:=by kernel_rfl
theorem order_Neg.ok:FnOk Tryz.prog E87.eT 87 (order_Neg.c):=FnOk.walk (E:=E87) (body:=B87) Tryz.func87 rfl (by rfl) Tryz.ntmps87 rfl S87 rfl (fun k x=>order_Neg.f x.1 x.2) order_Neg.G (fun k=>⟨shape_Fold.ok,trivial⟩) 4000 order_Neg.cuts trivial (fun k x r h=>(order_Neg.w k x).trans h) 0
def E90:En:=⟨Tryz.prog,76,Tryz.f90.ntmps,none,false,[]⟩
def S90:Sig:=⟨[.s,.s,.s],[(.int .u64),(.int .u64),(.cp (.int .i64))],false,[.s],[(.int .i64)],false⟩
def B90:Go.Code:=Tryz.f90.body.get!
def vec_Sort_1.f (a0:Int) (a1:Int) (a2:Int):Option (Int):=(order_Cmp.f a2 a0 a1).bind fun t100=>(if t100.2.isNone=true then (some t100.1) else (some 0))
--@ok
def vec_Sort_1.c:Con:=S90.con fun x=>vec_Sort_1.f x.1 x.2.1 x.2.2
def vec_Sort_1.G (k:Nat):List (Go.FuncId×Cn):=[(91,.f order_Cmp.c)]
def vec_Sort_1.cuts:List (Cut (TT S90.sb)):=[]
theorem vec_Sort_1.w (k:Nat) (x:TT S90.sa):walk E90 (vec_Sort_1.G k) (cutsAt E90 k vec_Sort_1.cuts) (retE E90 Tryz.f90.results.toList S90) 4000 true [([],.code B90)] (St0 S90 x)=vec_Sort_1.f x.1 x.2.1 x.2.2:=by kernel_rfl
theorem vec_Sort_1.ok:FnOk Tryz.prog E90.eT 90 (vec_Sort_1.c):=FnOk.walk (E:=E90) (body:=B90) Tryz.func90 rfl (by rfl) Tryz.ntmps90 rfl S90 rfl (fun k x=>vec_Sort_1.f x.1 x.2.1 x.2.2) vec_Sort_1.G (fun k=>⟨order_Cmp.ok,trivial⟩) 4000 vec_Sort_1.cuts trivial (fun k x r h=>(vec_Sort_1.w k x).trans h) 0
end Go.Proofs.YtbpcfhhcoklinaaGreat.Fn
