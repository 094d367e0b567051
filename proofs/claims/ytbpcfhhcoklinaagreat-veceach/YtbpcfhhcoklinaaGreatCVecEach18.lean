-- Written by a program of this session out of its own texts (wip/tools/link.py).
import Derived.Below
import Derived.ChangeKeysEq
import Derived.Deep.MidRow
import Derived.Deep.RegionHeld3
import Derived.Great.BuildSlice
import Derived.Ground.SlsfProg
import Derived.IntWalk
import Derived.KernelRfl
import Derived.LaidEql
import Derived.Laws.Bits64
import Derived.Laws.BitsLemmas
import Derived.Laws.BytesArg
import Derived.Laws.IdiomCopy
import Derived.Laws.OwnMore
import Derived.Laws.Rows
import Derived.Laws.Slices
import Derived.Laws.StructEq
import Derived.Laws.Tables
import Derived.Lib.BitFns
import Derived.Lib.Slices
import Derived.Lib.Small
import Derived.Lib.Strings
import Derived.Lib.Walk
import Derived.LoopIn
import Derived.LoopNIn
import Derived.Maps.AppendAt
import Derived.OrdersHeld
import Derived.OwnWalkIn
import Derived.RangeFuncBound
import Derived.RangeFuncCalls
import Derived.RangeFuncLeaves
import Derived.RangeFuncNested
import Derived.RowKit
import Derived.Scope
import Derived.Shelf.Abstract
import Derived.Shelf.RegionOpen
import Derived.Shelf.SlGeneric
import Derived.Shelf.SlSortCmp.NoneTotal
import Derived.Shelf.Spec.BitsCarry
import Derived.TacticsInMore
import Derived.Test.YtbpcfhhcoklinaaGreatProg
import Derived.WalkKit
import Derived.Test.YtbpcfhhcoklinaaGreatCVecEach10
import Derived.Test.YtbpcfhhcoklinaaGreatCVecEach13
import Derived.Test.YtbpcfhhcoklinaaGreatCVecEach17
noncomputable section
set_option linter.unusedVariables false
set_option maxRecDepth 100000
noncomputable section
namespace Go.Proofs.YtbpcfhhcoklinaaGreat.Fn
open Go Go.RowKit Go.Proofs.YtbpcfhhcoklinaaGreat.Ab
def S89:SSig:=⟨.u64,23,90,[.int .i64]⟩
def slices_SortFunc.cf (n x y:Int):Int:=(vec_Sort_1.f x y n).getD 0
def slices_SortFunc.Good (n:Int) (l:List Int):Prop:=l.length < 4611686018427387904∧(∀ x∈l,∀ y∈l,(vec_Sort_1.f x y n).isSome=true)∧Srt.Ord (slices_SortFunc.cf n) l
def slices_SortFunc.f (n:Int) (l:List Int):Option (List Int):=@ite _ (slices_SortFunc.Good n l) (Classical.propDecidable _) (some (Srt.srt (slices_SortFunc.cf n) l)) none
--@ok
def slices_SortFunc.c:SCon:=S89.con slices_SortFunc.f
theorem slices_SortFunc.ok:FnOkS Tryz.prog 76 89 slices_SortFunc.c:=by
  intro x l r w ok base v us hF hin hown hnok hcp
  have hF':slices_SortFunc.f x l=some r:=hF
  unfold slices_SortFunc.f at hF'
  split at hF'
  · rename_i hG
    injection hF' with hF'
    subst hF'
    refine .inl ⟨enters_of Tryz.func89 (by kernel_rfl) rfl _ _, ?_⟩
    refine (Srt.sort_calls (slices_SortFunc.cf x) us l w base v hown hG.2.2 hG.1 ?_).mono ?_
    · intro W hW a ha b hb
      obtain ⟨us⟩:=us
      match us,hcp with
      | [p],hcp =>
        obtain ⟨⟨q,u,rfl,h1,h2,h3,h4⟩, -⟩:=hcp
        have hs:=hG.2.1 a ha b hb
        obtain ⟨c,hc⟩:=Option.isSome_iff_exists.1 hs
        have hne:q.block ∉ v.ownBlock.toList:=by
          intro hm
          cases ho:v.ownBlock with
          | none=>rw [ho] at hm;cases hm
          | some g =>
            rw [ho] at hm
            have hm:q.block=g:=by simpa using hm
            exact hnok g ho (hm▸h1)
        have e1:(#[Value.int .u64 a,Value.int .u64 b]++({ toList:=[Value.pointer (some q)] }:Array Value)) = #[.int .u64 a,.int .u64 b,.pointer (some q)]:=rfl
        rw [e1]
        have h:=vec_Sort_1.ok (a,b,x) c W (fun g=>ok g∧g < w.heap.size) #[.int .u64 a,.int .u64 b,.pointer (some q)] hc
          ⟨⟨rfl,hin.2 a ha,by simp,by simp⟩,⟨rfl,hin.2 b hb,by simp,by simp⟩,⟨q,u,rfl,⟨h1,h2⟩,Nat.lt_of_lt_of_le h2 hW.size,(cell_of (w:=w) (hW.block _ h2 hne)).trans h3,h4⟩,trivial⟩
        refine (Srt.of_ok (enters_of Tryz.func90 (by kernel_rfl) rfl) h).mono ?_
        rintro e w' ⟨v',rfl,⟨y,hy,hvv⟩,hbw⟩
        injection hy with hy
        subst hy
        obtain ⟨rfl, -⟩:=hvv
        refine ⟨?_,hbw⟩
        unfold slices_SortFunc.cf
        rw [hc]
        rfl
      | [],hcp=>exact hcp.elim
      | _ :: _ :: _,hcp=>exact hcp.2.elim
    · rintro e w' ⟨rfl,h1,h2⟩
      exact ⟨_,rfl,rfl,Srt.srt_in hin,h1,h2⟩
  · cases hF'
def E42:En:=⟨Tryz.prog,76,Tryz.f42.ntmps,none,false,[89]⟩
def S42:Sig:=⟨[.s,.s],[(.int .i64),(.rd .u64)],true,[.s,.s],[(.rd .u64),.err],true⟩
def B42:Go.Code:=Tryz.f42.body.get!
def vec_Sort.l0:Nat→List Int→List Int→Int→Int→Int→Option (List Int×Option Int)
 | 0,_,_,_,_,_=>none
 | k+1,x8,x22,x23,x24,x2000=>if x24 < x23 then (if 0≤x24 then (if x24 < (nI x22.length) then (if 0≤(wrap64 (64 - x2000)) then (if x24 < (nI x8.length) then (vec_Sort.l0 k (x8.set ((x24:Int).toNat) (shr .u64 (shl .u64 (rd x22 x24) (wrap64 (64 - x2000))) (wrap64 (64 - x2000)))) x22 x23 (wrap64 (x24+1)) x2000) else (none)) else (none)) else (none)) else (none)) else ((slices_SortFunc.f x2000 x8).bind fun t101=>(some (t101,none)))
def vec_Sort.f (k:Nat) (a0:Int) (l1:List Int):Option (List Int×Option Int):=(order_Neg.f a0 0).bind fun t100=>(if t100.2.isNone=true then (if (((nI l1.length):Int).toNat)≤35184372088832 then (vec_Sort.l0 k (List.replicate (((nI l1.length):Int).toNat) 0:List Int) l1 (nI l1.length) 0 a0) else (none)) else (some (([]:List Int),some (t100.2.getD 0))))
--@ok
def vec_Sort.l0R (k:Nat) (x8:List Int) (x22:List Int) (x23:Int) (x24:Int) (x2000:Int):Option (List Int×Option Int):=if x24 < x23 then (if 0≤x24 then (if x24 < (nI x22.length) then (if 0≤(wrap64 (64 - x2000)) then (if 0≤(wrap64 (64 - x2000)) then (if 0≤x24 then (if x24 < (nI x8.length) then (vec_Sort.l0 k (x8.set ((x24:Int).toNat) (shr .u64 (shl .u64 (rd x22 x24) (wrap64 (64 - x2000))) (wrap64 (64 - x2000)))) x22 x23 (wrap64 (x24+1)) x2000) else (none)) else (none)) else (none)) else (none)) else (none)) else (none)) else ((slices_SortFunc.f x2000 x8).bind fun t101=>(some (t101,none)))
theorem vec_Sort.l0E (k:Nat) (x8:List Int) (x22:List Int) (x23:Int) (x24:Int) (x2000:Int):vec_Sort.l0R k x8 x22 x23 x24 x2000=vec_Sort.l0 (k+1) x8 x22 x23 x24 x2000:=by
  unfold vec_Sort.l0R
  rw [vec_Sort.l0]
  exact iteC (fun h0=>iteC (fun h1=>iteC (fun h2=>iteC (fun h3=>(if_pos h3).trans ((if_pos h1).trans (iteC (fun h4=>rfl) (fun h4=>rfl)))) (fun h3=>rfl)) (fun h2=>rfl)) (fun h1=>rfl)) (fun h0=>bindC fun _=>rfl)
def vec_Sort.c (k:Nat):Con:=S42.con fun x=>vec_Sort.f k x.1 x.2
def vec_Sort.G (k:Nat):List (Go.FuncId×Cn):=[(87,.f order_Neg.c),(89,.s slices_SortFunc.c)]
def vec_Sort.cuts:List (Cut (TT S42.sb)):=[⟨[6,4,1,0,1,1,1],[.lst 8 .u64 23,.sc 22 (.rd .u64),.sc 23 (.int .i64),.sc 24 (.int .i64),.box 2 3 [.int .i64]],fun k x=>vec_Sort.l0 k x.1 x.2.1 x.2.2.1 x.2.2.2.1 x.2.2.2.2⟩]
theorem vec_Sort.w0 (k:Nat) (x:ET [.lst 8 .u64 23,.sc 22 (.rd .u64),.sc 23 (.int .i64),.sc 24 (.int .i64),.box 2 3 [.int .i64]]):walk E42 (vec_Sort.G k) (cutsAt E42 k vec_Sort.cuts) (retE E42 Tryz.f42.results.toList S42) 4000 true (stackAt B42 [6,4,1,0,1,1,1]) (mkE [.lst 8 .u64 23,.sc 22 (.rd .u64),.sc 23 (.int .i64),.sc 24 (.int .i64),.box 2 3 [.int .i64]] x St.nil)=vec_Sort.l0 (k+1) x.1 x.2.1 x.2.2.1 x.2.2.2.1 x.2.2.2.2:=Eq.trans (b:=vec_Sort.l0R k x.1 x.2.1 x.2.2.1 x.2.2.2.1 x.2.2.2.2) (by kernel_rfl) (vec_Sort.l0E k x.1 x.2.1 x.2.2.1 x.2.2.2.1 x.2.2.2.2)
theorem vec_Sort.w (k:Nat) (x:TT S42.sa):walk E42 (vec_Sort.G k) (cutsAt E42 k vec_Sort.cuts) (retE E42 Tryz.f42.results.toList S42) 4000 true [([],.code B42)] (St0 S42 x)=vec_Sort.f k x.1 x.2:=by kernel_rfl
theorem vec_Sort.ok (k:Nat):FnOk Tryz.prog E42.eT 42 (vec_Sort.c k):=FnOk.walk (E:=E42) (body:=B42) Tryz.func42 rfl (by rfl) Tryz.ntmps42 rfl S42 rfl (fun k x=>vec_Sort.f k x.1 x.2) vec_Sort.G (fun k=>⟨order_Neg.ok,slices_SortFunc.ok,trivial⟩) 4000 vec_Sort.cuts ⟨⟨fun _=>rfl,fun k x q h=>(vec_Sort.w0 k x).trans h⟩,trivial⟩ (fun k x r h=>(vec_Sort.w k x).trans h) k
def E10:En:=⟨Tryz.prog,76,Tryz.f10.ntmps,none,false,[]⟩
def S10:Sig:=⟨[],[],false,[.s],[.bool],false⟩
def B10:Go.Code:=Tryz.f10.body.get!
def vl20_shown.f (k:Nat)  : Option (Bool):=(vec_Dot.f k 8 ([127,1,129]:List Int) ([127,64,127]:List Int)).bind fun t100=>((vec_Dot.f k 8 ([64]:List Int) ([]:List Int)).bind fun t101=>((vec_Sort.f k 8 ([64,128,448,0]:List Int)).bind fun t102=>((vr04_Same.f k t102.1 ([128,192,0,64]:List Int)).bind fun t103=>((vec_Poly.f k 8 ([64,64,64]:List Int) 72).bind fun t104=>(if t100.1=1 then (if t100.2.isNone=true then (if t101.2.isNone=true then (some false) else (if (t101.2.getD 0)=15 then (if t103=true then (if t102.2.isNone=true then (if t104.1=86 then (if t104.2.isNone=true then (some true) else (some false)) else (some false)) else (some false)) else (some false)) else (some false))) else (some false)) else (some false))))))
--@ok
def vl20_shown.c (k:Nat):Con:=S10.con fun x=>vl20_shown.f k
def vl20_shown.G (k:Nat):List (Go.FuncId×Cn):=[(11,.f (vec_Poly.c k)),(16,.f (vr04_Same.c k)),(33,.f (vec_Dot.c k)),(42,.f (vec_Sort.c k))]
def vl20_shown.cuts:List (Cut (TT S10.sb)):=[]
theorem vl20_shown.w (k:Nat) (x:TT S10.sa):walk E10 (vl20_shown.G k) (cutsAt E10 k vl20_shown.cuts) (retE E10 Tryz.f10.results.toList S10) 4000 true [([],.code B10)] (St0 S10 x)=vl20_shown.f k:=by kernel_rfl
theorem vl20_shown.ok (k:Nat):FnOk Tryz.prog E10.eT 10 (vl20_shown.c k):=FnOk.walk (E:=E10) (body:=B10) Tryz.func10 rfl (by rfl) Tryz.ntmps10 rfl S10 rfl (fun k x=>vl20_shown.f k) vl20_shown.G (fun k=>⟨vec_Poly.ok k,vr04_Same.ok k,vec_Dot.ok k,vec_Sort.ok k,trivial⟩) 4000 vl20_shown.cuts trivial (fun k x r h=>(vl20_shown.w k x).trans h) k
def E47:En:=⟨Tryz.prog,76,Tryz.f47.ntmps,none,false,[]⟩
def S47:Sig:=⟨[.s],[(.int .i64)],false,[.s],[.bool],false⟩
def B47:Go.Code:=Tryz.f47.body.get!
def vr05_Is.f (a0:Int):Option (Bool):=if a0=8 then (some true) else (if a0=16 then (some true) else (if a0=32 then (some true) else (some (a0==64))))
--@ok
def vr05_Is.c:Con:=S47.con fun x=>vr05_Is.f x
def vr05_Is.G (k:Nat):List (Go.FuncId×Cn):=[]
def vr05_Is.cuts:List (Cut (TT S47.sb)):=[]
theorem vr05_Is.w (k:Nat) (x:TT S47.sa):walk E47 (vr05_Is.G k) (cutsAt E47 k vr05_Is.cuts) (retE E47 Tryz.f47.results.toList S47) 4000 true [([],.code B47)] (St0 S47 x)=vr05_Is.f x:=by kernel_rfl
theorem vr05_Is.ok:FnOk Tryz.prog E47.eT 47 (vr05_Is.c):=FnOk.walk (E:=E47) (body:=B47) Tryz.func47 rfl (by rfl) Tryz.ntmps47 rfl S47 rfl (fun k x=>vr05_Is.f x) vr05_Is.G (fun k=>trivial) 4000 vr05_Is.cuts trivial (fun k x r h=>(vr05_Is.w k x).trans h) 0
def E144:En:=⟨Tryz.prog,76,Tryz.f144.ntmps,none,false,[]⟩
def S144:Sig:=⟨[.s],[.str],false,[.s],[(.int .u64)],false⟩
def B144:Go.Code:=Tryz.f144.body.get!
def vr01_Number.l0:Nat→ByteArray→Int→Int→Option (Int)
 | 0,_,_,_=>none
 | k+1,x0,x3,x4=>if x4 < (nI x0.size) then (if 0≤x4 then (vr01_Number.l0 k x0 (IntKind.u64.wrap ((IntKind.u64.wrap (2*x3))+(((bt x0 x4) - 48)%256))) (wrap64 (x4+1))) else (none)) else (some x3)
def vr01_Number.f (k:Nat) (a0:ByteArray):Option (Int):=vr01_Number.l0 k a0 0 0
--@ok
def vr01_Number.l0R (k:Nat) (x0:ByteArray) (x3:Int) (x4:Int):Option (Int):=if x4 < (nI x0.size) then (if 0≤x4 then (if x4 < (nI x0.size) then (vr01_Number.l0 k x0 (IntKind.u64.wrap ((IntKind.u64.wrap (2*x3))+(((bt x0 x4) - 48)%256))) (wrap64 (x4+1))) else (none)) else (none)) else (some x3)
theorem vr01_Number.l0E (k:Nat) (x0:ByteArray) (x3:Int) (x4:Int):vr01_Number.l0R k x0 x3 x4=vr01_Number.l0 (k+1) x0 x3 x4:=by
  unfold vr01_Number.l0R
  rw [vr01_Number.l0]
  exact iteC (fun h0=>iteC (fun h1=>(if_pos h0).trans (rfl)) (fun h1=>rfl)) (fun h0=>rfl)
def vr01_Number.c (k:Nat):Con:=S144.con fun x=>vr01_Number.f k x
def vr01_Number.G (k:Nat):List (Go.FuncId×Cn):=[]
def vr01_Number.cuts:List (Cut (TT S144.sb)):=[⟨[6,4,1,0,1,1],[.sc 0 (.str),.sc 3 (.int .u64),.sc 4 (.int .i64)],fun k x=>vr01_Number.l0 k x.1 x.2.1 x.2.2⟩]
theorem vr01_Number.w0 (k:Nat) (x:ET [.sc 0 (.str),.sc 3 (.int .u64),.sc 4 (.int .i64)]):walk E144 (vr01_Number.G k) (cutsAt E144 k vr01_Number.cuts) (retE E144 Tryz.f144.results.toList S144) 4000 true (stackAt B144 [6,4,1,0,1,1]) (mkE [.sc 0 (.str),.sc 3 (.int .u64),.sc 4 (.int .i64)] x St.nil)=vr01_Number.l0 (k+1) x.1 x.2.1 x.2.2:=Eq.trans (b:=vr01_Number.l0R k x.1 x.2.1 x.2.2) (by kernel_rfl) (vr01_Number.l0E k x.1 x.2.1 x.2.2)
theorem vr01_Number.w (k:Nat) (x:TT S144.sa):walk E144 (vr01_Number.G k) (cutsAt E144 k vr01_Number.cuts) (retE E144 Tryz.f144.results.toList S144) 4000 true [([],.code B144)] (St0 S144 x)=vr01_Number.f k x:=by kernel_rfl
theorem vr01_Number.ok (k:Nat):FnOk Tryz.prog E144.eT 144 (vr01_Number.c k):=FnOk.walk (E:=E144) (body:=B144) Tryz.func144 rfl (by rfl) Tryz.ntmps144 rfl S144 rfl (fun k x=>vr01_Number.f k x) vr01_Number.G (fun k=>trivial) 4000 vr01_Number.cuts ⟨⟨fun _=>rfl,fun k x q h=>(vr01_Number.w0 k x).trans h⟩,trivial⟩ (fun k x r h=>(vr01_Number.w k x).trans h) k
def E145:En:=⟨Tryz.prog,76,Tryz.f145.ntmps,none,false,[]⟩
def S145:Sig:=⟨[.s,.s],[(.int .u64),(.int .i64)],false,[.s],[.str],false⟩
def B145:Go.Code:=Tryz.f145.body.get!
def vr01_Text.l0:Nat→Int→List Int→Int→Option (ByteArray)
 | 0,_,_,_=>none
 | k+1,x0,x5,x6=>if x6≥0 then (if 0≤x6 then (if x5.length < 140737488355328 then (vr01_Text.l0 k x0 (x5++([(48+((Int.tmod (shr .u64 x0 x6) 2)%256))%256]:List Int)) (wrap64 (x6 - 1))) else (none)) else (none)) else (some (strOfNums x5))
def vr01_Text.f (k:Nat) (a0:Int) (a1:Int):Option (ByteArray):=vr01_Text.l0 k a0 ([]:List Int) (wrap64 (a1 - 1))
--@ok
def vr01_Text.c (k:Nat):Con:=S145.con fun x=>vr01_Text.f k x.1 x.2
def vr01_Text.G (k:Nat):List (Go.FuncId×Cn):=[]
def vr01_Text.cuts:List (Cut (TT S145.sb)):=[⟨[6,4,1,0,1,1],[.sc 0 (.int .u64),.lst 5 .u8 5,.sc 6 (.int .i64)],fun k x=>vr01_Text.l0 k x.1 x.2.1 x.2.2⟩]
theorem vr01_Text.w0 (k:Nat) (x:ET [.sc 0 (.int .u64),.lst 5 .u8 5,.sc 6 (.int .i64)]):walk E145 (vr01_Text.G k) (cutsAt E145 k vr01_Text.cuts) (retE E145 Tryz.f145.results.toList S145) 4000 true (stackAt B145 [6,4,1,0,1,1]) (mkE [.sc 0 (.int .u64),.lst 5 .u8 5,.sc 6 (.int .i64)] x St.nil)=vr01_Text.l0 (k+1) x.1 x.2.1 x.2.2:=by kernel_rfl
theorem vr01_Text.w (k:Nat) (x:TT S145.sa):walk E145 (vr01_Text.G k) (cutsAt E145 k vr01_Text.cuts) (retE E145 Tryz.f145.results.toList S145) 4000 true [([],.code B145)] (St0 S145 x)=vr01_Text.f k x.1 x.2:=by kernel_rfl
theorem vr01_Text.ok (k:Nat):FnOk Tryz.prog E145.eT 145 (vr01_Text.c k):=FnOk.walk (E:=E145) (body:=B145) Tryz.func145 rfl (by rfl) Tryz.ntmps145 rfl S145 rfl (fun k x=>vr01_Text.f k x.1 x.2) vr01_Text.G (fun k=>trivial) 4000 vr01_Text.cuts ⟨⟨fun _=>rfl,fun k x q h=>(vr01_Text.w0 k x).trans h⟩,trivial⟩ (fun k x r h=>(vr01_Text.w k x).trans h) k
def E98:En:=⟨Tryz.prog,76,Tryz.f98.ntmps,none,false,[]⟩
def S98:Sig:=⟨[.s,.s],[(.int .i64),(.int .u64)],true,[.s,.s],[(.int .u64),(.int .i64)],false⟩
def B98:Go.Code:=Tryz.f98.body.get!
def vr05_Fold.f (k:Nat) (a0:Int) (a1:Int):Option (Int×Int):=(vr05_Is.f a0).bind fun t100=>(if t100=true then ((vr01_Text.f k a1 a0).bind fun t101=>((vr01_Number.f k t101).bind fun t102=>(some (t102,0)))) else (some (0,2)))
--@ok
def vr05_Fold.c (k:Nat):Con:=S98.con fun x=>vr05_Fold.f k x.1 x.2
def vr05_Fold.G (k:Nat):List (Go.FuncId×Cn):=[(47,.f vr05_Is.c),(144,.f (vr01_Number.c k)),(145,.f (vr01_Text.c k))]
def vr05_Fold.cuts:List (Cut (TT S98.sb)):=[]
theorem vr05_Fold.w (k:Nat) (x:TT S98.sa):walk E98 (vr05_Fold.G k) (cutsAt E98 k vr05_Fold.cuts) (retE E98 Tryz.f98.results.toList S98) 4000 true [([],.code B98)] (St0 S98 x)=vr05_Fold.f k x.1 x.2:=by kernel_rfl
theorem vr05_Fold.ok (k:Nat):FnOk Tryz.prog E98.eT 98 (vr05_Fold.c k):=FnOk.walk (E:=E98) (body:=B98) Tryz.func98 rfl (by rfl) Tryz.ntmps98 rfl S98 rfl (fun k x=>vr05_Fold.f k x.1 x.2) vr05_Fold.G (fun k=>⟨vr05_Is.ok,vr01_Number.ok k,vr01_Text.ok k,trivial⟩) 4000 vr05_Fold.cuts trivial (fun k x r h=>(vr05_Fold.w k x).trans h) k
def E48:En:=⟨Tryz.prog,76,Tryz.f48.ntmps,none,false,[]⟩
def S48:Sig:=⟨[.s,.s],[(.int .i64),(.int .u64)],false,[.s],[(.int .u64)],false⟩
def B48:Go.Code:=Tryz.f48.body.get!
def vr06_Fold.f (k:Nat) (a0:Int) (a1:Int):Option (Int):=(vr05_Fold.f k a0 a1).bind fun t100=>(some t100.1)
--@ok
def vr06_Fold.c (k:Nat):Con:=S48.con fun x=>vr06_Fold.f k x.1 x.2
def vr06_Fold.G (k:Nat):List (Go.FuncId×Cn):=[(98,.f (vr05_Fold.c k))]
def vr06_Fold.cuts:List (Cut (TT S48.sb)):=[]
theorem vr06_Fold.w (k:Nat) (x:TT S48.sa):walk E48 (vr06_Fold.G k) (cutsAt E48 k vr06_Fold.cuts) (retE E48 Tryz.f48.results.toList S48) 4000 true [([],.code B48)] (St0 S48 x)=vr06_Fold.f k x.1 x.2:=by kernel_rfl
theorem vr06_Fold.ok (k:Nat):FnOk Tryz.prog E48.eT 48 (vr06_Fold.c k):=FnOk.walk (E:=E48) (body:=B48) Tryz.func48 rfl (by rfl) Tryz.ntmps48 rfl S48 rfl (fun k x=>vr06_Fold.f k x.1 x.2) vr06_Fold.G (fun k=>⟨vr05_Fold.ok k,trivial⟩) 4000 vr06_Fold.cuts trivial (fun k x r h=>(vr06_Fold.w k x).trans h) k
def E167:En:=⟨Tryz.prog,76,Tryz.f167.ntmps,none,false,[]⟩
def S167:Sig:=⟨[.g 6],[(.int .i64),.bool,(.int .i64),(.int .u64),(.int .u64),.bool],false,[.s],[.bool],false⟩
def B167:Go.Code:=Tryz.f167.body.get!
def vr07_Sound.f (a0_0:Int) (a0_1:Bool) (a0_2:Int) (a0_3:Int) (a0_4:Int) (a0_5:Bool):Option (Bool):=if a0_0=0 then (some ((a0_0==a0_0)&&((!a0_1)&&((a0_2==0)&&((a0_3==0)&&((a0_4==0)&&(!a0_5))))))) else (if a0_0=2 then (some ((a0_0==a0_0)&&((!a0_1)&&((a0_2==0)&&((a0_3==0)&&((a0_4==0)&&(!a0_5))))))) else (if a0_0=1 then (if a0_3≥9223372036854775808 then (if a0_2≥(-1099511627776) then (some (decide (a0_2≤1099511627776))) else (some false)) else (some false)) else (some false)))
--@ok
def vr07_Sound.c:Con:=S167.con fun x=>vr07_Sound.f x.1 x.2.1 x.2.2.1 x.2.2.2.1 x.2.2.2.2.1 x.2.2.2.2.2
def vr07_Sound.G (k:Nat):List (Go.FuncId×Cn):=[]
def vr07_Sound.cuts:List (Cut (TT S167.sb)):=[]
theorem vr07_Sound.w (k:Nat) (x:TT S167.sa):walk E167 (vr07_Sound.G k) (cutsAt E167 k vr07_Sound.cuts) (retE E167 Tryz.f167.results.toList S167) 4000 true [([],.code B167)] (St0 S167 x)=vr07_Sound.f x.1 x.2.1 x.2.2.1 x.2.2.2.1 x.2.2.2.2.1 x.2.2.2.2.2:=by kernel_rfl
theorem vr07_Sound.ok:FnOk Tryz.prog E167.eT 167 (vr07_Sound.c):=FnOk.walk (E:=E167) (body:=B167) Tryz.func167 rfl (by rfl) Tryz.ntmps167 rfl S167 rfl (fun k x=>vr07_Sound.f x.1 x.2.1 x.2.2.1 x.2.2.2.1 x.2.2.2.2.1 x.2.2.2.2.2) vr07_Sound.G (fun k=>trivial) 4000 vr07_Sound.cuts trivial (fun k x r h=>(vr07_Sound.w k x).trans h) 0
def E195:En:=⟨Tryz.prog,76,Tryz.f195.ntmps,none,false,[]⟩
def S195:Sig:=⟨[.s],[(.int .i64)],false,[.s],[(.int .u64)],false⟩
def B195:Go.Code:=Tryz.f195.body.get!
def vr05_Power.l0:Nat→Int→Int→Int→Option (Int)
 | 0,_,_,_=>none
 | k+1,x0,x3,x4=>if x4 < x0 then (vr05_Power.l0 k x0 (IntKind.u64.wrap (2*x3)) (wrap64 (x4+1))) else (some x3)
def vr05_Power.f (k:Nat) (a0:Int):Option (Int):=vr05_Power.l0 k a0 1 0
--@ok
def vr05_Power.c (k:Nat):Con:=S195.con fun x=>vr05_Power.f k x
def vr05_Power.G (k:Nat):List (Go.FuncId×Cn):=[]
def vr05_Power.cuts:List (Cut (TT S195.sb)):=[⟨[6,4,1,0,1,1],[.sc 0 (.int .i64),.sc 3 (.int .u64),.sc 4 (.int .i64)],fun k x=>vr05_Power.l0 k x.1 x.2.1 x.2.2⟩]
theorem vr05_Power.w0 (k:Nat) (x:ET [.sc 0 (.int .i64),.sc 3 (.int .u64),.sc 4 (.int .i64)]):walk E195 (vr05_Power.G k) (cutsAt E195 k vr05_Power.cuts) (retE E195 Tryz.f195.results.toList S195) 4000 true (stackAt B195 [6,4,1,0,1,1]) (mkE [.sc 0 (.int .i64),.sc 3 (.int .u64),.sc 4 (.int .i64)] x St.nil)=vr05_Power.l0 (k+1) x.1 x.2.1 x.2.2:=by kernel_rfl
theorem vr05_Power.w (k:Nat) (x:TT S195.sa):walk E195 (vr05_Power.G k) (cutsAt E195 k vr05_Power.cuts) (retE E195 Tryz.f195.results.toList S195) 4000 true [([],.code B195)] (St0 S195 x)=vr05_Power.f k x:=by kernel_rfl
theorem vr05_Power.ok (k:Nat):FnOk Tryz.prog E195.eT 195 (vr05_Power.c k):=FnOk.walk (E:=E195) (body:=B195) Tryz.func195 rfl (by rfl) Tryz.ntmps195 rfl S195 rfl (fun k x=>vr05_Power.f k x) vr05_Power.G (fun k=>trivial) 4000 vr05_Power.cuts ⟨⟨fun _=>rfl,fun k x q h=>(vr05_Power.w0 k x).trans h⟩,trivial⟩ (fun k x r h=>(vr05_Power.w k x).trans h) k
def E196:En:=⟨Tryz.prog,76,Tryz.f196.ntmps,none,false,[]⟩
def S196:Sig:=⟨[.s],[.str],false,[.s],[.bool],false⟩
def B196:Go.Code:=Tryz.f196.body.get!
def vr07_some.l0:Nat→ByteArray→Int→Option (Bool)
 | 0,_,_=>none
 | k+1,x0,x3=>if x3 < (nI x0.size) then (if 0≤x3 then (if (bt x0 x3)=49 then (some true) else (vr07_some.l0 k x0 (wrap64 (x3+1)))) else (none)) else (some false)
def vr07_some.f (k:Nat) (a0:ByteArray):Option (Bool):=vr07_some.l0 k a0 0
--@ok
def vr07_some.l0R (k:Nat) (x0:ByteArray) (x3:Int):Option (Bool):=if x3 < (nI x0.size) then (if 0≤x3 then (if x3 < (nI x0.size) then (if (bt x0 x3)=49 then (some true) else (vr07_some.l0 k x0 (wrap64 (x3+1)))) else (none)) else (none)) else (some false)
theorem vr07_some.l0E (k:Nat) (x0:ByteArray) (x3:Int):vr07_some.l0R k x0 x3=vr07_some.l0 (k+1) x0 x3:=by
  unfold vr07_some.l0R
  rw [vr07_some.l0]
  exact iteC (fun h0=>iteC (fun h1=>(if_pos h0).trans (iteC (fun h2=>rfl) (fun h2=>rfl))) (fun h1=>rfl)) (fun h0=>rfl)
def vr07_some.c (k:Nat):Con:=S196.con fun x=>vr07_some.f k x
def vr07_some.G (k:Nat):List (Go.FuncId×Cn):=[]
def vr07_some.cuts:List (Cut (TT S196.sb)):=[⟨[6,4,1,0,1],[.sc 0 (.str),.sc 3 (.int .i64)],fun k x=>vr07_some.l0 k x.1 x.2⟩]
theorem vr07_some.w0 (k:Nat) (x:ET [.sc 0 (.str),.sc 3 (.int .i64)]):walk E196 (vr07_some.G k) (cutsAt E196 k vr07_some.cuts) (retE E196 Tryz.f196.results.toList S196) 4000 true (stackAt B196 [6,4,1,0,1]) (mkE [.sc 0 (.str),.sc 3 (.int .i64)] x St.nil)=vr07_some.l0 (k+1) x.1 x.2:=Eq.trans (b:=vr07_some.l0R k x.1 x.2) (by kernel_rfl) (vr07_some.l0E k x.1 x.2)
theorem vr07_some.w (k:Nat) (x:TT S196.sa):walk E196 (vr07_some.G k) (cutsAt E196 k vr07_some.cuts) (retE E196 Tryz.f196.results.toList S196) 4000 true [([],.code B196)] (St0 S196 x)=vr07_some.f k x:=by kernel_rfl
theorem vr07_some.ok (k:Nat):FnOk Tryz.prog E196.eT 196 (vr07_some.c k):=FnOk.walk (E:=E196) (body:=B196) Tryz.func196 rfl (by rfl) Tryz.ntmps196 rfl S196 rfl (fun k x=>vr07_some.f k x) vr07_some.G (fun k=>trivial) 4000 vr07_some.cuts ⟨⟨fun _=>rfl,fun k x q h=>(vr07_some.w0 k x).trans h⟩,trivial⟩ (fun k x r h=>(vr07_some.w k x).trans h) k
def E216:En:=⟨Tryz.prog,76,Tryz.f216.ntmps,none,false,[]⟩
def S216:Sig:=⟨[.s],[(.int .i64)],false,[.s],[(.int .i64)],false⟩
def B216:Go.Code:=Tryz.f216.body.get!
def vr06_regime.f (a0:Int):Option (Int):=if (wrap64 (4*(wrap64 (Int.tdiv a0 4)))) > a0 then (some (wrap64 ((wrap64 (Int.tdiv a0 4)) - 1))) else (some (wrap64 (Int.tdiv a0 4)))
--@ok
def vr06_regime.c:Con:=S216.con fun x=>vr06_regime.f x
def vr06_regime.G (k:Nat):List (Go.FuncId×Cn):=[]
def vr06_regime.cuts:List (Cut (TT S216.sb)):=[]
theorem vr06_regime.w (k:Nat) (x:TT S216.sa):walk E216 (vr06_regime.G k) (cutsAt E216 k vr06_regime.cuts) (retE E216 Tryz.f216.results.toList S216) 4000 true [([],.code B216)] (St0 S216 x)=vr06_regime.f x:=by kernel_rfl
theorem vr06_regime.ok:FnOk Tryz.prog E216.eT 216 (vr06_regime.c):=FnOk.walk (E:=E216) (body:=B216) Tryz.func216 rfl (by rfl) Tryz.ntmps216 rfl S216 rfl (fun k x=>vr06_regime.f x) vr06_regime.G (fun k=>trivial) 4000 vr06_regime.cuts trivial (fun k x r h=>(vr06_regime.w k x).trans h) 0
end Go.Proofs.YtbpcfhhcoklinaaGreat.Fn
set_option maxRecDepth 100000
noncomputable section
namespace Go.Proofs.YtbpcfhhcoklinaaGreat.Fn
open Go Go.RowKit Go.Proofs.YtbpcfhhcoklinaaGreat.Ab
def E197:En:=⟨Tryz.prog,76,Tryz.f197.ntmps,none,false,[]⟩
def S197:Sig:=⟨[.s],[(.int .i64)],false,[.s],[.str],false⟩
def B197:Go.Code:=Tryz.f197.body.get!
mutual
def vr06_Head.l0:Nat→Int→Int→List Int→Int→Option (ByteArray)
 | 0,_,_,_,_=>none
 | k+1,x0,x3,x4,x5=>if x5≤x3 then (if x4.length < 140737488355328 then (vr06_Head.l0 k x0 x3 (x4++([49]:List Int)) (wrap64 (x5+1))) else (none)) else (vr06_Head.l1 k x0 x3 x4 0)
def vr06_Head.l1:Nat→Int→Int→List Int→Int→Option (ByteArray)
 | 0,_,_,_,_=>none
 | k+1,x0,x3,x4,x6=>if x6 > x3 then (if x4.length < 140737488355328 then (vr06_Head.l1 k x0 x3 (x4++([48]:List Int)) (wrap64 (x6 - 1))) else (none)) else (if x3≥0 then (if x4.length < 140737488355328 then ((vr01_Text.f k (IntKind.u64.wrap (wrap64 (x0 - (wrap64 (4*x3))))) 2).bind fun t101=>(if (((strOfNums (x4++([48]:List Int))).size)+t101.size)≤9223372036854775807 then (some ((strOfNums (x4++([48]:List Int)))++t101)) else (none))) else (none)) else (if x4.length < 140737488355328 then ((vr01_Text.f k (IntKind.u64.wrap (wrap64 (x0 - (wrap64 (4*x3))))) 2).bind fun t102=>(if (((strOfNums (x4++([49]:List Int))).size)+t102.size)≤9223372036854775807 then (some ((strOfNums (x4++([49]:List Int)))++t102)) else (none))) else (none)))
end
def vr06_Head.f (k:Nat) (a0:Int):Option (ByteArray):=(vr06_regime.f a0).bind fun t100=>(vr06_Head.l0 k a0 t100 ([]:List Int) 0)
--@ok
def vr06_Head.c (k:Nat):Con:=S197.con fun x=>vr06_Head.f k x
def vr06_Head.G (k:Nat):List (Go.FuncId×Cn):=[(145,.f (vr01_Text.c k)),(216,.f vr06_regime.c)]
def vr06_Head.cuts:List (Cut (TT S197.sb)):=[⟨[6,4,1,0,1,1,1],[.sc 0 (.int .i64),.sc 3 (.int .i64),.lst 4 .u8 5,.sc 5 (.int .i64)],fun k x=>vr06_Head.l0 k x.1 x.2.1 x.2.2.1 x.2.2.2⟩,⟨[6,4,1,0,1,1,1,1],[.sc 0 (.int .i64),.sc 3 (.int .i64),.lst 4 .u8 5,.sc 6 (.int .i64)],fun k x=>vr06_Head.l1 k x.1 x.2.1 x.2.2.1 x.2.2.2⟩]
theorem vr06_Head.w0 (k:Nat) (x:ET [.sc 0 (.int .i64),.sc 3 (.int .i64),.lst 4 .u8 5,.sc 5 (.int .i64)]):walk E197 (vr06_Head.G k) (cutsAt E197 k vr06_Head.cuts) (retE E197 Tryz.f197.results.toList S197) 4000 true (stackAt B197 [6,4,1,0,1,1,1]) (mkE [.sc 0 (.int .i64),.sc 3 (.int .i64),.lst 4 .u8 5,.sc 5 (.int .i64)] x St.nil)=vr06_Head.l0 (k+1) x.1 x.2.1 x.2.2.1 x.2.2.2:=by kernel_rfl
theorem vr06_Head.w1 (k:Nat) (x:ET [.sc 0 (.int .i64),.sc 3 (.int .i64),.lst 4 .u8 5,.sc 6 (.int .i64)]):walk E197 (vr06_Head.G k) (cutsAt E197 k vr06_Head.cuts) (retE E197 Tryz.f197.results.toList S197) 4000 true (stackAt B197 [6,4,1,0,1,1,1,1]) (mkE [.sc 0 (.int .i64),.sc 3 (.int .i64),.lst 4 .u8 5,.sc 6 (.int .i64)] x St.nil)=vr06_Head.l1 (k+1) x.1 x.2.1 x.2.2.1 x.2.2.2:=by kernel_rfl
theorem vr06_Head.w (k:Nat) (x:TT S197.sa):walk E197 (vr06_Head.G k) (cutsAt E197 k vr06_Head.cuts) (retE E197 Tryz.f197.results.toList S197) 4000 true [([],.code B197)] (St0 S197 x)=vr06_Head.f k x:=by kernel_rfl
theorem vr06_Head.ok (k:Nat):FnOk Tryz.prog E197.eT 197 (vr06_Head.c k):=FnOk.walk (E:=E197) (body:=B197) Tryz.func197 rfl (by rfl) Tryz.ntmps197 rfl S197 rfl (fun k x=>vr06_Head.f k x) vr06_Head.G (fun k=>⟨vr01_Text.ok k,vr06_regime.ok,trivial⟩) 4000 vr06_Head.cuts ⟨⟨fun _=>rfl,fun k x q h=>(vr06_Head.w0 k x).trans h⟩,⟨fun _=>rfl,fun k x q h=>(vr06_Head.w1 k x).trans h⟩,trivial⟩ (fun k x r h=>(vr06_Head.w k x).trans h) k
def E198:En:=⟨Tryz.prog,76,Tryz.f198.ntmps,none,false,[]⟩
def S198:Sig:=⟨[.s,.s],[.str,.bool],false,[.s],[(.int .i64)],false⟩
def B198:Go.Code:=Tryz.f198.body.get!
mutual
def vr07_left.j0:Nat→ByteArray→Bool→Option (Int)
 | 0,_,_=>none
 | k+1,x0,x1=>if 1≤(nI x0.size) then ((vr07_some.f k (x0.extract 1 x0.size)).bind fun t100=>(if 0 < (nI x0.size) then (if (bt x0 0)=49 then (if t100=true then (vr07_left.j1 k x0 x1 t100 true) else (vr07_left.j1 k x0 x1 t100 x1)) else (vr07_left.j1 k x0 x1 t100 false)) else (none))) else (none)
def vr07_left.j1:Nat→ByteArray→Bool→Bool→Bool→Option (Int)
 | 0,_,_,_,_=>none
 | k+1,x0,x1,x5,x11=>if x11=true then (some 3) else (if 0 < (nI x0.size) then (if (bt x0 0)=49 then (some 2) else (if x5=true then (some 1) else (if x1=true then (some 1) else (some 0)))) else (none))
end
def vr07_left.f (k:Nat) (a0:ByteArray) (a1:Bool):Option (Int):=if (a0.toList==([]:List UInt8))=true then (vr07_left.j0 k (⟨#[48]⟩:ByteArray) a1) else (vr07_left.j0 k a0 a1)
--@ok
def vr07_left.c (k:Nat):Con:=S198.con fun x=>vr07_left.f k x.1 x.2
def vr07_left.G (k:Nat):List (Go.FuncId×Cn):=[(196,.f (vr07_some.c k))]
def vr07_left.cuts:List (Cut (TT S198.sb)):=[⟨[1,1],[.sc 0 (.str),.sc 1 (.bool)],fun k x=>vr07_left.j0 k x.1 x.2⟩,⟨[1,4,0,1,1,1],[.sc 0 (.str),.sc 1 (.bool),.sc 5 (.bool),.sc 11 (.bool)],fun k x=>vr07_left.j1 k x.1 x.2.1 x.2.2.1 x.2.2.2⟩]
theorem vr07_left.w0 (k:Nat) (x:ET [.sc 0 (.str),.sc 1 (.bool)]):walk E198 (vr07_left.G k) (cutsAt E198 k vr07_left.cuts) (retE E198 Tryz.f198.results.toList S198) 4000 true (stackAt B198 [1,1]) (mkE [.sc 0 (.str),.sc 1 (.bool)] x St.nil)=vr07_left.j0 (k+1) x.1 x.2:=by kernel_rfl
theorem vr07_left.w1 (k:Nat) (x:ET [.sc 0 (.str),.sc 1 (.bool),.sc 5 (.bool),.sc 11 (.bool)]):walk E198 (vr07_left.G k) (cutsAt E198 k vr07_left.cuts) (retE E198 Tryz.f198.results.toList S198) 4000 true (stackAt B198 [1,4,0,1,1,1]) (mkE [.sc 0 (.str),.sc 1 (.bool),.sc 5 (.bool),.sc 11 (.bool)] x St.nil)=vr07_left.j1 (k+1) x.1 x.2.1 x.2.2.1 x.2.2.2:=by kernel_rfl
theorem vr07_left.w (k:Nat) (x:TT S198.sa):walk E198 (vr07_left.G k) (cutsAt E198 k vr07_left.cuts) (retE E198 Tryz.f198.results.toList S198) 4000 true [([],.code B198)] (St0 S198 x)=vr07_left.f k x.1 x.2:=by kernel_rfl
theorem vr07_left.ok (k:Nat):FnOk Tryz.prog E198.eT 198 (vr07_left.c k):=FnOk.walk (E:=E198) (body:=B198) Tryz.func198 rfl (by rfl) Tryz.ntmps198 rfl S198 rfl (fun k x=>vr07_left.f k x.1 x.2) vr07_left.G (fun k=>⟨vr07_some.ok k,trivial⟩) 4000 vr07_left.cuts ⟨⟨fun _=>rfl,fun k x q h=>(vr07_left.w0 k x).trans h⟩,⟨fun _=>rfl,fun k x q h=>(vr07_left.w1 k x).trans h⟩,trivial⟩ (fun k x r h=>(vr07_left.w k x).trans h) k
def E160:En:=⟨Tryz.prog,76,Tryz.f160.ntmps,none,false,[]⟩
def S160:Sig:=⟨[.s,.g 6],[(.int .i64),(.int .i64),.bool,(.int .i64),(.int .u64),(.int .u64),.bool],true,[.s,.s,.s],[(.int .u64),(.int .i64),(.int .i64)],false⟩
def B160:Go.Code:=Tryz.f160.body.get!
mutual
def vr07_Cut.j0:Nat→Int→Option (Int×Int×Int)
 | 0,_=>none
 | k+1,x9=>some (x9,0,0)
def vr07_Cut.j1:Nat→Int→ByteArray→Bool→Int→Bool→Option (Int×Int×Int)
 | 0,_,_,_,_,_=>none
 | k+1,x0,x10,x11,x3002,x3005=>if x3002≥(wrap64 ((wrap64 (4*x0)) - 8)) then ((vr05_Power.f k (wrap64 (x0 - 1))).bind fun t106=>(some (IntKind.u64.wrap (t106 - 1),0,0))) else (if x3002 < (wrap64 (-(wrap64 ((wrap64 (4*x0)) - 8)))) then (vr07_Cut.j2 k x0 x10 true x3002 x3005) else (if x3002=(wrap64 (-(wrap64 ((wrap64 (4*x0)) - 8)))) then (vr07_Cut.j2 k x0 x10 x11 x3002 x3005) else (vr07_Cut.j2 k x0 x10 false x3002 x3005)))
def vr07_Cut.j2:Nat→Int→ByteArray→Bool→Int→Bool→Option (Int×Int×Int)
 | 0,_,_,_,_,_=>none
 | k+1,x0,x10,x73,x3002,x3005=>if x73=true then (some (1,0,0)) else ((vr06_Head.f k x3002).bind fun t107=>(if (t107.size+x10.size)≤9223372036854775807 then (if 0≤(wrap64 (x0 - 1)) then (if (wrap64 (x0 - 1))≤(nI ((t107++x10).size)) then ((vr01_Number.f k ((t107++x10).extract 0 (((wrap64 (x0 - 1)):Int).toNat))).bind fun t108=>((vr07_left.f k ((t107++x10).extract (((wrap64 (x0 - 1)):Int).toNat) ((t107++x10).size)) x3005).bind fun t109=>(some (t108,t109,0)))) else (none)) else (none)) else (none)))
end
def vr07_Cut.f (k:Nat) (a0:Int) (a1_0:Int) (a1_1:Bool) (a1_2:Int) (a1_3:Int) (a1_4:Int) (a1_5:Bool):Option (Int×Int×Int):=(vr05_Is.f a0).bind fun t100=>((vr07_Sound.f a1_0 a1_1 a1_2 a1_3 a1_4 a1_5).bind fun t101=>(if t100=true then (if t101=true then (if a1_0=1 then ((vr01_Text.f k a1_3 64).bind fun t102=>(if 1≤(nI t102.size) then ((vr01_Text.f k a1_4 64).bind fun t103=>(if (((t102.extract 1 t102.size).size)+t103.size)≤9223372036854775807 then (if a1_5=true then (vr07_Cut.j1 k a0 ((t102.extract 1 t102.size)++t103) false a1_2 a1_5) else ((vr07_some.f k ((t102.extract 1 t102.size)++t103)).bind fun t104=>(vr07_Cut.j1 k a0 ((t102.extract 1 t102.size)++t103) (!t104) a1_2 a1_5))) else (none))) else (none))) else (if a1_0=2 then ((vr05_Power.f k (wrap64 (a0 - 1))).bind fun t105=>(vr07_Cut.j0 k t105)) else (vr07_Cut.j0 k 0))) else (some (0,0,1))) else (some (0,0,2))))
--@ok
def vr07_Cut.j2R (k:Nat) (x0:Int) (x10:ByteArray) (x73:Bool) (x3002:Int) (x3005:Bool):Option (Int×Int×Int):=if x73=true then (some (1,0,0)) else ((vr06_Head.f k x3002).bind fun t107=>(if (t107.size+x10.size)≤9223372036854775807 then (if 0≤(wrap64 (x0 - 1)) then (if (wrap64 (x0 - 1))≤(nI ((t107++x10).size)) then (if 0≤(wrap64 (x0 - 1)) then (if (wrap64 (x0 - 1))≤(nI ((t107++x10).size)) then ((vr01_Number.f k ((t107++x10).extract 0 (((wrap64 (x0 - 1)):Int).toNat))).bind fun t108=>((vr07_left.f k ((t107++x10).extract (((wrap64 (x0 - 1)):Int).toNat) ((t107++x10).size)) x3005).bind fun t109=>(some (t108,t109,0)))) else (none)) else (none)) else (none)) else (none)) else (none)))
theorem vr07_Cut.j2E (k:Nat) (x0:Int) (x10:ByteArray) (x73:Bool) (x3002:Int) (x3005:Bool):vr07_Cut.j2R k x0 x10 x73 x3002 x3005=vr07_Cut.j2 (k+1) x0 x10 x73 x3002 x3005:=by
  unfold vr07_Cut.j2R
  rw [vr07_Cut.j2]
  exact iteC (fun h0=>rfl) (fun h0=>bindC fun _=>iteC (fun h1=>iteC (fun h2=>iteC (fun h3=>(if_pos h2).trans ((if_pos h3).trans (bindC fun _=>bindC fun _=>rfl))) (fun h3=>rfl)) (fun h2=>rfl)) (fun h1=>rfl))
def vr07_Cut.c (k:Nat):Con:=S160.con fun x=>vr07_Cut.f k x.1 x.2.1 x.2.2.1 x.2.2.2.1 x.2.2.2.2.1 x.2.2.2.2.2.1 x.2.2.2.2.2.2
def vr07_Cut.G (k:Nat):List (Go.FuncId×Cn):=[(47,.f vr05_Is.c),(144,.f (vr01_Number.c k)),(145,.f (vr01_Text.c k)),(167,.f vr07_Sound.c),(195,.f (vr05_Power.c k)),(196,.f (vr07_some.c k)),(197,.f (vr06_Head.c k)),(198,.f (vr07_left.c k))]
def vr07_Cut.cuts:List (Cut (TT S160.sb)):=[⟨[1,1,2,1,0,1,1,1,1,1],[.sc 9 (.int .u64)],fun k x=>vr07_Cut.j0 k x⟩,⟨[1,1,1,1,1,1,1,1],[.sc 0 (.int .i64),.sc 10 (.str),.sc 11 (.bool),.box 3 120 [.int .i64,.bool,.int .i64,.int .u64,.int .u64,.bool]],fun k x=>vr07_Cut.j1 k x.1 x.2.1 x.2.2.1 x.2.2.2.2.2.1 x.2.2.2.2.2.2.2.2⟩,⟨[1,0,1,1,1,1,1,1,1,1,1,1],[.sc 0 (.int .i64),.sc 10 (.str),.sc 73 (.bool),.box 3 120 [.int .i64,.bool,.int .i64,.int .u64,.int .u64,.bool]],fun k x=>vr07_Cut.j2 k x.1 x.2.1 x.2.2.1 x.2.2.2.2.2.1 x.2.2.2.2.2.2.2.2⟩]
theorem vr07_Cut.w0 (k:Nat) (x:ET [.sc 9 (.int .u64)]):walk E160 (vr07_Cut.G k) (cutsAt E160 k vr07_Cut.cuts) (retE E160 Tryz.f160.results.toList S160) 4000 true (stackAt B160 [1,1,2,1,0,1,1,1,1,1]) (mkE [.sc 9 (.int .u64)] x St.nil)=vr07_Cut.j0 (k+1) x:=by kernel_rfl
theorem vr07_Cut.w1 (k:Nat) (x:ET [.sc 0 (.int .i64),.sc 10 (.str),.sc 11 (.bool),.box 3 120 [.int .i64,.bool,.int .i64,.int .u64,.int .u64,.bool]]):walk E160 (vr07_Cut.G k) (cutsAt E160 k vr07_Cut.cuts) (retE E160 Tryz.f160.results.toList S160) 4000 true (stackAt B160 [1,1,1,1,1,1,1,1]) (mkE [.sc 0 (.int .i64),.sc 10 (.str),.sc 11 (.bool),.box 3 120 [.int .i64,.bool,.int .i64,.int .u64,.int .u64,.bool]] x St.nil)=vr07_Cut.j1 (k+1) x.1 x.2.1 x.2.2.1 x.2.2.2.2.2.1 x.2.2.2.2.2.2.2.2:=by kernel_rfl
theorem vr07_Cut.w2 (k:Nat) (x:ET [.sc 0 (.int .i64),.sc 10 (.str),.sc 73 (.bool),.box 3 120 [.int .i64,.bool,.int .i64,.int .u64,.int .u64,.bool]]):walk E160 (vr07_Cut.G k) (cutsAt E160 k vr07_Cut.cuts) (retE E160 Tryz.f160.results.toList S160) 4000 true (stackAt B160 [1,0,1,1,1,1,1,1,1,1,1,1]) (mkE [.sc 0 (.int .i64),.sc 10 (.str),.sc 73 (.bool),.box 3 120 [.int .i64,.bool,.int .i64,.int .u64,.int .u64,.bool]] x St.nil)=vr07_Cut.j2 (k+1) x.1 x.2.1 x.2.2.1 x.2.2.2.2.2.1 x.2.2.2.2.2.2.2.2:=Eq.trans (b:=vr07_Cut.j2R k x.1 x.2.1 x.2.2.1 x.2.2.2.2.2.1 x.2.2.2.2.2.2.2.2) (by kernel_rfl) (vr07_Cut.j2E k x.1 x.2.1 x.2.2.1 x.2.2.2.2.2.1 x.2.2.2.2.2.2.2.2)
theorem vr07_Cut.w (k:Nat) (x:TT S160.sa):walk E160 (vr07_Cut.G k) (cutsAt E160 k vr07_Cut.cuts) (retE E160 Tryz.f160.results.toList S160) 4000 true [([],.code B160)] (St0 S160 x)=vr07_Cut.f k x.1 x.2.1 x.2.2.1 x.2.2.2.1 x.2.2.2.2.1 x.2.2.2.2.2.1 x.2.2.2.2.2.2:=by kernel_rfl
theorem vr07_Cut.ok (k:Nat):FnOk Tryz.prog E160.eT 160 (vr07_Cut.c k):=FnOk.walk (E:=E160) (body:=B160) Tryz.func160 rfl (by rfl) Tryz.ntmps160 rfl S160 rfl (fun k x=>vr07_Cut.f k x.1 x.2.1 x.2.2.1 x.2.2.2.1 x.2.2.2.2.1 x.2.2.2.2.2.1 x.2.2.2.2.2.2) vr07_Cut.G (fun k=>⟨vr05_Is.ok,vr01_Number.ok k,vr01_Text.ok k,vr07_Sound.ok,vr05_Power.ok k,vr07_some.ok k,vr06_Head.ok k,vr07_left.ok k,trivial⟩) 4000 vr07_Cut.cuts ⟨⟨fun _=>rfl,fun k x q h=>(vr07_Cut.w0 k x).trans h⟩,⟨fun _=>rfl,fun k x q h=>(vr07_Cut.w1 k x).trans h⟩,⟨fun _=>rfl,fun k x q h=>(vr07_Cut.w2 k x).trans h⟩,trivial⟩ (fun k x r h=>(vr07_Cut.w k x).trans h) k
def E161:En:=⟨Tryz.prog,76,Tryz.f161.ntmps,none,false,[]⟩
def S161:Sig:=⟨[.s,.s],[(.int .i64),(.int .u64)],false,[.s],[(.int .u64)],false⟩
def B161:Go.Code:=Tryz.f161.body.get!
def vr06_Neg.f (k:Nat) (a0:Int) (a1:Int):Option (Int):=(vr06_Fold.f k a0 (IntKind.u64.wrap (-a1))).bind fun t100=>(some t100)
--@ok
def vr06_Neg.c (k:Nat):Con:=S161.con fun x=>vr06_Neg.f k x.1 x.2
def vr06_Neg.G (k:Nat):List (Go.FuncId×Cn):=[(48,.f (vr06_Fold.c k))]
def vr06_Neg.cuts:List (Cut (TT S161.sb)):=[]
theorem vr06_Neg.w (k:Nat) (x:TT S161.sa):walk E161 (vr06_Neg.G k) (cutsAt E161 k vr06_Neg.cuts) (retE E161 Tryz.f161.results.toList S161) 4000 true [([],.code B161)] (St0 S161 x)=vr06_Neg.f k x.1 x.2:=by kernel_rfl
theorem vr06_Neg.ok (k:Nat):FnOk Tryz.prog E161.eT 161 (vr06_Neg.c k):=FnOk.walk (E:=E161) (body:=B161) Tryz.func161 rfl (by rfl) Tryz.ntmps161 rfl S161 rfl (fun k x=>vr06_Neg.f k x.1 x.2) vr06_Neg.G (fun k=>⟨vr06_Fold.ok k,trivial⟩) 4000 vr06_Neg.cuts trivial (fun k x r h=>(vr06_Neg.w k x).trans h) k
def E117:En:=⟨Tryz.prog,76,Tryz.f117.ntmps,none,false,[]⟩
def S117:Sig:=⟨[.s,.g 6],[(.int .i64),(.int .i64),.bool,(.int .i64),(.int .u64),(.int .u64),.bool],true,[.s,.s],[(.int .u64),(.int .i64)],false⟩
def B117:Go.Code:=Tryz.f117.body.get!
def vr07_Rounds.j0:Nat→Int→Int→Bool→Bool→Option (Int×Int)
 | 0,_,_,_,_=>none
 | k+1,x0,x6,x29,x3001=>if x29=true then (if x3001=true then ((vr06_Neg.f k x0 (IntKind.u64.wrap (x6+1))).bind fun t101=>(some (t101,0))) else (some (IntKind.u64.wrap (x6+1),0))) else (if x3001=true then ((vr06_Neg.f k x0 x6).bind fun t102=>(some (t102,0))) else (some (x6,0)))
def vr07_Rounds.f (k:Nat) (a0:Int) (a1_0:Int) (a1_1:Bool) (a1_2:Int) (a1_3:Int) (a1_4:Int) (a1_5:Bool):Option (Int×Int):=(vr07_Cut.f k a0 a1_0 a1_1 a1_2 a1_3 a1_4 a1_5).bind fun t100=>(if t100.2.2=0 then (if t100.2.1=3 then (vr07_Rounds.j0 k a0 t100.1 true a1_1) else (if t100.2.1=2 then (vr07_Rounds.j0 k a0 t100.1 ((Int.tmod t100.1 2)==1) a1_1) else (vr07_Rounds.j0 k a0 t100.1 false a1_1))) else (some (0,t100.2.2)))
--@ok
def vr07_Rounds.c (k:Nat):Con:=S117.con fun x=>vr07_Rounds.f k x.1 x.2.1 x.2.2.1 x.2.2.2.1 x.2.2.2.2.1 x.2.2.2.2.2.1 x.2.2.2.2.2.2
def vr07_Rounds.G (k:Nat):List (Go.FuncId×Cn):=[(160,.f (vr07_Cut.c k)),(161,.f (vr06_Neg.c k))]
def vr07_Rounds.cuts:List (Cut (TT S117.sb)):=[⟨[1,0,1,1,1],[.sc 0 (.int .i64),.sc 6 (.int .u64),.sc 29 (.bool),.box 3 120 [.int .i64,.bool,.int .i64,.int .u64,.int .u64,.bool]],fun k x=>vr07_Rounds.j0 k x.1 x.2.1 x.2.2.1 x.2.2.2.2.1⟩]
theorem vr07_Rounds.w0 (k:Nat) (x:ET [.sc 0 (.int .i64),.sc 6 (.int .u64),.sc 29 (.bool),.box 3 120 [.int .i64,.bool,.int .i64,.int .u64,.int .u64,.bool]]):walk E117 (vr07_Rounds.G k) (cutsAt E117 k vr07_Rounds.cuts) (retE E117 Tryz.f117.results.toList S117) 4000 true (stackAt B117 [1,0,1,1,1]) (mkE [.sc 0 (.int .i64),.sc 6 (.int .u64),.sc 29 (.bool),.box 3 120 [.int .i64,.bool,.int .i64,.int .u64,.int .u64,.bool]] x St.nil)=vr07_Rounds.j0 (k+1) x.1 x.2.1 x.2.2.1 x.2.2.2.2.1:=by kernel_rfl
theorem vr07_Rounds.w (k:Nat) (x:TT S117.sa):walk E117 (vr07_Rounds.G k) (cutsAt E117 k vr07_Rounds.cuts) (retE E117 Tryz.f117.results.toList S117) 4000 true [([],.code B117)] (St0 S117 x)=vr07_Rounds.f k x.1 x.2.1 x.2.2.1 x.2.2.2.1 x.2.2.2.2.1 x.2.2.2.2.2.1 x.2.2.2.2.2.2:=by kernel_rfl
theorem vr07_Rounds.ok (k:Nat):FnOk Tryz.prog E117.eT 117 (vr07_Rounds.c k):=FnOk.walk (E:=E117) (body:=B117) Tryz.func117 rfl (by rfl) Tryz.ntmps117 rfl S117 rfl (fun k x=>vr07_Rounds.f k x.1 x.2.1 x.2.2.1 x.2.2.2.1 x.2.2.2.2.1 x.2.2.2.2.2.1 x.2.2.2.2.2.2) vr07_Rounds.G (fun k=>⟨vr07_Cut.ok k,vr06_Neg.ok k,trivial⟩) 4000 vr07_Rounds.cuts ⟨⟨fun _=>rfl,fun k x q h=>(vr07_Rounds.w0 k x).trans h⟩,trivial⟩ (fun k x r h=>(vr07_Rounds.w k x).trans h) k
def E76:En:=⟨Tryz.prog,76,Tryz.f76.ntmps,none,false,[]⟩
def S76:Sig:=⟨[.s,.g 6],[(.int .i64),(.int .i64),.bool,(.int .i64),(.int .u64),(.int .u64),.bool],false,[.s],[(.int .u64)],false⟩
def B76:Go.Code:=Tryz.f76.body.get!
def vr07_Round.f (k:Nat) (a0:Int) (a1_0:Int) (a1_1:Bool) (a1_2:Int) (a1_3:Int) (a1_4:Int) (a1_5:Bool):Option (Int):=(vr07_Rounds.f k a0 a1_0 a1_1 a1_2 a1_3 a1_4 a1_5).bind fun t100=>(some t100.1)
--@ok
def vr07_Round.c (k:Nat):Con:=S76.con fun x=>vr07_Round.f k x.1 x.2.1 x.2.2.1 x.2.2.2.1 x.2.2.2.2.1 x.2.2.2.2.2.1 x.2.2.2.2.2.2
def vr07_Round.G (k:Nat):List (Go.FuncId×Cn):=[(117,.f (vr07_Rounds.c k))]
def vr07_Round.cuts:List (Cut (TT S76.sb)):=[]
theorem vr07_Round.w (k:Nat) (x:TT S76.sa):walk E76 (vr07_Round.G k) (cutsAt E76 k vr07_Round.cuts) (retE E76 Tryz.f76.results.toList S76) 4000 true [([],.code B76)] (St0 S76 x)=vr07_Round.f k x.1 x.2.1 x.2.2.1 x.2.2.2.1 x.2.2.2.2.1 x.2.2.2.2.2.1 x.2.2.2.2.2.2:=by kernel_rfl
theorem vr07_Round.ok (k:Nat):FnOk Tryz.prog E76.eT 76 (vr07_Round.c k):=FnOk.walk (E:=E76) (body:=B76) Tryz.func76 rfl (by rfl) Tryz.ntmps76 rfl S76 rfl (fun k x=>vr07_Round.f k x.1 x.2.1 x.2.2.1 x.2.2.2.1 x.2.2.2.2.1 x.2.2.2.2.2.1 x.2.2.2.2.2.2) vr07_Round.G (fun k=>⟨vr07_Rounds.ok k,trivial⟩) 4000 vr07_Round.cuts trivial (fun k x r h=>(vr07_Round.w k x).trans h) k
def E146:En:=⟨Tryz.prog,76,Tryz.f146.ntmps,none,false,[]⟩
def S146:Sig:=⟨[.g 4],[(.int .i64),.bool,(.int .i64),(.int .u64)],false,[.s],[.bool],false⟩
def B146:Go.Code:=Tryz.f146.body.get!
def vr06_Sound.f (a0_0:Int) (a0_1:Bool) (a0_2:Int) (a0_3:Int):Option (Bool):=if a0_0=0 then (some ((a0_0==a0_0)&&((!a0_1)&&((a0_2==0)&&(a0_3==0))))) else (if a0_0=2 then (some ((a0_0==a0_0)&&((!a0_1)&&((a0_2==0)&&(a0_3==0))))) else (if a0_0=1 then (if a0_3≥9223372036854775808 then (if a0_2≥(-1073741824) then (some (decide (a0_2≤1073741824))) else (some false)) else (some false)) else (some false)))
--@ok
def vr06_Sound.c:Con:=S146.con fun x=>vr06_Sound.f x.1 x.2.1 x.2.2.1 x.2.2.2
def vr06_Sound.G (k:Nat):List (Go.FuncId×Cn):=[]
def vr06_Sound.cuts:List (Cut (TT S146.sb)):=[]
theorem vr06_Sound.w (k:Nat) (x:TT S146.sa):walk E146 (vr06_Sound.G k) (cutsAt E146 k vr06_Sound.cuts) (retE E146 Tryz.f146.results.toList S146) 4000 true [([],.code B146)] (St0 S146 x)=vr06_Sound.f x.1 x.2.1 x.2.2.1 x.2.2.2:=by kernel_rfl
theorem vr06_Sound.ok:FnOk Tryz.prog E146.eT 146 (vr06_Sound.c):=FnOk.walk (E:=E146) (body:=B146) Tryz.func146 rfl (by rfl) Tryz.ntmps146 rfl S146 rfl (fun k x=>vr06_Sound.f x.1 x.2.1 x.2.2.1 x.2.2.2) vr06_Sound.G (fun k=>trivial) 4000 vr06_Sound.cuts trivial (fun k x r h=>(vr06_Sound.w k x).trans h) 0
def E99:En:=⟨Tryz.prog,76,Tryz.f99.ntmps,none,false,[]⟩
def S99:Sig:=⟨[.g 4],[(.int .i64),.bool,(.int .i64),(.int .u64)],true,[.g 6,.s],[(.int .i64),.bool,(.int .i64),(.int .u64),(.int .u64),.bool,(.int .i64)],false⟩
def B99:Go.Code:=Tryz.f99.body.get!
def vr07_Of.f (a0_0:Int) (a0_1:Bool) (a0_2:Int) (a0_3:Int):Option (Int×Bool×Int×Int×Int×Bool×Int):=(vr06_Sound.f a0_0 a0_1 a0_2 a0_3).bind fun t100=>(if t100=true then (some (a0_0,a0_1,a0_2,a0_3,0,false,0)) else (some (0,false,0,0,0,false,1)))
--@ok
def vr07_Of.c:Con:=S99.con fun x=>vr07_Of.f x.1 x.2.1 x.2.2.1 x.2.2.2
def vr07_Of.G (k:Nat):List (Go.FuncId×Cn):=[(146,.f vr06_Sound.c)]
def vr07_Of.cuts:List (Cut (TT S99.sb)):=[]
theorem vr07_Of.w (k:Nat) (x:TT S99.sa):walk E99 (vr07_Of.G k) (cutsAt E99 k vr07_Of.cuts) (retE E99 Tryz.f99.results.toList S99) 4000 true [([],.code B99)] (St0 S99 x)=vr07_Of.f x.1 x.2.1 x.2.2.1 x.2.2.2:=by kernel_rfl
theorem vr07_Of.ok:FnOk Tryz.prog E99.eT 99 (vr07_Of.c):=FnOk.walk (E:=E99) (body:=B99) Tryz.func99 rfl (by rfl) Tryz.ntmps99 rfl S99 rfl (fun k x=>vr07_Of.f x.1 x.2.1 x.2.2.1 x.2.2.2) vr07_Of.G (fun k=>⟨vr06_Sound.ok,trivial⟩) 4000 vr07_Of.cuts trivial (fun k x r h=>(vr07_Of.w k x).trans h) 0
def E190:En:=⟨Tryz.prog,76,Tryz.f190.ntmps,none,false,[]⟩
def S190:Sig:=⟨[.s,.s],[(.int .i64),(.int .u64)],true,[.s,.s],[(.int .i64),(.int .i64)],false⟩
def B190:Go.Code:=Tryz.f190.body.get!
def vr05_Kind.f (k:Nat) (a0:Int) (a1:Int):Option (Int×Int):=(vr05_Fold.f k a0 a1).bind fun t100=>(if t100.2=0 then (if t100.1=0 then (some (0,0)) else ((vr05_Power.f k (wrap64 (a0 - 1))).bind fun t101=>(if t100.1=t101 then (some (2,0)) else (some (1,0))))) else (some (0,t100.2)))
--@ok
def vr05_Kind.c (k:Nat):Con:=S190.con fun x=>vr05_Kind.f k x.1 x.2
def vr05_Kind.G (k:Nat):List (Go.FuncId×Cn):=[(98,.f (vr05_Fold.c k)),(195,.f (vr05_Power.c k))]
def vr05_Kind.cuts:List (Cut (TT S190.sb)):=[]
theorem vr05_Kind.w (k:Nat) (x:TT S190.sa):walk E190 (vr05_Kind.G k) (cutsAt E190 k vr05_Kind.cuts) (retE E190 Tryz.f190.results.toList S190) 4000 true [([],.code B190)] (St0 S190 x)=vr05_Kind.f k x.1 x.2:=by kernel_rfl
theorem vr05_Kind.ok (k:Nat):FnOk Tryz.prog E190.eT 190 (vr05_Kind.c k):=FnOk.walk (E:=E190) (body:=B190) Tryz.func190 rfl (by rfl) Tryz.ntmps190 rfl S190 rfl (fun k x=>vr05_Kind.f k x.1 x.2) vr05_Kind.G (fun k=>⟨vr05_Fold.ok k,vr05_Power.ok k,trivial⟩) 4000 vr05_Kind.cuts trivial (fun k x r h=>(vr05_Kind.w k x).trans h) k
def E211:En:=⟨Tryz.prog,76,Tryz.f211.ntmps,none,false,[]⟩
def S211:Sig:=⟨[.s,.s],[(.int .i64),(.int .u64)],false,[.s],[.str],false⟩
def B211:Go.Code:=Tryz.f211.body.get!
def vr06_String.f (k:Nat) (a0:Int) (a1:Int):Option (ByteArray):=(vr01_Text.f k a1 a0).bind fun t100=>(if 0 < (nI t100.size) then (if (bt t100 0)=49 then ((vr01_Text.f k (IntKind.u64.wrap (-a1)) a0).bind fun t101=>(if 1≤(nI t101.size) then (some (t101.extract 1 t101.size)) else (none))) else (if 1≤(nI t100.size) then (some (t100.extract 1 t100.size)) else (none))) else (none))
--@ok
def vr06_String.c (k:Nat):Con:=S211.con fun x=>vr06_String.f k x.1 x.2
def vr06_String.G (k:Nat):List (Go.FuncId×Cn):=[(145,.f (vr01_Text.c k))]
def vr06_String.cuts:List (Cut (TT S211.sb)):=[]
theorem vr06_String.w (k:Nat) (x:TT S211.sa):walk E211 (vr06_String.G k) (cutsAt E211 k vr06_String.cuts) (retE E211 Tryz.f211.results.toList S211) 4000 true [([],.code B211)] (St0 S211 x)=vr06_String.f k x.1 x.2:=by kernel_rfl
theorem vr06_String.ok (k:Nat):FnOk Tryz.prog E211.eT 211 (vr06_String.c k):=FnOk.walk (E:=E211) (body:=B211) Tryz.func211 rfl (by rfl) Tryz.ntmps211 rfl S211 rfl (fun k x=>vr06_String.f k x.1 x.2) vr06_String.G (fun k=>⟨vr01_Text.ok k,trivial⟩) 4000 vr06_String.cuts trivial (fun k x r h=>(vr06_String.w k x).trans h) k
def E212:En:=⟨Tryz.prog,76,Tryz.f212.ntmps,none,false,[]⟩
def S212:Sig:=⟨[.s],[.str],false,[.s],[(.int .i64)],false⟩
def B212:Go.Code:=Tryz.f212.body.get!
def vr06_run.l0:Nat→ByteArray→Int→Option (Int)
 | 0,_,_=>none
 | k+1,x0,x3=>if x3 < (nI x0.size) then (if 0≤x3 then (if 0 < (nI x0.size) then (if (bt x0 x3)=(bt x0 0) then (vr06_run.l0 k x0 (wrap64 (x3+1))) else (some x3)) else (none)) else (none)) else (some x3)
def vr06_run.f (k:Nat) (a0:ByteArray):Option (Int):=vr06_run.l0 k a0 0
--@ok
def vr06_run.l0R (k:Nat) (x0:ByteArray) (x3:Int):Option (Int):=if x3 < (nI x0.size) then (if 0≤x3 then (if x3 < (nI x0.size) then (if 0 < (nI x0.size) then (if (bt x0 x3)=(bt x0 0) then (vr06_run.l0 k x0 (wrap64 (x3+1))) else (some x3)) else (none)) else (none)) else (none)) else (some x3)
theorem vr06_run.l0E (k:Nat) (x0:ByteArray) (x3:Int):vr06_run.l0R k x0 x3=vr06_run.l0 (k+1) x0 x3:=by
  unfold vr06_run.l0R
  rw [vr06_run.l0]
  exact iteC (fun h0=>iteC (fun h1=>(if_pos h0).trans (iteC (fun h2=>iteC (fun h3=>rfl) (fun h3=>rfl)) (fun h2=>rfl))) (fun h1=>rfl)) (fun h0=>rfl)
def vr06_run.c (k:Nat):Con:=S212.con fun x=>vr06_run.f k x
def vr06_run.G (k:Nat):List (Go.FuncId×Cn):=[]
def vr06_run.cuts:List (Cut (TT S212.sb)):=[⟨[6,4,0,1,1],[.sc 0 (.str),.sc 3 (.int .i64)],fun k x=>vr06_run.l0 k x.1 x.2⟩]
theorem vr06_run.w0 (k:Nat) (x:ET [.sc 0 (.str),.sc 3 (.int .i64)]):walk E212 (vr06_run.G k) (cutsAt E212 k vr06_run.cuts) (retE E212 Tryz.f212.results.toList S212) 4000 true (stackAt B212 [6,4,0,1,1]) (mkE [.sc 0 (.str),.sc 3 (.int .i64)] x St.nil)=vr06_run.l0 (k+1) x.1 x.2:=Eq.trans (b:=vr06_run.l0R k x.1 x.2) (by kernel_rfl) (vr06_run.l0E k x.1 x.2)
theorem vr06_run.w (k:Nat) (x:TT S212.sa):walk E212 (vr06_run.G k) (cutsAt E212 k vr06_run.cuts) (retE E212 Tryz.f212.results.toList S212) 4000 true [([],.code B212)] (St0 S212 x)=vr06_run.f k x:=by kernel_rfl
theorem vr06_run.ok (k:Nat):FnOk Tryz.prog E212.eT 212 (vr06_run.c k):=FnOk.walk (E:=E212) (body:=B212) Tryz.func212 rfl (by rfl) Tryz.ntmps212 rfl S212 rfl (fun k x=>vr06_run.f k x) vr06_run.G (fun k=>trivial) 4000 vr06_run.cuts ⟨⟨fun _=>rfl,fun k x q h=>(vr06_run.w0 k x).trans h⟩,trivial⟩ (fun k x r h=>(vr06_run.w k x).trans h) k
def E191:En:=⟨Tryz.prog,76,Tryz.f191.ntmps,none,false,[]⟩
def S191:Sig:=⟨[.s,.s],[(.int .i64),(.int .u64)],true,[.g 8,.s],[.bool,.bool,(.int .i64),(.int .i64),(.int .i64),(.int .i64),(.int .i64),(.int .u64),(.int .i64)],false⟩
def B191:Go.Code:=Tryz.f191.body.get!
mutual
def vr06_Split.j0:Nat→Int→Int→Int→Bool→Option (Bool×Bool×Int×Int×Int×Int×Int×Int×Int)
 | 0,_,_,_,_=>none
 | k+1,x0,x1,x7,x23=>if x23=true then (some (false,false,0,0,0,0,0,0,x7)) else ((vr06_String.f k x0 x1).bind fun t101=>(if 0 < (nI t101.size) then ((vr01_Text.f k x1 x0).bind fun t102=>(if 0 < (nI t102.size) then ((vr06_run.f k t101).bind fun t103=>(if (bt t101 0)=49 then (vr06_Split.j1 k t101 ((bt t102 0)==49) ((bt t101 0)==49) t103 (wrap64 (t103 - 1))) else (vr06_Split.j1 k t101 ((bt t102 0)==49) ((bt t101 0)==49) t103 (wrap64 (-t103))))) else (none))) else (none)))
def vr06_Split.j1:Nat→ByteArray→Bool→Bool→Int→Int→Option (Bool×Bool×Int×Int×Int×Int×Int×Int×Int)
 | 0,_,_,_,_,_=>none
 | k+1,x8,x9000,x9001,x9002,x9003=>if x9002 < (nI x8.size) then (if 0≤(wrap64 (x9002+1)) then (if (wrap64 (x9002+1))≤(nI x8.size) then (vr06_Split.j2 k (x8.extract (((wrap64 (x9002+1)):Int).toNat) x8.size) x9000 x9001 x9002 x9003) else (none)) else (none)) else (vr06_Split.j2 k (⟨#[]⟩:ByteArray) x9000 x9001 x9002 x9003)
def vr06_Split.j2:Nat→ByteArray→Bool→Bool→Int→Int→Option (Bool×Bool×Int×Int×Int×Int×Int×Int×Int)
 | 0,_,_,_,_,_=>none
 | k+1,x10,x9000,x9001,x9002,x9003=>if (nI x10.size) > 2 then (if 2≤(nI x10.size) then (if (((x10.extract 0 2).size)+2)≤9223372036854775807 then (if 2≤(nI (((x10.extract 0 2)++(⟨#[48,48]⟩:ByteArray)).size)) then ((vr01_Number.f k (((x10.extract 0 2)++(⟨#[48,48]⟩:ByteArray)).extract 0 2)).bind fun t104=>((vr01_Number.f k (x10.extract 2 x10.size)).bind fun t105=>(some (x9000,x9001,x9002,x9003,2,wrap64 t104,wrap64 ((nI x10.size) - 2),t105,0)))) else (none)) else (none)) else (none)) else (if (nI x10.size)≤(nI x10.size) then (if (((x10.extract 0 (((nI x10.size):Int).toNat)).size)+2)≤9223372036854775807 then (if 2≤(nI (((x10.extract 0 (((nI x10.size):Int).toNat))++(⟨#[48,48]⟩:ByteArray)).size)) then ((vr01_Number.f k (((x10.extract 0 (((nI x10.size):Int).toNat))++(⟨#[48,48]⟩:ByteArray)).extract 0 2)).bind fun t106=>((vr01_Number.f k (x10.extract (((nI x10.size):Int).toNat) x10.size)).bind fun t107=>(some (x9000,x9001,x9002,x9003,nI x10.size,wrap64 t106,wrap64 ((nI x10.size) - (nI x10.size)),t107,0)))) else (none)) else (none)) else (none))
end
def vr06_Split.f (k:Nat) (a0:Int) (a1:Int):Option (Bool×Bool×Int×Int×Int×Int×Int×Int×Int):=(vr05_Kind.f k a0 a1).bind fun t100=>(if t100.2=0 then (vr06_Split.j0 k a0 a1 t100.2 (t100.1 != 1)) else (vr06_Split.j0 k a0 a1 t100.2 true))
--@ok
def vr06_Split.j2R (k:Nat) (x10:ByteArray) (x9000:Bool) (x9001:Bool) (x9002:Int) (x9003:Int):Option (Bool×Bool×Int×Int×Int×Int×Int×Int×Int):=if (nI x10.size) > 2 then (if 2≤(nI x10.size) then (if (((x10.extract 0 2).size)+2)≤9223372036854775807 then (if 2≤(nI (((x10.extract 0 2)++(⟨#[48,48]⟩:ByteArray)).size)) then ((vr01_Number.f k (((x10.extract 0 2)++(⟨#[48,48]⟩:ByteArray)).extract 0 2)).bind fun t104=>(if 2≤(nI x10.size) then ((vr01_Number.f k (x10.extract 2 x10.size)).bind fun t105=>(some (x9000,x9001,x9002,x9003,2,wrap64 t104,wrap64 ((nI x10.size) - 2),t105,0))) else (none))) else (none)) else (none)) else (none)) else (if (nI x10.size)≤(nI x10.size) then (if (((x10.extract 0 (((nI x10.size):Int).toNat)).size)+2)≤9223372036854775807 then (if 2≤(nI (((x10.extract 0 (((nI x10.size):Int).toNat))++(⟨#[48,48]⟩:ByteArray)).size)) then ((vr01_Number.f k (((x10.extract 0 (((nI x10.size):Int).toNat))++(⟨#[48,48]⟩:ByteArray)).extract 0 2)).bind fun t106=>(if (nI x10.size)≤(nI x10.size) then ((vr01_Number.f k (x10.extract (((nI x10.size):Int).toNat) x10.size)).bind fun t107=>(some (x9000,x9001,x9002,x9003,nI x10.size,wrap64 t106,wrap64 ((nI x10.size) - (nI x10.size)),t107,0))) else (none))) else (none)) else (none)) else (none))
theorem vr06_Split.j2E (k:Nat) (x10:ByteArray) (x9000:Bool) (x9001:Bool) (x9002:Int) (x9003:Int):vr06_Split.j2R k x10 x9000 x9001 x9002 x9003=vr06_Split.j2 (k+1) x10 x9000 x9001 x9002 x9003:=by
  unfold vr06_Split.j2R
  rw [vr06_Split.j2]
  exact iteC (fun h0=>iteC (fun h1=>iteC (fun h2=>iteC (fun h3=>bindC fun _=>(if_pos h1).trans (bindC fun _=>rfl)) (fun h3=>rfl)) (fun h2=>rfl)) (fun h1=>rfl)) (fun h0=>iteC (fun h1=>iteC (fun h2=>iteC (fun h3=>bindC fun _=>(if_pos h1).trans (bindC fun _=>rfl)) (fun h3=>rfl)) (fun h2=>rfl)) (fun h1=>rfl))
def vr06_Split.c (k:Nat):Con:=S191.con fun x=>vr06_Split.f k x.1 x.2
def vr06_Split.G (k:Nat):List (Go.FuncId×Cn):=[(144,.f (vr01_Number.c k)),(145,.f (vr01_Text.c k)),(190,.f (vr05_Kind.c k)),(211,.f (vr06_String.c k)),(212,.f (vr06_run.c k))]
def vr06_Split.cuts:List (Cut (TT S191.sb)):=[⟨[1,0,1,1],[.sc 0 (.int .i64),.sc 1 (.int .u64),.sc 7 (.int .i64),.sc 23 (.bool),.box 4 175 [.bool,.bool,.int .i64,.int .i64,.int .i64,.int .i64,.int .i64,.int .u64]],fun k x=>vr06_Split.j0 k x.1 x.2.1 x.2.2.1 x.2.2.2.1⟩,⟨[1,1,1,1,1,1,1],[.sc 8 (.str),.box 4 175 [.bool,.bool,.int .i64,.int .i64,.int .i64,.int .i64,.int .i64,.int .u64],.box 9 175 [.bool,.bool,.int .i64,.int .i64,.int .i64,.int .i64,.int .i64,.int .u64]],fun k x=>vr06_Split.j1 k x.1 x.2.2.1 x.2.2.2.1 x.2.2.2.2.1 x.2.2.2.2.2.1⟩,⟨[1,1,1,1,1,1,1,1,1],[.sc 10 (.str),.box 4 175 [.bool,.bool,.int .i64,.int .i64,.int .i64,.int .i64,.int .i64,.int .u64],.box 9 175 [.bool,.bool,.int .i64,.int .i64,.int .i64,.int .i64,.int .i64,.int .u64]],fun k x=>vr06_Split.j2 k x.1 x.2.2.1 x.2.2.2.1 x.2.2.2.2.1 x.2.2.2.2.2.1⟩]
theorem vr06_Split.w0 (k:Nat) (x:ET [.sc 0 (.int .i64),.sc 1 (.int .u64),.sc 7 (.int .i64),.sc 23 (.bool),.box 4 175 [.bool,.bool,.int .i64,.int .i64,.int .i64,.int .i64,.int .i64,.int .u64]]):walk E191 (vr06_Split.G k) (cutsAt E191 k vr06_Split.cuts) (retE E191 Tryz.f191.results.toList S191) 4000 true (stackAt B191 [1,0,1,1]) (mkE [.sc 0 (.int .i64),.sc 1 (.int .u64),.sc 7 (.int .i64),.sc 23 (.bool),.box 4 175 [.bool,.bool,.int .i64,.int .i64,.int .i64,.int .i64,.int .i64,.int .u64]] x St.nil)=vr06_Split.j0 (k+1) x.1 x.2.1 x.2.2.1 x.2.2.2.1:=by kernel_rfl
theorem vr06_Split.w1 (k:Nat) (x:ET [.sc 8 (.str),.box 4 175 [.bool,.bool,.int .i64,.int .i64,.int .i64,.int .i64,.int .i64,.int .u64],.box 9 175 [.bool,.bool,.int .i64,.int .i64,.int .i64,.int .i64,.int .i64,.int .u64]]):walk E191 (vr06_Split.G k) (cutsAt E191 k vr06_Split.cuts) (retE E191 Tryz.f191.results.toList S191) 4000 true (stackAt B191 [1,1,1,1,1,1,1]) (mkE [.sc 8 (.str),.box 4 175 [.bool,.bool,.int .i64,.int .i64,.int .i64,.int .i64,.int .i64,.int .u64],.box 9 175 [.bool,.bool,.int .i64,.int .i64,.int .i64,.int .i64,.int .i64,.int .u64]] x St.nil)=vr06_Split.j1 (k+1) x.1 x.2.2.1 x.2.2.2.1 x.2.2.2.2.1 x.2.2.2.2.2.1:=by kernel_rfl
theorem vr06_Split.w2 (k:Nat) (x:ET [.sc 10 (.str),.box 4 175 [.bool,.bool,.int .i64,.int .i64,.int .i64,.int .i64,.int .i64,.int .u64],.box 9 175 [.bool,.bool,.int .i64,.int .i64,.int .i64,.int .i64,.int .i64,.int .u64]]):walk E191 (vr06_Split.G k) (cutsAt E191 k vr06_Split.cuts) (retE E191 Tryz.f191.results.toList S191) 4000 true (stackAt B191 [1,1,1,1,1,1,1,1,1]) (mkE [.sc 10 (.str),.box 4 175 [.bool,.bool,.int .i64,.int .i64,.int .i64,.int .i64,.int .i64,.int .u64],.box 9 175 [.bool,.bool,.int .i64,.int .i64,.int .i64,.int .i64,.int .i64,.int .u64]] x St.nil)=vr06_Split.j2 (k+1) x.1 x.2.2.1 x.2.2.2.1 x.2.2.2.2.1 x.2.2.2.2.2.1:=Eq.trans (b:=vr06_Split.j2R k x.1 x.2.2.1 x.2.2.2.1 x.2.2.2.2.1 x.2.2.2.2.2.1) (by kernel_rfl) (vr06_Split.j2E k x.1 x.2.2.1 x.2.2.2.1 x.2.2.2.2.1 x.2.2.2.2.2.1)
theorem vr06_Split.w (k:Nat) (x:TT S191.sa):walk E191 (vr06_Split.G k) (cutsAt E191 k vr06_Split.cuts) (retE E191 Tryz.f191.results.toList S191) 4000 true [([],.code B191)] (St0 S191 x)=vr06_Split.f k x.1 x.2:=by kernel_rfl
theorem vr06_Split.ok (k:Nat):FnOk Tryz.prog E191.eT 191 (vr06_Split.c k):=FnOk.walk (E:=E191) (body:=B191) Tryz.func191 rfl (by rfl) Tryz.ntmps191 rfl S191 rfl (fun k x=>vr06_Split.f k x.1 x.2) vr06_Split.G (fun k=>⟨vr01_Number.ok k,vr01_Text.ok k,vr05_Kind.ok k,vr06_String.ok k,vr06_run.ok k,trivial⟩) 4000 vr06_Split.cuts ⟨⟨fun _=>rfl,fun k x q h=>(vr06_Split.w0 k x).trans h⟩,⟨fun _=>rfl,fun k x q h=>(vr06_Split.w1 k x).trans h⟩,⟨fun _=>rfl,fun k x q h=>(vr06_Split.w2 k x).trans h⟩,trivial⟩ (fun k x r h=>(vr06_Split.w k x).trans h) k
end Go.Proofs.YtbpcfhhcoklinaaGreat.Fn
set_option maxRecDepth 100000
noncomputable section
namespace Go.Proofs.YtbpcfhhcoklinaaGreat.Fn
open Go Go.RowKit Go.Proofs.YtbpcfhhcoklinaaGreat.Ab
def E147:En:=⟨Tryz.prog,76,Tryz.f147.ntmps,none,false,[]⟩
def S147:Sig:=⟨[.s,.s],[(.int .i64),(.int .u64)],true,[.g 4,.s],[(.int .i64),.bool,(.int .i64),(.int .u64),(.int .i64)],false⟩
def B147:Go.Code:=Tryz.f147.body.get!
mutual
def vr06_Decodes.j0:Nat→Int→Int→Int→Int→Bool→Option (Int×Bool×Int×Int×Int)
 | 0,_,_,_,_,_=>none
 | k+1,x0,x1,x6,x7,x23=>if x23=true then (some (x6,false,0,0,x7)) else ((vr06_Split.f k x0 x1).bind fun t101=>((vr01_Text.f k t101.2.2.2.2.2.2.2.1 t101.2.2.2.2.2.2.1).bind fun t102=>(if (1+t102.size)≤9223372036854775807 then (vr06_Decodes.l0 k ((⟨#[49]⟩:ByteArray)++t102) x6 t101.1 (wrap64 ((wrap64 (4*t101.2.2.2.1))+t101.2.2.2.2.2.1))) else (none))))
def vr06_Decodes.l0:Nat→ByteArray→Int→Bool→Int→Option (Int×Bool×Int×Int×Int)
 | 0,_,_,_,_=>none
 | k+1,x11,x10000,x10001,x10002=>if (nI x11.size) < 64 then (if x11.size < 9223372036854775807 then (vr06_Decodes.l0 k (x11++(⟨#[48]⟩:ByteArray)) x10000 x10001 x10002) else (none)) else ((vr01_Number.f k x11).bind fun t103=>(some (x10000,x10001,x10002,t103,0)))
end
def vr06_Decodes.f (k:Nat) (a0:Int) (a1:Int):Option (Int×Bool×Int×Int×Int):=(vr05_Kind.f k a0 a1).bind fun t100=>(if t100.2=0 then (vr06_Decodes.j0 k a0 a1 t100.1 t100.2 (t100.1 != 1)) else (vr06_Decodes.j0 k a0 a1 t100.1 t100.2 true))
--@ok
def vr06_Decodes.c (k:Nat):Con:=S147.con fun x=>vr06_Decodes.f k x.1 x.2
def vr06_Decodes.G (k:Nat):List (Go.FuncId×Cn):=[(144,.f (vr01_Number.c k)),(145,.f (vr01_Text.c k)),(190,.f (vr05_Kind.c k)),(191,.f (vr06_Split.c k))]
def vr06_Decodes.cuts:List (Cut (TT S147.sb)):=[⟨[1,0,1,1],[.sc 0 (.int .i64),.sc 1 (.int .u64),.sc 6 (.int .i64),.sc 7 (.int .i64),.sc 23 (.bool),.box 4 137 [.int .i64,.bool,.int .i64,.int .u64]],fun k x=>vr06_Decodes.j0 k x.1 x.2.1 x.2.2.1 x.2.2.2.1 x.2.2.2.2.1⟩,⟨[6,4,0,1,1,1,1,1,1],[.sc 11 (.str),.box 4 137 [.int .i64,.bool,.int .i64,.int .u64],.box 10 137 [.int .i64,.bool,.int .i64,.int .u64]],fun k x=>vr06_Decodes.l0 k x.1 x.2.2.1 x.2.2.2.1 x.2.2.2.2.1⟩]
theorem vr06_Decodes.w0 (k:Nat) (x:ET [.sc 0 (.int .i64),.sc 1 (.int .u64),.sc 6 (.int .i64),.sc 7 (.int .i64),.sc 23 (.bool),.box 4 137 [.int .i64,.bool,.int .i64,.int .u64]]):walk E147 (vr06_Decodes.G k) (cutsAt E147 k vr06_Decodes.cuts) (retE E147 Tryz.f147.results.toList S147) 4000 true (stackAt B147 [1,0,1,1]) (mkE [.sc 0 (.int .i64),.sc 1 (.int .u64),.sc 6 (.int .i64),.sc 7 (.int .i64),.sc 23 (.bool),.box 4 137 [.int .i64,.bool,.int .i64,.int .u64]] x St.nil)=vr06_Decodes.j0 (k+1) x.1 x.2.1 x.2.2.1 x.2.2.2.1 x.2.2.2.2.1:=by kernel_rfl
theorem vr06_Decodes.w1 (k:Nat) (x:ET [.sc 11 (.str),.box 4 137 [.int .i64,.bool,.int .i64,.int .u64],.box 10 137 [.int .i64,.bool,.int .i64,.int .u64]]):walk E147 (vr06_Decodes.G k) (cutsAt E147 k vr06_Decodes.cuts) (retE E147 Tryz.f147.results.toList S147) 4000 true (stackAt B147 [6,4,0,1,1,1,1,1,1]) (mkE [.sc 11 (.str),.box 4 137 [.int .i64,.bool,.int .i64,.int .u64],.box 10 137 [.int .i64,.bool,.int .i64,.int .u64]] x St.nil)=vr06_Decodes.l0 (k+1) x.1 x.2.2.1 x.2.2.2.1 x.2.2.2.2.1:=by kernel_rfl
theorem vr06_Decodes.w (k:Nat) (x:TT S147.sa):walk E147 (vr06_Decodes.G k) (cutsAt E147 k vr06_Decodes.cuts) (retE E147 Tryz.f147.results.toList S147) 4000 true [([],.code B147)] (St0 S147 x)=vr06_Decodes.f k x.1 x.2:=by kernel_rfl
theorem vr06_Decodes.ok (k:Nat):FnOk Tryz.prog E147.eT 147 (vr06_Decodes.c k):=FnOk.walk (E:=E147) (body:=B147) Tryz.func147 rfl (by rfl) Tryz.ntmps147 rfl S147 rfl (fun k x=>vr06_Decodes.f k x.1 x.2) vr06_Decodes.G (fun k=>⟨vr01_Number.ok k,vr01_Text.ok k,vr05_Kind.ok k,vr06_Split.ok k,trivial⟩) 4000 vr06_Decodes.cuts ⟨⟨fun _=>rfl,fun k x q h=>(vr06_Decodes.w0 k x).trans h⟩,⟨fun _=>rfl,fun k x q h=>(vr06_Decodes.w1 k x).trans h⟩,trivial⟩ (fun k x r h=>(vr06_Decodes.w k x).trans h) k
def E100:En:=⟨Tryz.prog,76,Tryz.f100.ntmps,none,false,[]⟩
def S100:Sig:=⟨[.s,.s],[(.int .i64),(.int .u64)],false,[.g 4],[(.int .i64),.bool,(.int .i64),(.int .u64)],false⟩
def B100:Go.Code:=Tryz.f100.body.get!
def vr06_Decode.f (k:Nat) (a0:Int) (a1:Int):Option (Int×Bool×Int×Int):=(vr06_Decodes.f k a0 a1).bind fun t100=>(some (t100.1,t100.2.1,t100.2.2.1,t100.2.2.2.1))
--@ok
def vr06_Decode.c (k:Nat):Con:=S100.con fun x=>vr06_Decode.f k x.1 x.2
def vr06_Decode.G (k:Nat):List (Go.FuncId×Cn):=[(147,.f (vr06_Decodes.c k))]
def vr06_Decode.cuts:List (Cut (TT S100.sb)):=[]
theorem vr06_Decode.w (k:Nat) (x:TT S100.sa):walk E100 (vr06_Decode.G k) (cutsAt E100 k vr06_Decode.cuts) (retE E100 Tryz.f100.results.toList S100) 4000 true [([],.code B100)] (St0 S100 x)=vr06_Decode.f k x.1 x.2:=by kernel_rfl
theorem vr06_Decode.ok (k:Nat):FnOk Tryz.prog E100.eT 100 (vr06_Decode.c k):=FnOk.walk (E:=E100) (body:=B100) Tryz.func100 rfl (by rfl) Tryz.ntmps100 rfl S100 rfl (fun k x=>vr06_Decode.f k x.1 x.2) vr06_Decode.G (fun k=>⟨vr06_Decodes.ok k,trivial⟩) 4000 vr06_Decode.cuts trivial (fun k x r h=>(vr06_Decode.w k x).trans h) k
def E110:En:=⟨Tryz.prog,76,Tryz.f110.ntmps,none,false,[]⟩
def S110:Sig:=⟨[.s,.s],[(.rd .i64),(.int .i64)],false,[.s],[(.int .i64)],false⟩
def B110:Go.Code:=Tryz.f110.body.get!
def vr04_digit.f (l0:List Int) (a1:Int):Option (Int):=if a1 < (nI l0.length) then (if 0≤a1 then (some (rd l0 a1)) else (none)) else (some 0)
--@ok
def vr04_digit.fR (l0:List Int) (a1:Int):Option (Int):=if a1 < (nI l0.length) then (if 0≤a1 then (if a1 < (nI l0.length) then (some (rd l0 a1)) else (none)) else (none)) else (some 0)
theorem vr04_digit.fE (l0:List Int) (a1:Int):vr04_digit.fR l0 a1=vr04_digit.f l0 a1:=by
  unfold vr04_digit.fR vr04_digit.f
  exact iteC (fun h0=>iteC (fun h1=>(if_pos h0).trans (rfl)) (fun h1=>rfl)) (fun h0=>rfl)
def vr04_digit.c:Con:=S110.con fun x=>vr04_digit.f x.1 x.2
def vr04_digit.G (k:Nat):List (Go.FuncId×Cn):=[]
def vr04_digit.cuts:List (Cut (TT S110.sb)):=[]
theorem vr04_digit.w (k:Nat) (x:TT S110.sa):walk E110 (vr04_digit.G k) (cutsAt E110 k vr04_digit.cuts) (retE E110 Tryz.f110.results.toList S110) 4000 true [([],.code B110)] (St0 S110 x)=vr04_digit.f x.1 x.2:=Eq.trans (b:=vr04_digit.fR x.1 x.2) (by kernel_rfl) (vr04_digit.fE x.1 x.2)
theorem vr04_digit.ok:FnOk Tryz.prog E110.eT 110 (vr04_digit.c):=FnOk.walk (E:=E110) (body:=B110) Tryz.func110 rfl (by rfl) Tryz.ntmps110 rfl S110 rfl (fun k x=>vr04_digit.f x.1 x.2) vr04_digit.G (fun k=>trivial) 4000 vr04_digit.cuts trivial (fun k x r h=>(vr04_digit.w k x).trans h) 0
def E107:En:=⟨Tryz.prog,76,Tryz.f107.ntmps,none,false,[]⟩
def S107:Sig:=⟨[.s,.s],[(.rd .i64),(.int .i64)],false,[.s],[(.rd .i64)],true⟩
def B107:Go.Code:=Tryz.f107.body.get!
def vr04_times.l0:Nat→List Int→Int→List Int→Int→Int→Option (List Int)
 | 0,_,_,_,_,_=>none
 | k+1,x0,x1,x5,x6,x7=>if x7 < (nI x0.length) then (if x1 > 0 then ((vr04_digit.f x0 x7).bind fun t100=>(if x5.length < 17592186044416 then (vr04_times.l0 k x0 x1 (x5++([Int.tmod (wrap64 ((wrap64 (t100*x1))+x6)) 16777216]:List Int)) (wrap64 (Int.tdiv (wrap64 ((wrap64 (t100*x1))+x6)) 16777216)) (wrap64 (x7+1))) else (none))) else (if x6 > 0 then ((vr04_digit.f x0 x7).bind fun t101=>(if x5.length < 17592186044416 then (vr04_times.l0 k x0 x1 (x5++([Int.tmod (wrap64 ((wrap64 (t101*x1))+x6)) 16777216]:List Int)) (wrap64 (Int.tdiv (wrap64 ((wrap64 (t101*x1))+x6)) 16777216)) (wrap64 (x7+1))) else (none))) else (some x5))) else (if x6 > 0 then ((vr04_digit.f x0 x7).bind fun t102=>(if x5.length < 17592186044416 then (vr04_times.l0 k x0 x1 (x5++([Int.tmod (wrap64 ((wrap64 (t102*x1))+x6)) 16777216]:List Int)) (wrap64 (Int.tdiv (wrap64 ((wrap64 (t102*x1))+x6)) 16777216)) (wrap64 (x7+1))) else (none))) else (some x5))
def vr04_times.f (k:Nat) (l0:List Int) (a1:Int):Option (List Int):=vr04_times.l0 k l0 a1 ([]:List Int) 0 0
--@ok
def vr04_times.c (k:Nat):Con:=S107.con fun x=>vr04_times.f k x.1 x.2
def vr04_times.G (k:Nat):List (Go.FuncId×Cn):=[(110,.f vr04_digit.c)]
def vr04_times.cuts:List (Cut (TT S107.sb)):=[⟨[6,4,1,0,1,1,1],[.sc 0 (.rd .i64),.sc 1 (.int .i64),.lst 5 .i64 3,.sc 6 (.int .i64),.sc 7 (.int .i64)],fun k x=>vr04_times.l0 k x.1 x.2.1 x.2.2.1 x.2.2.2.1 x.2.2.2.2⟩]
theorem vr04_times.w0 (k:Nat) (x:ET [.sc 0 (.rd .i64),.sc 1 (.int .i64),.lst 5 .i64 3,.sc 6 (.int .i64),.sc 7 (.int .i64)]):walk E107 (vr04_times.G k) (cutsAt E107 k vr04_times.cuts) (retE E107 Tryz.f107.results.toList S107) 4000 true (stackAt B107 [6,4,1,0,1,1,1]) (mkE [.sc 0 (.rd .i64),.sc 1 (.int .i64),.lst 5 .i64 3,.sc 6 (.int .i64),.sc 7 (.int .i64)] x St.nil)=vr04_times.l0 (k+1) x.1 x.2.1 x.2.2.1 x.2.2.2.1 x.2.2.2.2:=by kernel_rfl
theorem vr04_times.w (k:Nat) (x:TT S107.sa):walk E107 (vr04_times.G k) (cutsAt E107 k vr04_times.cuts) (retE E107 Tryz.f107.results.toList S107) 4000 true [([],.code B107)] (St0 S107 x)=vr04_times.f k x.1 x.2:=by kernel_rfl
theorem vr04_times.ok (k:Nat):FnOk Tryz.prog E107.eT 107 (vr04_times.c k):=FnOk.walk (E:=E107) (body:=B107) Tryz.func107 rfl (by rfl) Tryz.ntmps107 rfl S107 rfl (fun k x=>vr04_times.f k x.1 x.2) vr04_times.G (fun k=>⟨vr04_digit.ok,trivial⟩) 4000 vr04_times.cuts ⟨⟨fun _=>rfl,fun k x q h=>(vr04_times.w0 k x).trans h⟩,trivial⟩ (fun k x r h=>(vr04_times.w k x).trans h) k
def E108:En:=⟨Tryz.prog,76,Tryz.f108.ntmps,none,false,[]⟩
def S108:Sig:=⟨[.s],[(.int .i64)],false,[.s],[(.int .i64)],false⟩
def B108:Go.Code:=Tryz.f108.body.get!
def vr04_two.l0:Nat→Int→Int→Int→Option (Int)
 | 0,_,_,_=>none
 | k+1,x0,x3,x4=>if x4 < x0 then (vr04_two.l0 k x0 (wrap64 (2*x3)) (wrap64 (x4+1))) else (some x3)
def vr04_two.f (k:Nat) (a0:Int):Option (Int):=vr04_two.l0 k a0 1 0
--@ok
def vr04_two.c (k:Nat):Con:=S108.con fun x=>vr04_two.f k x
def vr04_two.G (k:Nat):List (Go.FuncId×Cn):=[]
def vr04_two.cuts:List (Cut (TT S108.sb)):=[⟨[6,4,1,0,1,1],[.sc 0 (.int .i64),.sc 3 (.int .i64),.sc 4 (.int .i64)],fun k x=>vr04_two.l0 k x.1 x.2.1 x.2.2⟩]
theorem vr04_two.w0 (k:Nat) (x:ET [.sc 0 (.int .i64),.sc 3 (.int .i64),.sc 4 (.int .i64)]):walk E108 (vr04_two.G k) (cutsAt E108 k vr04_two.cuts) (retE E108 Tryz.f108.results.toList S108) 4000 true (stackAt B108 [6,4,1,0,1,1]) (mkE [.sc 0 (.int .i64),.sc 3 (.int .i64),.sc 4 (.int .i64)] x St.nil)=vr04_two.l0 (k+1) x.1 x.2.1 x.2.2:=by kernel_rfl
theorem vr04_two.w (k:Nat) (x:TT S108.sa):walk E108 (vr04_two.G k) (cutsAt E108 k vr04_two.cuts) (retE E108 Tryz.f108.results.toList S108) 4000 true [([],.code B108)] (St0 S108 x)=vr04_two.f k x:=by kernel_rfl
theorem vr04_two.ok (k:Nat):FnOk Tryz.prog E108.eT 108 (vr04_two.c k):=FnOk.walk (E:=E108) (body:=B108) Tryz.func108 rfl (by rfl) Tryz.ntmps108 rfl S108 rfl (fun k x=>vr04_two.f k x) vr04_two.G (fun k=>trivial) 4000 vr04_two.cuts ⟨⟨fun _=>rfl,fun k x q h=>(vr04_two.w0 k x).trans h⟩,trivial⟩ (fun k x r h=>(vr04_two.w k x).trans h) k
def E63:En:=⟨Tryz.prog,76,Tryz.f63.ntmps,none,false,[]⟩
def S63:Sig:=⟨[.s,.s],[(.rd .i64),(.int .i64)],false,[.s],[(.rd .i64)],true⟩
def B63:Go.Code:=Tryz.f63.body.get!
def vr04_Shl.f (k:Nat) (l0:List Int) (a1:Int):Option (List Int):=if (nI l0.length)=0 then (some ([]:List Int)) else (if 0≤(wrap64 (Int.tdiv a1 24)) then (if (((wrap64 (Int.tdiv a1 24)):Int).toNat)≤35184372088832 then ((vr04_two.f k (Int.tmod a1 24)).bind fun t100=>((vr04_times.f k l0 t100).bind fun t101=>(if (((List.replicate (((wrap64 (Int.tdiv a1 24)):Int).toNat) 0:List Int).length)+t101.length)≤17592186044416 then (some ((List.replicate (((wrap64 (Int.tdiv a1 24)):Int).toNat) 0:List Int)++t101)) else (none)))) else (none)) else (none))
--@ok
def vr04_Shl.c (k:Nat):Con:=S63.con fun x=>vr04_Shl.f k x.1 x.2
def vr04_Shl.G (k:Nat):List (Go.FuncId×Cn):=[(107,.f (vr04_times.c k)),(108,.f (vr04_two.c k))]
def vr04_Shl.cuts:List (Cut (TT S63.sb)):=[]
theorem vr04_Shl.w (k:Nat) (x:TT S63.sa):walk E63 (vr04_Shl.G k) (cutsAt E63 k vr04_Shl.cuts) (retE E63 Tryz.f63.results.toList S63) 4000 true [([],.code B63)] (St0 S63 x)=vr04_Shl.f k x.1 x.2:=by kernel_rfl
theorem vr04_Shl.ok (k:Nat):FnOk Tryz.prog E63.eT 63 (vr04_Shl.c k):=FnOk.walk (E:=E63) (body:=B63) Tryz.func63 rfl (by rfl) Tryz.ntmps63 rfl S63 rfl (fun k x=>vr04_Shl.f k x.1 x.2) vr04_Shl.G (fun k=>⟨vr04_times.ok k,vr04_two.ok k,trivial⟩) 4000 vr04_Shl.cuts trivial (fun k x r h=>(vr04_Shl.w k x).trans h) k
def E65:En:=⟨Tryz.prog,76,Tryz.f65.ntmps,none,false,[]⟩
def S65:Sig:=⟨[.s,.s],[(.rd .i64),(.rd .i64)],false,[.s],[(.int .i64)],false⟩
def B65:Go.Code:=Tryz.f65.body.get!
def vr04_Cmp.l0:Nat→List Int→List Int→Int→Option (Int)
 | 0,_,_,_=>none
 | k+1,x0,x1,x5=>if x5≥0 then (if 0≤x5 then (if x5 < (nI x0.length) then (if x5 < (nI x1.length) then (if (rd x0 x5) < (rd x1 x5) then (some (-1)) else (if (rd x0 x5) > (rd x1 x5) then (some 1) else (vr04_Cmp.l0 k x0 x1 (wrap64 (x5 - 1))))) else (none)) else (none)) else (none)) else (some 0)
def vr04_Cmp.f (k:Nat) (l0:List Int) (l1:List Int):Option (Int):=if (nI l0.length)=(nI l1.length) then (vr04_Cmp.l0 k l0 l1 (wrap64 ((nI l0.length) - 1))) else (if (nI l0.length) < (nI l1.length) then (some (-1)) else (some 1))
--@ok
def vr04_Cmp.l0R (k:Nat) (x0:List Int) (x1:List Int) (x5:Int):Option (Int):=if x5≥0 then (if 0≤x5 then (if x5 < (nI x0.length) then (if 0≤x5 then (if x5 < (nI x1.length) then (if (rd x0 x5) < (rd x1 x5) then (some (-1)) else (if 0≤x5 then (if x5 < (nI x0.length) then (if 0≤x5 then (if x5 < (nI x1.length) then (if (rd x0 x5) > (rd x1 x5) then (some 1) else (vr04_Cmp.l0 k x0 x1 (wrap64 (x5 - 1)))) else (none)) else (none)) else (none)) else (none))) else (none)) else (none)) else (none)) else (none)) else (some 0)
theorem vr04_Cmp.l0E (k:Nat) (x0:List Int) (x1:List Int) (x5:Int):vr04_Cmp.l0R k x0 x1 x5=vr04_Cmp.l0 (k+1) x0 x1 x5:=by
  unfold vr04_Cmp.l0R
  rw [vr04_Cmp.l0]
  exact iteC (fun h0=>iteC (fun h1=>iteC (fun h2=>(if_pos h1).trans (iteC (fun h3=>iteC (fun h4=>rfl) (fun h4=>(if_pos h1).trans ((if_pos h2).trans ((if_pos h1).trans ((if_pos h3).trans (iteC (fun h5=>rfl) (fun h5=>rfl))))))) (fun h3=>rfl))) (fun h2=>rfl)) (fun h1=>rfl)) (fun h0=>rfl)
def vr04_Cmp.c (k:Nat):Con:=S65.con fun x=>vr04_Cmp.f k x.1 x.2
def vr04_Cmp.G (k:Nat):List (Go.FuncId×Cn):=[]
def vr04_Cmp.cuts:List (Cut (TT S65.sb)):=[⟨[6,4,1,0,1,1],[.sc 0 (.rd .i64),.sc 1 (.rd .i64),.sc 5 (.int .i64)],fun k x=>vr04_Cmp.l0 k x.1 x.2.1 x.2.2⟩]
theorem vr04_Cmp.w0 (k:Nat) (x:ET [.sc 0 (.rd .i64),.sc 1 (.rd .i64),.sc 5 (.int .i64)]):walk E65 (vr04_Cmp.G k) (cutsAt E65 k vr04_Cmp.cuts) (retE E65 Tryz.f65.results.toList S65) 4000 true (stackAt B65 [6,4,1,0,1,1]) (mkE [.sc 0 (.rd .i64),.sc 1 (.rd .i64),.sc 5 (.int .i64)] x St.nil)=vr04_Cmp.l0 (k+1) x.1 x.2.1 x.2.2:=Eq.trans (b:=vr04_Cmp.l0R k x.1 x.2.1 x.2.2) (by kernel_rfl) (vr04_Cmp.l0E k x.1 x.2.1 x.2.2)
theorem vr04_Cmp.w (k:Nat) (x:TT S65.sa):walk E65 (vr04_Cmp.G k) (cutsAt E65 k vr04_Cmp.cuts) (retE E65 Tryz.f65.results.toList S65) 4000 true [([],.code B65)] (St0 S65 x)=vr04_Cmp.f k x.1 x.2:=by kernel_rfl
theorem vr04_Cmp.ok (k:Nat):FnOk Tryz.prog E65.eT 65 (vr04_Cmp.c k):=FnOk.walk (E:=E65) (body:=B65) Tryz.func65 rfl (by rfl) Tryz.ntmps65 rfl S65 rfl (fun k x=>vr04_Cmp.f k x.1 x.2) vr04_Cmp.G (fun k=>trivial) 4000 vr04_Cmp.cuts ⟨⟨fun _=>rfl,fun k x q h=>(vr04_Cmp.w0 k x).trans h⟩,trivial⟩ (fun k x r h=>(vr04_Cmp.w k x).trans h) k
def E111:En:=⟨Tryz.prog,76,Tryz.f111.ntmps,none,false,[]⟩
def S111:Sig:=⟨[.s],[(.rd .i64)],false,[.s],[(.rd .i64)],true⟩
def B111:Go.Code:=Tryz.f111.body.get!
def vr04_Cut.l0:Nat→List Int→Int→Option (List Int)
 | 0,_,_=>none
 | k+1,x0,x3=>if x3 > 0 then (if 0≤(wrap64 (x3 - 1)) then (if (wrap64 (x3 - 1)) < (nI x0.length) then (if (rd x0 (wrap64 (x3 - 1)))=0 then (vr04_Cut.l0 k x0 (wrap64 (x3 - 1))) else (if 0≤x3 then (if x3≤(nI x0.length) then (some (x0.take ((x3:Int).toNat))) else (none)) else (none))) else (none)) else (none)) else (if 0≤x3 then (if x3≤(nI x0.length) then (some (x0.take ((x3:Int).toNat))) else (none)) else (none))
def vr04_Cut.f (k:Nat) (l0:List Int):Option (List Int):=vr04_Cut.l0 k l0 (nI l0.length)
--@ok
def vr04_Cut.c (k:Nat):Con:=S111.con fun x=>vr04_Cut.f k x
def vr04_Cut.G (k:Nat):List (Go.FuncId×Cn):=[]
def vr04_Cut.cuts:List (Cut (TT S111.sb)):=[⟨[6,4,0,1,1],[.sc 0 (.rd .i64),.sc 3 (.int .i64)],fun k x=>vr04_Cut.l0 k x.1 x.2⟩]
theorem vr04_Cut.w0 (k:Nat) (x:ET [.sc 0 (.rd .i64),.sc 3 (.int .i64)]):walk E111 (vr04_Cut.G k) (cutsAt E111 k vr04_Cut.cuts) (retE E111 Tryz.f111.results.toList S111) 4000 true (stackAt B111 [6,4,0,1,1]) (mkE [.sc 0 (.rd .i64),.sc 3 (.int .i64)] x St.nil)=vr04_Cut.l0 (k+1) x.1 x.2:=by kernel_rfl
theorem vr04_Cut.w (k:Nat) (x:TT S111.sa):walk E111 (vr04_Cut.G k) (cutsAt E111 k vr04_Cut.cuts) (retE E111 Tryz.f111.results.toList S111) 4000 true [([],.code B111)] (St0 S111 x)=vr04_Cut.f k x:=by kernel_rfl
theorem vr04_Cut.ok (k:Nat):FnOk Tryz.prog E111.eT 111 (vr04_Cut.c k):=FnOk.walk (E:=E111) (body:=B111) Tryz.func111 rfl (by rfl) Tryz.ntmps111 rfl S111 rfl (fun k x=>vr04_Cut.f k x) vr04_Cut.G (fun k=>trivial) 4000 vr04_Cut.cuts ⟨⟨fun _=>rfl,fun k x q h=>(vr04_Cut.w0 k x).trans h⟩,trivial⟩ (fun k x r h=>(vr04_Cut.w k x).trans h) k
def E68:En:=⟨Tryz.prog,76,Tryz.f68.ntmps,none,false,[]⟩
def S68:Sig:=⟨[.s,.s],[(.rd .i64),(.rd .i64)],false,[.s],[(.rd .i64)],true⟩
def B68:Go.Code:=Tryz.f68.body.get!
def vr04_Sub.l0:Nat→List Int→List Int→List Int→Int→Int→Option (List Int)
 | 0,_,_,_,_,_=>none
 | k+1,x0,x1,x5,x6,x7=>if x7 < (nI x0.length) then (if 0≤x7 then ((vr04_digit.f x1 x7).bind fun t100=>(if (wrap64 ((wrap64 ((rd x0 x7) - t100)) - x6)) < 0 then (if x5.length < 17592186044416 then (vr04_Sub.l0 k x0 x1 (x5++([wrap64 ((wrap64 ((wrap64 ((rd x0 x7) - t100)) - x6))+16777216)]:List Int)) 1 (wrap64 (x7+1))) else (none)) else (if x5.length < 17592186044416 then (vr04_Sub.l0 k x0 x1 (x5++([wrap64 ((wrap64 ((rd x0 x7) - t100)) - x6)]:List Int)) 0 (wrap64 (x7+1))) else (none)))) else (none)) else ((vr04_Cut.f k x5).bind fun t101=>(some t101))
def vr04_Sub.f (k:Nat) (l0:List Int) (l1:List Int):Option (List Int):=vr04_Sub.l0 k l0 l1 ([]:List Int) 0 0
--@ok
def vr04_Sub.l0R (k:Nat) (x0:List Int) (x1:List Int) (x5:List Int) (x6:Int) (x7:Int):Option (List Int):=if x7 < (nI x0.length) then (if 0≤x7 then (if x7 < (nI x0.length) then ((vr04_digit.f x1 x7).bind fun t100=>(if (wrap64 ((wrap64 ((rd x0 x7) - t100)) - x6)) < 0 then (if x5.length < 17592186044416 then (vr04_Sub.l0 k x0 x1 (x5++([wrap64 ((wrap64 ((wrap64 ((rd x0 x7) - t100)) - x6))+16777216)]:List Int)) 1 (wrap64 (x7+1))) else (none)) else (if x5.length < 17592186044416 then (vr04_Sub.l0 k x0 x1 (x5++([wrap64 ((wrap64 ((rd x0 x7) - t100)) - x6)]:List Int)) 0 (wrap64 (x7+1))) else (none)))) else (none)) else (none)) else ((vr04_Cut.f k x5).bind fun t101=>(some t101))
theorem vr04_Sub.l0E (k:Nat) (x0:List Int) (x1:List Int) (x5:List Int) (x6:Int) (x7:Int):vr04_Sub.l0R k x0 x1 x5 x6 x7=vr04_Sub.l0 (k+1) x0 x1 x5 x6 x7:=by
  unfold vr04_Sub.l0R
  rw [vr04_Sub.l0]
  exact iteC (fun h0=>iteC (fun h1=>(if_pos h0).trans (bindC fun _=>iteC (fun h2=>iteC (fun h3=>rfl) (fun h3=>rfl)) (fun h2=>iteC (fun h3=>rfl) (fun h3=>rfl)))) (fun h1=>rfl)) (fun h0=>bindC fun _=>rfl)
def vr04_Sub.c (k:Nat):Con:=S68.con fun x=>vr04_Sub.f k x.1 x.2
def vr04_Sub.G (k:Nat):List (Go.FuncId×Cn):=[(110,.f vr04_digit.c),(111,.f (vr04_Cut.c k))]
def vr04_Sub.cuts:List (Cut (TT S68.sb)):=[⟨[6,4,1,0,1,1,1],[.sc 0 (.rd .i64),.sc 1 (.rd .i64),.lst 5 .i64 3,.sc 6 (.int .i64),.sc 7 (.int .i64)],fun k x=>vr04_Sub.l0 k x.1 x.2.1 x.2.2.1 x.2.2.2.1 x.2.2.2.2⟩]
theorem vr04_Sub.w0 (k:Nat) (x:ET [.sc 0 (.rd .i64),.sc 1 (.rd .i64),.lst 5 .i64 3,.sc 6 (.int .i64),.sc 7 (.int .i64)]):walk E68 (vr04_Sub.G k) (cutsAt E68 k vr04_Sub.cuts) (retE E68 Tryz.f68.results.toList S68) 4000 true (stackAt B68 [6,4,1,0,1,1,1]) (mkE [.sc 0 (.rd .i64),.sc 1 (.rd .i64),.lst 5 .i64 3,.sc 6 (.int .i64),.sc 7 (.int .i64)] x St.nil)=vr04_Sub.l0 (k+1) x.1 x.2.1 x.2.2.1 x.2.2.2.1 x.2.2.2.2:=Eq.trans (b:=vr04_Sub.l0R k x.1 x.2.1 x.2.2.1 x.2.2.2.1 x.2.2.2.2) (by kernel_rfl) (vr04_Sub.l0E k x.1 x.2.1 x.2.2.1 x.2.2.2.1 x.2.2.2.2)
theorem vr04_Sub.w (k:Nat) (x:TT S68.sa):walk E68 (vr04_Sub.G k) (cutsAt E68 k vr04_Sub.cuts) (retE E68 Tryz.f68.results.toList S68) 4000 true [([],.code B68)] (St0 S68 x)=vr04_Sub.f k x.1 x.2:=by kernel_rfl
theorem vr04_Sub.ok (k:Nat):FnOk Tryz.prog E68.eT 68 (vr04_Sub.c k):=FnOk.walk (E:=E68) (body:=B68) Tryz.func68 rfl (by rfl) Tryz.ntmps68 rfl S68 rfl (fun k x=>vr04_Sub.f k x.1 x.2) vr04_Sub.G (fun k=>⟨vr04_digit.ok,vr04_Cut.ok k,trivial⟩) 4000 vr04_Sub.cuts ⟨⟨fun _=>rfl,fun k x q h=>(vr04_Sub.w0 k x).trans h⟩,trivial⟩ (fun k x r h=>(vr04_Sub.w k x).trans h) k
def E69:En:=⟨Tryz.prog,76,Tryz.f69.ntmps,none,false,[]⟩
def S69:Sig:=⟨[.s],[(.rd .i64)],false,[.s],[(.int .u64)],false⟩
def B69:Go.Code:=Tryz.f69.body.get!
def vr04_Word.l0:Nat→List Int→Int→Int→Option (Int)
 | 0,_,_,_=>none
 | k+1,x0,x3,x4=>if x4≥0 then ((vr04_digit.f x0 x4).bind fun t100=>(vr04_Word.l0 k x0 (IntKind.u64.wrap ((IntKind.u64.wrap (x3*16777216))+(IntKind.u64.wrap t100))) (wrap64 (x4 - 1)))) else (some x3)
def vr04_Word.f (k:Nat) (l0:List Int):Option (Int):=vr04_Word.l0 k l0 0 2
--@ok
def vr04_Word.c (k:Nat):Con:=S69.con fun x=>vr04_Word.f k x
def vr04_Word.G (k:Nat):List (Go.FuncId×Cn):=[(110,.f vr04_digit.c)]
def vr04_Word.cuts:List (Cut (TT S69.sb)):=[⟨[6,4,1,0,1,1],[.sc 0 (.rd .i64),.sc 3 (.int .u64),.sc 4 (.int .i64)],fun k x=>vr04_Word.l0 k x.1 x.2.1 x.2.2⟩]
theorem vr04_Word.w0 (k:Nat) (x:ET [.sc 0 (.rd .i64),.sc 3 (.int .u64),.sc 4 (.int .i64)]):walk E69 (vr04_Word.G k) (cutsAt E69 k vr04_Word.cuts) (retE E69 Tryz.f69.results.toList S69) 4000 true (stackAt B69 [6,4,1,0,1,1]) (mkE [.sc 0 (.rd .i64),.sc 3 (.int .u64),.sc 4 (.int .i64)] x St.nil)=vr04_Word.l0 (k+1) x.1 x.2.1 x.2.2:=by kernel_rfl
theorem vr04_Word.w (k:Nat) (x:TT S69.sa):walk E69 (vr04_Word.G k) (cutsAt E69 k vr04_Word.cuts) (retE E69 Tryz.f69.results.toList S69) 4000 true [([],.code B69)] (St0 S69 x)=vr04_Word.f k x:=by kernel_rfl
theorem vr04_Word.ok (k:Nat):FnOk Tryz.prog E69.eT 69 (vr04_Word.c k):=FnOk.walk (E:=E69) (body:=B69) Tryz.func69 rfl (by rfl) Tryz.ntmps69 rfl S69 rfl (fun k x=>vr04_Word.f k x) vr04_Word.G (fun k=>⟨vr04_digit.ok,trivial⟩) 4000 vr04_Word.cuts ⟨⟨fun _=>rfl,fun k x q h=>(vr04_Word.w0 k x).trans h⟩,trivial⟩ (fun k x r h=>(vr04_Word.w k x).trans h) k
def E70:En:=⟨Tryz.prog,76,Tryz.f70.ntmps,none,false,[]⟩
def S70:Sig:=⟨[.s,.s],[(.rd .i64),(.int .i64)],false,[.s],[(.rd .i64)],true⟩
def B70:Go.Code:=Tryz.f70.body.get!
def vr04_Shr.l0:Nat→List Int→Int→List Int→Int→Option (List Int)
 | 0,_,_,_,_=>none
 | k+1,x5,x6,x7,x8=>if x8 < (nI x5.length) then (if 0≤x8 then (if x6=0 then (none) else ((vr04_digit.f x5 (wrap64 (x8+1))).bind fun t101=>(if x8 < (nI x7.length) then (vr04_Shr.l0 k x5 x6 (x7.set ((x8:Int).toNat) (wrap64 ((wrap64 (Int.tdiv (rd x5 x8) x6))+(wrap64 ((Int.tmod t101 x6)*(wrap64 (16777216 / x6))))))) (wrap64 (x8+1))) else (none)))) else (none)) else ((vr04_Cut.f k x7).bind fun t102=>(some t102))
def vr04_Shr.f (k:Nat) (l0:List Int) (a1:Int):Option (List Int):=if (wrap64 (Int.tdiv a1 24))≥(nI l0.length) then (some ([]:List Int)) else (if 0≤(wrap64 (Int.tdiv a1 24)) then (if (wrap64 (Int.tdiv a1 24))≤(nI l0.length) then ((vr04_two.f k (Int.tmod a1 24)).bind fun t100=>(if (((nI ((l0.drop (((wrap64 (Int.tdiv a1 24)):Int).toNat)).length)):Int).toNat)≤35184372088832 then (vr04_Shr.l0 k (l0.drop (((wrap64 (Int.tdiv a1 24)):Int).toNat)) t100 (List.replicate (((nI ((l0.drop (((wrap64 (Int.tdiv a1 24)):Int).toNat)).length)):Int).toNat) 0:List Int) 0) else (none))) else (none)) else (none))
--@ok
def vr04_Shr.l0R (k:Nat) (x5:List Int) (x6:Int) (x7:List Int) (x8:Int):Option (List Int):=if x8 < (nI x5.length) then (if 0≤x8 then (if x8 < (nI x5.length) then (if x6=0 then (none) else (if x6=0 then (none) else ((vr04_digit.f x5 (wrap64 (x8+1))).bind fun t101=>(if x6=0 then (none) else (if 0≤x8 then (if x8 < (nI x7.length) then (vr04_Shr.l0 k x5 x6 (x7.set ((x8:Int).toNat) (wrap64 ((wrap64 (Int.tdiv (rd x5 x8) x6))+(wrap64 ((Int.tmod t101 x6)*(wrap64 (16777216 / x6))))))) (wrap64 (x8+1))) else (none)) else (none)))))) else (none)) else (none)) else ((vr04_Cut.f k x7).bind fun t102=>(some t102))
theorem vr04_Shr.l0E (k:Nat) (x5:List Int) (x6:Int) (x7:List Int) (x8:Int):vr04_Shr.l0R k x5 x6 x7 x8=vr04_Shr.l0 (k+1) x5 x6 x7 x8:=by
  unfold vr04_Shr.l0R
  rw [vr04_Shr.l0]
  exact iteC (fun h0=>iteC (fun h1=>(if_pos h0).trans (iteC (fun h2=>rfl) (fun h2=>(if_neg h2).trans (bindC fun _=>(if_neg h2).trans ((if_pos h1).trans (iteC (fun h3=>rfl) (fun h3=>rfl))))))) (fun h1=>rfl)) (fun h0=>bindC fun _=>rfl)
def vr04_Shr.c (k:Nat):Con:=S70.con fun x=>vr04_Shr.f k x.1 x.2
def vr04_Shr.G (k:Nat):List (Go.FuncId×Cn):=[(108,.f (vr04_two.c k)),(110,.f vr04_digit.c),(111,.f (vr04_Cut.c k))]
def vr04_Shr.cuts:List (Cut (TT S70.sb)):=[⟨[6,4,1,0,1,1,1,1,1],[.sc 5 (.rd .i64),.sc 6 (.int .i64),.lst 7 .i64 3,.sc 8 (.int .i64)],fun k x=>vr04_Shr.l0 k x.1 x.2.1 x.2.2.1 x.2.2.2⟩]
theorem vr04_Shr.w0 (k:Nat) (x:ET [.sc 5 (.rd .i64),.sc 6 (.int .i64),.lst 7 .i64 3,.sc 8 (.int .i64)]):walk E70 (vr04_Shr.G k) (cutsAt E70 k vr04_Shr.cuts) (retE E70 Tryz.f70.results.toList S70) 4000 true (stackAt B70 [6,4,1,0,1,1,1,1,1]) (mkE [.sc 5 (.rd .i64),.sc 6 (.int .i64),.lst 7 .i64 3,.sc 8 (.int .i64)] x St.nil)=vr04_Shr.l0 (k+1) x.1 x.2.1 x.2.2.1 x.2.2.2:=Eq.trans (b:=vr04_Shr.l0R k x.1 x.2.1 x.2.2.1 x.2.2.2) (by kernel_rfl) (vr04_Shr.l0E k x.1 x.2.1 x.2.2.1 x.2.2.2)
theorem vr04_Shr.w (k:Nat) (x:TT S70.sa):walk E70 (vr04_Shr.G k) (cutsAt E70 k vr04_Shr.cuts) (retE E70 Tryz.f70.results.toList S70) 4000 true [([],.code B70)] (St0 S70 x)=vr04_Shr.f k x.1 x.2:=by kernel_rfl
theorem vr04_Shr.ok (k:Nat):FnOk Tryz.prog E70.eT 70 (vr04_Shr.c k):=FnOk.walk (E:=E70) (body:=B70) Tryz.func70 rfl (by rfl) Tryz.ntmps70 rfl S70 rfl (fun k x=>vr04_Shr.f k x.1 x.2) vr04_Shr.G (fun k=>⟨vr04_two.ok k,vr04_digit.ok,vr04_Cut.ok k,trivial⟩) 4000 vr04_Shr.cuts ⟨⟨fun _=>rfl,fun k x q h=>(vr04_Shr.w0 k x).trans h⟩,trivial⟩ (fun k x r h=>(vr04_Shr.w k x).trans h) k
def E162:En:=⟨Tryz.prog,76,Tryz.f162.ntmps,none,false,[]⟩
def S162:Sig:=⟨[.s],[(.rd .i64)],false,[.s],[(.int .i64)],false⟩
def B162:Go.Code:=Tryz.f162.body.get!
def vr04_Bits.l0:Nat→Int→Int→Option (Int)
 | 0,_,_=>none
 | k+1,x3,x4=>if x4 > 0 then (vr04_Bits.l0 k (wrap64 (x3+1)) (wrap64 (Int.tdiv x4 2))) else (some x3)
def vr04_Bits.f (k:Nat) (l0:List Int):Option (Int):=if (nI l0.length)=0 then (some 0) else (if 0≤(wrap64 ((nI l0.length) - 1)) then (if (wrap64 ((nI l0.length) - 1)) < (nI l0.length) then (vr04_Bits.l0 k (wrap64 (24*(wrap64 ((nI l0.length) - 1)))) (rd l0 (wrap64 ((nI l0.length) - 1)))) else (none)) else (none))
--@ok
def vr04_Bits.c (k:Nat):Con:=S162.con fun x=>vr04_Bits.f k x
def vr04_Bits.G (k:Nat):List (Go.FuncId×Cn):=[]
def vr04_Bits.cuts:List (Cut (TT S162.sb)):=[⟨[6,4,1,0,1,1,1],[.sc 3 (.int .i64),.sc 4 (.int .i64)],fun k x=>vr04_Bits.l0 k x.1 x.2⟩]
theorem vr04_Bits.w0 (k:Nat) (x:ET [.sc 3 (.int .i64),.sc 4 (.int .i64)]):walk E162 (vr04_Bits.G k) (cutsAt E162 k vr04_Bits.cuts) (retE E162 Tryz.f162.results.toList S162) 4000 true (stackAt B162 [6,4,1,0,1,1,1]) (mkE [.sc 3 (.int .i64),.sc 4 (.int .i64)] x St.nil)=vr04_Bits.l0 (k+1) x.1 x.2:=by kernel_rfl
theorem vr04_Bits.w (k:Nat) (x:TT S162.sa):walk E162 (vr04_Bits.G k) (cutsAt E162 k vr04_Bits.cuts) (retE E162 Tryz.f162.results.toList S162) 4000 true [([],.code B162)] (St0 S162 x)=vr04_Bits.f k x:=by kernel_rfl
theorem vr04_Bits.ok (k:Nat):FnOk Tryz.prog E162.eT 162 (vr04_Bits.c k):=FnOk.walk (E:=E162) (body:=B162) Tryz.func162 rfl (by rfl) Tryz.ntmps162 rfl S162 rfl (fun k x=>vr04_Bits.f k x) vr04_Bits.G (fun k=>trivial) 4000 vr04_Bits.cuts ⟨⟨fun _=>rfl,fun k x q h=>(vr04_Bits.w0 k x).trans h⟩,trivial⟩ (fun k x r h=>(vr04_Bits.w k x).trans h) k
end Go.Proofs.YtbpcfhhcoklinaaGreat.Fn
set_option maxRecDepth 100000
noncomputable section
namespace Go.Proofs.YtbpcfhhcoklinaaGreat.Fn
open Go Go.RowKit Go.Proofs.YtbpcfhhcoklinaaGreat.Ab
def E163:En:=⟨Tryz.prog,76,Tryz.f163.ntmps,none,false,[]⟩
def S163:Sig:=⟨[.s],[(.int .i64)],false,[.s],[(.int .i64)],false⟩
def B163:Go.Code:=Tryz.f163.body.get!
def vr07_Held.f (a0:Int):Option (Int):=if a0 < (-1099511627776) then (some (-1099511627776)) else (if a0 > 1099511627776 then (some 1099511627776) else (some a0))
--@ok
def vr07_Held.c:Con:=S163.con fun x=>vr07_Held.f x
def vr07_Held.G (k:Nat):List (Go.FuncId×Cn):=[]
def vr07_Held.cuts:List (Cut (TT S163.sb)):=[]
theorem vr07_Held.w (k:Nat) (x:TT S163.sa):walk E163 (vr07_Held.G k) (cutsAt E163 k vr07_Held.cuts) (retE E163 Tryz.f163.results.toList S163) 4000 true [([],.code B163)] (St0 S163 x)=vr07_Held.f x:=by kernel_rfl
theorem vr07_Held.ok:FnOk Tryz.prog E163.eT 163 (vr07_Held.c):=FnOk.walk (E:=E163) (body:=B163) Tryz.func163 rfl (by rfl) Tryz.ntmps163 rfl S163 rfl (fun k x=>vr07_Held.f x) vr07_Held.G (fun k=>trivial) 4000 vr07_Held.cuts trivial (fun k x r h=>(vr07_Held.w k x).trans h) 0
def E164:En:=⟨Tryz.prog,76,Tryz.f164.ntmps,none,false,[]⟩
def S164:Sig:=⟨[.s,.s],[(.rd .i64),(.int .i64)],false,[.s],[.bool],false⟩
def B164:Go.Code:=Tryz.f164.body.get!
mutual
def vr04_Low.l0:Nat→List Int→Int→Int→Option (Bool)
 | 0,_,_,_=>none
 | k+1,x0,x1,x5=>if x5 < (nI x0.length) then (vr04_Low.j1 k x0 x1 x5 (decide ((wrap64 (24*x5)) < x1))) else (vr04_Low.j1 k x0 x1 x5 false)
def vr04_Low.j1:Nat→List Int→Int→Int→Bool→Option (Bool)
 | 0,_,_,_,_=>none
 | k+1,x0,x1,x5,x16=>if x16=true then (if (wrap64 (x1 - (wrap64 (24*x5)))) < 24 then ((vr04_two.f k (wrap64 (x1 - (wrap64 (24*x5))))).bind fun t100=>(if 0≤x5 then (if x5 < (nI x0.length) then (if t100=0 then (none) else (if (Int.tmod (rd x0 x5) t100)=0 then (vr04_Low.l0 k x0 x1 (wrap64 (x5+1))) else (some true))) else (none)) else (none))) else (if 0≤x5 then (if x5 < (nI x0.length) then (if (Int.tmod (rd x0 x5) 16777216)=0 then (vr04_Low.l0 k x0 x1 (wrap64 (x5+1))) else (some true)) else (none)) else (none))) else (some false)
end
def vr04_Low.f (k:Nat) (l0:List Int) (a1:Int):Option (Bool):=vr04_Low.l0 k l0 a1 0
--@ok
def vr04_Low.c (k:Nat):Con:=S164.con fun x=>vr04_Low.f k x.1 x.2
def vr04_Low.G (k:Nat):List (Go.FuncId×Cn):=[(108,.f (vr04_two.c k))]
def vr04_Low.cuts:List (Cut (TT S164.sb)):=[⟨[6,4,1,0,1],[.sc 0 (.rd .i64),.sc 1 (.int .i64),.sc 5 (.int .i64)],fun k x=>vr04_Low.l0 k x.1 x.2.1 x.2.2⟩,⟨[1,0,6,4,1,0,1],[.sc 0 (.rd .i64),.sc 1 (.int .i64),.sc 5 (.int .i64),.sc 16 (.bool)],fun k x=>vr04_Low.j1 k x.1 x.2.1 x.2.2.1 x.2.2.2⟩]
theorem vr04_Low.w0 (k:Nat) (x:ET [.sc 0 (.rd .i64),.sc 1 (.int .i64),.sc 5 (.int .i64)]):walk E164 (vr04_Low.G k) (cutsAt E164 k vr04_Low.cuts) (retE E164 Tryz.f164.results.toList S164) 4000 true (stackAt B164 [6,4,1,0,1]) (mkE [.sc 0 (.rd .i64),.sc 1 (.int .i64),.sc 5 (.int .i64)] x St.nil)=vr04_Low.l0 (k+1) x.1 x.2.1 x.2.2:=by kernel_rfl
theorem vr04_Low.w1 (k:Nat) (x:ET [.sc 0 (.rd .i64),.sc 1 (.int .i64),.sc 5 (.int .i64),.sc 16 (.bool)]):walk E164 (vr04_Low.G k) (cutsAt E164 k vr04_Low.cuts) (retE E164 Tryz.f164.results.toList S164) 4000 true (stackAt B164 [1,0,6,4,1,0,1]) (mkE [.sc 0 (.rd .i64),.sc 1 (.int .i64),.sc 5 (.int .i64),.sc 16 (.bool)] x St.nil)=vr04_Low.j1 (k+1) x.1 x.2.1 x.2.2.1 x.2.2.2:=by kernel_rfl
theorem vr04_Low.w (k:Nat) (x:TT S164.sa):walk E164 (vr04_Low.G k) (cutsAt E164 k vr04_Low.cuts) (retE E164 Tryz.f164.results.toList S164) 4000 true [([],.code B164)] (St0 S164 x)=vr04_Low.f k x.1 x.2:=by kernel_rfl
theorem vr04_Low.ok (k:Nat):FnOk Tryz.prog E164.eT 164 (vr04_Low.c k):=FnOk.walk (E:=E164) (body:=B164) Tryz.func164 rfl (by rfl) Tryz.ntmps164 rfl S164 rfl (fun k x=>vr04_Low.f k x.1 x.2) vr04_Low.G (fun k=>⟨vr04_two.ok k,trivial⟩) 4000 vr04_Low.cuts ⟨⟨fun _=>rfl,fun k x q h=>(vr04_Low.w0 k x).trans h⟩,⟨fun _=>rfl,fun k x q h=>(vr04_Low.w1 k x).trans h⟩,trivial⟩ (fun k x r h=>(vr04_Low.w k x).trans h) k
def E118:En:=⟨Tryz.prog,76,Tryz.f118.ntmps,none,false,[]⟩
def S118:Sig:=⟨[.s,.s,.s,.s],[.bool,(.rd .i64),(.int .i64),.bool],false,[.g 6],[(.int .i64),.bool,(.int .i64),(.int .u64),(.int .u64),.bool],false⟩
def B118:Go.Code:=Tryz.f118.body.get!
mutual
def vr07_Exactly.j0:Nat→List Int→Bool→Int→Int→Bool→Int→Bool→Option (Int×Bool×Int×Int×Int×Bool)
 | 0,_,_,_,_,_,_,_=>none
 | k+1,x1,x3,x9,x10000,x10001,x10002,x10005=>if x9 > 128 then ((vr04_Low.f k x1 (wrap64 (x9 - 128))).bind fun t103=>(if x3=true then (vr07_Exactly.j1 k x1 x9 x10000 x10001 x10002 true) else (vr07_Exactly.j1 k x1 x9 x10000 x10001 x10002 t103))) else ((vr04_Word.f k x1).bind fun t104=>((vr04_Shr.f k x1 64).bind fun t105=>((vr04_Word.f k t105).bind fun t106=>(some (x10000,x10001,x10002,t106,t104,x10005)))))
def vr07_Exactly.j1:Nat→List Int→Int→Int→Bool→Int→Bool→Option (Int×Bool×Int×Int×Int×Bool)
 | 0,_,_,_,_,_,_=>none
 | k+1,x1,x9,x10000,x10001,x10002,x10005=>(vr04_Shr.f k x1 (wrap64 (x9 - 128))).bind fun t107=>((vr04_Word.f k t107).bind fun t108=>((vr04_Shr.f k t107 64).bind fun t109=>((vr04_Word.f k t109).bind fun t110=>(some (x10000,x10001,x10002,t110,t108,x10005)))))
end
def vr07_Exactly.f (k:Nat) (a0:Bool) (l1:List Int) (a2:Int) (a3:Bool):Option (Int×Bool×Int×Int×Int×Bool):=(vr04_Bits.f k l1).bind fun t100=>(if t100=0 then (some (0,false,0,0,0,false)) else ((vr07_Held.f (wrap64 ((wrap64 (a2+t100)) - 1))).bind fun t101=>(if t100 < 128 then ((vr04_Shl.f k l1 (wrap64 (128 - t100))).bind fun t102=>(vr07_Exactly.j0 k t102 a3 t100 1 a0 t101 a3)) else (vr07_Exactly.j0 k l1 a3 t100 1 a0 t101 a3))))
--@ok
def vr07_Exactly.c (k:Nat):Con:=S118.con fun x=>vr07_Exactly.f k x.1 x.2.1 x.2.2.1 x.2.2.2
def vr07_Exactly.G (k:Nat):List (Go.FuncId×Cn):=[(63,.f (vr04_Shl.c k)),(69,.f (vr04_Word.c k)),(70,.f (vr04_Shr.c k)),(162,.f (vr04_Bits.c k)),(163,.f vr07_Held.c),(164,.f (vr04_Low.c k))]
def vr07_Exactly.cuts:List (Cut (TT S118.sb)):=[⟨[1,1,1,1,1],[.sc 1 (.rd .i64),.sc 3 (.bool),.sc 9 (.int .i64),.box 8 120 [.int .i64,.bool,.int .i64,.int .u64,.int .u64,.bool],.box 10 120 [.int .i64,.bool,.int .i64,.int .u64,.int .u64,.bool]],fun k x=>vr07_Exactly.j0 k x.1 x.2.1 x.2.2.1 x.2.2.2.2.1 x.2.2.2.2.2.1 x.2.2.2.2.2.2.1 x.2.2.2.2.2.2.2.2.2⟩,⟨[1,1,2,1,0,1,1,1,1,1],[.sc 1 (.rd .i64),.sc 9 (.int .i64),.box 8 120 [.int .i64,.bool,.int .i64,.int .u64,.int .u64,.bool],.box 10 120 [.int .i64,.bool,.int .i64,.int .u64,.int .u64,.bool]],fun k x=>vr07_Exactly.j1 k x.1 x.2.1 x.2.2.2.1 x.2.2.2.2.1 x.2.2.2.2.2.1 x.2.2.2.2.2.2.2.2⟩]
theorem vr07_Exactly.w0 (k:Nat) (x:ET [.sc 1 (.rd .i64),.sc 3 (.bool),.sc 9 (.int .i64),.box 8 120 [.int .i64,.bool,.int .i64,.int .u64,.int .u64,.bool],.box 10 120 [.int .i64,.bool,.int .i64,.int .u64,.int .u64,.bool]]):walk E118 (vr07_Exactly.G k) (cutsAt E118 k vr07_Exactly.cuts) (retE E118 Tryz.f118.results.toList S118) 4000 true (stackAt B118 [1,1,1,1,1]) (mkE [.sc 1 (.rd .i64),.sc 3 (.bool),.sc 9 (.int .i64),.box 8 120 [.int .i64,.bool,.int .i64,.int .u64,.int .u64,.bool],.box 10 120 [.int .i64,.bool,.int .i64,.int .u64,.int .u64,.bool]] x St.nil)=vr07_Exactly.j0 (k+1) x.1 x.2.1 x.2.2.1 x.2.2.2.2.1 x.2.2.2.2.2.1 x.2.2.2.2.2.2.1 x.2.2.2.2.2.2.2.2.2:=by kernel_rfl
theorem vr07_Exactly.w1 (k:Nat) (x:ET [.sc 1 (.rd .i64),.sc 9 (.int .i64),.box 8 120 [.int .i64,.bool,.int .i64,.int .u64,.int .u64,.bool],.box 10 120 [.int .i64,.bool,.int .i64,.int .u64,.int .u64,.bool]]):walk E118 (vr07_Exactly.G k) (cutsAt E118 k vr07_Exactly.cuts) (retE E118 Tryz.f118.results.toList S118) 4000 true (stackAt B118 [1,1,2,1,0,1,1,1,1,1]) (mkE [.sc 1 (.rd .i64),.sc 9 (.int .i64),.box 8 120 [.int .i64,.bool,.int .i64,.int .u64,.int .u64,.bool],.box 10 120 [.int .i64,.bool,.int .i64,.int .u64,.int .u64,.bool]] x St.nil)=vr07_Exactly.j1 (k+1) x.1 x.2.1 x.2.2.2.1 x.2.2.2.2.1 x.2.2.2.2.2.1 x.2.2.2.2.2.2.2.2:=by kernel_rfl
theorem vr07_Exactly.w (k:Nat) (x:TT S118.sa):walk E118 (vr07_Exactly.G k) (cutsAt E118 k vr07_Exactly.cuts) (retE E118 Tryz.f118.results.toList S118) 4000 true [([],.code B118)] (St0 S118 x)=vr07_Exactly.f k x.1 x.2.1 x.2.2.1 x.2.2.2:=by kernel_rfl
theorem vr07_Exactly.ok (k:Nat):FnOk Tryz.prog E118.eT 118 (vr07_Exactly.c k):=FnOk.walk (E:=E118) (body:=B118) Tryz.func118 rfl (by rfl) Tryz.ntmps118 rfl S118 rfl (fun k x=>vr07_Exactly.f k x.1 x.2.1 x.2.2.1 x.2.2.2) vr07_Exactly.G (fun k=>⟨vr04_Shl.ok k,vr04_Word.ok k,vr04_Shr.ok k,vr04_Bits.ok k,vr07_Held.ok,vr04_Low.ok k,trivial⟩) 4000 vr07_Exactly.cuts ⟨⟨fun _=>rfl,fun k x q h=>(vr07_Exactly.w0 k x).trans h⟩,⟨fun _=>rfl,fun k x q h=>(vr07_Exactly.w1 k x).trans h⟩,trivial⟩ (fun k x r h=>(vr07_Exactly.w k x).trans h) k
def E215:En:=⟨Tryz.prog,76,Tryz.f215.ntmps,none,false,[]⟩
def S215:Sig:=⟨[.s,.s],[(.rd .i64),(.int .i64)],false,[.s],[(.int .i64)],false⟩
def B215:Go.Code:=Tryz.f215.body.get!
def vr00_digit.f (l0:List Int) (a1:Int):Option (Int):=if a1 < (nI l0.length) then (if 0≤a1 then (some (rd l0 a1)) else (none)) else (some 0)
--@ok
def vr00_digit.fR (l0:List Int) (a1:Int):Option (Int):=if a1 < (nI l0.length) then (if 0≤a1 then (if a1 < (nI l0.length) then (some (rd l0 a1)) else (none)) else (none)) else (some 0)
theorem vr00_digit.fE (l0:List Int) (a1:Int):vr00_digit.fR l0 a1=vr00_digit.f l0 a1:=by
  unfold vr00_digit.fR vr00_digit.f
  exact iteC (fun h0=>iteC (fun h1=>(if_pos h0).trans (rfl)) (fun h1=>rfl)) (fun h0=>rfl)
def vr00_digit.c:Con:=S215.con fun x=>vr00_digit.f x.1 x.2
def vr00_digit.G (k:Nat):List (Go.FuncId×Cn):=[]
def vr00_digit.cuts:List (Cut (TT S215.sb)):=[]
theorem vr00_digit.w (k:Nat) (x:TT S215.sa):walk E215 (vr00_digit.G k) (cutsAt E215 k vr00_digit.cuts) (retE E215 Tryz.f215.results.toList S215) 4000 true [([],.code B215)] (St0 S215 x)=vr00_digit.f x.1 x.2:=Eq.trans (b:=vr00_digit.fR x.1 x.2) (by kernel_rfl) (vr00_digit.fE x.1 x.2)
theorem vr00_digit.ok:FnOk Tryz.prog E215.eT 215 (vr00_digit.c):=FnOk.walk (E:=E215) (body:=B215) Tryz.func215 rfl (by rfl) Tryz.ntmps215 rfl S215 rfl (fun k x=>vr00_digit.f x.1 x.2) vr00_digit.G (fun k=>trivial) 4000 vr00_digit.cuts trivial (fun k x r h=>(vr00_digit.w k x).trans h) 0
def E213:En:=⟨Tryz.prog,76,Tryz.f213.ntmps,none,false,[]⟩
def S213:Sig:=⟨[.s,.s],[(.rd .i64),(.int .i64)],false,[.s],[(.rd .i64)],true⟩
def B213:Go.Code:=Tryz.f213.body.get!
def vr00_times.l0:Nat→List Int→Int→List Int→Int→Int→Option (List Int)
 | 0,_,_,_,_,_=>none
 | k+1,x0,x1,x5,x6,x7=>if x7 < (nI x0.length) then (if x1 > 0 then ((vr00_digit.f x0 x7).bind fun t100=>(if x5.length < 17592186044416 then (vr00_times.l0 k x0 x1 (x5++([Int.tmod (wrap64 ((wrap64 (t100*x1))+x6)) 16777216]:List Int)) (wrap64 (Int.tdiv (wrap64 ((wrap64 (t100*x1))+x6)) 16777216)) (wrap64 (x7+1))) else (none))) else (if x6 > 0 then ((vr00_digit.f x0 x7).bind fun t101=>(if x5.length < 17592186044416 then (vr00_times.l0 k x0 x1 (x5++([Int.tmod (wrap64 ((wrap64 (t101*x1))+x6)) 16777216]:List Int)) (wrap64 (Int.tdiv (wrap64 ((wrap64 (t101*x1))+x6)) 16777216)) (wrap64 (x7+1))) else (none))) else (some x5))) else (if x6 > 0 then ((vr00_digit.f x0 x7).bind fun t102=>(if x5.length < 17592186044416 then (vr00_times.l0 k x0 x1 (x5++([Int.tmod (wrap64 ((wrap64 (t102*x1))+x6)) 16777216]:List Int)) (wrap64 (Int.tdiv (wrap64 ((wrap64 (t102*x1))+x6)) 16777216)) (wrap64 (x7+1))) else (none))) else (some x5))
def vr00_times.f (k:Nat) (l0:List Int) (a1:Int):Option (List Int):=vr00_times.l0 k l0 a1 ([]:List Int) 0 0
--@ok
def vr00_times.c (k:Nat):Con:=S213.con fun x=>vr00_times.f k x.1 x.2
def vr00_times.G (k:Nat):List (Go.FuncId×Cn):=[(215,.f vr00_digit.c)]
def vr00_times.cuts:List (Cut (TT S213.sb)):=[⟨[6,4,1,0,1,1,1],[.sc 0 (.rd .i64),.sc 1 (.int .i64),.lst 5 .i64 3,.sc 6 (.int .i64),.sc 7 (.int .i64)],fun k x=>vr00_times.l0 k x.1 x.2.1 x.2.2.1 x.2.2.2.1 x.2.2.2.2⟩]
theorem vr00_times.w0 (k:Nat) (x:ET [.sc 0 (.rd .i64),.sc 1 (.int .i64),.lst 5 .i64 3,.sc 6 (.int .i64),.sc 7 (.int .i64)]):walk E213 (vr00_times.G k) (cutsAt E213 k vr00_times.cuts) (retE E213 Tryz.f213.results.toList S213) 4000 true (stackAt B213 [6,4,1,0,1,1,1]) (mkE [.sc 0 (.rd .i64),.sc 1 (.int .i64),.lst 5 .i64 3,.sc 6 (.int .i64),.sc 7 (.int .i64)] x St.nil)=vr00_times.l0 (k+1) x.1 x.2.1 x.2.2.1 x.2.2.2.1 x.2.2.2.2:=by kernel_rfl
theorem vr00_times.w (k:Nat) (x:TT S213.sa):walk E213 (vr00_times.G k) (cutsAt E213 k vr00_times.cuts) (retE E213 Tryz.f213.results.toList S213) 4000 true [([],.code B213)] (St0 S213 x)=vr00_times.f k x.1 x.2:=by kernel_rfl
theorem vr00_times.ok (k:Nat):FnOk Tryz.prog E213.eT 213 (vr00_times.c k):=FnOk.walk (E:=E213) (body:=B213) Tryz.func213 rfl (by rfl) Tryz.ntmps213 rfl S213 rfl (fun k x=>vr00_times.f k x.1 x.2) vr00_times.G (fun k=>⟨vr00_digit.ok,trivial⟩) 4000 vr00_times.cuts ⟨⟨fun _=>rfl,fun k x q h=>(vr00_times.w0 k x).trans h⟩,trivial⟩ (fun k x r h=>(vr00_times.w k x).trans h) k
def E214:En:=⟨Tryz.prog,76,Tryz.f214.ntmps,none,false,[]⟩
def S214:Sig:=⟨[.s],[(.int .i64)],false,[.s],[(.int .i64)],false⟩
def B214:Go.Code:=Tryz.f214.body.get!
def vr00_two.l0:Nat→Int→Int→Int→Option (Int)
 | 0,_,_,_=>none
 | k+1,x0,x3,x4=>if x4 < x0 then (vr00_two.l0 k x0 (wrap64 (2*x3)) (wrap64 (x4+1))) else (some x3)
def vr00_two.f (k:Nat) (a0:Int):Option (Int):=vr00_two.l0 k a0 1 0
--@ok
def vr00_two.c (k:Nat):Con:=S214.con fun x=>vr00_two.f k x
def vr00_two.G (k:Nat):List (Go.FuncId×Cn):=[]
def vr00_two.cuts:List (Cut (TT S214.sb)):=[⟨[6,4,1,0,1,1],[.sc 0 (.int .i64),.sc 3 (.int .i64),.sc 4 (.int .i64)],fun k x=>vr00_two.l0 k x.1 x.2.1 x.2.2⟩]
theorem vr00_two.w0 (k:Nat) (x:ET [.sc 0 (.int .i64),.sc 3 (.int .i64),.sc 4 (.int .i64)]):walk E214 (vr00_two.G k) (cutsAt E214 k vr00_two.cuts) (retE E214 Tryz.f214.results.toList S214) 4000 true (stackAt B214 [6,4,1,0,1,1]) (mkE [.sc 0 (.int .i64),.sc 3 (.int .i64),.sc 4 (.int .i64)] x St.nil)=vr00_two.l0 (k+1) x.1 x.2.1 x.2.2:=by kernel_rfl
theorem vr00_two.w (k:Nat) (x:TT S214.sa):walk E214 (vr00_two.G k) (cutsAt E214 k vr00_two.cuts) (retE E214 Tryz.f214.results.toList S214) 4000 true [([],.code B214)] (St0 S214 x)=vr00_two.f k x:=by kernel_rfl
theorem vr00_two.ok (k:Nat):FnOk Tryz.prog E214.eT 214 (vr00_two.c k):=FnOk.walk (E:=E214) (body:=B214) Tryz.func214 rfl (by rfl) Tryz.ntmps214 rfl S214 rfl (fun k x=>vr00_two.f k x) vr00_two.G (fun k=>trivial) 4000 vr00_two.cuts ⟨⟨fun _=>rfl,fun k x q h=>(vr00_two.w0 k x).trans h⟩,trivial⟩ (fun k x r h=>(vr00_two.w k x).trans h) k
def E192:En:=⟨Tryz.prog,76,Tryz.f192.ntmps,none,false,[]⟩
def S192:Sig:=⟨[.s,.s],[(.rd .i64),(.int .i64)],false,[.s],[(.rd .i64)],true⟩
def B192:Go.Code:=Tryz.f192.body.get!
def vr00_Shl.f (k:Nat) (l0:List Int) (a1:Int):Option (List Int):=if (nI l0.length)=0 then (some ([]:List Int)) else (if 0≤(wrap64 (Int.tdiv a1 24)) then (if (((wrap64 (Int.tdiv a1 24)):Int).toNat)≤35184372088832 then ((vr00_two.f k (Int.tmod a1 24)).bind fun t100=>((vr00_times.f k l0 t100).bind fun t101=>(if (((List.replicate (((wrap64 (Int.tdiv a1 24)):Int).toNat) 0:List Int).length)+t101.length)≤17592186044416 then (some ((List.replicate (((wrap64 (Int.tdiv a1 24)):Int).toNat) 0:List Int)++t101)) else (none)))) else (none)) else (none))
--@ok
def vr00_Shl.c (k:Nat):Con:=S192.con fun x=>vr00_Shl.f k x.1 x.2
def vr00_Shl.G (k:Nat):List (Go.FuncId×Cn):=[(213,.f (vr00_times.c k)),(214,.f (vr00_two.c k))]
def vr00_Shl.cuts:List (Cut (TT S192.sb)):=[]
theorem vr00_Shl.w (k:Nat) (x:TT S192.sa):walk E192 (vr00_Shl.G k) (cutsAt E192 k vr00_Shl.cuts) (retE E192 Tryz.f192.results.toList S192) 4000 true [([],.code B192)] (St0 S192 x)=vr00_Shl.f k x.1 x.2:=by kernel_rfl
theorem vr00_Shl.ok (k:Nat):FnOk Tryz.prog E192.eT 192 (vr00_Shl.c k):=FnOk.walk (E:=E192) (body:=B192) Tryz.func192 rfl (by rfl) Tryz.ntmps192 rfl S192 rfl (fun k x=>vr00_Shl.f k x.1 x.2) vr00_Shl.G (fun k=>⟨vr00_times.ok k,vr00_two.ok k,trivial⟩) 4000 vr00_Shl.cuts trivial (fun k x r h=>(vr00_Shl.w k x).trans h) k
def E193:En:=⟨Tryz.prog,76,Tryz.f193.ntmps,none,false,[]⟩
def S193:Sig:=⟨[.s],[(.int .u64)],false,[.s],[(.rd .i64)],true⟩
def B193:Go.Code:=Tryz.f193.body.get!
def vr00_Of.l0:Nat→Int→List Int→Option (List Int)
 | 0,_,_=>none
 | k+1,x0,x3=>if x0 > 0 then (if x3.length < 17592186044416 then (vr00_Of.l0 k (IntKind.u64.wrap (Int.tdiv x0 16777216)) (x3++([wrap64 (Int.tmod x0 16777216)]:List Int))) else (none)) else (some x3)
def vr00_Of.f (k:Nat) (a0:Int):Option (List Int):=vr00_Of.l0 k a0 ([]:List Int)
--@ok
def vr00_Of.c (k:Nat):Con:=S193.con fun x=>vr00_Of.f k x
def vr00_Of.G (k:Nat):List (Go.FuncId×Cn):=[]
def vr00_Of.cuts:List (Cut (TT S193.sb)):=[⟨[6,4,0,1,1],[.sc 0 (.int .u64),.lst 3 .i64 3],fun k x=>vr00_Of.l0 k x.1 x.2⟩]
theorem vr00_Of.w0 (k:Nat) (x:ET [.sc 0 (.int .u64),.lst 3 .i64 3]):walk E193 (vr00_Of.G k) (cutsAt E193 k vr00_Of.cuts) (retE E193 Tryz.f193.results.toList S193) 4000 true (stackAt B193 [6,4,0,1,1]) (mkE [.sc 0 (.int .u64),.lst 3 .i64 3] x St.nil)=vr00_Of.l0 (k+1) x.1 x.2:=by kernel_rfl
theorem vr00_Of.w (k:Nat) (x:TT S193.sa):walk E193 (vr00_Of.G k) (cutsAt E193 k vr00_Of.cuts) (retE E193 Tryz.f193.results.toList S193) 4000 true [([],.code B193)] (St0 S193 x)=vr00_Of.f k x:=by kernel_rfl
theorem vr00_Of.ok (k:Nat):FnOk Tryz.prog E193.eT 193 (vr00_Of.c k):=FnOk.walk (E:=E193) (body:=B193) Tryz.func193 rfl (by rfl) Tryz.ntmps193 rfl S193 rfl (fun k x=>vr00_Of.f k x) vr00_Of.G (fun k=>trivial) 4000 vr00_Of.cuts ⟨⟨fun _=>rfl,fun k x q h=>(vr00_Of.w0 k x).trans h⟩,trivial⟩ (fun k x r h=>(vr00_Of.w k x).trans h) k
def E194:En:=⟨Tryz.prog,76,Tryz.f194.ntmps,none,false,[]⟩
def S194:Sig:=⟨[.s,.s],[(.rd .i64),(.rd .i64)],false,[.s],[(.rd .i64)],true⟩
def B194:Go.Code:=Tryz.f194.body.get!
mutual
def vr00_Add.l0:Nat→List Int→List Int→List Int→Int→Int→Option (List Int)
 | 0,_,_,_,_,_=>none
 | k+1,x0,x1,x5,x6,x7=>if x7 < (nI x0.length) then (vr00_Add.j1 k x0 x1 x5 x6 x7 true) else (if x7 < (nI x1.length) then (vr00_Add.j1 k x0 x1 x5 x6 x7 true) else (vr00_Add.j1 k x0 x1 x5 x6 x7 (decide (x6 > 0))))
def vr00_Add.j1:Nat→List Int→List Int→List Int→Int→Int→Bool→Option (List Int)
 | 0,_,_,_,_,_,_=>none
 | k+1,x0,x1,x5,x6,x7,x22=>if x22=true then ((vr00_digit.f x0 x7).bind fun t100=>((vr00_digit.f x1 x7).bind fun t101=>(if x5.length < 17592186044416 then (vr00_Add.l0 k x0 x1 (x5++([Int.tmod (wrap64 ((wrap64 (t100+t101))+x6)) 16777216]:List Int)) (wrap64 (Int.tdiv (wrap64 ((wrap64 (t100+t101))+x6)) 16777216)) (wrap64 (x7+1))) else (none)))) else (some x5)
end
def vr00_Add.f (k:Nat) (l0:List Int) (l1:List Int):Option (List Int):=vr00_Add.l0 k l0 l1 ([]:List Int) 0 0
--@ok
def vr00_Add.c (k:Nat):Con:=S194.con fun x=>vr00_Add.f k x.1 x.2
def vr00_Add.G (k:Nat):List (Go.FuncId×Cn):=[(215,.f vr00_digit.c)]
def vr00_Add.cuts:List (Cut (TT S194.sb)):=[⟨[6,4,1,0,1,1,1],[.sc 0 (.rd .i64),.sc 1 (.rd .i64),.lst 5 .i64 3,.sc 6 (.int .i64),.sc 7 (.int .i64)],fun k x=>vr00_Add.l0 k x.1 x.2.1 x.2.2.1 x.2.2.2.1 x.2.2.2.2⟩,⟨[1,0,6,4,1,0,1,1,1],[.sc 0 (.rd .i64),.sc 1 (.rd .i64),.lst 5 .i64 3,.sc 6 (.int .i64),.sc 7 (.int .i64),.sc 22 (.bool)],fun k x=>vr00_Add.j1 k x.1 x.2.1 x.2.2.1 x.2.2.2.1 x.2.2.2.2.1 x.2.2.2.2.2⟩]
theorem vr00_Add.w0 (k:Nat) (x:ET [.sc 0 (.rd .i64),.sc 1 (.rd .i64),.lst 5 .i64 3,.sc 6 (.int .i64),.sc 7 (.int .i64)]):walk E194 (vr00_Add.G k) (cutsAt E194 k vr00_Add.cuts) (retE E194 Tryz.f194.results.toList S194) 4000 true (stackAt B194 [6,4,1,0,1,1,1]) (mkE [.sc 0 (.rd .i64),.sc 1 (.rd .i64),.lst 5 .i64 3,.sc 6 (.int .i64),.sc 7 (.int .i64)] x St.nil)=vr00_Add.l0 (k+1) x.1 x.2.1 x.2.2.1 x.2.2.2.1 x.2.2.2.2:=by kernel_rfl
theorem vr00_Add.w1 (k:Nat) (x:ET [.sc 0 (.rd .i64),.sc 1 (.rd .i64),.lst 5 .i64 3,.sc 6 (.int .i64),.sc 7 (.int .i64),.sc 22 (.bool)]):walk E194 (vr00_Add.G k) (cutsAt E194 k vr00_Add.cuts) (retE E194 Tryz.f194.results.toList S194) 4000 true (stackAt B194 [1,0,6,4,1,0,1,1,1]) (mkE [.sc 0 (.rd .i64),.sc 1 (.rd .i64),.lst 5 .i64 3,.sc 6 (.int .i64),.sc 7 (.int .i64),.sc 22 (.bool)] x St.nil)=vr00_Add.j1 (k+1) x.1 x.2.1 x.2.2.1 x.2.2.2.1 x.2.2.2.2.1 x.2.2.2.2.2:=by kernel_rfl
theorem vr00_Add.w (k:Nat) (x:TT S194.sa):walk E194 (vr00_Add.G k) (cutsAt E194 k vr00_Add.cuts) (retE E194 Tryz.f194.results.toList S194) 4000 true [([],.code B194)] (St0 S194 x)=vr00_Add.f k x.1 x.2:=by kernel_rfl
theorem vr00_Add.ok (k:Nat):FnOk Tryz.prog E194.eT 194 (vr00_Add.c k):=FnOk.walk (E:=E194) (body:=B194) Tryz.func194 rfl (by rfl) Tryz.ntmps194 rfl S194 rfl (fun k x=>vr00_Add.f k x.1 x.2) vr00_Add.G (fun k=>⟨vr00_digit.ok,trivial⟩) 4000 vr00_Add.cuts ⟨⟨fun _=>rfl,fun k x q h=>(vr00_Add.w0 k x).trans h⟩,⟨fun _=>rfl,fun k x q h=>(vr00_Add.w1 k x).trans h⟩,trivial⟩ (fun k x r h=>(vr00_Add.w k x).trans h) k
def E148:En:=⟨Tryz.prog,76,Tryz.f148.ntmps,none,false,[]⟩
def S148:Sig:=⟨[.g 2],[(.int .u64),(.int .u64)],false,[.s],[(.rd .i64)],true⟩
def B148:Go.Code:=Tryz.f148.body.get!
def vr02_Of.f (k:Nat) (a0_0:Int) (a0_1:Int):Option (List Int):=(vr00_Of.f k a0_0).bind fun t100=>((vr00_Shl.f k t100 64).bind fun t101=>((vr00_Of.f k a0_1).bind fun t102=>((vr00_Add.f k t101 t102).bind fun t103=>(some t103))))
--@ok
def vr02_Of.c (k:Nat):Con:=S148.con fun x=>vr02_Of.f k x.1 x.2
def vr02_Of.G (k:Nat):List (Go.FuncId×Cn):=[(192,.f (vr00_Shl.c k)),(193,.f (vr00_Of.c k)),(194,.f (vr00_Add.c k))]
def vr02_Of.cuts:List (Cut (TT S148.sb)):=[]
theorem vr02_Of.w (k:Nat) (x:TT S148.sa):walk E148 (vr02_Of.G k) (cutsAt E148 k vr02_Of.cuts) (retE E148 Tryz.f148.results.toList S148) 4000 true [([],.code B148)] (St0 S148 x)=vr02_Of.f k x.1 x.2:=by kernel_rfl
theorem vr02_Of.ok (k:Nat):FnOk Tryz.prog E148.eT 148 (vr02_Of.c k):=FnOk.walk (E:=E148) (body:=B148) Tryz.func148 rfl (by rfl) Tryz.ntmps148 rfl S148 rfl (fun k x=>vr02_Of.f k x.1 x.2) vr02_Of.G (fun k=>⟨vr00_Shl.ok k,vr00_Of.ok k,vr00_Add.ok k,trivial⟩) 4000 vr02_Of.cuts trivial (fun k x r h=>(vr02_Of.w k x).trans h) k
def E149:En:=⟨Tryz.prog,76,Tryz.f149.ntmps,none,false,[]⟩
def S149:Sig:=⟨[.s,.s],[(.rd .i64),(.rd .i64)],false,[.s],[(.rd .i64)],true⟩
def B149:Go.Code:=Tryz.f149.body.get!
mutual
def vr04_Add.l0:Nat→List Int→List Int→List Int→Int→Int→Option (List Int)
 | 0,_,_,_,_,_=>none
 | k+1,x0,x1,x5,x6,x7=>if x7 < (nI x0.length) then (vr04_Add.j1 k x0 x1 x5 x6 x7 true) else (if x7 < (nI x1.length) then (vr04_Add.j1 k x0 x1 x5 x6 x7 true) else (vr04_Add.j1 k x0 x1 x5 x6 x7 (decide (x6 > 0))))
def vr04_Add.j1:Nat→List Int→List Int→List Int→Int→Int→Bool→Option (List Int)
 | 0,_,_,_,_,_,_=>none
 | k+1,x0,x1,x5,x6,x7,x22=>if x22=true then ((vr04_digit.f x0 x7).bind fun t100=>((vr04_digit.f x1 x7).bind fun t101=>(if x5.length < 17592186044416 then (vr04_Add.l0 k x0 x1 (x5++([Int.tmod (wrap64 ((wrap64 (t100+t101))+x6)) 16777216]:List Int)) (wrap64 (Int.tdiv (wrap64 ((wrap64 (t100+t101))+x6)) 16777216)) (wrap64 (x7+1))) else (none)))) else (some x5)
end
def vr04_Add.f (k:Nat) (l0:List Int) (l1:List Int):Option (List Int):=vr04_Add.l0 k l0 l1 ([]:List Int) 0 0
--@ok
def vr04_Add.c (k:Nat):Con:=S149.con fun x=>vr04_Add.f k x.1 x.2
def vr04_Add.G (k:Nat):List (Go.FuncId×Cn):=[(110,.f vr04_digit.c)]
def vr04_Add.cuts:List (Cut (TT S149.sb)):=[⟨[6,4,1,0,1,1,1],[.sc 0 (.rd .i64),.sc 1 (.rd .i64),.lst 5 .i64 3,.sc 6 (.int .i64),.sc 7 (.int .i64)],fun k x=>vr04_Add.l0 k x.1 x.2.1 x.2.2.1 x.2.2.2.1 x.2.2.2.2⟩,⟨[1,0,6,4,1,0,1,1,1],[.sc 0 (.rd .i64),.sc 1 (.rd .i64),.lst 5 .i64 3,.sc 6 (.int .i64),.sc 7 (.int .i64),.sc 22 (.bool)],fun k x=>vr04_Add.j1 k x.1 x.2.1 x.2.2.1 x.2.2.2.1 x.2.2.2.2.1 x.2.2.2.2.2⟩]
theorem vr04_Add.w0 (k:Nat) (x:ET [.sc 0 (.rd .i64),.sc 1 (.rd .i64),.lst 5 .i64 3,.sc 6 (.int .i64),.sc 7 (.int .i64)]):walk E149 (vr04_Add.G k) (cutsAt E149 k vr04_Add.cuts) (retE E149 Tryz.f149.results.toList S149) 4000 true (stackAt B149 [6,4,1,0,1,1,1]) (mkE [.sc 0 (.rd .i64),.sc 1 (.rd .i64),.lst 5 .i64 3,.sc 6 (.int .i64),.sc 7 (.int .i64)] x St.nil)=vr04_Add.l0 (k+1) x.1 x.2.1 x.2.2.1 x.2.2.2.1 x.2.2.2.2:=by kernel_rfl
theorem vr04_Add.w1 (k:Nat) (x:ET [.sc 0 (.rd .i64),.sc 1 (.rd .i64),.lst 5 .i64 3,.sc 6 (.int .i64),.sc 7 (.int .i64),.sc 22 (.bool)]):walk E149 (vr04_Add.G k) (cutsAt E149 k vr04_Add.cuts) (retE E149 Tryz.f149.results.toList S149) 4000 true (stackAt B149 [1,0,6,4,1,0,1,1,1]) (mkE [.sc 0 (.rd .i64),.sc 1 (.rd .i64),.lst 5 .i64 3,.sc 6 (.int .i64),.sc 7 (.int .i64),.sc 22 (.bool)] x St.nil)=vr04_Add.j1 (k+1) x.1 x.2.1 x.2.2.1 x.2.2.2.1 x.2.2.2.2.1 x.2.2.2.2.2:=by kernel_rfl
theorem vr04_Add.w (k:Nat) (x:TT S149.sa):walk E149 (vr04_Add.G k) (cutsAt E149 k vr04_Add.cuts) (retE E149 Tryz.f149.results.toList S149) 4000 true [([],.code B149)] (St0 S149 x)=vr04_Add.f k x.1 x.2:=by kernel_rfl
theorem vr04_Add.ok (k:Nat):FnOk Tryz.prog E149.eT 149 (vr04_Add.c k):=FnOk.walk (E:=E149) (body:=B149) Tryz.func149 rfl (by rfl) Tryz.ntmps149 rfl S149 rfl (fun k x=>vr04_Add.f k x.1 x.2) vr04_Add.G (fun k=>⟨vr04_digit.ok,trivial⟩) 4000 vr04_Add.cuts ⟨⟨fun _=>rfl,fun k x q h=>(vr04_Add.w0 k x).trans h⟩,⟨fun _=>rfl,fun k x q h=>(vr04_Add.w1 k x).trans h⟩,trivial⟩ (fun k x r h=>(vr04_Add.w k x).trans h) k
def E101:En:=⟨Tryz.prog,76,Tryz.f101.ntmps,none,false,[]⟩
def S101:Sig:=⟨[.g 6,.g 6],[(.int .i64),.bool,(.int .i64),(.int .u64),(.int .u64),.bool,(.int .i64),.bool,(.int .i64),(.int .u64),(.int .u64),.bool],false,[.g 6],[(.int .i64),.bool,(.int .i64),(.int .u64),(.int .u64),.bool],false⟩
def B101:Go.Code:=Tryz.f101.body.get!
mutual
def vr09_Sum_0.j0:Nat→Bool→Int→Bool→Int→Int→Int→Bool→Int→Bool→Int→Int→Int→Bool→Option (Int×Bool×Int×Int×Int×Bool)
 | 0,_,_,_,_,_,_,_,_,_,_,_,_,_=>none
 | k+1,x9,x2000,x2001,x2002,x2003,x2004,x2005,x3000,x3001,x3002,x3003,x3004,x3005=>if x9=true then (some (2,false,0,0,0,false)) else (if x2000=0 then (some (x3000,x3001,x3002,x3003,x3004,x3005)) else (if x3000=0 then (some (x2000,x2001,x2002,x2003,x2004,x2005)) else (if x2002 < x3002 then (none) else ((vr02_Of.f k x2003 x2004).bind fun t100=>((vr02_Of.f k x3003 x3004).bind fun t101=>(if (wrap64 (x2002 - x3002)) > 400 then (vr09_Sum_0.j1 k t100 ([1]:List Int) 400 x2001 x2002 x3001) else (vr09_Sum_0.j1 k t100 t101 (wrap64 (x2002 - x3002)) x2001 x2002 x3001)))))))
def vr09_Sum_0.j1:Nat→List Int→List Int→Int→Bool→Int→Bool→Option (Int×Bool×Int×Int×Int×Bool)
 | 0,_,_,_,_,_,_=>none
 | k+1,x5,x6,x7,x2001,x2002,x3001=>(vr04_Shl.f k x5 x7).bind fun t102=>(if (x2001==x3001)=true then ((vr04_Add.f k t102 x6).bind fun t103=>((vr07_Exactly.f k x2001 t103 (wrap64 ((wrap64 (x2002 - 127)) - x7)) false).bind fun t104=>(some (t104.1,t104.2.1,t104.2.2.1,t104.2.2.2.1,t104.2.2.2.2.1,t104.2.2.2.2.2)))) else ((vr04_Cmp.f k t102 x6).bind fun t105=>(if t105≥0 then ((vr04_Sub.f k t102 x6).bind fun t106=>((vr07_Exactly.f k x2001 t106 (wrap64 ((wrap64 (x2002 - 127)) - x7)) false).bind fun t107=>(some (t107.1,t107.2.1,t107.2.2.1,t107.2.2.2.1,t107.2.2.2.2.1,t107.2.2.2.2.2)))) else ((vr04_Sub.f k x6 t102).bind fun t108=>((vr07_Exactly.f k x3001 t108 (wrap64 ((wrap64 (x2002 - 127)) - x7)) false).bind fun t109=>(some (t109.1,t109.2.1,t109.2.2.1,t109.2.2.2.1,t109.2.2.2.2.1,t109.2.2.2.2.2)))))))
end
def vr09_Sum_0.f (k:Nat) (a0_0:Int) (a0_1:Bool) (a0_2:Int) (a0_3:Int) (a0_4:Int) (a0_5:Bool) (a1_0:Int) (a1_1:Bool) (a1_2:Int) (a1_3:Int) (a1_4:Int) (a1_5:Bool):Option (Int×Bool×Int×Int×Int×Bool):=if a0_0=2 then (vr09_Sum_0.j0 k true a0_0 a0_1 a0_2 a0_3 a0_4 a0_5 a1_0 a1_1 a1_2 a1_3 a1_4 a1_5) else (vr09_Sum_0.j0 k (a1_0==2) a0_0 a0_1 a0_2 a0_3 a0_4 a0_5 a1_0 a1_1 a1_2 a1_3 a1_4 a1_5)
--@ok
def vr09_Sum_0.c (k:Nat):Con:=S101.con fun x=>vr09_Sum_0.f k x.1 x.2.1 x.2.2.1 x.2.2.2.1 x.2.2.2.2.1 x.2.2.2.2.2.1 x.2.2.2.2.2.2.1 x.2.2.2.2.2.2.2.1 x.2.2.2.2.2.2.2.2.1 x.2.2.2.2.2.2.2.2.2.1 x.2.2.2.2.2.2.2.2.2.2.1 x.2.2.2.2.2.2.2.2.2.2.2
def vr09_Sum_0.G (k:Nat):List (Go.FuncId×Cn):=[(63,.f (vr04_Shl.c k)),(65,.f (vr04_Cmp.c k)),(68,.f (vr04_Sub.c k)),(118,.f (vr07_Exactly.c k)),(148,.f (vr02_Of.c k)),(149,.f (vr04_Add.c k))]
def vr09_Sum_0.cuts:List (Cut (TT S101.sb)):=[⟨[1,4,0,1],[.sc 9 (.bool),.box 2 120 [.int .i64,.bool,.int .i64,.int .u64,.int .u64,.bool],.box 3 120 [.int .i64,.bool,.int .i64,.int .u64,.int .u64,.bool],.box 4 120 [.int .i64,.bool,.int .i64,.int .u64,.int .u64,.bool]],fun k x=>vr09_Sum_0.j0 k x.1 x.2.1.1 x.2.1.2.1 x.2.1.2.2.1 x.2.1.2.2.2.1 x.2.1.2.2.2.2.1 x.2.1.2.2.2.2.2 x.2.2.1.1 x.2.2.1.2.1 x.2.2.1.2.2.1 x.2.2.1.2.2.2.1 x.2.2.1.2.2.2.2.1 x.2.2.1.2.2.2.2.2⟩,⟨[1,1,1,1,1,1],[.sc 5 (.rd .i64),.sc 6 (.rd .i64),.sc 7 (.int .i64),.box 2 120 [.int .i64,.bool,.int .i64,.int .u64,.int .u64,.bool],.box 3 120 [.int .i64,.bool,.int .i64,.int .u64,.int .u64,.bool],.box 4 120 [.int .i64,.bool,.int .i64,.int .u64,.int .u64,.bool]],fun k x=>vr09_Sum_0.j1 k x.1 x.2.1 x.2.2.1 x.2.2.2.1.2.1 x.2.2.2.1.2.2.1 x.2.2.2.2.1.2.1⟩]
theorem vr09_Sum_0.w0 (k:Nat) (x:ET [.sc 9 (.bool),.box 2 120 [.int .i64,.bool,.int .i64,.int .u64,.int .u64,.bool],.box 3 120 [.int .i64,.bool,.int .i64,.int .u64,.int .u64,.bool],.box 4 120 [.int .i64,.bool,.int .i64,.int .u64,.int .u64,.bool]]):walk E101 (vr09_Sum_0.G k) (cutsAt E101 k vr09_Sum_0.cuts) (retE E101 Tryz.f101.results.toList S101) 4000 true (stackAt B101 [1,4,0,1]) (mkE [.sc 9 (.bool),.box 2 120 [.int .i64,.bool,.int .i64,.int .u64,.int .u64,.bool],.box 3 120 [.int .i64,.bool,.int .i64,.int .u64,.int .u64,.bool],.box 4 120 [.int .i64,.bool,.int .i64,.int .u64,.int .u64,.bool]] x St.nil)=vr09_Sum_0.j0 (k+1) x.1 x.2.1.1 x.2.1.2.1 x.2.1.2.2.1 x.2.1.2.2.2.1 x.2.1.2.2.2.2.1 x.2.1.2.2.2.2.2 x.2.2.1.1 x.2.2.1.2.1 x.2.2.1.2.2.1 x.2.2.1.2.2.2.1 x.2.2.1.2.2.2.2.1 x.2.2.1.2.2.2.2.2:=by kernel_rfl
theorem vr09_Sum_0.w1 (k:Nat) (x:ET [.sc 5 (.rd .i64),.sc 6 (.rd .i64),.sc 7 (.int .i64),.box 2 120 [.int .i64,.bool,.int .i64,.int .u64,.int .u64,.bool],.box 3 120 [.int .i64,.bool,.int .i64,.int .u64,.int .u64,.bool],.box 4 120 [.int .i64,.bool,.int .i64,.int .u64,.int .u64,.bool]]):walk E101 (vr09_Sum_0.G k) (cutsAt E101 k vr09_Sum_0.cuts) (retE E101 Tryz.f101.results.toList S101) 4000 true (stackAt B101 [1,1,1,1,1,1]) (mkE [.sc 5 (.rd .i64),.sc 6 (.rd .i64),.sc 7 (.int .i64),.box 2 120 [.int .i64,.bool,.int .i64,.int .u64,.int .u64,.bool],.box 3 120 [.int .i64,.bool,.int .i64,.int .u64,.int .u64,.bool],.box 4 120 [.int .i64,.bool,.int .i64,.int .u64,.int .u64,.bool]] x St.nil)=vr09_Sum_0.j1 (k+1) x.1 x.2.1 x.2.2.1 x.2.2.2.1.2.1 x.2.2.2.1.2.2.1 x.2.2.2.2.1.2.1:=by kernel_rfl
theorem vr09_Sum_0.w (k:Nat) (x:TT S101.sa):walk E101 (vr09_Sum_0.G k) (cutsAt E101 k vr09_Sum_0.cuts) (retE E101 Tryz.f101.results.toList S101) 4000 true [([],.code B101)] (St0 S101 x)=vr09_Sum_0.f k x.1 x.2.1 x.2.2.1 x.2.2.2.1 x.2.2.2.2.1 x.2.2.2.2.2.1 x.2.2.2.2.2.2.1 x.2.2.2.2.2.2.2.1 x.2.2.2.2.2.2.2.2.1 x.2.2.2.2.2.2.2.2.2.1 x.2.2.2.2.2.2.2.2.2.2.1 x.2.2.2.2.2.2.2.2.2.2.2:=by kernel_rfl
theorem vr09_Sum_0.ok (k:Nat):FnOk Tryz.prog E101.eT 101 (vr09_Sum_0.c k):=FnOk.walk (E:=E101) (body:=B101) Tryz.func101 rfl (by rfl) Tryz.ntmps101 rfl S101 rfl (fun k x=>vr09_Sum_0.f k x.1 x.2.1 x.2.2.1 x.2.2.2.1 x.2.2.2.2.1 x.2.2.2.2.2.1 x.2.2.2.2.2.2.1 x.2.2.2.2.2.2.2.1 x.2.2.2.2.2.2.2.2.1 x.2.2.2.2.2.2.2.2.2.1 x.2.2.2.2.2.2.2.2.2.2.1 x.2.2.2.2.2.2.2.2.2.2.2) vr09_Sum_0.G (fun k=>⟨vr04_Shl.ok k,vr04_Cmp.ok k,vr04_Sub.ok k,vr07_Exactly.ok k,vr02_Of.ok k,vr04_Add.ok k,trivial⟩) 4000 vr09_Sum_0.cuts ⟨⟨fun _=>rfl,fun k x q h=>(vr09_Sum_0.w0 k x).trans h⟩,⟨fun _=>rfl,fun k x q h=>(vr09_Sum_0.w1 k x).trans h⟩,trivial⟩ (fun k x r h=>(vr09_Sum_0.w k x).trans h) k
mutual
def vr09_Sum.j0:Nat→Bool→Int→Bool→Int→Int→Int→Bool→Int→Bool→Int→Int→Int→Bool→Option (Int×Bool×Int×Int×Int×Bool)
 | 0,_,_,_,_,_,_,_,_,_,_,_,_,_=>none
 | k+1,x9,x2000,x2001,x2002,x2003,x2004,x2005,x3000,x3001,x3002,x3003,x3004,x3005=>if x9=true then (some (2,false,0,0,0,false)) else (if x2000=0 then (some (x3000,x3001,x3002,x3003,x3004,x3005)) else (if x3000=0 then (some (x2000,x2001,x2002,x2003,x2004,x2005)) else (if x2002 < x3002 then ((vr09_Sum_0.f k x3000 x3001 x3002 x3003 x3004 x3005 x2000 x2001 x2002 x2003 x2004 x2005).bind fun t100=>(some (t100.1,t100.2.1,t100.2.2.1,t100.2.2.2.1,t100.2.2.2.2.1,t100.2.2.2.2.2))) else ((vr02_Of.f k x2003 x2004).bind fun t101=>((vr02_Of.f k x3003 x3004).bind fun t102=>(if (wrap64 (x2002 - x3002)) > 400 then (vr09_Sum.j1 k t101 ([1]:List Int) 400 x2001 x2002 x3001) else (vr09_Sum.j1 k t101 t102 (wrap64 (x2002 - x3002)) x2001 x2002 x3001)))))))
def vr09_Sum.j1:Nat→List Int→List Int→Int→Bool→Int→Bool→Option (Int×Bool×Int×Int×Int×Bool)
 | 0,_,_,_,_,_,_=>none
 | k+1,x5,x6,x7,x2001,x2002,x3001=>(vr04_Shl.f k x5 x7).bind fun t103=>(if (x2001==x3001)=true then ((vr04_Add.f k t103 x6).bind fun t104=>((vr07_Exactly.f k x2001 t104 (wrap64 ((wrap64 (x2002 - 127)) - x7)) false).bind fun t105=>(some (t105.1,t105.2.1,t105.2.2.1,t105.2.2.2.1,t105.2.2.2.2.1,t105.2.2.2.2.2)))) else ((vr04_Cmp.f k t103 x6).bind fun t106=>(if t106≥0 then ((vr04_Sub.f k t103 x6).bind fun t107=>((vr07_Exactly.f k x2001 t107 (wrap64 ((wrap64 (x2002 - 127)) - x7)) false).bind fun t108=>(some (t108.1,t108.2.1,t108.2.2.1,t108.2.2.2.1,t108.2.2.2.2.1,t108.2.2.2.2.2)))) else ((vr04_Sub.f k x6 t103).bind fun t109=>((vr07_Exactly.f k x3001 t109 (wrap64 ((wrap64 (x2002 - 127)) - x7)) false).bind fun t110=>(some (t110.1,t110.2.1,t110.2.2.1,t110.2.2.2.1,t110.2.2.2.2.1,t110.2.2.2.2.2)))))))
end
def vr09_Sum.f (k:Nat) (a0_0:Int) (a0_1:Bool) (a0_2:Int) (a0_3:Int) (a0_4:Int) (a0_5:Bool) (a1_0:Int) (a1_1:Bool) (a1_2:Int) (a1_3:Int) (a1_4:Int) (a1_5:Bool):Option (Int×Bool×Int×Int×Int×Bool):=if a0_0=2 then (vr09_Sum.j0 k true a0_0 a0_1 a0_2 a0_3 a0_4 a0_5 a1_0 a1_1 a1_2 a1_3 a1_4 a1_5) else (vr09_Sum.j0 k (a1_0==2) a0_0 a0_1 a0_2 a0_3 a0_4 a0_5 a1_0 a1_1 a1_2 a1_3 a1_4 a1_5)
--@ok
def vr09_Sum.c (k:Nat):Con:=S101.con fun x=>vr09_Sum.f k x.1 x.2.1 x.2.2.1 x.2.2.2.1 x.2.2.2.2.1 x.2.2.2.2.2.1 x.2.2.2.2.2.2.1 x.2.2.2.2.2.2.2.1 x.2.2.2.2.2.2.2.2.1 x.2.2.2.2.2.2.2.2.2.1 x.2.2.2.2.2.2.2.2.2.2.1 x.2.2.2.2.2.2.2.2.2.2.2
def vr09_Sum.G (k:Nat):List (Go.FuncId×Cn):=[(63,.f (vr04_Shl.c k)),(65,.f (vr04_Cmp.c k)),(68,.f (vr04_Sub.c k)),(118,.f (vr07_Exactly.c k)),(148,.f (vr02_Of.c k)),(149,.f (vr04_Add.c k)),(101,.f (vr09_Sum_0.c k))]
def vr09_Sum.cuts:List (Cut (TT S101.sb)):=[⟨[1,4,0,1],[.sc 9 (.bool),.box 2 120 [.int .i64,.bool,.int .i64,.int .u64,.int .u64,.bool],.box 3 120 [.int .i64,.bool,.int .i64,.int .u64,.int .u64,.bool],.box 4 120 [.int .i64,.bool,.int .i64,.int .u64,.int .u64,.bool]],fun k x=>vr09_Sum.j0 k x.1 x.2.1.1 x.2.1.2.1 x.2.1.2.2.1 x.2.1.2.2.2.1 x.2.1.2.2.2.2.1 x.2.1.2.2.2.2.2 x.2.2.1.1 x.2.2.1.2.1 x.2.2.1.2.2.1 x.2.2.1.2.2.2.1 x.2.2.1.2.2.2.2.1 x.2.2.1.2.2.2.2.2⟩,⟨[1,1,1,1,1,1],[.sc 5 (.rd .i64),.sc 6 (.rd .i64),.sc 7 (.int .i64),.box 2 120 [.int .i64,.bool,.int .i64,.int .u64,.int .u64,.bool],.box 3 120 [.int .i64,.bool,.int .i64,.int .u64,.int .u64,.bool],.box 4 120 [.int .i64,.bool,.int .i64,.int .u64,.int .u64,.bool]],fun k x=>vr09_Sum.j1 k x.1 x.2.1 x.2.2.1 x.2.2.2.1.2.1 x.2.2.2.1.2.2.1 x.2.2.2.2.1.2.1⟩]
theorem vr09_Sum.w0 (k:Nat) (x:ET [.sc 9 (.bool),.box 2 120 [.int .i64,.bool,.int .i64,.int .u64,.int .u64,.bool],.box 3 120 [.int .i64,.bool,.int .i64,.int .u64,.int .u64,.bool],.box 4 120 [.int .i64,.bool,.int .i64,.int .u64,.int .u64,.bool]]):walk E101 (vr09_Sum.G k) (cutsAt E101 k vr09_Sum.cuts) (retE E101 Tryz.f101.results.toList S101) 4000 true (stackAt B101 [1,4,0,1]) (mkE [.sc 9 (.bool),.box 2 120 [.int .i64,.bool,.int .i64,.int .u64,.int .u64,.bool],.box 3 120 [.int .i64,.bool,.int .i64,.int .u64,.int .u64,.bool],.box 4 120 [.int .i64,.bool,.int .i64,.int .u64,.int .u64,.bool]] x St.nil)=vr09_Sum.j0 (k+1) x.1 x.2.1.1 x.2.1.2.1 x.2.1.2.2.1 x.2.1.2.2.2.1 x.2.1.2.2.2.2.1 x.2.1.2.2.2.2.2 x.2.2.1.1 x.2.2.1.2.1 x.2.2.1.2.2.1 x.2.2.1.2.2.2.1 x.2.2.1.2.2.2.2.1 x.2.2.1.2.2.2.2.2:=by kernel_rfl
theorem vr09_Sum.w1 (k:Nat) (x:ET [.sc 5 (.rd .i64),.sc 6 (.rd .i64),.sc 7 (.int .i64),.box 2 120 [.int .i64,.bool,.int .i64,.int .u64,.int .u64,.bool],.box 3 120 [.int .i64,.bool,.int .i64,.int .u64,.int .u64,.bool],.box 4 120 [.int .i64,.bool,.int .i64,.int .u64,.int .u64,.bool]]):walk E101 (vr09_Sum.G k) (cutsAt E101 k vr09_Sum.cuts) (retE E101 Tryz.f101.results.toList S101) 4000 true (stackAt B101 [1,1,1,1,1,1]) (mkE [.sc 5 (.rd .i64),.sc 6 (.rd .i64),.sc 7 (.int .i64),.box 2 120 [.int .i64,.bool,.int .i64,.int .u64,.int .u64,.bool],.box 3 120 [.int .i64,.bool,.int .i64,.int .u64,.int .u64,.bool],.box 4 120 [.int .i64,.bool,.int .i64,.int .u64,.int .u64,.bool]] x St.nil)=vr09_Sum.j1 (k+1) x.1 x.2.1 x.2.2.1 x.2.2.2.1.2.1 x.2.2.2.1.2.2.1 x.2.2.2.2.1.2.1:=by kernel_rfl
theorem vr09_Sum.w (k:Nat) (x:TT S101.sa):walk E101 (vr09_Sum.G k) (cutsAt E101 k vr09_Sum.cuts) (retE E101 Tryz.f101.results.toList S101) 4000 true [([],.code B101)] (St0 S101 x)=vr09_Sum.f k x.1 x.2.1 x.2.2.1 x.2.2.2.1 x.2.2.2.2.1 x.2.2.2.2.2.1 x.2.2.2.2.2.2.1 x.2.2.2.2.2.2.2.1 x.2.2.2.2.2.2.2.2.1 x.2.2.2.2.2.2.2.2.2.1 x.2.2.2.2.2.2.2.2.2.2.1 x.2.2.2.2.2.2.2.2.2.2.2:=by kernel_rfl
theorem vr09_Sum.ok (k:Nat):FnOk Tryz.prog E101.eT 101 (vr09_Sum.c k):=FnOk.walk (E:=E101) (body:=B101) Tryz.func101 rfl (by rfl) Tryz.ntmps101 rfl S101 rfl (fun k x=>vr09_Sum.f k x.1 x.2.1 x.2.2.1 x.2.2.2.1 x.2.2.2.2.1 x.2.2.2.2.2.1 x.2.2.2.2.2.2.1 x.2.2.2.2.2.2.2.1 x.2.2.2.2.2.2.2.2.1 x.2.2.2.2.2.2.2.2.2.1 x.2.2.2.2.2.2.2.2.2.2.1 x.2.2.2.2.2.2.2.2.2.2.2) vr09_Sum.G (fun k=>⟨vr04_Shl.ok k,vr04_Cmp.ok k,vr04_Sub.ok k,vr07_Exactly.ok k,vr02_Of.ok k,vr04_Add.ok k,vr09_Sum_0.ok k,trivial⟩) 4000 vr09_Sum.cuts ⟨⟨fun _=>rfl,fun k x q h=>(vr09_Sum.w0 k x).trans h⟩,⟨fun _=>rfl,fun k x q h=>(vr09_Sum.w1 k x).trans h⟩,trivial⟩ (fun k x r h=>(vr09_Sum.w k x).trans h) k
end Go.Proofs.YtbpcfhhcoklinaaGreat.Fn
set_option maxRecDepth 100000
noncomputable section
namespace Go.Proofs.YtbpcfhhcoklinaaGreat.Fn
open Go Go.RowKit Go.Proofs.YtbpcfhhcoklinaaGreat.Ab
def E64:En:=⟨Tryz.prog,76,Tryz.f64.ntmps,none,false,[]⟩
def S64:Sig:=⟨[.s],[(.int .u64)],false,[.s],[(.rd .i64)],true⟩
def B64:Go.Code:=Tryz.f64.body.get!
def vr04_Of.l0:Nat→Int→List Int→Option (List Int)
 | 0,_,_=>none
 | k+1,x0,x3=>if x0 > 0 then (if x3.length < 17592186044416 then (vr04_Of.l0 k (IntKind.u64.wrap (Int.tdiv x0 16777216)) (x3++([wrap64 (Int.tmod x0 16777216)]:List Int))) else (none)) else (some x3)
def vr04_Of.f (k:Nat) (a0:Int):Option (List Int):=vr04_Of.l0 k a0 ([]:List Int)
--@ok
def vr04_Of.c (k:Nat):Con:=S64.con fun x=>vr04_Of.f k x
def vr04_Of.G (k:Nat):List (Go.FuncId×Cn):=[]
def vr04_Of.cuts:List (Cut (TT S64.sb)):=[⟨[6,4,0,1,1],[.sc 0 (.int .u64),.lst 3 .i64 3],fun k x=>vr04_Of.l0 k x.1 x.2⟩]
theorem vr04_Of.w0 (k:Nat) (x:ET [.sc 0 (.int .u64),.lst 3 .i64 3]):walk E64 (vr04_Of.G k) (cutsAt E64 k vr04_Of.cuts) (retE E64 Tryz.f64.results.toList S64) 4000 true (stackAt B64 [6,4,0,1,1]) (mkE [.sc 0 (.int .u64),.lst 3 .i64 3] x St.nil)=vr04_Of.l0 (k+1) x.1 x.2:=by kernel_rfl
theorem vr04_Of.w (k:Nat) (x:TT S64.sa):walk E64 (vr04_Of.G k) (cutsAt E64 k vr04_Of.cuts) (retE E64 Tryz.f64.results.toList S64) 4000 true [([],.code B64)] (St0 S64 x)=vr04_Of.f k x:=by kernel_rfl
theorem vr04_Of.ok (k:Nat):FnOk Tryz.prog E64.eT 64 (vr04_Of.c k):=FnOk.walk (E:=E64) (body:=B64) Tryz.func64 rfl (by rfl) Tryz.ntmps64 rfl S64 rfl (fun k x=>vr04_Of.f k x) vr04_Of.G (fun k=>trivial) 4000 vr04_Of.cuts ⟨⟨fun _=>rfl,fun k x q h=>(vr04_Of.w0 k x).trans h⟩,trivial⟩ (fun k x r h=>(vr04_Of.w k x).trans h) k
def E103:En:=⟨Tryz.prog,76,Tryz.f103.ntmps,none,false,[]⟩
def S103:Sig:=⟨[.s,.s],[(.rd .i64),(.rd .i64)],false,[.s],[(.rd .i64)],true⟩
def B103:Go.Code:=Tryz.f103.body.get!
mutual
def vr04_Mul.j0:Nat→List Int→List Int→Bool→Option (List Int)
 | 0,_,_,_=>none
 | k+1,x0,x1,x17=>if x17=true then (some ([]:List Int)) else (if 0≤(wrap64 ((nI x0.length)+(nI x1.length))) then (if (((wrap64 ((nI x0.length)+(nI x1.length))):Int).toNat)≤35184372088832 then (vr04_Mul.l0 k x0 x1 (List.replicate (((wrap64 ((nI x0.length)+(nI x1.length))):Int).toNat) 0:List Int) 0) else (none)) else (none))
def vr04_Mul.l0:Nat→List Int→List Int→List Int→Int→Option (List Int)
 | 0,_,_,_,_=>none
 | k+1,x0,x1,x5,x6=>if x6 < (nI x0.length) then (vr04_Mul.l1 k x0 x1 x5 x6 0 0) else ((vr04_Cut.f k x5).bind fun t100=>(some t100))
def vr04_Mul.l1:Nat→List Int→List Int→List Int→Int→Int→Int→Option (List Int)
 | 0,_,_,_,_,_,_=>none
 | k+1,x0,x1,x5,x6,x7,x8=>if x8 < (nI x1.length) then (if 0≤(wrap64 (x6+x8)) then (if (wrap64 (x6+x8)) < (nI x5.length) then (if 0≤x6 then (if x6 < (nI x0.length) then (if 0≤x8 then (vr04_Mul.l1 k x0 x1 (x5.set (((wrap64 (x6+x8)):Int).toNat) (Int.tmod (wrap64 ((wrap64 ((rd x5 (wrap64 (x6+x8)))+(wrap64 ((rd x0 x6)*(rd x1 x8)))))+x7)) 16777216)) x6 (wrap64 (Int.tdiv (wrap64 ((wrap64 ((rd x5 (wrap64 (x6+x8)))+(wrap64 ((rd x0 x6)*(rd x1 x8)))))+x7)) 16777216)) (wrap64 (x8+1))) else (none)) else (none)) else (none)) else (none)) else (none)) else (if 0≤(wrap64 (x6+(nI x1.length))) then (if (wrap64 (x6+(nI x1.length))) < (nI x5.length) then (vr04_Mul.l0 k x0 x1 (x5.set (((wrap64 (x6+(nI x1.length))):Int).toNat) x7) (wrap64 (x6+1))) else (none)) else (none))
end
def vr04_Mul.f (k:Nat) (l0:List Int) (l1:List Int):Option (List Int):=if (nI l0.length)=0 then (vr04_Mul.j0 k l0 l1 true) else (vr04_Mul.j0 k l0 l1 ((nI l1.length)==0))
--@ok
def vr04_Mul.l1R (k:Nat) (x0:List Int) (x1:List Int) (x5:List Int) (x6:Int) (x7:Int) (x8:Int):Option (List Int):=if x8 < (nI x1.length) then (if 0≤(wrap64 (x6+x8)) then (if (wrap64 (x6+x8)) < (nI x5.length) then (if 0≤x6 then (if x6 < (nI x0.length) then (if 0≤x8 then (if x8 < (nI x1.length) then (if 0≤(wrap64 (x6+x8)) then (if (wrap64 (x6+x8)) < (nI x5.length) then (vr04_Mul.l1 k x0 x1 (x5.set (((wrap64 (x6+x8)):Int).toNat) (Int.tmod (wrap64 ((wrap64 ((rd x5 (wrap64 (x6+x8)))+(wrap64 ((rd x0 x6)*(rd x1 x8)))))+x7)) 16777216)) x6 (wrap64 (Int.tdiv (wrap64 ((wrap64 ((rd x5 (wrap64 (x6+x8)))+(wrap64 ((rd x0 x6)*(rd x1 x8)))))+x7)) 16777216)) (wrap64 (x8+1))) else (none)) else (none)) else (none)) else (none)) else (none)) else (none)) else (none)) else (none)) else (if 0≤(wrap64 (x6+(nI x1.length))) then (if (wrap64 (x6+(nI x1.length))) < (nI x5.length) then (vr04_Mul.l0 k x0 x1 (x5.set (((wrap64 (x6+(nI x1.length))):Int).toNat) x7) (wrap64 (x6+1))) else (none)) else (none))
theorem vr04_Mul.l1E (k:Nat) (x0:List Int) (x1:List Int) (x5:List Int) (x6:Int) (x7:Int) (x8:Int):vr04_Mul.l1R k x0 x1 x5 x6 x7 x8=vr04_Mul.l1 (k+1) x0 x1 x5 x6 x7 x8:=by
  unfold vr04_Mul.l1R
  rw [vr04_Mul.l1]
  exact iteC (fun h0=>iteC (fun h1=>iteC (fun h2=>iteC (fun h3=>iteC (fun h4=>iteC (fun h5=>(if_pos h0).trans ((if_pos h1).trans ((if_pos h2).trans (rfl)))) (fun h5=>rfl)) (fun h4=>rfl)) (fun h3=>rfl)) (fun h2=>rfl)) (fun h1=>rfl)) (fun h0=>iteC (fun h1=>iteC (fun h2=>rfl) (fun h2=>rfl)) (fun h1=>rfl))
def vr04_Mul.c (k:Nat):Con:=S103.con fun x=>vr04_Mul.f k x.1 x.2
def vr04_Mul.G (k:Nat):List (Go.FuncId×Cn):=[(111,.f (vr04_Cut.c k))]
def vr04_Mul.cuts:List (Cut (TT S103.sb)):=[⟨[1,0,1],[.sc 0 (.rd .i64),.sc 1 (.rd .i64),.sc 17 (.bool)],fun k x=>vr04_Mul.j0 k x.1 x.2.1 x.2.2⟩,⟨[6,4,1,0,1,1,1],[.sc 0 (.rd .i64),.sc 1 (.rd .i64),.lst 5 .i64 3,.sc 6 (.int .i64)],fun k x=>vr04_Mul.l0 k x.1 x.2.1 x.2.2.1 x.2.2.2⟩,⟨[6,4,1,0,1,4,0,1,6,4,1,0,1,1,1],[.sc 0 (.rd .i64),.sc 1 (.rd .i64),.lst 5 .i64 3,.sc 6 (.int .i64),.sc 7 (.int .i64),.sc 8 (.int .i64)],fun k x=>vr04_Mul.l1 k x.1 x.2.1 x.2.2.1 x.2.2.2.1 x.2.2.2.2.1 x.2.2.2.2.2⟩]
theorem vr04_Mul.w0 (k:Nat) (x:ET [.sc 0 (.rd .i64),.sc 1 (.rd .i64),.sc 17 (.bool)]):walk E103 (vr04_Mul.G k) (cutsAt E103 k vr04_Mul.cuts) (retE E103 Tryz.f103.results.toList S103) 4000 true (stackAt B103 [1,0,1]) (mkE [.sc 0 (.rd .i64),.sc 1 (.rd .i64),.sc 17 (.bool)] x St.nil)=vr04_Mul.j0 (k+1) x.1 x.2.1 x.2.2:=by kernel_rfl
theorem vr04_Mul.w1 (k:Nat) (x:ET [.sc 0 (.rd .i64),.sc 1 (.rd .i64),.lst 5 .i64 3,.sc 6 (.int .i64)]):walk E103 (vr04_Mul.G k) (cutsAt E103 k vr04_Mul.cuts) (retE E103 Tryz.f103.results.toList S103) 4000 true (stackAt B103 [6,4,1,0,1,1,1]) (mkE [.sc 0 (.rd .i64),.sc 1 (.rd .i64),.lst 5 .i64 3,.sc 6 (.int .i64)] x St.nil)=vr04_Mul.l0 (k+1) x.1 x.2.1 x.2.2.1 x.2.2.2:=by kernel_rfl
theorem vr04_Mul.w2 (k:Nat) (x:ET [.sc 0 (.rd .i64),.sc 1 (.rd .i64),.lst 5 .i64 3,.sc 6 (.int .i64),.sc 7 (.int .i64),.sc 8 (.int .i64)]):walk E103 (vr04_Mul.G k) (cutsAt E103 k vr04_Mul.cuts) (retE E103 Tryz.f103.results.toList S103) 4000 true (stackAt B103 [6,4,1,0,1,4,0,1,6,4,1,0,1,1,1]) (mkE [.sc 0 (.rd .i64),.sc 1 (.rd .i64),.lst 5 .i64 3,.sc 6 (.int .i64),.sc 7 (.int .i64),.sc 8 (.int .i64)] x St.nil)=vr04_Mul.l1 (k+1) x.1 x.2.1 x.2.2.1 x.2.2.2.1 x.2.2.2.2.1 x.2.2.2.2.2:=Eq.trans (b:=vr04_Mul.l1R k x.1 x.2.1 x.2.2.1 x.2.2.2.1 x.2.2.2.2.1 x.2.2.2.2.2) (by kernel_rfl) (vr04_Mul.l1E k x.1 x.2.1 x.2.2.1 x.2.2.2.1 x.2.2.2.2.1 x.2.2.2.2.2)
theorem vr04_Mul.w (k:Nat) (x:TT S103.sa):walk E103 (vr04_Mul.G k) (cutsAt E103 k vr04_Mul.cuts) (retE E103 Tryz.f103.results.toList S103) 4000 true [([],.code B103)] (St0 S103 x)=vr04_Mul.f k x.1 x.2:=by kernel_rfl
theorem vr04_Mul.ok (k:Nat):FnOk Tryz.prog E103.eT 103 (vr04_Mul.c k):=FnOk.walk (E:=E103) (body:=B103) Tryz.func103 rfl (by rfl) Tryz.ntmps103 rfl S103 rfl (fun k x=>vr04_Mul.f k x.1 x.2) vr04_Mul.G (fun k=>⟨vr04_Cut.ok k,trivial⟩) 4000 vr04_Mul.cuts ⟨⟨fun _=>rfl,fun k x q h=>(vr04_Mul.w0 k x).trans h⟩,⟨fun _=>rfl,fun k x q h=>(vr04_Mul.w1 k x).trans h⟩,⟨fun _=>rfl,fun k x q h=>(vr04_Mul.w2 k x).trans h⟩,trivial⟩ (fun k x r h=>(vr04_Mul.w k x).trans h) k
def E150:En:=⟨Tryz.prog,76,Tryz.f150.ntmps,none,false,[]⟩
def S150:Sig:=⟨[.g 4,.g 4],[(.int .i64),.bool,(.int .i64),(.int .u64),(.int .i64),.bool,(.int .i64),(.int .u64)],true,[.g 6,.s],[(.int .i64),.bool,(.int .i64),(.int .u64),(.int .u64),.bool,(.int .i64)],false⟩
def B150:Go.Code:=Tryz.f150.body.get!
mutual
def vr10_Exact.j0:Nat→Bool→Int→Bool→Int→Int→Int→Bool→Int→Int→Option (Int×Bool×Int×Int×Int×Bool×Int)
 | 0,_,_,_,_,_,_,_,_,_=>none
 | k+1,x13,x2000,x2001,x2002,x2003,x3000,x3001,x3002,x3003=>if x13=true then (some (0,false,0,0,0,false,1)) else (if x2000=2 then (vr10_Exact.j1 k true x2000 x2001 x2002 x2003 x3000 x3001 x3002 x3003) else (vr10_Exact.j1 k (x3000==2) x2000 x2001 x2002 x2003 x3000 x3001 x3002 x3003))
def vr10_Exact.j1:Nat→Bool→Int→Bool→Int→Int→Int→Bool→Int→Int→Option (Int×Bool×Int×Int×Int×Bool×Int)
 | 0,_,_,_,_,_,_,_,_,_=>none
 | k+1,x21,x2000,x2001,x2002,x2003,x3000,x3001,x3002,x3003=>if x21=true then (some (2,false,0,0,0,false,0)) else (if x2000=0 then (vr10_Exact.j2 k true x2001 x2002 x2003 x3001 x3002 x3003) else (vr10_Exact.j2 k (x3000==0) x2001 x2002 x2003 x3001 x3002 x3003))
def vr10_Exact.j2:Nat→Bool→Bool→Int→Int→Bool→Int→Int→Option (Int×Bool×Int×Int×Int×Bool×Int)
 | 0,_,_,_,_,_,_,_=>none
 | k+1,x31,x2001,x2002,x2003,x3001,x3002,x3003=>if x31=true then (some (0,false,0,0,0,false,0)) else ((vr04_Of.f k x2003).bind fun t102=>((vr04_Of.f k x3003).bind fun t103=>((vr04_Mul.f k t102 t103).bind fun t104=>((vr07_Exactly.f k (!(x2001==x3001)) t104 (wrap64 ((wrap64 (x2002+x3002)) - 126)) false).bind fun t105=>(some (t105.1,t105.2.1,t105.2.2.1,t105.2.2.2.1,t105.2.2.2.2.1,t105.2.2.2.2.2,0))))))
end
def vr10_Exact.f (k:Nat) (a0_0:Int) (a0_1:Bool) (a0_2:Int) (a0_3:Int) (a1_0:Int) (a1_1:Bool) (a1_2:Int) (a1_3:Int):Option (Int×Bool×Int×Int×Int×Bool×Int):=(vr06_Sound.f a0_0 a0_1 a0_2 a0_3).bind fun t100=>((vr06_Sound.f a1_0 a1_1 a1_2 a1_3).bind fun t101=>(if t100=true then (vr10_Exact.j0 k (!t101) a0_0 a0_1 a0_2 a0_3 a1_0 a1_1 a1_2 a1_3) else (vr10_Exact.j0 k true a0_0 a0_1 a0_2 a0_3 a1_0 a1_1 a1_2 a1_3)))
--@ok
def vr10_Exact.c (k:Nat):Con:=S150.con fun x=>vr10_Exact.f k x.1 x.2.1 x.2.2.1 x.2.2.2.1 x.2.2.2.2.1 x.2.2.2.2.2.1 x.2.2.2.2.2.2.1 x.2.2.2.2.2.2.2
def vr10_Exact.G (k:Nat):List (Go.FuncId×Cn):=[(64,.f (vr04_Of.c k)),(103,.f (vr04_Mul.c k)),(118,.f (vr07_Exactly.c k)),(146,.f vr06_Sound.c)]
def vr10_Exact.cuts:List (Cut (TT S150.sb)):=[⟨[1,4,0,1,1,1],[.sc 13 (.bool),.box 2 137 [.int .i64,.bool,.int .i64,.int .u64],.box 3 137 [.int .i64,.bool,.int .i64,.int .u64],.box 4 120 [.int .i64,.bool,.int .i64,.int .u64,.int .u64,.bool]],fun k x=>vr10_Exact.j0 k x.1 x.2.1.1 x.2.1.2.1 x.2.1.2.2.1 x.2.1.2.2.2 x.2.2.1.1 x.2.2.1.2.1 x.2.2.1.2.2.1 x.2.2.1.2.2.2⟩,⟨[1,3,1,4,0,1,1,1],[.sc 21 (.bool),.box 2 137 [.int .i64,.bool,.int .i64,.int .u64],.box 3 137 [.int .i64,.bool,.int .i64,.int .u64],.box 4 120 [.int .i64,.bool,.int .i64,.int .u64,.int .u64,.bool]],fun k x=>vr10_Exact.j1 k x.1 x.2.1.1 x.2.1.2.1 x.2.1.2.2.1 x.2.1.2.2.2 x.2.2.1.1 x.2.2.1.2.1 x.2.2.1.2.2.1 x.2.2.1.2.2.2⟩,⟨[1,3,1,3,1,4,0,1,1,1],[.sc 31 (.bool),.box 2 137 [.int .i64,.bool,.int .i64,.int .u64],.box 3 137 [.int .i64,.bool,.int .i64,.int .u64],.box 4 120 [.int .i64,.bool,.int .i64,.int .u64,.int .u64,.bool]],fun k x=>vr10_Exact.j2 k x.1 x.2.1.2.1 x.2.1.2.2.1 x.2.1.2.2.2 x.2.2.1.2.1 x.2.2.1.2.2.1 x.2.2.1.2.2.2⟩]
theorem vr10_Exact.w0 (k:Nat) (x:ET [.sc 13 (.bool),.box 2 137 [.int .i64,.bool,.int .i64,.int .u64],.box 3 137 [.int .i64,.bool,.int .i64,.int .u64],.box 4 120 [.int .i64,.bool,.int .i64,.int .u64,.int .u64,.bool]]):walk E150 (vr10_Exact.G k) (cutsAt E150 k vr10_Exact.cuts) (retE E150 Tryz.f150.results.toList S150) 4000 true (stackAt B150 [1,4,0,1,1,1]) (mkE [.sc 13 (.bool),.box 2 137 [.int .i64,.bool,.int .i64,.int .u64],.box 3 137 [.int .i64,.bool,.int .i64,.int .u64],.box 4 120 [.int .i64,.bool,.int .i64,.int .u64,.int .u64,.bool]] x St.nil)=vr10_Exact.j0 (k+1) x.1 x.2.1.1 x.2.1.2.1 x.2.1.2.2.1 x.2.1.2.2.2 x.2.2.1.1 x.2.2.1.2.1 x.2.2.1.2.2.1 x.2.2.1.2.2.2:=by kernel_rfl
theorem vr10_Exact.w1 (k:Nat) (x:ET [.sc 21 (.bool),.box 2 137 [.int .i64,.bool,.int .i64,.int .u64],.box 3 137 [.int .i64,.bool,.int .i64,.int .u64],.box 4 120 [.int .i64,.bool,.int .i64,.int .u64,.int .u64,.bool]]):walk E150 (vr10_Exact.G k) (cutsAt E150 k vr10_Exact.cuts) (retE E150 Tryz.f150.results.toList S150) 4000 true (stackAt B150 [1,3,1,4,0,1,1,1]) (mkE [.sc 21 (.bool),.box 2 137 [.int .i64,.bool,.int .i64,.int .u64],.box 3 137 [.int .i64,.bool,.int .i64,.int .u64],.box 4 120 [.int .i64,.bool,.int .i64,.int .u64,.int .u64,.bool]] x St.nil)=vr10_Exact.j1 (k+1) x.1 x.2.1.1 x.2.1.2.1 x.2.1.2.2.1 x.2.1.2.2.2 x.2.2.1.1 x.2.2.1.2.1 x.2.2.1.2.2.1 x.2.2.1.2.2.2:=by kernel_rfl
theorem vr10_Exact.w2 (k:Nat) (x:ET [.sc 31 (.bool),.box 2 137 [.int .i64,.bool,.int .i64,.int .u64],.box 3 137 [.int .i64,.bool,.int .i64,.int .u64],.box 4 120 [.int .i64,.bool,.int .i64,.int .u64,.int .u64,.bool]]):walk E150 (vr10_Exact.G k) (cutsAt E150 k vr10_Exact.cuts) (retE E150 Tryz.f150.results.toList S150) 4000 true (stackAt B150 [1,3,1,3,1,4,0,1,1,1]) (mkE [.sc 31 (.bool),.box 2 137 [.int .i64,.bool,.int .i64,.int .u64],.box 3 137 [.int .i64,.bool,.int .i64,.int .u64],.box 4 120 [.int .i64,.bool,.int .i64,.int .u64,.int .u64,.bool]] x St.nil)=vr10_Exact.j2 (k+1) x.1 x.2.1.2.1 x.2.1.2.2.1 x.2.1.2.2.2 x.2.2.1.2.1 x.2.2.1.2.2.1 x.2.2.1.2.2.2:=by kernel_rfl
theorem vr10_Exact.w (k:Nat) (x:TT S150.sa):walk E150 (vr10_Exact.G k) (cutsAt E150 k vr10_Exact.cuts) (retE E150 Tryz.f150.results.toList S150) 4000 true [([],.code B150)] (St0 S150 x)=vr10_Exact.f k x.1 x.2.1 x.2.2.1 x.2.2.2.1 x.2.2.2.2.1 x.2.2.2.2.2.1 x.2.2.2.2.2.2.1 x.2.2.2.2.2.2.2:=by kernel_rfl
theorem vr10_Exact.ok (k:Nat):FnOk Tryz.prog E150.eT 150 (vr10_Exact.c k):=FnOk.walk (E:=E150) (body:=B150) Tryz.func150 rfl (by rfl) Tryz.ntmps150 rfl S150 rfl (fun k x=>vr10_Exact.f k x.1 x.2.1 x.2.2.1 x.2.2.2.1 x.2.2.2.2.1 x.2.2.2.2.2.1 x.2.2.2.2.2.2.1 x.2.2.2.2.2.2.2) vr10_Exact.G (fun k=>⟨vr04_Of.ok k,vr04_Mul.ok k,vr07_Exactly.ok k,vr06_Sound.ok,trivial⟩) 4000 vr10_Exact.cuts ⟨⟨fun _=>rfl,fun k x q h=>(vr10_Exact.w0 k x).trans h⟩,⟨fun _=>rfl,fun k x q h=>(vr10_Exact.w1 k x).trans h⟩,⟨fun _=>rfl,fun k x q h=>(vr10_Exact.w2 k x).trans h⟩,trivial⟩ (fun k x r h=>(vr10_Exact.w k x).trans h) k
def E50:En:=⟨Tryz.prog,76,Tryz.f50.ntmps,none,false,[]⟩
def S50:Sig:=⟨[.s],[.err],false,[.s],[(.int .i64)],false⟩
def B50:Go.Code:=Tryz.f50.body.get!
def vl00_further.f (a0:Option Int):Option (Int):=if a0.isNone=true then (some (-1)) else (if (a0.getD 0)=13 then (some 13) else (if (a0.getD 0)=14 then (some 14) else (if (a0.getD 0)=15 then (some 15) else (if (a0.getD 0)=16 then (some 16) else (if (a0.getD 0)=17 then (some 17) else (if (a0.getD 0)=18 then (some 18) else (if (a0.getD 0)=19 then (some 19) else (if (a0.getD 0)=20 then (some 20) else (if (a0.getD 0)=21 then (some 21) else (if (a0.getD 0)=22 then (some 22) else (if (a0.getD 0)=23 then (some 23) else (if (a0.getD 0)=24 then (some 24) else (some (-1))))))))))))))
--@ok
def vl00_further.c:Con:=S50.con fun x=>vl00_further.f x
def vl00_further.G (k:Nat):List (Go.FuncId×Cn):=[]
def vl00_further.cuts:List (Cut (TT S50.sb)):=[]
theorem vl00_further.w (k:Nat) (x:TT S50.sa):walk E50 (vl00_further.G k) (cutsAt E50 k vl00_further.cuts) (retE E50 Tryz.f50.results.toList S50) 4000 true [([],.code B50)] (St0 S50 x)=vl00_further.f x:=by kernel_rfl
theorem vl00_further.ok:FnOk Tryz.prog E50.eT 50 (vl00_further.c):=FnOk.walk (E:=E50) (body:=B50) Tryz.func50 rfl (by rfl) Tryz.ntmps50 rfl S50 rfl (fun k x=>vl00_further.f x) vl00_further.G (fun k=>trivial) 4000 vl00_further.cuts trivial (fun k x r h=>(vl00_further.w k x).trans h) 0
def E13:En:=⟨Tryz.prog,76,Tryz.f13.ntmps,none,false,[]⟩
def S13:Sig:=⟨[.s],[.err],false,[.s],[(.int .i64)],false⟩
def B13:Go.Code:=Tryz.f13.body.get!
def vl00_Code.f (a0:Option Int):Option (Int):=if a0.isNone=true then (some 0) else (if (a0.getD 0)=1 then (some 1) else (if (a0.getD 0)=2 then (some 2) else (if (a0.getD 0)=3 then (some 3) else (if (a0.getD 0)=4 then (some 4) else (if (a0.getD 0)=5 then (some 5) else (if (a0.getD 0)=6 then (some 6) else (if (a0.getD 0)=7 then (some 7) else (if (a0.getD 0)=8 then (some 8) else (if (a0.getD 0)=9 then (some 9) else (if (a0.getD 0)=10 then (some 10) else (if (a0.getD 0)=11 then (some 11) else (if (a0.getD 0)=12 then (some 12) else ((vl00_further.f (some (a0.getD 0))).bind fun t100=>(some t100))))))))))))))
--@ok
def vl00_Code.c:Con:=S13.con fun x=>vl00_Code.f x
def vl00_Code.G (k:Nat):List (Go.FuncId×Cn):=[(50,.f vl00_further.c)]
def vl00_Code.cuts:List (Cut (TT S13.sb)):=[]
theorem vl00_Code.w (k:Nat) (x:TT S13.sa):walk E13 (vl00_Code.G k) (cutsAt E13 k vl00_Code.cuts) (retE E13 Tryz.f13.results.toList S13) 4000 true [([],.code B13)] (St0 S13 x)=vl00_Code.f x:=by kernel_rfl
theorem vl00_Code.ok:FnOk Tryz.prog E13.eT 13 (vl00_Code.c):=FnOk.walk (E:=E13) (body:=B13) Tryz.func13 rfl (by rfl) Tryz.ntmps13 rfl S13 rfl (fun k x=>vl00_Code.f x) vl00_Code.G (fun k=>⟨vl00_further.ok,trivial⟩) 4000 vl00_Code.cuts trivial (fun k x r h=>(vl00_Code.w k x).trans h) 0
end Go.Proofs.YtbpcfhhcoklinaaGreat.Fn
set_option maxRecDepth 100000
noncomputable section
namespace Go.Proofs.YtbpcfhhcoklinaaGreat.Fn
open Go Go.RowKit Go.Proofs.YtbpcfhhcoklinaaGreat.Ab
def E169:En:=⟨Tryz.prog,76,Tryz.f169.ntmps,none,false,[]⟩
def S169:Sig:=⟨[.g 6],[(.int .i64),.bool,(.int .i64),(.int .u64),(.int .u64),.bool],false,[.g 6],[(.int .i64),.bool,(.int .i64),(.int .u64),(.int .u64),.bool],false⟩
def B169:Go.Code:=Tryz.f169.body.get!
def vr11_Cut.f (a0_0:Int) (a0_1:Bool) (a0_2:Int) (a0_3:Int) (a0_4:Int) (a0_5:Bool):Option (Int×Bool×Int×Int×Int×Bool):=if a0_5=true then (some (a0_0,a0_1,a0_2,a0_3,0,true)) else (some (a0_0,a0_1,a0_2,a0_3,0,a0_4 != 0))
--@ok
def vr11_Cut.c:Con:=S169.con fun x=>vr11_Cut.f x.1 x.2.1 x.2.2.1 x.2.2.2.1 x.2.2.2.2.1 x.2.2.2.2.2
def vr11_Cut.G (k:Nat):List (Go.FuncId×Cn):=[]
def vr11_Cut.cuts:List (Cut (TT S169.sb)):=[]
theorem vr11_Cut.w (k:Nat) (x:TT S169.sa):walk E169 (vr11_Cut.G k) (cutsAt E169 k vr11_Cut.cuts) (retE E169 Tryz.f169.results.toList S169) 4000 true [([],.code B169)] (St0 S169 x)=vr11_Cut.f x.1 x.2.1 x.2.2.1 x.2.2.2.1 x.2.2.2.2.1 x.2.2.2.2.2:=by kernel_rfl
theorem vr11_Cut.ok:FnOk Tryz.prog E169.eT 169 (vr11_Cut.c):=FnOk.walk (E:=E169) (body:=B169) Tryz.func169 rfl (by rfl) Tryz.ntmps169 rfl S169 rfl (fun k x=>vr11_Cut.f x.1 x.2.1 x.2.2.1 x.2.2.2.1 x.2.2.2.2.1 x.2.2.2.2.2) vr11_Cut.G (fun k=>trivial) 4000 vr11_Cut.cuts trivial (fun k x r h=>(vr11_Cut.w k x).trans h) 0
def E170:En:=⟨Tryz.prog,76,Tryz.f170.ntmps,none,false,[]⟩
def S170:Sig:=⟨[.g 4,.g 4],[(.int .i64),.bool,(.int .i64),(.int .u64),(.int .i64),.bool,(.int .i64),(.int .u64)],true,[.g 6,.s],[(.int .i64),.bool,(.int .i64),(.int .u64),(.int .u64),.bool,.err],false⟩
def B170:Go.Code:=Tryz.f170.body.get!
def sum_Exact.f (k:Nat) (a0_0:Int) (a0_1:Bool) (a0_2:Int) (a0_3:Int) (a1_0:Int) (a1_1:Bool) (a1_2:Int) (a1_3:Int):Option (Int×Bool×Int×Int×Int×Bool×Option Int):=(round_Of.f k a0_0 a0_1 a0_2 a0_3).bind fun t100=>(if t100.2.2.2.2.2.2.isNone=true then ((round_Of.f k a1_0 a1_1 a1_2 a1_3).bind fun t101=>(if t101.2.2.2.2.2.2.isNone=true then ((broad_Sum.f k t100.1 t100.2.1 t100.2.2.1 t100.2.2.2.1 t100.2.2.2.2.1 t100.2.2.2.2.2.1 t101.1 t101.2.1 t101.2.2.1 t101.2.2.2.1 t101.2.2.2.2.1 t101.2.2.2.2.2.1).bind fun t102=>(some (t102.1,t102.2.1,t102.2.2.1,t102.2.2.2.1,t102.2.2.2.2.1,t102.2.2.2.2.2,none))) else (some (0,false,0,0,0,false,some (t101.2.2.2.2.2.2.getD 0))))) else (some (0,false,0,0,0,false,some (t100.2.2.2.2.2.2.getD 0))))
--@ok
def sum_Exact.c (k:Nat):Con:=S170.con fun x=>sum_Exact.f k x.1 x.2.1 x.2.2.1 x.2.2.2.1 x.2.2.2.2.1 x.2.2.2.2.2.1 x.2.2.2.2.2.2.1 x.2.2.2.2.2.2.2
def sum_Exact.G (k:Nat):List (Go.FuncId×Cn):=[(96,.f (round_Of.c k)),(97,.f (broad_Sum.c k))]
def sum_Exact.cuts:List (Cut (TT S170.sb)):=[]
theorem sum_Exact.w (k:Nat) (x:TT S170.sa):walk E170 (sum_Exact.G k) (cutsAt E170 k sum_Exact.cuts) (retE E170 Tryz.f170.results.toList S170) 4000 true [([],.code B170)] (St0 S170 x)=sum_Exact.f k x.1 x.2.1 x.2.2.1 x.2.2.2.1 x.2.2.2.2.1 x.2.2.2.2.2.1 x.2.2.2.2.2.2.1 x.2.2.2.2.2.2.2:=by kernel_rfl
theorem sum_Exact.ok (k:Nat):FnOk Tryz.prog E170.eT 170 (sum_Exact.c k):=FnOk.walk (E:=E170) (body:=B170) Tryz.func170 rfl (by rfl) Tryz.ntmps170 rfl S170 rfl (fun k x=>sum_Exact.f k x.1 x.2.1 x.2.2.1 x.2.2.2.1 x.2.2.2.2.1 x.2.2.2.2.2.1 x.2.2.2.2.2.2.1 x.2.2.2.2.2.2.2) sum_Exact.G (fun k=>⟨round_Of.ok k,broad_Sum.ok k,trivial⟩) 4000 sum_Exact.cuts trivial (fun k x r h=>(sum_Exact.w k x).trans h) k
def E121:En:=⟨Tryz.prog,76,Tryz.f121.ntmps,none,false,[]⟩
def S121:Sig:=⟨[.s,.s,.s],[(.int .i64),(.int .u64),(.int .u64)],true,[.s,.s],[(.int .u64),.err],false⟩
def B121:Go.Code:=Tryz.f121.body.get!
def sum_Add.f (k:Nat) (a0:Int) (a1:Int) (a2:Int):Option (Int×Option Int):=(codec_Decode.f k a0 a1).bind fun t100=>(if t100.2.2.2.2.isNone=true then ((codec_Decode.f k a0 a2).bind fun t101=>((sum_Exact.f k t100.1 t100.2.1 t100.2.2.1 t100.2.2.2.1 t101.1 t101.2.1 t101.2.2.1 t101.2.2.2.1).bind fun t102=>(if t102.2.2.2.2.2.2.isNone=true then ((round_Round.f k a0 t102.1 t102.2.1 t102.2.2.1 t102.2.2.2.1 t102.2.2.2.2.1 t102.2.2.2.2.2.1).bind fun t103=>(some (t103.1,t103.2))) else (some (0,some (t102.2.2.2.2.2.2.getD 0)))))) else (some (0,some (t100.2.2.2.2.getD 0))))
--@ok
def sum_Add.c (k:Nat):Con:=S121.con fun x=>sum_Add.f k x.1 x.2.1 x.2.2
def sum_Add.G (k:Nat):List (Go.FuncId×Cn):=[(75,.f (round_Round.c k)),(95,.f (codec_Decode.c k)),(170,.f (sum_Exact.c k))]
def sum_Add.cuts:List (Cut (TT S121.sb)):=[]
theorem sum_Add.w (k:Nat) (x:TT S121.sa):walk E121 (sum_Add.G k) (cutsAt E121 k sum_Add.cuts) (retE E121 Tryz.f121.results.toList S121) 4000 true [([],.code B121)] (St0 S121 x)=sum_Add.f k x.1 x.2.1 x.2.2:=by kernel_rfl
theorem sum_Add.ok (k:Nat):FnOk Tryz.prog E121.eT 121 (sum_Add.c k):=FnOk.walk (E:=E121) (body:=B121) Tryz.func121 rfl (by rfl) Tryz.ntmps121 rfl S121 rfl (fun k x=>sum_Add.f k x.1 x.2.1 x.2.2) sum_Add.G (fun k=>⟨round_Round.ok k,codec_Decode.ok k,sum_Exact.ok k,trivial⟩) 4000 sum_Add.cuts trivial (fun k x r h=>(sum_Add.w k x).trans h) k
def E81:En:=⟨Tryz.prog,76,Tryz.f81.ntmps,none,false,[]⟩
def S81:Sig:=⟨[.g 3],[(.int .i64),(.int .u64),(.int .u64)],true,[.s,.s],[(.int .u64),.err],false⟩
def B81:Go.Code:=Tryz.f81.body.get!
def vec_pair_add.f (k:Nat) (a0_0:Int) (a0_1:Int) (a0_2:Int):Option (Int×Option Int):=(sum_Add.f k a0_0 a0_1 a0_2).bind fun t100=>(some (t100.1,t100.2))
--@ok
def vec_pair_add.c (k:Nat):Con:=S81.con fun x=>vec_pair_add.f k x.1 x.2.1 x.2.2
def vec_pair_add.G (k:Nat):List (Go.FuncId×Cn):=[(121,.f (sum_Add.c k))]
def vec_pair_add.cuts:List (Cut (TT S81.sb)):=[]
theorem vec_pair_add.w (k:Nat) (x:TT S81.sa):walk E81 (vec_pair_add.G k) (cutsAt E81 k vec_pair_add.cuts) (retE E81 Tryz.f81.results.toList S81) 4000 true [([],.code B81)] (St0 S81 x)=vec_pair_add.f k x.1 x.2.1 x.2.2:=by kernel_rfl
theorem vec_pair_add.ok (k:Nat):FnOk Tryz.prog E81.eT 81 (vec_pair_add.c k):=FnOk.walk (E:=E81) (body:=B81) Tryz.func81 rfl (by rfl) Tryz.ntmps81 rfl S81 rfl (fun k x=>vec_pair_add.f k x.1 x.2.1 x.2.2) vec_pair_add.G (fun k=>⟨sum_Add.ok k,trivial⟩) 4000 vec_pair_add.cuts trivial (fun k x r h=>(vec_pair_add.w k x).trans h) k
def E122:En:=⟨Tryz.prog,76,Tryz.f122.ntmps,none,false,[]⟩
def S122:Sig:=⟨[.s,.s,.s],[(.int .i64),(.int .u64),(.int .u64)],true,[.s,.s],[(.int .u64),.err],false⟩
def B122:Go.Code:=Tryz.f122.body.get!
def sum_Sub.f (k:Nat) (a0:Int) (a1:Int) (a2:Int):Option (Int×Option Int):=(sum_Add.f k a0 a1 (IntKind.u64.wrap (-a2))).bind fun t100=>(some (t100.1,t100.2))
--@ok
def sum_Sub.c (k:Nat):Con:=S122.con fun x=>sum_Sub.f k x.1 x.2.1 x.2.2
def sum_Sub.G (k:Nat):List (Go.FuncId×Cn):=[(121,.f (sum_Add.c k))]
def sum_Sub.cuts:List (Cut (TT S122.sb)):=[]
theorem sum_Sub.w (k:Nat) (x:TT S122.sa):walk E122 (sum_Sub.G k) (cutsAt E122 k sum_Sub.cuts) (retE E122 Tryz.f122.results.toList S122) 4000 true [([],.code B122)] (St0 S122 x)=sum_Sub.f k x.1 x.2.1 x.2.2:=by kernel_rfl
theorem sum_Sub.ok (k:Nat):FnOk Tryz.prog E122.eT 122 (sum_Sub.c k):=FnOk.walk (E:=E122) (body:=B122) Tryz.func122 rfl (by rfl) Tryz.ntmps122 rfl S122 rfl (fun k x=>sum_Sub.f k x.1 x.2.1 x.2.2) sum_Sub.G (fun k=>⟨sum_Add.ok k,trivial⟩) 4000 sum_Sub.cuts trivial (fun k x r h=>(sum_Sub.w k x).trans h) k
def E82:En:=⟨Tryz.prog,76,Tryz.f82.ntmps,none,false,[]⟩
def S82:Sig:=⟨[.g 3],[(.int .i64),(.int .u64),(.int .u64)],true,[.s,.s],[(.int .u64),.err],false⟩
def B82:Go.Code:=Tryz.f82.body.get!
def vec_pair_sub.f (k:Nat) (a0_0:Int) (a0_1:Int) (a0_2:Int):Option (Int×Option Int):=(sum_Sub.f k a0_0 a0_1 a0_2).bind fun t100=>(some (t100.1,t100.2))
--@ok
def vec_pair_sub.c (k:Nat):Con:=S82.con fun x=>vec_pair_sub.f k x.1 x.2.1 x.2.2
def vec_pair_sub.G (k:Nat):List (Go.FuncId×Cn):=[(122,.f (sum_Sub.c k))]
def vec_pair_sub.cuts:List (Cut (TT S82.sb)):=[]
theorem vec_pair_sub.w (k:Nat) (x:TT S82.sa):walk E82 (vec_pair_sub.G k) (cutsAt E82 k vec_pair_sub.cuts) (retE E82 Tryz.f82.results.toList S82) 4000 true [([],.code B82)] (St0 S82 x)=vec_pair_sub.f k x.1 x.2.1 x.2.2:=by kernel_rfl
theorem vec_pair_sub.ok (k:Nat):FnOk Tryz.prog E82.eT 82 (vec_pair_sub.c k):=FnOk.walk (E:=E82) (body:=B82) Tryz.func82 rfl (by rfl) Tryz.ntmps82 rfl S82 rfl (fun k x=>vec_pair_sub.f k x.1 x.2.1 x.2.2) vec_pair_sub.G (fun k=>⟨sum_Sub.ok k,trivial⟩) 4000 vec_pair_sub.cuts trivial (fun k x r h=>(vec_pair_sub.w k x).trans h) k
def E123:En:=⟨Tryz.prog,76,Tryz.f123.ntmps,none,false,[]⟩
def S123:Sig:=⟨[.s,.s,.s],[(.int .i64),(.int .u64),(.int .u64)],true,[.s,.s],[(.int .u64),.err],false⟩
def B123:Go.Code:=Tryz.f123.body.get!
def prod_Mul.f (k:Nat) (a0:Int) (a1:Int) (a2:Int):Option (Int×Option Int):=(codec_Decode.f k a0 a1).bind fun t100=>(if t100.2.2.2.2.isNone=true then ((codec_Decode.f k a0 a2).bind fun t101=>((prod_Exact.f k t100.1 t100.2.1 t100.2.2.1 t100.2.2.2.1 t101.1 t101.2.1 t101.2.2.1 t101.2.2.2.1).bind fun t102=>((round_Round.f k a0 t102.1 t102.2.1 t102.2.2.1 t102.2.2.2.1 t102.2.2.2.2.1 t102.2.2.2.2.2.1).bind fun t103=>(some (t103.1,t103.2))))) else (some (0,some (t100.2.2.2.2.getD 0))))
--@ok
def prod_Mul.c (k:Nat):Con:=S123.con fun x=>prod_Mul.f k x.1 x.2.1 x.2.2
def prod_Mul.G (k:Nat):List (Go.FuncId×Cn):=[(75,.f (round_Round.c k)),(95,.f (codec_Decode.c k)),(136,.f (prod_Exact.c k))]
def prod_Mul.cuts:List (Cut (TT S123.sb)):=[]
theorem prod_Mul.w (k:Nat) (x:TT S123.sa):walk E123 (prod_Mul.G k) (cutsAt E123 k prod_Mul.cuts) (retE E123 Tryz.f123.results.toList S123) 4000 true [([],.code B123)] (St0 S123 x)=prod_Mul.f k x.1 x.2.1 x.2.2:=by kernel_rfl
theorem prod_Mul.ok (k:Nat):FnOk Tryz.prog E123.eT 123 (prod_Mul.c k):=FnOk.walk (E:=E123) (body:=B123) Tryz.func123 rfl (by rfl) Tryz.ntmps123 rfl S123 rfl (fun k x=>prod_Mul.f k x.1 x.2.1 x.2.2) prod_Mul.G (fun k=>⟨round_Round.ok k,codec_Decode.ok k,prod_Exact.ok k,trivial⟩) 4000 prod_Mul.cuts trivial (fun k x r h=>(prod_Mul.w k x).trans h) k
def E83:En:=⟨Tryz.prog,76,Tryz.f83.ntmps,none,false,[]⟩
def S83:Sig:=⟨[.g 3],[(.int .i64),(.int .u64),(.int .u64)],true,[.s,.s],[(.int .u64),.err],false⟩
def B83:Go.Code:=Tryz.f83.body.get!
def vec_pair_mul.f (k:Nat) (a0_0:Int) (a0_1:Int) (a0_2:Int):Option (Int×Option Int):=(prod_Mul.f k a0_0 a0_1 a0_2).bind fun t100=>(some (t100.1,t100.2))
--@ok
def vec_pair_mul.c (k:Nat):Con:=S83.con fun x=>vec_pair_mul.f k x.1 x.2.1 x.2.2
def vec_pair_mul.G (k:Nat):List (Go.FuncId×Cn):=[(123,.f (prod_Mul.c k))]
def vec_pair_mul.cuts:List (Cut (TT S83.sb)):=[]
theorem vec_pair_mul.w (k:Nat) (x:TT S83.sa):walk E83 (vec_pair_mul.G k) (cutsAt E83 k vec_pair_mul.cuts) (retE E83 Tryz.f83.results.toList S83) 4000 true [([],.code B83)] (St0 S83 x)=vec_pair_mul.f k x.1 x.2.1 x.2.2:=by kernel_rfl
theorem vec_pair_mul.ok (k:Nat):FnOk Tryz.prog E83.eT 83 (vec_pair_mul.c k):=FnOk.walk (E:=E83) (body:=B83) Tryz.func83 rfl (by rfl) Tryz.ntmps83 rfl S83 rfl (fun k x=>vec_pair_mul.f k x.1 x.2.1 x.2.2) vec_pair_mul.G (fun k=>⟨prod_Mul.ok k,trivial⟩) 4000 vec_pair_mul.cuts trivial (fun k x r h=>(vec_pair_mul.w k x).trans h) k
end Go.Proofs.YtbpcfhhcoklinaaGreat.Fn
set_option maxRecDepth 100000
noncomputable section
namespace Go.Proofs.YtbpcfhhcoklinaaGreat.Fn
open Go Go.RowKit Go.Proofs.YtbpcfhhcoklinaaGreat.Ab
def E217:En:=⟨Tryz.prog,76,Tryz.f217.ntmps,none,false,[]⟩
def S217:Sig:=⟨[.s,.s,.s],[(.int .u64),(.int .u64),(.int .u64)],true,[.s,.s],[(.int .u64),(.int .u64)],false⟩
def B217:Go.Code:=Tryz.f217.body.get!
mutual
def bits_Div64.l0:Nat→Int→Int→Int→Int→Int→Int→Int→Int→Int→Option (Int×Int)
 | 0,_,_,_,_,_,_,_,_,_=>none
 | k+1,x2,x8,x9,x10,x11,x13,x14,x15,x16=>if x15≥4294967296 then (bits_Div64.j1 k x2 x8 x9 x10 x11 x13 x14 x15 x16 true) else (bits_Div64.j1 k x2 x8 x9 x10 x11 x13 x14 x15 x16 (decide ((IntKind.u64.wrap (x15*x10)) > (IntKind.u64.wrap ((IntKind.u64.wrap (4294967296*x16))+x13)))))
def bits_Div64.j1:Nat→Int→Int→Int→Int→Int→Int→Int→Int→Int→Bool→Option (Int×Int)
 | 0,_,_,_,_,_,_,_,_,_,_=>none
 | k+1,x2,x8,x9,x10,x11,x13,x14,x15,x16,x78=>if x78=true then (if (IntKind.u64.wrap (x16+x9))≥4294967296 then (bits_Div64.j2 k x2 x8 x9 x10 x11 x13 x14 (IntKind.u64.wrap (x15 - 1))) else (bits_Div64.l0 k x2 x8 x9 x10 x11 x13 x14 (IntKind.u64.wrap (x15 - 1)) (IntKind.u64.wrap (x16+x9)))) else (bits_Div64.j2 k x2 x8 x9 x10 x11 x13 x14 x15)
def bits_Div64.j2:Nat→Int→Int→Int→Int→Int→Int→Int→Int→Option (Int×Int)
 | 0,_,_,_,_,_,_,_,_=>none
 | k+1,x2,x8,x9,x10,x11,x13,x14,x15=>if x9=0 then (none) else (bits_Div64.l1 k x2 x8 x9 x10 x14 x15 (IntKind.u64.wrap ((IntKind.u64.wrap ((IntKind.u64.wrap ((IntKind.u64.wrap (x11*4294967296))+x13)) - (IntKind.u64.wrap (x15*x2)))) - (IntKind.u64.wrap ((IntKind.u64.wrap (Int.tdiv (IntKind.u64.wrap ((IntKind.u64.wrap ((IntKind.u64.wrap (x11*4294967296))+x13)) - (IntKind.u64.wrap (x15*x2)))) x9))*x9)))) (IntKind.u64.wrap ((IntKind.u64.wrap ((IntKind.u64.wrap (x11*4294967296))+x13)) - (IntKind.u64.wrap (x15*x2)))) (IntKind.u64.wrap (Int.tdiv (IntKind.u64.wrap ((IntKind.u64.wrap ((IntKind.u64.wrap (x11*4294967296))+x13)) - (IntKind.u64.wrap (x15*x2)))) x9)))
def bits_Div64.l1:Nat→Int→Int→Int→Int→Int→Int→Int→Int→Int→Option (Int×Int)
 | 0,_,_,_,_,_,_,_,_,_=>none
 | k+1,x2,x8,x9,x10,x14,x15,x16,x17,x18=>if x18≥4294967296 then (bits_Div64.j4 k x2 x8 x9 x10 x14 x15 x16 x17 x18 true) else (bits_Div64.j4 k x2 x8 x9 x10 x14 x15 x16 x17 x18 (decide ((IntKind.u64.wrap (x18*x10)) > (IntKind.u64.wrap ((IntKind.u64.wrap (4294967296*x16))+x14)))))
def bits_Div64.j4:Nat→Int→Int→Int→Int→Int→Int→Int→Int→Int→Bool→Option (Int×Int)
 | 0,_,_,_,_,_,_,_,_,_,_=>none
 | k+1,x2,x8,x9,x10,x14,x15,x16,x17,x18,x113=>if x113=true then (if (IntKind.u64.wrap (x16+x9))≥4294967296 then (if 0≤x8 then (some (IntKind.u64.wrap ((IntKind.u64.wrap (x15*4294967296))+(IntKind.u64.wrap (x18 - 1))),shr .u64 (IntKind.u64.wrap ((IntKind.u64.wrap ((IntKind.u64.wrap (x17*4294967296))+x14)) - (IntKind.u64.wrap ((IntKind.u64.wrap (x18 - 1))*x2)))) x8)) else (none)) else (bits_Div64.l1 k x2 x8 x9 x10 x14 x15 (IntKind.u64.wrap (x16+x9)) x17 (IntKind.u64.wrap (x18 - 1)))) else (if 0≤x8 then (some (IntKind.u64.wrap ((IntKind.u64.wrap (x15*4294967296))+x18),shr .u64 (IntKind.u64.wrap ((IntKind.u64.wrap ((IntKind.u64.wrap (x17*4294967296))+x14)) - (IntKind.u64.wrap (x18*x2)))) x8)) else (none))
end
def bits_Div64.f (k:Nat) (a0:Int) (a1:Int) (a2:Int):Option (Int×Int):=if a2=0 then (none) else (if a2≤a0 then (none) else (if a0=0 then (some (IntKind.u64.wrap (Int.tdiv a1 a2),Int.tmod a1 a2)) else ((bits_LeadingZeros64.f a2).bind fun t100=>(if 0≤(IntKind.u64.wrap t100) then (if 0≤(IntKind.u64.wrap (64 - (IntKind.u64.wrap t100))) then (if ((shl .u64 a2 (IntKind.u64.wrap t100)) / 4294967296)=0 then (none) else (bits_Div64.l0 k (shl .u64 a2 (IntKind.u64.wrap t100)) (IntKind.u64.wrap t100) ((shl .u64 a2 (IntKind.u64.wrap t100)) / 4294967296) (Go.bits .and .u64 (shl .u64 a2 (IntKind.u64.wrap t100)) 4294967295) (Go.bits .or .u64 (shl .u64 a0 (IntKind.u64.wrap t100)) (shr .u64 a1 (IntKind.u64.wrap (64 - (IntKind.u64.wrap t100))))) ((shl .u64 a1 (IntKind.u64.wrap t100)) / 4294967296) (Go.bits .and .u64 (shl .u64 a1 (IntKind.u64.wrap t100)) 4294967295) (IntKind.u64.wrap (Int.tdiv (Go.bits .or .u64 (shl .u64 a0 (IntKind.u64.wrap t100)) (shr .u64 a1 (IntKind.u64.wrap (64 - (IntKind.u64.wrap t100))))) ((shl .u64 a2 (IntKind.u64.wrap t100)) / 4294967296))) (IntKind.u64.wrap ((Go.bits .or .u64 (shl .u64 a0 (IntKind.u64.wrap t100)) (shr .u64 a1 (IntKind.u64.wrap (64 - (IntKind.u64.wrap t100))))) - (IntKind.u64.wrap ((IntKind.u64.wrap (Int.tdiv (Go.bits .or .u64 (shl .u64 a0 (IntKind.u64.wrap t100)) (shr .u64 a1 (IntKind.u64.wrap (64 - (IntKind.u64.wrap t100))))) ((shl .u64 a2 (IntKind.u64.wrap t100)) / 4294967296)))*((shl .u64 a2 (IntKind.u64.wrap t100)) / 4294967296))))))) else (none)) else (none)))))
--@ok
def bits_Div64.fR (k:Nat) (a0:Int) (a1:Int) (a2:Int):Option (Int×Int):=if a2=0 then (none) else (if a2≤a0 then (none) else (if a0=0 then (if a2=0 then (none) else (if a2=0 then (none) else (some (IntKind.u64.wrap (Int.tdiv a1 a2),Int.tmod a1 a2)))) else ((bits_LeadingZeros64.f a2).bind fun t100=>(if 0≤(IntKind.u64.wrap t100) then (if 0≤(IntKind.u64.wrap t100) then (if 0≤(IntKind.u64.wrap (64 - (IntKind.u64.wrap t100))) then (if 0≤(IntKind.u64.wrap t100) then (if ((shl .u64 a2 (IntKind.u64.wrap t100)) / 4294967296)=0 then (none) else (bits_Div64.l0 k (shl .u64 a2 (IntKind.u64.wrap t100)) (IntKind.u64.wrap t100) ((shl .u64 a2 (IntKind.u64.wrap t100)) / 4294967296) (Go.bits .and .u64 (shl .u64 a2 (IntKind.u64.wrap t100)) 4294967295) (Go.bits .or .u64 (shl .u64 a0 (IntKind.u64.wrap t100)) (shr .u64 a1 (IntKind.u64.wrap (64 - (IntKind.u64.wrap t100))))) ((shl .u64 a1 (IntKind.u64.wrap t100)) / 4294967296) (Go.bits .and .u64 (shl .u64 a1 (IntKind.u64.wrap t100)) 4294967295) (IntKind.u64.wrap (Int.tdiv (Go.bits .or .u64 (shl .u64 a0 (IntKind.u64.wrap t100)) (shr .u64 a1 (IntKind.u64.wrap (64 - (IntKind.u64.wrap t100))))) ((shl .u64 a2 (IntKind.u64.wrap t100)) / 4294967296))) (IntKind.u64.wrap ((Go.bits .or .u64 (shl .u64 a0 (IntKind.u64.wrap t100)) (shr .u64 a1 (IntKind.u64.wrap (64 - (IntKind.u64.wrap t100))))) - (IntKind.u64.wrap ((IntKind.u64.wrap (Int.tdiv (Go.bits .or .u64 (shl .u64 a0 (IntKind.u64.wrap t100)) (shr .u64 a1 (IntKind.u64.wrap (64 - (IntKind.u64.wrap t100))))) ((shl .u64 a2 (IntKind.u64.wrap t100)) / 4294967296)))*((shl .u64 a2 (IntKind.u64.wrap t100)) / 4294967296))))))) else (none)) else (none)) else (none)) else (none)))))
theorem bits_Div64.fE (k:Nat) (a0:Int) (a1:Int) (a2:Int):bits_Div64.fR k a0 a1 a2=bits_Div64.f k a0 a1 a2:=by
  unfold bits_Div64.fR bits_Div64.f
  exact iteC (fun h0=>rfl) (fun h0=>iteC (fun h1=>rfl) (fun h1=>iteC (fun h2=>(if_neg h0).trans ((if_neg h0).trans (rfl))) (fun h2=>bindC fun _=>iteC (fun h3=>(if_pos h3).trans (iteC (fun h4=>(if_pos h3).trans (iteC (fun h5=>rfl) (fun h5=>rfl))) (fun h4=>rfl))) (fun h3=>rfl))))
def bits_Div64.c (k:Nat):Con:=S217.con fun x=>bits_Div64.f k x.1 x.2.1 x.2.2
def bits_Div64.G (k:Nat):List (Go.FuncId×Cn):=[(72,.f bits_LeadingZeros64.c)]
def bits_Div64.cuts:List (Cut (TT S217.sb)):=[⟨[6,4,0,1,1,1,1,1,1,1,1,1,1,1,1,1,1],[.sc 2 (.int .u64),.sc 8 (.int .u64),.sc 9 (.int .u64),.sc 10 (.int .u64),.sc 11 (.int .u64),.sc 13 (.int .u64),.sc 14 (.int .u64),.sc 15 (.int .u64),.sc 16 (.int .u64)],fun k x=>bits_Div64.l0 k x.1 x.2.1 x.2.2.1 x.2.2.2.1 x.2.2.2.2.1 x.2.2.2.2.2.1 x.2.2.2.2.2.2.1 x.2.2.2.2.2.2.2.1 x.2.2.2.2.2.2.2.2⟩,⟨[1,0,6,4,0,1,1,1,1,1,1,1,1,1,1,1,1,1,1],[.sc 2 (.int .u64),.sc 8 (.int .u64),.sc 9 (.int .u64),.sc 10 (.int .u64),.sc 11 (.int .u64),.sc 13 (.int .u64),.sc 14 (.int .u64),.sc 15 (.int .u64),.sc 16 (.int .u64),.sc 78 (.bool)],fun k x=>bits_Div64.j1 k x.1 x.2.1 x.2.2.1 x.2.2.2.1 x.2.2.2.2.1 x.2.2.2.2.2.1 x.2.2.2.2.2.2.1 x.2.2.2.2.2.2.2.1 x.2.2.2.2.2.2.2.2.1 x.2.2.2.2.2.2.2.2.2⟩,⟨[1,1,1,1,1,1,1,1,1,1,1,1,1,1,1],[.sc 2 (.int .u64),.sc 8 (.int .u64),.sc 9 (.int .u64),.sc 10 (.int .u64),.sc 11 (.int .u64),.sc 13 (.int .u64),.sc 14 (.int .u64),.sc 15 (.int .u64)],fun k x=>bits_Div64.j2 k x.1 x.2.1 x.2.2.1 x.2.2.2.1 x.2.2.2.2.1 x.2.2.2.2.2.1 x.2.2.2.2.2.2.1 x.2.2.2.2.2.2.2⟩,⟨[6,4,0,1,1,1,1,1,1,1,1,1,1,1,1,1,1,1,1,1,1],[.sc 2 (.int .u64),.sc 8 (.int .u64),.sc 9 (.int .u64),.sc 10 (.int .u64),.sc 14 (.int .u64),.sc 15 (.int .u64),.sc 16 (.int .u64),.sc 17 (.int .u64),.sc 18 (.int .u64)],fun k x=>bits_Div64.l1 k x.1 x.2.1 x.2.2.1 x.2.2.2.1 x.2.2.2.2.1 x.2.2.2.2.2.1 x.2.2.2.2.2.2.1 x.2.2.2.2.2.2.2.1 x.2.2.2.2.2.2.2.2⟩,⟨[1,0,6,4,0,1,1,1,1,1,1,1,1,1,1,1,1,1,1,1,1,1,1],[.sc 2 (.int .u64),.sc 8 (.int .u64),.sc 9 (.int .u64),.sc 10 (.int .u64),.sc 14 (.int .u64),.sc 15 (.int .u64),.sc 16 (.int .u64),.sc 17 (.int .u64),.sc 18 (.int .u64),.sc 113 (.bool)],fun k x=>bits_Div64.j4 k x.1 x.2.1 x.2.2.1 x.2.2.2.1 x.2.2.2.2.1 x.2.2.2.2.2.1 x.2.2.2.2.2.2.1 x.2.2.2.2.2.2.2.1 x.2.2.2.2.2.2.2.2.1 x.2.2.2.2.2.2.2.2.2⟩]
theorem bits_Div64.w0 (k:Nat) (x:ET [.sc 2 (.int .u64),.sc 8 (.int .u64),.sc 9 (.int .u64),.sc 10 (.int .u64),.sc 11 (.int .u64),.sc 13 (.int .u64),.sc 14 (.int .u64),.sc 15 (.int .u64),.sc 16 (.int .u64)]):walk E217 (bits_Div64.G k) (cutsAt E217 k bits_Div64.cuts) (retE E217 Tryz.f217.results.toList S217) 4000 true (stackAt B217 [6,4,0,1,1,1,1,1,1,1,1,1,1,1,1,1,1]) (mkE [.sc 2 (.int .u64),.sc 8 (.int .u64),.sc 9 (.int .u64),.sc 10 (.int .u64),.sc 11 (.int .u64),.sc 13 (.int .u64),.sc 14 (.int .u64),.sc 15 (.int .u64),.sc 16 (.int .u64)] x St.nil)=bits_Div64.l0 (k+1) x.1 x.2.1 x.2.2.1 x.2.2.2.1 x.2.2.2.2.1 x.2.2.2.2.2.1 x.2.2.2.2.2.2.1 x.2.2.2.2.2.2.2.1 x.2.2.2.2.2.2.2.2:=by kernel_rfl
theorem bits_Div64.w1 (k:Nat) (x:ET [.sc 2 (.int .u64),.sc 8 (.int .u64),.sc 9 (.int .u64),.sc 10 (.int .u64),.sc 11 (.int .u64),.sc 13 (.int .u64),.sc 14 (.int .u64),.sc 15 (.int .u64),.sc 16 (.int .u64),.sc 78 (.bool)]):walk E217 (bits_Div64.G k) (cutsAt E217 k bits_Div64.cuts) (retE E217 Tryz.f217.results.toList S217) 4000 true (stackAt B217 [1,0,6,4,0,1,1,1,1,1,1,1,1,1,1,1,1,1,1]) (mkE [.sc 2 (.int .u64),.sc 8 (.int .u64),.sc 9 (.int .u64),.sc 10 (.int .u64),.sc 11 (.int .u64),.sc 13 (.int .u64),.sc 14 (.int .u64),.sc 15 (.int .u64),.sc 16 (.int .u64),.sc 78 (.bool)] x St.nil)=bits_Div64.j1 (k+1) x.1 x.2.1 x.2.2.1 x.2.2.2.1 x.2.2.2.2.1 x.2.2.2.2.2.1 x.2.2.2.2.2.2.1 x.2.2.2.2.2.2.2.1 x.2.2.2.2.2.2.2.2.1 x.2.2.2.2.2.2.2.2.2:=by kernel_rfl
theorem bits_Div64.w2 (k:Nat) (x:ET [.sc 2 (.int .u64),.sc 8 (.int .u64),.sc 9 (.int .u64),.sc 10 (.int .u64),.sc 11 (.int .u64),.sc 13 (.int .u64),.sc 14 (.int .u64),.sc 15 (.int .u64)]):walk E217 (bits_Div64.G k) (cutsAt E217 k bits_Div64.cuts) (retE E217 Tryz.f217.results.toList S217) 4000 true (stackAt B217 [1,1,1,1,1,1,1,1,1,1,1,1,1,1,1]) (mkE [.sc 2 (.int .u64),.sc 8 (.int .u64),.sc 9 (.int .u64),.sc 10 (.int .u64),.sc 11 (.int .u64),.sc 13 (.int .u64),.sc 14 (.int .u64),.sc 15 (.int .u64)] x St.nil)=bits_Div64.j2 (k+1) x.1 x.2.1 x.2.2.1 x.2.2.2.1 x.2.2.2.2.1 x.2.2.2.2.2.1 x.2.2.2.2.2.2.1 x.2.2.2.2.2.2.2:=by kernel_rfl
theorem bits_Div64.w3 (k:Nat) (x:ET [.sc 2 (.int .u64),.sc 8 (.int .u64),.sc 9 (.int .u64),.sc 10 (.int .u64),.sc 14 (.int .u64),.sc 15 (.int .u64),.sc 16 (.int .u64),.sc 17 (.int .u64),.sc 18 (.int .u64)]):walk E217 (bits_Div64.G k) (cutsAt E217 k bits_Div64.cuts) (retE E217 Tryz.f217.results.toList S217) 4000 true (stackAt B217 [6,4,0,1,1,1,1,1,1,1,1,1,1,1,1,1,1,1,1,1,1]) (mkE [.sc 2 (.int .u64),.sc 8 (.int .u64),.sc 9 (.int .u64),.sc 10 (.int .u64),.sc 14 (.int .u64),.sc 15 (.int .u64),.sc 16 (.int .u64),.sc 17 (.int .u64),.sc 18 (.int .u64)] x St.nil)=bits_Div64.l1 (k+1) x.1 x.2.1 x.2.2.1 x.2.2.2.1 x.2.2.2.2.1 x.2.2.2.2.2.1 x.2.2.2.2.2.2.1 x.2.2.2.2.2.2.2.1 x.2.2.2.2.2.2.2.2:=by kernel_rfl
theorem bits_Div64.w4 (k:Nat) (x:ET [.sc 2 (.int .u64),.sc 8 (.int .u64),.sc 9 (.int .u64),.sc 10 (.int .u64),.sc 14 (.int .u64),.sc 15 (.int .u64),.sc 16 (.int .u64),.sc 17 (.int .u64),.sc 18 (.int .u64),.sc 113 (.bool)]):walk E217 (bits_Div64.G k) (cutsAt E217 k bits_Div64.cuts) (retE E217 Tryz.f217.results.toList S217) 4000 true (stackAt B217 [1,0,6,4,0,1,1,1,1,1,1,1,1,1,1,1,1,1,1,1,1,1,1]) (mkE [.sc 2 (.int .u64),.sc 8 (.int .u64),.sc 9 (.int .u64),.sc 10 (.int .u64),.sc 14 (.int .u64),.sc 15 (.int .u64),.sc 16 (.int .u64),.sc 17 (.int .u64),.sc 18 (.int .u64),.sc 113 (.bool)] x St.nil)=bits_Div64.j4 (k+1) x.1 x.2.1 x.2.2.1 x.2.2.2.1 x.2.2.2.2.1 x.2.2.2.2.2.1 x.2.2.2.2.2.2.1 x.2.2.2.2.2.2.2.1 x.2.2.2.2.2.2.2.2.1 x.2.2.2.2.2.2.2.2.2:=by kernel_rfl
theorem bits_Div64.w (k:Nat) (x:TT S217.sa):walk E217 (bits_Div64.G k) (cutsAt E217 k bits_Div64.cuts) (retE E217 Tryz.f217.results.toList S217) 4000 true [([],.code B217)] (St0 S217 x)=bits_Div64.f k x.1 x.2.1 x.2.2:=Eq.trans (b:=bits_Div64.fR k x.1 x.2.1 x.2.2) (by kernel_rfl) (bits_Div64.fE k x.1 x.2.1 x.2.2)
theorem bits_Div64.ok (k:Nat):FnOk Tryz.prog E217.eT 217 (bits_Div64.c k):=FnOk.walk (E:=E217) (body:=B217) Tryz.func217 rfl (by rfl) Tryz.ntmps217 rfl S217 rfl (fun k x=>bits_Div64.f k x.1 x.2.1 x.2.2) bits_Div64.G (fun k=>⟨bits_LeadingZeros64.ok,trivial⟩) 4000 bits_Div64.cuts ⟨⟨fun _=>rfl,fun k x q h=>(bits_Div64.w0 k x).trans h⟩,⟨fun _=>rfl,fun k x q h=>(bits_Div64.w1 k x).trans h⟩,⟨fun _=>rfl,fun k x q h=>(bits_Div64.w2 k x).trans h⟩,⟨fun _=>rfl,fun k x q h=>(bits_Div64.w3 k x).trans h⟩,⟨fun _=>rfl,fun k x q h=>(bits_Div64.w4 k x).trans h⟩,trivial⟩ (fun k x r h=>(bits_Div64.w k x).trans h) k
def E202:En:=⟨Tryz.prog,76,Tryz.f202.ntmps,none,false,[]⟩
def S202:Sig:=⟨[.g 2,.s],[(.int .u64),(.int .u64),(.int .u64)],true,[.s,.s,.s],[(.int .u64),(.int .u64),.err],false⟩
def B202:Go.Code:=Tryz.f202.body.get!
def part_Div.f (k:Nat) (a0_0:Int) (a0_1:Int) (a1:Int):Option (Int×Int×Option Int):=if a1=0 then (some (0,0,some 4)) else (if a0_0≥a1 then (some (0,0,some 5)) else ((bits_Div64.f k a0_0 a0_1 a1).bind fun t100=>(some (t100.1,t100.2,none))))
--@ok
def part_Div.c (k:Nat):Con:=S202.con fun x=>part_Div.f k x.1 x.2.1 x.2.2
def part_Div.G (k:Nat):List (Go.FuncId×Cn):=[(217,.f (bits_Div64.c k))]
def part_Div.cuts:List (Cut (TT S202.sb)):=[]
theorem part_Div.w (k:Nat) (x:TT S202.sa):walk E202 (part_Div.G k) (cutsAt E202 k part_Div.cuts) (retE E202 Tryz.f202.results.toList S202) 4000 true [([],.code B202)] (St0 S202 x)=part_Div.f k x.1 x.2.1 x.2.2:=by kernel_rfl
theorem part_Div.ok (k:Nat):FnOk Tryz.prog E202.eT 202 (part_Div.c k):=FnOk.walk (E:=E202) (body:=B202) Tryz.func202 rfl (by rfl) Tryz.ntmps202 rfl S202 rfl (fun k x=>part_Div.f k x.1 x.2.1 x.2.2) part_Div.G (fun k=>⟨bits_Div64.ok k,trivial⟩) 4000 part_Div.cuts trivial (fun k x r h=>(part_Div.w k x).trans h) k
def E171:En:=⟨Tryz.prog,76,Tryz.f171.ntmps,none,false,[]⟩
def S171:Sig:=⟨[.g 4,.g 4],[(.int .i64),.bool,(.int .i64),(.int .u64),(.int .i64),.bool,(.int .i64),(.int .u64)],true,[.g 6,.s],[(.int .i64),.bool,(.int .i64),(.int .u64),(.int .u64),.bool,.err],false⟩
def B171:Go.Code:=Tryz.f171.body.get!
def quot_Exact.j0:Nat→Bool→Int→Bool→Int→Int→Bool→Int→Int→Option (Int×Bool×Int×Int×Int×Bool×Option Int)
 | 0,_,_,_,_,_,_,_,_=>none
 | k+1,x33,x2000,x2001,x2002,x2003,x3001,x3002,x3003=>if x33=true then (some (2,false,0,0,0,false,none)) else (if x2000=0 then (some (0,false,0,0,0,false,none)) else (if x2003≥x3003 then ((part_Div.f k (x2003 / 2) (IntKind.u64.wrap (x2003*9223372036854775808)) x3003).bind fun t102=>(some (1, !(x2001==x3001),wrap64 ((wrap64 ((wrap64 (x2002 - x3002)) - 1))+1),t102.1,0,decide (t102.2.1 > 0),t102.2.2))) else ((part_Div.f k x2003 0 x3003).bind fun t103=>(some (1, !(x2001==x3001),wrap64 ((wrap64 (x2002 - x3002)) - 1),t103.1,0,decide (t103.2.1 > 0),t103.2.2)))))
def quot_Exact.f (k:Nat) (a0_0:Int) (a0_1:Bool) (a0_2:Int) (a0_3:Int) (a1_0:Int) (a1_1:Bool) (a1_2:Int) (a1_3:Int):Option (Int×Bool×Int×Int×Int×Bool×Option Int):=(round_Of.f k a0_0 a0_1 a0_2 a0_3).bind fun t100=>(if t100.2.2.2.2.2.2.isNone=true then ((round_Of.f k a1_0 a1_1 a1_2 a1_3).bind fun t101=>(if t101.2.2.2.2.2.2.isNone=true then (if a0_0=2 then (quot_Exact.j0 k (a0_0==2) a0_0 a0_1 a0_2 a0_3 a1_1 a1_2 a1_3) else (quot_Exact.j0 k (a1_0 != 1) a0_0 a0_1 a0_2 a0_3 a1_1 a1_2 a1_3)) else (some (0,false,0,0,0,false,some (t101.2.2.2.2.2.2.getD 0))))) else (some (0,false,0,0,0,false,some (t100.2.2.2.2.2.2.getD 0))))
--@ok
def quot_Exact.c (k:Nat):Con:=S171.con fun x=>quot_Exact.f k x.1 x.2.1 x.2.2.1 x.2.2.2.1 x.2.2.2.2.1 x.2.2.2.2.2.1 x.2.2.2.2.2.2.1 x.2.2.2.2.2.2.2
def quot_Exact.G (k:Nat):List (Go.FuncId×Cn):=[(96,.f (round_Of.c k)),(202,.f (part_Div.c k))]
def quot_Exact.cuts:List (Cut (TT S171.sb)):=[⟨[1,4,0,1,1],[.sc 33 (.bool),.box 2 137 [.int .i64,.bool,.int .i64,.int .u64],.box 3 137 [.int .i64,.bool,.int .i64,.int .u64],.box 4 120 [.int .i64,.bool,.int .i64,.int .u64,.int .u64,.bool]],fun k x=>quot_Exact.j0 k x.1 x.2.1.1 x.2.1.2.1 x.2.1.2.2.1 x.2.1.2.2.2 x.2.2.1.2.1 x.2.2.1.2.2.1 x.2.2.1.2.2.2⟩]
theorem quot_Exact.w0 (k:Nat) (x:ET [.sc 33 (.bool),.box 2 137 [.int .i64,.bool,.int .i64,.int .u64],.box 3 137 [.int .i64,.bool,.int .i64,.int .u64],.box 4 120 [.int .i64,.bool,.int .i64,.int .u64,.int .u64,.bool]]):walk E171 (quot_Exact.G k) (cutsAt E171 k quot_Exact.cuts) (retE E171 Tryz.f171.results.toList S171) 4000 true (stackAt B171 [1,4,0,1,1]) (mkE [.sc 33 (.bool),.box 2 137 [.int .i64,.bool,.int .i64,.int .u64],.box 3 137 [.int .i64,.bool,.int .i64,.int .u64],.box 4 120 [.int .i64,.bool,.int .i64,.int .u64,.int .u64,.bool]] x St.nil)=quot_Exact.j0 (k+1) x.1 x.2.1.1 x.2.1.2.1 x.2.1.2.2.1 x.2.1.2.2.2 x.2.2.1.2.1 x.2.2.1.2.2.1 x.2.2.1.2.2.2:=by kernel_rfl
theorem quot_Exact.w (k:Nat) (x:TT S171.sa):walk E171 (quot_Exact.G k) (cutsAt E171 k quot_Exact.cuts) (retE E171 Tryz.f171.results.toList S171) 4000 true [([],.code B171)] (St0 S171 x)=quot_Exact.f k x.1 x.2.1 x.2.2.1 x.2.2.2.1 x.2.2.2.2.1 x.2.2.2.2.2.1 x.2.2.2.2.2.2.1 x.2.2.2.2.2.2.2:=by kernel_rfl
theorem quot_Exact.ok (k:Nat):FnOk Tryz.prog E171.eT 171 (quot_Exact.c k):=FnOk.walk (E:=E171) (body:=B171) Tryz.func171 rfl (by rfl) Tryz.ntmps171 rfl S171 rfl (fun k x=>quot_Exact.f k x.1 x.2.1 x.2.2.1 x.2.2.2.1 x.2.2.2.2.1 x.2.2.2.2.2.1 x.2.2.2.2.2.2.1 x.2.2.2.2.2.2.2) quot_Exact.G (fun k=>⟨round_Of.ok k,part_Div.ok k,trivial⟩) 4000 quot_Exact.cuts ⟨⟨fun _=>rfl,fun k x q h=>(quot_Exact.w0 k x).trans h⟩,trivial⟩ (fun k x r h=>(quot_Exact.w k x).trans h) k
def E124:En:=⟨Tryz.prog,76,Tryz.f124.ntmps,none,false,[]⟩
def S124:Sig:=⟨[.s,.s,.s],[(.int .i64),(.int .u64),(.int .u64)],true,[.s,.s],[(.int .u64),.err],false⟩
def B124:Go.Code:=Tryz.f124.body.get!
def quot_Div.f (k:Nat) (a0:Int) (a1:Int) (a2:Int):Option (Int×Option Int):=(codec_Decode.f k a0 a1).bind fun t100=>(if t100.2.2.2.2.isNone=true then ((codec_Decode.f k a0 a2).bind fun t101=>((quot_Exact.f k t100.1 t100.2.1 t100.2.2.1 t100.2.2.2.1 t101.1 t101.2.1 t101.2.2.1 t101.2.2.2.1).bind fun t102=>(if t102.2.2.2.2.2.2.isNone=true then ((round_Round.f k a0 t102.1 t102.2.1 t102.2.2.1 t102.2.2.2.1 t102.2.2.2.2.1 t102.2.2.2.2.2.1).bind fun t103=>(some (t103.1,t103.2))) else (some (0,some (t102.2.2.2.2.2.2.getD 0)))))) else (some (0,some (t100.2.2.2.2.getD 0))))
--@ok
def quot_Div.c (k:Nat):Con:=S124.con fun x=>quot_Div.f k x.1 x.2.1 x.2.2
def quot_Div.G (k:Nat):List (Go.FuncId×Cn):=[(75,.f (round_Round.c k)),(95,.f (codec_Decode.c k)),(171,.f (quot_Exact.c k))]
def quot_Div.cuts:List (Cut (TT S124.sb)):=[]
theorem quot_Div.w (k:Nat) (x:TT S124.sa):walk E124 (quot_Div.G k) (cutsAt E124 k quot_Div.cuts) (retE E124 Tryz.f124.results.toList S124) 4000 true [([],.code B124)] (St0 S124 x)=quot_Div.f k x.1 x.2.1 x.2.2:=by kernel_rfl
theorem quot_Div.ok (k:Nat):FnOk Tryz.prog E124.eT 124 (quot_Div.c k):=FnOk.walk (E:=E124) (body:=B124) Tryz.func124 rfl (by rfl) Tryz.ntmps124 rfl S124 rfl (fun k x=>quot_Div.f k x.1 x.2.1 x.2.2) quot_Div.G (fun k=>⟨round_Round.ok k,codec_Decode.ok k,quot_Exact.ok k,trivial⟩) 4000 quot_Div.cuts trivial (fun k x r h=>(quot_Div.w k x).trans h) k
def E84:En:=⟨Tryz.prog,76,Tryz.f84.ntmps,none,false,[]⟩
def S84:Sig:=⟨[.g 3],[(.int .i64),(.int .u64),(.int .u64)],true,[.s,.s],[(.int .u64),.err],false⟩
def B84:Go.Code:=Tryz.f84.body.get!
def vec_pair_div.f (k:Nat) (a0_0:Int) (a0_1:Int) (a0_2:Int):Option (Int×Option Int):=(quot_Div.f k a0_0 a0_1 a0_2).bind fun t100=>(some (t100.1,t100.2))
--@ok
def vec_pair_div.c (k:Nat):Con:=S84.con fun x=>vec_pair_div.f k x.1 x.2.1 x.2.2
def vec_pair_div.G (k:Nat):List (Go.FuncId×Cn):=[(124,.f (quot_Div.c k))]
def vec_pair_div.cuts:List (Cut (TT S84.sb)):=[]
theorem vec_pair_div.w (k:Nat) (x:TT S84.sa):walk E84 (vec_pair_div.G k) (cutsAt E84 k vec_pair_div.cuts) (retE E84 Tryz.f84.results.toList S84) 4000 true [([],.code B84)] (St0 S84 x)=vec_pair_div.f k x.1 x.2.1 x.2.2:=by kernel_rfl
theorem vec_pair_div.ok (k:Nat):FnOk Tryz.prog E84.eT 84 (vec_pair_div.c k):=FnOk.walk (E:=E84) (body:=B84) Tryz.func84 rfl (by rfl) Tryz.ntmps84 rfl S84 rfl (fun k x=>vec_pair_div.f k x.1 x.2.1 x.2.2) vec_pair_div.G (fun k=>⟨quot_Div.ok k,trivial⟩) 4000 vec_pair_div.cuts trivial (fun k x r h=>(vec_pair_div.w k x).trans h) k
def E125:En:=⟨Tryz.prog,76,Tryz.f125.ntmps,none,false,[]⟩
def S125:Sig:=⟨[.s,.s,.s],[(.int .i64),(.int .u64),(.int .u64)],true,[.s,.s],[(.int .u64),.err],false⟩
def B125:Go.Code:=Tryz.f125.body.get!
def order_Min.f (a0:Int) (a1:Int) (a2:Int):Option (Int×Option Int):=(order_Cmp.f a0 a1 a2).bind fun t100=>(if t100.1 > 0 then ((shape_Fold.f a0 a2).bind fun t101=>(some (t101.1,t101.2))) else ((shape_Fold.f a0 a1).bind fun t102=>(some (t102.1,t102.2))))
--@ok
def order_Min.c:Con:=S125.con fun x=>order_Min.f x.1 x.2.1 x.2.2
def order_Min.G (k:Nat):List (Go.FuncId×Cn):=[(91,.f order_Cmp.c),(93,.f shape_Fold.c)]
def order_Min.cuts:List (Cut (TT S125.sb)):=[]
theorem order_Min.w (k:Nat) (x:TT S125.sa):walk E125 (order_Min.G k) (cutsAt E125 k order_Min.cuts) (retE E125 Tryz.f125.results.toList S125) 4000 true [([],.code B125)] (St0 S125 x)=order_Min.f x.1 x.2.1 x.2.2:=by kernel_rfl
theorem order_Min.ok:FnOk Tryz.prog E125.eT 125 (order_Min.c):=FnOk.walk (E:=E125) (body:=B125) Tryz.func125 rfl (by rfl) Tryz.ntmps125 rfl S125 rfl (fun k x=>order_Min.f x.1 x.2.1 x.2.2) order_Min.G (fun k=>⟨order_Cmp.ok,shape_Fold.ok,trivial⟩) 4000 order_Min.cuts trivial (fun k x r h=>(order_Min.w k x).trans h) 0
def E85:En:=⟨Tryz.prog,76,Tryz.f85.ntmps,none,false,[]⟩
def S85:Sig:=⟨[.g 3],[(.int .i64),(.int .u64),(.int .u64)],true,[.s,.s],[(.int .u64),.err],false⟩
def B85:Go.Code:=Tryz.f85.body.get!
def vec_pair_least.f (a0_0:Int) (a0_1:Int) (a0_2:Int):Option (Int×Option Int):=(order_Min.f a0_0 a0_1 a0_2).bind fun t100=>(some (t100.1,t100.2))
--@ok
def vec_pair_least.c:Con:=S85.con fun x=>vec_pair_least.f x.1 x.2.1 x.2.2
def vec_pair_least.G (k:Nat):List (Go.FuncId×Cn):=[(125,.f order_Min.c)]
def vec_pair_least.cuts:List (Cut (TT S85.sb)):=[]
theorem vec_pair_least.w (k:Nat) (x:TT S85.sa):walk E85 (vec_pair_least.G k) (cutsAt E85 k vec_pair_least.cuts) (retE E85 Tryz.f85.results.toList S85) 4000 true [([],.code B85)] (St0 S85 x)=vec_pair_least.f x.1 x.2.1 x.2.2:=by kernel_rfl
theorem vec_pair_least.ok:FnOk Tryz.prog E85.eT 85 (vec_pair_least.c):=FnOk.walk (E:=E85) (body:=B85) Tryz.func85 rfl (by rfl) Tryz.ntmps85 rfl S85 rfl (fun k x=>vec_pair_least.f x.1 x.2.1 x.2.2) vec_pair_least.G (fun k=>⟨order_Min.ok,trivial⟩) 4000 vec_pair_least.cuts trivial (fun k x r h=>(vec_pair_least.w k x).trans h) 0
def E86:En:=⟨Tryz.prog,76,Tryz.f86.ntmps,none,false,[]⟩
def S86:Sig:=⟨[.g 3],[(.int .i64),(.int .u64),(.int .u64)],true,[.s,.s],[(.int .u64),.err],false⟩
def B86:Go.Code:=Tryz.f86.body.get!
def vec_pair_most.f (a0_0:Int) (a0_1:Int) (a0_2:Int):Option (Int×Option Int):=(order_Max.f a0_0 a0_1 a0_2).bind fun t100=>(some (t100.1,t100.2))
--@ok
def vec_pair_most.c:Con:=S86.con fun x=>vec_pair_most.f x.1 x.2.1 x.2.2
def vec_pair_most.G (k:Nat):List (Go.FuncId×Cn):=[(45,.f order_Max.c)]
def vec_pair_most.cuts:List (Cut (TT S86.sb)):=[]
theorem vec_pair_most.w (k:Nat) (x:TT S86.sa):walk E86 (vec_pair_most.G k) (cutsAt E86 k vec_pair_most.cuts) (retE E86 Tryz.f86.results.toList S86) 4000 true [([],.code B86)] (St0 S86 x)=vec_pair_most.f x.1 x.2.1 x.2.2:=by kernel_rfl
theorem vec_pair_most.ok:FnOk Tryz.prog E86.eT 86 (vec_pair_most.c):=FnOk.walk (E:=E86) (body:=B86) Tryz.func86 rfl (by rfl) Tryz.ntmps86 rfl S86 rfl (fun k x=>vec_pair_most.f x.1 x.2.1 x.2.2) vec_pair_most.G (fun k=>⟨order_Max.ok,trivial⟩) 4000 vec_pair_most.cuts trivial (fun k x r h=>(vec_pair_most.w k x).trans h) 0
def E200051:En:=⟨Tryz.prog,76,Tryz.f51.ntmps,none,false,[]⟩
def S200051:Sig:=⟨[.s,.s,.s,.s],[(.int .i64),(.rd .u64),(.rd .u64),(.fn 81)],true,[.s,.s],[(.rd .u64),.err],true⟩
def B200051:Go.Code:=Tryz.f51.body.get!
def vec_along_vec_pair_add.l0:Nat→Int→List Int→List Int→List Int→Int→Int→Option (List Int×Option Int)
 | 0,_,_,_,_,_,_=>none
 | k+1,x0,x1,x2,x12,x34,x35=>if x35 < x34 then (if 0≤x35 then (if x35 < (nI x1.length) then (if x35 < (nI x2.length) then ((vec_pair_add.f k x0 (rd x1 x35) (rd x2 x35)).bind fun t101=>(if t101.2.isNone=true then (if x35 < (nI x12.length) then (vec_along_vec_pair_add.l0 k x0 x1 x2 (x12.set ((x35:Int).toNat) t101.1) x34 (wrap64 (x35+1))) else (none)) else (some (([]:List Int),some (t101.2.getD 0))))) else (none)) else (none)) else (none)) else (some (x12,none))
def vec_along_vec_pair_add.f (k:Nat) (a0:Int) (l1:List Int) (l2:List Int) (a3:Unit):Option (List Int×Option Int):=(order_Neg.f a0 0).bind fun t100=>(if t100.2.isNone=true then (if (nI l1.length)=(nI l2.length) then (if (((nI l1.length):Int).toNat)≤35184372088832 then (vec_along_vec_pair_add.l0 k a0 l1 l2 (List.replicate (((nI l1.length):Int).toNat) 0:List Int) (nI l1.length) 0) else (none)) else (some (([]:List Int),some 15))) else (some (([]:List Int),some (t100.2.getD 0))))
--@ok
def vec_along_vec_pair_add.l0R (k:Nat) (x0:Int) (x1:List Int) (x2:List Int) (x12:List Int) (x34:Int) (x35:Int):Option (List Int×Option Int):=if x35 < x34 then (if 0≤x35 then (if x35 < (nI x1.length) then (if 0≤x35 then (if x35 < (nI x2.length) then ((vec_pair_add.f k x0 (rd x1 x35) (rd x2 x35)).bind fun t101=>(if t101.2.isNone=true then (if 0≤x35 then (if x35 < (nI x12.length) then (vec_along_vec_pair_add.l0 k x0 x1 x2 (x12.set ((x35:Int).toNat) t101.1) x34 (wrap64 (x35+1))) else (none)) else (none)) else (some (([]:List Int),some (t101.2.getD 0))))) else (none)) else (none)) else (none)) else (none)) else (some (x12,none))
theorem vec_along_vec_pair_add.l0E (k:Nat) (x0:Int) (x1:List Int) (x2:List Int) (x12:List Int) (x34:Int) (x35:Int):vec_along_vec_pair_add.l0R k x0 x1 x2 x12 x34 x35=vec_along_vec_pair_add.l0 (k+1) x0 x1 x2 x12 x34 x35:=by
  unfold vec_along_vec_pair_add.l0R
  rw [vec_along_vec_pair_add.l0]
  exact iteC (fun h0=>iteC (fun h1=>iteC (fun h2=>(if_pos h1).trans (iteC (fun h3=>bindC fun _=>iteC (fun h4=>(if_pos h1).trans (iteC (fun h5=>rfl) (fun h5=>rfl))) (fun h4=>rfl)) (fun h3=>rfl))) (fun h2=>rfl)) (fun h1=>rfl)) (fun h0=>rfl)
def vec_along_vec_pair_add.c (k:Nat):Con:=S200051.con fun x=>vec_along_vec_pair_add.f k x.1 x.2.1 x.2.2.1 x.2.2.2
def vec_along_vec_pair_add.G (k:Nat):List (Go.FuncId×Cn):=[(81,.f (vec_pair_add.c k)),(87,.f order_Neg.c)]
def vec_along_vec_pair_add.cuts:List (Cut (TT S200051.sb)):=[⟨[6,4,1,0,1,1,1,1],[.sc 0 (.int .i64),.sc 1 (.rd .u64),.sc 2 (.rd .u64),.sc 3 (.fn 81),.lst 12 .u64 23,.sc 34 (.int .i64),.sc 35 (.int .i64)],fun k x=>vec_along_vec_pair_add.l0 k x.1 x.2.1 x.2.2.1 x.2.2.2.2.1 x.2.2.2.2.2.1 x.2.2.2.2.2.2⟩]
theorem vec_along_vec_pair_add.w0 (k:Nat) (x:ET [.sc 0 (.int .i64),.sc 1 (.rd .u64),.sc 2 (.rd .u64),.sc 3 (.fn 81),.lst 12 .u64 23,.sc 34 (.int .i64),.sc 35 (.int .i64)]):walk E200051 (vec_along_vec_pair_add.G k) (cutsAt E200051 k vec_along_vec_pair_add.cuts) (retE E200051 Tryz.f51.results.toList S200051) 4000 true (stackAt B200051 [6,4,1,0,1,1,1,1]) (mkE [.sc 0 (.int .i64),.sc 1 (.rd .u64),.sc 2 (.rd .u64),.sc 3 (.fn 81),.lst 12 .u64 23,.sc 34 (.int .i64),.sc 35 (.int .i64)] x St.nil)=vec_along_vec_pair_add.l0 (k+1) x.1 x.2.1 x.2.2.1 x.2.2.2.2.1 x.2.2.2.2.2.1 x.2.2.2.2.2.2:=Eq.trans (b:=vec_along_vec_pair_add.l0R k x.1 x.2.1 x.2.2.1 x.2.2.2.2.1 x.2.2.2.2.2.1 x.2.2.2.2.2.2) (by kernel_rfl) (vec_along_vec_pair_add.l0E k x.1 x.2.1 x.2.2.1 x.2.2.2.2.1 x.2.2.2.2.2.1 x.2.2.2.2.2.2)
theorem vec_along_vec_pair_add.w (k:Nat) (x:TT S200051.sa):walk E200051 (vec_along_vec_pair_add.G k) (cutsAt E200051 k vec_along_vec_pair_add.cuts) (retE E200051 Tryz.f51.results.toList S200051) 4000 true [([],.code B200051)] (St0 S200051 x)=vec_along_vec_pair_add.f k x.1 x.2.1 x.2.2.1 x.2.2.2:=by kernel_rfl
theorem vec_along_vec_pair_add.ok (k:Nat):FnOk Tryz.prog E200051.eT 51 (vec_along_vec_pair_add.c k):=FnOk.walk (E:=E200051) (body:=B200051) Tryz.func51 rfl (by rfl) Tryz.ntmps51 rfl S200051 rfl (fun k x=>vec_along_vec_pair_add.f k x.1 x.2.1 x.2.2.1 x.2.2.2) vec_along_vec_pair_add.G (fun k=>⟨vec_pair_add.ok k,order_Neg.ok,trivial⟩) 4000 vec_along_vec_pair_add.cuts ⟨⟨fun _=>rfl,fun k x q h=>(vec_along_vec_pair_add.w0 k x).trans h⟩,trivial⟩ (fun k x r h=>(vec_along_vec_pair_add.w k x).trans h) k
def E300051:En:=⟨Tryz.prog,76,Tryz.f51.ntmps,none,false,[]⟩
def S300051:Sig:=⟨[.s,.s,.s,.s],[(.int .i64),(.rd .u64),(.rd .u64),(.fn 82)],true,[.s,.s],[(.rd .u64),.err],true⟩
def B300051:Go.Code:=Tryz.f51.body.get!
def vec_along_vec_pair_sub.l0:Nat→Int→List Int→List Int→List Int→Int→Int→Option (List Int×Option Int)
 | 0,_,_,_,_,_,_=>none
 | k+1,x0,x1,x2,x12,x34,x35=>if x35 < x34 then (if 0≤x35 then (if x35 < (nI x1.length) then (if x35 < (nI x2.length) then ((vec_pair_sub.f k x0 (rd x1 x35) (rd x2 x35)).bind fun t101=>(if t101.2.isNone=true then (if x35 < (nI x12.length) then (vec_along_vec_pair_sub.l0 k x0 x1 x2 (x12.set ((x35:Int).toNat) t101.1) x34 (wrap64 (x35+1))) else (none)) else (some (([]:List Int),some (t101.2.getD 0))))) else (none)) else (none)) else (none)) else (some (x12,none))
def vec_along_vec_pair_sub.f (k:Nat) (a0:Int) (l1:List Int) (l2:List Int) (a3:Unit):Option (List Int×Option Int):=(order_Neg.f a0 0).bind fun t100=>(if t100.2.isNone=true then (if (nI l1.length)=(nI l2.length) then (if (((nI l1.length):Int).toNat)≤35184372088832 then (vec_along_vec_pair_sub.l0 k a0 l1 l2 (List.replicate (((nI l1.length):Int).toNat) 0:List Int) (nI l1.length) 0) else (none)) else (some (([]:List Int),some 15))) else (some (([]:List Int),some (t100.2.getD 0))))
--@ok
def vec_along_vec_pair_sub.l0R (k:Nat) (x0:Int) (x1:List Int) (x2:List Int) (x12:List Int) (x34:Int) (x35:Int):Option (List Int×Option Int):=if x35 < x34 then (if 0≤x35 then (if x35 < (nI x1.length) then (if 0≤x35 then (if x35 < (nI x2.length) then ((vec_pair_sub.f k x0 (rd x1 x35) (rd x2 x35)).bind fun t101=>(if t101.2.isNone=true then (if 0≤x35 then (if x35 < (nI x12.length) then (vec_along_vec_pair_sub.l0 k x0 x1 x2 (x12.set ((x35:Int).toNat) t101.1) x34 (wrap64 (x35+1))) else (none)) else (none)) else (some (([]:List Int),some (t101.2.getD 0))))) else (none)) else (none)) else (none)) else (none)) else (some (x12,none))
theorem vec_along_vec_pair_sub.l0E (k:Nat) (x0:Int) (x1:List Int) (x2:List Int) (x12:List Int) (x34:Int) (x35:Int):vec_along_vec_pair_sub.l0R k x0 x1 x2 x12 x34 x35=vec_along_vec_pair_sub.l0 (k+1) x0 x1 x2 x12 x34 x35:=by
  unfold vec_along_vec_pair_sub.l0R
  rw [vec_along_vec_pair_sub.l0]
  exact iteC (fun h0=>iteC (fun h1=>iteC (fun h2=>(if_pos h1).trans (iteC (fun h3=>bindC fun _=>iteC (fun h4=>(if_pos h1).trans (iteC (fun h5=>rfl) (fun h5=>rfl))) (fun h4=>rfl)) (fun h3=>rfl))) (fun h2=>rfl)) (fun h1=>rfl)) (fun h0=>rfl)
def vec_along_vec_pair_sub.c (k:Nat):Con:=S300051.con fun x=>vec_along_vec_pair_sub.f k x.1 x.2.1 x.2.2.1 x.2.2.2
def vec_along_vec_pair_sub.G (k:Nat):List (Go.FuncId×Cn):=[(82,.f (vec_pair_sub.c k)),(87,.f order_Neg.c)]
def vec_along_vec_pair_sub.cuts:List (Cut (TT S300051.sb)):=[⟨[6,4,1,0,1,1,1,1],[.sc 0 (.int .i64),.sc 1 (.rd .u64),.sc 2 (.rd .u64),.sc 3 (.fn 82),.lst 12 .u64 23,.sc 34 (.int .i64),.sc 35 (.int .i64)],fun k x=>vec_along_vec_pair_sub.l0 k x.1 x.2.1 x.2.2.1 x.2.2.2.2.1 x.2.2.2.2.2.1 x.2.2.2.2.2.2⟩]
theorem vec_along_vec_pair_sub.w0 (k:Nat) (x:ET [.sc 0 (.int .i64),.sc 1 (.rd .u64),.sc 2 (.rd .u64),.sc 3 (.fn 82),.lst 12 .u64 23,.sc 34 (.int .i64),.sc 35 (.int .i64)]):walk E300051 (vec_along_vec_pair_sub.G k) (cutsAt E300051 k vec_along_vec_pair_sub.cuts) (retE E300051 Tryz.f51.results.toList S300051) 4000 true (stackAt B300051 [6,4,1,0,1,1,1,1]) (mkE [.sc 0 (.int .i64),.sc 1 (.rd .u64),.sc 2 (.rd .u64),.sc 3 (.fn 82),.lst 12 .u64 23,.sc 34 (.int .i64),.sc 35 (.int .i64)] x St.nil)=vec_along_vec_pair_sub.l0 (k+1) x.1 x.2.1 x.2.2.1 x.2.2.2.2.1 x.2.2.2.2.2.1 x.2.2.2.2.2.2:=Eq.trans (b:=vec_along_vec_pair_sub.l0R k x.1 x.2.1 x.2.2.1 x.2.2.2.2.1 x.2.2.2.2.2.1 x.2.2.2.2.2.2) (by kernel_rfl) (vec_along_vec_pair_sub.l0E k x.1 x.2.1 x.2.2.1 x.2.2.2.2.1 x.2.2.2.2.2.1 x.2.2.2.2.2.2)
theorem vec_along_vec_pair_sub.w (k:Nat) (x:TT S300051.sa):walk E300051 (vec_along_vec_pair_sub.G k) (cutsAt E300051 k vec_along_vec_pair_sub.cuts) (retE E300051 Tryz.f51.results.toList S300051) 4000 true [([],.code B300051)] (St0 S300051 x)=vec_along_vec_pair_sub.f k x.1 x.2.1 x.2.2.1 x.2.2.2:=by kernel_rfl
theorem vec_along_vec_pair_sub.ok (k:Nat):FnOk Tryz.prog E300051.eT 51 (vec_along_vec_pair_sub.c k):=FnOk.walk (E:=E300051) (body:=B300051) Tryz.func51 rfl (by rfl) Tryz.ntmps51 rfl S300051 rfl (fun k x=>vec_along_vec_pair_sub.f k x.1 x.2.1 x.2.2.1 x.2.2.2) vec_along_vec_pair_sub.G (fun k=>⟨vec_pair_sub.ok k,order_Neg.ok,trivial⟩) 4000 vec_along_vec_pair_sub.cuts ⟨⟨fun _=>rfl,fun k x q h=>(vec_along_vec_pair_sub.w0 k x).trans h⟩,trivial⟩ (fun k x r h=>(vec_along_vec_pair_sub.w k x).trans h) k
def E400051:En:=⟨Tryz.prog,76,Tryz.f51.ntmps,none,false,[]⟩
def S400051:Sig:=⟨[.s,.s,.s,.s],[(.int .i64),(.rd .u64),(.rd .u64),(.fn 83)],true,[.s,.s],[(.rd .u64),.err],true⟩
def B400051:Go.Code:=Tryz.f51.body.get!
def vec_along_vec_pair_mul.l0:Nat→Int→List Int→List Int→List Int→Int→Int→Option (List Int×Option Int)
 | 0,_,_,_,_,_,_=>none
 | k+1,x0,x1,x2,x12,x34,x35=>if x35 < x34 then (if 0≤x35 then (if x35 < (nI x1.length) then (if x35 < (nI x2.length) then ((vec_pair_mul.f k x0 (rd x1 x35) (rd x2 x35)).bind fun t101=>(if t101.2.isNone=true then (if x35 < (nI x12.length) then (vec_along_vec_pair_mul.l0 k x0 x1 x2 (x12.set ((x35:Int).toNat) t101.1) x34 (wrap64 (x35+1))) else (none)) else (some (([]:List Int),some (t101.2.getD 0))))) else (none)) else (none)) else (none)) else (some (x12,none))
def vec_along_vec_pair_mul.f (k:Nat) (a0:Int) (l1:List Int) (l2:List Int) (a3:Unit):Option (List Int×Option Int):=(order_Neg.f a0 0).bind fun t100=>(if t100.2.isNone=true then (if (nI l1.length)=(nI l2.length) then (if (((nI l1.length):Int).toNat)≤35184372088832 then (vec_along_vec_pair_mul.l0 k a0 l1 l2 (List.replicate (((nI l1.length):Int).toNat) 0:List Int) (nI l1.length) 0) else (none)) else (some (([]:List Int),some 15))) else (some (([]:List Int),some (t100.2.getD 0))))
--@ok
def vec_along_vec_pair_mul.l0R (k:Nat) (x0:Int) (x1:List Int) (x2:List Int) (x12:List Int) (x34:Int) (x35:Int):Option (List Int×Option Int):=if x35 < x34 then (if 0≤x35 then (if x35 < (nI x1.length) then (if 0≤x35 then (if x35 < (nI x2.length) then ((vec_pair_mul.f k x0 (rd x1 x35) (rd x2 x35)).bind fun t101=>(if t101.2.isNone=true then (if 0≤x35 then (if x35 < (nI x12.length) then (vec_along_vec_pair_mul.l0 k x0 x1 x2 (x12.set ((x35:Int).toNat) t101.1) x34 (wrap64 (x35+1))) else (none)) else (none)) else (some (([]:List Int),some (t101.2.getD 0))))) else (none)) else (none)) else (none)) else (none)) else (some (x12,none))
theorem vec_along_vec_pair_mul.l0E (k:Nat) (x0:Int) (x1:List Int) (x2:List Int) (x12:List Int) (x34:Int) (x35:Int):vec_along_vec_pair_mul.l0R k x0 x1 x2 x12 x34 x35=vec_along_vec_pair_mul.l0 (k+1) x0 x1 x2 x12 x34 x35:=by
  unfold vec_along_vec_pair_mul.l0R
  rw [vec_along_vec_pair_mul.l0]
  exact iteC (fun h0=>iteC (fun h1=>iteC (fun h2=>(if_pos h1).trans (iteC (fun h3=>bindC fun _=>iteC (fun h4=>(if_pos h1).trans (iteC (fun h5=>rfl) (fun h5=>rfl))) (fun h4=>rfl)) (fun h3=>rfl))) (fun h2=>rfl)) (fun h1=>rfl)) (fun h0=>rfl)
def vec_along_vec_pair_mul.c (k:Nat):Con:=S400051.con fun x=>vec_along_vec_pair_mul.f k x.1 x.2.1 x.2.2.1 x.2.2.2
def vec_along_vec_pair_mul.G (k:Nat):List (Go.FuncId×Cn):=[(83,.f (vec_pair_mul.c k)),(87,.f order_Neg.c)]
def vec_along_vec_pair_mul.cuts:List (Cut (TT S400051.sb)):=[⟨[6,4,1,0,1,1,1,1],[.sc 0 (.int .i64),.sc 1 (.rd .u64),.sc 2 (.rd .u64),.sc 3 (.fn 83),.lst 12 .u64 23,.sc 34 (.int .i64),.sc 35 (.int .i64)],fun k x=>vec_along_vec_pair_mul.l0 k x.1 x.2.1 x.2.2.1 x.2.2.2.2.1 x.2.2.2.2.2.1 x.2.2.2.2.2.2⟩]
theorem vec_along_vec_pair_mul.w0 (k:Nat) (x:ET [.sc 0 (.int .i64),.sc 1 (.rd .u64),.sc 2 (.rd .u64),.sc 3 (.fn 83),.lst 12 .u64 23,.sc 34 (.int .i64),.sc 35 (.int .i64)]):walk E400051 (vec_along_vec_pair_mul.G k) (cutsAt E400051 k vec_along_vec_pair_mul.cuts) (retE E400051 Tryz.f51.results.toList S400051) 4000 true (stackAt B400051 [6,4,1,0,1,1,1,1]) (mkE [.sc 0 (.int .i64),.sc 1 (.rd .u64),.sc 2 (.rd .u64),.sc 3 (.fn 83),.lst 12 .u64 23,.sc 34 (.int .i64),.sc 35 (.int .i64)] x St.nil)=vec_along_vec_pair_mul.l0 (k+1) x.1 x.2.1 x.2.2.1 x.2.2.2.2.1 x.2.2.2.2.2.1 x.2.2.2.2.2.2:=Eq.trans (b:=vec_along_vec_pair_mul.l0R k x.1 x.2.1 x.2.2.1 x.2.2.2.2.1 x.2.2.2.2.2.1 x.2.2.2.2.2.2) (by kernel_rfl) (vec_along_vec_pair_mul.l0E k x.1 x.2.1 x.2.2.1 x.2.2.2.2.1 x.2.2.2.2.2.1 x.2.2.2.2.2.2)
theorem vec_along_vec_pair_mul.w (k:Nat) (x:TT S400051.sa):walk E400051 (vec_along_vec_pair_mul.G k) (cutsAt E400051 k vec_along_vec_pair_mul.cuts) (retE E400051 Tryz.f51.results.toList S400051) 4000 true [([],.code B400051)] (St0 S400051 x)=vec_along_vec_pair_mul.f k x.1 x.2.1 x.2.2.1 x.2.2.2:=by kernel_rfl
theorem vec_along_vec_pair_mul.ok (k:Nat):FnOk Tryz.prog E400051.eT 51 (vec_along_vec_pair_mul.c k):=FnOk.walk (E:=E400051) (body:=B400051) Tryz.func51 rfl (by rfl) Tryz.ntmps51 rfl S400051 rfl (fun k x=>vec_along_vec_pair_mul.f k x.1 x.2.1 x.2.2.1 x.2.2.2) vec_along_vec_pair_mul.G (fun k=>⟨vec_pair_mul.ok k,order_Neg.ok,trivial⟩) 4000 vec_along_vec_pair_mul.cuts ⟨⟨fun _=>rfl,fun k x q h=>(vec_along_vec_pair_mul.w0 k x).trans h⟩,trivial⟩ (fun k x r h=>(vec_along_vec_pair_mul.w k x).trans h) k
def E500051:En:=⟨Tryz.prog,76,Tryz.f51.ntmps,none,false,[]⟩
def S500051:Sig:=⟨[.s,.s,.s,.s],[(.int .i64),(.rd .u64),(.rd .u64),(.fn 84)],true,[.s,.s],[(.rd .u64),.err],true⟩
def B500051:Go.Code:=Tryz.f51.body.get!
def vec_along_vec_pair_div.l0:Nat→Int→List Int→List Int→List Int→Int→Int→Option (List Int×Option Int)
 | 0,_,_,_,_,_,_=>none
 | k+1,x0,x1,x2,x12,x34,x35=>if x35 < x34 then (if 0≤x35 then (if x35 < (nI x1.length) then (if x35 < (nI x2.length) then ((vec_pair_div.f k x0 (rd x1 x35) (rd x2 x35)).bind fun t101=>(if t101.2.isNone=true then (if x35 < (nI x12.length) then (vec_along_vec_pair_div.l0 k x0 x1 x2 (x12.set ((x35:Int).toNat) t101.1) x34 (wrap64 (x35+1))) else (none)) else (some (([]:List Int),some (t101.2.getD 0))))) else (none)) else (none)) else (none)) else (some (x12,none))
def vec_along_vec_pair_div.f (k:Nat) (a0:Int) (l1:List Int) (l2:List Int) (a3:Unit):Option (List Int×Option Int):=(order_Neg.f a0 0).bind fun t100=>(if t100.2.isNone=true then (if (nI l1.length)=(nI l2.length) then (if (((nI l1.length):Int).toNat)≤35184372088832 then (vec_along_vec_pair_div.l0 k a0 l1 l2 (List.replicate (((nI l1.length):Int).toNat) 0:List Int) (nI l1.length) 0) else (none)) else (some (([]:List Int),some 15))) else (some (([]:List Int),some (t100.2.getD 0))))
--@ok
def vec_along_vec_pair_div.l0R (k:Nat) (x0:Int) (x1:List Int) (x2:List Int) (x12:List Int) (x34:Int) (x35:Int):Option (List Int×Option Int):=if x35 < x34 then (if 0≤x35 then (if x35 < (nI x1.length) then (if 0≤x35 then (if x35 < (nI x2.length) then ((vec_pair_div.f k x0 (rd x1 x35) (rd x2 x35)).bind fun t101=>(if t101.2.isNone=true then (if 0≤x35 then (if x35 < (nI x12.length) then (vec_along_vec_pair_div.l0 k x0 x1 x2 (x12.set ((x35:Int).toNat) t101.1) x34 (wrap64 (x35+1))) else (none)) else (none)) else (some (([]:List Int),some (t101.2.getD 0))))) else (none)) else (none)) else (none)) else (none)) else (some (x12,none))
theorem vec_along_vec_pair_div.l0E (k:Nat) (x0:Int) (x1:List Int) (x2:List Int) (x12:List Int) (x34:Int) (x35:Int):vec_along_vec_pair_div.l0R k x0 x1 x2 x12 x34 x35=vec_along_vec_pair_div.l0 (k+1) x0 x1 x2 x12 x34 x35:=by
  unfold vec_along_vec_pair_div.l0R
  rw [vec_along_vec_pair_div.l0]
  exact iteC (fun h0=>iteC (fun h1=>iteC (fun h2=>(if_pos h1).trans (iteC (fun h3=>bindC fun _=>iteC (fun h4=>(if_pos h1).trans (iteC (fun h5=>rfl) (fun h5=>rfl))) (fun h4=>rfl)) (fun h3=>rfl))) (fun h2=>rfl)) (fun h1=>rfl)) (fun h0=>rfl)
def vec_along_vec_pair_div.c (k:Nat):Con:=S500051.con fun x=>vec_along_vec_pair_div.f k x.1 x.2.1 x.2.2.1 x.2.2.2
def vec_along_vec_pair_div.G (k:Nat):List (Go.FuncId×Cn):=[(84,.f (vec_pair_div.c k)),(87,.f order_Neg.c)]
def vec_along_vec_pair_div.cuts:List (Cut (TT S500051.sb)):=[⟨[6,4,1,0,1,1,1,1],[.sc 0 (.int .i64),.sc 1 (.rd .u64),.sc 2 (.rd .u64),.sc 3 (.fn 84),.lst 12 .u64 23,.sc 34 (.int .i64),.sc 35 (.int .i64)],fun k x=>vec_along_vec_pair_div.l0 k x.1 x.2.1 x.2.2.1 x.2.2.2.2.1 x.2.2.2.2.2.1 x.2.2.2.2.2.2⟩]
theorem vec_along_vec_pair_div.w0 (k:Nat) (x:ET [.sc 0 (.int .i64),.sc 1 (.rd .u64),.sc 2 (.rd .u64),.sc 3 (.fn 84),.lst 12 .u64 23,.sc 34 (.int .i64),.sc 35 (.int .i64)]):walk E500051 (vec_along_vec_pair_div.G k) (cutsAt E500051 k vec_along_vec_pair_div.cuts) (retE E500051 Tryz.f51.results.toList S500051) 4000 true (stackAt B500051 [6,4,1,0,1,1,1,1]) (mkE [.sc 0 (.int .i64),.sc 1 (.rd .u64),.sc 2 (.rd .u64),.sc 3 (.fn 84),.lst 12 .u64 23,.sc 34 (.int .i64),.sc 35 (.int .i64)] x St.nil)=vec_along_vec_pair_div.l0 (k+1) x.1 x.2.1 x.2.2.1 x.2.2.2.2.1 x.2.2.2.2.2.1 x.2.2.2.2.2.2:=Eq.trans (b:=vec_along_vec_pair_div.l0R k x.1 x.2.1 x.2.2.1 x.2.2.2.2.1 x.2.2.2.2.2.1 x.2.2.2.2.2.2) (by kernel_rfl) (vec_along_vec_pair_div.l0E k x.1 x.2.1 x.2.2.1 x.2.2.2.2.1 x.2.2.2.2.2.1 x.2.2.2.2.2.2)
theorem vec_along_vec_pair_div.w (k:Nat) (x:TT S500051.sa):walk E500051 (vec_along_vec_pair_div.G k) (cutsAt E500051 k vec_along_vec_pair_div.cuts) (retE E500051 Tryz.f51.results.toList S500051) 4000 true [([],.code B500051)] (St0 S500051 x)=vec_along_vec_pair_div.f k x.1 x.2.1 x.2.2.1 x.2.2.2:=by kernel_rfl
theorem vec_along_vec_pair_div.ok (k:Nat):FnOk Tryz.prog E500051.eT 51 (vec_along_vec_pair_div.c k):=FnOk.walk (E:=E500051) (body:=B500051) Tryz.func51 rfl (by rfl) Tryz.ntmps51 rfl S500051 rfl (fun k x=>vec_along_vec_pair_div.f k x.1 x.2.1 x.2.2.1 x.2.2.2) vec_along_vec_pair_div.G (fun k=>⟨vec_pair_div.ok k,order_Neg.ok,trivial⟩) 4000 vec_along_vec_pair_div.cuts ⟨⟨fun _=>rfl,fun k x q h=>(vec_along_vec_pair_div.w0 k x).trans h⟩,trivial⟩ (fun k x r h=>(vec_along_vec_pair_div.w k x).trans h) k
end Go.Proofs.YtbpcfhhcoklinaaGreat.Fn
set_option maxRecDepth 100000
noncomputable section
namespace Go.Proofs.YtbpcfhhcoklinaaGreat.Fn
open Go Go.RowKit Go.Proofs.YtbpcfhhcoklinaaGreat.Ab
def E600051:En:=⟨Tryz.prog,76,Tryz.f51.ntmps,none,false,[]⟩
def S600051:Sig:=⟨[.s,.s,.s,.s],[(.int .i64),(.rd .u64),(.rd .u64),(.fn 85)],true,[.s,.s],[(.rd .u64),.err],true⟩
def B600051:Go.Code:=Tryz.f51.body.get!
def vec_along_vec_pair_least.l0:Nat→Int→List Int→List Int→List Int→Int→Int→Option (List Int×Option Int)
 | 0,_,_,_,_,_,_=>none
 | k+1,x0,x1,x2,x12,x34,x35=>if x35 < x34 then (if 0≤x35 then (if x35 < (nI x1.length) then (if x35 < (nI x2.length) then ((vec_pair_least.f x0 (rd x1 x35) (rd x2 x35)).bind fun t101=>(if t101.2.isNone=true then (if x35 < (nI x12.length) then (vec_along_vec_pair_least.l0 k x0 x1 x2 (x12.set ((x35:Int).toNat) t101.1) x34 (wrap64 (x35+1))) else (none)) else (some (([]:List Int),some (t101.2.getD 0))))) else (none)) else (none)) else (none)) else (some (x12,none))
def vec_along_vec_pair_least.f (k:Nat) (a0:Int) (l1:List Int) (l2:List Int) (a3:Unit):Option (List Int×Option Int):=(order_Neg.f a0 0).bind fun t100=>(if t100.2.isNone=true then (if (nI l1.length)=(nI l2.length) then (if (((nI l1.length):Int).toNat)≤35184372088832 then (vec_along_vec_pair_least.l0 k a0 l1 l2 (List.replicate (((nI l1.length):Int).toNat) 0:List Int) (nI l1.length) 0) else (none)) else (some (([]:List Int),some 15))) else (some (([]:List Int),some (t100.2.getD 0))))
--@ok
def vec_along_vec_pair_least.l0R (k:Nat) (x0:Int) (x1:List Int) (x2:List Int) (x12:List Int) (x34:Int) (x35:Int):Option (List Int×Option Int):=if x35 < x34 then (if 0≤x35 then (if x35 < (nI x1.length) then (if 0≤x35 then (if x35 < (nI x2.length) then ((vec_pair_least.f x0 (rd x1 x35) (rd x2 x35)).bind fun t101=>(if t101.2.isNone=true then (if 0≤x35 then (if x35 < (nI x12.length) then (vec_along_vec_pair_least.l0 k x0 x1 x2 (x12.set ((x35:Int).toNat) t101.1) x34 (wrap64 (x35+1))) else (none)) else (none)) else (some (([]:List Int),some (t101.2.getD 0))))) else (none)) else (none)) else (none)) else (none)) else (some (x12,none))
theorem vec_along_vec_pair_least.l0E (k:Nat) (x0:Int) (x1:List Int) (x2:List Int) (x12:List Int) (x34:Int) (x35:Int):vec_along_vec_pair_least.l0R k x0 x1 x2 x12 x34 x35=vec_along_vec_pair_least.l0 (k+1) x0 x1 x2 x12 x34 x35:=by
  unfold vec_along_vec_pair_least.l0R
  rw [vec_along_vec_pair_least.l0]
  exact iteC (fun h0=>iteC (fun h1=>iteC (fun h2=>(if_pos h1).trans (iteC (fun h3=>bindC fun _=>iteC (fun h4=>(if_pos h1).trans (iteC (fun h5=>rfl) (fun h5=>rfl))) (fun h4=>rfl)) (fun h3=>rfl))) (fun h2=>rfl)) (fun h1=>rfl)) (fun h0=>rfl)
def vec_along_vec_pair_least.c (k:Nat):Con:=S600051.con fun x=>vec_along_vec_pair_least.f k x.1 x.2.1 x.2.2.1 x.2.2.2
def vec_along_vec_pair_least.G (k:Nat):List (Go.FuncId×Cn):=[(85,.f vec_pair_least.c),(87,.f order_Neg.c)]
def vec_along_vec_pair_least.cuts:List (Cut (TT S600051.sb)):=[⟨[6,4,1,0,1,1,1,1],[.sc 0 (.int .i64),.sc 1 (.rd .u64),.sc 2 (.rd .u64),.sc 3 (.fn 85),.lst 12 .u64 23,.sc 34 (.int .i64),.sc 35 (.int .i64)],fun k x=>vec_along_vec_pair_least.l0 k x.1 x.2.1 x.2.2.1 x.2.2.2.2.1 x.2.2.2.2.2.1 x.2.2.2.2.2.2⟩]
theorem vec_along_vec_pair_least.w0 (k:Nat) (x:ET [.sc 0 (.int .i64),.sc 1 (.rd .u64),.sc 2 (.rd .u64),.sc 3 (.fn 85),.lst 12 .u64 23,.sc 34 (.int .i64),.sc 35 (.int .i64)]):walk E600051 (vec_along_vec_pair_least.G k) (cutsAt E600051 k vec_along_vec_pair_least.cuts) (retE E600051 Tryz.f51.results.toList S600051) 4000 true (stackAt B600051 [6,4,1,0,1,1,1,1]) (mkE [.sc 0 (.int .i64),.sc 1 (.rd .u64),.sc 2 (.rd .u64),.sc 3 (.fn 85),.lst 12 .u64 23,.sc 34 (.int .i64),.sc 35 (.int .i64)] x St.nil)=vec_along_vec_pair_least.l0 (k+1) x.1 x.2.1 x.2.2.1 x.2.2.2.2.1 x.2.2.2.2.2.1 x.2.2.2.2.2.2:=Eq.trans (b:=vec_along_vec_pair_least.l0R k x.1 x.2.1 x.2.2.1 x.2.2.2.2.1 x.2.2.2.2.2.1 x.2.2.2.2.2.2) (by kernel_rfl) (vec_along_vec_pair_least.l0E k x.1 x.2.1 x.2.2.1 x.2.2.2.2.1 x.2.2.2.2.2.1 x.2.2.2.2.2.2)
theorem vec_along_vec_pair_least.w (k:Nat) (x:TT S600051.sa):walk E600051 (vec_along_vec_pair_least.G k) (cutsAt E600051 k vec_along_vec_pair_least.cuts) (retE E600051 Tryz.f51.results.toList S600051) 4000 true [([],.code B600051)] (St0 S600051 x)=vec_along_vec_pair_least.f k x.1 x.2.1 x.2.2.1 x.2.2.2:=by kernel_rfl
theorem vec_along_vec_pair_least.ok (k:Nat):FnOk Tryz.prog E600051.eT 51 (vec_along_vec_pair_least.c k):=FnOk.walk (E:=E600051) (body:=B600051) Tryz.func51 rfl (by rfl) Tryz.ntmps51 rfl S600051 rfl (fun k x=>vec_along_vec_pair_least.f k x.1 x.2.1 x.2.2.1 x.2.2.2) vec_along_vec_pair_least.G (fun k=>⟨vec_pair_least.ok,order_Neg.ok,trivial⟩) 4000 vec_along_vec_pair_least.cuts ⟨⟨fun _=>rfl,fun k x q h=>(vec_along_vec_pair_least.w0 k x).trans h⟩,trivial⟩ (fun k x r h=>(vec_along_vec_pair_least.w k x).trans h) k
def E700051:En:=⟨Tryz.prog,76,Tryz.f51.ntmps,none,false,[]⟩
def S700051:Sig:=⟨[.s,.s,.s,.s],[(.int .i64),(.rd .u64),(.rd .u64),(.fn 86)],true,[.s,.s],[(.rd .u64),.err],true⟩
def B700051:Go.Code:=Tryz.f51.body.get!
def vec_along_vec_pair_most.l0:Nat→Int→List Int→List Int→List Int→Int→Int→Option (List Int×Option Int)
 | 0,_,_,_,_,_,_=>none
 | k+1,x0,x1,x2,x12,x34,x35=>if x35 < x34 then (if 0≤x35 then (if x35 < (nI x1.length) then (if x35 < (nI x2.length) then ((vec_pair_most.f x0 (rd x1 x35) (rd x2 x35)).bind fun t101=>(if t101.2.isNone=true then (if x35 < (nI x12.length) then (vec_along_vec_pair_most.l0 k x0 x1 x2 (x12.set ((x35:Int).toNat) t101.1) x34 (wrap64 (x35+1))) else (none)) else (some (([]:List Int),some (t101.2.getD 0))))) else (none)) else (none)) else (none)) else (some (x12,none))
def vec_along_vec_pair_most.f (k:Nat) (a0:Int) (l1:List Int) (l2:List Int) (a3:Unit):Option (List Int×Option Int):=(order_Neg.f a0 0).bind fun t100=>(if t100.2.isNone=true then (if (nI l1.length)=(nI l2.length) then (if (((nI l1.length):Int).toNat)≤35184372088832 then (vec_along_vec_pair_most.l0 k a0 l1 l2 (List.replicate (((nI l1.length):Int).toNat) 0:List Int) (nI l1.length) 0) else (none)) else (some (([]:List Int),some 15))) else (some (([]:List Int),some (t100.2.getD 0))))
--@ok
def vec_along_vec_pair_most.l0R (k:Nat) (x0:Int) (x1:List Int) (x2:List Int) (x12:List Int) (x34:Int) (x35:Int):Option (List Int×Option Int):=if x35 < x34 then (if 0≤x35 then (if x35 < (nI x1.length) then (if 0≤x35 then (if x35 < (nI x2.length) then ((vec_pair_most.f x0 (rd x1 x35) (rd x2 x35)).bind fun t101=>(if t101.2.isNone=true then (if 0≤x35 then (if x35 < (nI x12.length) then (vec_along_vec_pair_most.l0 k x0 x1 x2 (x12.set ((x35:Int).toNat) t101.1) x34 (wrap64 (x35+1))) else (none)) else (none)) else (some (([]:List Int),some (t101.2.getD 0))))) else (none)) else (none)) else (none)) else (none)) else (some (x12,none))
theorem vec_along_vec_pair_most.l0E (k:Nat) (x0:Int) (x1:List Int) (x2:List Int) (x12:List Int) (x34:Int) (x35:Int):vec_along_vec_pair_most.l0R k x0 x1 x2 x12 x34 x35=vec_along_vec_pair_most.l0 (k+1) x0 x1 x2 x12 x34 x35:=by
  unfold vec_along_vec_pair_most.l0R
  rw [vec_along_vec_pair_most.l0]
  exact iteC (fun h0=>iteC (fun h1=>iteC (fun h2=>(if_pos h1).trans (iteC (fun h3=>bindC fun _=>iteC (fun h4=>(if_pos h1).trans (iteC (fun h5=>rfl) (fun h5=>rfl))) (fun h4=>rfl)) (fun h3=>rfl))) (fun h2=>rfl)) (fun h1=>rfl)) (fun h0=>rfl)
def vec_along_vec_pair_most.c (k:Nat):Con:=S700051.con fun x=>vec_along_vec_pair_most.f k x.1 x.2.1 x.2.2.1 x.2.2.2
def vec_along_vec_pair_most.G (k:Nat):List (Go.FuncId×Cn):=[(86,.f vec_pair_most.c),(87,.f order_Neg.c)]
def vec_along_vec_pair_most.cuts:List (Cut (TT S700051.sb)):=[⟨[6,4,1,0,1,1,1,1],[.sc 0 (.int .i64),.sc 1 (.rd .u64),.sc 2 (.rd .u64),.sc 3 (.fn 86),.lst 12 .u64 23,.sc 34 (.int .i64),.sc 35 (.int .i64)],fun k x=>vec_along_vec_pair_most.l0 k x.1 x.2.1 x.2.2.1 x.2.2.2.2.1 x.2.2.2.2.2.1 x.2.2.2.2.2.2⟩]
theorem vec_along_vec_pair_most.w0 (k:Nat) (x:ET [.sc 0 (.int .i64),.sc 1 (.rd .u64),.sc 2 (.rd .u64),.sc 3 (.fn 86),.lst 12 .u64 23,.sc 34 (.int .i64),.sc 35 (.int .i64)]):walk E700051 (vec_along_vec_pair_most.G k) (cutsAt E700051 k vec_along_vec_pair_most.cuts) (retE E700051 Tryz.f51.results.toList S700051) 4000 true (stackAt B700051 [6,4,1,0,1,1,1,1]) (mkE [.sc 0 (.int .i64),.sc 1 (.rd .u64),.sc 2 (.rd .u64),.sc 3 (.fn 86),.lst 12 .u64 23,.sc 34 (.int .i64),.sc 35 (.int .i64)] x St.nil)=vec_along_vec_pair_most.l0 (k+1) x.1 x.2.1 x.2.2.1 x.2.2.2.2.1 x.2.2.2.2.2.1 x.2.2.2.2.2.2:=Eq.trans (b:=vec_along_vec_pair_most.l0R k x.1 x.2.1 x.2.2.1 x.2.2.2.2.1 x.2.2.2.2.2.1 x.2.2.2.2.2.2) (by kernel_rfl) (vec_along_vec_pair_most.l0E k x.1 x.2.1 x.2.2.1 x.2.2.2.2.1 x.2.2.2.2.2.1 x.2.2.2.2.2.2)
theorem vec_along_vec_pair_most.w (k:Nat) (x:TT S700051.sa):walk E700051 (vec_along_vec_pair_most.G k) (cutsAt E700051 k vec_along_vec_pair_most.cuts) (retE E700051 Tryz.f51.results.toList S700051) 4000 true [([],.code B700051)] (St0 S700051 x)=vec_along_vec_pair_most.f k x.1 x.2.1 x.2.2.1 x.2.2.2:=by kernel_rfl
theorem vec_along_vec_pair_most.ok (k:Nat):FnOk Tryz.prog E700051.eT 51 (vec_along_vec_pair_most.c k):=FnOk.walk (E:=E700051) (body:=B700051) Tryz.func51 rfl (by rfl) Tryz.ntmps51 rfl S700051 rfl (fun k x=>vec_along_vec_pair_most.f k x.1 x.2.1 x.2.2.1 x.2.2.2) vec_along_vec_pair_most.G (fun k=>⟨vec_pair_most.ok,order_Neg.ok,trivial⟩) 4000 vec_along_vec_pair_most.cuts ⟨⟨fun _=>rfl,fun k x q h=>(vec_along_vec_pair_most.w0 k x).trans h⟩,trivial⟩ (fun k x r h=>(vec_along_vec_pair_most.w k x).trans h) k
def E39:En:=⟨Tryz.prog,76,Tryz.f39.ntmps,none,false,[]⟩
def S39:Sig:=⟨[.s,.s,.s,.s],[(.int .i64),(.int .i64),(.rd .u64),(.rd .u64)],true,[.s,.s],[(.rd .u64),.err],true⟩
def B39:Go.Code:=Tryz.f39.body.get!
def vec_Each.j0:Nat→Int→Int→List Int→List Int→Bool→Option (List Int×Option Int)
 | 0,_,_,_,_,_=>none
 | k+1,x0,x1,x2,x3,x19=>if x19=true then ((order_Neg.f x0 0).bind fun t100=>(if t100.2.isNone=true then (some (([]:List Int),some 16)) else (some (([]:List Int),some (t100.2.getD 0))))) else (if 0≤x1 then (if x1 < 6 then (if x1=0 then ((vec_along_vec_pair_add.f k x0 x2 x3 ()).bind fun t101=>(some (t101.1,t101.2))) else (if x1=1 then ((vec_along_vec_pair_sub.f k x0 x2 x3 ()).bind fun t102=>(some (t102.1,t102.2))) else (if x1=2 then ((vec_along_vec_pair_mul.f k x0 x2 x3 ()).bind fun t103=>(some (t103.1,t103.2))) else (if x1=3 then ((vec_along_vec_pair_div.f k x0 x2 x3 ()).bind fun t104=>(some (t104.1,t104.2))) else (if x1=4 then ((vec_along_vec_pair_least.f k x0 x2 x3 ()).bind fun t105=>(some (t105.1,t105.2))) else (if x1=5 then ((vec_along_vec_pair_most.f k x0 x2 x3 ()).bind fun t106=>(some (t106.1,t106.2))) else (none))))))) else (none)) else (none))
def vec_Each.f (k:Nat) (a0:Int) (a1:Int) (l2:List Int) (l3:List Int):Option (List Int×Option Int):=if a1 < 0 then (vec_Each.j0 k a0 a1 l2 l3 true) else (vec_Each.j0 k a0 a1 l2 l3 (decide (a1≥6)))
--@ok
def vec_Each.c (k:Nat):Con:=S39.con fun x=>vec_Each.f k x.1 x.2.1 x.2.2.1 x.2.2.2
def vec_Each.G (k:Nat):List (Go.FuncId×Cn):=[(81,.f (vec_pair_add.c k)),(82,.f (vec_pair_sub.c k)),(83,.f (vec_pair_mul.c k)),(84,.f (vec_pair_div.c k)),(85,.f vec_pair_least.c),(86,.f vec_pair_most.c),(87,.f order_Neg.c),(51,.f (vec_along_vec_pair_add.c k)),(51,.f (vec_along_vec_pair_sub.c k)),(51,.f (vec_along_vec_pair_mul.c k)),(51,.f (vec_along_vec_pair_div.c k)),(51,.f (vec_along_vec_pair_least.c k)),(51,.f (vec_along_vec_pair_most.c k))]
def vec_Each.cuts:List (Cut (TT S39.sb)):=[⟨[1,0,1,1],[.sc 0 (.int .i64),.sc 1 (.int .i64),.sc 2 (.rd .u64),.sc 3 (.rd .u64),.sc 19 (.bool),.box 10 128 [.fn 81,.fn 82,.fn 83,.fn 84,.fn 85,.fn 86]],fun k x=>vec_Each.j0 k x.1 x.2.1 x.2.2.1 x.2.2.2.1 x.2.2.2.2.1⟩]
theorem vec_Each.w0 (k:Nat) (x:ET [.sc 0 (.int .i64),.sc 1 (.int .i64),.sc 2 (.rd .u64),.sc 3 (.rd .u64),.sc 19 (.bool),.box 10 128 [.fn 81,.fn 82,.fn 83,.fn 84,.fn 85,.fn 86]]):walk E39 (vec_Each.G k) (cutsAt E39 k vec_Each.cuts) (retE E39 Tryz.f39.results.toList S39) 4000 true (stackAt B39 [1,0,1,1]) (mkE [.sc 0 (.int .i64),.sc 1 (.int .i64),.sc 2 (.rd .u64),.sc 3 (.rd .u64),.sc 19 (.bool),.box 10 128 [.fn 81,.fn 82,.fn 83,.fn 84,.fn 85,.fn 86]] x St.nil)=vec_Each.j0 (k+1) x.1 x.2.1 x.2.2.1 x.2.2.2.1 x.2.2.2.2.1:=by kernel_rfl
theorem vec_Each.w (k:Nat) (x:TT S39.sa):walk E39 (vec_Each.G k) (cutsAt E39 k vec_Each.cuts) (retE E39 Tryz.f39.results.toList S39) 4000 true [([],.code B39)] (St0 S39 x)=vec_Each.f k x.1 x.2.1 x.2.2.1 x.2.2.2:=by kernel_rfl
theorem vec_Each.ok (k:Nat):FnOk Tryz.prog E39.eT 39 (vec_Each.c k):=FnOk.walk (E:=E39) (body:=B39) Tryz.func39 rfl (by rfl) Tryz.ntmps39 rfl S39 rfl (fun k x=>vec_Each.f k x.1 x.2.1 x.2.2.1 x.2.2.2) vec_Each.G (fun k=>⟨vec_pair_add.ok k,vec_pair_sub.ok k,vec_pair_mul.ok k,vec_pair_div.ok k,vec_pair_least.ok,vec_pair_most.ok,order_Neg.ok,vec_along_vec_pair_add.ok k,vec_along_vec_pair_sub.ok k,vec_along_vec_pair_mul.ok k,vec_along_vec_pair_div.ok k,vec_along_vec_pair_least.ok k,vec_along_vec_pair_most.ok k,trivial⟩) 4000 vec_Each.cuts ⟨⟨fun _=>rfl,fun k x q h=>(vec_Each.w0 k x).trans h⟩,trivial⟩ (fun k x r h=>(vec_Each.w k x).trans h) k
def E209:En:=⟨Tryz.prog,76,Tryz.f209.ntmps,none,false,[]⟩
def S209:Sig:=⟨[.s,.s],[(.int .u64),(.int .i64)],true,[.s,.s],[(.int .i64),(.int .i64)],false⟩
def B209:Go.Code:=Tryz.f209.body.get!
mutual
def vr01_Extend.j0:Nat→Int→Int→Bool→Option (Int×Int)
 | 0,_,_,_=>none
 | k+1,x0,x1,x14=>if x14=true then (some (0,1)) else ((vr01_Text.f k x0 x1).bind fun t100=>(if 0 < (nI t100.size) then (if (bt t100 0)=49 then (vr01_Extend.j1 k x1 t100 (-1)) else (vr01_Extend.j1 k x1 t100 0)) else (none)))
def vr01_Extend.j1:Nat→Int→ByteArray→Int→Option (Int×Int)
 | 0,_,_,_=>none
 | k+1,x1,x6,x7=>vr01_Extend.l0 k x1 x6 x7 1
def vr01_Extend.l0:Nat→Int→ByteArray→Int→Int→Option (Int×Int)
 | 0,_,_,_,_=>none
 | k+1,x1,x6,x7,x8=>if x8 < x1 then (if 0≤x8 then (if x8 < (nI x6.size) then (vr01_Extend.l0 k x1 x6 (wrap64 ((wrap64 (2*x7))+(((bt x6 x8) - 48)%256))) (wrap64 (x8+1))) else (none)) else (none)) else (some (x7,0))
end
def vr01_Extend.f (k:Nat) (a0:Int) (a1:Int):Option (Int×Int):=if a1 < 1 then (vr01_Extend.j0 k a0 a1 true) else (vr01_Extend.j0 k a0 a1 (decide (a1 > 64)))
--@ok
def vr01_Extend.c (k:Nat):Con:=S209.con fun x=>vr01_Extend.f k x.1 x.2
def vr01_Extend.G (k:Nat):List (Go.FuncId×Cn):=[(145,.f (vr01_Text.c k))]
def vr01_Extend.cuts:List (Cut (TT S209.sb)):=[⟨[1,0,1],[.sc 0 (.int .u64),.sc 1 (.int .i64),.sc 14 (.bool)],fun k x=>vr01_Extend.j0 k x.1 x.2.1 x.2.2⟩,⟨[1,1,1,1,1],[.sc 1 (.int .i64),.sc 6 (.str),.sc 7 (.int .i64)],fun k x=>vr01_Extend.j1 k x.1 x.2.1 x.2.2⟩,⟨[6,4,1,0,1,1,1,1,1],[.sc 1 (.int .i64),.sc 6 (.str),.sc 7 (.int .i64),.sc 8 (.int .i64)],fun k x=>vr01_Extend.l0 k x.1 x.2.1 x.2.2.1 x.2.2.2⟩]
theorem vr01_Extend.w0 (k:Nat) (x:ET [.sc 0 (.int .u64),.sc 1 (.int .i64),.sc 14 (.bool)]):walk E209 (vr01_Extend.G k) (cutsAt E209 k vr01_Extend.cuts) (retE E209 Tryz.f209.results.toList S209) 4000 true (stackAt B209 [1,0,1]) (mkE [.sc 0 (.int .u64),.sc 1 (.int .i64),.sc 14 (.bool)] x St.nil)=vr01_Extend.j0 (k+1) x.1 x.2.1 x.2.2:=by kernel_rfl
theorem vr01_Extend.w1 (k:Nat) (x:ET [.sc 1 (.int .i64),.sc 6 (.str),.sc 7 (.int .i64)]):walk E209 (vr01_Extend.G k) (cutsAt E209 k vr01_Extend.cuts) (retE E209 Tryz.f209.results.toList S209) 4000 true (stackAt B209 [1,1,1,1,1]) (mkE [.sc 1 (.int .i64),.sc 6 (.str),.sc 7 (.int .i64)] x St.nil)=vr01_Extend.j1 (k+1) x.1 x.2.1 x.2.2:=by kernel_rfl
theorem vr01_Extend.w2 (k:Nat) (x:ET [.sc 1 (.int .i64),.sc 6 (.str),.sc 7 (.int .i64),.sc 8 (.int .i64)]):walk E209 (vr01_Extend.G k) (cutsAt E209 k vr01_Extend.cuts) (retE E209 Tryz.f209.results.toList S209) 4000 true (stackAt B209 [6,4,1,0,1,1,1,1,1]) (mkE [.sc 1 (.int .i64),.sc 6 (.str),.sc 7 (.int .i64),.sc 8 (.int .i64)] x St.nil)=vr01_Extend.l0 (k+1) x.1 x.2.1 x.2.2.1 x.2.2.2:=by kernel_rfl
theorem vr01_Extend.w (k:Nat) (x:TT S209.sa):walk E209 (vr01_Extend.G k) (cutsAt E209 k vr01_Extend.cuts) (retE E209 Tryz.f209.results.toList S209) 4000 true [([],.code B209)] (St0 S209 x)=vr01_Extend.f k x.1 x.2:=by kernel_rfl
theorem vr01_Extend.ok (k:Nat):FnOk Tryz.prog E209.eT 209 (vr01_Extend.c k):=FnOk.walk (E:=E209) (body:=B209) Tryz.func209 rfl (by rfl) Tryz.ntmps209 rfl S209 rfl (fun k x=>vr01_Extend.f k x.1 x.2) vr01_Extend.G (fun k=>⟨vr01_Text.ok k,trivial⟩) 4000 vr01_Extend.cuts ⟨⟨fun _=>rfl,fun k x q h=>(vr01_Extend.w0 k x).trans h⟩,⟨fun _=>rfl,fun k x q h=>(vr01_Extend.w1 k x).trans h⟩,⟨fun _=>rfl,fun k x q h=>(vr01_Extend.w2 k x).trans h⟩,trivial⟩ (fun k x r h=>(vr01_Extend.w k x).trans h) k
def E184:En:=⟨Tryz.prog,76,Tryz.f184.ntmps,none,false,[]⟩
def S184:Sig:=⟨[.s,.s],[(.int .i64),(.int .u64)],true,[.s,.s],[(.int .i64),(.int .i64)],false⟩
def B184:Go.Code:=Tryz.f184.body.get!
def vr05_Rank.f (k:Nat) (a0:Int) (a1:Int):Option (Int×Int):=(vr05_Is.f a0).bind fun t100=>(if t100=true then ((vr01_Extend.f k a1 a0).bind fun t101=>(some (t101.1,0))) else (some (0,2)))
--@ok
def vr05_Rank.c (k:Nat):Con:=S184.con fun x=>vr05_Rank.f k x.1 x.2
def vr05_Rank.G (k:Nat):List (Go.FuncId×Cn):=[(47,.f vr05_Is.c),(209,.f (vr01_Extend.c k))]
def vr05_Rank.cuts:List (Cut (TT S184.sb)):=[]
theorem vr05_Rank.w (k:Nat) (x:TT S184.sa):walk E184 (vr05_Rank.G k) (cutsAt E184 k vr05_Rank.cuts) (retE E184 Tryz.f184.results.toList S184) 4000 true [([],.code B184)] (St0 S184 x)=vr05_Rank.f k x.1 x.2:=by kernel_rfl
theorem vr05_Rank.ok (k:Nat):FnOk Tryz.prog E184.eT 184 (vr05_Rank.c k):=FnOk.walk (E:=E184) (body:=B184) Tryz.func184 rfl (by rfl) Tryz.ntmps184 rfl S184 rfl (fun k x=>vr05_Rank.f k x.1 x.2) vr05_Rank.G (fun k=>⟨vr05_Is.ok,vr01_Extend.ok k,trivial⟩) 4000 vr05_Rank.cuts trivial (fun k x r h=>(vr05_Rank.w k x).trans h) k
def E133:En:=⟨Tryz.prog,76,Tryz.f133.ntmps,none,false,[]⟩
def S133:Sig:=⟨[.s,.s,.s],[(.int .i64),(.int .u64),(.int .u64)],true,[.s,.s],[(.int .i64),(.int .i64)],false⟩
def B133:Go.Code:=Tryz.f133.body.get!
def vr08_Cmps.f (k:Nat) (a0:Int) (a1:Int) (a2:Int):Option (Int×Int):=(vr05_Rank.f k a0 a1).bind fun t100=>((vr05_Rank.f k a0 a2).bind fun t101=>(if t100.2=0 then (if t100.1 < t101.1 then (some ((-1),0)) else (if t100.1 > t101.1 then (some (1,0)) else (some (0,0)))) else (some (0,t100.2))))
--@ok
def vr08_Cmps.c (k:Nat):Con:=S133.con fun x=>vr08_Cmps.f k x.1 x.2.1 x.2.2
def vr08_Cmps.G (k:Nat):List (Go.FuncId×Cn):=[(184,.f (vr05_Rank.c k))]
def vr08_Cmps.cuts:List (Cut (TT S133.sb)):=[]
theorem vr08_Cmps.w (k:Nat) (x:TT S133.sa):walk E133 (vr08_Cmps.G k) (cutsAt E133 k vr08_Cmps.cuts) (retE E133 Tryz.f133.results.toList S133) 4000 true [([],.code B133)] (St0 S133 x)=vr08_Cmps.f k x.1 x.2.1 x.2.2:=by kernel_rfl
theorem vr08_Cmps.ok (k:Nat):FnOk Tryz.prog E133.eT 133 (vr08_Cmps.c k):=FnOk.walk (E:=E133) (body:=B133) Tryz.func133 rfl (by rfl) Tryz.ntmps133 rfl S133 rfl (fun k x=>vr08_Cmps.f k x.1 x.2.1 x.2.2) vr08_Cmps.G (fun k=>⟨vr05_Rank.ok k,trivial⟩) 4000 vr08_Cmps.cuts trivial (fun k x r h=>(vr08_Cmps.w k x).trans h) k
def E92:En:=⟨Tryz.prog,76,Tryz.f92.ntmps,none,false,[]⟩
def S92:Sig:=⟨[.s,.s,.s],[(.int .i64),(.int .u64),(.int .u64)],false,[.s],[(.int .i64)],false⟩
def B92:Go.Code:=Tryz.f92.body.get!
def vr08_Cmp.f (k:Nat) (a0:Int) (a1:Int) (a2:Int):Option (Int):=(vr08_Cmps.f k a0 a1 a2).bind fun t100=>(some t100.1)
--@ok
def vr08_Cmp.c (k:Nat):Con:=S92.con fun x=>vr08_Cmp.f k x.1 x.2.1 x.2.2
def vr08_Cmp.G (k:Nat):List (Go.FuncId×Cn):=[(133,.f (vr08_Cmps.c k))]
def vr08_Cmp.cuts:List (Cut (TT S92.sb)):=[]
theorem vr08_Cmp.w (k:Nat) (x:TT S92.sa):walk E92 (vr08_Cmp.G k) (cutsAt E92 k vr08_Cmp.cuts) (retE E92 Tryz.f92.results.toList S92) 4000 true [([],.code B92)] (St0 S92 x)=vr08_Cmp.f k x.1 x.2.1 x.2.2:=by kernel_rfl
theorem vr08_Cmp.ok (k:Nat):FnOk Tryz.prog E92.eT 92 (vr08_Cmp.c k):=FnOk.walk (E:=E92) (body:=B92) Tryz.func92 rfl (by rfl) Tryz.ntmps92 rfl S92 rfl (fun k x=>vr08_Cmp.f k x.1 x.2.1 x.2.2) vr08_Cmp.G (fun k=>⟨vr08_Cmps.ok k,trivial⟩) 4000 vr08_Cmp.cuts trivial (fun k x r h=>(vr08_Cmp.w k x).trans h) k
def E172:En:=⟨Tryz.prog,76,Tryz.f172.ntmps,none,false,[]⟩
def S172:Sig:=⟨[.g 4,.g 4],[(.int .i64),.bool,(.int .i64),(.int .u64),(.int .i64),.bool,(.int .i64),(.int .u64)],true,[.g 6,.s],[(.int .i64),.bool,(.int .i64),(.int .u64),(.int .u64),.bool,(.int .i64)],false⟩
def B172:Go.Code:=Tryz.f172.body.get!
def vr09_Exact.f (k:Nat) (a0_0:Int) (a0_1:Bool) (a0_2:Int) (a0_3:Int) (a1_0:Int) (a1_1:Bool) (a1_2:Int) (a1_3:Int):Option (Int×Bool×Int×Int×Int×Bool×Int):=(vr07_Of.f a0_0 a0_1 a0_2 a0_3).bind fun t100=>((vr07_Of.f a1_0 a1_1 a1_2 a1_3).bind fun t101=>(if t100.2.2.2.2.2.2=0 then (if t101.2.2.2.2.2.2=0 then ((vr09_Sum.f k t100.1 t100.2.1 t100.2.2.1 t100.2.2.2.1 t100.2.2.2.2.1 t100.2.2.2.2.2.1 t101.1 t101.2.1 t101.2.2.1 t101.2.2.2.1 t101.2.2.2.2.1 t101.2.2.2.2.2.1).bind fun t102=>(some (t102.1,t102.2.1,t102.2.2.1,t102.2.2.2.1,t102.2.2.2.2.1,t102.2.2.2.2.2,0))) else (some (0,false,0,0,0,false,1))) else (some (0,false,0,0,0,false,1))))
--@ok
def vr09_Exact.c (k:Nat):Con:=S172.con fun x=>vr09_Exact.f k x.1 x.2.1 x.2.2.1 x.2.2.2.1 x.2.2.2.2.1 x.2.2.2.2.2.1 x.2.2.2.2.2.2.1 x.2.2.2.2.2.2.2
def vr09_Exact.G (k:Nat):List (Go.FuncId×Cn):=[(99,.f vr07_Of.c),(101,.f (vr09_Sum.c k))]
def vr09_Exact.cuts:List (Cut (TT S172.sb)):=[]
theorem vr09_Exact.w (k:Nat) (x:TT S172.sa):walk E172 (vr09_Exact.G k) (cutsAt E172 k vr09_Exact.cuts) (retE E172 Tryz.f172.results.toList S172) 4000 true [([],.code B172)] (St0 S172 x)=vr09_Exact.f k x.1 x.2.1 x.2.2.1 x.2.2.2.1 x.2.2.2.2.1 x.2.2.2.2.2.1 x.2.2.2.2.2.2.1 x.2.2.2.2.2.2.2:=by kernel_rfl
theorem vr09_Exact.ok (k:Nat):FnOk Tryz.prog E172.eT 172 (vr09_Exact.c k):=FnOk.walk (E:=E172) (body:=B172) Tryz.func172 rfl (by rfl) Tryz.ntmps172 rfl S172 rfl (fun k x=>vr09_Exact.f k x.1 x.2.1 x.2.2.1 x.2.2.2.1 x.2.2.2.2.1 x.2.2.2.2.2.1 x.2.2.2.2.2.2.1 x.2.2.2.2.2.2.2) vr09_Exact.G (fun k=>⟨vr07_Of.ok,vr09_Sum.ok k,trivial⟩) 4000 vr09_Exact.cuts trivial (fun k x r h=>(vr09_Exact.w k x).trans h) k
def E126:En:=⟨Tryz.prog,76,Tryz.f126.ntmps,none,false,[]⟩
def S126:Sig:=⟨[.s,.s,.s],[(.int .i64),(.int .u64),(.int .u64)],false,[.s],[(.int .u64)],false⟩
def B126:Go.Code:=Tryz.f126.body.get!
def vr09_Add.f (k:Nat) (a0:Int) (a1:Int) (a2:Int):Option (Int):=(vr06_Decode.f k a0 a1).bind fun t100=>((vr06_Decode.f k a0 a2).bind fun t101=>((vr09_Exact.f k t100.1 t100.2.1 t100.2.2.1 t100.2.2.2 t101.1 t101.2.1 t101.2.2.1 t101.2.2.2).bind fun t102=>((vr07_Round.f k a0 t102.1 t102.2.1 t102.2.2.1 t102.2.2.2.1 t102.2.2.2.2.1 t102.2.2.2.2.2.1).bind fun t103=>(some t103))))
--@ok
def vr09_Add.c (k:Nat):Con:=S126.con fun x=>vr09_Add.f k x.1 x.2.1 x.2.2
def vr09_Add.G (k:Nat):List (Go.FuncId×Cn):=[(76,.f (vr07_Round.c k)),(100,.f (vr06_Decode.c k)),(172,.f (vr09_Exact.c k))]
def vr09_Add.cuts:List (Cut (TT S126.sb)):=[]
theorem vr09_Add.w (k:Nat) (x:TT S126.sa):walk E126 (vr09_Add.G k) (cutsAt E126 k vr09_Add.cuts) (retE E126 Tryz.f126.results.toList S126) 4000 true [([],.code B126)] (St0 S126 x)=vr09_Add.f k x.1 x.2.1 x.2.2:=by kernel_rfl
theorem vr09_Add.ok (k:Nat):FnOk Tryz.prog E126.eT 126 (vr09_Add.c k):=FnOk.walk (E:=E126) (body:=B126) Tryz.func126 rfl (by rfl) Tryz.ntmps126 rfl S126 rfl (fun k x=>vr09_Add.f k x.1 x.2.1 x.2.2) vr09_Add.G (fun k=>⟨vr07_Round.ok k,vr06_Decode.ok k,vr09_Exact.ok k,trivial⟩) 4000 vr09_Add.cuts trivial (fun k x r h=>(vr09_Add.w k x).trans h) k
def E127:En:=⟨Tryz.prog,76,Tryz.f127.ntmps,none,false,[]⟩
def S127:Sig:=⟨[.s,.s,.s],[(.int .i64),(.int .u64),(.int .u64)],false,[.s],[(.int .u64)],false⟩
def B127:Go.Code:=Tryz.f127.body.get!
def vr09_Sub.f (k:Nat) (a0:Int) (a1:Int) (a2:Int):Option (Int):=(vr06_Neg.f k a0 a2).bind fun t100=>((vr09_Add.f k a0 a1 t100).bind fun t101=>(some t101))
--@ok
def vr09_Sub.c (k:Nat):Con:=S127.con fun x=>vr09_Sub.f k x.1 x.2.1 x.2.2
def vr09_Sub.G (k:Nat):List (Go.FuncId×Cn):=[(126,.f (vr09_Add.c k)),(161,.f (vr06_Neg.c k))]
def vr09_Sub.cuts:List (Cut (TT S127.sb)):=[]
theorem vr09_Sub.w (k:Nat) (x:TT S127.sa):walk E127 (vr09_Sub.G k) (cutsAt E127 k vr09_Sub.cuts) (retE E127 Tryz.f127.results.toList S127) 4000 true [([],.code B127)] (St0 S127 x)=vr09_Sub.f k x.1 x.2.1 x.2.2:=by kernel_rfl
theorem vr09_Sub.ok (k:Nat):FnOk Tryz.prog E127.eT 127 (vr09_Sub.c k):=FnOk.walk (E:=E127) (body:=B127) Tryz.func127 rfl (by rfl) Tryz.ntmps127 rfl S127 rfl (fun k x=>vr09_Sub.f k x.1 x.2.1 x.2.2) vr09_Sub.G (fun k=>⟨vr09_Add.ok k,vr06_Neg.ok k,trivial⟩) 4000 vr09_Sub.cuts trivial (fun k x r h=>(vr09_Sub.w k x).trans h) k
def E128:En:=⟨Tryz.prog,76,Tryz.f128.ntmps,none,false,[]⟩
def S128:Sig:=⟨[.s,.s,.s],[(.int .i64),(.int .u64),(.int .u64)],false,[.s],[(.int .u64)],false⟩
def B128:Go.Code:=Tryz.f128.body.get!
def vr10_Mul.f (k:Nat) (a0:Int) (a1:Int) (a2:Int):Option (Int):=(vr06_Decode.f k a0 a1).bind fun t100=>((vr06_Decode.f k a0 a2).bind fun t101=>((vr10_Exact.f k t100.1 t100.2.1 t100.2.2.1 t100.2.2.2 t101.1 t101.2.1 t101.2.2.1 t101.2.2.2).bind fun t102=>((vr07_Round.f k a0 t102.1 t102.2.1 t102.2.2.1 t102.2.2.2.1 t102.2.2.2.2.1 t102.2.2.2.2.2.1).bind fun t103=>(some t103))))
--@ok
def vr10_Mul.c (k:Nat):Con:=S128.con fun x=>vr10_Mul.f k x.1 x.2.1 x.2.2
def vr10_Mul.G (k:Nat):List (Go.FuncId×Cn):=[(76,.f (vr07_Round.c k)),(100,.f (vr06_Decode.c k)),(150,.f (vr10_Exact.c k))]
def vr10_Mul.cuts:List (Cut (TT S128.sb)):=[]
theorem vr10_Mul.w (k:Nat) (x:TT S128.sa):walk E128 (vr10_Mul.G k) (cutsAt E128 k vr10_Mul.cuts) (retE E128 Tryz.f128.results.toList S128) 4000 true [([],.code B128)] (St0 S128 x)=vr10_Mul.f k x.1 x.2.1 x.2.2:=by kernel_rfl
theorem vr10_Mul.ok (k:Nat):FnOk Tryz.prog E128.eT 128 (vr10_Mul.c k):=FnOk.walk (E:=E128) (body:=B128) Tryz.func128 rfl (by rfl) Tryz.ntmps128 rfl S128 rfl (fun k x=>vr10_Mul.f k x.1 x.2.1 x.2.2) vr10_Mul.G (fun k=>⟨vr07_Round.ok k,vr06_Decode.ok k,vr10_Exact.ok k,trivial⟩) 4000 vr10_Mul.cuts trivial (fun k x r h=>(vr10_Mul.w k x).trans h) k
def E203:En:=⟨Tryz.prog,76,Tryz.f203.ntmps,none,false,[]⟩
def S203:Sig:=⟨[.s,.s],[(.rd .i64),(.rd .i64)],true,[.s,.s],[(.rd .i64),(.rd .i64)],true⟩
def B203:Go.Code:=Tryz.f203.body.get!
mutual
def vr04_DivMod.l0:Nat→List Int→List Int→List Int→List Int→Int→Option (List Int×List Int)
 | 0,_,_,_,_,_=>none
 | k+1,x0,x1,x6,x7,x8=>if x8≥0 then (if 0≤x8 then (if x8 < (nI x0.length) then (if (1+x7.length)≤17592186044416 then ((vr04_Cut.f k (([rd x0 x8]:List Int)++x7)).bind fun t100=>(vr04_DivMod.l1 k x0 x1 x6 t100 x8 0 16777216)) else (none)) else (none)) else (none)) else ((vr04_Cut.f k x6).bind fun t101=>(some (t101,x7)))
def vr04_DivMod.l1:Nat→List Int→List Int→List Int→List Int→Int→Int→Int→Option (List Int×List Int)
 | 0,_,_,_,_,_,_,_=>none
 | k+1,x0,x1,x6,x7,x8,x10,x11=>if (wrap64 (x11 - x10)) > 1 then ((vr04_times.f k x1 (wrap64 (Int.tdiv (wrap64 (x10+x11)) 2))).bind fun t102=>((vr04_Cmp.f k t102 x7).bind fun t103=>(if t103≤0 then (vr04_DivMod.l1 k x0 x1 x6 x7 x8 (wrap64 (Int.tdiv (wrap64 (x10+x11)) 2)) x11) else (vr04_DivMod.l1 k x0 x1 x6 x7 x8 x10 (wrap64 (Int.tdiv (wrap64 (x10+x11)) 2)))))) else (if 0≤x8 then (if x8 < (nI x6.length) then ((vr04_times.f k x1 x10).bind fun t104=>((vr04_Sub.f k x7 t104).bind fun t105=>(vr04_DivMod.l0 k x0 x1 (x6.set ((x8:Int).toNat) x10) t105 (wrap64 (x8 - 1))))) else (none)) else (none))
end
def vr04_DivMod.f (k:Nat) (l0:List Int) (l1:List Int):Option (List Int×List Int):=if (((nI l0.length):Int).toNat)≤35184372088832 then (vr04_DivMod.l0 k l0 l1 (List.replicate (((nI l0.length):Int).toNat) 0:List Int) ([]:List Int) (wrap64 ((nI l0.length) - 1))) else (none)
--@ok
def vr04_DivMod.c (k:Nat):Con:=S203.con fun x=>vr04_DivMod.f k x.1 x.2
def vr04_DivMod.G (k:Nat):List (Go.FuncId×Cn):=[(65,.f (vr04_Cmp.c k)),(68,.f (vr04_Sub.c k)),(107,.f (vr04_times.c k)),(111,.f (vr04_Cut.c k))]
def vr04_DivMod.cuts:List (Cut (TT S203.sb)):=[⟨[6,4,1,0,1,1,1],[.sc 0 (.rd .i64),.sc 1 (.rd .i64),.lst 6 .i64 3,.sc 7 (.rd .i64),.sc 8 (.int .i64)],fun k x=>vr04_DivMod.l0 k x.1 x.2.1 x.2.2.1 x.2.2.2.1 x.2.2.2.2⟩,⟨[6,4,0,1,1,1,1,1,4,0,1,6,4,1,0,1,1,1],[.sc 0 (.rd .i64),.sc 1 (.rd .i64),.lst 6 .i64 3,.sc 7 (.rd .i64),.sc 8 (.int .i64),.sc 10 (.int .i64),.sc 11 (.int .i64)],fun k x=>vr04_DivMod.l1 k x.1 x.2.1 x.2.2.1 x.2.2.2.1 x.2.2.2.2.1 x.2.2.2.2.2.1 x.2.2.2.2.2.2⟩]
theorem vr04_DivMod.w0 (k:Nat) (x:ET [.sc 0 (.rd .i64),.sc 1 (.rd .i64),.lst 6 .i64 3,.sc 7 (.rd .i64),.sc 8 (.int .i64)]):walk E203 (vr04_DivMod.G k) (cutsAt E203 k vr04_DivMod.cuts) (retE E203 Tryz.f203.results.toList S203) 4000 true (stackAt B203 [6,4,1,0,1,1,1]) (mkE [.sc 0 (.rd .i64),.sc 1 (.rd .i64),.lst 6 .i64 3,.sc 7 (.rd .i64),.sc 8 (.int .i64)] x St.nil)=vr04_DivMod.l0 (k+1) x.1 x.2.1 x.2.2.1 x.2.2.2.1 x.2.2.2.2:=by kernel_rfl
theorem vr04_DivMod.w1 (k:Nat) (x:ET [.sc 0 (.rd .i64),.sc 1 (.rd .i64),.lst 6 .i64 3,.sc 7 (.rd .i64),.sc 8 (.int .i64),.sc 10 (.int .i64),.sc 11 (.int .i64)]):walk E203 (vr04_DivMod.G k) (cutsAt E203 k vr04_DivMod.cuts) (retE E203 Tryz.f203.results.toList S203) 4000 true (stackAt B203 [6,4,0,1,1,1,1,1,4,0,1,6,4,1,0,1,1,1]) (mkE [.sc 0 (.rd .i64),.sc 1 (.rd .i64),.lst 6 .i64 3,.sc 7 (.rd .i64),.sc 8 (.int .i64),.sc 10 (.int .i64),.sc 11 (.int .i64)] x St.nil)=vr04_DivMod.l1 (k+1) x.1 x.2.1 x.2.2.1 x.2.2.2.1 x.2.2.2.2.1 x.2.2.2.2.2.1 x.2.2.2.2.2.2:=by kernel_rfl
theorem vr04_DivMod.w (k:Nat) (x:TT S203.sa):walk E203 (vr04_DivMod.G k) (cutsAt E203 k vr04_DivMod.cuts) (retE E203 Tryz.f203.results.toList S203) 4000 true [([],.code B203)] (St0 S203 x)=vr04_DivMod.f k x.1 x.2:=by kernel_rfl
theorem vr04_DivMod.ok (k:Nat):FnOk Tryz.prog E203.eT 203 (vr04_DivMod.c k):=FnOk.walk (E:=E203) (body:=B203) Tryz.func203 rfl (by rfl) Tryz.ntmps203 rfl S203 rfl (fun k x=>vr04_DivMod.f k x.1 x.2) vr04_DivMod.G (fun k=>⟨vr04_Cmp.ok k,vr04_Sub.ok k,vr04_times.ok k,vr04_Cut.ok k,trivial⟩) 4000 vr04_DivMod.cuts ⟨⟨fun _=>rfl,fun k x q h=>(vr04_DivMod.w0 k x).trans h⟩,⟨fun _=>rfl,fun k x q h=>(vr04_DivMod.w1 k x).trans h⟩,trivial⟩ (fun k x r h=>(vr04_DivMod.w k x).trans h) k
end Go.Proofs.YtbpcfhhcoklinaaGreat.Fn
set_option maxRecDepth 100000
noncomputable section
namespace Go.Proofs.YtbpcfhhcoklinaaGreat.Fn
open Go Go.RowKit Go.Proofs.YtbpcfhhcoklinaaGreat.Ab
def E173:En:=⟨Tryz.prog,76,Tryz.f173.ntmps,none,false,[]⟩
def S173:Sig:=⟨[.g 4,.g 4],[(.int .i64),.bool,(.int .i64),(.int .u64),(.int .i64),.bool,(.int .i64),(.int .u64)],true,[.g 6,.s],[(.int .i64),.bool,(.int .i64),(.int .u64),(.int .u64),.bool,(.int .i64)],false⟩
def B173:Go.Code:=Tryz.f173.body.get!
mutual
def vr11_Exact.j0:Nat→Bool→Int→Bool→Int→Int→Int→Bool→Int→Int→Option (Int×Bool×Int×Int×Int×Bool×Int)
 | 0,_,_,_,_,_,_,_,_,_=>none
 | k+1,x14,x2000,x2001,x2002,x2003,x3000,x3001,x3002,x3003=>if x14=true then (some (0,false,0,0,0,false,1)) else (if x2000=2 then (vr11_Exact.j1 k true x2000 x2001 x2002 x2003 x3001 x3002 x3003) else (vr11_Exact.j1 k (x3000 != 1) x2000 x2001 x2002 x2003 x3001 x3002 x3003))
def vr11_Exact.j1:Nat→Bool→Int→Bool→Int→Int→Bool→Int→Int→Option (Int×Bool×Int×Int×Int×Bool×Int)
 | 0,_,_,_,_,_,_,_,_=>none
 | k+1,x22,x2000,x2001,x2002,x2003,x3001,x3002,x3003=>if x22=true then (some (2,false,0,0,0,false,0)) else (if x2000=0 then (some (0,false,0,0,0,false,0)) else ((vr04_Of.f k x2003).bind fun t102=>((vr04_Shl.f k t102 200).bind fun t103=>((vr04_Of.f k x3003).bind fun t104=>((vr04_DivMod.f k t103 t104).bind fun t105=>((vr07_Exactly.f k (!(x2001==x3001)) t105.1 (wrap64 ((wrap64 (x2002 - x3002)) - 200)) (decide ((nI t105.2.length) > 0))).bind fun t106=>((vr11_Cut.f t106.1 t106.2.1 t106.2.2.1 t106.2.2.2.1 t106.2.2.2.2.1 t106.2.2.2.2.2).bind fun t107=>(some (t107.1,t107.2.1,t107.2.2.1,t107.2.2.2.1,t107.2.2.2.2.1,t107.2.2.2.2.2,0)))))))))
end
def vr11_Exact.f (k:Nat) (a0_0:Int) (a0_1:Bool) (a0_2:Int) (a0_3:Int) (a1_0:Int) (a1_1:Bool) (a1_2:Int) (a1_3:Int):Option (Int×Bool×Int×Int×Int×Bool×Int):=(vr06_Sound.f a0_0 a0_1 a0_2 a0_3).bind fun t100=>((vr06_Sound.f a1_0 a1_1 a1_2 a1_3).bind fun t101=>(if t100=true then (vr11_Exact.j0 k (!t101) a0_0 a0_1 a0_2 a0_3 a1_0 a1_1 a1_2 a1_3) else (vr11_Exact.j0 k true a0_0 a0_1 a0_2 a0_3 a1_0 a1_1 a1_2 a1_3)))
--@ok
def vr11_Exact.c (k:Nat):Con:=S173.con fun x=>vr11_Exact.f k x.1 x.2.1 x.2.2.1 x.2.2.2.1 x.2.2.2.2.1 x.2.2.2.2.2.1 x.2.2.2.2.2.2.1 x.2.2.2.2.2.2.2
def vr11_Exact.G (k:Nat):List (Go.FuncId×Cn):=[(63,.f (vr04_Shl.c k)),(64,.f (vr04_Of.c k)),(118,.f (vr07_Exactly.c k)),(146,.f vr06_Sound.c),(169,.f vr11_Cut.c),(203,.f (vr04_DivMod.c k))]
def vr11_Exact.cuts:List (Cut (TT S173.sb)):=[⟨[1,4,0,1,1,1],[.sc 14 (.bool),.box 2 137 [.int .i64,.bool,.int .i64,.int .u64],.box 3 137 [.int .i64,.bool,.int .i64,.int .u64],.box 4 120 [.int .i64,.bool,.int .i64,.int .u64,.int .u64,.bool]],fun k x=>vr11_Exact.j0 k x.1 x.2.1.1 x.2.1.2.1 x.2.1.2.2.1 x.2.1.2.2.2 x.2.2.1.1 x.2.2.1.2.1 x.2.2.1.2.2.1 x.2.2.1.2.2.2⟩,⟨[1,3,1,4,0,1,1,1],[.sc 22 (.bool),.box 2 137 [.int .i64,.bool,.int .i64,.int .u64],.box 3 137 [.int .i64,.bool,.int .i64,.int .u64],.box 4 120 [.int .i64,.bool,.int .i64,.int .u64,.int .u64,.bool]],fun k x=>vr11_Exact.j1 k x.1 x.2.1.1 x.2.1.2.1 x.2.1.2.2.1 x.2.1.2.2.2 x.2.2.1.2.1 x.2.2.1.2.2.1 x.2.2.1.2.2.2⟩]
theorem vr11_Exact.w0 (k:Nat) (x:ET [.sc 14 (.bool),.box 2 137 [.int .i64,.bool,.int .i64,.int .u64],.box 3 137 [.int .i64,.bool,.int .i64,.int .u64],.box 4 120 [.int .i64,.bool,.int .i64,.int .u64,.int .u64,.bool]]):walk E173 (vr11_Exact.G k) (cutsAt E173 k vr11_Exact.cuts) (retE E173 Tryz.f173.results.toList S173) 4000 true (stackAt B173 [1,4,0,1,1,1]) (mkE [.sc 14 (.bool),.box 2 137 [.int .i64,.bool,.int .i64,.int .u64],.box 3 137 [.int .i64,.bool,.int .i64,.int .u64],.box 4 120 [.int .i64,.bool,.int .i64,.int .u64,.int .u64,.bool]] x St.nil)=vr11_Exact.j0 (k+1) x.1 x.2.1.1 x.2.1.2.1 x.2.1.2.2.1 x.2.1.2.2.2 x.2.2.1.1 x.2.2.1.2.1 x.2.2.1.2.2.1 x.2.2.1.2.2.2:=by kernel_rfl
theorem vr11_Exact.w1 (k:Nat) (x:ET [.sc 22 (.bool),.box 2 137 [.int .i64,.bool,.int .i64,.int .u64],.box 3 137 [.int .i64,.bool,.int .i64,.int .u64],.box 4 120 [.int .i64,.bool,.int .i64,.int .u64,.int .u64,.bool]]):walk E173 (vr11_Exact.G k) (cutsAt E173 k vr11_Exact.cuts) (retE E173 Tryz.f173.results.toList S173) 4000 true (stackAt B173 [1,3,1,4,0,1,1,1]) (mkE [.sc 22 (.bool),.box 2 137 [.int .i64,.bool,.int .i64,.int .u64],.box 3 137 [.int .i64,.bool,.int .i64,.int .u64],.box 4 120 [.int .i64,.bool,.int .i64,.int .u64,.int .u64,.bool]] x St.nil)=vr11_Exact.j1 (k+1) x.1 x.2.1.1 x.2.1.2.1 x.2.1.2.2.1 x.2.1.2.2.2 x.2.2.1.2.1 x.2.2.1.2.2.1 x.2.2.1.2.2.2:=by kernel_rfl
theorem vr11_Exact.w (k:Nat) (x:TT S173.sa):walk E173 (vr11_Exact.G k) (cutsAt E173 k vr11_Exact.cuts) (retE E173 Tryz.f173.results.toList S173) 4000 true [([],.code B173)] (St0 S173 x)=vr11_Exact.f k x.1 x.2.1 x.2.2.1 x.2.2.2.1 x.2.2.2.2.1 x.2.2.2.2.2.1 x.2.2.2.2.2.2.1 x.2.2.2.2.2.2.2:=by kernel_rfl
theorem vr11_Exact.ok (k:Nat):FnOk Tryz.prog E173.eT 173 (vr11_Exact.c k):=FnOk.walk (E:=E173) (body:=B173) Tryz.func173 rfl (by rfl) Tryz.ntmps173 rfl S173 rfl (fun k x=>vr11_Exact.f k x.1 x.2.1 x.2.2.1 x.2.2.2.1 x.2.2.2.2.1 x.2.2.2.2.2.1 x.2.2.2.2.2.2.1 x.2.2.2.2.2.2.2) vr11_Exact.G (fun k=>⟨vr04_Shl.ok k,vr04_Of.ok k,vr07_Exactly.ok k,vr06_Sound.ok,vr11_Cut.ok,vr04_DivMod.ok k,trivial⟩) 4000 vr11_Exact.cuts ⟨⟨fun _=>rfl,fun k x q h=>(vr11_Exact.w0 k x).trans h⟩,⟨fun _=>rfl,fun k x q h=>(vr11_Exact.w1 k x).trans h⟩,trivial⟩ (fun k x r h=>(vr11_Exact.w k x).trans h) k
def E129:En:=⟨Tryz.prog,76,Tryz.f129.ntmps,none,false,[]⟩
def S129:Sig:=⟨[.s,.s,.s],[(.int .i64),(.int .u64),(.int .u64)],false,[.s],[(.int .u64)],false⟩
def B129:Go.Code:=Tryz.f129.body.get!
def vr11_Div.f (k:Nat) (a0:Int) (a1:Int) (a2:Int):Option (Int):=(vr06_Decode.f k a0 a1).bind fun t100=>((vr06_Decode.f k a0 a2).bind fun t101=>((vr11_Exact.f k t100.1 t100.2.1 t100.2.2.1 t100.2.2.2 t101.1 t101.2.1 t101.2.2.1 t101.2.2.2).bind fun t102=>((vr07_Round.f k a0 t102.1 t102.2.1 t102.2.2.1 t102.2.2.2.1 t102.2.2.2.2.1 t102.2.2.2.2.2.1).bind fun t103=>(some t103))))
--@ok
def vr11_Div.c (k:Nat):Con:=S129.con fun x=>vr11_Div.f k x.1 x.2.1 x.2.2
def vr11_Div.G (k:Nat):List (Go.FuncId×Cn):=[(76,.f (vr07_Round.c k)),(100,.f (vr06_Decode.c k)),(173,.f (vr11_Exact.c k))]
def vr11_Div.cuts:List (Cut (TT S129.sb)):=[]
theorem vr11_Div.w (k:Nat) (x:TT S129.sa):walk E129 (vr11_Div.G k) (cutsAt E129 k vr11_Div.cuts) (retE E129 Tryz.f129.results.toList S129) 4000 true [([],.code B129)] (St0 S129 x)=vr11_Div.f k x.1 x.2.1 x.2.2:=by kernel_rfl
theorem vr11_Div.ok (k:Nat):FnOk Tryz.prog E129.eT 129 (vr11_Div.c k):=FnOk.walk (E:=E129) (body:=B129) Tryz.func129 rfl (by rfl) Tryz.ntmps129 rfl S129 rfl (fun k x=>vr11_Div.f k x.1 x.2.1 x.2.2) vr11_Div.G (fun k=>⟨vr07_Round.ok k,vr06_Decode.ok k,vr11_Exact.ok k,trivial⟩) 4000 vr11_Div.cuts trivial (fun k x r h=>(vr11_Div.w k x).trans h) k
def E88:En:=⟨Tryz.prog,76,Tryz.f88.ntmps,none,false,[]⟩
def S88:Sig:=⟨[.s,.s,.s,.s],[(.int .i64),(.int .i64),(.int .u64),(.int .u64)],false,[.s],[(.int .u64)],false⟩
def B88:Go.Code:=Tryz.f88.body.get!
def vr20_one.j0:Nat→Int→Int→Int→Bool→Option (Int)
 | 0,_,_,_,_=>none
 | k+1,x0,x2,x3,x52=>if x52=true then ((vr06_Fold.f k x0 x3).bind fun t105=>(some t105)) else ((vr06_Fold.f k x0 x2).bind fun t106=>(some t106))
def vr20_one.f (k:Nat) (a0:Int) (a1:Int) (a2:Int) (a3:Int):Option (Int):=if a1=0 then ((vr09_Add.f k a0 a2 a3).bind fun t100=>(some t100)) else (if a1=1 then ((vr09_Sub.f k a0 a2 a3).bind fun t101=>(some t101)) else (if a1=2 then ((vr10_Mul.f k a0 a2 a3).bind fun t102=>(some t102)) else (if a1=3 then ((vr11_Div.f k a0 a2 a3).bind fun t103=>(some t103)) else ((vr08_Cmp.f k a0 a2 a3).bind fun t104=>(if a1=4 then (if t104 > 0 then (vr20_one.j0 k a0 a2 a3 true) else (if a1=5 then (vr20_one.j0 k a0 a2 a3 (decide (t104 < 0))) else (vr20_one.j0 k a0 a2 a3 false))) else (if a1=5 then (vr20_one.j0 k a0 a2 a3 (decide (t104 < 0))) else (vr20_one.j0 k a0 a2 a3 false)))))))
--@ok
def vr20_one.c (k:Nat):Con:=S88.con fun x=>vr20_one.f k x.1 x.2.1 x.2.2.1 x.2.2.2
def vr20_one.G (k:Nat):List (Go.FuncId×Cn):=[(48,.f (vr06_Fold.c k)),(92,.f (vr08_Cmp.c k)),(126,.f (vr09_Add.c k)),(127,.f (vr09_Sub.c k)),(128,.f (vr10_Mul.c k)),(129,.f (vr11_Div.c k))]
def vr20_one.cuts:List (Cut (TT S88.sb)):=[⟨[1,0,1,1,1],[.sc 0 (.int .i64),.sc 2 (.int .u64),.sc 3 (.int .u64),.sc 52 (.bool)],fun k x=>vr20_one.j0 k x.1 x.2.1 x.2.2.1 x.2.2.2⟩]
theorem vr20_one.w0 (k:Nat) (x:ET [.sc 0 (.int .i64),.sc 2 (.int .u64),.sc 3 (.int .u64),.sc 52 (.bool)]):walk E88 (vr20_one.G k) (cutsAt E88 k vr20_one.cuts) (retE E88 Tryz.f88.results.toList S88) 4000 true (stackAt B88 [1,0,1,1,1]) (mkE [.sc 0 (.int .i64),.sc 2 (.int .u64),.sc 3 (.int .u64),.sc 52 (.bool)] x St.nil)=vr20_one.j0 (k+1) x.1 x.2.1 x.2.2.1 x.2.2.2:=by kernel_rfl
theorem vr20_one.w (k:Nat) (x:TT S88.sa):walk E88 (vr20_one.G k) (cutsAt E88 k vr20_one.cuts) (retE E88 Tryz.f88.results.toList S88) 4000 true [([],.code B88)] (St0 S88 x)=vr20_one.f k x.1 x.2.1 x.2.2.1 x.2.2.2:=by kernel_rfl
theorem vr20_one.ok (k:Nat):FnOk Tryz.prog E88.eT 88 (vr20_one.c k):=FnOk.walk (E:=E88) (body:=B88) Tryz.func88 rfl (by rfl) Tryz.ntmps88 rfl S88 rfl (fun k x=>vr20_one.f k x.1 x.2.1 x.2.2.1 x.2.2.2) vr20_one.G (fun k=>⟨vr06_Fold.ok k,vr08_Cmp.ok k,vr09_Add.ok k,vr09_Sub.ok k,vr10_Mul.ok k,vr11_Div.ok k,trivial⟩) 4000 vr20_one.cuts ⟨⟨fun _=>rfl,fun k x q h=>(vr20_one.w0 k x).trans h⟩,trivial⟩ (fun k x r h=>(vr20_one.w k x).trans h) k
def E40:En:=⟨Tryz.prog,76,Tryz.f40.ntmps,none,false,[]⟩
def S40:Sig:=⟨[.s,.s,.s,.s],[(.int .i64),(.int .i64),(.rd .u64),(.rd .u64)],true,[.s,.s],[(.rd .u64),(.int .i64)],true⟩
def B40:Go.Code:=Tryz.f40.body.get!
mutual
def vr20_Each.j0:Nat→Int→Int→List Int→List Int→Bool→Option (List Int×Int)
 | 0,_,_,_,_,_=>none
 | k+1,x0,x1,x2,x3,x22=>if x22=true then (some (([]:List Int),16)) else (if (nI x2.length)=(nI x3.length) then (vr20_Each.l0 k x0 x1 x2 x3 ([]:List Int) 0) else (some (([]:List Int),15)))
def vr20_Each.l0:Nat→Int→Int→List Int→List Int→List Int→Int→Option (List Int×Int)
 | 0,_,_,_,_,_,_=>none
 | k+1,x0,x1,x2,x3,x11,x12=>if x12 < (nI x2.length) then (if 0≤x12 then (if x12 < (nI x3.length) then ((vr20_one.f k x0 x1 (rd x2 x12) (rd x3 x12)).bind fun t101=>(if x11.length < 17592186044416 then (vr20_Each.l0 k x0 x1 x2 x3 (x11++([t101]:List Int)) (wrap64 (x12+1))) else (none))) else (none)) else (none)) else (some (x11,0))
end
def vr20_Each.f (k:Nat) (a0:Int) (a1:Int) (l2:List Int) (l3:List Int):Option (List Int×Int):=(vr05_Is.f a0).bind fun t100=>(if t100=true then (if a1 < 0 then (vr20_Each.j0 k a0 a1 l2 l3 true) else (vr20_Each.j0 k a0 a1 l2 l3 (decide (a1 > 5)))) else (some (([]:List Int),2)))
--@ok
def vr20_Each.l0R (k:Nat) (x0:Int) (x1:Int) (x2:List Int) (x3:List Int) (x11:List Int) (x12:Int):Option (List Int×Int):=if x12 < (nI x2.length) then (if 0≤x12 then (if x12 < (nI x2.length) then (if 0≤x12 then (if x12 < (nI x3.length) then ((vr20_one.f k x0 x1 (rd x2 x12) (rd x3 x12)).bind fun t101=>(if x11.length < 17592186044416 then (vr20_Each.l0 k x0 x1 x2 x3 (x11++([t101]:List Int)) (wrap64 (x12+1))) else (none))) else (none)) else (none)) else (none)) else (none)) else (some (x11,0))
theorem vr20_Each.l0E (k:Nat) (x0:Int) (x1:Int) (x2:List Int) (x3:List Int) (x11:List Int) (x12:Int):vr20_Each.l0R k x0 x1 x2 x3 x11 x12=vr20_Each.l0 (k+1) x0 x1 x2 x3 x11 x12:=by
  unfold vr20_Each.l0R
  rw [vr20_Each.l0]
  exact iteC (fun h0=>iteC (fun h1=>(if_pos h0).trans ((if_pos h1).trans (iteC (fun h2=>bindC fun _=>iteC (fun h3=>rfl) (fun h3=>rfl)) (fun h2=>rfl)))) (fun h1=>rfl)) (fun h0=>rfl)
def vr20_Each.c (k:Nat):Con:=S40.con fun x=>vr20_Each.f k x.1 x.2.1 x.2.2.1 x.2.2.2
def vr20_Each.G (k:Nat):List (Go.FuncId×Cn):=[(47,.f vr05_Is.c),(88,.f (vr20_one.c k))]
def vr20_Each.cuts:List (Cut (TT S40.sb)):=[⟨[1,0,1,1,1],[.sc 0 (.int .i64),.sc 1 (.int .i64),.sc 2 (.rd .u64),.sc 3 (.rd .u64),.sc 22 (.bool)],fun k x=>vr20_Each.j0 k x.1 x.2.1 x.2.2.1 x.2.2.2.1 x.2.2.2.2⟩,⟨[6,4,1,0,1,1,1,1,1,1],[.sc 0 (.int .i64),.sc 1 (.int .i64),.sc 2 (.rd .u64),.sc 3 (.rd .u64),.lst 11 .u64 23,.sc 12 (.int .i64)],fun k x=>vr20_Each.l0 k x.1 x.2.1 x.2.2.1 x.2.2.2.1 x.2.2.2.2.1 x.2.2.2.2.2⟩]
theorem vr20_Each.w0 (k:Nat) (x:ET [.sc 0 (.int .i64),.sc 1 (.int .i64),.sc 2 (.rd .u64),.sc 3 (.rd .u64),.sc 22 (.bool)]):walk E40 (vr20_Each.G k) (cutsAt E40 k vr20_Each.cuts) (retE E40 Tryz.f40.results.toList S40) 4000 true (stackAt B40 [1,0,1,1,1]) (mkE [.sc 0 (.int .i64),.sc 1 (.int .i64),.sc 2 (.rd .u64),.sc 3 (.rd .u64),.sc 22 (.bool)] x St.nil)=vr20_Each.j0 (k+1) x.1 x.2.1 x.2.2.1 x.2.2.2.1 x.2.2.2.2:=by kernel_rfl
theorem vr20_Each.w1 (k:Nat) (x:ET [.sc 0 (.int .i64),.sc 1 (.int .i64),.sc 2 (.rd .u64),.sc 3 (.rd .u64),.lst 11 .u64 23,.sc 12 (.int .i64)]):walk E40 (vr20_Each.G k) (cutsAt E40 k vr20_Each.cuts) (retE E40 Tryz.f40.results.toList S40) 4000 true (stackAt B40 [6,4,1,0,1,1,1,1,1,1]) (mkE [.sc 0 (.int .i64),.sc 1 (.int .i64),.sc 2 (.rd .u64),.sc 3 (.rd .u64),.lst 11 .u64 23,.sc 12 (.int .i64)] x St.nil)=vr20_Each.l0 (k+1) x.1 x.2.1 x.2.2.1 x.2.2.2.1 x.2.2.2.2.1 x.2.2.2.2.2:=Eq.trans (b:=vr20_Each.l0R k x.1 x.2.1 x.2.2.1 x.2.2.2.1 x.2.2.2.2.1 x.2.2.2.2.2) (by kernel_rfl) (vr20_Each.l0E k x.1 x.2.1 x.2.2.1 x.2.2.2.1 x.2.2.2.2.1 x.2.2.2.2.2)
theorem vr20_Each.w (k:Nat) (x:TT S40.sa):walk E40 (vr20_Each.G k) (cutsAt E40 k vr20_Each.cuts) (retE E40 Tryz.f40.results.toList S40) 4000 true [([],.code B40)] (St0 S40 x)=vr20_Each.f k x.1 x.2.1 x.2.2.1 x.2.2.2:=by kernel_rfl
theorem vr20_Each.ok (k:Nat):FnOk Tryz.prog E40.eT 40 (vr20_Each.c k):=FnOk.walk (E:=E40) (body:=B40) Tryz.func40 rfl (by rfl) Tryz.ntmps40 rfl S40 rfl (fun k x=>vr20_Each.f k x.1 x.2.1 x.2.2.1 x.2.2.2) vr20_Each.G (fun k=>⟨vr05_Is.ok,vr20_one.ok k,trivial⟩) 4000 vr20_Each.cuts ⟨⟨fun _=>rfl,fun k x q h=>(vr20_Each.w0 k x).trans h⟩,⟨fun _=>rfl,fun k x q h=>(vr20_Each.w1 k x).trans h⟩,trivial⟩ (fun k x r h=>(vr20_Each.w k x).trans h) k
def E8:En:=⟨Tryz.prog,76,Tryz.f8.ntmps,none,false,[]⟩
def S8:Sig:=⟨[.s,.g 3],[(.int .i64),(.int .i64),(.rd .u64),(.rd .u64)],false,[.s],[.bool],false⟩
def B8:Go.Code:=Tryz.f8.body.get!
def vl20_VecEach.f (k:Nat) (a0:Int) (a1_0:Int) (a1_1:List Int) (a1_2:List Int):Option (Bool):=(vl20_shown.f k).bind fun t100=>((vec_Each.f k a0 a1_0 a1_1 a1_2).bind fun t101=>((vr20_Each.f k a0 a1_0 a1_1 a1_2).bind fun t102=>((vr04_Same.f k t101.1 t102.1).bind fun t103=>(if t100=true then (if t103=true then ((vl00_Code.f t101.2).bind fun t104=>(some (t104==t102.2))) else (some false)) else (some false)))))
--@ok
def vl20_VecEach.c (k:Nat):Con:=S8.con fun x=>vl20_VecEach.f k x.1 x.2.1 x.2.2.1 x.2.2.2
def vl20_VecEach.G (k:Nat):List (Go.FuncId×Cn):=[(10,.f (vl20_shown.c k)),(13,.f vl00_Code.c),(16,.f (vr04_Same.c k)),(39,.f (vec_Each.c k)),(40,.f (vr20_Each.c k))]
def vl20_VecEach.cuts:List (Cut (TT S8.sb)):=[]
theorem vl20_VecEach.w (k:Nat) (x:TT S8.sa):walk E8 (vl20_VecEach.G k) (cutsAt E8 k vl20_VecEach.cuts) (retE E8 Tryz.f8.results.toList S8) 4000 true [([],.code B8)] (St0 S8 x)=vl20_VecEach.f k x.1 x.2.1 x.2.2.1 x.2.2.2:=by kernel_rfl
theorem vl20_VecEach.ok (k:Nat):FnOk Tryz.prog E8.eT 8 (vl20_VecEach.c k):=FnOk.walk (E:=E8) (body:=B8) Tryz.func8 rfl (by rfl) Tryz.ntmps8 rfl S8 rfl (fun k x=>vl20_VecEach.f k x.1 x.2.1 x.2.2.1 x.2.2.2) vl20_VecEach.G (fun k=>⟨vl20_shown.ok k,vl00_Code.ok,vr04_Same.ok k,vec_Each.ok k,vr20_Each.ok k,trivial⟩) 4000 vl20_VecEach.cuts trivial (fun k x r h=>(vl20_VecEach.w k x).trans h) k
def vl20_VecEach.Pure:Prop:=∀ (a0:Int) (a1_0:Int) (a1_1:List Int) (a1_2:List Int),(Lit.int .i64 a0).wf=true→(Lit.int .i64 a1_0).wf=true→inL .u64 a1_1→a1_1.length*8≤140737488351232→inL .u64 a1_2→a1_2.length*8≤140737488351232→∃ k,vl20_VecEach.f k a0 a1_0 a1_1 a1_2=some true
end Go.Proofs.YtbpcfhhcoklinaaGreat.Fn
