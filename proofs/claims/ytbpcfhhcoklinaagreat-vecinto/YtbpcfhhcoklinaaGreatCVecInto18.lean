-- Written by a program of this session out of its own texts (wip/tools/link.py).
import Derived.Below
import Derived.ChangeKeysEq
import Derived.Deep.MidRow
import Derived.Deep.RegionHeld3
import Derived.Great.BuildSlice
import Derived.Ground.SlsfProg
import Derived.IntWalk
import Derived.KernelRfl
import Derived.LaidEql
import Derived.Laws.Bits64
import Derived.Laws.BitsLemmas
import Derived.Laws.BytesArg
import Derived.Laws.IdiomCopy
import Derived.Laws.OwnMore
import Derived.Laws.Rows
import Derived.Laws.Slices
import Derived.Laws.StructEq
import Derived.Laws.Tables
import Derived.Lib.BitFns
import Derived.Lib.Slices
import Derived.Lib.Small
import Derived.Lib.Strings
import Derived.Lib.Walk
import Derived.LoopIn
import Derived.LoopNIn
import Derived.Maps.AppendAt
import Derived.OrdersHeld
import Derived.OwnWalkIn
import Derived.RangeFuncBound
import Derived.RangeFuncCalls
import Derived.RangeFuncLeaves
import Derived.RangeFuncNested
import Derived.RowKit
import Derived.Scope
import Derived.Shelf.Abstract
import Derived.Shelf.RegionOpen
import Derived.Shelf.SlGeneric
import Derived.Shelf.SlSortCmp.NoneTotal
import Derived.Shelf.Spec.BitsCarry
import Derived.TacticsInMore
import Derived.Test.YtbpcfhhcoklinaaGreatProg
import Derived.WalkKit
import Derived.Test.YtbpcfhhcoklinaaGreatCVecInto10
import Derived.Test.YtbpcfhhcoklinaaGreatCVecInto11
import Derived.Test.YtbpcfhhcoklinaaGreatCVecInto13
import Derived.Test.YtbpcfhhcoklinaaGreatCVecInto16
import Derived.Test.YtbpcfhhcoklinaaGreatCVecInto17
noncomputable section
set_option linter.unusedSimpArgs false
set_option linter.unusedVariables false
set_option maxRecDepth 100000
noncomputable section
namespace Go.Proofs.YtbpcfhhcoklinaaGreat.Fn
open Go Go.RowKit Go.Proofs.YtbpcfhhcoklinaaGreat.Ab
def S89:SSig:=⟨.u64,23,90,[.int .i64]⟩
def slices_SortFunc.cf (n x y:Int):Int:=(vec_Sort_1.f x y n).getD 0
def slices_SortFunc.Good (n:Int) (l:List Int):Prop:=l.length < 4611686018427387904∧(∀ x∈l,∀ y∈l,(vec_Sort_1.f x y n).isSome=true)∧Srt.Ord (slices_SortFunc.cf n) l
def slices_SortFunc.f (n:Int) (l:List Int):Option (List Int):=@ite _ (slices_SortFunc.Good n l) (Classical.propDecidable _) (some (Srt.srt (slices_SortFunc.cf n) l)) none
--@ok
def slices_SortFunc.c:SCon:=S89.con slices_SortFunc.f
theorem slices_SortFunc.ok:FnOkS Tryz.prog 76 89 slices_SortFunc.c:=by
  intro x l r w ok base v us hF hin hown hnok hcp
  have hF':slices_SortFunc.f x l=some r:=hF
  unfold slices_SortFunc.f at hF'
  split at hF'
  · rename_i hG
    injection hF' with hF'
    subst hF'
    refine .inl ⟨enters_of Tryz.func89 (by kernel_rfl) rfl _ _, ?_⟩
    refine (Srt.sort_calls (slices_SortFunc.cf x) us l w base v hown hG.2.2 hG.1 ?_).mono ?_
    · intro W hW a ha b hb
      obtain ⟨us⟩:=us
      match us,hcp with
      | [p],hcp =>
        obtain ⟨⟨q,u,rfl,h1,h2,h3,h4⟩, -⟩:=hcp
        have hs:=hG.2.1 a ha b hb
        obtain ⟨c,hc⟩:=Option.isSome_iff_exists.1 hs
        have hne:q.block ∉ v.ownBlock.toList:=by
          intro hm
          cases ho:v.ownBlock with
          | none=>rw [ho] at hm;cases hm
          | some g =>
            rw [ho] at hm
            have hm:q.block=g:=by simpa using hm
            exact hnok g ho (hm▸h1)
        have e1:(#[Value.int .u64 a,Value.int .u64 b]++({ toList:=[Value.pointer (some q)] }:Array Value)) = #[.int .u64 a,.int .u64 b,.pointer (some q)]:=rfl
        rw [e1]
        have h:=vec_Sort_1.ok (a,b,x) c W (fun g=>ok g∧g < w.heap.size) #[.int .u64 a,.int .u64 b,.pointer (some q)] hc
          ⟨⟨rfl,hin.2 a ha,by simp,by simp⟩,⟨rfl,hin.2 b hb,by simp,by simp⟩,⟨q,u,rfl,⟨h1,h2⟩,Nat.lt_of_lt_of_le h2 hW.size,(cell_of (w:=w) (hW.block _ h2 hne)).trans h3,h4⟩,trivial⟩
        refine (Srt.of_ok (enters_of Tryz.func90 (by kernel_rfl) rfl) h).mono ?_
        rintro e w' ⟨v',rfl,⟨y,hy,hvv⟩,hbw⟩
        injection hy with hy
        subst hy
        obtain ⟨rfl, -⟩:=hvv
        refine ⟨?_,hbw⟩
        unfold slices_SortFunc.cf
        rw [hc]
        rfl
      | [],hcp=>exact hcp.elim
      | _ :: _ :: _,hcp=>exact hcp.2.elim
    · rintro e w' ⟨rfl,h1,h2⟩
      exact ⟨_,rfl,rfl,Srt.srt_in hin,h1,h2⟩
  · cases hF'
def E42:En:=⟨Tryz.prog,76,Tryz.f42.ntmps,none,false,[89]⟩
def S42:Sig:=⟨[.s,.s],[(.int .i64),(.rd .u64)],true,[.s,.s],[(.rd .u64),.err],true⟩
def B42:Go.Code:=Tryz.f42.body.get!
def vec_Sort.l0:Nat→List Int→List Int→Int→Int→Int→Option (List Int×Option Int)
 | 0,_,_,_,_,_=>none
 | k+1,x8,x22,x23,x24,x2000=>if x24 < x23 then (if 0≤x24 then (if x24 < (nI x22.length) then (if 0≤(wrap64 (64 - x2000)) then (if x24 < (nI x8.length) then (vec_Sort.l0 k (x8.set ((x24:Int).toNat) (shr .u64 (shl .u64 (rd x22 x24) (wrap64 (64 - x2000))) (wrap64 (64 - x2000)))) x22 x23 (wrap64 (x24+1)) x2000) else (none)) else (none)) else (none)) else (none)) else ((slices_SortFunc.f x2000 x8).bind fun t101=>(some (t101,none)))
def vec_Sort.f (k:Nat) (a0:Int) (l1:List Int):Option (List Int×Option Int):=(order_Neg.f a0 0).bind fun t100=>(if t100.2.isNone=true then (if (((nI l1.length):Int).toNat)≤35184372088832 then (vec_Sort.l0 k (List.replicate (((nI l1.length):Int).toNat) 0:List Int) l1 (nI l1.length) 0 a0) else (none)) else (some (([]:List Int),some (t100.2.getD 0))))
--@ok
def vec_Sort.l0R (k:Nat) (x8:List Int) (x22:List Int) (x23:Int) (x24:Int) (x2000:Int):Option (List Int×Option Int):=if x24 < x23 then (if 0≤x24 then (if x24 < (nI x22.length) then (if 0≤(wrap64 (64 - x2000)) then (if 0≤(wrap64 (64 - x2000)) then (if 0≤x24 then (if x24 < (nI x8.length) then (vec_Sort.l0 k (x8.set ((x24:Int).toNat) (shr .u64 (shl .u64 (rd x22 x24) (wrap64 (64 - x2000))) (wrap64 (64 - x2000)))) x22 x23 (wrap64 (x24+1)) x2000) else (none)) else (none)) else (none)) else (none)) else (none)) else (none)) else ((slices_SortFunc.f x2000 x8).bind fun t101=>(some (t101,none)))
theorem vec_Sort.l0E (k:Nat) (x8:List Int) (x22:List Int) (x23:Int) (x24:Int) (x2000:Int):vec_Sort.l0R k x8 x22 x23 x24 x2000=vec_Sort.l0 (k+1) x8 x22 x23 x24 x2000:=by
  unfold vec_Sort.l0R
  rw [vec_Sort.l0]
  exact iteC (fun h0=>iteC (fun h1=>iteC (fun h2=>iteC (fun h3=>(if_pos h3).trans ((if_pos h1).trans (iteC (fun h4=>rfl) (fun h4=>rfl)))) (fun h3=>rfl)) (fun h2=>rfl)) (fun h1=>rfl)) (fun h0=>bindC fun _=>rfl)
def vec_Sort.c (k:Nat):Con:=S42.con fun x=>vec_Sort.f k x.1 x.2
def vec_Sort.G (k:Nat):List (Go.FuncId×Cn):=[(87,.f order_Neg.c),(89,.s slices_SortFunc.c)]
def vec_Sort.cuts:List (Cut (TT S42.sb)):=[⟨[6,4,1,0,1,1,1],[.lst 8 .u64 23,.sc 22 (.rd .u64),.sc 23 (.int .i64),.sc 24 (.int .i64),.box 2 3 [.int .i64]],fun k x=>vec_Sort.l0 k x.1 x.2.1 x.2.2.1 x.2.2.2.1 x.2.2.2.2⟩]
theorem vec_Sort.w0 (k:Nat) (x:ET [.lst 8 .u64 23,.sc 22 (.rd .u64),.sc 23 (.int .i64),.sc 24 (.int .i64),.box 2 3 [.int .i64]]):walk E42 (vec_Sort.G k) (cutsAt E42 k vec_Sort.cuts) (retE E42 Tryz.f42.results.toList S42) 4000 true (stackAt B42 [6,4,1,0,1,1,1]) (mkE [.lst 8 .u64 23,.sc 22 (.rd .u64),.sc 23 (.int .i64),.sc 24 (.int .i64),.box 2 3 [.int .i64]] x St.nil)=vec_Sort.l0 (k+1) x.1 x.2.1 x.2.2.1 x.2.2.2.1 x.2.2.2.2:=Eq.trans (b:=vec_Sort.l0R k x.1 x.2.1 x.2.2.1 x.2.2.2.1 x.2.2.2.2) (by kernel_rfl) (vec_Sort.l0E k x.1 x.2.1 x.2.2.1 x.2.2.2.1 x.2.2.2.2)
theorem vec_Sort.w (k:Nat) (x:TT S42.sa):walk E42 (vec_Sort.G k) (cutsAt E42 k vec_Sort.cuts) (retE E42 Tryz.f42.results.toList S42) 4000 true [([],.code B42)] (St0 S42 x)=vec_Sort.f k x.1 x.2:=by kernel_rfl
theorem vec_Sort.ok (k:Nat):FnOk Tryz.prog E42.eT 42 (vec_Sort.c k):=FnOk.walk (E:=E42) (body:=B42) Tryz.func42 rfl (by rfl) Tryz.ntmps42 rfl S42 rfl (fun k x=>vec_Sort.f k x.1 x.2) vec_Sort.G (fun k=>⟨order_Neg.ok,slices_SortFunc.ok,trivial⟩) 4000 vec_Sort.cuts ⟨⟨fun _=>rfl,fun k x q h=>(vec_Sort.w0 k x).trans h⟩,trivial⟩ (fun k x r h=>(vec_Sort.w k x).trans h) k
def E10:En:=⟨Tryz.prog,76,Tryz.f10.ntmps,none,false,[]⟩
def S10:Sig:=⟨[],[],false,[.s],[.bool],false⟩
def B10:Go.Code:=Tryz.f10.body.get!
def vl20_shown.f (k:Nat)  : Option (Bool):=(vec_Dot.f k 8 ([127,1,129]:List Int) ([127,64,127]:List Int)).bind fun t100=>((vec_Dot.f k 8 ([64]:List Int) ([]:List Int)).bind fun t101=>((vec_Sort.f k 8 ([64,128,448,0]:List Int)).bind fun t102=>((vr04_Same.f k t102.1 ([128,192,0,64]:List Int)).bind fun t103=>((vec_Poly.f k 8 ([64,64,64]:List Int) 72).bind fun t104=>(if t100.1=1 then (if t100.2.isNone=true then (if t101.2.isNone=true then (some false) else (if (t101.2.getD 0)=15 then (if t103=true then (if t102.2.isNone=true then (if t104.1=86 then (if t104.2.isNone=true then (some true) else (some false)) else (some false)) else (some false)) else (some false)) else (some false))) else (some false)) else (some false))))))
--@ok
def vl20_shown.c (k:Nat):Con:=S10.con fun x=>vl20_shown.f k
def vl20_shown.G (k:Nat):List (Go.FuncId×Cn):=[(11,.f (vec_Poly.c k)),(16,.f (vr04_Same.c k)),(33,.f (vec_Dot.c k)),(42,.f (vec_Sort.c k))]
def vl20_shown.cuts:List (Cut (TT S10.sb)):=[]
theorem vl20_shown.w (k:Nat) (x:TT S10.sa):walk E10 (vl20_shown.G k) (cutsAt E10 k vl20_shown.cuts) (retE E10 Tryz.f10.results.toList S10) 4000 true [([],.code B10)] (St0 S10 x)=vl20_shown.f k:=by kernel_rfl
theorem vl20_shown.ok (k:Nat):FnOk Tryz.prog E10.eT 10 (vl20_shown.c k):=FnOk.walk (E:=E10) (body:=B10) Tryz.func10 rfl (by rfl) Tryz.ntmps10 rfl S10 rfl (fun k x=>vl20_shown.f k) vl20_shown.G (fun k=>⟨vec_Poly.ok k,vr04_Same.ok k,vec_Dot.ok k,vec_Sort.ok k,trivial⟩) 4000 vl20_shown.cuts trivial (fun k x r h=>(vl20_shown.w k x).trans h) k
def E47:En:=⟨Tryz.prog,76,Tryz.f47.ntmps,none,false,[]⟩
def S47:Sig:=⟨[.s],[(.int .i64)],false,[.s],[.bool],false⟩
def B47:Go.Code:=Tryz.f47.body.get!
def vr05_Is.f (a0:Int):Option (Bool):=if a0=8 then (some true) else (if a0=16 then (some true) else (if a0=32 then (some true) else (some (a0==64))))
--@ok
def vr05_Is.c:Con:=S47.con fun x=>vr05_Is.f x
def vr05_Is.G (k:Nat):List (Go.FuncId×Cn):=[]
def vr05_Is.cuts:List (Cut (TT S47.sb)):=[]
theorem vr05_Is.w (k:Nat) (x:TT S47.sa):walk E47 (vr05_Is.G k) (cutsAt E47 k vr05_Is.cuts) (retE E47 Tryz.f47.results.toList S47) 4000 true [([],.code B47)] (St0 S47 x)=vr05_Is.f x:=by kernel_rfl
theorem vr05_Is.ok:FnOk Tryz.prog E47.eT 47 (vr05_Is.c):=FnOk.walk (E:=E47) (body:=B47) Tryz.func47 rfl (by rfl) Tryz.ntmps47 rfl S47 rfl (fun k x=>vr05_Is.f x) vr05_Is.G (fun k=>trivial) 4000 vr05_Is.cuts trivial (fun k x r h=>(vr05_Is.w k x).trans h) 0
def E144:En:=⟨Tryz.prog,76,Tryz.f144.ntmps,none,false,[]⟩
def S144:Sig:=⟨[.s],[.str],false,[.s],[(.int .u64)],false⟩
def B144:Go.Code:=Tryz.f144.body.get!
def vr01_Number.l0:Nat→ByteArray→Int→Int→Option (Int)
 | 0,_,_,_=>none
 | k+1,x0,x3,x4=>if x4 < (nI x0.size) then (if 0≤x4 then (vr01_Number.l0 k x0 (IntKind.u64.wrap ((IntKind.u64.wrap (2*x3))+(((bt x0 x4) - 48)%256))) (wrap64 (x4+1))) else (none)) else (some x3)
def vr01_Number.f (k:Nat) (a0:ByteArray):Option (Int):=vr01_Number.l0 k a0 0 0
--@ok
def vr01_Number.l0R (k:Nat) (x0:ByteArray) (x3:Int) (x4:Int):Option (Int):=if x4 < (nI x0.size) then (if 0≤x4 then (if x4 < (nI x0.size) then (vr01_Number.l0 k x0 (IntKind.u64.wrap ((IntKind.u64.wrap (2*x3))+(((bt x0 x4) - 48)%256))) (wrap64 (x4+1))) else (none)) else (none)) else (some x3)
theorem vr01_Number.l0E (k:Nat) (x0:ByteArray) (x3:Int) (x4:Int):vr01_Number.l0R k x0 x3 x4=vr01_Number.l0 (k+1) x0 x3 x4:=by
  unfold vr01_Number.l0R
  rw [vr01_Number.l0]
  exact iteC (fun h0=>iteC (fun h1=>(if_pos h0).trans (rfl)) (fun h1=>rfl)) (fun h0=>rfl)
def vr01_Number.c (k:Nat):Con:=S144.con fun x=>vr01_Number.f k x
def vr01_Number.G (k:Nat):List (Go.FuncId×Cn):=[]
def vr01_Number.cuts:List (Cut (TT S144.sb)):=[⟨[6,4,1,0,1,1],[.sc 0 (.str),.sc 3 (.int .u64),.sc 4 (.int .i64)],fun k x=>vr01_Number.l0 k x.1 x.2.1 x.2.2⟩]
theorem vr01_Number.w0 (k:Nat) (x:ET [.sc 0 (.str),.sc 3 (.int .u64),.sc 4 (.int .i64)]):walk E144 (vr01_Number.G k) (cutsAt E144 k vr01_Number.cuts) (retE E144 Tryz.f144.results.toList S144) 4000 true (stackAt B144 [6,4,1,0,1,1]) (mkE [.sc 0 (.str),.sc 3 (.int .u64),.sc 4 (.int .i64)] x St.nil)=vr01_Number.l0 (k+1) x.1 x.2.1 x.2.2:=Eq.trans (b:=vr01_Number.l0R k x.1 x.2.1 x.2.2) (by kernel_rfl) (vr01_Number.l0E k x.1 x.2.1 x.2.2)
theorem vr01_Number.w (k:Nat) (x:TT S144.sa):walk E144 (vr01_Number.G k) (cutsAt E144 k vr01_Number.cuts) (retE E144 Tryz.f144.results.toList S144) 4000 true [([],.code B144)] (St0 S144 x)=vr01_Number.f k x:=by kernel_rfl
theorem vr01_Number.ok (k:Nat):FnOk Tryz.prog E144.eT 144 (vr01_Number.c k):=FnOk.walk (E:=E144) (body:=B144) Tryz.func144 rfl (by rfl) Tryz.ntmps144 rfl S144 rfl (fun k x=>vr01_Number.f k x) vr01_Number.G (fun k=>trivial) 4000 vr01_Number.cuts ⟨⟨fun _=>rfl,fun k x q h=>(vr01_Number.w0 k x).trans h⟩,trivial⟩ (fun k x r h=>(vr01_Number.w k x).trans h) k
def E145:En:=⟨Tryz.prog,76,Tryz.f145.ntmps,none,false,[]⟩
def S145:Sig:=⟨[.s,.s],[(.int .u64),(.int .i64)],false,[.s],[.str],false⟩
def B145:Go.Code:=Tryz.f145.body.get!
def vr01_Text.l0:Nat→Int→List Int→Int→Option (ByteArray)
 | 0,_,_,_=>none
 | k+1,x0,x5,x6=>if x6≥0 then (if 0≤x6 then (if x5.length < 140737488355328 then (vr01_Text.l0 k x0 (x5++([(48+((Int.tmod (shr .u64 x0 x6) 2)%256))%256]:List Int)) (wrap64 (x6 - 1))) else (none)) else (none)) else (some (strOfNums x5))
def vr01_Text.f (k:Nat) (a0:Int) (a1:Int):Option (ByteArray):=vr01_Text.l0 k a0 ([]:List Int) (wrap64 (a1 - 1))
--@ok
def vr01_Text.c (k:Nat):Con:=S145.con fun x=>vr01_Text.f k x.1 x.2
def vr01_Text.G (k:Nat):List (Go.FuncId×Cn):=[]
def vr01_Text.cuts:List (Cut (TT S145.sb)):=[⟨[6,4,1,0,1,1],[.sc 0 (.int .u64),.lst 5 .u8 5,.sc 6 (.int .i64)],fun k x=>vr01_Text.l0 k x.1 x.2.1 x.2.2⟩]
theorem vr01_Text.w0 (k:Nat) (x:ET [.sc 0 (.int .u64),.lst 5 .u8 5,.sc 6 (.int .i64)]):walk E145 (vr01_Text.G k) (cutsAt E145 k vr01_Text.cuts) (retE E145 Tryz.f145.results.toList S145) 4000 true (stackAt B145 [6,4,1,0,1,1]) (mkE [.sc 0 (.int .u64),.lst 5 .u8 5,.sc 6 (.int .i64)] x St.nil)=vr01_Text.l0 (k+1) x.1 x.2.1 x.2.2:=by kernel_rfl
theorem vr01_Text.w (k:Nat) (x:TT S145.sa):walk E145 (vr01_Text.G k) (cutsAt E145 k vr01_Text.cuts) (retE E145 Tryz.f145.results.toList S145) 4000 true [([],.code B145)] (St0 S145 x)=vr01_Text.f k x.1 x.2:=by kernel_rfl
theorem vr01_Text.ok (k:Nat):FnOk Tryz.prog E145.eT 145 (vr01_Text.c k):=FnOk.walk (E:=E145) (body:=B145) Tryz.func145 rfl (by rfl) Tryz.ntmps145 rfl S145 rfl (fun k x=>vr01_Text.f k x.1 x.2) vr01_Text.G (fun k=>trivial) 4000 vr01_Text.cuts ⟨⟨fun _=>rfl,fun k x q h=>(vr01_Text.w0 k x).trans h⟩,trivial⟩ (fun k x r h=>(vr01_Text.w k x).trans h) k
def E98:En:=⟨Tryz.prog,76,Tryz.f98.ntmps,none,false,[]⟩
def S98:Sig:=⟨[.s,.s],[(.int .i64),(.int .u64)],true,[.s,.s],[(.int .u64),(.int .i64)],false⟩
def B98:Go.Code:=Tryz.f98.body.get!
def vr05_Fold.f (k:Nat) (a0:Int) (a1:Int):Option (Int×Int):=(vr05_Is.f a0).bind fun t100=>(if t100=true then ((vr01_Text.f k a1 a0).bind fun t101=>((vr01_Number.f k t101).bind fun t102=>(some (t102,0)))) else (some (0,2)))
--@ok
def vr05_Fold.c (k:Nat):Con:=S98.con fun x=>vr05_Fold.f k x.1 x.2
def vr05_Fold.G (k:Nat):List (Go.FuncId×Cn):=[(47,.f vr05_Is.c),(144,.f (vr01_Number.c k)),(145,.f (vr01_Text.c k))]
def vr05_Fold.cuts:List (Cut (TT S98.sb)):=[]
theorem vr05_Fold.w (k:Nat) (x:TT S98.sa):walk E98 (vr05_Fold.G k) (cutsAt E98 k vr05_Fold.cuts) (retE E98 Tryz.f98.results.toList S98) 4000 true [([],.code B98)] (St0 S98 x)=vr05_Fold.f k x.1 x.2:=by kernel_rfl
theorem vr05_Fold.ok (k:Nat):FnOk Tryz.prog E98.eT 98 (vr05_Fold.c k):=FnOk.walk (E:=E98) (body:=B98) Tryz.func98 rfl (by rfl) Tryz.ntmps98 rfl S98 rfl (fun k x=>vr05_Fold.f k x.1 x.2) vr05_Fold.G (fun k=>⟨vr05_Is.ok,vr01_Number.ok k,vr01_Text.ok k,trivial⟩) 4000 vr05_Fold.cuts trivial (fun k x r h=>(vr05_Fold.w k x).trans h) k
def E48:En:=⟨Tryz.prog,76,Tryz.f48.ntmps,none,false,[]⟩
def S48:Sig:=⟨[.s,.s],[(.int .i64),(.int .u64)],false,[.s],[(.int .u64)],false⟩
def B48:Go.Code:=Tryz.f48.body.get!
def vr06_Fold.f (k:Nat) (a0:Int) (a1:Int):Option (Int):=(vr05_Fold.f k a0 a1).bind fun t100=>(some t100.1)
--@ok
def vr06_Fold.c (k:Nat):Con:=S48.con fun x=>vr06_Fold.f k x.1 x.2
def vr06_Fold.G (k:Nat):List (Go.FuncId×Cn):=[(98,.f (vr05_Fold.c k))]
def vr06_Fold.cuts:List (Cut (TT S48.sb)):=[]
theorem vr06_Fold.w (k:Nat) (x:TT S48.sa):walk E48 (vr06_Fold.G k) (cutsAt E48 k vr06_Fold.cuts) (retE E48 Tryz.f48.results.toList S48) 4000 true [([],.code B48)] (St0 S48 x)=vr06_Fold.f k x.1 x.2:=by kernel_rfl
theorem vr06_Fold.ok (k:Nat):FnOk Tryz.prog E48.eT 48 (vr06_Fold.c k):=FnOk.walk (E:=E48) (body:=B48) Tryz.func48 rfl (by rfl) Tryz.ntmps48 rfl S48 rfl (fun k x=>vr06_Fold.f k x.1 x.2) vr06_Fold.G (fun k=>⟨vr05_Fold.ok k,trivial⟩) 4000 vr06_Fold.cuts trivial (fun k x r h=>(vr06_Fold.w k x).trans h) k
def E167:En:=⟨Tryz.prog,76,Tryz.f167.ntmps,none,false,[]⟩
def S167:Sig:=⟨[.g 6],[(.int .i64),.bool,(.int .i64),(.int .u64),(.int .u64),.bool],false,[.s],[.bool],false⟩
def B167:Go.Code:=Tryz.f167.body.get!
def vr07_Sound.f (a0_0:Int) (a0_1:Bool) (a0_2:Int) (a0_3:Int) (a0_4:Int) (a0_5:Bool):Option (Bool):=if a0_0=0 then (some ((a0_0==a0_0)&&((!a0_1)&&((a0_2==0)&&((a0_3==0)&&((a0_4==0)&&(!a0_5))))))) else (if a0_0=2 then (some ((a0_0==a0_0)&&((!a0_1)&&((a0_2==0)&&((a0_3==0)&&((a0_4==0)&&(!a0_5))))))) else (if a0_0=1 then (if a0_3≥9223372036854775808 then (if a0_2≥(-1099511627776) then (some (decide (a0_2≤1099511627776))) else (some false)) else (some false)) else (some false)))
--@ok
def vr07_Sound.c:Con:=S167.con fun x=>vr07_Sound.f x.1 x.2.1 x.2.2.1 x.2.2.2.1 x.2.2.2.2.1 x.2.2.2.2.2
def vr07_Sound.G (k:Nat):List (Go.FuncId×Cn):=[]
def vr07_Sound.cuts:List (Cut (TT S167.sb)):=[]
theorem vr07_Sound.w (k:Nat) (x:TT S167.sa):walk E167 (vr07_Sound.G k) (cutsAt E167 k vr07_Sound.cuts) (retE E167 Tryz.f167.results.toList S167) 4000 true [([],.code B167)] (St0 S167 x)=vr07_Sound.f x.1 x.2.1 x.2.2.1 x.2.2.2.1 x.2.2.2.2.1 x.2.2.2.2.2:=by kernel_rfl
theorem vr07_Sound.ok:FnOk Tryz.prog E167.eT 167 (vr07_Sound.c):=FnOk.walk (E:=E167) (body:=B167) Tryz.func167 rfl (by rfl) Tryz.ntmps167 rfl S167 rfl (fun k x=>vr07_Sound.f x.1 x.2.1 x.2.2.1 x.2.2.2.1 x.2.2.2.2.1 x.2.2.2.2.2) vr07_Sound.G (fun k=>trivial) 4000 vr07_Sound.cuts trivial (fun k x r h=>(vr07_Sound.w k x).trans h) 0
def E195:En:=⟨Tryz.prog,76,Tryz.f195.ntmps,none,false,[]⟩
def S195:Sig:=⟨[.s],[(.int .i64)],false,[.s],[(.int .u64)],false⟩
def B195:Go.Code:=Tryz.f195.body.get!
def vr05_Power.l0:Nat→Int→Int→Int→Option (Int)
 | 0,_,_,_=>none
 | k+1,x0,x3,x4=>if x4 < x0 then (vr05_Power.l0 k x0 (IntKind.u64.wrap (2*x3)) (wrap64 (x4+1))) else (some x3)
def vr05_Power.f (k:Nat) (a0:Int):Option (Int):=vr05_Power.l0 k a0 1 0
--@ok
def vr05_Power.c (k:Nat):Con:=S195.con fun x=>vr05_Power.f k x
def vr05_Power.G (k:Nat):List (Go.FuncId×Cn):=[]
def vr05_Power.cuts:List (Cut (TT S195.sb)):=[⟨[6,4,1,0,1,1],[.sc 0 (.int .i64),.sc 3 (.int .u64),.sc 4 (.int .i64)],fun k x=>vr05_Power.l0 k x.1 x.2.1 x.2.2⟩]
theorem vr05_Power.w0 (k:Nat) (x:ET [.sc 0 (.int .i64),.sc 3 (.int .u64),.sc 4 (.int .i64)]):walk E195 (vr05_Power.G k) (cutsAt E195 k vr05_Power.cuts) (retE E195 Tryz.f195.results.toList S195) 4000 true (stackAt B195 [6,4,1,0,1,1]) (mkE [.sc 0 (.int .i64),.sc 3 (.int .u64),.sc 4 (.int .i64)] x St.nil)=vr05_Power.l0 (k+1) x.1 x.2.1 x.2.2:=by kernel_rfl
theorem vr05_Power.w (k:Nat) (x:TT S195.sa):walk E195 (vr05_Power.G k) (cutsAt E195 k vr05_Power.cuts) (retE E195 Tryz.f195.results.toList S195) 4000 true [([],.code B195)] (St0 S195 x)=vr05_Power.f k x:=by kernel_rfl
theorem vr05_Power.ok (k:Nat):FnOk Tryz.prog E195.eT 195 (vr05_Power.c k):=FnOk.walk (E:=E195) (body:=B195) Tryz.func195 rfl (by rfl) Tryz.ntmps195 rfl S195 rfl (fun k x=>vr05_Power.f k x) vr05_Power.G (fun k=>trivial) 4000 vr05_Power.cuts ⟨⟨fun _=>rfl,fun k x q h=>(vr05_Power.w0 k x).trans h⟩,trivial⟩ (fun k x r h=>(vr05_Power.w k x).trans h) k
def E196:En:=⟨Tryz.prog,76,Tryz.f196.ntmps,none,false,[]⟩
def S196:Sig:=⟨[.s],[.str],false,[.s],[.bool],false⟩
def B196:Go.Code:=Tryz.f196.body.get!
def vr07_some.l0:Nat→ByteArray→Int→Option (Bool)
 | 0,_,_=>none
 | k+1,x0,x3=>if x3 < (nI x0.size) then (if 0≤x3 then (if (bt x0 x3)=49 then (some true) else (vr07_some.l0 k x0 (wrap64 (x3+1)))) else (none)) else (some false)
def vr07_some.f (k:Nat) (a0:ByteArray):Option (Bool):=vr07_some.l0 k a0 0
--@ok
def vr07_some.l0R (k:Nat) (x0:ByteArray) (x3:Int):Option (Bool):=if x3 < (nI x0.size) then (if 0≤x3 then (if x3 < (nI x0.size) then (if (bt x0 x3)=49 then (some true) else (vr07_some.l0 k x0 (wrap64 (x3+1)))) else (none)) else (none)) else (some false)
theorem vr07_some.l0E (k:Nat) (x0:ByteArray) (x3:Int):vr07_some.l0R k x0 x3=vr07_some.l0 (k+1) x0 x3:=by
  unfold vr07_some.l0R
  rw [vr07_some.l0]
  exact iteC (fun h0=>iteC (fun h1=>(if_pos h0).trans (iteC (fun h2=>rfl) (fun h2=>rfl))) (fun h1=>rfl)) (fun h0=>rfl)
def vr07_some.c (k:Nat):Con:=S196.con fun x=>vr07_some.f k x
def vr07_some.G (k:Nat):List (Go.FuncId×Cn):=[]
def vr07_some.cuts:List (Cut (TT S196.sb)):=[⟨[6,4,1,0,1],[.sc 0 (.str),.sc 3 (.int .i64)],fun k x=>vr07_some.l0 k x.1 x.2⟩]
theorem vr07_some.w0 (k:Nat) (x:ET [.sc 0 (.str),.sc 3 (.int .i64)]):walk E196 (vr07_some.G k) (cutsAt E196 k vr07_some.cuts) (retE E196 Tryz.f196.results.toList S196) 4000 true (stackAt B196 [6,4,1,0,1]) (mkE [.sc 0 (.str),.sc 3 (.int .i64)] x St.nil)=vr07_some.l0 (k+1) x.1 x.2:=Eq.trans (b:=vr07_some.l0R k x.1 x.2) (by kernel_rfl) (vr07_some.l0E k x.1 x.2)
theorem vr07_some.w (k:Nat) (x:TT S196.sa):walk E196 (vr07_some.G k) (cutsAt E196 k vr07_some.cuts) (retE E196 Tryz.f196.results.toList S196) 4000 true [([],.code B196)] (St0 S196 x)=vr07_some.f k x:=by kernel_rfl
theorem vr07_some.ok (k:Nat):FnOk Tryz.prog E196.eT 196 (vr07_some.c k):=FnOk.walk (E:=E196) (body:=B196) Tryz.func196 rfl (by rfl) Tryz.ntmps196 rfl S196 rfl (fun k x=>vr07_some.f k x) vr07_some.G (fun k=>trivial) 4000 vr07_some.cuts ⟨⟨fun _=>rfl,fun k x q h=>(vr07_some.w0 k x).trans h⟩,trivial⟩ (fun k x r h=>(vr07_some.w k x).trans h) k
def E216:En:=⟨Tryz.prog,76,Tryz.f216.ntmps,none,false,[]⟩
def S216:Sig:=⟨[.s],[(.int .i64)],false,[.s],[(.int .i64)],false⟩
def B216:Go.Code:=Tryz.f216.body.get!
def vr06_regime.f (a0:Int):Option (Int):=if (wrap64 (4*(wrap64 (Int.tdiv a0 4)))) > a0 then (some (wrap64 ((wrap64 (Int.tdiv a0 4)) - 1))) else (some (wrap64 (Int.tdiv a0 4)))
--@ok
def vr06_regime.c:Con:=S216.con fun x=>vr06_regime.f x
def vr06_regime.G (k:Nat):List (Go.FuncId×Cn):=[]
def vr06_regime.cuts:List (Cut (TT S216.sb)):=[]
theorem vr06_regime.w (k:Nat) (x:TT S216.sa):walk E216 (vr06_regime.G k) (cutsAt E216 k vr06_regime.cuts) (retE E216 Tryz.f216.results.toList S216) 4000 true [([],.code B216)] (St0 S216 x)=vr06_regime.f x:=by kernel_rfl
theorem vr06_regime.ok:FnOk Tryz.prog E216.eT 216 (vr06_regime.c):=FnOk.walk (E:=E216) (body:=B216) Tryz.func216 rfl (by rfl) Tryz.ntmps216 rfl S216 rfl (fun k x=>vr06_regime.f x) vr06_regime.G (fun k=>trivial) 4000 vr06_regime.cuts trivial (fun k x r h=>(vr06_regime.w k x).trans h) 0
end Go.Proofs.YtbpcfhhcoklinaaGreat.Fn
set_option maxRecDepth 100000
noncomputable section
namespace Go.Proofs.YtbpcfhhcoklinaaGreat.Fn
open Go Go.RowKit Go.Proofs.YtbpcfhhcoklinaaGreat.Ab
def E197:En:=⟨Tryz.prog,76,Tryz.f197.ntmps,none,false,[]⟩
def S197:Sig:=⟨[.s],[(.int .i64)],false,[.s],[.str],false⟩
def B197:Go.Code:=Tryz.f197.body.get!
mutual
def vr06_Head.l0:Nat→Int→Int→List Int→Int→Option (ByteArray)
 | 0,_,_,_,_=>none
 | k+1,x0,x3,x4,x5=>if x5≤x3 then (if x4.length < 140737488355328 then (vr06_Head.l0 k x0 x3 (x4++([49]:List Int)) (wrap64 (x5+1))) else (none)) else (vr06_Head.l1 k x0 x3 x4 0)
def vr06_Head.l1:Nat→Int→Int→List Int→Int→Option (ByteArray)
 | 0,_,_,_,_=>none
 | k+1,x0,x3,x4,x6=>if x6 > x3 then (if x4.length < 140737488355328 then (vr06_Head.l1 k x0 x3 (x4++([48]:List Int)) (wrap64 (x6 - 1))) else (none)) else (if x3≥0 then (if x4.length < 140737488355328 then ((vr01_Text.f k (IntKind.u64.wrap (wrap64 (x0 - (wrap64 (4*x3))))) 2).bind fun t101=>(if (((strOfNums (x4++([48]:List Int))).size)+t101.size)≤9223372036854775807 then (some ((strOfNums (x4++([48]:List Int)))++t101)) else (none))) else (none)) else (if x4.length < 140737488355328 then ((vr01_Text.f k (IntKind.u64.wrap (wrap64 (x0 - (wrap64 (4*x3))))) 2).bind fun t102=>(if (((strOfNums (x4++([49]:List Int))).size)+t102.size)≤9223372036854775807 then (some ((strOfNums (x4++([49]:List Int)))++t102)) else (none))) else (none)))
end
def vr06_Head.f (k:Nat) (a0:Int):Option (ByteArray):=(vr06_regime.f a0).bind fun t100=>(vr06_Head.l0 k a0 t100 ([]:List Int) 0)
--@ok
def vr06_Head.c (k:Nat):Con:=S197.con fun x=>vr06_Head.f k x
def vr06_Head.G (k:Nat):List (Go.FuncId×Cn):=[(145,.f (vr01_Text.c k)),(216,.f vr06_regime.c)]
def vr06_Head.cuts:List (Cut (TT S197.sb)):=[⟨[6,4,1,0,1,1,1],[.sc 0 (.int .i64),.sc 3 (.int .i64),.lst 4 .u8 5,.sc 5 (.int .i64)],fun k x=>vr06_Head.l0 k x.1 x.2.1 x.2.2.1 x.2.2.2⟩,⟨[6,4,1,0,1,1,1,1],[.sc 0 (.int .i64),.sc 3 (.int .i64),.lst 4 .u8 5,.sc 6 (.int .i64)],fun k x=>vr06_Head.l1 k x.1 x.2.1 x.2.2.1 x.2.2.2⟩]
theorem vr06_Head.w0 (k:Nat) (x:ET [.sc 0 (.int .i64),.sc 3 (.int .i64),.lst 4 .u8 5,.sc 5 (.int .i64)]):walk E197 (vr06_Head.G k) (cutsAt E197 k vr06_Head.cuts) (retE E197 Tryz.f197.results.toList S197) 4000 true (stackAt B197 [6,4,1,0,1,1,1]) (mkE [.sc 0 (.int .i64),.sc 3 (.int .i64),.lst 4 .u8 5,.sc 5 (.int .i64)] x St.nil)=vr06_Head.l0 (k+1) x.1 x.2.1 x.2.2.1 x.2.2.2:=by kernel_rfl
theorem vr06_Head.w1 (k:Nat) (x:ET [.sc 0 (.int .i64),.sc 3 (.int .i64),.lst 4 .u8 5,.sc 6 (.int .i64)]):walk E197 (vr06_Head.G k) (cutsAt E197 k vr06_Head.cuts) (retE E197 Tryz.f197.results.toList S197) 4000 true (stackAt B197 [6,4,1,0,1,1,1,1]) (mkE [.sc 0 (.int .i64),.sc 3 (.int .i64),.lst 4 .u8 5,.sc 6 (.int .i64)] x St.nil)=vr06_Head.l1 (k+1) x.1 x.2.1 x.2.2.1 x.2.2.2:=by kernel_rfl
theorem vr06_Head.w (k:Nat) (x:TT S197.sa):walk E197 (vr06_Head.G k) (cutsAt E197 k vr06_Head.cuts) (retE E197 Tryz.f197.results.toList S197) 4000 true [([],.code B197)] (St0 S197 x)=vr06_Head.f k x:=by kernel_rfl
theorem vr06_Head.ok (k:Nat):FnOk Tryz.prog E197.eT 197 (vr06_Head.c k):=FnOk.walk (E:=E197) (body:=B197) Tryz.func197 rfl (by rfl) Tryz.ntmps197 rfl S197 rfl (fun k x=>vr06_Head.f k x) vr06_Head.G (fun k=>⟨vr01_Text.ok k,vr06_regime.ok,trivial⟩) 4000 vr06_Head.cuts ⟨⟨fun _=>rfl,fun k x q h=>(vr06_Head.w0 k x).trans h⟩,⟨fun _=>rfl,fun k x q h=>(vr06_Head.w1 k x).trans h⟩,trivial⟩ (fun k x r h=>(vr06_Head.w k x).trans h) k
def E198:En:=⟨Tryz.prog,76,Tryz.f198.ntmps,none,false,[]⟩
def S198:Sig:=⟨[.s,.s],[.str,.bool],false,[.s],[(.int .i64)],false⟩
def B198:Go.Code:=Tryz.f198.body.get!
mutual
def vr07_left.j0:Nat→ByteArray→Bool→Option (Int)
 | 0,_,_=>none
 | k+1,x0,x1=>if 1≤(nI x0.size) then ((vr07_some.f k (x0.extract 1 x0.size)).bind fun t100=>(if 0 < (nI x0.size) then (if (bt x0 0)=49 then (if t100=true then (vr07_left.j1 k x0 x1 t100 true) else (vr07_left.j1 k x0 x1 t100 x1)) else (vr07_left.j1 k x0 x1 t100 false)) else (none))) else (none)
def vr07_left.j1:Nat→ByteArray→Bool→Bool→Bool→Option (Int)
 | 0,_,_,_,_=>none
 | k+1,x0,x1,x5,x11=>if x11=true then (some 3) else (if 0 < (nI x0.size) then (if (bt x0 0)=49 then (some 2) else (if x5=true then (some 1) else (if x1=true then (some 1) else (some 0)))) else (none))
end
def vr07_left.f (k:Nat) (a0:ByteArray) (a1:Bool):Option (Int):=if (a0.toList==([]:List UInt8))=true then (vr07_left.j0 k (⟨#[48]⟩:ByteArray) a1) else (vr07_left.j0 k a0 a1)
--@ok
def vr07_left.c (k:Nat):Con:=S198.con fun x=>vr07_left.f k x.1 x.2
def vr07_left.G (k:Nat):List (Go.FuncId×Cn):=[(196,.f (vr07_some.c k))]
def vr07_left.cuts:List (Cut (TT S198.sb)):=[⟨[1,1],[.sc 0 (.str),.sc 1 (.bool)],fun k x=>vr07_left.j0 k x.1 x.2⟩,⟨[1,4,0,1,1,1],[.sc 0 (.str),.sc 1 (.bool),.sc 5 (.bool),.sc 11 (.bool)],fun k x=>vr07_left.j1 k x.1 x.2.1 x.2.2.1 x.2.2.2⟩]
theorem vr07_left.w0 (k:Nat) (x:ET [.sc 0 (.str),.sc 1 (.bool)]):walk E198 (vr07_left.G k) (cutsAt E198 k vr07_left.cuts) (retE E198 Tryz.f198.results.toList S198) 4000 true (stackAt B198 [1,1]) (mkE [.sc 0 (.str),.sc 1 (.bool)] x St.nil)=vr07_left.j0 (k+1) x.1 x.2:=by kernel_rfl
theorem vr07_left.w1 (k:Nat) (x:ET [.sc 0 (.str),.sc 1 (.bool),.sc 5 (.bool),.sc 11 (.bool)]):walk E198 (vr07_left.G k) (cutsAt E198 k vr07_left.cuts) (retE E198 Tryz.f198.results.toList S198) 4000 true (stackAt B198 [1,4,0,1,1,1]) (mkE [.sc 0 (.str),.sc 1 (.bool),.sc 5 (.bool),.sc 11 (.bool)] x St.nil)=vr07_left.j1 (k+1) x.1 x.2.1 x.2.2.1 x.2.2.2:=by kernel_rfl
theorem vr07_left.w (k:Nat) (x:TT S198.sa):walk E198 (vr07_left.G k) (cutsAt E198 k vr07_left.cuts) (retE E198 Tryz.f198.results.toList S198) 4000 true [([],.code B198)] (St0 S198 x)=vr07_left.f k x.1 x.2:=by kernel_rfl
theorem vr07_left.ok (k:Nat):FnOk Tryz.prog E198.eT 198 (vr07_left.c k):=FnOk.walk (E:=E198) (body:=B198) Tryz.func198 rfl (by rfl) Tryz.ntmps198 rfl S198 rfl (fun k x=>vr07_left.f k x.1 x.2) vr07_left.G (fun k=>⟨vr07_some.ok k,trivial⟩) 4000 vr07_left.cuts ⟨⟨fun _=>rfl,fun k x q h=>(vr07_left.w0 k x).trans h⟩,⟨fun _=>rfl,fun k x q h=>(vr07_left.w1 k x).trans h⟩,trivial⟩ (fun k x r h=>(vr07_left.w k x).trans h) k
def E160:En:=⟨Tryz.prog,76,Tryz.f160.ntmps,none,false,[]⟩
def S160:Sig:=⟨[.s,.g 6],[(.int .i64),(.int .i64),.bool,(.int .i64),(.int .u64),(.int .u64),.bool],true,[.s,.s,.s],[(.int .u64),(.int .i64),(.int .i64)],false⟩
def B160:Go.Code:=Tryz.f160.body.get!
mutual
def vr07_Cut.j0:Nat→Int→Option (Int×Int×Int)
 | 0,_=>none
 | k+1,x9=>some (x9,0,0)
def vr07_Cut.j1:Nat→Int→ByteArray→Bool→Int→Bool→Option (Int×Int×Int)
 | 0,_,_,_,_,_=>none
 | k+1,x0,x10,x11,x3002,x3005=>if x3002≥(wrap64 ((wrap64 (4*x0)) - 8)) then ((vr05_Power.f k (wrap64 (x0 - 1))).bind fun t106=>(some (IntKind.u64.wrap (t106 - 1),0,0))) else (if x3002 < (wrap64 (-(wrap64 ((wrap64 (4*x0)) - 8)))) then (vr07_Cut.j2 k x0 x10 true x3002 x3005) else (if x3002=(wrap64 (-(wrap64 ((wrap64 (4*x0)) - 8)))) then (vr07_Cut.j2 k x0 x10 x11 x3002 x3005) else (vr07_Cut.j2 k x0 x10 false x3002 x3005)))
def vr07_Cut.j2:Nat→Int→ByteArray→Bool→Int→Bool→Option (Int×Int×Int)
 | 0,_,_,_,_,_=>none
 | k+1,x0,x10,x73,x3002,x3005=>if x73=true then (some (1,0,0)) else ((vr06_Head.f k x3002).bind fun t107=>(if (t107.size+x10.size)≤9223372036854775807 then (if 0≤(wrap64 (x0 - 1)) then (if (wrap64 (x0 - 1))≤(nI ((t107++x10).size)) then ((vr01_Number.f k ((t107++x10).extract 0 (((wrap64 (x0 - 1)):Int).toNat))).bind fun t108=>((vr07_left.f k ((t107++x10).extract (((wrap64 (x0 - 1)):Int).toNat) ((t107++x10).size)) x3005).bind fun t109=>(some (t108,t109,0)))) else (none)) else (none)) else (none)))
end
def vr07_Cut.f (k:Nat) (a0:Int) (a1_0:Int) (a1_1:Bool) (a1_2:Int) (a1_3:Int) (a1_4:Int) (a1_5:Bool):Option (Int×Int×Int):=(vr05_Is.f a0).bind fun t100=>((vr07_Sound.f a1_0 a1_1 a1_2 a1_3 a1_4 a1_5).bind fun t101=>(if t100=true then (if t101=true then (if a1_0=1 then ((vr01_Text.f k a1_3 64).bind fun t102=>(if 1≤(nI t102.size) then ((vr01_Text.f k a1_4 64).bind fun t103=>(if (((t102.extract 1 t102.size).size)+t103.size)≤9223372036854775807 then (if a1_5=true then (vr07_Cut.j1 k a0 ((t102.extract 1 t102.size)++t103) false a1_2 a1_5) else ((vr07_some.f k ((t102.extract 1 t102.size)++t103)).bind fun t104=>(vr07_Cut.j1 k a0 ((t102.extract 1 t102.size)++t103) (!t104) a1_2 a1_5))) else (none))) else (none))) else (if a1_0=2 then ((vr05_Power.f k (wrap64 (a0 - 1))).bind fun t105=>(vr07_Cut.j0 k t105)) else (vr07_Cut.j0 k 0))) else (some (0,0,1))) else (some (0,0,2))))
--@ok
def vr07_Cut.j2R (k:Nat) (x0:Int) (x10:ByteArray) (x73:Bool) (x3002:Int) (x3005:Bool):Option (Int×Int×Int):=if x73=true then (some (1,0,0)) else ((vr06_Head.f k x3002).bind fun t107=>(if (t107.size+x10.size)≤9223372036854775807 then (if 0≤(wrap64 (x0 - 1)) then (if (wrap64 (x0 - 1))≤(nI ((t107++x10).size)) then (if 0≤(wrap64 (x0 - 1)) then (if (wrap64 (x0 - 1))≤(nI ((t107++x10).size)) then ((vr01_Number.f k ((t107++x10).extract 0 (((wrap64 (x0 - 1)):Int).toNat))).bind fun t108=>((vr07_left.f k ((t107++x10).extract (((wrap64 (x0 - 1)):Int).toNat) ((t107++x10).size)) x3005).bind fun t109=>(some (t108,t109,0)))) else (none)) else (none)) else (none)) else (none)) else (none)))
theorem vr07_Cut.j2E (k:Nat) (x0:Int) (x10:ByteArray) (x73:Bool) (x3002:Int) (x3005:Bool):vr07_Cut.j2R k x0 x10 x73 x3002 x3005=vr07_Cut.j2 (k+1) x0 x10 x73 x3002 x3005:=by
  unfold vr07_Cut.j2R
  rw [vr07_Cut.j2]
  exact iteC (fun h0=>rfl) (fun h0=>bindC fun _=>iteC (fun h1=>iteC (fun h2=>iteC (fun h3=>(if_pos h2).trans ((if_pos h3).trans (bindC fun _=>bindC fun _=>rfl))) (fun h3=>rfl)) (fun h2=>rfl)) (fun h1=>rfl))
def vr07_Cut.c (k:Nat):Con:=S160.con fun x=>vr07_Cut.f k x.1 x.2.1 x.2.2.1 x.2.2.2.1 x.2.2.2.2.1 x.2.2.2.2.2.1 x.2.2.2.2.2.2
def vr07_Cut.G (k:Nat):List (Go.FuncId×Cn):=[(47,.f vr05_Is.c),(144,.f (vr01_Number.c k)),(145,.f (vr01_Text.c k)),(167,.f vr07_Sound.c),(195,.f (vr05_Power.c k)),(196,.f (vr07_some.c k)),(197,.f (vr06_Head.c k)),(198,.f (vr07_left.c k))]
def vr07_Cut.cuts:List (Cut (TT S160.sb)):=[⟨[1,1,2,1,0,1,1,1,1,1],[.sc 9 (.int .u64)],fun k x=>vr07_Cut.j0 k x⟩,⟨[1,1,1,1,1,1,1,1],[.sc 0 (.int .i64),.sc 10 (.str),.sc 11 (.bool),.box 3 120 [.int .i64,.bool,.int .i64,.int .u64,.int .u64,.bool]],fun k x=>vr07_Cut.j1 k x.1 x.2.1 x.2.2.1 x.2.2.2.2.2.1 x.2.2.2.2.2.2.2.2⟩,⟨[1,0,1,1,1,1,1,1,1,1,1,1],[.sc 0 (.int .i64),.sc 10 (.str),.sc 73 (.bool),.box 3 120 [.int .i64,.bool,.int .i64,.int .u64,.int .u64,.bool]],fun k x=>vr07_Cut.j2 k x.1 x.2.1 x.2.2.1 x.2.2.2.2.2.1 x.2.2.2.2.2.2.2.2⟩]
theorem vr07_Cut.w0 (k:Nat) (x:ET [.sc 9 (.int .u64)]):walk E160 (vr07_Cut.G k) (cutsAt E160 k vr07_Cut.cuts) (retE E160 Tryz.f160.results.toList S160) 4000 true (stackAt B160 [1,1,2,1,0,1,1,1,1,1]) (mkE [.sc 9 (.int .u64)] x St.nil)=vr07_Cut.j0 (k+1) x:=by kernel_rfl
theorem vr07_Cut.w1 (k:Nat) (x:ET [.sc 0 (.int .i64),.sc 10 (.str),.sc 11 (.bool),.box 3 120 [.int .i64,.bool,.int .i64,.int .u64,.int .u64,.bool]]):walk E160 (vr07_Cut.G k) (cutsAt E160 k vr07_Cut.cuts) (retE E160 Tryz.f160.results.toList S160) 4000 true (stackAt B160 [1,1,1,1,1,1,1,1]) (mkE [.sc 0 (.int .i64),.sc 10 (.str),.sc 11 (.bool),.box 3 120 [.int .i64,.bool,.int .i64,.int .u64,.int .u64,.bool]] x St.nil)=vr07_Cut.j1 (k+1) x.1 x.2.1 x.2.2.1 x.2.2.2.2.2.1 x.2.2.2.2.2.2.2.2:=by kernel_rfl
theorem vr07_Cut.w2 (k:Nat) (x:ET [.sc 0 (.int .i64),.sc 10 (.str),.sc 73 (.bool),.box 3 120 [.int .i64,.bool,.int .i64,.int .u64,.int .u64,.bool]]):walk E160 (vr07_Cut.G k) (cutsAt E160 k vr07_Cut.cuts) (retE E160 Tryz.f160.results.toList S160) 4000 true (stackAt B160 [1,0,1,1,1,1,1,1,1,1,1,1]) (mkE [.sc 0 (.int .i64),.sc 10 (.str),.sc 73 (.bool),.box 3 120 [.int .i64,.bool,.int .i64,.int .u64,.int .u64,.bool]] x St.nil)=vr07_Cut.j2 (k+1) x.1 x.2.1 x.2.2.1 x.2.2.2.2.2.1 x.2.2.2.2.2.2.2.2:=Eq.trans (b:=vr07_Cut.j2R k x.1 x.2.1 x.2.2.1 x.2.2.2.2.2.1 x.2.2.2.2.2.2.2.2) (by kernel_rfl) (vr07_Cut.j2E k x.1 x.2.1 x.2.2.1 x.2.2.2.2.2.1 x.2.2.2.2.2.2.2.2)
theorem vr07_Cut.w (k:Nat) (x:TT S160.sa):walk E160 (vr07_Cut.G k) (cutsAt E160 k vr07_Cut.cuts) (retE E160 Tryz.f160.results.toList S160) 4000 true [([],.code B160)] (St0 S160 x)=vr07_Cut.f k x.1 x.2.1 x.2.2.1 x.2.2.2.1 x.2.2.2.2.1 x.2.2.2.2.2.1 x.2.2.2.2.2.2:=by kernel_rfl
theorem vr07_Cut.ok (k:Nat):FnOk Tryz.prog E160.eT 160 (vr07_Cut.c k):=FnOk.walk (E:=E160) (body:=B160) Tryz.func160 rfl (by rfl) Tryz.ntmps160 rfl S160 rfl (fun k x=>vr07_Cut.f k x.1 x.2.1 x.2.2.1 x.2.2.2.1 x.2.2.2.2.1 x.2.2.2.2.2.1 x.2.2.2.2.2.2) vr07_Cut.G (fun k=>⟨vr05_Is.ok,vr01_Number.ok k,vr01_Text.ok k,vr07_Sound.ok,vr05_Power.ok k,vr07_some.ok k,vr06_Head.ok k,vr07_left.ok k,trivial⟩) 4000 vr07_Cut.cuts ⟨⟨fun _=>rfl,fun k x q h=>(vr07_Cut.w0 k x).trans h⟩,⟨fun _=>rfl,fun k x q h=>(vr07_Cut.w1 k x).trans h⟩,⟨fun _=>rfl,fun k x q h=>(vr07_Cut.w2 k x).trans h⟩,trivial⟩ (fun k x r h=>(vr07_Cut.w k x).trans h) k
def E161:En:=⟨Tryz.prog,76,Tryz.f161.ntmps,none,false,[]⟩
def S161:Sig:=⟨[.s,.s],[(.int .i64),(.int .u64)],false,[.s],[(.int .u64)],false⟩
def B161:Go.Code:=Tryz.f161.body.get!
def vr06_Neg.f (k:Nat) (a0:Int) (a1:Int):Option (Int):=(vr06_Fold.f k a0 (IntKind.u64.wrap (-a1))).bind fun t100=>(some t100)
--@ok
def vr06_Neg.c (k:Nat):Con:=S161.con fun x=>vr06_Neg.f k x.1 x.2
def vr06_Neg.G (k:Nat):List (Go.FuncId×Cn):=[(48,.f (vr06_Fold.c k))]
def vr06_Neg.cuts:List (Cut (TT S161.sb)):=[]
theorem vr06_Neg.w (k:Nat) (x:TT S161.sa):walk E161 (vr06_Neg.G k) (cutsAt E161 k vr06_Neg.cuts) (retE E161 Tryz.f161.results.toList S161) 4000 true [([],.code B161)] (St0 S161 x)=vr06_Neg.f k x.1 x.2:=by kernel_rfl
theorem vr06_Neg.ok (k:Nat):FnOk Tryz.prog E161.eT 161 (vr06_Neg.c k):=FnOk.walk (E:=E161) (body:=B161) Tryz.func161 rfl (by rfl) Tryz.ntmps161 rfl S161 rfl (fun k x=>vr06_Neg.f k x.1 x.2) vr06_Neg.G (fun k=>⟨vr06_Fold.ok k,trivial⟩) 4000 vr06_Neg.cuts trivial (fun k x r h=>(vr06_Neg.w k x).trans h) k
def E117:En:=⟨Tryz.prog,76,Tryz.f117.ntmps,none,false,[]⟩
def S117:Sig:=⟨[.s,.g 6],[(.int .i64),(.int .i64),.bool,(.int .i64),(.int .u64),(.int .u64),.bool],true,[.s,.s],[(.int .u64),(.int .i64)],false⟩
def B117:Go.Code:=Tryz.f117.body.get!
def vr07_Rounds.j0:Nat→Int→Int→Bool→Bool→Option (Int×Int)
 | 0,_,_,_,_=>none
 | k+1,x0,x6,x29,x3001=>if x29=true then (if x3001=true then ((vr06_Neg.f k x0 (IntKind.u64.wrap (x6+1))).bind fun t101=>(some (t101,0))) else (some (IntKind.u64.wrap (x6+1),0))) else (if x3001=true then ((vr06_Neg.f k x0 x6).bind fun t102=>(some (t102,0))) else (some (x6,0)))
def vr07_Rounds.f (k:Nat) (a0:Int) (a1_0:Int) (a1_1:Bool) (a1_2:Int) (a1_3:Int) (a1_4:Int) (a1_5:Bool):Option (Int×Int):=(vr07_Cut.f k a0 a1_0 a1_1 a1_2 a1_3 a1_4 a1_5).bind fun t100=>(if t100.2.2=0 then (if t100.2.1=3 then (vr07_Rounds.j0 k a0 t100.1 true a1_1) else (if t100.2.1=2 then (vr07_Rounds.j0 k a0 t100.1 ((Int.tmod t100.1 2)==1) a1_1) else (vr07_Rounds.j0 k a0 t100.1 false a1_1))) else (some (0,t100.2.2)))
--@ok
def vr07_Rounds.c (k:Nat):Con:=S117.con fun x=>vr07_Rounds.f k x.1 x.2.1 x.2.2.1 x.2.2.2.1 x.2.2.2.2.1 x.2.2.2.2.2.1 x.2.2.2.2.2.2
def vr07_Rounds.G (k:Nat):List (Go.FuncId×Cn):=[(160,.f (vr07_Cut.c k)),(161,.f (vr06_Neg.c k))]
def vr07_Rounds.cuts:List (Cut (TT S117.sb)):=[⟨[1,0,1,1,1],[.sc 0 (.int .i64),.sc 6 (.int .u64),.sc 29 (.bool),.box 3 120 [.int .i64,.bool,.int .i64,.int .u64,.int .u64,.bool]],fun k x=>vr07_Rounds.j0 k x.1 x.2.1 x.2.2.1 x.2.2.2.2.1⟩]
theorem vr07_Rounds.w0 (k:Nat) (x:ET [.sc 0 (.int .i64),.sc 6 (.int .u64),.sc 29 (.bool),.box 3 120 [.int .i64,.bool,.int .i64,.int .u64,.int .u64,.bool]]):walk E117 (vr07_Rounds.G k) (cutsAt E117 k vr07_Rounds.cuts) (retE E117 Tryz.f117.results.toList S117) 4000 true (stackAt B117 [1,0,1,1,1]) (mkE [.sc 0 (.int .i64),.sc 6 (.int .u64),.sc 29 (.bool),.box 3 120 [.int .i64,.bool,.int .i64,.int .u64,.int .u64,.bool]] x St.nil)=vr07_Rounds.j0 (k+1) x.1 x.2.1 x.2.2.1 x.2.2.2.2.1:=by kernel_rfl
theorem vr07_Rounds.w (k:Nat) (x:TT S117.sa):walk E117 (vr07_Rounds.G k) (cutsAt E117 k vr07_Rounds.cuts) (retE E117 Tryz.f117.results.toList S117) 4000 true [([],.code B117)] (St0 S117 x)=vr07_Rounds.f k x.1 x.2.1 x.2.2.1 x.2.2.2.1 x.2.2.2.2.1 x.2.2.2.2.2.1 x.2.2.2.2.2.2:=by kernel_rfl
theorem vr07_Rounds.ok (k:Nat):FnOk Tryz.prog E117.eT 117 (vr07_Rounds.c k):=FnOk.walk (E:=E117) (body:=B117) Tryz.func117 rfl (by rfl) Tryz.ntmps117 rfl S117 rfl (fun k x=>vr07_Rounds.f k x.1 x.2.1 x.2.2.1 x.2.2.2.1 x.2.2.2.2.1 x.2.2.2.2.2.1 x.2.2.2.2.2.2) vr07_Rounds.G (fun k=>⟨vr07_Cut.ok k,vr06_Neg.ok k,trivial⟩) 4000 vr07_Rounds.cuts ⟨⟨fun _=>rfl,fun k x q h=>(vr07_Rounds.w0 k x).trans h⟩,trivial⟩ (fun k x r h=>(vr07_Rounds.w k x).trans h) k
def E76:En:=⟨Tryz.prog,76,Tryz.f76.ntmps,none,false,[]⟩
def S76:Sig:=⟨[.s,.g 6],[(.int .i64),(.int .i64),.bool,(.int .i64),(.int .u64),(.int .u64),.bool],false,[.s],[(.int .u64)],false⟩
def B76:Go.Code:=Tryz.f76.body.get!
def vr07_Round.f (k:Nat) (a0:Int) (a1_0:Int) (a1_1:Bool) (a1_2:Int) (a1_3:Int) (a1_4:Int) (a1_5:Bool):Option (Int):=(vr07_Rounds.f k a0 a1_0 a1_1 a1_2 a1_3 a1_4 a1_5).bind fun t100=>(some t100.1)
--@ok
def vr07_Round.c (k:Nat):Con:=S76.con fun x=>vr07_Round.f k x.1 x.2.1 x.2.2.1 x.2.2.2.1 x.2.2.2.2.1 x.2.2.2.2.2.1 x.2.2.2.2.2.2
def vr07_Round.G (k:Nat):List (Go.FuncId×Cn):=[(117,.f (vr07_Rounds.c k))]
def vr07_Round.cuts:List (Cut (TT S76.sb)):=[]
theorem vr07_Round.w (k:Nat) (x:TT S76.sa):walk E76 (vr07_Round.G k) (cutsAt E76 k vr07_Round.cuts) (retE E76 Tryz.f76.results.toList S76) 4000 true [([],.code B76)] (St0 S76 x)=vr07_Round.f k x.1 x.2.1 x.2.2.1 x.2.2.2.1 x.2.2.2.2.1 x.2.2.2.2.2.1 x.2.2.2.2.2.2:=by kernel_rfl
theorem vr07_Round.ok (k:Nat):FnOk Tryz.prog E76.eT 76 (vr07_Round.c k):=FnOk.walk (E:=E76) (body:=B76) Tryz.func76 rfl (by rfl) Tryz.ntmps76 rfl S76 rfl (fun k x=>vr07_Round.f k x.1 x.2.1 x.2.2.1 x.2.2.2.1 x.2.2.2.2.1 x.2.2.2.2.2.1 x.2.2.2.2.2.2) vr07_Round.G (fun k=>⟨vr07_Rounds.ok k,trivial⟩) 4000 vr07_Round.cuts trivial (fun k x r h=>(vr07_Round.w k x).trans h) k
def E190:En:=⟨Tryz.prog,76,Tryz.f190.ntmps,none,false,[]⟩
def S190:Sig:=⟨[.s,.s],[(.int .i64),(.int .u64)],true,[.s,.s],[(.int .i64),(.int .i64)],false⟩
def B190:Go.Code:=Tryz.f190.body.get!
def vr05_Kind.f (k:Nat) (a0:Int) (a1:Int):Option (Int×Int):=(vr05_Fold.f k a0 a1).bind fun t100=>(if t100.2=0 then (if t100.1=0 then (some (0,0)) else ((vr05_Power.f k (wrap64 (a0 - 1))).bind fun t101=>(if t100.1=t101 then (some (2,0)) else (some (1,0))))) else (some (0,t100.2)))
--@ok
def vr05_Kind.c (k:Nat):Con:=S190.con fun x=>vr05_Kind.f k x.1 x.2
def vr05_Kind.G (k:Nat):List (Go.FuncId×Cn):=[(98,.f (vr05_Fold.c k)),(195,.f (vr05_Power.c k))]
def vr05_Kind.cuts:List (Cut (TT S190.sb)):=[]
theorem vr05_Kind.w (k:Nat) (x:TT S190.sa):walk E190 (vr05_Kind.G k) (cutsAt E190 k vr05_Kind.cuts) (retE E190 Tryz.f190.results.toList S190) 4000 true [([],.code B190)] (St0 S190 x)=vr05_Kind.f k x.1 x.2:=by kernel_rfl
theorem vr05_Kind.ok (k:Nat):FnOk Tryz.prog E190.eT 190 (vr05_Kind.c k):=FnOk.walk (E:=E190) (body:=B190) Tryz.func190 rfl (by rfl) Tryz.ntmps190 rfl S190 rfl (fun k x=>vr05_Kind.f k x.1 x.2) vr05_Kind.G (fun k=>⟨vr05_Fold.ok k,vr05_Power.ok k,trivial⟩) 4000 vr05_Kind.cuts trivial (fun k x r h=>(vr05_Kind.w k x).trans h) k
def E211:En:=⟨Tryz.prog,76,Tryz.f211.ntmps,none,false,[]⟩
def S211:Sig:=⟨[.s,.s],[(.int .i64),(.int .u64)],false,[.s],[.str],false⟩
def B211:Go.Code:=Tryz.f211.body.get!
def vr06_String.f (k:Nat) (a0:Int) (a1:Int):Option (ByteArray):=(vr01_Text.f k a1 a0).bind fun t100=>(if 0 < (nI t100.size) then (if (bt t100 0)=49 then ((vr01_Text.f k (IntKind.u64.wrap (-a1)) a0).bind fun t101=>(if 1≤(nI t101.size) then (some (t101.extract 1 t101.size)) else (none))) else (if 1≤(nI t100.size) then (some (t100.extract 1 t100.size)) else (none))) else (none))
--@ok
def vr06_String.c (k:Nat):Con:=S211.con fun x=>vr06_String.f k x.1 x.2
def vr06_String.G (k:Nat):List (Go.FuncId×Cn):=[(145,.f (vr01_Text.c k))]
def vr06_String.cuts:List (Cut (TT S211.sb)):=[]
theorem vr06_String.w (k:Nat) (x:TT S211.sa):walk E211 (vr06_String.G k) (cutsAt E211 k vr06_String.cuts) (retE E211 Tryz.f211.results.toList S211) 4000 true [([],.code B211)] (St0 S211 x)=vr06_String.f k x.1 x.2:=by kernel_rfl
theorem vr06_String.ok (k:Nat):FnOk Tryz.prog E211.eT 211 (vr06_String.c k):=FnOk.walk (E:=E211) (body:=B211) Tryz.func211 rfl (by rfl) Tryz.ntmps211 rfl S211 rfl (fun k x=>vr06_String.f k x.1 x.2) vr06_String.G (fun k=>⟨vr01_Text.ok k,trivial⟩) 4000 vr06_String.cuts trivial (fun k x r h=>(vr06_String.w k x).trans h) k
def E212:En:=⟨Tryz.prog,76,Tryz.f212.ntmps,none,false,[]⟩
def S212:Sig:=⟨[.s],[.str],false,[.s],[(.int .i64)],false⟩
def B212:Go.Code:=Tryz.f212.body.get!
def vr06_run.l0:Nat→ByteArray→Int→Option (Int)
 | 0,_,_=>none
 | k+1,x0,x3=>if x3 < (nI x0.size) then (if 0≤x3 then (if 0 < (nI x0.size) then (if (bt x0 x3)=(bt x0 0) then (vr06_run.l0 k x0 (wrap64 (x3+1))) else (some x3)) else (none)) else (none)) else (some x3)
def vr06_run.f (k:Nat) (a0:ByteArray):Option (Int):=vr06_run.l0 k a0 0
--@ok
def vr06_run.l0R (k:Nat) (x0:ByteArray) (x3:Int):Option (Int):=if x3 < (nI x0.size) then (if 0≤x3 then (if x3 < (nI x0.size) then (if 0 < (nI x0.size) then (if (bt x0 x3)=(bt x0 0) then (vr06_run.l0 k x0 (wrap64 (x3+1))) else (some x3)) else (none)) else (none)) else (none)) else (some x3)
theorem vr06_run.l0E (k:Nat) (x0:ByteArray) (x3:Int):vr06_run.l0R k x0 x3=vr06_run.l0 (k+1) x0 x3:=by
  unfold vr06_run.l0R
  rw [vr06_run.l0]
  exact iteC (fun h0=>iteC (fun h1=>(if_pos h0).trans (iteC (fun h2=>iteC (fun h3=>rfl) (fun h3=>rfl)) (fun h2=>rfl))) (fun h1=>rfl)) (fun h0=>rfl)
def vr06_run.c (k:Nat):Con:=S212.con fun x=>vr06_run.f k x
def vr06_run.G (k:Nat):List (Go.FuncId×Cn):=[]
def vr06_run.cuts:List (Cut (TT S212.sb)):=[⟨[6,4,0,1,1],[.sc 0 (.str),.sc 3 (.int .i64)],fun k x=>vr06_run.l0 k x.1 x.2⟩]
theorem vr06_run.w0 (k:Nat) (x:ET [.sc 0 (.str),.sc 3 (.int .i64)]):walk E212 (vr06_run.G k) (cutsAt E212 k vr06_run.cuts) (retE E212 Tryz.f212.results.toList S212) 4000 true (stackAt B212 [6,4,0,1,1]) (mkE [.sc 0 (.str),.sc 3 (.int .i64)] x St.nil)=vr06_run.l0 (k+1) x.1 x.2:=Eq.trans (b:=vr06_run.l0R k x.1 x.2) (by kernel_rfl) (vr06_run.l0E k x.1 x.2)
theorem vr06_run.w (k:Nat) (x:TT S212.sa):walk E212 (vr06_run.G k) (cutsAt E212 k vr06_run.cuts) (retE E212 Tryz.f212.results.toList S212) 4000 true [([],.code B212)] (St0 S212 x)=vr06_run.f k x:=by kernel_rfl
theorem vr06_run.ok (k:Nat):FnOk Tryz.prog E212.eT 212 (vr06_run.c k):=FnOk.walk (E:=E212) (body:=B212) Tryz.func212 rfl (by rfl) Tryz.ntmps212 rfl S212 rfl (fun k x=>vr06_run.f k x) vr06_run.G (fun k=>trivial) 4000 vr06_run.cuts ⟨⟨fun _=>rfl,fun k x q h=>(vr06_run.w0 k x).trans h⟩,trivial⟩ (fun k x r h=>(vr06_run.w k x).trans h) k
def E191:En:=⟨Tryz.prog,76,Tryz.f191.ntmps,none,false,[]⟩
def S191:Sig:=⟨[.s,.s],[(.int .i64),(.int .u64)],true,[.g 8,.s],[.bool,.bool,(.int .i64),(.int .i64),(.int .i64),(.int .i64),(.int .i64),(.int .u64),(.int .i64)],false⟩
def B191:Go.Code:=Tryz.f191.body.get!
mutual
def vr06_Split.j0:Nat→Int→Int→Int→Bool→Option (Bool×Bool×Int×Int×Int×Int×Int×Int×Int)
 | 0,_,_,_,_=>none
 | k+1,x0,x1,x7,x23=>if x23=true then (some (false,false,0,0,0,0,0,0,x7)) else ((vr06_String.f k x0 x1).bind fun t101=>(if 0 < (nI t101.size) then ((vr01_Text.f k x1 x0).bind fun t102=>(if 0 < (nI t102.size) then ((vr06_run.f k t101).bind fun t103=>(if (bt t101 0)=49 then (vr06_Split.j1 k t101 ((bt t102 0)==49) ((bt t101 0)==49) t103 (wrap64 (t103 - 1))) else (vr06_Split.j1 k t101 ((bt t102 0)==49) ((bt t101 0)==49) t103 (wrap64 (-t103))))) else (none))) else (none)))
def vr06_Split.j1:Nat→ByteArray→Bool→Bool→Int→Int→Option (Bool×Bool×Int×Int×Int×Int×Int×Int×Int)
 | 0,_,_,_,_,_=>none
 | k+1,x8,x9000,x9001,x9002,x9003=>if x9002 < (nI x8.size) then (if 0≤(wrap64 (x9002+1)) then (if (wrap64 (x9002+1))≤(nI x8.size) then (vr06_Split.j2 k (x8.extract (((wrap64 (x9002+1)):Int).toNat) x8.size) x9000 x9001 x9002 x9003) else (none)) else (none)) else (vr06_Split.j2 k (⟨#[]⟩:ByteArray) x9000 x9001 x9002 x9003)
def vr06_Split.j2:Nat→ByteArray→Bool→Bool→Int→Int→Option (Bool×Bool×Int×Int×Int×Int×Int×Int×Int)
 | 0,_,_,_,_,_=>none
 | k+1,x10,x9000,x9001,x9002,x9003=>if (nI x10.size) > 2 then (if 2≤(nI x10.size) then (if (((x10.extract 0 2).size)+2)≤9223372036854775807 then (if 2≤(nI (((x10.extract 0 2)++(⟨#[48,48]⟩:ByteArray)).size)) then ((vr01_Number.f k (((x10.extract 0 2)++(⟨#[48,48]⟩:ByteArray)).extract 0 2)).bind fun t104=>((vr01_Number.f k (x10.extract 2 x10.size)).bind fun t105=>(some (x9000,x9001,x9002,x9003,2,wrap64 t104,wrap64 ((nI x10.size) - 2),t105,0)))) else (none)) else (none)) else (none)) else (if (nI x10.size)≤(nI x10.size) then (if (((x10.extract 0 (((nI x10.size):Int).toNat)).size)+2)≤9223372036854775807 then (if 2≤(nI (((x10.extract 0 (((nI x10.size):Int).toNat))++(⟨#[48,48]⟩:ByteArray)).size)) then ((vr01_Number.f k (((x10.extract 0 (((nI x10.size):Int).toNat))++(⟨#[48,48]⟩:ByteArray)).extract 0 2)).bind fun t106=>((vr01_Number.f k (x10.extract (((nI x10.size):Int).toNat) x10.size)).bind fun t107=>(some (x9000,x9001,x9002,x9003,nI x10.size,wrap64 t106,wrap64 ((nI x10.size) - (nI x10.size)),t107,0)))) else (none)) else (none)) else (none))
end
def vr06_Split.f (k:Nat) (a0:Int) (a1:Int):Option (Bool×Bool×Int×Int×Int×Int×Int×Int×Int):=(vr05_Kind.f k a0 a1).bind fun t100=>(if t100.2=0 then (vr06_Split.j0 k a0 a1 t100.2 (t100.1 != 1)) else (vr06_Split.j0 k a0 a1 t100.2 true))
--@ok
def vr06_Split.j2R (k:Nat) (x10:ByteArray) (x9000:Bool) (x9001:Bool) (x9002:Int) (x9003:Int):Option (Bool×Bool×Int×Int×Int×Int×Int×Int×Int):=if (nI x10.size) > 2 then (if 2≤(nI x10.size) then (if (((x10.extract 0 2).size)+2)≤9223372036854775807 then (if 2≤(nI (((x10.extract 0 2)++(⟨#[48,48]⟩:ByteArray)).size)) then ((vr01_Number.f k (((x10.extract 0 2)++(⟨#[48,48]⟩:ByteArray)).extract 0 2)).bind fun t104=>(if 2≤(nI x10.size) then ((vr01_Number.f k (x10.extract 2 x10.size)).bind fun t105=>(some (x9000,x9001,x9002,x9003,2,wrap64 t104,wrap64 ((nI x10.size) - 2),t105,0))) else (none))) else (none)) else (none)) else (none)) else (if (nI x10.size)≤(nI x10.size) then (if (((x10.extract 0 (((nI x10.size):Int).toNat)).size)+2)≤9223372036854775807 then (if 2≤(nI (((x10.extract 0 (((nI x10.size):Int).toNat))++(⟨#[48,48]⟩:ByteArray)).size)) then ((vr01_Number.f k (((x10.extract 0 (((nI x10.size):Int).toNat))++(⟨#[48,48]⟩:ByteArray)).extract 0 2)).bind fun t106=>(if (nI x10.size)≤(nI x10.size) then ((vr01_Number.f k (x10.extract (((nI x10.size):Int).toNat) x10.size)).bind fun t107=>(some (x9000,x9001,x9002,x9003,nI x10.size,wrap64 t106,wrap64 ((nI x10.size) - (nI x10.size)),t107,0))) else (none))) else (none)) else (none)) else (none))
theorem vr06_Split.j2E (k:Nat) (x10:ByteArray) (x9000:Bool) (x9001:Bool) (x9002:Int) (x9003:Int):vr06_Split.j2R k x10 x9000 x9001 x9002 x9003=vr06_Split.j2 (k+1) x10 x9000 x9001 x9002 x9003:=by
  unfold vr06_Split.j2R
  rw [vr06_Split.j2]
  exact iteC (fun h0=>iteC (fun h1=>iteC (fun h2=>iteC (fun h3=>bindC fun _=>(if_pos h1).trans (bindC fun _=>rfl)) (fun h3=>rfl)) (fun h2=>rfl)) (fun h1=>rfl)) (fun h0=>iteC (fun h1=>iteC (fun h2=>iteC (fun h3=>bindC fun _=>(if_pos h1).trans (bindC fun _=>rfl)) (fun h3=>rfl)) (fun h2=>rfl)) (fun h1=>rfl))
def vr06_Split.c (k:Nat):Con:=S191.con fun x=>vr06_Split.f k x.1 x.2
def vr06_Split.G (k:Nat):List (Go.FuncId×Cn):=[(144,.f (vr01_Number.c k)),(145,.f (vr01_Text.c k)),(190,.f (vr05_Kind.c k)),(211,.f (vr06_String.c k)),(212,.f (vr06_run.c k))]
def vr06_Split.cuts:List (Cut (TT S191.sb)):=[⟨[1,0,1,1],[.sc 0 (.int .i64),.sc 1 (.int .u64),.sc 7 (.int .i64),.sc 23 (.bool),.box 4 175 [.bool,.bool,.int .i64,.int .i64,.int .i64,.int .i64,.int .i64,.int .u64]],fun k x=>vr06_Split.j0 k x.1 x.2.1 x.2.2.1 x.2.2.2.1⟩,⟨[1,1,1,1,1,1,1],[.sc 8 (.str),.box 4 175 [.bool,.bool,.int .i64,.int .i64,.int .i64,.int .i64,.int .i64,.int .u64],.box 9 175 [.bool,.bool,.int .i64,.int .i64,.int .i64,.int .i64,.int .i64,.int .u64]],fun k x=>vr06_Split.j1 k x.1 x.2.2.1 x.2.2.2.1 x.2.2.2.2.1 x.2.2.2.2.2.1⟩,⟨[1,1,1,1,1,1,1,1,1],[.sc 10 (.str),.box 4 175 [.bool,.bool,.int .i64,.int .i64,.int .i64,.int .i64,.int .i64,.int .u64],.box 9 175 [.bool,.bool,.int .i64,.int .i64,.int .i64,.int .i64,.int .i64,.int .u64]],fun k x=>vr06_Split.j2 k x.1 x.2.2.1 x.2.2.2.1 x.2.2.2.2.1 x.2.2.2.2.2.1⟩]
theorem vr06_Split.w0 (k:Nat) (x:ET [.sc 0 (.int .i64),.sc 1 (.int .u64),.sc 7 (.int .i64),.sc 23 (.bool),.box 4 175 [.bool,.bool,.int .i64,.int .i64,.int .i64,.int .i64,.int .i64,.int .u64]]):walk E191 (vr06_Split.G k) (cutsAt E191 k vr06_Split.cuts) (retE E191 Tryz.f191.results.toList S191) 4000 true (stackAt B191 [1,0,1,1]) (mkE [.sc 0 (.int .i64),.sc 1 (.int .u64),.sc 7 (.int .i64),.sc 23 (.bool),.box 4 175 [.bool,.bool,.int .i64,.int .i64,.int .i64,.int .i64,.int .i64,.int .u64]] x St.nil)=vr06_Split.j0 (k+1) x.1 x.2.1 x.2.2.1 x.2.2.2.1:=by kernel_rfl
theorem vr06_Split.w1 (k:Nat) (x:ET [.sc 8 (.str),.box 4 175 [.bool,.bool,.int .i64,.int .i64,.int .i64,.int .i64,.int .i64,.int .u64],.box 9 175 [.bool,.bool,.int .i64,.int .i64,.int .i64,.int .i64,.int .i64,.int .u64]]):walk E191 (vr06_Split.G k) (cutsAt E191 k vr06_Split.cuts) (retE E191 Tryz.f191.results.toList S191) 4000 true (stackAt B191 [1,1,1,1,1,1,1]) (mkE [.sc 8 (.str),.box 4 175 [.bool,.bool,.int .i64,.int .i64,.int .i64,.int .i64,.int .i64,.int .u64],.box 9 175 [.bool,.bool,.int .i64,.int .i64,.int .i64,.int .i64,.int .i64,.int .u64]] x St.nil)=vr06_Split.j1 (k+1) x.1 x.2.2.1 x.2.2.2.1 x.2.2.2.2.1 x.2.2.2.2.2.1:=by kernel_rfl
theorem vr06_Split.w2 (k:Nat) (x:ET [.sc 10 (.str),.box 4 175 [.bool,.bool,.int .i64,.int .i64,.int .i64,.int .i64,.int .i64,.int .u64],.box 9 175 [.bool,.bool,.int .i64,.int .i64,.int .i64,.int .i64,.int .i64,.int .u64]]):walk E191 (vr06_Split.G k) (cutsAt E191 k vr06_Split.cuts) (retE E191 Tryz.f191.results.toList S191) 4000 true (stackAt B191 [1,1,1,1,1,1,1,1,1]) (mkE [.sc 10 (.str),.box 4 175 [.bool,.bool,.int .i64,.int .i64,.int .i64,.int .i64,.int .i64,.int .u64],.box 9 175 [.bool,.bool,.int .i64,.int .i64,.int .i64,.int .i64,.int .i64,.int .u64]] x St.nil)=vr06_Split.j2 (k+1) x.1 x.2.2.1 x.2.2.2.1 x.2.2.2.2.1 x.2.2.2.2.2.1:=Eq.trans (b:=vr06_Split.j2R k x.1 x.2.2.1 x.2.2.2.1 x.2.2.2.2.1 x.2.2.2.2.2.1) (by kernel_rfl) (vr06_Split.j2E k x.1 x.2.2.1 x.2.2.2.1 x.2.2.2.2.1 x.2.2.2.2.2.1)
theorem vr06_Split.w (k:Nat) (x:TT S191.sa):walk E191 (vr06_Split.G k) (cutsAt E191 k vr06_Split.cuts) (retE E191 Tryz.f191.results.toList S191) 4000 true [([],.code B191)] (St0 S191 x)=vr06_Split.f k x.1 x.2:=by kernel_rfl
theorem vr06_Split.ok (k:Nat):FnOk Tryz.prog E191.eT 191 (vr06_Split.c k):=FnOk.walk (E:=E191) (body:=B191) Tryz.func191 rfl (by rfl) Tryz.ntmps191 rfl S191 rfl (fun k x=>vr06_Split.f k x.1 x.2) vr06_Split.G (fun k=>⟨vr01_Number.ok k,vr01_Text.ok k,vr05_Kind.ok k,vr06_String.ok k,vr06_run.ok k,trivial⟩) 4000 vr06_Split.cuts ⟨⟨fun _=>rfl,fun k x q h=>(vr06_Split.w0 k x).trans h⟩,⟨fun _=>rfl,fun k x q h=>(vr06_Split.w1 k x).trans h⟩,⟨fun _=>rfl,fun k x q h=>(vr06_Split.w2 k x).trans h⟩,trivial⟩ (fun k x r h=>(vr06_Split.w k x).trans h) k
end Go.Proofs.YtbpcfhhcoklinaaGreat.Fn
set_option maxRecDepth 100000
noncomputable section
namespace Go.Proofs.YtbpcfhhcoklinaaGreat.Fn
open Go Go.RowKit Go.Proofs.YtbpcfhhcoklinaaGreat.Ab
def E147:En:=⟨Tryz.prog,76,Tryz.f147.ntmps,none,false,[]⟩
def S147:Sig:=⟨[.s,.s],[(.int .i64),(.int .u64)],true,[.g 4,.s],[(.int .i64),.bool,(.int .i64),(.int .u64),(.int .i64)],false⟩
def B147:Go.Code:=Tryz.f147.body.get!
mutual
def vr06_Decodes.j0:Nat→Int→Int→Int→Int→Bool→Option (Int×Bool×Int×Int×Int)
 | 0,_,_,_,_,_=>none
 | k+1,x0,x1,x6,x7,x23=>if x23=true then (some (x6,false,0,0,x7)) else ((vr06_Split.f k x0 x1).bind fun t101=>((vr01_Text.f k t101.2.2.2.2.2.2.2.1 t101.2.2.2.2.2.2.1).bind fun t102=>(if (1+t102.size)≤9223372036854775807 then (vr06_Decodes.l0 k ((⟨#[49]⟩:ByteArray)++t102) x6 t101.1 (wrap64 ((wrap64 (4*t101.2.2.2.1))+t101.2.2.2.2.2.1))) else (none))))
def vr06_Decodes.l0:Nat→ByteArray→Int→Bool→Int→Option (Int×Bool×Int×Int×Int)
 | 0,_,_,_,_=>none
 | k+1,x11,x10000,x10001,x10002=>if (nI x11.size) < 64 then (if x11.size < 9223372036854775807 then (vr06_Decodes.l0 k (x11++(⟨#[48]⟩:ByteArray)) x10000 x10001 x10002) else (none)) else ((vr01_Number.f k x11).bind fun t103=>(some (x10000,x10001,x10002,t103,0)))
end
def vr06_Decodes.f (k:Nat) (a0:Int) (a1:Int):Option (Int×Bool×Int×Int×Int):=(vr05_Kind.f k a0 a1).bind fun t100=>(if t100.2=0 then (vr06_Decodes.j0 k a0 a1 t100.1 t100.2 (t100.1 != 1)) else (vr06_Decodes.j0 k a0 a1 t100.1 t100.2 true))
--@ok
def vr06_Decodes.c (k:Nat):Con:=S147.con fun x=>vr06_Decodes.f k x.1 x.2
def vr06_Decodes.G (k:Nat):List (Go.FuncId×Cn):=[(144,.f (vr01_Number.c k)),(145,.f (vr01_Text.c k)),(190,.f (vr05_Kind.c k)),(191,.f (vr06_Split.c k))]
def vr06_Decodes.cuts:List (Cut (TT S147.sb)):=[⟨[1,0,1,1],[.sc 0 (.int .i64),.sc 1 (.int .u64),.sc 6 (.int .i64),.sc 7 (.int .i64),.sc 23 (.bool),.box 4 137 [.int .i64,.bool,.int .i64,.int .u64]],fun k x=>vr06_Decodes.j0 k x.1 x.2.1 x.2.2.1 x.2.2.2.1 x.2.2.2.2.1⟩,⟨[6,4,0,1,1,1,1,1,1],[.sc 11 (.str),.box 4 137 [.int .i64,.bool,.int .i64,.int .u64],.box 10 137 [.int .i64,.bool,.int .i64,.int .u64]],fun k x=>vr06_Decodes.l0 k x.1 x.2.2.1 x.2.2.2.1 x.2.2.2.2.1⟩]
theorem vr06_Decodes.w0 (k:Nat) (x:ET [.sc 0 (.int .i64),.sc 1 (.int .u64),.sc 6 (.int .i64),.sc 7 (.int .i64),.sc 23 (.bool),.box 4 137 [.int .i64,.bool,.int .i64,.int .u64]]):walk E147 (vr06_Decodes.G k) (cutsAt E147 k vr06_Decodes.cuts) (retE E147 Tryz.f147.results.toList S147) 4000 true (stackAt B147 [1,0,1,1]) (mkE [.sc 0 (.int .i64),.sc 1 (.int .u64),.sc 6 (.int .i64),.sc 7 (.int .i64),.sc 23 (.bool),.box 4 137 [.int .i64,.bool,.int .i64,.int .u64]] x St.nil)=vr06_Decodes.j0 (k+1) x.1 x.2.1 x.2.2.1 x.2.2.2.1 x.2.2.2.2.1:=by kernel_rfl
theorem vr06_Decodes.w1 (k:Nat) (x:ET [.sc 11 (.str),.box 4 137 [.int .i64,.bool,.int .i64,.int .u64],.box 10 137 [.int .i64,.bool,.int .i64,.int .u64]]):walk E147 (vr06_Decodes.G k) (cutsAt E147 k vr06_Decodes.cuts) (retE E147 Tryz.f147.results.toList S147) 4000 true (stackAt B147 [6,4,0,1,1,1,1,1,1]) (mkE [.sc 11 (.str),.box 4 137 [.int .i64,.bool,.int .i64,.int .u64],.box 10 137 [.int .i64,.bool,.int .i64,.int .u64]] x St.nil)=vr06_Decodes.l0 (k+1) x.1 x.2.2.1 x.2.2.2.1 x.2.2.2.2.1:=by kernel_rfl
theorem vr06_Decodes.w (k:Nat) (x:TT S147.sa):walk E147 (vr06_Decodes.G k) (cutsAt E147 k vr06_Decodes.cuts) (retE E147 Tryz.f147.results.toList S147) 4000 true [([],.code B147)] (St0 S147 x)=vr06_Decodes.f k x.1 x.2:=by kernel_rfl
theorem vr06_Decodes.ok (k:Nat):FnOk Tryz.prog E147.eT 147 (vr06_Decodes.c k):=FnOk.walk (E:=E147) (body:=B147) Tryz.func147 rfl (by rfl) Tryz.ntmps147 rfl S147 rfl (fun k x=>vr06_Decodes.f k x.1 x.2) vr06_Decodes.G (fun k=>⟨vr01_Number.ok k,vr01_Text.ok k,vr05_Kind.ok k,vr06_Split.ok k,trivial⟩) 4000 vr06_Decodes.cuts ⟨⟨fun _=>rfl,fun k x q h=>(vr06_Decodes.w0 k x).trans h⟩,⟨fun _=>rfl,fun k x q h=>(vr06_Decodes.w1 k x).trans h⟩,trivial⟩ (fun k x r h=>(vr06_Decodes.w k x).trans h) k
def E100:En:=⟨Tryz.prog,76,Tryz.f100.ntmps,none,false,[]⟩
def S100:Sig:=⟨[.s,.s],[(.int .i64),(.int .u64)],false,[.g 4],[(.int .i64),.bool,(.int .i64),(.int .u64)],false⟩
def B100:Go.Code:=Tryz.f100.body.get!
def vr06_Decode.f (k:Nat) (a0:Int) (a1:Int):Option (Int×Bool×Int×Int):=(vr06_Decodes.f k a0 a1).bind fun t100=>(some (t100.1,t100.2.1,t100.2.2.1,t100.2.2.2.1))
--@ok
def vr06_Decode.c (k:Nat):Con:=S100.con fun x=>vr06_Decode.f k x.1 x.2
def vr06_Decode.G (k:Nat):List (Go.FuncId×Cn):=[(147,.f (vr06_Decodes.c k))]
def vr06_Decode.cuts:List (Cut (TT S100.sb)):=[]
theorem vr06_Decode.w (k:Nat) (x:TT S100.sa):walk E100 (vr06_Decode.G k) (cutsAt E100 k vr06_Decode.cuts) (retE E100 Tryz.f100.results.toList S100) 4000 true [([],.code B100)] (St0 S100 x)=vr06_Decode.f k x.1 x.2:=by kernel_rfl
theorem vr06_Decode.ok (k:Nat):FnOk Tryz.prog E100.eT 100 (vr06_Decode.c k):=FnOk.walk (E:=E100) (body:=B100) Tryz.func100 rfl (by rfl) Tryz.ntmps100 rfl S100 rfl (fun k x=>vr06_Decode.f k x.1 x.2) vr06_Decode.G (fun k=>⟨vr06_Decodes.ok k,trivial⟩) 4000 vr06_Decode.cuts trivial (fun k x r h=>(vr06_Decode.w k x).trans h) k
def E110:En:=⟨Tryz.prog,76,Tryz.f110.ntmps,none,false,[]⟩
def S110:Sig:=⟨[.s,.s],[(.rd .i64),(.int .i64)],false,[.s],[(.int .i64)],false⟩
def B110:Go.Code:=Tryz.f110.body.get!
def vr04_digit.f (l0:List Int) (a1:Int):Option (Int):=if a1 < (nI l0.length) then (if 0≤a1 then (some (rd l0 a1)) else (none)) else (some 0)
--@ok
def vr04_digit.fR (l0:List Int) (a1:Int):Option (Int):=if a1 < (nI l0.length) then (if 0≤a1 then (if a1 < (nI l0.length) then (some (rd l0 a1)) else (none)) else (none)) else (some 0)
theorem vr04_digit.fE (l0:List Int) (a1:Int):vr04_digit.fR l0 a1=vr04_digit.f l0 a1:=by
  unfold vr04_digit.fR vr04_digit.f
  exact iteC (fun h0=>iteC (fun h1=>(if_pos h0).trans (rfl)) (fun h1=>rfl)) (fun h0=>rfl)
def vr04_digit.c:Con:=S110.con fun x=>vr04_digit.f x.1 x.2
def vr04_digit.G (k:Nat):List (Go.FuncId×Cn):=[]
def vr04_digit.cuts:List (Cut (TT S110.sb)):=[]
theorem vr04_digit.w (k:Nat) (x:TT S110.sa):walk E110 (vr04_digit.G k) (cutsAt E110 k vr04_digit.cuts) (retE E110 Tryz.f110.results.toList S110) 4000 true [([],.code B110)] (St0 S110 x)=vr04_digit.f x.1 x.2:=Eq.trans (b:=vr04_digit.fR x.1 x.2) (by kernel_rfl) (vr04_digit.fE x.1 x.2)
theorem vr04_digit.ok:FnOk Tryz.prog E110.eT 110 (vr04_digit.c):=FnOk.walk (E:=E110) (body:=B110) Tryz.func110 rfl (by rfl) Tryz.ntmps110 rfl S110 rfl (fun k x=>vr04_digit.f x.1 x.2) vr04_digit.G (fun k=>trivial) 4000 vr04_digit.cuts trivial (fun k x r h=>(vr04_digit.w k x).trans h) 0
def E107:En:=⟨Tryz.prog,76,Tryz.f107.ntmps,none,false,[]⟩
def S107:Sig:=⟨[.s,.s],[(.rd .i64),(.int .i64)],false,[.s],[(.rd .i64)],true⟩
def B107:Go.Code:=Tryz.f107.body.get!
def vr04_times.l0:Nat→List Int→Int→List Int→Int→Int→Option (List Int)
 | 0,_,_,_,_,_=>none
 | k+1,x0,x1,x5,x6,x7=>if x7 < (nI x0.length) then (if x1 > 0 then ((vr04_digit.f x0 x7).bind fun t100=>(if x5.length < 17592186044416 then (vr04_times.l0 k x0 x1 (x5++([Int.tmod (wrap64 ((wrap64 (t100*x1))+x6)) 16777216]:List Int)) (wrap64 (Int.tdiv (wrap64 ((wrap64 (t100*x1))+x6)) 16777216)) (wrap64 (x7+1))) else (none))) else (if x6 > 0 then ((vr04_digit.f x0 x7).bind fun t101=>(if x5.length < 17592186044416 then (vr04_times.l0 k x0 x1 (x5++([Int.tmod (wrap64 ((wrap64 (t101*x1))+x6)) 16777216]:List Int)) (wrap64 (Int.tdiv (wrap64 ((wrap64 (t101*x1))+x6)) 16777216)) (wrap64 (x7+1))) else (none))) else (some x5))) else (if x6 > 0 then ((vr04_digit.f x0 x7).bind fun t102=>(if x5.length < 17592186044416 then (vr04_times.l0 k x0 x1 (x5++([Int.tmod (wrap64 ((wrap64 (t102*x1))+x6)) 16777216]:List Int)) (wrap64 (Int.tdiv (wrap64 ((wrap64 (t102*x1))+x6)) 16777216)) (wrap64 (x7+1))) else (none))) else (some x5))
def vr04_times.f (k:Nat) (l0:List Int) (a1:Int):Option (List Int):=vr04_times.l0 k l0 a1 ([]:List Int) 0 0
--@ok
def vr04_times.c (k:Nat):Con:=S107.con fun x=>vr04_times.f k x.1 x.2
def vr04_times.G (k:Nat):List (Go.FuncId×Cn):=[(110,.f vr04_digit.c)]
def vr04_times.cuts:List (Cut (TT S107.sb)):=[⟨[6,4,1,0,1,1,1],[.sc 0 (.rd .i64),.sc 1 (.int .i64),.lst 5 .i64 3,.sc 6 (.int .i64),.sc 7 (.int .i64)],fun k x=>vr04_times.l0 k x.1 x.2.1 x.2.2.1 x.2.2.2.1 x.2.2.2.2⟩]
theorem vr04_times.w0 (k:Nat) (x:ET [.sc 0 (.rd .i64),.sc 1 (.int .i64),.lst 5 .i64 3,.sc 6 (.int .i64),.sc 7 (.int .i64)]):walk E107 (vr04_times.G k) (cutsAt E107 k vr04_times.cuts) (retE E107 Tryz.f107.results.toList S107) 4000 true (stackAt B107 [6,4,1,0,1,1,1]) (mkE [.sc 0 (.rd .i64),.sc 1 (.int .i64),.lst 5 .i64 3,.sc 6 (.int .i64),.sc 7 (.int .i64)] x St.nil)=vr04_times.l0 (k+1) x.1 x.2.1 x.2.2.1 x.2.2.2.1 x.2.2.2.2:=by kernel_rfl
theorem vr04_times.w (k:Nat) (x:TT S107.sa):walk E107 (vr04_times.G k) (cutsAt E107 k vr04_times.cuts) (retE E107 Tryz.f107.results.toList S107) 4000 true [([],.code B107)] (St0 S107 x)=vr04_times.f k x.1 x.2:=by kernel_rfl
theorem vr04_times.ok (k:Nat):FnOk Tryz.prog E107.eT 107 (vr04_times.c k):=FnOk.walk (E:=E107) (body:=B107) Tryz.func107 rfl (by rfl) Tryz.ntmps107 rfl S107 rfl (fun k x=>vr04_times.f k x.1 x.2) vr04_times.G (fun k=>⟨vr04_digit.ok,trivial⟩) 4000 vr04_times.cuts ⟨⟨fun _=>rfl,fun k x q h=>(vr04_times.w0 k x).trans h⟩,trivial⟩ (fun k x r h=>(vr04_times.w k x).trans h) k
def E108:En:=⟨Tryz.prog,76,Tryz.f108.ntmps,none,false,[]⟩
def S108:Sig:=⟨[.s],[(.int .i64)],false,[.s],[(.int .i64)],false⟩
def B108:Go.Code:=Tryz.f108.body.get!
def vr04_two.l0:Nat→Int→Int→Int→Option (Int)
 | 0,_,_,_=>none
 | k+1,x0,x3,x4=>if x4 < x0 then (vr04_two.l0 k x0 (wrap64 (2*x3)) (wrap64 (x4+1))) else (some x3)
def vr04_two.f (k:Nat) (a0:Int):Option (Int):=vr04_two.l0 k a0 1 0
--@ok
def vr04_two.c (k:Nat):Con:=S108.con fun x=>vr04_two.f k x
def vr04_two.G (k:Nat):List (Go.FuncId×Cn):=[]
def vr04_two.cuts:List (Cut (TT S108.sb)):=[⟨[6,4,1,0,1,1],[.sc 0 (.int .i64),.sc 3 (.int .i64),.sc 4 (.int .i64)],fun k x=>vr04_two.l0 k x.1 x.2.1 x.2.2⟩]
theorem vr04_two.w0 (k:Nat) (x:ET [.sc 0 (.int .i64),.sc 3 (.int .i64),.sc 4 (.int .i64)]):walk E108 (vr04_two.G k) (cutsAt E108 k vr04_two.cuts) (retE E108 Tryz.f108.results.toList S108) 4000 true (stackAt B108 [6,4,1,0,1,1]) (mkE [.sc 0 (.int .i64),.sc 3 (.int .i64),.sc 4 (.int .i64)] x St.nil)=vr04_two.l0 (k+1) x.1 x.2.1 x.2.2:=by kernel_rfl
theorem vr04_two.w (k:Nat) (x:TT S108.sa):walk E108 (vr04_two.G k) (cutsAt E108 k vr04_two.cuts) (retE E108 Tryz.f108.results.toList S108) 4000 true [([],.code B108)] (St0 S108 x)=vr04_two.f k x:=by kernel_rfl
theorem vr04_two.ok (k:Nat):FnOk Tryz.prog E108.eT 108 (vr04_two.c k):=FnOk.walk (E:=E108) (body:=B108) Tryz.func108 rfl (by rfl) Tryz.ntmps108 rfl S108 rfl (fun k x=>vr04_two.f k x) vr04_two.G (fun k=>trivial) 4000 vr04_two.cuts ⟨⟨fun _=>rfl,fun k x q h=>(vr04_two.w0 k x).trans h⟩,trivial⟩ (fun k x r h=>(vr04_two.w k x).trans h) k
def E63:En:=⟨Tryz.prog,76,Tryz.f63.ntmps,none,false,[]⟩
def S63:Sig:=⟨[.s,.s],[(.rd .i64),(.int .i64)],false,[.s],[(.rd .i64)],true⟩
def B63:Go.Code:=Tryz.f63.body.get!
def vr04_Shl.f (k:Nat) (l0:List Int) (a1:Int):Option (List Int):=if (nI l0.length)=0 then (some ([]:List Int)) else (if 0≤(wrap64 (Int.tdiv a1 24)) then (if (((wrap64 (Int.tdiv a1 24)):Int).toNat)≤35184372088832 then ((vr04_two.f k (Int.tmod a1 24)).bind fun t100=>((vr04_times.f k l0 t100).bind fun t101=>(if (((List.replicate (((wrap64 (Int.tdiv a1 24)):Int).toNat) 0:List Int).length)+t101.length)≤17592186044416 then (some ((List.replicate (((wrap64 (Int.tdiv a1 24)):Int).toNat) 0:List Int)++t101)) else (none)))) else (none)) else (none))
--@ok
def vr04_Shl.c (k:Nat):Con:=S63.con fun x=>vr04_Shl.f k x.1 x.2
def vr04_Shl.G (k:Nat):List (Go.FuncId×Cn):=[(107,.f (vr04_times.c k)),(108,.f (vr04_two.c k))]
def vr04_Shl.cuts:List (Cut (TT S63.sb)):=[]
theorem vr04_Shl.w (k:Nat) (x:TT S63.sa):walk E63 (vr04_Shl.G k) (cutsAt E63 k vr04_Shl.cuts) (retE E63 Tryz.f63.results.toList S63) 4000 true [([],.code B63)] (St0 S63 x)=vr04_Shl.f k x.1 x.2:=by kernel_rfl
theorem vr04_Shl.ok (k:Nat):FnOk Tryz.prog E63.eT 63 (vr04_Shl.c k):=FnOk.walk (E:=E63) (body:=B63) Tryz.func63 rfl (by rfl) Tryz.ntmps63 rfl S63 rfl (fun k x=>vr04_Shl.f k x.1 x.2) vr04_Shl.G (fun k=>⟨vr04_times.ok k,vr04_two.ok k,trivial⟩) 4000 vr04_Shl.cuts trivial (fun k x r h=>(vr04_Shl.w k x).trans h) k
def E65:En:=⟨Tryz.prog,76,Tryz.f65.ntmps,none,false,[]⟩
def S65:Sig:=⟨[.s,.s],[(.rd .i64),(.rd .i64)],false,[.s],[(.int .i64)],false⟩
def B65:Go.Code:=Tryz.f65.body.get!
def vr04_Cmp.l0:Nat→List Int→List Int→Int→Option (Int)
 | 0,_,_,_=>none
 | k+1,x0,x1,x5=>if x5≥0 then (if 0≤x5 then (if x5 < (nI x0.length) then (if x5 < (nI x1.length) then (if (rd x0 x5) < (rd x1 x5) then (some (-1)) else (if (rd x0 x5) > (rd x1 x5) then (some 1) else (vr04_Cmp.l0 k x0 x1 (wrap64 (x5 - 1))))) else (none)) else (none)) else (none)) else (some 0)
def vr04_Cmp.f (k:Nat) (l0:List Int) (l1:List Int):Option (Int):=if (nI l0.length)=(nI l1.length) then (vr04_Cmp.l0 k l0 l1 (wrap64 ((nI l0.length) - 1))) else (if (nI l0.length) < (nI l1.length) then (some (-1)) else (some 1))
--@ok
def vr04_Cmp.l0R (k:Nat) (x0:List Int) (x1:List Int) (x5:Int):Option (Int):=if x5≥0 then (if 0≤x5 then (if x5 < (nI x0.length) then (if 0≤x5 then (if x5 < (nI x1.length) then (if (rd x0 x5) < (rd x1 x5) then (some (-1)) else (if 0≤x5 then (if x5 < (nI x0.length) then (if 0≤x5 then (if x5 < (nI x1.length) then (if (rd x0 x5) > (rd x1 x5) then (some 1) else (vr04_Cmp.l0 k x0 x1 (wrap64 (x5 - 1)))) else (none)) else (none)) else (none)) else (none))) else (none)) else (none)) else (none)) else (none)) else (some 0)
theorem vr04_Cmp.l0E (k:Nat) (x0:List Int) (x1:List Int) (x5:Int):vr04_Cmp.l0R k x0 x1 x5=vr04_Cmp.l0 (k+1) x0 x1 x5:=by
  unfold vr04_Cmp.l0R
  rw [vr04_Cmp.l0]
  exact iteC (fun h0=>iteC (fun h1=>iteC (fun h2=>(if_pos h1).trans (iteC (fun h3=>iteC (fun h4=>rfl) (fun h4=>(if_pos h1).trans ((if_pos h2).trans ((if_pos h1).trans ((if_pos h3).trans (iteC (fun h5=>rfl) (fun h5=>rfl))))))) (fun h3=>rfl))) (fun h2=>rfl)) (fun h1=>rfl)) (fun h0=>rfl)
def vr04_Cmp.c (k:Nat):Con:=S65.con fun x=>vr04_Cmp.f k x.1 x.2
def vr04_Cmp.G (k:Nat):List (Go.FuncId×Cn):=[]
def vr04_Cmp.cuts:List (Cut (TT S65.sb)):=[⟨[6,4,1,0,1,1],[.sc 0 (.rd .i64),.sc 1 (.rd .i64),.sc 5 (.int .i64)],fun k x=>vr04_Cmp.l0 k x.1 x.2.1 x.2.2⟩]
theorem vr04_Cmp.w0 (k:Nat) (x:ET [.sc 0 (.rd .i64),.sc 1 (.rd .i64),.sc 5 (.int .i64)]):walk E65 (vr04_Cmp.G k) (cutsAt E65 k vr04_Cmp.cuts) (retE E65 Tryz.f65.results.toList S65) 4000 true (stackAt B65 [6,4,1,0,1,1]) (mkE [.sc 0 (.rd .i64),.sc 1 (.rd .i64),.sc 5 (.int .i64)] x St.nil)=vr04_Cmp.l0 (k+1) x.1 x.2.1 x.2.2:=Eq.trans (b:=vr04_Cmp.l0R k x.1 x.2.1 x.2.2) (by kernel_rfl) (vr04_Cmp.l0E k x.1 x.2.1 x.2.2)
theorem vr04_Cmp.w (k:Nat) (x:TT S65.sa):walk E65 (vr04_Cmp.G k) (cutsAt E65 k vr04_Cmp.cuts) (retE E65 Tryz.f65.results.toList S65) 4000 true [([],.code B65)] (St0 S65 x)=vr04_Cmp.f k x.1 x.2:=by kernel_rfl
theorem vr04_Cmp.ok (k:Nat):FnOk Tryz.prog E65.eT 65 (vr04_Cmp.c k):=FnOk.walk (E:=E65) (body:=B65) Tryz.func65 rfl (by rfl) Tryz.ntmps65 rfl S65 rfl (fun k x=>vr04_Cmp.f k x.1 x.2) vr04_Cmp.G (fun k=>trivial) 4000 vr04_Cmp.cuts ⟨⟨fun _=>rfl,fun k x q h=>(vr04_Cmp.w0 k x).trans h⟩,trivial⟩ (fun k x r h=>(vr04_Cmp.w k x).trans h) k
def E111:En:=⟨Tryz.prog,76,Tryz.f111.ntmps,none,false,[]⟩
def S111:Sig:=⟨[.s],[(.rd .i64)],false,[.s],[(.rd .i64)],true⟩
def B111:Go.Code:=Tryz.f111.body.get!
def vr04_Cut.l0:Nat→List Int→Int→Option (List Int)
 | 0,_,_=>none
 | k+1,x0,x3=>if x3 > 0 then (if 0≤(wrap64 (x3 - 1)) then (if (wrap64 (x3 - 1)) < (nI x0.length) then (if (rd x0 (wrap64 (x3 - 1)))=0 then (vr04_Cut.l0 k x0 (wrap64 (x3 - 1))) else (if 0≤x3 then (if x3≤(nI x0.length) then (some (x0.take ((x3:Int).toNat))) else (none)) else (none))) else (none)) else (none)) else (if 0≤x3 then (if x3≤(nI x0.length) then (some (x0.take ((x3:Int).toNat))) else (none)) else (none))
def vr04_Cut.f (k:Nat) (l0:List Int):Option (List Int):=vr04_Cut.l0 k l0 (nI l0.length)
--@ok
def vr04_Cut.c (k:Nat):Con:=S111.con fun x=>vr04_Cut.f k x
def vr04_Cut.G (k:Nat):List (Go.FuncId×Cn):=[]
def vr04_Cut.cuts:List (Cut (TT S111.sb)):=[⟨[6,4,0,1,1],[.sc 0 (.rd .i64),.sc 3 (.int .i64)],fun k x=>vr04_Cut.l0 k x.1 x.2⟩]
theorem vr04_Cut.w0 (k:Nat) (x:ET [.sc 0 (.rd .i64),.sc 3 (.int .i64)]):walk E111 (vr04_Cut.G k) (cutsAt E111 k vr04_Cut.cuts) (retE E111 Tryz.f111.results.toList S111) 4000 true (stackAt B111 [6,4,0,1,1]) (mkE [.sc 0 (.rd .i64),.sc 3 (.int .i64)] x St.nil)=vr04_Cut.l0 (k+1) x.1 x.2:=by kernel_rfl
theorem vr04_Cut.w (k:Nat) (x:TT S111.sa):walk E111 (vr04_Cut.G k) (cutsAt E111 k vr04_Cut.cuts) (retE E111 Tryz.f111.results.toList S111) 4000 true [([],.code B111)] (St0 S111 x)=vr04_Cut.f k x:=by kernel_rfl
theorem vr04_Cut.ok (k:Nat):FnOk Tryz.prog E111.eT 111 (vr04_Cut.c k):=FnOk.walk (E:=E111) (body:=B111) Tryz.func111 rfl (by rfl) Tryz.ntmps111 rfl S111 rfl (fun k x=>vr04_Cut.f k x) vr04_Cut.G (fun k=>trivial) 4000 vr04_Cut.cuts ⟨⟨fun _=>rfl,fun k x q h=>(vr04_Cut.w0 k x).trans h⟩,trivial⟩ (fun k x r h=>(vr04_Cut.w k x).trans h) k
def E68:En:=⟨Tryz.prog,76,Tryz.f68.ntmps,none,false,[]⟩
def S68:Sig:=⟨[.s,.s],[(.rd .i64),(.rd .i64)],false,[.s],[(.rd .i64)],true⟩
def B68:Go.Code:=Tryz.f68.body.get!
def vr04_Sub.l0:Nat→List Int→List Int→List Int→Int→Int→Option (List Int)
 | 0,_,_,_,_,_=>none
 | k+1,x0,x1,x5,x6,x7=>if x7 < (nI x0.length) then (if 0≤x7 then ((vr04_digit.f x1 x7).bind fun t100=>(if (wrap64 ((wrap64 ((rd x0 x7) - t100)) - x6)) < 0 then (if x5.length < 17592186044416 then (vr04_Sub.l0 k x0 x1 (x5++([wrap64 ((wrap64 ((wrap64 ((rd x0 x7) - t100)) - x6))+16777216)]:List Int)) 1 (wrap64 (x7+1))) else (none)) else (if x5.length < 17592186044416 then (vr04_Sub.l0 k x0 x1 (x5++([wrap64 ((wrap64 ((rd x0 x7) - t100)) - x6)]:List Int)) 0 (wrap64 (x7+1))) else (none)))) else (none)) else ((vr04_Cut.f k x5).bind fun t101=>(some t101))
def vr04_Sub.f (k:Nat) (l0:List Int) (l1:List Int):Option (List Int):=vr04_Sub.l0 k l0 l1 ([]:List Int) 0 0
--@ok
def vr04_Sub.l0R (k:Nat) (x0:List Int) (x1:List Int) (x5:List Int) (x6:Int) (x7:Int):Option (List Int):=if x7 < (nI x0.length) then (if 0≤x7 then (if x7 < (nI x0.length) then ((vr04_digit.f x1 x7).bind fun t100=>(if (wrap64 ((wrap64 ((rd x0 x7) - t100)) - x6)) < 0 then (if x5.length < 17592186044416 then (vr04_Sub.l0 k x0 x1 (x5++([wrap64 ((wrap64 ((wrap64 ((rd x0 x7) - t100)) - x6))+16777216)]:List Int)) 1 (wrap64 (x7+1))) else (none)) else (if x5.length < 17592186044416 then (vr04_Sub.l0 k x0 x1 (x5++([wrap64 ((wrap64 ((rd x0 x7) - t100)) - x6)]:List Int)) 0 (wrap64 (x7+1))) else (none)))) else (none)) else (none)) else ((vr04_Cut.f k x5).bind fun t101=>(some t101))
theorem vr04_Sub.l0E (k:Nat) (x0:List Int) (x1:List Int) (x5:List Int) (x6:Int) (x7:Int):vr04_Sub.l0R k x0 x1 x5 x6 x7=vr04_Sub.l0 (k+1) x0 x1 x5 x6 x7:=by
  unfold vr04_Sub.l0R
  rw [vr04_Sub.l0]
  exact iteC (fun h0=>iteC (fun h1=>(if_pos h0).trans (bindC fun _=>iteC (fun h2=>iteC (fun h3=>rfl) (fun h3=>rfl)) (fun h2=>iteC (fun h3=>rfl) (fun h3=>rfl)))) (fun h1=>rfl)) (fun h0=>bindC fun _=>rfl)
def vr04_Sub.c (k:Nat):Con:=S68.con fun x=>vr04_Sub.f k x.1 x.2
def vr04_Sub.G (k:Nat):List (Go.FuncId×Cn):=[(110,.f vr04_digit.c),(111,.f (vr04_Cut.c k))]
def vr04_Sub.cuts:List (Cut (TT S68.sb)):=[⟨[6,4,1,0,1,1,1],[.sc 0 (.rd .i64),.sc 1 (.rd .i64),.lst 5 .i64 3,.sc 6 (.int .i64),.sc 7 (.int .i64)],fun k x=>vr04_Sub.l0 k x.1 x.2.1 x.2.2.1 x.2.2.2.1 x.2.2.2.2⟩]
theorem vr04_Sub.w0 (k:Nat) (x:ET [.sc 0 (.rd .i64),.sc 1 (.rd .i64),.lst 5 .i64 3,.sc 6 (.int .i64),.sc 7 (.int .i64)]):walk E68 (vr04_Sub.G k) (cutsAt E68 k vr04_Sub.cuts) (retE E68 Tryz.f68.results.toList S68) 4000 true (stackAt B68 [6,4,1,0,1,1,1]) (mkE [.sc 0 (.rd .i64),.sc 1 (.rd .i64),.lst 5 .i64 3,.sc 6 (.int .i64),.sc 7 (.int .i64)] x St.nil)=vr04_Sub.l0 (k+1) x.1 x.2.1 x.2.2.1 x.2.2.2.1 x.2.2.2.2:=Eq.trans (b:=vr04_Sub.l0R k x.1 x.2.1 x.2.2.1 x.2.2.2.1 x.2.2.2.2) (by kernel_rfl) (vr04_Sub.l0E k x.1 x.2.1 x.2.2.1 x.2.2.2.1 x.2.2.2.2)
theorem vr04_Sub.w (k:Nat) (x:TT S68.sa):walk E68 (vr04_Sub.G k) (cutsAt E68 k vr04_Sub.cuts) (retE E68 Tryz.f68.results.toList S68) 4000 true [([],.code B68)] (St0 S68 x)=vr04_Sub.f k x.1 x.2:=by kernel_rfl
theorem vr04_Sub.ok (k:Nat):FnOk Tryz.prog E68.eT 68 (vr04_Sub.c k):=FnOk.walk (E:=E68) (body:=B68) Tryz.func68 rfl (by rfl) Tryz.ntmps68 rfl S68 rfl (fun k x=>vr04_Sub.f k x.1 x.2) vr04_Sub.G (fun k=>⟨vr04_digit.ok,vr04_Cut.ok k,trivial⟩) 4000 vr04_Sub.cuts ⟨⟨fun _=>rfl,fun k x q h=>(vr04_Sub.w0 k x).trans h⟩,trivial⟩ (fun k x r h=>(vr04_Sub.w k x).trans h) k
def E69:En:=⟨Tryz.prog,76,Tryz.f69.ntmps,none,false,[]⟩
def S69:Sig:=⟨[.s],[(.rd .i64)],false,[.s],[(.int .u64)],false⟩
def B69:Go.Code:=Tryz.f69.body.get!
def vr04_Word.l0:Nat→List Int→Int→Int→Option (Int)
 | 0,_,_,_=>none
 | k+1,x0,x3,x4=>if x4≥0 then ((vr04_digit.f x0 x4).bind fun t100=>(vr04_Word.l0 k x0 (IntKind.u64.wrap ((IntKind.u64.wrap (x3*16777216))+(IntKind.u64.wrap t100))) (wrap64 (x4 - 1)))) else (some x3)
def vr04_Word.f (k:Nat) (l0:List Int):Option (Int):=vr04_Word.l0 k l0 0 2
--@ok
def vr04_Word.c (k:Nat):Con:=S69.con fun x=>vr04_Word.f k x
def vr04_Word.G (k:Nat):List (Go.FuncId×Cn):=[(110,.f vr04_digit.c)]
def vr04_Word.cuts:List (Cut (TT S69.sb)):=[⟨[6,4,1,0,1,1],[.sc 0 (.rd .i64),.sc 3 (.int .u64),.sc 4 (.int .i64)],fun k x=>vr04_Word.l0 k x.1 x.2.1 x.2.2⟩]
theorem vr04_Word.w0 (k:Nat) (x:ET [.sc 0 (.rd .i64),.sc 3 (.int .u64),.sc 4 (.int .i64)]):walk E69 (vr04_Word.G k) (cutsAt E69 k vr04_Word.cuts) (retE E69 Tryz.f69.results.toList S69) 4000 true (stackAt B69 [6,4,1,0,1,1]) (mkE [.sc 0 (.rd .i64),.sc 3 (.int .u64),.sc 4 (.int .i64)] x St.nil)=vr04_Word.l0 (k+1) x.1 x.2.1 x.2.2:=by kernel_rfl
theorem vr04_Word.w (k:Nat) (x:TT S69.sa):walk E69 (vr04_Word.G k) (cutsAt E69 k vr04_Word.cuts) (retE E69 Tryz.f69.results.toList S69) 4000 true [([],.code B69)] (St0 S69 x)=vr04_Word.f k x:=by kernel_rfl
theorem vr04_Word.ok (k:Nat):FnOk Tryz.prog E69.eT 69 (vr04_Word.c k):=FnOk.walk (E:=E69) (body:=B69) Tryz.func69 rfl (by rfl) Tryz.ntmps69 rfl S69 rfl (fun k x=>vr04_Word.f k x) vr04_Word.G (fun k=>⟨vr04_digit.ok,trivial⟩) 4000 vr04_Word.cuts ⟨⟨fun _=>rfl,fun k x q h=>(vr04_Word.w0 k x).trans h⟩,trivial⟩ (fun k x r h=>(vr04_Word.w k x).trans h) k
def E70:En:=⟨Tryz.prog,76,Tryz.f70.ntmps,none,false,[]⟩
def S70:Sig:=⟨[.s,.s],[(.rd .i64),(.int .i64)],false,[.s],[(.rd .i64)],true⟩
def B70:Go.Code:=Tryz.f70.body.get!
def vr04_Shr.l0:Nat→List Int→Int→List Int→Int→Option (List Int)
 | 0,_,_,_,_=>none
 | k+1,x5,x6,x7,x8=>if x8 < (nI x5.length) then (if 0≤x8 then (if x6=0 then (none) else ((vr04_digit.f x5 (wrap64 (x8+1))).bind fun t101=>(if x8 < (nI x7.length) then (vr04_Shr.l0 k x5 x6 (x7.set ((x8:Int).toNat) (wrap64 ((wrap64 (Int.tdiv (rd x5 x8) x6))+(wrap64 ((Int.tmod t101 x6)*(wrap64 (16777216 / x6))))))) (wrap64 (x8+1))) else (none)))) else (none)) else ((vr04_Cut.f k x7).bind fun t102=>(some t102))
def vr04_Shr.f (k:Nat) (l0:List Int) (a1:Int):Option (List Int):=if (wrap64 (Int.tdiv a1 24))≥(nI l0.length) then (some ([]:List Int)) else (if 0≤(wrap64 (Int.tdiv a1 24)) then (if (wrap64 (Int.tdiv a1 24))≤(nI l0.length) then ((vr04_two.f k (Int.tmod a1 24)).bind fun t100=>(if (((nI ((l0.drop (((wrap64 (Int.tdiv a1 24)):Int).toNat)).length)):Int).toNat)≤35184372088832 then (vr04_Shr.l0 k (l0.drop (((wrap64 (Int.tdiv a1 24)):Int).toNat)) t100 (List.replicate (((nI ((l0.drop (((wrap64 (Int.tdiv a1 24)):Int).toNat)).length)):Int).toNat) 0:List Int) 0) else (none))) else (none)) else (none))
--@ok
def vr04_Shr.l0R (k:Nat) (x5:List Int) (x6:Int) (x7:List Int) (x8:Int):Option (List Int):=if x8 < (nI x5.length) then (if 0≤x8 then (if x8 < (nI x5.length) then (if x6=0 then (none) else (if x6=0 then (none) else ((vr04_digit.f x5 (wrap64 (x8+1))).bind fun t101=>(if x6=0 then (none) else (if 0≤x8 then (if x8 < (nI x7.length) then (vr04_Shr.l0 k x5 x6 (x7.set ((x8:Int).toNat) (wrap64 ((wrap64 (Int.tdiv (rd x5 x8) x6))+(wrap64 ((Int.tmod t101 x6)*(wrap64 (16777216 / x6))))))) (wrap64 (x8+1))) else (none)) else (none)))))) else (none)) else (none)) else ((vr04_Cut.f k x7).bind fun t102=>(some t102))
theorem vr04_Shr.l0E (k:Nat) (x5:List Int) (x6:Int) (x7:List Int) (x8:Int):vr04_Shr.l0R k x5 x6 x7 x8=vr04_Shr.l0 (k+1) x5 x6 x7 x8:=by
  unfold vr04_Shr.l0R
  rw [vr04_Shr.l0]
  exact iteC (fun h0=>iteC (fun h1=>(if_pos h0).trans (iteC (fun h2=>rfl) (fun h2=>(if_neg h2).trans (bindC fun _=>(if_neg h2).trans ((if_pos h1).trans (iteC (fun h3=>rfl) (fun h3=>rfl))))))) (fun h1=>rfl)) (fun h0=>bindC fun _=>rfl)
def vr04_Shr.c (k:Nat):Con:=S70.con fun x=>vr04_Shr.f k x.1 x.2
def vr04_Shr.G (k:Nat):List (Go.FuncId×Cn):=[(108,.f (vr04_two.c k)),(110,.f vr04_digit.c),(111,.f (vr04_Cut.c k))]
def vr04_Shr.cuts:List (Cut (TT S70.sb)):=[⟨[6,4,1,0,1,1,1,1,1],[.sc 5 (.rd .i64),.sc 6 (.int .i64),.lst 7 .i64 3,.sc 8 (.int .i64)],fun k x=>vr04_Shr.l0 k x.1 x.2.1 x.2.2.1 x.2.2.2⟩]
theorem vr04_Shr.w0 (k:Nat) (x:ET [.sc 5 (.rd .i64),.sc 6 (.int .i64),.lst 7 .i64 3,.sc 8 (.int .i64)]):walk E70 (vr04_Shr.G k) (cutsAt E70 k vr04_Shr.cuts) (retE E70 Tryz.f70.results.toList S70) 4000 true (stackAt B70 [6,4,1,0,1,1,1,1,1]) (mkE [.sc 5 (.rd .i64),.sc 6 (.int .i64),.lst 7 .i64 3,.sc 8 (.int .i64)] x St.nil)=vr04_Shr.l0 (k+1) x.1 x.2.1 x.2.2.1 x.2.2.2:=Eq.trans (b:=vr04_Shr.l0R k x.1 x.2.1 x.2.2.1 x.2.2.2) (by kernel_rfl) (vr04_Shr.l0E k x.1 x.2.1 x.2.2.1 x.2.2.2)
theorem vr04_Shr.w (k:Nat) (x:TT S70.sa):walk E70 (vr04_Shr.G k) (cutsAt E70 k vr04_Shr.cuts) (retE E70 Tryz.f70.results.toList S70) 4000 true [([],.code B70)] (St0 S70 x)=vr04_Shr.f k x.1 x.2:=by kernel_rfl
theorem vr04_Shr.ok (k:Nat):FnOk Tryz.prog E70.eT 70 (vr04_Shr.c k):=FnOk.walk (E:=E70) (body:=B70) Tryz.func70 rfl (by rfl) Tryz.ntmps70 rfl S70 rfl (fun k x=>vr04_Shr.f k x.1 x.2) vr04_Shr.G (fun k=>⟨vr04_two.ok k,vr04_digit.ok,vr04_Cut.ok k,trivial⟩) 4000 vr04_Shr.cuts ⟨⟨fun _=>rfl,fun k x q h=>(vr04_Shr.w0 k x).trans h⟩,trivial⟩ (fun k x r h=>(vr04_Shr.w k x).trans h) k
def E162:En:=⟨Tryz.prog,76,Tryz.f162.ntmps,none,false,[]⟩
def S162:Sig:=⟨[.s],[(.rd .i64)],false,[.s],[(.int .i64)],false⟩
def B162:Go.Code:=Tryz.f162.body.get!
def vr04_Bits.l0:Nat→Int→Int→Option (Int)
 | 0,_,_=>none
 | k+1,x3,x4=>if x4 > 0 then (vr04_Bits.l0 k (wrap64 (x3+1)) (wrap64 (Int.tdiv x4 2))) else (some x3)
def vr04_Bits.f (k:Nat) (l0:List Int):Option (Int):=if (nI l0.length)=0 then (some 0) else (if 0≤(wrap64 ((nI l0.length) - 1)) then (if (wrap64 ((nI l0.length) - 1)) < (nI l0.length) then (vr04_Bits.l0 k (wrap64 (24*(wrap64 ((nI l0.length) - 1)))) (rd l0 (wrap64 ((nI l0.length) - 1)))) else (none)) else (none))
--@ok
def vr04_Bits.c (k:Nat):Con:=S162.con fun x=>vr04_Bits.f k x
def vr04_Bits.G (k:Nat):List (Go.FuncId×Cn):=[]
def vr04_Bits.cuts:List (Cut (TT S162.sb)):=[⟨[6,4,1,0,1,1,1],[.sc 3 (.int .i64),.sc 4 (.int .i64)],fun k x=>vr04_Bits.l0 k x.1 x.2⟩]
theorem vr04_Bits.w0 (k:Nat) (x:ET [.sc 3 (.int .i64),.sc 4 (.int .i64)]):walk E162 (vr04_Bits.G k) (cutsAt E162 k vr04_Bits.cuts) (retE E162 Tryz.f162.results.toList S162) 4000 true (stackAt B162 [6,4,1,0,1,1,1]) (mkE [.sc 3 (.int .i64),.sc 4 (.int .i64)] x St.nil)=vr04_Bits.l0 (k+1) x.1 x.2:=by kernel_rfl
theorem vr04_Bits.w (k:Nat) (x:TT S162.sa):walk E162 (vr04_Bits.G k) (cutsAt E162 k vr04_Bits.cuts) (retE E162 Tryz.f162.results.toList S162) 4000 true [([],.code B162)] (St0 S162 x)=vr04_Bits.f k x:=by kernel_rfl
theorem vr04_Bits.ok (k:Nat):FnOk Tryz.prog E162.eT 162 (vr04_Bits.c k):=FnOk.walk (E:=E162) (body:=B162) Tryz.func162 rfl (by rfl) Tryz.ntmps162 rfl S162 rfl (fun k x=>vr04_Bits.f k x) vr04_Bits.G (fun k=>trivial) 4000 vr04_Bits.cuts ⟨⟨fun _=>rfl,fun k x q h=>(vr04_Bits.w0 k x).trans h⟩,trivial⟩ (fun k x r h=>(vr04_Bits.w k x).trans h) k
end Go.Proofs.YtbpcfhhcoklinaaGreat.Fn
set_option maxRecDepth 100000
noncomputable section
namespace Go.Proofs.YtbpcfhhcoklinaaGreat.Fn
open Go Go.RowKit Go.Proofs.YtbpcfhhcoklinaaGreat.Ab
def E163:En:=⟨Tryz.prog,76,Tryz.f163.ntmps,none,false,[]⟩
def S163:Sig:=⟨[.s],[(.int .i64)],false,[.s],[(.int .i64)],false⟩
def B163:Go.Code:=Tryz.f163.body.get!
def vr07_Held.f (a0:Int):Option (Int):=if a0 < (-1099511627776) then (some (-1099511627776)) else (if a0 > 1099511627776 then (some 1099511627776) else (some a0))
--@ok
def vr07_Held.c:Con:=S163.con fun x=>vr07_Held.f x
def vr07_Held.G (k:Nat):List (Go.FuncId×Cn):=[]
def vr07_Held.cuts:List (Cut (TT S163.sb)):=[]
theorem vr07_Held.w (k:Nat) (x:TT S163.sa):walk E163 (vr07_Held.G k) (cutsAt E163 k vr07_Held.cuts) (retE E163 Tryz.f163.results.toList S163) 4000 true [([],.code B163)] (St0 S163 x)=vr07_Held.f x:=by kernel_rfl
theorem vr07_Held.ok:FnOk Tryz.prog E163.eT 163 (vr07_Held.c):=FnOk.walk (E:=E163) (body:=B163) Tryz.func163 rfl (by rfl) Tryz.ntmps163 rfl S163 rfl (fun k x=>vr07_Held.f x) vr07_Held.G (fun k=>trivial) 4000 vr07_Held.cuts trivial (fun k x r h=>(vr07_Held.w k x).trans h) 0
def E164:En:=⟨Tryz.prog,76,Tryz.f164.ntmps,none,false,[]⟩
def S164:Sig:=⟨[.s,.s],[(.rd .i64),(.int .i64)],false,[.s],[.bool],false⟩
def B164:Go.Code:=Tryz.f164.body.get!
mutual
def vr04_Low.l0:Nat→List Int→Int→Int→Option (Bool)
 | 0,_,_,_=>none
 | k+1,x0,x1,x5=>if x5 < (nI x0.length) then (vr04_Low.j1 k x0 x1 x5 (decide ((wrap64 (24*x5)) < x1))) else (vr04_Low.j1 k x0 x1 x5 false)
def vr04_Low.j1:Nat→List Int→Int→Int→Bool→Option (Bool)
 | 0,_,_,_,_=>none
 | k+1,x0,x1,x5,x16=>if x16=true then (if (wrap64 (x1 - (wrap64 (24*x5)))) < 24 then ((vr04_two.f k (wrap64 (x1 - (wrap64 (24*x5))))).bind fun t100=>(if 0≤x5 then (if x5 < (nI x0.length) then (if t100=0 then (none) else (if (Int.tmod (rd x0 x5) t100)=0 then (vr04_Low.l0 k x0 x1 (wrap64 (x5+1))) else (some true))) else (none)) else (none))) else (if 0≤x5 then (if x5 < (nI x0.length) then (if (Int.tmod (rd x0 x5) 16777216)=0 then (vr04_Low.l0 k x0 x1 (wrap64 (x5+1))) else (some true)) else (none)) else (none))) else (some false)
end
def vr04_Low.f (k:Nat) (l0:List Int) (a1:Int):Option (Bool):=vr04_Low.l0 k l0 a1 0
--@ok
def vr04_Low.c (k:Nat):Con:=S164.con fun x=>vr04_Low.f k x.1 x.2
def vr04_Low.G (k:Nat):List (Go.FuncId×Cn):=[(108,.f (vr04_two.c k))]
def vr04_Low.cuts:List (Cut (TT S164.sb)):=[⟨[6,4,1,0,1],[.sc 0 (.rd .i64),.sc 1 (.int .i64),.sc 5 (.int .i64)],fun k x=>vr04_Low.l0 k x.1 x.2.1 x.2.2⟩,⟨[1,0,6,4,1,0,1],[.sc 0 (.rd .i64),.sc 1 (.int .i64),.sc 5 (.int .i64),.sc 16 (.bool)],fun k x=>vr04_Low.j1 k x.1 x.2.1 x.2.2.1 x.2.2.2⟩]
theorem vr04_Low.w0 (k:Nat) (x:ET [.sc 0 (.rd .i64),.sc 1 (.int .i64),.sc 5 (.int .i64)]):walk E164 (vr04_Low.G k) (cutsAt E164 k vr04_Low.cuts) (retE E164 Tryz.f164.results.toList S164) 4000 true (stackAt B164 [6,4,1,0,1]) (mkE [.sc 0 (.rd .i64),.sc 1 (.int .i64),.sc 5 (.int .i64)] x St.nil)=vr04_Low.l0 (k+1) x.1 x.2.1 x.2.2:=by kernel_rfl
theorem vr04_Low.w1 (k:Nat) (x:ET [.sc 0 (.rd .i64),.sc 1 (.int .i64),.sc 5 (.int .i64),.sc 16 (.bool)]):walk E164 (vr04_Low.G k) (cutsAt E164 k vr04_Low.cuts) (retE E164 Tryz.f164.results.toList S164) 4000 true (stackAt B164 [1,0,6,4,1,0,1]) (mkE [.sc 0 (.rd .i64),.sc 1 (.int .i64),.sc 5 (.int .i64),.sc 16 (.bool)] x St.nil)=vr04_Low.j1 (k+1) x.1 x.2.1 x.2.2.1 x.2.2.2:=by kernel_rfl
theorem vr04_Low.w (k:Nat) (x:TT S164.sa):walk E164 (vr04_Low.G k) (cutsAt E164 k vr04_Low.cuts) (retE E164 Tryz.f164.results.toList S164) 4000 true [([],.code B164)] (St0 S164 x)=vr04_Low.f k x.1 x.2:=by kernel_rfl
theorem vr04_Low.ok (k:Nat):FnOk Tryz.prog E164.eT 164 (vr04_Low.c k):=FnOk.walk (E:=E164) (body:=B164) Tryz.func164 rfl (by rfl) Tryz.ntmps164 rfl S164 rfl (fun k x=>vr04_Low.f k x.1 x.2) vr04_Low.G (fun k=>⟨vr04_two.ok k,trivial⟩) 4000 vr04_Low.cuts ⟨⟨fun _=>rfl,fun k x q h=>(vr04_Low.w0 k x).trans h⟩,⟨fun _=>rfl,fun k x q h=>(vr04_Low.w1 k x).trans h⟩,trivial⟩ (fun k x r h=>(vr04_Low.w k x).trans h) k
def E118:En:=⟨Tryz.prog,76,Tryz.f118.ntmps,none,false,[]⟩
def S118:Sig:=⟨[.s,.s,.s,.s],[.bool,(.rd .i64),(.int .i64),.bool],false,[.g 6],[(.int .i64),.bool,(.int .i64),(.int .u64),(.int .u64),.bool],false⟩
def B118:Go.Code:=Tryz.f118.body.get!
mutual
def vr07_Exactly.j0:Nat→List Int→Bool→Int→Int→Bool→Int→Bool→Option (Int×Bool×Int×Int×Int×Bool)
 | 0,_,_,_,_,_,_,_=>none
 | k+1,x1,x3,x9,x10000,x10001,x10002,x10005=>if x9 > 128 then ((vr04_Low.f k x1 (wrap64 (x9 - 128))).bind fun t103=>(if x3=true then (vr07_Exactly.j1 k x1 x9 x10000 x10001 x10002 true) else (vr07_Exactly.j1 k x1 x9 x10000 x10001 x10002 t103))) else ((vr04_Word.f k x1).bind fun t104=>((vr04_Shr.f k x1 64).bind fun t105=>((vr04_Word.f k t105).bind fun t106=>(some (x10000,x10001,x10002,t106,t104,x10005)))))
def vr07_Exactly.j1:Nat→List Int→Int→Int→Bool→Int→Bool→Option (Int×Bool×Int×Int×Int×Bool)
 | 0,_,_,_,_,_,_=>none
 | k+1,x1,x9,x10000,x10001,x10002,x10005=>(vr04_Shr.f k x1 (wrap64 (x9 - 128))).bind fun t107=>((vr04_Word.f k t107).bind fun t108=>((vr04_Shr.f k t107 64).bind fun t109=>((vr04_Word.f k t109).bind fun t110=>(some (x10000,x10001,x10002,t110,t108,x10005)))))
end
def vr07_Exactly.f (k:Nat) (a0:Bool) (l1:List Int) (a2:Int) (a3:Bool):Option (Int×Bool×Int×Int×Int×Bool):=(vr04_Bits.f k l1).bind fun t100=>(if t100=0 then (some (0,false,0,0,0,false)) else ((vr07_Held.f (wrap64 ((wrap64 (a2+t100)) - 1))).bind fun t101=>(if t100 < 128 then ((vr04_Shl.f k l1 (wrap64 (128 - t100))).bind fun t102=>(vr07_Exactly.j0 k t102 a3 t100 1 a0 t101 a3)) else (vr07_Exactly.j0 k l1 a3 t100 1 a0 t101 a3))))
--@ok
def vr07_Exactly.c (k:Nat):Con:=S118.con fun x=>vr07_Exactly.f k x.1 x.2.1 x.2.2.1 x.2.2.2
def vr07_Exactly.G (k:Nat):List (Go.FuncId×Cn):=[(63,.f (vr04_Shl.c k)),(69,.f (vr04_Word.c k)),(70,.f (vr04_Shr.c k)),(162,.f (vr04_Bits.c k)),(163,.f vr07_Held.c),(164,.f (vr04_Low.c k))]
def vr07_Exactly.cuts:List (Cut (TT S118.sb)):=[⟨[1,1,1,1,1],[.sc 1 (.rd .i64),.sc 3 (.bool),.sc 9 (.int .i64),.box 8 120 [.int .i64,.bool,.int .i64,.int .u64,.int .u64,.bool],.box 10 120 [.int .i64,.bool,.int .i64,.int .u64,.int .u64,.bool]],fun k x=>vr07_Exactly.j0 k x.1 x.2.1 x.2.2.1 x.2.2.2.2.1 x.2.2.2.2.2.1 x.2.2.2.2.2.2.1 x.2.2.2.2.2.2.2.2.2⟩,⟨[1,1,2,1,0,1,1,1,1,1],[.sc 1 (.rd .i64),.sc 9 (.int .i64),.box 8 120 [.int .i64,.bool,.int .i64,.int .u64,.int .u64,.bool],.box 10 120 [.int .i64,.bool,.int .i64,.int .u64,.int .u64,.bool]],fun k x=>vr07_Exactly.j1 k x.1 x.2.1 x.2.2.2.1 x.2.2.2.2.1 x.2.2.2.2.2.1 x.2.2.2.2.2.2.2.2⟩]
theorem vr07_Exactly.w0 (k:Nat) (x:ET [.sc 1 (.rd .i64),.sc 3 (.bool),.sc 9 (.int .i64),.box 8 120 [.int .i64,.bool,.int .i64,.int .u64,.int .u64,.bool],.box 10 120 [.int .i64,.bool,.int .i64,.int .u64,.int .u64,.bool]]):walk E118 (vr07_Exactly.G k) (cutsAt E118 k vr07_Exactly.cuts) (retE E118 Tryz.f118.results.toList S118) 4000 true (stackAt B118 [1,1,1,1,1]) (mkE [.sc 1 (.rd .i64),.sc 3 (.bool),.sc 9 (.int .i64),.box 8 120 [.int .i64,.bool,.int .i64,.int .u64,.int .u64,.bool],.box 10 120 [.int .i64,.bool,.int .i64,.int .u64,.int .u64,.bool]] x St.nil)=vr07_Exactly.j0 (k+1) x.1 x.2.1 x.2.2.1 x.2.2.2.2.1 x.2.2.2.2.2.1 x.2.2.2.2.2.2.1 x.2.2.2.2.2.2.2.2.2:=by kernel_rfl
theorem vr07_Exactly.w1 (k:Nat) (x:ET [.sc 1 (.rd .i64),.sc 9 (.int .i64),.box 8 120 [.int .i64,.bool,.int .i64,.int .u64,.int .u64,.bool],.box 10 120 [.int .i64,.bool,.int .i64,.int .u64,.int .u64,.bool]]):walk E118 (vr07_Exactly.G k) (cutsAt E118 k vr07_Exactly.cuts) (retE E118 Tryz.f118.results.toList S118) 4000 true (stackAt B118 [1,1,2,1,0,1,1,1,1,1]) (mkE [.sc 1 (.rd .i64),.sc 9 (.int .i64),.box 8 120 [.int .i64,.bool,.int .i64,.int .u64,.int .u64,.bool],.box 10 120 [.int .i64,.bool,.int .i64,.int .u64,.int .u64,.bool]] x St.nil)=vr07_Exactly.j1 (k+1) x.1 x.2.1 x.2.2.2.1 x.2.2.2.2.1 x.2.2.2.2.2.1 x.2.2.2.2.2.2.2.2:=by kernel_rfl
theorem vr07_Exactly.w (k:Nat) (x:TT S118.sa):walk E118 (vr07_Exactly.G k) (cutsAt E118 k vr07_Exactly.cuts) (retE E118 Tryz.f118.results.toList S118) 4000 true [([],.code B118)] (St0 S118 x)=vr07_Exactly.f k x.1 x.2.1 x.2.2.1 x.2.2.2:=by kernel_rfl
theorem vr07_Exactly.ok (k:Nat):FnOk Tryz.prog E118.eT 118 (vr07_Exactly.c k):=FnOk.walk (E:=E118) (body:=B118) Tryz.func118 rfl (by rfl) Tryz.ntmps118 rfl S118 rfl (fun k x=>vr07_Exactly.f k x.1 x.2.1 x.2.2.1 x.2.2.2) vr07_Exactly.G (fun k=>⟨vr04_Shl.ok k,vr04_Word.ok k,vr04_Shr.ok k,vr04_Bits.ok k,vr07_Held.ok,vr04_Low.ok k,trivial⟩) 4000 vr07_Exactly.cuts ⟨⟨fun _=>rfl,fun k x q h=>(vr07_Exactly.w0 k x).trans h⟩,⟨fun _=>rfl,fun k x q h=>(vr07_Exactly.w1 k x).trans h⟩,trivial⟩ (fun k x r h=>(vr07_Exactly.w k x).trans h) k
def E149:En:=⟨Tryz.prog,76,Tryz.f149.ntmps,none,false,[]⟩
def S149:Sig:=⟨[.s,.s],[(.rd .i64),(.rd .i64)],false,[.s],[(.rd .i64)],true⟩
def B149:Go.Code:=Tryz.f149.body.get!
mutual
def vr04_Add.l0:Nat→List Int→List Int→List Int→Int→Int→Option (List Int)
 | 0,_,_,_,_,_=>none
 | k+1,x0,x1,x5,x6,x7=>if x7 < (nI x0.length) then (vr04_Add.j1 k x0 x1 x5 x6 x7 true) else (if x7 < (nI x1.length) then (vr04_Add.j1 k x0 x1 x5 x6 x7 true) else (vr04_Add.j1 k x0 x1 x5 x6 x7 (decide (x6 > 0))))
def vr04_Add.j1:Nat→List Int→List Int→List Int→Int→Int→Bool→Option (List Int)
 | 0,_,_,_,_,_,_=>none
 | k+1,x0,x1,x5,x6,x7,x22=>if x22=true then ((vr04_digit.f x0 x7).bind fun t100=>((vr04_digit.f x1 x7).bind fun t101=>(if x5.length < 17592186044416 then (vr04_Add.l0 k x0 x1 (x5++([Int.tmod (wrap64 ((wrap64 (t100+t101))+x6)) 16777216]:List Int)) (wrap64 (Int.tdiv (wrap64 ((wrap64 (t100+t101))+x6)) 16777216)) (wrap64 (x7+1))) else (none)))) else (some x5)
end
def vr04_Add.f (k:Nat) (l0:List Int) (l1:List Int):Option (List Int):=vr04_Add.l0 k l0 l1 ([]:List Int) 0 0
--@ok
def vr04_Add.c (k:Nat):Con:=S149.con fun x=>vr04_Add.f k x.1 x.2
def vr04_Add.G (k:Nat):List (Go.FuncId×Cn):=[(110,.f vr04_digit.c)]
def vr04_Add.cuts:List (Cut (TT S149.sb)):=[⟨[6,4,1,0,1,1,1],[.sc 0 (.rd .i64),.sc 1 (.rd .i64),.lst 5 .i64 3,.sc 6 (.int .i64),.sc 7 (.int .i64)],fun k x=>vr04_Add.l0 k x.1 x.2.1 x.2.2.1 x.2.2.2.1 x.2.2.2.2⟩,⟨[1,0,6,4,1,0,1,1,1],[.sc 0 (.rd .i64),.sc 1 (.rd .i64),.lst 5 .i64 3,.sc 6 (.int .i64),.sc 7 (.int .i64),.sc 22 (.bool)],fun k x=>vr04_Add.j1 k x.1 x.2.1 x.2.2.1 x.2.2.2.1 x.2.2.2.2.1 x.2.2.2.2.2⟩]
theorem vr04_Add.w0 (k:Nat) (x:ET [.sc 0 (.rd .i64),.sc 1 (.rd .i64),.lst 5 .i64 3,.sc 6 (.int .i64),.sc 7 (.int .i64)]):walk E149 (vr04_Add.G k) (cutsAt E149 k vr04_Add.cuts) (retE E149 Tryz.f149.results.toList S149) 4000 true (stackAt B149 [6,4,1,0,1,1,1]) (mkE [.sc 0 (.rd .i64),.sc 1 (.rd .i64),.lst 5 .i64 3,.sc 6 (.int .i64),.sc 7 (.int .i64)] x St.nil)=vr04_Add.l0 (k+1) x.1 x.2.1 x.2.2.1 x.2.2.2.1 x.2.2.2.2:=by kernel_rfl
theorem vr04_Add.w1 (k:Nat) (x:ET [.sc 0 (.rd .i64),.sc 1 (.rd .i64),.lst 5 .i64 3,.sc 6 (.int .i64),.sc 7 (.int .i64),.sc 22 (.bool)]):walk E149 (vr04_Add.G k) (cutsAt E149 k vr04_Add.cuts) (retE E149 Tryz.f149.results.toList S149) 4000 true (stackAt B149 [1,0,6,4,1,0,1,1,1]) (mkE [.sc 0 (.rd .i64),.sc 1 (.rd .i64),.lst 5 .i64 3,.sc 6 (.int .i64),.sc 7 (.int .i64),.sc 22 (.bool)] x St.nil)=vr04_Add.j1 (k+1) x.1 x.2.1 x.2.2.1 x.2.2.2.1 x.2.2.2.2.1 x.2.2.2.2.2:=by kernel_rfl
theorem vr04_Add.w (k:Nat) (x:TT S149.sa):walk E149 (vr04_Add.G k) (cutsAt E149 k vr04_Add.cuts) (retE E149 Tryz.f149.results.toList S149) 4000 true [([],.code B149)] (St0 S149 x)=vr04_Add.f k x.1 x.2:=by kernel_rfl
theorem vr04_Add.ok (k:Nat):FnOk Tryz.prog E149.eT 149 (vr04_Add.c k):=FnOk.walk (E:=E149) (body:=B149) Tryz.func149 rfl (by rfl) Tryz.ntmps149 rfl S149 rfl (fun k x=>vr04_Add.f k x.1 x.2) vr04_Add.G (fun k=>⟨vr04_digit.ok,trivial⟩) 4000 vr04_Add.cuts ⟨⟨fun _=>rfl,fun k x q h=>(vr04_Add.w0 k x).trans h⟩,⟨fun _=>rfl,fun k x q h=>(vr04_Add.w1 k x).trans h⟩,trivial⟩ (fun k x r h=>(vr04_Add.w k x).trans h) k
end Go.Proofs.YtbpcfhhcoklinaaGreat.Fn
set_option maxRecDepth 100000
noncomputable section
namespace Go.Proofs.YtbpcfhhcoklinaaGreat.Fn
open Go Go.RowKit Go.Proofs.YtbpcfhhcoklinaaGreat.Ab
def E64:En:=⟨Tryz.prog,76,Tryz.f64.ntmps,none,false,[]⟩
def S64:Sig:=⟨[.s],[(.int .u64)],false,[.s],[(.rd .i64)],true⟩
def B64:Go.Code:=Tryz.f64.body.get!
def vr04_Of.l0:Nat→Int→List Int→Option (List Int)
 | 0,_,_=>none
 | k+1,x0,x3=>if x0 > 0 then (if x3.length < 17592186044416 then (vr04_Of.l0 k (IntKind.u64.wrap (Int.tdiv x0 16777216)) (x3++([wrap64 (Int.tmod x0 16777216)]:List Int))) else (none)) else (some x3)
def vr04_Of.f (k:Nat) (a0:Int):Option (List Int):=vr04_Of.l0 k a0 ([]:List Int)
--@ok
def vr04_Of.c (k:Nat):Con:=S64.con fun x=>vr04_Of.f k x
def vr04_Of.G (k:Nat):List (Go.FuncId×Cn):=[]
def vr04_Of.cuts:List (Cut (TT S64.sb)):=[⟨[6,4,0,1,1],[.sc 0 (.int .u64),.lst 3 .i64 3],fun k x=>vr04_Of.l0 k x.1 x.2⟩]
theorem vr04_Of.w0 (k:Nat) (x:ET [.sc 0 (.int .u64),.lst 3 .i64 3]):walk E64 (vr04_Of.G k) (cutsAt E64 k vr04_Of.cuts) (retE E64 Tryz.f64.results.toList S64) 4000 true (stackAt B64 [6,4,0,1,1]) (mkE [.sc 0 (.int .u64),.lst 3 .i64 3] x St.nil)=vr04_Of.l0 (k+1) x.1 x.2:=by kernel_rfl
theorem vr04_Of.w (k:Nat) (x:TT S64.sa):walk E64 (vr04_Of.G k) (cutsAt E64 k vr04_Of.cuts) (retE E64 Tryz.f64.results.toList S64) 4000 true [([],.code B64)] (St0 S64 x)=vr04_Of.f k x:=by kernel_rfl
theorem vr04_Of.ok (k:Nat):FnOk Tryz.prog E64.eT 64 (vr04_Of.c k):=FnOk.walk (E:=E64) (body:=B64) Tryz.func64 rfl (by rfl) Tryz.ntmps64 rfl S64 rfl (fun k x=>vr04_Of.f k x) vr04_Of.G (fun k=>trivial) 4000 vr04_Of.cuts ⟨⟨fun _=>rfl,fun k x q h=>(vr04_Of.w0 k x).trans h⟩,trivial⟩ (fun k x r h=>(vr04_Of.w k x).trans h) k
def E103:En:=⟨Tryz.prog,76,Tryz.f103.ntmps,none,false,[]⟩
def S103:Sig:=⟨[.s,.s],[(.rd .i64),(.rd .i64)],false,[.s],[(.rd .i64)],true⟩
def B103:Go.Code:=Tryz.f103.body.get!
mutual
def vr04_Mul.j0:Nat→List Int→List Int→Bool→Option (List Int)
 | 0,_,_,_=>none
 | k+1,x0,x1,x17=>if x17=true then (some ([]:List Int)) else (if 0≤(wrap64 ((nI x0.length)+(nI x1.length))) then (if (((wrap64 ((nI x0.length)+(nI x1.length))):Int).toNat)≤35184372088832 then (vr04_Mul.l0 k x0 x1 (List.replicate (((wrap64 ((nI x0.length)+(nI x1.length))):Int).toNat) 0:List Int) 0) else (none)) else (none))
def vr04_Mul.l0:Nat→List Int→List Int→List Int→Int→Option (List Int)
 | 0,_,_,_,_=>none
 | k+1,x0,x1,x5,x6=>if x6 < (nI x0.length) then (vr04_Mul.l1 k x0 x1 x5 x6 0 0) else ((vr04_Cut.f k x5).bind fun t100=>(some t100))
def vr04_Mul.l1:Nat→List Int→List Int→List Int→Int→Int→Int→Option (List Int)
 | 0,_,_,_,_,_,_=>none
 | k+1,x0,x1,x5,x6,x7,x8=>if x8 < (nI x1.length) then (if 0≤(wrap64 (x6+x8)) then (if (wrap64 (x6+x8)) < (nI x5.length) then (if 0≤x6 then (if x6 < (nI x0.length) then (if 0≤x8 then (vr04_Mul.l1 k x0 x1 (x5.set (((wrap64 (x6+x8)):Int).toNat) (Int.tmod (wrap64 ((wrap64 ((rd x5 (wrap64 (x6+x8)))+(wrap64 ((rd x0 x6)*(rd x1 x8)))))+x7)) 16777216)) x6 (wrap64 (Int.tdiv (wrap64 ((wrap64 ((rd x5 (wrap64 (x6+x8)))+(wrap64 ((rd x0 x6)*(rd x1 x8)))))+x7)) 16777216)) (wrap64 (x8+1))) else (none)) else (none)) else (none)) else (none)) else (none)) else (if 0≤(wrap64 (x6+(nI x1.length))) then (if (wrap64 (x6+(nI x1.length))) < (nI x5.length) then (vr04_Mul.l0 k x0 x1 (x5.set (((wrap64 (x6+(nI x1.length))):Int).toNat) x7) (wrap64 (x6+1))) else (none)) else (none))
end
def vr04_Mul.f (k:Nat) (l0:List Int) (l1:List Int):Option (List Int):=if (nI l0.length)=0 then (vr04_Mul.j0 k l0 l1 true) else (vr04_Mul.j0 k l0 l1 ((nI l1.length)==0))
--@ok
def vr04_Mul.l1R (k:Nat) (x0:List Int) (x1:List Int) (x5:List Int) (x6:Int) (x7:Int) (x8:Int):Option (List Int):=if x8 < (nI x1.length) then (if 0≤(wrap64 (x6+x8)) then (if (wrap64 (x6+x8)) < (nI x5.length) then (if 0≤x6 then (if x6 < (nI x0.length) then (if 0≤x8 then (if x8 < (nI x1.length) then (if 0≤(wrap64 (x6+x8)) then (if (wrap64 (x6+x8)) < (nI x5.length) then (vr04_Mul.l1 k x0 x1 (x5.set (((wrap64 (x6+x8)):Int).toNat) (Int.tmod (wrap64 ((wrap64 ((rd x5 (wrap64 (x6+x8)))+(wrap64 ((rd x0 x6)*(rd x1 x8)))))+x7)) 16777216)) x6 (wrap64 (Int.tdiv (wrap64 ((wrap64 ((rd x5 (wrap64 (x6+x8)))+(wrap64 ((rd x0 x6)*(rd x1 x8)))))+x7)) 16777216)) (wrap64 (x8+1))) else (none)) else (none)) else (none)) else (none)) else (none)) else (none)) else (none)) else (none)) else (if 0≤(wrap64 (x6+(nI x1.length))) then (if (wrap64 (x6+(nI x1.length))) < (nI x5.length) then (vr04_Mul.l0 k x0 x1 (x5.set (((wrap64 (x6+(nI x1.length))):Int).toNat) x7) (wrap64 (x6+1))) else (none)) else (none))
theorem vr04_Mul.l1E (k:Nat) (x0:List Int) (x1:List Int) (x5:List Int) (x6:Int) (x7:Int) (x8:Int):vr04_Mul.l1R k x0 x1 x5 x6 x7 x8=vr04_Mul.l1 (k+1) x0 x1 x5 x6 x7 x8:=by
  unfold vr04_Mul.l1R
  rw [vr04_Mul.l1]
  exact iteC (fun h0=>iteC (fun h1=>iteC (fun h2=>iteC (fun h3=>iteC (fun h4=>iteC (fun h5=>(if_pos h0).trans ((if_pos h1).trans ((if_pos h2).trans (rfl)))) (fun h5=>rfl)) (fun h4=>rfl)) (fun h3=>rfl)) (fun h2=>rfl)) (fun h1=>rfl)) (fun h0=>iteC (fun h1=>iteC (fun h2=>rfl) (fun h2=>rfl)) (fun h1=>rfl))
def vr04_Mul.c (k:Nat):Con:=S103.con fun x=>vr04_Mul.f k x.1 x.2
def vr04_Mul.G (k:Nat):List (Go.FuncId×Cn):=[(111,.f (vr04_Cut.c k))]
def vr04_Mul.cuts:List (Cut (TT S103.sb)):=[⟨[1,0,1],[.sc 0 (.rd .i64),.sc 1 (.rd .i64),.sc 17 (.bool)],fun k x=>vr04_Mul.j0 k x.1 x.2.1 x.2.2⟩,⟨[6,4,1,0,1,1,1],[.sc 0 (.rd .i64),.sc 1 (.rd .i64),.lst 5 .i64 3,.sc 6 (.int .i64)],fun k x=>vr04_Mul.l0 k x.1 x.2.1 x.2.2.1 x.2.2.2⟩,⟨[6,4,1,0,1,4,0,1,6,4,1,0,1,1,1],[.sc 0 (.rd .i64),.sc 1 (.rd .i64),.lst 5 .i64 3,.sc 6 (.int .i64),.sc 7 (.int .i64),.sc 8 (.int .i64)],fun k x=>vr04_Mul.l1 k x.1 x.2.1 x.2.2.1 x.2.2.2.1 x.2.2.2.2.1 x.2.2.2.2.2⟩]
theorem vr04_Mul.w0 (k:Nat) (x:ET [.sc 0 (.rd .i64),.sc 1 (.rd .i64),.sc 17 (.bool)]):walk E103 (vr04_Mul.G k) (cutsAt E103 k vr04_Mul.cuts) (retE E103 Tryz.f103.results.toList S103) 4000 true (stackAt B103 [1,0,1]) (mkE [.sc 0 (.rd .i64),.sc 1 (.rd .i64),.sc 17 (.bool)] x St.nil)=vr04_Mul.j0 (k+1) x.1 x.2.1 x.2.2:=by kernel_rfl
theorem vr04_Mul.w1 (k:Nat) (x:ET [.sc 0 (.rd .i64),.sc 1 (.rd .i64),.lst 5 .i64 3,.sc 6 (.int .i64)]):walk E103 (vr04_Mul.G k) (cutsAt E103 k vr04_Mul.cuts) (retE E103 Tryz.f103.results.toList S103) 4000 true (stackAt B103 [6,4,1,0,1,1,1]) (mkE [.sc 0 (.rd .i64),.sc 1 (.rd .i64),.lst 5 .i64 3,.sc 6 (.int .i64)] x St.nil)=vr04_Mul.l0 (k+1) x.1 x.2.1 x.2.2.1 x.2.2.2:=by kernel_rfl
theorem vr04_Mul.w2 (k:Nat) (x:ET [.sc 0 (.rd .i64),.sc 1 (.rd .i64),.lst 5 .i64 3,.sc 6 (.int .i64),.sc 7 (.int .i64),.sc 8 (.int .i64)]):walk E103 (vr04_Mul.G k) (cutsAt E103 k vr04_Mul.cuts) (retE E103 Tryz.f103.results.toList S103) 4000 true (stackAt B103 [6,4,1,0,1,4,0,1,6,4,1,0,1,1,1]) (mkE [.sc 0 (.rd .i64),.sc 1 (.rd .i64),.lst 5 .i64 3,.sc 6 (.int .i64),.sc 7 (.int .i64),.sc 8 (.int .i64)] x St.nil)=vr04_Mul.l1 (k+1) x.1 x.2.1 x.2.2.1 x.2.2.2.1 x.2.2.2.2.1 x.2.2.2.2.2:=Eq.trans (b:=vr04_Mul.l1R k x.1 x.2.1 x.2.2.1 x.2.2.2.1 x.2.2.2.2.1 x.2.2.2.2.2) (by kernel_rfl) (vr04_Mul.l1E k x.1 x.2.1 x.2.2.1 x.2.2.2.1 x.2.2.2.2.1 x.2.2.2.2.2)
theorem vr04_Mul.w (k:Nat) (x:TT S103.sa):walk E103 (vr04_Mul.G k) (cutsAt E103 k vr04_Mul.cuts) (retE E103 Tryz.f103.results.toList S103) 4000 true [([],.code B103)] (St0 S103 x)=vr04_Mul.f k x.1 x.2:=by kernel_rfl
theorem vr04_Mul.ok (k:Nat):FnOk Tryz.prog E103.eT 103 (vr04_Mul.c k):=FnOk.walk (E:=E103) (body:=B103) Tryz.func103 rfl (by rfl) Tryz.ntmps103 rfl S103 rfl (fun k x=>vr04_Mul.f k x.1 x.2) vr04_Mul.G (fun k=>⟨vr04_Cut.ok k,trivial⟩) 4000 vr04_Mul.cuts ⟨⟨fun _=>rfl,fun k x q h=>(vr04_Mul.w0 k x).trans h⟩,⟨fun _=>rfl,fun k x q h=>(vr04_Mul.w1 k x).trans h⟩,⟨fun _=>rfl,fun k x q h=>(vr04_Mul.w2 k x).trans h⟩,trivial⟩ (fun k x r h=>(vr04_Mul.w k x).trans h) k
def E50:En:=⟨Tryz.prog,76,Tryz.f50.ntmps,none,false,[]⟩
def S50:Sig:=⟨[.s],[.err],false,[.s],[(.int .i64)],false⟩
def B50:Go.Code:=Tryz.f50.body.get!
def vl00_further.f (a0:Option Int):Option (Int):=if a0.isNone=true then (some (-1)) else (if (a0.getD 0)=13 then (some 13) else (if (a0.getD 0)=14 then (some 14) else (if (a0.getD 0)=15 then (some 15) else (if (a0.getD 0)=16 then (some 16) else (if (a0.getD 0)=17 then (some 17) else (if (a0.getD 0)=18 then (some 18) else (if (a0.getD 0)=19 then (some 19) else (if (a0.getD 0)=20 then (some 20) else (if (a0.getD 0)=21 then (some 21) else (if (a0.getD 0)=22 then (some 22) else (if (a0.getD 0)=23 then (some 23) else (if (a0.getD 0)=24 then (some 24) else (some (-1))))))))))))))
--@ok
def vl00_further.c:Con:=S50.con fun x=>vl00_further.f x
def vl00_further.G (k:Nat):List (Go.FuncId×Cn):=[]
def vl00_further.cuts:List (Cut (TT S50.sb)):=[]
theorem vl00_further.w (k:Nat) (x:TT S50.sa):walk E50 (vl00_further.G k) (cutsAt E50 k vl00_further.cuts) (retE E50 Tryz.f50.results.toList S50) 4000 true [([],.code B50)] (St0 S50 x)=vl00_further.f x:=by kernel_rfl
theorem vl00_further.ok:FnOk Tryz.prog E50.eT 50 (vl00_further.c):=FnOk.walk (E:=E50) (body:=B50) Tryz.func50 rfl (by rfl) Tryz.ntmps50 rfl S50 rfl (fun k x=>vl00_further.f x) vl00_further.G (fun k=>trivial) 4000 vl00_further.cuts trivial (fun k x r h=>(vl00_further.w k x).trans h) 0
def E13:En:=⟨Tryz.prog,76,Tryz.f13.ntmps,none,false,[]⟩
def S13:Sig:=⟨[.s],[.err],false,[.s],[(.int .i64)],false⟩
def B13:Go.Code:=Tryz.f13.body.get!
def vl00_Code.f (a0:Option Int):Option (Int):=if a0.isNone=true then (some 0) else (if (a0.getD 0)=1 then (some 1) else (if (a0.getD 0)=2 then (some 2) else (if (a0.getD 0)=3 then (some 3) else (if (a0.getD 0)=4 then (some 4) else (if (a0.getD 0)=5 then (some 5) else (if (a0.getD 0)=6 then (some 6) else (if (a0.getD 0)=7 then (some 7) else (if (a0.getD 0)=8 then (some 8) else (if (a0.getD 0)=9 then (some 9) else (if (a0.getD 0)=10 then (some 10) else (if (a0.getD 0)=11 then (some 11) else (if (a0.getD 0)=12 then (some 12) else ((vl00_further.f (some (a0.getD 0))).bind fun t100=>(some t100))))))))))))))
--@ok
def vl00_Code.c:Con:=S13.con fun x=>vl00_Code.f x
def vl00_Code.G (k:Nat):List (Go.FuncId×Cn):=[(50,.f vl00_further.c)]
def vl00_Code.cuts:List (Cut (TT S13.sb)):=[]
theorem vl00_Code.w (k:Nat) (x:TT S13.sa):walk E13 (vl00_Code.G k) (cutsAt E13 k vl00_Code.cuts) (retE E13 Tryz.f13.results.toList S13) 4000 true [([],.code B13)] (St0 S13 x)=vl00_Code.f x:=by kernel_rfl
theorem vl00_Code.ok:FnOk Tryz.prog E13.eT 13 (vl00_Code.c):=FnOk.walk (E:=E13) (body:=B13) Tryz.func13 rfl (by rfl) Tryz.ntmps13 rfl S13 rfl (fun k x=>vl00_Code.f x) vl00_Code.G (fun k=>⟨vl00_further.ok,trivial⟩) 4000 vl00_Code.cuts trivial (fun k x r h=>(vl00_Code.w k x).trans h) 0
end Go.Proofs.YtbpcfhhcoklinaaGreat.Fn
set_option maxRecDepth 100000
noncomputable section
namespace Go.Proofs.YtbpcfhhcoklinaaGreat.Fn
open Go Go.RowKit Go.Proofs.YtbpcfhhcoklinaaGreat.Ab
def S77:RSig:=⟨some ⟨[.int .i64,.bool,.int .i64,.bool,.row .i64],none⟩,105,false,true,[],[],none,0,false,[.g 6],[(.int .i64),.bool,(.int .i64),(.int .u64),(.int .u64),.bool],false⟩
def E77 (gg:Nat):En:=enR Tryz.prog 76 Tryz.f77.ntmps [] S77 gg
def B77:Go.Code:=Tryz.f77.body.get!
def vr15_Acc_Exact.f (k:Nat) (c0:Int) (c1:Bool) (c2:Int) (c3:Bool) (c4:List Int):Option (Unit×Unit×(Int×Bool×Int×Int×Int×Bool)):=if c1=true then (some ((),(),(2,false,0,0,0,false))) else ((vr07_Exactly.f k c3 c4 (wrap64 (16 - (wrap64 (8*c0)))) false).bind fun t100=>(some ((),(),(t100.1,t100.2.1,t100.2.2.1,t100.2.2.2.1,t100.2.2.2.2.1,t100.2.2.2.2.2))))
--@ok
def vr15_Acc_Exact.c (k:Nat):RCon:=S77.con fun x y=>vr15_Acc_Exact.f k x.1 x.2.1 x.2.2.1 x.2.2.2.1 x.2.2.2.2
def vr15_Acc_Exact.G (k:Nat):List (Go.FuncId×Cn):=[(118,.f (vr07_Exactly.c k))]
def vr15_Acc_Exact.cuts:List (Cut (RSig.R S77)):=[]
theorem vr15_Acc_Exact.w (gg:Nat) (k:Nat) (x:RcT S77.rL S77.win) (y:TT S77.sa):walk (E77 gg) (vr15_Acc_Exact.G k) (cutsAt (E77 gg) k vr15_Acc_Exact.cuts) (retR (E77 gg) Tryz.f77.results.toList S77) 4000 true [([],.code B77)] (St0R S77 x y)=vr15_Acc_Exact.f k x.1 x.2.1 x.2.2.1 x.2.2.2.1 x.2.2.2.2:=by kernel_rfl
theorem vr15_Acc_Exact.ok (k:Nat):FnOkR Tryz.prog (E77 0).eT 77 (vr15_Acc_Exact.c k):=FnOkR.walk (P:=(E77 0).P) (eT:=(E77 0).eT) (N:=(E77 0).N) (wf:=(E77 0).wf) (body:=B77) Tryz.func77 rfl (by rfl) Tryz.ntmps77 S77 (by rfl) (fun k x y=>vr15_Acc_Exact.f k x.1 x.2.1 x.2.2.1 x.2.2.2.1 x.2.2.2.2) vr15_Acc_Exact.G (fun k=>⟨vr07_Exactly.ok k,trivial⟩) 4000 vr15_Acc_Exact.cuts (fun gg=>trivial) (fun gg k x y r h=>(vr15_Acc_Exact.w gg k x y).trans h) k
def S32:RSig:=⟨some ⟨[.int .i64,.bool,.int .i64,.bool,.row .i64],none⟩,105,false,true,[],[],none,0,false,[.s],[(.int .u64)],false⟩
def E32 (gg:Nat):En:=enR Tryz.prog 76 Tryz.f32.ntmps [] S32 gg
def B32:Go.Code:=Tryz.f32.body.get!
def vr15_Acc_Round.f (k:Nat) (c0:Int) (c1:Bool) (c2:Int) (c3:Bool) (c4:List Int):Option (Unit×Unit×(Int)):=(vr15_Acc_Exact.f k c0 c1 c2 c3 c4).bind fun t100=>((vr07_Round.f k c0 t100.2.2.1 t100.2.2.2.1 t100.2.2.2.2.1 t100.2.2.2.2.2.1 t100.2.2.2.2.2.2.1 t100.2.2.2.2.2.2.2).bind fun t101=>(some ((),(),t101)))
--@ok
def vr15_Acc_Round.c (k:Nat):RCon:=S32.con fun x y=>vr15_Acc_Round.f k x.1 x.2.1 x.2.2.1 x.2.2.2.1 x.2.2.2.2
def vr15_Acc_Round.G (k:Nat):List (Go.FuncId×Cn):=[(76,.f (vr07_Round.c k)),(77,.r (vr15_Acc_Exact.c k))]
def vr15_Acc_Round.cuts:List (Cut (RSig.R S32)):=[]
theorem vr15_Acc_Round.w (gg:Nat) (k:Nat) (x:RcT S32.rL S32.win) (y:TT S32.sa):walk (E32 gg) (vr15_Acc_Round.G k) (cutsAt (E32 gg) k vr15_Acc_Round.cuts) (retR (E32 gg) Tryz.f32.results.toList S32) 4000 true [([],.code B32)] (St0R S32 x y)=vr15_Acc_Round.f k x.1 x.2.1 x.2.2.1 x.2.2.2.1 x.2.2.2.2:=by kernel_rfl
theorem vr15_Acc_Round.ok (k:Nat):FnOkR Tryz.prog (E32 0).eT 32 (vr15_Acc_Round.c k):=FnOkR.walk (P:=(E32 0).P) (eT:=(E32 0).eT) (N:=(E32 0).N) (wf:=(E32 0).wf) (body:=B32) Tryz.func32 rfl (by rfl) Tryz.ntmps32 S32 (by rfl) (fun k x y=>vr15_Acc_Round.f k x.1 x.2.1 x.2.2.1 x.2.2.2.1 x.2.2.2.2) vr15_Acc_Round.G (fun k=>⟨vr07_Round.ok k,vr15_Acc_Exact.ok k,trivial⟩) 4000 vr15_Acc_Round.cuts (fun gg=>trivial) (fun gg k x y r h=>(vr15_Acc_Round.w gg k x y).trans h) k
def S104:RSig:=⟨some ⟨[.int .i64,.bool,.int .i64,.bool,.row .i64],none⟩,105,false,false,[.s,.s],[.bool,(.rd .i64)],none,0,true,[],[],true⟩
def E104 (gg:Nat):En:=enR Tryz.prog 76 Tryz.f104.ntmps [] S104 gg
def B104:Go.Code:=Tryz.f104.body.get!
def vr15_Acc_plus.f (k:Nat) (c0:Int) (c1:Bool) (c2:Int) (c3:Bool) (c4:List Int) (a1:Bool) (l2:List Int):Option (((Int×Bool×Int×Bool×List Int))×Unit×(Unit)):=if (a1==c3)=true then ((vr04_Add.f k c4 l2).bind fun t100=>(some ((c0,c1,c2,c3,t100),(),()))) else ((vr04_Cmp.f k c4 l2).bind fun t101=>(if t101≥0 then ((vr04_Sub.f k c4 l2).bind fun t102=>(if (nI t102.length)=0 then (some ((c0,c1,c2,false,t102),(),())) else (some ((c0,c1,c2,c3,t102),(),())))) else ((vr04_Sub.f k l2 c4).bind fun t103=>(if (nI t103.length)=0 then (some ((c0,c1,c2,false,t103),(),())) else (some ((c0,c1,c2,a1,t103),(),()))))))
--@ok
def vr15_Acc_plus.c (k:Nat):RCon:=S104.con fun x y=>vr15_Acc_plus.f k x.1 x.2.1 x.2.2.1 x.2.2.2.1 x.2.2.2.2 y.1 y.2
def vr15_Acc_plus.G (k:Nat):List (Go.FuncId×Cn):=[(65,.f (vr04_Cmp.c k)),(68,.f (vr04_Sub.c k)),(149,.f (vr04_Add.c k))]
def vr15_Acc_plus.cuts:List (Cut (RSig.R S104)):=[]
theorem vr15_Acc_plus.w (gg:Nat) (k:Nat) (x:RcT S104.rL S104.win) (y:TT S104.sa):walk (E104 gg) (vr15_Acc_plus.G k) (cutsAt (E104 gg) k vr15_Acc_plus.cuts) (retR (E104 gg) Tryz.f104.results.toList S104) 4000 true [([],.code B104)] (St0R S104 x y)=vr15_Acc_plus.f k x.1 x.2.1 x.2.2.1 x.2.2.2.1 x.2.2.2.2 y.1 y.2:=by kernel_rfl
theorem vr15_Acc_plus.ok (k:Nat):FnOkR Tryz.prog (E104 0).eT 104 (vr15_Acc_plus.c k):=FnOkR.walk (P:=(E104 0).P) (eT:=(E104 0).eT) (N:=(E104 0).N) (wf:=(E104 0).wf) (body:=B104) Tryz.func104 rfl (by rfl) Tryz.ntmps104 S104 (by rfl) (fun k x y=>vr15_Acc_plus.f k x.1 x.2.1 x.2.2.1 x.2.2.2.1 x.2.2.2.2 y.1 y.2) vr15_Acc_plus.G (fun k=>⟨vr04_Cmp.ok k,vr04_Sub.ok k,vr04_Add.ok k,trivial⟩) 4000 vr15_Acc_plus.cuts (fun gg=>trivial) (fun gg k x y r h=>(vr15_Acc_plus.w gg k x y).trans h) k
def S54:RSig:=⟨some ⟨[.int .i64,.bool,.int .i64,.bool,.row .i64],none⟩,105,false,false,[.s,.s,.s],[(.int .u64),(.int .u64),.bool],none,0,false,[.s],[.bool],true⟩
def E54 (gg:Nat):En:=enR Tryz.prog 76 Tryz.f54.ntmps [104] S54 gg
def B54:Go.Code:=Tryz.f54.body.get!
mutual
def vr15_Acc_Put.j0:Nat→Int→Bool→Int→Bool→List Int→Bool→Bool→Int→Bool→Int→Int→Int→Bool→Int→Int→Option (((Int×Bool×Int×Bool×List Int))×Unit×(Bool))
 | 0,_,_,_,_,_,_,_,_,_,_,_,_,_,_,_=>none
 | k+1,y0,y1,y2,y3,y4,x3,x45,x9000,x9001,x9002,x9003,x10000,x10001,x10002,x10003=>if x45=true then (vr15_Acc_Put.j1 k y0 true y2 false ([]:List Int) x3 x9000 x9001 x9002 x9003 x10000 x10001 x10002 x10003) else (vr15_Acc_Put.j1 k y0 y1 y2 y3 y4 x3 x9000 x9001 x9002 x9003 x10000 x10001 x10002 x10003)
def vr15_Acc_Put.j1:Nat→Int→Bool→Int→Bool→List Int→Bool→Int→Bool→Int→Int→Int→Bool→Int→Int→Option (((Int×Bool×Int×Bool×List Int))×Unit×(Bool))
 | 0,_,_,_,_,_,_,_,_,_,_,_,_,_,_=>none
 | k+1,y0,y1,y2,y3,y4,x3,x9000,x9001,x9002,x9003,x10000,x10001,x10002,x10003=>if y1=true then (vr15_Acc_Put.j2 k y0 y1 y2 y3 y4 x3 true x9001 x9002 x9003 x10001 x10002 x10003) else (if x9000=0 then (vr15_Acc_Put.j2 k y0 y1 y2 y3 y4 x3 true x9001 x9002 x9003 x10001 x10002 x10003) else (vr15_Acc_Put.j2 k y0 y1 y2 y3 y4 x3 (x10000==0) x9001 x9002 x9003 x10001 x10002 x10003))
def vr15_Acc_Put.j2:Nat→Int→Bool→Int→Bool→List Int→Bool→Bool→Bool→Int→Int→Bool→Int→Int→Option (((Int×Bool×Int×Bool×List Int))×Unit×(Bool))
 | 0,_,_,_,_,_,_,_,_,_,_,_,_,_=>none
 | k+1,y0,y1,y2,y3,y4,x3,x68,x9001,x9002,x9003,x10001,x10002,x10003=>if x68=true then (some ((y0,y1,y2,y3,y4),(),true)) else ((vr04_Of.f k x9003).bind fun t102=>((vr04_Of.f k x10003).bind fun t103=>((vr04_Mul.f k t102 t103).bind fun t104=>(if (wrap64 ((wrap64 ((wrap64 ((wrap64 (x9002+x10002)) - 126))+(wrap64 (8*y0)))) - 16))≥0 then ((vr04_Shl.f k t104 (wrap64 ((wrap64 ((wrap64 ((wrap64 (x9002+x10002)) - 126))+(wrap64 (8*y0)))) - 16))).bind fun t105=>((vr15_Acc_plus.f k y0 y1 y2 y3 y4 (!((!(x9001==x10001))==x3)) t105).bind fun t106=>(some ((t106.1.1,t106.1.2.1,t106.1.2.2.1,t106.1.2.2.2.1,t106.1.2.2.2.2),(),true)))) else ((vr04_Shr.f k t104 (wrap64 (-(wrap64 ((wrap64 ((wrap64 ((wrap64 (x9002+x10002)) - 126))+(wrap64 (8*y0)))) - 16))))).bind fun t107=>((vr15_Acc_plus.f k y0 y1 y2 y3 y4 (!((!(x9001==x10001))==x3)) t107).bind fun t108=>(some ((t108.1.1,t108.1.2.1,t108.1.2.2.1,t108.1.2.2.2.1,t108.1.2.2.2.2),(),true))))))))
end
def vr15_Acc_Put.f (k:Nat) (c0:Int) (c1:Bool) (c2:Int) (c3:Bool) (c4:List Int) (a1:Int) (a2:Int) (a3:Bool):Option (((Int×Bool×Int×Bool×List Int))×Unit×(Bool)):=if c2=2147483647 then (some ((c0,c1,c2,c3,c4),(),false)) else ((vr06_Decode.f k c0 a1).bind fun t100=>((vr06_Decode.f k c0 a2).bind fun t101=>(if t100.1=2 then (vr15_Acc_Put.j0 k c0 c1 (wrap64 (c2+1)) c3 c4 a3 true t100.1 t100.2.1 t100.2.2.1 t100.2.2.2 t101.1 t101.2.1 t101.2.2.1 t101.2.2.2) else (vr15_Acc_Put.j0 k c0 c1 (wrap64 (c2+1)) c3 c4 a3 (t101.1==2) t100.1 t100.2.1 t100.2.2.1 t100.2.2.2 t101.1 t101.2.1 t101.2.2.1 t101.2.2.2))))
--@ok
def vr15_Acc_Put.c (k:Nat):RCon:=S54.con fun x y=>vr15_Acc_Put.f k x.1 x.2.1 x.2.2.1 x.2.2.2.1 x.2.2.2.2 y.1 y.2.1 y.2.2
def vr15_Acc_Put.G (k:Nat):List (Go.FuncId×Cn):=[(63,.f (vr04_Shl.c k)),(64,.f (vr04_Of.c k)),(70,.f (vr04_Shr.c k)),(100,.f (vr06_Decode.c k)),(103,.f (vr04_Mul.c k)),(104,.r (vr15_Acc_plus.c k))]
def vr15_Acc_Put.cuts:List (Cut (RSig.R S54)):=[⟨[1,0,1,1,1,1,1],[.box 0 105 [.int .i64,.bool,.int .i64,.bool,.rd .i64],.sc 3 (.bool),.sc 45 (.bool),.box 9 137 [.int .i64,.bool,.int .i64,.int .u64],.box 10 137 [.int .i64,.bool,.int .i64,.int .u64]],fun k x=>vr15_Acc_Put.j0 k x.1.1 x.1.2.1 x.1.2.2.1 x.1.2.2.2.1 x.1.2.2.2.2 x.2.1 x.2.2.1 x.2.2.2.1.1 x.2.2.2.1.2.1 x.2.2.2.1.2.2.1 x.2.2.2.1.2.2.2 x.2.2.2.2.1 x.2.2.2.2.2.1 x.2.2.2.2.2.2.1 x.2.2.2.2.2.2.2⟩,⟨[1,1,1,1,1,1],[.box 0 105 [.int .i64,.bool,.int .i64,.bool,.rd .i64],.sc 3 (.bool),.box 9 137 [.int .i64,.bool,.int .i64,.int .u64],.box 10 137 [.int .i64,.bool,.int .i64,.int .u64]],fun k x=>vr15_Acc_Put.j1 k x.1.1 x.1.2.1 x.1.2.2.1 x.1.2.2.2.1 x.1.2.2.2.2 x.2.1 x.2.2.1.1 x.2.2.1.2.1 x.2.2.1.2.2.1 x.2.2.1.2.2.2 x.2.2.2.1 x.2.2.2.2.1 x.2.2.2.2.2.1 x.2.2.2.2.2.2⟩,⟨[1,0,1,1,1,1,1,1],[.box 0 105 [.int .i64,.bool,.int .i64,.bool,.rd .i64],.sc 3 (.bool),.sc 68 (.bool),.box 9 137 [.int .i64,.bool,.int .i64,.int .u64],.box 10 137 [.int .i64,.bool,.int .i64,.int .u64]],fun k x=>vr15_Acc_Put.j2 k x.1.1 x.1.2.1 x.1.2.2.1 x.1.2.2.2.1 x.1.2.2.2.2 x.2.1 x.2.2.1 x.2.2.2.1.2.1 x.2.2.2.1.2.2.1 x.2.2.2.1.2.2.2 x.2.2.2.2.2.1 x.2.2.2.2.2.2.1 x.2.2.2.2.2.2.2⟩]
theorem vr15_Acc_Put.w0 (gg:Nat) (k:Nat) (x:ET [.box 0 105 [.int .i64,.bool,.int .i64,.bool,.rd .i64],.sc 3 (.bool),.sc 45 (.bool),.box 9 137 [.int .i64,.bool,.int .i64,.int .u64],.box 10 137 [.int .i64,.bool,.int .i64,.int .u64]]):walk (E54 gg) (vr15_Acc_Put.G k) (cutsAt (E54 gg) k vr15_Acc_Put.cuts) (retR (E54 gg) Tryz.f54.results.toList S54) 4000 true (stackAt B54 [1,0,1,1,1,1,1]) (mkE [.box 0 105 [.int .i64,.bool,.int .i64,.bool,.rd .i64],.sc 3 (.bool),.sc 45 (.bool),.box 9 137 [.int .i64,.bool,.int .i64,.int .u64],.box 10 137 [.int .i64,.bool,.int .i64,.int .u64]] x St.nil)=vr15_Acc_Put.j0 (k+1) x.1.1 x.1.2.1 x.1.2.2.1 x.1.2.2.2.1 x.1.2.2.2.2 x.2.1 x.2.2.1 x.2.2.2.1.1 x.2.2.2.1.2.1 x.2.2.2.1.2.2.1 x.2.2.2.1.2.2.2 x.2.2.2.2.1 x.2.2.2.2.2.1 x.2.2.2.2.2.2.1 x.2.2.2.2.2.2.2:=by kernel_rfl
theorem vr15_Acc_Put.w1 (gg:Nat) (k:Nat) (x:ET [.box 0 105 [.int .i64,.bool,.int .i64,.bool,.rd .i64],.sc 3 (.bool),.box 9 137 [.int .i64,.bool,.int .i64,.int .u64],.box 10 137 [.int .i64,.bool,.int .i64,.int .u64]]):walk (E54 gg) (vr15_Acc_Put.G k) (cutsAt (E54 gg) k vr15_Acc_Put.cuts) (retR (E54 gg) Tryz.f54.results.toList S54) 4000 true (stackAt B54 [1,1,1,1,1,1]) (mkE [.box 0 105 [.int .i64,.bool,.int .i64,.bool,.rd .i64],.sc 3 (.bool),.box 9 137 [.int .i64,.bool,.int .i64,.int .u64],.box 10 137 [.int .i64,.bool,.int .i64,.int .u64]] x St.nil)=vr15_Acc_Put.j1 (k+1) x.1.1 x.1.2.1 x.1.2.2.1 x.1.2.2.2.1 x.1.2.2.2.2 x.2.1 x.2.2.1.1 x.2.2.1.2.1 x.2.2.1.2.2.1 x.2.2.1.2.2.2 x.2.2.2.1 x.2.2.2.2.1 x.2.2.2.2.2.1 x.2.2.2.2.2.2:=by kernel_rfl
theorem vr15_Acc_Put.w2 (gg:Nat) (k:Nat) (x:ET [.box 0 105 [.int .i64,.bool,.int .i64,.bool,.rd .i64],.sc 3 (.bool),.sc 68 (.bool),.box 9 137 [.int .i64,.bool,.int .i64,.int .u64],.box 10 137 [.int .i64,.bool,.int .i64,.int .u64]]):walk (E54 gg) (vr15_Acc_Put.G k) (cutsAt (E54 gg) k vr15_Acc_Put.cuts) (retR (E54 gg) Tryz.f54.results.toList S54) 4000 true (stackAt B54 [1,0,1,1,1,1,1,1]) (mkE [.box 0 105 [.int .i64,.bool,.int .i64,.bool,.rd .i64],.sc 3 (.bool),.sc 68 (.bool),.box 9 137 [.int .i64,.bool,.int .i64,.int .u64],.box 10 137 [.int .i64,.bool,.int .i64,.int .u64]] x St.nil)=vr15_Acc_Put.j2 (k+1) x.1.1 x.1.2.1 x.1.2.2.1 x.1.2.2.2.1 x.1.2.2.2.2 x.2.1 x.2.2.1 x.2.2.2.1.2.1 x.2.2.2.1.2.2.1 x.2.2.2.1.2.2.2 x.2.2.2.2.2.1 x.2.2.2.2.2.2.1 x.2.2.2.2.2.2.2:=by kernel_rfl
theorem vr15_Acc_Put.w (gg:Nat) (k:Nat) (x:RcT S54.rL S54.win) (y:TT S54.sa):walk (E54 gg) (vr15_Acc_Put.G k) (cutsAt (E54 gg) k vr15_Acc_Put.cuts) (retR (E54 gg) Tryz.f54.results.toList S54) 4000 true [([],.code B54)] (St0R S54 x y)=vr15_Acc_Put.f k x.1 x.2.1 x.2.2.1 x.2.2.2.1 x.2.2.2.2 y.1 y.2.1 y.2.2:=by kernel_rfl
theorem vr15_Acc_Put.ok (k:Nat):FnOkR Tryz.prog (E54 0).eT 54 (vr15_Acc_Put.c k):=FnOkR.walk (P:=(E54 0).P) (eT:=(E54 0).eT) (N:=(E54 0).N) (wf:=(E54 0).wf) (body:=B54) Tryz.func54 rfl (by rfl) Tryz.ntmps54 S54 (by rfl) (fun k x y=>vr15_Acc_Put.f k x.1 x.2.1 x.2.2.1 x.2.2.2.1 x.2.2.2.2 y.1 y.2.1 y.2.2) vr15_Acc_Put.G (fun k=>⟨vr04_Shl.ok k,vr04_Of.ok k,vr04_Shr.ok k,vr06_Decode.ok k,vr04_Mul.ok k,vr15_Acc_plus.ok k,trivial⟩) 4000 vr15_Acc_Put.cuts (fun gg=>⟨⟨fun _=>rfl,fun k x q h=>(vr15_Acc_Put.w0 gg k x).trans h⟩,⟨fun _=>rfl,fun k x q h=>(vr15_Acc_Put.w1 gg k x).trans h⟩,⟨fun _=>rfl,fun k x q h=>(vr15_Acc_Put.w2 gg k x).trans h⟩,trivial⟩) (fun gg k x y r h=>(vr15_Acc_Put.w gg k x y).trans h) k
end Go.Proofs.YtbpcfhhcoklinaaGreat.Fn
set_option maxRecDepth 100000
noncomputable section
namespace Go.Proofs.YtbpcfhhcoklinaaGreat.Fn
open Go Go.RowKit Go.Proofs.YtbpcfhhcoklinaaGreat.Ab
def S61:RSig:=⟨some ⟨[.int .i64,.bool,.int .i64],some (.u64,16)⟩,100,false,true,[],[],none,0,false,[.s],[.bool],false⟩
def E61 (gg:Nat):En:=enR Tryz.prog 76 Tryz.f61.ntmps [] S61 gg
def B61:Go.Code:=Tryz.f61.body.get!
mutual
def accum_Acc_room.j0:Nat→Bool→Int→Int→Int→Bool→List Int→Option (Unit×Unit×(Bool))
 | 0,_,_,_,_,_,_=>none
 | k+1,y1,y2,x4,x5,x33,x3900=>if x33=true then (if 0≤(wrap64 ((wrap64 (Int.tdiv x4 64))+1)) then (if (wrap64 ((wrap64 (Int.tdiv x4 64))+1)) < 16 then (if 0≤(wrap64 (64 - (Int.tmod x4 64))) then (accum_Acc_room.j1 k ((y1,y2).1) ((y1,y2).2) x4 (Go.bits .or .u64 x5 (shl .u64 (rd x3900 (wrap64 ((wrap64 (Int.tdiv x4 64))+1))) (wrap64 (64 - (Int.tmod x4 64))))) x3900) else (none)) else (none)) else (none)) else (accum_Acc_room.j1 k ((y1,y2).1) ((y1,y2).2) x4 x5 x3900)
def accum_Acc_room.j1:Nat→Bool→Int→Int→Int→List Int→Option (Unit×Unit×(Bool))
 | 0,_,_,_,_,_=>none
 | k+1,y1,y2,x4,x5,x3900=>if x5=(IntKind.u64.wrap ((y1,y2).2)) then (if (Int.tmod x4 64) > 0 then (if 0≤(wrap64 (Int.tdiv x4 64)) then (if (wrap64 (Int.tdiv x4 64)) < 16 then (if 0≤(wrap64 (64 - (Int.tmod x4 64))) then (accum_Acc_room.j2 k x4 ((shl .u64 (rd x3900 (wrap64 (Int.tdiv x4 64))) (wrap64 (64 - (Int.tmod x4 64)))) != 0) x3900) else (none)) else (none)) else (none)) else (accum_Acc_room.j2 k x4 false x3900)) else (some ((),(),decide (x5 < (IntKind.u64.wrap ((y1,y2).2)))))
def accum_Acc_room.j2:Nat→Int→Bool→List Int→Option (Unit×Unit×(Bool))
 | 0,_,_,_=>none
 | k+1,x4,x72,x3900=>if x72=true then (some ((),(),false)) else (if 0≤(wrap64 (Int.tdiv x4 64)) then (if (wrap64 (Int.tdiv x4 64))≤16 then (accum_Acc_room.l0 k (wrap64 (Int.tdiv x4 64)) 0 (wrap64 (Int.tdiv x4 64)) x3900) else (none)) else (none))
def accum_Acc_room.l0:Nat→Int→Int→Int→List Int→Option (Unit×Unit×(Bool))
 | 0,_,_,_,_=>none
 | k+1,x76,x77,x75,x75900=>if x77 < x76 then (if 0≤x77 then (if x77 < x75 then (if (rd x75900 x77)=0 then (accum_Acc_room.l0 k x76 (wrap64 (x77+1)) x75 x75900) else (some ((),(),false))) else (none)) else (none)) else (some ((),(),true))
end
def accum_Acc_room.f (k:Nat) (c0:Int) (c1:Bool) (c2:Int) (c3:List Int):Option (Unit×Unit×(Bool)):=(accum_Acc_magnitude.f k c0 c1 c2 c3).bind fun t100=>(if 0≤(wrap64 (Int.tdiv (wrap64 ((wrap64 (16*c0)) - 32)) 64)) then (if (wrap64 (Int.tdiv (wrap64 ((wrap64 (16*c0)) - 32)) 64)) < 16 then (if 0≤(Int.tmod (wrap64 ((wrap64 (16*c0)) - 32)) 64) then (if (Int.tmod (wrap64 ((wrap64 (16*c0)) - 32)) 64) > 0 then ((accum_Acc_size.f c0 c1 c2 c3).bind fun t101=>(accum_Acc_room.j0 k c1 c2 (wrap64 ((wrap64 (16*c0)) - 32)) (shr .u64 (rd t100.2.1 (wrap64 (Int.tdiv (wrap64 ((wrap64 (16*c0)) - 32)) 64))) (Int.tmod (wrap64 ((wrap64 (16*c0)) - 32)) 64)) (decide ((wrap64 ((wrap64 (Int.tdiv (wrap64 ((wrap64 (16*c0)) - 32)) 64))+1)) < t101.2.2)) t100.2.1)) else (accum_Acc_room.j0 k c1 c2 (wrap64 ((wrap64 (16*c0)) - 32)) (shr .u64 (rd t100.2.1 (wrap64 (Int.tdiv (wrap64 ((wrap64 (16*c0)) - 32)) 64))) (Int.tmod (wrap64 ((wrap64 (16*c0)) - 32)) 64)) false t100.2.1)) else (none)) else (none)) else (none))
--@ok
def accum_Acc_room.c (k:Nat):RCon:=S61.con fun x y=>accum_Acc_room.f k x.1 x.2.1 x.2.2.1 x.2.2.2
def accum_Acc_room.G (k:Nat):List (Go.FuncId×Cn):=[(60,.r accum_Acc_size.c),(71,.r (accum_Acc_magnitude.c k))]
def accum_Acc_room.cuts:List (Cut (RSig.R S61)):=[⟨[1,0,1,1,1,1],[.mbw (some 0) 100 [.int .i64,.bool,.int .i64] .u64 16 [],.sc 4 (.int .i64),.sc 5 (.int .u64),.sc 33 (.bool),.mbw (some 3) 98 [] .u64 16 []],fun k x=>accum_Acc_room.j0 k x.1.2.1 x.1.2.2.1 x.2.1 x.2.2.1 x.2.2.2.1 x.2.2.2.2⟩,⟨[1,1,1,1,1],[.mbw (some 0) 100 [.int .i64,.bool,.int .i64] .u64 16 [],.sc 4 (.int .i64),.sc 5 (.int .u64),.mbw (some 3) 98 [] .u64 16 []],fun k x=>accum_Acc_room.j1 k x.1.2.1 x.1.2.2.1 x.2.1 x.2.2.1 x.2.2.2⟩,⟨[1,0,1,1,1,1,1,1],[.mbw (some 0) 100 [.int .i64,.bool,.int .i64] .u64 16 [],.sc 4 (.int .i64),.sc 72 (.bool),.mbw (some 3) 98 [] .u64 16 []],fun k x=>accum_Acc_room.j2 k x.2.1 x.2.2.1 x.2.2.2⟩,⟨[6,4,1,0,1,1,1,1,1,1,1],[.mbw (some 0) 100 [.int .i64,.bool,.int .i64] .u64 16 [],.sc 76 (.int .i64),.sc 77 (.int .i64),.mbw (none) 98 [] .u64 16 [75]],fun k x=>accum_Acc_room.l0 k x.2.1 x.2.2.1 x.2.2.2.1 x.2.2.2.2⟩]
theorem accum_Acc_room.w0 (gg:Nat) (k:Nat) (x:ET [.mbw (some 0) 100 [.int .i64,.bool,.int .i64] .u64 16 [],.sc 4 (.int .i64),.sc 5 (.int .u64),.sc 33 (.bool),.mbw (some 3) 98 [] .u64 16 []]):walk (E61 gg) (accum_Acc_room.G k) (cutsAt (E61 gg) k accum_Acc_room.cuts) (retR (E61 gg) Tryz.f61.results.toList S61) 4000 true (stackAt B61 [1,0,1,1,1,1]) (mkE [.mbw (some 0) 100 [.int .i64,.bool,.int .i64] .u64 16 [],.sc 4 (.int .i64),.sc 5 (.int .u64),.sc 33 (.bool),.mbw (some 3) 98 [] .u64 16 []] x St.nil)=accum_Acc_room.j0 (k+1) x.1.2.1 x.1.2.2.1 x.2.1 x.2.2.1 x.2.2.2.1 x.2.2.2.2:=by kernel_rfl
theorem accum_Acc_room.w1 (gg:Nat) (k:Nat) (x:ET [.mbw (some 0) 100 [.int .i64,.bool,.int .i64] .u64 16 [],.sc 4 (.int .i64),.sc 5 (.int .u64),.mbw (some 3) 98 [] .u64 16 []]):walk (E61 gg) (accum_Acc_room.G k) (cutsAt (E61 gg) k accum_Acc_room.cuts) (retR (E61 gg) Tryz.f61.results.toList S61) 4000 true (stackAt B61 [1,1,1,1,1]) (mkE [.mbw (some 0) 100 [.int .i64,.bool,.int .i64] .u64 16 [],.sc 4 (.int .i64),.sc 5 (.int .u64),.mbw (some 3) 98 [] .u64 16 []] x St.nil)=accum_Acc_room.j1 (k+1) x.1.2.1 x.1.2.2.1 x.2.1 x.2.2.1 x.2.2.2:=by kernel_rfl
theorem accum_Acc_room.w2 (gg:Nat) (k:Nat) (x:ET [.mbw (some 0) 100 [.int .i64,.bool,.int .i64] .u64 16 [],.sc 4 (.int .i64),.sc 72 (.bool),.mbw (some 3) 98 [] .u64 16 []]):walk (E61 gg) (accum_Acc_room.G k) (cutsAt (E61 gg) k accum_Acc_room.cuts) (retR (E61 gg) Tryz.f61.results.toList S61) 4000 true (stackAt B61 [1,0,1,1,1,1,1,1]) (mkE [.mbw (some 0) 100 [.int .i64,.bool,.int .i64] .u64 16 [],.sc 4 (.int .i64),.sc 72 (.bool),.mbw (some 3) 98 [] .u64 16 []] x St.nil)=accum_Acc_room.j2 (k+1) x.2.1 x.2.2.1 x.2.2.2:=by kernel_rfl
theorem accum_Acc_room.w3 (gg:Nat) (k:Nat) (x:ET [.mbw (some 0) 100 [.int .i64,.bool,.int .i64] .u64 16 [],.sc 76 (.int .i64),.sc 77 (.int .i64),.mbw (none) 98 [] .u64 16 [75]]):walk (E61 gg) (accum_Acc_room.G k) (cutsAt (E61 gg) k accum_Acc_room.cuts) (retR (E61 gg) Tryz.f61.results.toList S61) 4000 true (stackAt B61 [6,4,1,0,1,1,1,1,1,1,1]) (mkE [.mbw (some 0) 100 [.int .i64,.bool,.int .i64] .u64 16 [],.sc 76 (.int .i64),.sc 77 (.int .i64),.mbw (none) 98 [] .u64 16 [75]] x St.nil)=accum_Acc_room.l0 (k+1) x.2.1 x.2.2.1 x.2.2.2.1 x.2.2.2.2:=by kernel_rfl
theorem accum_Acc_room.w (gg:Nat) (k:Nat) (x:RcT S61.rL S61.win) (y:TT S61.sa):walk (E61 gg) (accum_Acc_room.G k) (cutsAt (E61 gg) k accum_Acc_room.cuts) (retR (E61 gg) Tryz.f61.results.toList S61) 4000 true [([],.code B61)] (St0R S61 x y)=accum_Acc_room.f k x.1 x.2.1 x.2.2.1 x.2.2.2:=by kernel_rfl
theorem accum_Acc_room.ok (k:Nat):FnOkR Tryz.prog (E61 0).eT 61 (accum_Acc_room.c k):=FnOkR.walk (P:=(E61 0).P) (eT:=(E61 0).eT) (N:=(E61 0).N) (wf:=(E61 0).wf) (body:=B61) Tryz.func61 rfl (by rfl) Tryz.ntmps61 S61 (by rfl) (fun k x y=>accum_Acc_room.f k x.1 x.2.1 x.2.2.1 x.2.2.2) accum_Acc_room.G (fun k=>⟨accum_Acc_size.ok,accum_Acc_magnitude.ok k,trivial⟩) 4000 accum_Acc_room.cuts (fun gg=>⟨⟨fun _=>rfl,fun k x q h=>(accum_Acc_room.w0 gg k x).trans h⟩,⟨fun _=>rfl,fun k x q h=>(accum_Acc_room.w1 gg k x).trans h⟩,⟨fun _=>rfl,fun k x q h=>(accum_Acc_room.w2 gg k x).trans h⟩,⟨fun _=>rfl,fun k x q h=>(accum_Acc_room.w3 gg k x).trans h⟩,trivial⟩) (fun gg k x y r h=>(accum_Acc_room.w gg k x y).trans h) k
def S24:RSig:=⟨none,0,false,false,[.g 4],[(.int .i64),.bool,(.int .i64),(.rd .u64)],some (.ptr ⟨[.int .i64,.bool,.int .i64],some (.u64,16)⟩),100,true,[.s],[.err],true⟩
def E24 (gg:Nat):En:=enR Tryz.prog 76 Tryz.f24.ntmps [] S24 gg
def B24:Go.Code:=Tryz.f24.body.get!
def accum_Load.j0:Nat→Bool→Bool→Int→List Int→Int→List Int→Option (Unit×(Bool×(Int×Bool×Int×List Int))×(Option Int))
 | 0,_,_,_,_,_,_=>none
 | k+1,x30,x1001,x1002,x1003,x4000,x4900=>if x30=true then (some ((),(false,(0,false,0,([]:List Int))),some 12)) else (if x1001=true then (if x1002=0 then (some ((),(false,(0,false,0,([]:List Int))),some 12)) else (if (((x1003.take 16)++(x4900.drop ((x1003.take 16).length)))==([0,0,0,0,0,0,0,0,0,0,0,0,0,0,0,0]:List Int))=true then ((accum_Acc_room.f k x4000 x1001 x1002 ((x1003.take 16)++(x4900.drop ((x1003.take 16).length)))).bind fun t102=>(if t102.2.2=true then (some ((),(true,(x4000,x1001,x1002,(x1003.take 16)++(x4900.drop ((x1003.take 16).length)))),none)) else (some ((),(false,(0,false,0,([]:List Int))),some 12)))) else (some ((),(false,(0,false,0,([]:List Int))),some 12)))) else ((accum_Acc_room.f k x4000 x1001 x1002 ((x1003.take 16)++(x4900.drop ((x1003.take 16).length)))).bind fun t103=>(if t103.2.2=true then (some ((),(true,(x4000,x1001,x1002,(x1003.take 16)++(x4900.drop ((x1003.take 16).length)))),none)) else (some ((),(false,(0,false,0,([]:List Int))),some 12)))))
def accum_Load.f (k:Nat) (a0_0:Int) (a0_1:Bool) (a0_2:Int) (a0_3:List Int):Option (Unit×(Bool×(Int×Bool×Int×List Int))×(Option Int)):=(accum_New.f k a0_0).bind fun t100=>(if t100.2.1.1=true then (if t100.2.2.isNone=true then (if a0_2 < 0 then (accum_Load.j0 k true a0_1 a0_2 a0_3 t100.2.1.2.1 t100.2.1.2.2.2.2) else (if a0_2 > 2147483647 then (accum_Load.j0 k true a0_1 a0_2 a0_3 t100.2.1.2.1 t100.2.1.2.2.2.2) else ((accum_Acc_size.f t100.2.1.2.1 t100.2.1.2.2.1 t100.2.1.2.2.2.1 t100.2.1.2.2.2.2).bind fun t101=>(accum_Load.j0 k ((nI a0_3.length) != t101.2.2) a0_1 a0_2 a0_3 t100.2.1.2.1 t100.2.1.2.2.2.2)))) else (some ((),(false,(0,false,0,([]:List Int))),some (t100.2.2.getD 0)))) else (if t100.2.2.isNone=true then (if a0_2 < 0 then (none) else (if a0_2 > 2147483647 then (none) else (none))) else (some ((),(false,(0,false,0,([]:List Int))),some (t100.2.2.getD 0)))))
--@ok
def accum_Load.c (k:Nat):RCon:=S24.con fun x y=>accum_Load.f k y.1 y.2.1 y.2.2.1 y.2.2.2
def accum_Load.G (k:Nat):List (Go.FuncId×Cn):=[(58,.r (accum_New.c k)),(60,.r accum_Acc_size.c),(61,.r (accum_Acc_room.c k))]
def accum_Load.cuts:List (Cut (RSig.R S24)):=[⟨[1,0,1,1,1],[.sc 30 (.bool),.box 1 49 [.int .i64,.bool,.int .i64,.rd .u64],.mbw (some 4) 100 [.int .i64,.bool,.int .i64] .u64 16 []],fun k x=>accum_Load.j0 k x.1 x.2.1.2.1 x.2.1.2.2.1 x.2.1.2.2.2 x.2.2.1 x.2.2.2.2.2⟩]
theorem accum_Load.w0 (gg:Nat) (k:Nat) (x:ET [.sc 30 (.bool),.box 1 49 [.int .i64,.bool,.int .i64,.rd .u64],.mbw (some 4) 100 [.int .i64,.bool,.int .i64] .u64 16 []]):walk (E24 gg) (accum_Load.G k) (cutsAt (E24 gg) k accum_Load.cuts) (retR (E24 gg) Tryz.f24.results.toList S24) 4000 true (stackAt B24 [1,0,1,1,1]) (mkE [.sc 30 (.bool),.box 1 49 [.int .i64,.bool,.int .i64,.rd .u64],.mbw (some 4) 100 [.int .i64,.bool,.int .i64] .u64 16 []] x St.nil)=accum_Load.j0 (k+1) x.1 x.2.1.2.1 x.2.1.2.2.1 x.2.1.2.2.2 x.2.2.1 x.2.2.2.2.2:=by kernel_rfl
theorem accum_Load.w (gg:Nat) (k:Nat) (x:RcT S24.rL S24.win) (y:TT S24.sa):walk (E24 gg) (accum_Load.G k) (cutsAt (E24 gg) k accum_Load.cuts) (retR (E24 gg) Tryz.f24.results.toList S24) 4000 true [([],.code B24)] (St0R S24 x y)=accum_Load.f k y.1 y.2.1 y.2.2.1 y.2.2.2:=by kernel_rfl
theorem accum_Load.ok (k:Nat):FnOkR Tryz.prog (E24 0).eT 24 (accum_Load.c k):=FnOkR.walk (P:=(E24 0).P) (eT:=(E24 0).eT) (N:=(E24 0).N) (wf:=(E24 0).wf) (body:=B24) Tryz.func24 rfl (by rfl) Tryz.ntmps24 S24 (by rfl) (fun k x y=>accum_Load.f k y.1 y.2.1 y.2.2.1 y.2.2.2) accum_Load.G (fun k=>⟨accum_New.ok k,accum_Acc_size.ok,accum_Acc_room.ok k,trivial⟩) 4000 accum_Load.cuts (fun gg=>⟨⟨fun _=>rfl,fun k x q h=>(accum_Load.w0 gg k x).trans h⟩,trivial⟩) (fun gg k x y r h=>(accum_Load.w gg k x y).trans h) k
def E106:En:=⟨Tryz.prog,76,Tryz.f106.ntmps,none,false,[]⟩
def S106:Sig:=⟨[.s],[(.rd .u64)],false,[.s],[(.rd .i64)],true⟩
def B106:Go.Code:=Tryz.f106.body.get!
def vr04_Meant.l0:Nat→List Int→List Int→Int→Option (List Int)
 | 0,_,_,_=>none
 | k+1,x0,x3,x4=>if x4≥0 then ((vr04_Shl.f k x3 64).bind fun t100=>(if 0≤x4 then (if x4 < (nI x0.length) then ((vr04_Of.f k (rd x0 x4)).bind fun t101=>((vr04_Add.f k t100 t101).bind fun t102=>(vr04_Meant.l0 k x0 t102 (wrap64 (x4 - 1))))) else (none)) else (none))) else (some x3)
def vr04_Meant.f (k:Nat) (l0:List Int):Option (List Int):=vr04_Meant.l0 k l0 ([]:List Int) (wrap64 ((nI l0.length) - 1))
--@ok
def vr04_Meant.c (k:Nat):Con:=S106.con fun x=>vr04_Meant.f k x
def vr04_Meant.G (k:Nat):List (Go.FuncId×Cn):=[(63,.f (vr04_Shl.c k)),(64,.f (vr04_Of.c k)),(149,.f (vr04_Add.c k))]
def vr04_Meant.cuts:List (Cut (TT S106.sb)):=[⟨[6,4,1,0,1,1],[.sc 0 (.rd .u64),.sc 3 (.rd .i64),.sc 4 (.int .i64)],fun k x=>vr04_Meant.l0 k x.1 x.2.1 x.2.2⟩]
theorem vr04_Meant.w0 (k:Nat) (x:ET [.sc 0 (.rd .u64),.sc 3 (.rd .i64),.sc 4 (.int .i64)]):walk E106 (vr04_Meant.G k) (cutsAt E106 k vr04_Meant.cuts) (retE E106 Tryz.f106.results.toList S106) 4000 true (stackAt B106 [6,4,1,0,1,1]) (mkE [.sc 0 (.rd .u64),.sc 3 (.rd .i64),.sc 4 (.int .i64)] x St.nil)=vr04_Meant.l0 (k+1) x.1 x.2.1 x.2.2:=by kernel_rfl
theorem vr04_Meant.w (k:Nat) (x:TT S106.sa):walk E106 (vr04_Meant.G k) (cutsAt E106 k vr04_Meant.cuts) (retE E106 Tryz.f106.results.toList S106) 4000 true [([],.code B106)] (St0 S106 x)=vr04_Meant.f k x:=by kernel_rfl
theorem vr04_Meant.ok (k:Nat):FnOk Tryz.prog E106.eT 106 (vr04_Meant.c k):=FnOk.walk (E:=E106) (body:=B106) Tryz.func106 rfl (by rfl) Tryz.ntmps106 rfl S106 rfl (fun k x=>vr04_Meant.f k x) vr04_Meant.G (fun k=>⟨vr04_Shl.ok k,vr04_Of.ok k,vr04_Add.ok k,trivial⟩) 4000 vr04_Meant.cuts ⟨⟨fun _=>rfl,fun k x q h=>(vr04_Meant.w0 k x).trans h⟩,trivial⟩ (fun k x r h=>(vr04_Meant.w k x).trans h) k
def E62:En:=⟨Tryz.prog,76,Tryz.f62.ntmps,none,false,[]⟩
def S62:Sig:=⟨[.s],[(.rd .u64)],true,[.s,.s],[.bool,(.rd .i64)],true⟩
def B62:Go.Code:=Tryz.f62.body.get!
def vr15_signed.j0:Nat→List Int→List Int→Bool→Option (Bool×List Int)
 | 0,_,_,_=>none
 | k+1,x0,x4,x19=>if x19=true then (some (false,x4)) else ((vr04_Shl.f k ([1]:List Int) (wrap64 (64*(nI x0.length)))).bind fun t101=>((vr04_Sub.f k t101 x4).bind fun t102=>(some (true,t102))))
def vr15_signed.f (k:Nat) (l0:List Int):Option (Bool×List Int):=(vr04_Meant.f k l0).bind fun t100=>(if (nI l0.length)=0 then (vr15_signed.j0 k l0 t100 true) else (if 0≤(wrap64 ((nI l0.length) - 1)) then (if (wrap64 ((nI l0.length) - 1)) < (nI l0.length) then (vr15_signed.j0 k l0 t100 (decide ((rd l0 (wrap64 ((nI l0.length) - 1))) < 9223372036854775808))) else (none)) else (none)))
--@ok
def vr15_signed.c (k:Nat):Con:=S62.con fun x=>vr15_signed.f k x
def vr15_signed.G (k:Nat):List (Go.FuncId×Cn):=[(63,.f (vr04_Shl.c k)),(68,.f (vr04_Sub.c k)),(106,.f (vr04_Meant.c k))]
def vr15_signed.cuts:List (Cut (TT S62.sb)):=[⟨[1,0,1,1],[.sc 0 (.rd .u64),.sc 4 (.rd .i64),.sc 19 (.bool)],fun k x=>vr15_signed.j0 k x.1 x.2.1 x.2.2⟩]
theorem vr15_signed.w0 (k:Nat) (x:ET [.sc 0 (.rd .u64),.sc 4 (.rd .i64),.sc 19 (.bool)]):walk E62 (vr15_signed.G k) (cutsAt E62 k vr15_signed.cuts) (retE E62 Tryz.f62.results.toList S62) 4000 true (stackAt B62 [1,0,1,1]) (mkE [.sc 0 (.rd .u64),.sc 4 (.rd .i64),.sc 19 (.bool)] x St.nil)=vr15_signed.j0 (k+1) x.1 x.2.1 x.2.2:=by kernel_rfl
theorem vr15_signed.w (k:Nat) (x:TT S62.sa):walk E62 (vr15_signed.G k) (cutsAt E62 k vr15_signed.cuts) (retE E62 Tryz.f62.results.toList S62) 4000 true [([],.code B62)] (St0 S62 x)=vr15_signed.f k x:=by kernel_rfl
theorem vr15_signed.ok (k:Nat):FnOk Tryz.prog E62.eT 62 (vr15_signed.c k):=FnOk.walk (E:=E62) (body:=B62) Tryz.func62 rfl (by rfl) Tryz.ntmps62 rfl S62 rfl (fun k x=>vr15_signed.f k x) vr15_signed.G (fun k=>⟨vr04_Shl.ok k,vr04_Sub.ok k,vr04_Meant.ok k,trivial⟩) 4000 vr15_signed.cuts ⟨⟨fun _=>rfl,fun k x q h=>(vr15_signed.w0 k x).trans h⟩,trivial⟩ (fun k x r h=>(vr15_signed.w k x).trans h) k
def S25:RSig:=⟨none,0,false,false,[.g 4],[(.int .i64),.bool,(.int .i64),(.rd .u64)],some (.ptr ⟨[.int .i64,.bool,.int .i64,.bool,.row .i64],none⟩),105,true,[.s],[(.int .i64)],true⟩
def E25 (gg:Nat):En:=enR Tryz.prog 76 Tryz.f25.ntmps [] S25 gg
def B25:Go.Code:=Tryz.f25.body.get!
mutual
def vr15_Load.j0:Nat→Bool→Int→Bool→Int→List Int→Option (Unit×(Bool×(Int×Bool×Int×Bool×List Int))×(Int))
 | 0,_,_,_,_,_=>none
 | k+1,x29,x1000,x1001,x1002,x1003=>if x29=true then (some ((),(false,(0,false,0,false,([]:List Int))),12)) else ((vr15_signed.f k x1003).bind fun t101=>(if x1001=true then (if x1002=0 then (vr15_Load.j1 k true x1000 x1002) else (vr15_Load.j1 k (decide ((nI t101.2.length) > 0)) x1000 x1002)) else ((vr04_Of.f k (IntKind.u64.wrap x1002)).bind fun t102=>((vr04_Shl.f k t102 (wrap64 ((wrap64 (16*x1000)) - 32))).bind fun t103=>((vr04_Cmp.f k t101.2 t103).bind fun t104=>(if t104 > 0 then (some ((),(false,(0,false,0,false,([]:List Int))),12)) else (some ((),(true,(x1000,false,x1002,t101.1,t101.2)),0))))))))
def vr15_Load.j1:Nat→Bool→Int→Int→Option (Unit×(Bool×(Int×Bool×Int×Bool×List Int))×(Int))
 | 0,_,_,_=>none
 | k+1,x45,x1000,x1002=>if x45=true then (some ((),(false,(0,false,0,false,([]:List Int))),12)) else (some ((),(true,(x1000,true,x1002,false,([]:List Int))),0))
end
def vr15_Load.f (k:Nat) (a0_0:Int) (a0_1:Bool) (a0_2:Int) (a0_3:List Int):Option (Unit×(Bool×(Int×Bool×Int×Bool×List Int))×(Int)):=(vr05_Is.f a0_0).bind fun t100=>(if t100=true then (if a0_2 < 0 then (vr15_Load.j0 k true a0_0 a0_1 a0_2 a0_3) else (if a0_2 > 2147483647 then (vr15_Load.j0 k true a0_0 a0_1 a0_2 a0_3) else (vr15_Load.j0 k ((nI a0_3.length) != (wrap64 (Int.tdiv a0_0 4))) a0_0 a0_1 a0_2 a0_3))) else (some ((),(false,(0,false,0,false,([]:List Int))),2)))
--@ok
def vr15_Load.c (k:Nat):RCon:=S25.con fun x y=>vr15_Load.f k y.1 y.2.1 y.2.2.1 y.2.2.2
def vr15_Load.G (k:Nat):List (Go.FuncId×Cn):=[(47,.f vr05_Is.c),(62,.f (vr15_signed.c k)),(63,.f (vr04_Shl.c k)),(64,.f (vr04_Of.c k)),(65,.f (vr04_Cmp.c k))]
def vr15_Load.cuts:List (Cut (RSig.R S25)):=[⟨[1,0,1,1,1],[.sc 29 (.bool),.box 1 49 [.int .i64,.bool,.int .i64,.rd .u64]],fun k x=>vr15_Load.j0 k x.1 x.2.1 x.2.2.1 x.2.2.2.1 x.2.2.2.2⟩,⟨[1,0,2,1,0,1,1,1,1,1],[.sc 45 (.bool),.box 1 49 [.int .i64,.bool,.int .i64,.rd .u64]],fun k x=>vr15_Load.j1 k x.1 x.2.1 x.2.2.2.1⟩]
theorem vr15_Load.w0 (gg:Nat) (k:Nat) (x:ET [.sc 29 (.bool),.box 1 49 [.int .i64,.bool,.int .i64,.rd .u64]]):walk (E25 gg) (vr15_Load.G k) (cutsAt (E25 gg) k vr15_Load.cuts) (retR (E25 gg) Tryz.f25.results.toList S25) 4000 true (stackAt B25 [1,0,1,1,1]) (mkE [.sc 29 (.bool),.box 1 49 [.int .i64,.bool,.int .i64,.rd .u64]] x St.nil)=vr15_Load.j0 (k+1) x.1 x.2.1 x.2.2.1 x.2.2.2.1 x.2.2.2.2:=by kernel_rfl
theorem vr15_Load.w1 (gg:Nat) (k:Nat) (x:ET [.sc 45 (.bool),.box 1 49 [.int .i64,.bool,.int .i64,.rd .u64]]):walk (E25 gg) (vr15_Load.G k) (cutsAt (E25 gg) k vr15_Load.cuts) (retR (E25 gg) Tryz.f25.results.toList S25) 4000 true (stackAt B25 [1,0,2,1,0,1,1,1,1,1]) (mkE [.sc 45 (.bool),.box 1 49 [.int .i64,.bool,.int .i64,.rd .u64]] x St.nil)=vr15_Load.j1 (k+1) x.1 x.2.1 x.2.2.2.1:=by kernel_rfl
theorem vr15_Load.w (gg:Nat) (k:Nat) (x:RcT S25.rL S25.win) (y:TT S25.sa):walk (E25 gg) (vr15_Load.G k) (cutsAt (E25 gg) k vr15_Load.cuts) (retR (E25 gg) Tryz.f25.results.toList S25) 4000 true [([],.code B25)] (St0R S25 x y)=vr15_Load.f k y.1 y.2.1 y.2.2.1 y.2.2.2:=by kernel_rfl
theorem vr15_Load.ok (k:Nat):FnOkR Tryz.prog (E25 0).eT 25 (vr15_Load.c k):=FnOkR.walk (P:=(E25 0).P) (eT:=(E25 0).eT) (N:=(E25 0).N) (wf:=(E25 0).wf) (body:=B25) Tryz.func25 rfl (by rfl) Tryz.ntmps25 S25 (by rfl) (fun k x y=>vr15_Load.f k y.1 y.2.1 y.2.2.1 y.2.2.2) vr15_Load.G (fun k=>⟨vr05_Is.ok,vr15_signed.ok k,vr04_Shl.ok k,vr04_Of.ok k,vr04_Cmp.ok k,trivial⟩) 4000 vr15_Load.cuts (fun gg=>⟨⟨fun _=>rfl,fun k x q h=>(vr15_Load.w0 gg k x).trans h⟩,⟨fun _=>rfl,fun k x q h=>(vr15_Load.w1 gg k x).trans h⟩,trivial⟩) (fun gg k x y r h=>(vr15_Load.w gg k x y).trans h) k
def S27:RSig:=⟨some ⟨[.int .i64,.bool,.int .i64,.bool,.row .i64],none⟩,105,false,false,[.s,.s],[(.rd .u64),(.rd .u64)],none,0,false,[.s],[(.int .i64)],true⟩
def E27 (gg:Nat):En:=enR Tryz.prog 76 Tryz.f27.ntmps [54] S27 gg
def B27:Go.Code:=Tryz.f27.body.get!
def vr20_Into.l0:Nat→Int→Bool→Int→Bool→List Int→List Int→List Int→Int→Option (((Int×Bool×Int×Bool×List Int))×Unit×(Int))
 | 0,_,_,_,_,_,_,_,_=>none
 | k+1,y0,y1,y2,y3,y4,x1,x2,x7=>if x7 < (nI x1.length) then (if 0≤x7 then (if x7 < (nI x2.length) then ((vr15_Acc_Put.f k y0 y1 y2 y3 y4 (rd x1 x7) (rd x2 x7) false).bind fun t100=>(vr20_Into.l0 k t100.1.1 t100.1.2.1 t100.1.2.2.1 t100.1.2.2.2.1 t100.1.2.2.2.2 x1 x2 (wrap64 (x7+1)))) else (none)) else (none)) else (some ((y0,y1,y2,y3,y4),(),0))
def vr20_Into.f (k:Nat) (c0:Int) (c1:Bool) (c2:Int) (c3:Bool) (c4:List Int) (l1:List Int) (l2:List Int):Option (((Int×Bool×Int×Bool×List Int))×Unit×(Int)):=if (nI l1.length)=(nI l2.length) then (if (nI l1.length) > (wrap64 (2147483647 - c2)) then (some ((c0,c1,c2,c3,c4),(),11)) else (vr20_Into.l0 k c0 c1 c2 c3 c4 l1 l2 0)) else (some ((c0,c1,c2,c3,c4),(),15))
--@ok
def vr20_Into.l0R (k:Nat) (y0:Int) (y1:Bool) (y2:Int) (y3:Bool) (y4:List Int) (x1:List Int) (x2:List Int) (x7:Int):Option (((Int×Bool×Int×Bool×List Int))×Unit×(Int)):=if x7 < (nI x1.length) then (if 0≤x7 then (if x7 < (nI x1.length) then (if 0≤x7 then (if x7 < (nI x2.length) then ((vr15_Acc_Put.f k y0 y1 y2 y3 y4 (rd x1 x7) (rd x2 x7) false).bind fun t100=>(vr20_Into.l0 k t100.1.1 t100.1.2.1 t100.1.2.2.1 t100.1.2.2.2.1 t100.1.2.2.2.2 x1 x2 (wrap64 (x7+1)))) else (none)) else (none)) else (none)) else (none)) else (some ((y0,y1,y2,y3,y4),(),0))
theorem vr20_Into.l0E (k:Nat) (y0:Int) (y1:Bool) (y2:Int) (y3:Bool) (y4:List Int) (x1:List Int) (x2:List Int) (x7:Int):vr20_Into.l0R k y0 y1 y2 y3 y4 x1 x2 x7=vr20_Into.l0 (k+1) y0 y1 y2 y3 y4 x1 x2 x7:=by
  unfold vr20_Into.l0R
  rw [vr20_Into.l0]
  exact iteC (fun h0=>iteC (fun h1=>(if_pos h0).trans ((if_pos h1).trans (iteC (fun h2=>bindC fun _=>rfl) (fun h2=>rfl)))) (fun h1=>rfl)) (fun h0=>rfl)
def vr20_Into.c (k:Nat):RCon:=S27.con fun x y=>vr20_Into.f k x.1 x.2.1 x.2.2.1 x.2.2.2.1 x.2.2.2.2 y.1 y.2
def vr20_Into.G (k:Nat):List (Go.FuncId×Cn):=[(54,.r (vr15_Acc_Put.c k))]
def vr20_Into.cuts:List (Cut (RSig.R S27)):=[⟨[6,4,1,0,1,1,1],[.box 0 105 [.int .i64,.bool,.int .i64,.bool,.rd .i64],.sc 1 (.rd .u64),.sc 2 (.rd .u64),.sc 7 (.int .i64)],fun k x=>vr20_Into.l0 k x.1.1 x.1.2.1 x.1.2.2.1 x.1.2.2.2.1 x.1.2.2.2.2 x.2.1 x.2.2.1 x.2.2.2⟩]
theorem vr20_Into.w0 (gg:Nat) (k:Nat) (x:ET [.box 0 105 [.int .i64,.bool,.int .i64,.bool,.rd .i64],.sc 1 (.rd .u64),.sc 2 (.rd .u64),.sc 7 (.int .i64)]):walk (E27 gg) (vr20_Into.G k) (cutsAt (E27 gg) k vr20_Into.cuts) (retR (E27 gg) Tryz.f27.results.toList S27) 4000 true (stackAt B27 [6,4,1,0,1,1,1]) (mkE [.box 0 105 [.int .i64,.bool,.int .i64,.bool,.rd .i64],.sc 1 (.rd .u64),.sc 2 (.rd .u64),.sc 7 (.int .i64)] x St.nil)=vr20_Into.l0 (k+1) x.1.1 x.1.2.1 x.1.2.2.1 x.1.2.2.2.1 x.1.2.2.2.2 x.2.1 x.2.2.1 x.2.2.2:=Eq.trans (b:=vr20_Into.l0R k x.1.1 x.1.2.1 x.1.2.2.1 x.1.2.2.2.1 x.1.2.2.2.2 x.2.1 x.2.2.1 x.2.2.2) (by kernel_rfl) (vr20_Into.l0E k x.1.1 x.1.2.1 x.1.2.2.1 x.1.2.2.2.1 x.1.2.2.2.2 x.2.1 x.2.2.1 x.2.2.2)
theorem vr20_Into.w (gg:Nat) (k:Nat) (x:RcT S27.rL S27.win) (y:TT S27.sa):walk (E27 gg) (vr20_Into.G k) (cutsAt (E27 gg) k vr20_Into.cuts) (retR (E27 gg) Tryz.f27.results.toList S27) 4000 true [([],.code B27)] (St0R S27 x y)=vr20_Into.f k x.1 x.2.1 x.2.2.1 x.2.2.2.1 x.2.2.2.2 y.1 y.2:=by kernel_rfl
theorem vr20_Into.ok (k:Nat):FnOkR Tryz.prog (E27 0).eT 27 (vr20_Into.c k):=FnOkR.walk (P:=(E27 0).P) (eT:=(E27 0).eT) (N:=(E27 0).N) (wf:=(E27 0).wf) (body:=B27) Tryz.func27 rfl (by rfl) Tryz.ntmps27 S27 (by rfl) (fun k x y=>vr20_Into.f k x.1 x.2.1 x.2.2.1 x.2.2.2.1 x.2.2.2.2 y.1 y.2) vr20_Into.G (fun k=>⟨vr15_Acc_Put.ok k,trivial⟩) 4000 vr20_Into.cuts (fun gg=>⟨⟨fun _=>rfl,fun k x q h=>(vr20_Into.w0 gg k x).trans h⟩,trivial⟩) (fun gg k x y r h=>(vr20_Into.w gg k x y).trans h) k
def S29:RSig:=⟨some ⟨[.int .i64,.bool,.int .i64,.bool,.row .i64],none⟩,105,false,true,[],[],none,0,false,[.g 4],[(.int .i64),.bool,(.int .i64),(.rd .u64)],true⟩
def E29 (gg:Nat):En:=enR Tryz.prog 76 Tryz.f29.ntmps [] S29 gg
def B29:Go.Code:=Tryz.f29.body.get!
def vr15_Acc_State.f (k:Nat) (c0:Int) (c1:Bool) (c2:Int) (c3:Bool) (c4:List Int):Option (Unit×Unit×(Int×Bool×Int×List Int)):=if c3=true then ((vr04_Shl.f k ([1]:List Int) (wrap64 (16*c0))).bind fun t100=>((vr04_Sub.f k t100 c4).bind fun t101=>(if 0 < (wrap64 (Int.tdiv c0 4)) then ((vr04_Word.f k t101).bind fun t102=>((vr04_Shr.f k t101 64).bind fun t103=>(if 1 < (wrap64 (Int.tdiv c0 4)) then ((vr04_Word.f k t103).bind fun t104=>((vr04_Shr.f k t103 64).bind fun t105=>(if 2 < (wrap64 (Int.tdiv c0 4)) then ((vr04_Word.f k t105).bind fun t106=>((vr04_Shr.f k t105 64).bind fun t107=>(if 3 < (wrap64 (Int.tdiv c0 4)) then ((vr04_Word.f k t107).bind fun t108=>((vr04_Shr.f k t107 64).bind fun t109=>(if 4 < (wrap64 (Int.tdiv c0 4)) then ((vr04_Word.f k t109).bind fun t110=>((vr04_Shr.f k t109 64).bind fun t111=>(if 5 < (wrap64 (Int.tdiv c0 4)) then ((vr04_Word.f k t111).bind fun t112=>((vr04_Shr.f k t111 64).bind fun t113=>(if 6 < (wrap64 (Int.tdiv c0 4)) then ((vr04_Word.f k t113).bind fun t114=>((vr04_Shr.f k t113 64).bind fun t115=>(if 7 < (wrap64 (Int.tdiv c0 4)) then ((vr04_Word.f k t115).bind fun t116=>((vr04_Shr.f k t115 64).bind fun t117=>(if 8 < (wrap64 (Int.tdiv c0 4)) then ((vr04_Word.f k t117).bind fun t118=>((vr04_Shr.f k t117 64).bind fun t119=>(if 9 < (wrap64 (Int.tdiv c0 4)) then ((vr04_Word.f k t119).bind fun t120=>((vr04_Shr.f k t119 64).bind fun t121=>(if 10 < (wrap64 (Int.tdiv c0 4)) then ((vr04_Word.f k t121).bind fun t122=>((vr04_Shr.f k t121 64).bind fun t123=>(if 11 < (wrap64 (Int.tdiv c0 4)) then ((vr04_Word.f k t123).bind fun t124=>((vr04_Shr.f k t123 64).bind fun t125=>(if 12 < (wrap64 (Int.tdiv c0 4)) then ((vr04_Word.f k t125).bind fun t126=>((vr04_Shr.f k t125 64).bind fun t127=>(if 13 < (wrap64 (Int.tdiv c0 4)) then ((vr04_Word.f k t127).bind fun t128=>((vr04_Shr.f k t127 64).bind fun t129=>(if 14 < (wrap64 (Int.tdiv c0 4)) then ((vr04_Word.f k t129).bind fun t130=>((vr04_Shr.f k t129 64).bind fun t131=>(if 15 < (wrap64 (Int.tdiv c0 4)) then ((vr04_Word.f k t131).bind fun t132=>((vr04_Shr.f k t131 64).bind fun t133=>(if 16 < (wrap64 (Int.tdiv c0 4)) then ((vr04_Word.f k t133).bind fun t134=>((vr04_Shr.f k t133 64).bind fun t135=>(if 17 < (wrap64 (Int.tdiv c0 4)) then ((vr04_Word.f k t135).bind fun t136=>((vr04_Shr.f k t135 64).bind fun t137=>(if 18 < (wrap64 (Int.tdiv c0 4)) then ((vr04_Word.f k t137).bind fun t138=>((vr04_Shr.f k t137 64).bind fun t139=>(none))) else (some ((),(),(c0,c1,c2,((((((((((((((((([t102]:List Int)++([t104]:List Int))++([t106]:List Int))++([t108]:List Int))++([t110]:List Int))++([t112]:List Int))++([t114]:List Int))++([t116]:List Int))++([t118]:List Int))++([t120]:List Int))++([t122]:List Int))++([t124]:List Int))++([t126]:List Int))++([t128]:List Int))++([t130]:List Int))++([t132]:List Int))++([t134]:List Int))++([t136]:List Int))))))) else (some ((),(),(c0,c1,c2,(((((((((((((((([t102]:List Int)++([t104]:List Int))++([t106]:List Int))++([t108]:List Int))++([t110]:List Int))++([t112]:List Int))++([t114]:List Int))++([t116]:List Int))++([t118]:List Int))++([t120]:List Int))++([t122]:List Int))++([t124]:List Int))++([t126]:List Int))++([t128]:List Int))++([t130]:List Int))++([t132]:List Int))++([t134]:List Int))))))) else (some ((),(),(c0,c1,c2,((((((((((((((([t102]:List Int)++([t104]:List Int))++([t106]:List Int))++([t108]:List Int))++([t110]:List Int))++([t112]:List Int))++([t114]:List Int))++([t116]:List Int))++([t118]:List Int))++([t120]:List Int))++([t122]:List Int))++([t124]:List Int))++([t126]:List Int))++([t128]:List Int))++([t130]:List Int))++([t132]:List Int))))))) else (some ((),(),(c0,c1,c2,(((((((((((((([t102]:List Int)++([t104]:List Int))++([t106]:List Int))++([t108]:List Int))++([t110]:List Int))++([t112]:List Int))++([t114]:List Int))++([t116]:List Int))++([t118]:List Int))++([t120]:List Int))++([t122]:List Int))++([t124]:List Int))++([t126]:List Int))++([t128]:List Int))++([t130]:List Int))))))) else (some ((),(),(c0,c1,c2,((((((((((((([t102]:List Int)++([t104]:List Int))++([t106]:List Int))++([t108]:List Int))++([t110]:List Int))++([t112]:List Int))++([t114]:List Int))++([t116]:List Int))++([t118]:List Int))++([t120]:List Int))++([t122]:List Int))++([t124]:List Int))++([t126]:List Int))++([t128]:List Int))))))) else (some ((),(),(c0,c1,c2,(((((((((((([t102]:List Int)++([t104]:List Int))++([t106]:List Int))++([t108]:List Int))++([t110]:List Int))++([t112]:List Int))++([t114]:List Int))++([t116]:List Int))++([t118]:List Int))++([t120]:List Int))++([t122]:List Int))++([t124]:List Int))++([t126]:List Int))))))) else (some ((),(),(c0,c1,c2,((((((((((([t102]:List Int)++([t104]:List Int))++([t106]:List Int))++([t108]:List Int))++([t110]:List Int))++([t112]:List Int))++([t114]:List Int))++([t116]:List Int))++([t118]:List Int))++([t120]:List Int))++([t122]:List Int))++([t124]:List Int))))))) else (some ((),(),(c0,c1,c2,(((((((((([t102]:List Int)++([t104]:List Int))++([t106]:List Int))++([t108]:List Int))++([t110]:List Int))++([t112]:List Int))++([t114]:List Int))++([t116]:List Int))++([t118]:List Int))++([t120]:List Int))++([t122]:List Int))))))) else (some ((),(),(c0,c1,c2,((((((((([t102]:List Int)++([t104]:List Int))++([t106]:List Int))++([t108]:List Int))++([t110]:List Int))++([t112]:List Int))++([t114]:List Int))++([t116]:List Int))++([t118]:List Int))++([t120]:List Int))))))) else (some ((),(),(c0,c1,c2,(((((((([t102]:List Int)++([t104]:List Int))++([t106]:List Int))++([t108]:List Int))++([t110]:List Int))++([t112]:List Int))++([t114]:List Int))++([t116]:List Int))++([t118]:List Int))))))) else (some ((),(),(c0,c1,c2,((((((([t102]:List Int)++([t104]:List Int))++([t106]:List Int))++([t108]:List Int))++([t110]:List Int))++([t112]:List Int))++([t114]:List Int))++([t116]:List Int))))))) else (some ((),(),(c0,c1,c2,(((((([t102]:List Int)++([t104]:List Int))++([t106]:List Int))++([t108]:List Int))++([t110]:List Int))++([t112]:List Int))++([t114]:List Int))))))) else (some ((),(),(c0,c1,c2,((((([t102]:List Int)++([t104]:List Int))++([t106]:List Int))++([t108]:List Int))++([t110]:List Int))++([t112]:List Int))))))) else (some ((),(),(c0,c1,c2,(((([t102]:List Int)++([t104]:List Int))++([t106]:List Int))++([t108]:List Int))++([t110]:List Int))))))) else (some ((),(),(c0,c1,c2,((([t102]:List Int)++([t104]:List Int))++([t106]:List Int))++([t108]:List Int))))))) else (some ((),(),(c0,c1,c2,(([t102]:List Int)++([t104]:List Int))++([t106]:List Int))))))) else (some ((),(),(c0,c1,c2,([t102]:List Int)++([t104]:List Int))))))) else (some ((),(),(c0,c1,c2,([t102]:List Int))))))) else (some ((),(),(c0,c1,c2,([]:List Int))))))) else (if 0 < (wrap64 (Int.tdiv c0 4)) then ((vr04_Word.f k c4).bind fun t140=>((vr04_Shr.f k c4 64).bind fun t141=>(if 1 < (wrap64 (Int.tdiv c0 4)) then ((vr04_Word.f k t141).bind fun t142=>((vr04_Shr.f k t141 64).bind fun t143=>(if 2 < (wrap64 (Int.tdiv c0 4)) then ((vr04_Word.f k t143).bind fun t144=>((vr04_Shr.f k t143 64).bind fun t145=>(if 3 < (wrap64 (Int.tdiv c0 4)) then ((vr04_Word.f k t145).bind fun t146=>((vr04_Shr.f k t145 64).bind fun t147=>(if 4 < (wrap64 (Int.tdiv c0 4)) then ((vr04_Word.f k t147).bind fun t148=>((vr04_Shr.f k t147 64).bind fun t149=>(if 5 < (wrap64 (Int.tdiv c0 4)) then ((vr04_Word.f k t149).bind fun t150=>((vr04_Shr.f k t149 64).bind fun t151=>(if 6 < (wrap64 (Int.tdiv c0 4)) then ((vr04_Word.f k t151).bind fun t152=>((vr04_Shr.f k t151 64).bind fun t153=>(if 7 < (wrap64 (Int.tdiv c0 4)) then ((vr04_Word.f k t153).bind fun t154=>((vr04_Shr.f k t153 64).bind fun t155=>(if 8 < (wrap64 (Int.tdiv c0 4)) then ((vr04_Word.f k t155).bind fun t156=>((vr04_Shr.f k t155 64).bind fun t157=>(if 9 < (wrap64 (Int.tdiv c0 4)) then ((vr04_Word.f k t157).bind fun t158=>((vr04_Shr.f k t157 64).bind fun t159=>(if 10 < (wrap64 (Int.tdiv c0 4)) then ((vr04_Word.f k t159).bind fun t160=>((vr04_Shr.f k t159 64).bind fun t161=>(if 11 < (wrap64 (Int.tdiv c0 4)) then ((vr04_Word.f k t161).bind fun t162=>((vr04_Shr.f k t161 64).bind fun t163=>(if 12 < (wrap64 (Int.tdiv c0 4)) then ((vr04_Word.f k t163).bind fun t164=>((vr04_Shr.f k t163 64).bind fun t165=>(if 13 < (wrap64 (Int.tdiv c0 4)) then ((vr04_Word.f k t165).bind fun t166=>((vr04_Shr.f k t165 64).bind fun t167=>(if 14 < (wrap64 (Int.tdiv c0 4)) then ((vr04_Word.f k t167).bind fun t168=>((vr04_Shr.f k t167 64).bind fun t169=>(if 15 < (wrap64 (Int.tdiv c0 4)) then ((vr04_Word.f k t169).bind fun t170=>((vr04_Shr.f k t169 64).bind fun t171=>(if 16 < (wrap64 (Int.tdiv c0 4)) then ((vr04_Word.f k t171).bind fun t172=>((vr04_Shr.f k t171 64).bind fun t173=>(if 17 < (wrap64 (Int.tdiv c0 4)) then ((vr04_Word.f k t173).bind fun t174=>((vr04_Shr.f k t173 64).bind fun t175=>(if 18 < (wrap64 (Int.tdiv c0 4)) then ((vr04_Word.f k t175).bind fun t176=>((vr04_Shr.f k t175 64).bind fun t177=>(none))) else (some ((),(),(c0,c1,c2,((((((((((((((((([t140]:List Int)++([t142]:List Int))++([t144]:List Int))++([t146]:List Int))++([t148]:List Int))++([t150]:List Int))++([t152]:List Int))++([t154]:List Int))++([t156]:List Int))++([t158]:List Int))++([t160]:List Int))++([t162]:List Int))++([t164]:List Int))++([t166]:List Int))++([t168]:List Int))++([t170]:List Int))++([t172]:List Int))++([t174]:List Int))))))) else (some ((),(),(c0,c1,c2,(((((((((((((((([t140]:List Int)++([t142]:List Int))++([t144]:List Int))++([t146]:List Int))++([t148]:List Int))++([t150]:List Int))++([t152]:List Int))++([t154]:List Int))++([t156]:List Int))++([t158]:List Int))++([t160]:List Int))++([t162]:List Int))++([t164]:List Int))++([t166]:List Int))++([t168]:List Int))++([t170]:List Int))++([t172]:List Int))))))) else (some ((),(),(c0,c1,c2,((((((((((((((([t140]:List Int)++([t142]:List Int))++([t144]:List Int))++([t146]:List Int))++([t148]:List Int))++([t150]:List Int))++([t152]:List Int))++([t154]:List Int))++([t156]:List Int))++([t158]:List Int))++([t160]:List Int))++([t162]:List Int))++([t164]:List Int))++([t166]:List Int))++([t168]:List Int))++([t170]:List Int))))))) else (some ((),(),(c0,c1,c2,(((((((((((((([t140]:List Int)++([t142]:List Int))++([t144]:List Int))++([t146]:List Int))++([t148]:List Int))++([t150]:List Int))++([t152]:List Int))++([t154]:List Int))++([t156]:List Int))++([t158]:List Int))++([t160]:List Int))++([t162]:List Int))++([t164]:List Int))++([t166]:List Int))++([t168]:List Int))))))) else (some ((),(),(c0,c1,c2,((((((((((((([t140]:List Int)++([t142]:List Int))++([t144]:List Int))++([t146]:List Int))++([t148]:List Int))++([t150]:List Int))++([t152]:List Int))++([t154]:List Int))++([t156]:List Int))++([t158]:List Int))++([t160]:List Int))++([t162]:List Int))++([t164]:List Int))++([t166]:List Int))))))) else (some ((),(),(c0,c1,c2,(((((((((((([t140]:List Int)++([t142]:List Int))++([t144]:List Int))++([t146]:List Int))++([t148]:List Int))++([t150]:List Int))++([t152]:List Int))++([t154]:List Int))++([t156]:List Int))++([t158]:List Int))++([t160]:List Int))++([t162]:List Int))++([t164]:List Int))))))) else (some ((),(),(c0,c1,c2,((((((((((([t140]:List Int)++([t142]:List Int))++([t144]:List Int))++([t146]:List Int))++([t148]:List Int))++([t150]:List Int))++([t152]:List Int))++([t154]:List Int))++([t156]:List Int))++([t158]:List Int))++([t160]:List Int))++([t162]:List Int))))))) else (some ((),(),(c0,c1,c2,(((((((((([t140]:List Int)++([t142]:List Int))++([t144]:List Int))++([t146]:List Int))++([t148]:List Int))++([t150]:List Int))++([t152]:List Int))++([t154]:List Int))++([t156]:List Int))++([t158]:List Int))++([t160]:List Int))))))) else (some ((),(),(c0,c1,c2,((((((((([t140]:List Int)++([t142]:List Int))++([t144]:List Int))++([t146]:List Int))++([t148]:List Int))++([t150]:List Int))++([t152]:List Int))++([t154]:List Int))++([t156]:List Int))++([t158]:List Int))))))) else (some ((),(),(c0,c1,c2,(((((((([t140]:List Int)++([t142]:List Int))++([t144]:List Int))++([t146]:List Int))++([t148]:List Int))++([t150]:List Int))++([t152]:List Int))++([t154]:List Int))++([t156]:List Int))))))) else (some ((),(),(c0,c1,c2,((((((([t140]:List Int)++([t142]:List Int))++([t144]:List Int))++([t146]:List Int))++([t148]:List Int))++([t150]:List Int))++([t152]:List Int))++([t154]:List Int))))))) else (some ((),(),(c0,c1,c2,(((((([t140]:List Int)++([t142]:List Int))++([t144]:List Int))++([t146]:List Int))++([t148]:List Int))++([t150]:List Int))++([t152]:List Int))))))) else (some ((),(),(c0,c1,c2,((((([t140]:List Int)++([t142]:List Int))++([t144]:List Int))++([t146]:List Int))++([t148]:List Int))++([t150]:List Int))))))) else (some ((),(),(c0,c1,c2,(((([t140]:List Int)++([t142]:List Int))++([t144]:List Int))++([t146]:List Int))++([t148]:List Int))))))) else (some ((),(),(c0,c1,c2,((([t140]:List Int)++([t142]:List Int))++([t144]:List Int))++([t146]:List Int))))))) else (some ((),(),(c0,c1,c2,(([t140]:List Int)++([t142]:List Int))++([t144]:List Int))))))) else (some ((),(),(c0,c1,c2,([t140]:List Int)++([t142]:List Int))))))) else (some ((),(),(c0,c1,c2,([t140]:List Int))))))) else (some ((),(),(c0,c1,c2,([]:List Int)))))
--@ok
def vr15_Acc_State.c (k:Nat):RCon:=S29.con fun x y=>vr15_Acc_State.f k x.1 x.2.1 x.2.2.1 x.2.2.2.1 x.2.2.2.2
def vr15_Acc_State.G (k:Nat):List (Go.FuncId×Cn):=[(63,.f (vr04_Shl.c k)),(68,.f (vr04_Sub.c k)),(69,.f (vr04_Word.c k)),(70,.f (vr04_Shr.c k))]
def vr15_Acc_State.cuts:List (Cut (RSig.R S29)):=[]
theorem vr15_Acc_State.w (gg:Nat) (k:Nat) (x:RcT S29.rL S29.win) (y:TT S29.sa):walk (E29 gg) (vr15_Acc_State.G k) (cutsAt (E29 gg) k vr15_Acc_State.cuts) (retR (E29 gg) Tryz.f29.results.toList S29) 262 true [([],.code B29)] (St0R S29 x y)=vr15_Acc_State.f k x.1 x.2.1 x.2.2.1 x.2.2.2.1 x.2.2.2.2:=by kernel_rfl
theorem vr15_Acc_State.ok (k:Nat):FnOkR Tryz.prog (E29 0).eT 29 (vr15_Acc_State.c k):=FnOkR.walk (P:=(E29 0).P) (eT:=(E29 0).eT) (N:=(E29 0).N) (wf:=(E29 0).wf) (body:=B29) Tryz.func29 rfl (by rfl) Tryz.ntmps29 S29 (by rfl) (fun k x y=>vr15_Acc_State.f k x.1 x.2.1 x.2.2.1 x.2.2.2.1 x.2.2.2.2) vr15_Acc_State.G (fun k=>⟨vr04_Shl.ok k,vr04_Sub.ok k,vr04_Word.ok k,vr04_Shr.ok k,trivial⟩) 262 vr15_Acc_State.cuts (fun gg=>trivial) (fun gg k x y r h=>(vr15_Acc_State.w gg k x y).trans h) k
def E30:En:=⟨Tryz.prog,76,Tryz.f30.ntmps,none,false,[]⟩
def S30:Sig:=⟨[.g 4,.g 4],[(.int .i64),.bool,(.int .i64),(.rd .u64),(.int .i64),.bool,(.int .i64),(.rd .u64)],false,[.s],[.bool],false⟩
def B30:Go.Code:=Tryz.f30.body.get!
mutual
def vr15_Same.j0:Nat→Bool→List Int→List Int→Option (Bool)
 | 0,_,_,_=>none
 | k+1,x33,x2003,x3003=>if x33=true then (some false) else (vr15_Same.l0 k 0 x2003 x3003)
def vr15_Same.l0:Nat→Int→List Int→List Int→Option (Bool)
 | 0,_,_,_=>none
 | k+1,x5,x2003,x3003=>if x5 < (nI x2003.length) then (if 0≤x5 then (if x5 < (nI x3003.length) then (if (rd x2003 x5)=(rd x3003 x5) then (vr15_Same.l0 k (wrap64 (x5+1)) x2003 x3003) else (some false)) else (none)) else (none)) else (some true)
end
def vr15_Same.f (k:Nat) (a0_0:Int) (a0_1:Bool) (a0_2:Int) (a0_3:List Int) (a1_0:Int) (a1_1:Bool) (a1_2:Int) (a1_3:List Int):Option (Bool):=if a0_0=a1_0 then (if (a0_1==a1_1)=true then (if a0_2=a1_2 then (vr15_Same.j0 k ((nI a0_3.length) != (nI a1_3.length)) a0_3 a1_3) else (vr15_Same.j0 k true a0_3 a1_3)) else (vr15_Same.j0 k true a0_3 a1_3)) else (vr15_Same.j0 k true a0_3 a1_3)
--@ok
def vr15_Same.l0R (k:Nat) (x5:Int) (x2003:List Int) (x3003:List Int):Option (Bool):=if x5 < (nI x2003.length) then (if 0≤x5 then (if x5 < (nI x2003.length) then (if 0≤x5 then (if x5 < (nI x3003.length) then (if (rd x2003 x5)=(rd x3003 x5) then (vr15_Same.l0 k (wrap64 (x5+1)) x2003 x3003) else (some false)) else (none)) else (none)) else (none)) else (none)) else (some true)
theorem vr15_Same.l0E (k:Nat) (x5:Int) (x2003:List Int) (x3003:List Int):vr15_Same.l0R k x5 x2003 x3003=vr15_Same.l0 (k+1) x5 x2003 x3003:=by
  unfold vr15_Same.l0R
  rw [vr15_Same.l0]
  exact iteC (fun h0=>iteC (fun h1=>(if_pos h0).trans ((if_pos h1).trans (iteC (fun h2=>iteC (fun h3=>rfl) (fun h3=>rfl)) (fun h2=>rfl)))) (fun h1=>rfl)) (fun h0=>rfl)
def vr15_Same.c (k:Nat):Con:=S30.con fun x=>vr15_Same.f k x.1 x.2.1 x.2.2.1 x.2.2.2.1 x.2.2.2.2.1 x.2.2.2.2.2.1 x.2.2.2.2.2.2.1 x.2.2.2.2.2.2.2
def vr15_Same.G (k:Nat):List (Go.FuncId×Cn):=[]
def vr15_Same.cuts:List (Cut (TT S30.sb)):=[⟨[1,0,1],[.sc 33 (.bool),.box 2 49 [.int .i64,.bool,.int .i64,.rd .u64],.box 3 49 [.int .i64,.bool,.int .i64,.rd .u64]],fun k x=>vr15_Same.j0 k x.1 x.2.1.2.2.2 x.2.2.2.2.2⟩,⟨[6,4,1,0,1,1],[.sc 5 (.int .i64),.box 2 49 [.int .i64,.bool,.int .i64,.rd .u64],.box 3 49 [.int .i64,.bool,.int .i64,.rd .u64]],fun k x=>vr15_Same.l0 k x.1 x.2.1.2.2.2 x.2.2.2.2.2⟩]
theorem vr15_Same.w0 (k:Nat) (x:ET [.sc 33 (.bool),.box 2 49 [.int .i64,.bool,.int .i64,.rd .u64],.box 3 49 [.int .i64,.bool,.int .i64,.rd .u64]]):walk E30 (vr15_Same.G k) (cutsAt E30 k vr15_Same.cuts) (retE E30 Tryz.f30.results.toList S30) 4000 true (stackAt B30 [1,0,1]) (mkE [.sc 33 (.bool),.box 2 49 [.int .i64,.bool,.int .i64,.rd .u64],.box 3 49 [.int .i64,.bool,.int .i64,.rd .u64]] x St.nil)=vr15_Same.j0 (k+1) x.1 x.2.1.2.2.2 x.2.2.2.2.2:=by kernel_rfl
theorem vr15_Same.w1 (k:Nat) (x:ET [.sc 5 (.int .i64),.box 2 49 [.int .i64,.bool,.int .i64,.rd .u64],.box 3 49 [.int .i64,.bool,.int .i64,.rd .u64]]):walk E30 (vr15_Same.G k) (cutsAt E30 k vr15_Same.cuts) (retE E30 Tryz.f30.results.toList S30) 4000 true (stackAt B30 [6,4,1,0,1,1]) (mkE [.sc 5 (.int .i64),.box 2 49 [.int .i64,.bool,.int .i64,.rd .u64],.box 3 49 [.int .i64,.bool,.int .i64,.rd .u64]] x St.nil)=vr15_Same.l0 (k+1) x.1 x.2.1.2.2.2 x.2.2.2.2.2:=Eq.trans (b:=vr15_Same.l0R k x.1 x.2.1.2.2.2 x.2.2.2.2.2) (by kernel_rfl) (vr15_Same.l0E k x.1 x.2.1.2.2.2 x.2.2.2.2.2)
theorem vr15_Same.w (k:Nat) (x:TT S30.sa):walk E30 (vr15_Same.G k) (cutsAt E30 k vr15_Same.cuts) (retE E30 Tryz.f30.results.toList S30) 4000 true [([],.code B30)] (St0 S30 x)=vr15_Same.f k x.1 x.2.1 x.2.2.1 x.2.2.2.1 x.2.2.2.2.1 x.2.2.2.2.2.1 x.2.2.2.2.2.2.1 x.2.2.2.2.2.2.2:=by kernel_rfl
theorem vr15_Same.ok (k:Nat):FnOk Tryz.prog E30.eT 30 (vr15_Same.c k):=FnOk.walk (E:=E30) (body:=B30) Tryz.func30 rfl (by rfl) Tryz.ntmps30 rfl S30 rfl (fun k x=>vr15_Same.f k x.1 x.2.1 x.2.2.1 x.2.2.2.1 x.2.2.2.2.1 x.2.2.2.2.2.1 x.2.2.2.2.2.2.1 x.2.2.2.2.2.2.2) vr15_Same.G (fun k=>trivial) 4000 vr15_Same.cuts ⟨⟨fun _=>rfl,fun k x q h=>(vr15_Same.w0 k x).trans h⟩,⟨fun _=>rfl,fun k x q h=>(vr15_Same.w1 k x).trans h⟩,trivial⟩ (fun k x r h=>(vr15_Same.w k x).trans h) k
def E6:En:=⟨Tryz.prog,76,Tryz.f6.ntmps,none,false,[26,27]⟩
def S6:Sig:=⟨[.g 4,.s,.s],[(.int .i64),.bool,(.int .i64),(.rd .u64),(.rd .u64),(.rd .u64)],false,[.s],[.bool],false⟩
def B6:Go.Code:=Tryz.f6.body.get!
mutual
def vl20_VecInto.j0:Nat→Bool→Option (Bool)
 | 0,_=>none
 | k+1,x6=>some x6
def vl20_VecInto.j1:Nat→List Int→List Int→Bool→Bool→Int→Bool→Int→List Int→Int→Bool→Int→Bool→List Int→Option (Bool)
 | 0,_,_,_,_,_,_,_,_,_,_,_,_,_=>none
 | k+1,x1,x2,x7,x46,x8000,x8001,x8002,x8900,x10000,x10001,x10002,x10003,x10004=>if x46=true then (some false) else ((vec_Into.f k x8000 ((x8001,x8002).1) ((x8001,x8002).2) x8900 x1 x2).bind fun t106=>((vr20_Into.f k x10000 x10001 x10002 x10003 x10004 x1 x2).bind fun t107=>((accum_Acc_State.f t106.1.1 t106.1.2.1 t106.1.2.2.1 t106.1.2.2.2).bind fun t108=>((vr15_Acc_State.f k t107.1.1 t107.1.2.1 t107.1.2.2.1 t107.1.2.2.2.1 t107.1.2.2.2.2).bind fun t109=>((vr15_Same.f k t108.2.2.1 t108.2.2.2.1 t108.2.2.2.2.1 t108.2.2.2.2.2 t109.2.2.1 t109.2.2.2.1 t109.2.2.2.2.1 t109.2.2.2.2.2).bind fun t110=>(if x7=true then ((vl00_Code.f t106.2.2).bind fun t111=>(if t111=t107.2.2 then (if t110=true then ((accum_Acc_Round.f k t106.1.1 t106.1.2.1 t106.1.2.2.1 t106.1.2.2.2).bind fun t112=>((vr15_Acc_Round.f k t107.1.1 t107.1.2.1 t107.1.2.2.1 t107.1.2.2.2.1 t107.1.2.2.2.2).bind fun t113=>(some (t112.2.2==t113.2.2)))) else (some false)) else (some false))) else (some false)))))))
end
def vl20_VecInto.f (k:Nat) (a0_0:Int) (a0_1:Bool) (a0_2:Int) (a0_3:List Int) (l1:List Int) (l2:List Int):Option (Bool):=(vl20_shown.f k).bind fun t100=>((accum_Load.f k a0_0 a0_1 a0_2 a0_3).bind fun t101=>(if t101.2.1.1=true then ((vr15_Load.f k a0_0 a0_1 a0_2 a0_3).bind fun t102=>(if t102.2.1.1=true then (if t102.2.2=0 then (if t101.2.2.isNone=true then (vl20_VecInto.j1 k l1 l2 t100 false t101.2.1.2.1 t101.2.1.2.2.1 t101.2.1.2.2.2.1 t101.2.1.2.2.2.2 t102.2.1.2.1 t102.2.1.2.2.1 t102.2.1.2.2.2.1 t102.2.1.2.2.2.2.1 t102.2.1.2.2.2.2.2) else (vl20_VecInto.j1 k l1 l2 t100 true t101.2.1.2.1 t101.2.1.2.2.1 t101.2.1.2.2.2.1 t101.2.1.2.2.2.2 t102.2.1.2.1 t102.2.1.2.2.1 t102.2.1.2.2.2.1 t102.2.1.2.2.2.2.1 t102.2.1.2.2.2.2.2)) else (if t100=true then (vl20_VecInto.j0 k false) else (vl20_VecInto.j0 k false))) else (if t102.2.2=0 then (if t101.2.2.isNone=true then (none) else (none)) else (if t100=true then (vl20_VecInto.j0 k false) else (vl20_VecInto.j0 k false))))) else ((vr15_Load.f k a0_0 a0_1 a0_2 a0_3).bind fun t103=>(if t103.2.1.1=true then (if t103.2.2=0 then (none) else (if t100=true then ((vl00_Code.f t101.2.2).bind fun t104=>(vl20_VecInto.j0 k (t104==t103.2.2))) else (vl20_VecInto.j0 k false))) else (if t103.2.2=0 then (none) else (if t100=true then ((vl00_Code.f t101.2.2).bind fun t105=>(vl20_VecInto.j0 k (t105==t103.2.2))) else (vl20_VecInto.j0 k false)))))))
--@ok
def vl20_VecInto.c (k:Nat):Con:=S6.con fun x=>vl20_VecInto.f k x.1 x.2.1 x.2.2.1 x.2.2.2.1 x.2.2.2.2.1 x.2.2.2.2.2
def vl20_VecInto.G (k:Nat):List (Go.FuncId×Cn):=[(10,.f (vl20_shown.c k)),(13,.f vl00_Code.c),(24,.r (accum_Load.c k)),(25,.r (vr15_Load.c k)),(26,.r (vec_Into.c k)),(27,.r (vr20_Into.c k)),(28,.r accum_Acc_State.c),(29,.r (vr15_Acc_State.c k)),(30,.f (vr15_Same.c k)),(31,.r (accum_Acc_Round.c k)),(32,.r (vr15_Acc_Round.c k))]
def vl20_VecInto.cuts:List (Cut (TT S6.sb)):=[⟨[1,2,1,0,1,1,1,1],[.sc 6 (.bool)],fun k x=>vl20_VecInto.j0 k x⟩,⟨[1,0,1,1,1,1,1],[.sc 1 (.rd .u64),.sc 2 (.rd .u64),.sc 7 (.bool),.sc 46 (.bool),.mbw (some 8) 100 [.int .i64,.bool,.int .i64] .u64 16 [],.box 10 105 [.int .i64,.bool,.int .i64,.bool,.rd .i64]],fun k x=>vl20_VecInto.j1 k x.1 x.2.1 x.2.2.1 x.2.2.2.1 x.2.2.2.2.1.1 x.2.2.2.2.1.2.1 x.2.2.2.2.1.2.2.1 x.2.2.2.2.1.2.2.2 x.2.2.2.2.2.1 x.2.2.2.2.2.2.1 x.2.2.2.2.2.2.2.1 x.2.2.2.2.2.2.2.2.1 x.2.2.2.2.2.2.2.2.2⟩]
theorem vl20_VecInto.w0 (k:Nat) (x:ET [.sc 6 (.bool)]):walk E6 (vl20_VecInto.G k) (cutsAt E6 k vl20_VecInto.cuts) (retE E6 Tryz.f6.results.toList S6) 4000 true (stackAt B6 [1,2,1,0,1,1,1,1]) (mkE [.sc 6 (.bool)] x St.nil)=vl20_VecInto.j0 (k+1) x:=by kernel_rfl
theorem vl20_VecInto.w1 (k:Nat) (x:ET [.sc 1 (.rd .u64),.sc 2 (.rd .u64),.sc 7 (.bool),.sc 46 (.bool),.mbw (some 8) 100 [.int .i64,.bool,.int .i64] .u64 16 [],.box 10 105 [.int .i64,.bool,.int .i64,.bool,.rd .i64]]):walk E6 (vl20_VecInto.G k) (cutsAt E6 k vl20_VecInto.cuts) (retE E6 Tryz.f6.results.toList S6) 4000 true (stackAt B6 [1,0,1,1,1,1,1]) (mkE [.sc 1 (.rd .u64),.sc 2 (.rd .u64),.sc 7 (.bool),.sc 46 (.bool),.mbw (some 8) 100 [.int .i64,.bool,.int .i64] .u64 16 [],.box 10 105 [.int .i64,.bool,.int .i64,.bool,.rd .i64]] x St.nil)=vl20_VecInto.j1 (k+1) x.1 x.2.1 x.2.2.1 x.2.2.2.1 x.2.2.2.2.1.1 x.2.2.2.2.1.2.1 x.2.2.2.2.1.2.2.1 x.2.2.2.2.1.2.2.2 x.2.2.2.2.2.1 x.2.2.2.2.2.2.1 x.2.2.2.2.2.2.2.1 x.2.2.2.2.2.2.2.2.1 x.2.2.2.2.2.2.2.2.2:=by kernel_rfl
theorem vl20_VecInto.w (k:Nat) (x:TT S6.sa):walk E6 (vl20_VecInto.G k) (cutsAt E6 k vl20_VecInto.cuts) (retE E6 Tryz.f6.results.toList S6) 4000 true [([],.code B6)] (St0 S6 x)=vl20_VecInto.f k x.1 x.2.1 x.2.2.1 x.2.2.2.1 x.2.2.2.2.1 x.2.2.2.2.2:=by kernel_rfl
theorem vl20_VecInto.ok (k:Nat):FnOk Tryz.prog E6.eT 6 (vl20_VecInto.c k):=FnOk.walk (E:=E6) (body:=B6) Tryz.func6 rfl (by rfl) Tryz.ntmps6 rfl S6 rfl (fun k x=>vl20_VecInto.f k x.1 x.2.1 x.2.2.1 x.2.2.2.1 x.2.2.2.2.1 x.2.2.2.2.2) vl20_VecInto.G (fun k=>⟨vl20_shown.ok k,vl00_Code.ok,accum_Load.ok k,vr15_Load.ok k,vec_Into.ok k,vr20_Into.ok k,accum_Acc_State.ok,vr15_Acc_State.ok k,vr15_Same.ok k,accum_Acc_Round.ok k,vr15_Acc_Round.ok k,trivial⟩) 4000 vl20_VecInto.cuts ⟨⟨fun _=>rfl,fun k x q h=>(vl20_VecInto.w0 k x).trans h⟩,⟨fun _=>rfl,fun k x q h=>(vl20_VecInto.w1 k x).trans h⟩,trivial⟩ (fun k x r h=>(vl20_VecInto.w k x).trans h) k
def vl20_VecInto.Pure:Prop:=∀ (a0_0:Int) (a0_1:Bool) (a0_2:Int) (a0_3:List Int) (l1:List Int) (l2:List Int),(Lit.int .i64 a0_0).wf=true→(Lit.int .i64 a0_2).wf=true→inL .u64 a0_3→a0_3.length*8≤140737488351232→inL .u64 l1→l1.length*8≤140737488351232→inL .u64 l2→l2.length*8≤140737488351232→∃ k,vl20_VecInto.f k a0_0 a0_1 a0_2 a0_3 l1 l2=some true
end Go.Proofs.YtbpcfhhcoklinaaGreat.Fn
namespace Go.Proofs.YtbpcfhhcoklinaaGreat.V
open Go Go.RowKit Go.Proofs.YtbpcfhhcoklinaaGreat.Ab Go.Proofs.YtbpcfhhcoklinaaGreat.Fn
def numL (l:List UInt8):Nat:=l.foldl (fun x b=>2*x+(b.toNat - 48)) 0
def okL (l:List UInt8):Prop:=∀ b∈l,b.toNat=48∨b.toNat=49
theorem numL_acc (l:List UInt8):∀ x,l.foldl (fun x b=>2*x+(b.toNat - 48)) x=x*2^l.length+numL l:=by
 induction l with
 | nil=>intro x;simp [numL]
 | cons b l ih =>
  intro x
  simp only [List.foldl_cons,List.length_cons,numL]
  rw [ih,ih (2*0+(b.toNat - 48)),Nat.pow_succ]
  generalize 2^l.length=z
  generalize numL l=y
  generalize b.toNat - 48=w
  grind
theorem numL_append (a b:List UInt8):numL (a++b)=numL a*2^b.length+numL b:=by
 unfold numL
 rw [List.foldl_append,numL_acc]
 rfl
theorem numL_lt {l:List UInt8} (h:okL l):numL l < 2^l.length:=by
 induction l with
 | nil=>simp [numL]
 | cons b l ih =>
  have ih:=ih (fun x hx=>h x (List.mem_cons_of_mem _ hx))
  have hb:=h b List.mem_cons_self
  rw [show b :: l=[b]++l from rfl,numL_append]
  have e:numL [b]=b.toNat - 48:=by simp [numL]
  rw [e,List.length_append,Nat.pow_add]
  simp only [List.length_singleton,Nat.pow_one]
  rcases hb with hb | hb <;> rw [hb] <;> omega
theorem okL_append {a b:List UInt8} (ha:okL a) (hb:okL b):okL (a++b):=fun x hx=>(List.mem_append.mp hx).elim (ha x) (hb x)
theorem okL_take {a:List UInt8} (m:Nat) (h:okL a):okL (a.take m):=fun x hx=>h x (List.mem_of_mem_take hx)
theorem okL_drop {a:List UInt8} (m:Nat) (h:okL a):okL (a.drop m):=fun x hx=>h x (List.mem_of_mem_drop hx)
structure BT (s:ByteArray) (L X:Nat):Prop where
 ok:okL s.data.toList
 size:s.size=L
 num:numL s.data.toList=X
theorem lenB (s:ByteArray):s.data.toList.length=s.size:=Array.length_toList
theorem BT.len {s:ByteArray} {L X:Nat} (h:BT s L X):s.data.toList.length=L:=by rw [← h.size];exact lenB s
theorem BT.lt {s:ByteArray} {L X:Nat} (h:BT s L X):X < 2^L:=by have:=numL_lt h.ok;rw [h.len,h.num] at this;exact this
theorem BT.append {s t:ByteArray} {L M X Y:Nat} (h:BT s L X) (k:BT t M Y):BT (s++t) (L+M) (X*2^M+Y):=by
 refine ⟨?_, ?_, ?_⟩
 ·rw [ByteArray.data_append,Array.toList_append];exact okL_append h.ok k.ok
 ·rw [ByteArray.size_append,h.size,k.size]
 ·rw [ByteArray.data_append,Array.toList_append,numL_append,h.num,k.num,k.len]
theorem BT.parts {s:ByteArray} {L X:Nat} (h:BT s L X) (m:Nat) (hm:m≤L):
  BT (s.extract 0 m) m (X / 2^(L - m))∧BT (s.extract m s.size) (L - m) (X%2^(L - m)):=by
 have hl:=h.len
 have e1:(s.extract 0 m).data.toList=s.data.toList.take m:=by
  rw [ByteArray.data_extract,Array.toList_extract];simp [List.extract]
 have e2:(s.extract m s.size).data.toList=s.data.toList.drop m:=by
  rw [ByteArray.data_extract,Array.toList_extract,List.extract_eq_take_drop]
  rw [List.take_of_length_le]
  rw [List.length_drop,hl,h.size];omega
 have hn:X=numL (s.data.toList.take m)*2^(L - m)+numL (s.data.toList.drop m):=by
  have:=numL_append (s.data.toList.take m) (s.data.toList.drop m)
  rw [List.take_append_drop,h.num,List.length_drop,hl] at this
  exact this
 have hlt:numL (s.data.toList.drop m) < 2^(L - m):=by
  have:=numL_lt (okL_drop m h.ok)
  rw [List.length_drop,hl] at this
  exact this
 have p:=two_pos (L - m)
 refine ⟨⟨by rw [e1];exact okL_take m h.ok, ?_, ?_⟩,⟨by rw [e2];exact okL_drop m h.ok, ?_, ?_⟩⟩
 ·rw [ByteArray.size_extract,h.size];omega
 ·rw [e1,hn,Nat.add_comm,Nat.add_mul_div_right _ _ p,Nat.div_eq_of_lt hlt,Nat.zero_add]
 ·rw [ByteArray.size_extract,h.size];omega
 ·rw [e2,hn,Nat.add_comm,Nat.add_mul_mod_self_right,Nat.mod_eq_of_lt hlt]
theorem bt_of {s:ByteArray} {i:Nat} (h:i < s.size):bt s (i:Int)=((s.data.toList[i]'(by rw [lenB];exact h)).toNat:Int):=by
 unfold bt
 rw [dif_pos (by simpa using h)]
 simp [ByteArray.getElem_eq_getElem_data]
theorem BT.bit {s:ByteArray} {L X i:Nat} (h:BT s L X) (hi:i < L):bt s (i:Int)=48+((X / 2^(L - 1 - i)%2:Nat):Int):=by
 have hs:i < s.size:=by rw [h.size];exact hi
 rw [bt_of hs]
 have hl:=h.len
 have hi':i < s.data.toList.length:=by omega
 have hx:=h.ok _ (List.getElem_mem hi')
 have e1:X=numL (s.data.toList.take (i+1))*2^(L - 1 - i)+numL (s.data.toList.drop (i+1)):=by
  have:=numL_append (s.data.toList.take (i+1)) (s.data.toList.drop (i+1))
  rw [List.take_append_drop,h.num,List.length_drop,hl,show L - (i+1)=L - 1 - i by omega] at this
  exact this
 have hlt:numL (s.data.toList.drop (i+1)) < 2^(L - 1 - i):=by
  have:=numL_lt (okL_drop (i+1) h.ok)
  rw [List.length_drop,hl,show L - (i+1)=L - 1 - i by omega] at this
  exact this
 have e2:X / 2^(L - 1 - i)=numL (s.data.toList.take (i+1)):=by
  rw [e1,Nat.add_comm,Nat.add_mul_div_right _ _ (two_pos _),Nat.div_eq_of_lt hlt,Nat.zero_add]
 have e3:numL (s.data.toList.take (i+1))=2*numL (s.data.toList.take i)+((s.data.toList[i]'hi').toNat - 48):=by
  rw [List.take_succ_eq_append_getElem hi',numL_append]
  simp [numL];omega
 rw [e2,e3]
 rcases hx with hx | hx <;> rw [hx] <;> omega
theorem BT.nil:BT ByteArray.empty 0 0:=⟨by intro b hb;simp at hb,rfl,rfl⟩
structure BN (l:List Int) (L X:Nat):Prop where
 len:l.length=L
 bt:BT (strOfNums l) L X
theorem BN.nil:BN [] 0 0:=⟨rfl,⟨by intro b hb;simp [strOfNums_data] at hb,rfl,rfl⟩⟩
theorem BN.snoc {l:List Int} {L X:Nat} (h:BN l L X) (b:Nat) (hb:b < 2):BN (l++[48+(b:Int)]) (L+1) (2*X+b):=by
 have e:(strOfNums (l++[48+(b:Int)])).data.toList=(strOfNums l).data.toList++[UInt8.ofNat (48+b)]:=by
  rw [strOfNums_data,strOfNums_data,List.map_append]
  have:(48+(b:Int)).toNat=48+b:=by omega
  simp [this]
 have hv:(UInt8.ofNat (48+b)).toNat=48+b:=by
  rw [UInt8.toNat_ofNat'];omega
 refine ⟨by simp [h.len],⟨?_, ?_, ?_⟩⟩
 ·rw [e]
  refine okL_append h.bt.ok ?_
  intro x hx
  simp only [List.mem_singleton] at hx
  subst hx;rw [hv];omega
 ·rw [strOfNums_size];simp [h.len]
 ·rw [e,numL_append,h.bt.num]
  have:numL [UInt8.ofNat (48+b)]=b:=by unfold numL;simp only [List.foldl_cons,List.foldl_nil];rw [hv];omega
  rw [this];simp;omega
theorem tmod2 (n:Nat):Int.tmod (n:Int) 2=((n%2:Nat):Int):=by
 rw [Int.tmod_eq_emod_of_nonneg (by omega)];omega
theorem byte_bit (n:Nat):(48+Int.tmod (n:Int) 2%256)%256=48+((n%2:Nat):Int):=by rw [tmod2];omega
theorem Text_l0 (x:Nat) (hx:x < 18446744073709551616):∀ (d:Nat) (l:List Int) (L:Nat),d≤64→L≤64→L+d≤64→BN l L (x%2^(L+d) / 2^d) →
  ∃ s,Ev (fun k=>vr01_Text.l0 k (x:Int) l ((d:Int) - 1)) s∧BT s (L+d) (x%2^(L+d))
 | 0,l,L,_,_,_,h=>by
  refine ⟨strOfNums l, ?_,by simpa using h.bt⟩
  refine evs ?_
  simp only [vr01_Text.l0,nI_eq]
  simp only [if_neg (show ¬ ((0:Nat):Int) - 1≥0 by omega)]
  exact Ev.now _
 | d+1,l,L,hd,hL,hs,h=>by
  have hb:=BN.snoc h (x / 2^d%2) (Nat.mod_lt _ (by decide))
  have e:2*(x%2^(L+(d+1)) / 2^(d+1))+x / 2^d%2=x%2^(L+1+d) / 2^d:=by
   rw [show L+(d+1)=L+1+d by omega,Nat.pow_succ 2 d,← Nat.div_div_eq_div_mul]
   have e1:x%2^(L+1+d) / 2^d%2=x / 2^d%2:=by
    rw [show L+1+d=d+(L+1) by omega,Nat.pow_add,Nat.mod_mul_right_div_self,Nat.pow_succ,Nat.mod_mul_left_mod]
   omega
  rw [e] at hb
  obtain ⟨s,h1,h2⟩:=Text_l0 x hx d _ (L+1) (by omega) (by omega) (by omega) hb
  refine ⟨s, ?_,by rw [show L+(d+1)=L+1+d by omega];exact h2⟩
  refine evs ?_
  simp only [vr01_Text.l0,nI_eq]
  have ei:((d+1:Nat):Int) - 1=(d:Int):=by omega
  rw [ei]
  have ew:wrap64 ((d:Int) - 1)=(d:Int) - 1:=w64 (by omega) (by omega)
  have hlen:=h.len
  have esh:=shr_nat x d (by omega)
  have eb:=byte_bit (x / 2^d)
  simp only [if_pos (show (d:Int)≥0 by omega),if_pos (show (0:Int)≤(d:Int) by omega),if_pos (show l.length < 140737488355328 by omega),ew,esh,eb]
  exact h1
theorem Text_eq (x n:Nat) (hx:x < 18446744073709551616) (hn:n≤64):
  ∃ s,Ev (fun k=>vr01_Text.f k (x:Int) (n:Int)) s∧BT s n (x%2^n):=by
 have h0:BN [] 0 (x%2^(0+n) / 2^n):=by
  rw [Nat.zero_add,Nat.div_eq_of_lt (Nat.mod_lt _ (two_pos n))];exact BN.nil
 obtain ⟨s,h1,h2⟩:=Text_l0 x hx n [] 0 hn (by omega) (by omega) h0
 refine ⟨s, ?_,by rw [Nat.zero_add] at h2;exact h2⟩
 unfold vr01_Text.f
 rw [w64 (by omega) (by omega)]
 exact h1
theorem Number_l0 {s:ByteArray} {L X:Nat} (h:BT s L X) (hL:L≤64):∀ (d i:Nat),i+d=L →
  Ev (fun k=>vr01_Number.l0 k s ((X / 2^d:Nat):Int) (i:Int)) (X:Int)
 | 0,i,hi=>by
  refine evs ?_
  simp only [vr01_Number.l0,nI_eq]
  simp only [if_neg (show ¬ (i:Int) < (s.size:Int) by rw [h.size];omega)]
  simpa using Ev.now (X:Int)
 | d+1,i,hi=>by
  refine evs ?_
  simp only [vr01_Number.l0,nI_eq]
  have hb:=h.bit (i:=i) (by omega)
  have hlt:=h.lt
  simp only [if_pos (show (i:Int) < (s.size:Int) by rw [h.size];omega),if_pos (show (0:Int)≤(i:Int) by omega),hb]
  have ed:L - 1 - i=d:=by omega
  rw [ed]
  have ew:wrap64 ((i:Int)+1)=((i+1:Nat):Int):=by rw [w64 (by omega) (by omega)];omega
  have hq:X / 2^d < 2^64:=Nat.lt_of_le_of_lt (Nat.div_le_self _ _) (Nat.lt_of_lt_of_le hlt (pow_le hL))
  rw [p64] at hq
  have e2:X / 2^(d+1)=X / 2^d / 2:=by rw [Nat.pow_succ,Nat.div_div_eq_div_mul]
  have e1:IntKind.u64.wrap (IntKind.u64.wrap (2*((X / 2^(d+1):Nat):Int))+(48+((X / 2^d%2:Nat):Int) - 48)%256)=((X / 2^d:Nat):Int):=by
   rw [e2]
   generalize X / 2^d=q at hq
   rw [u64_of (n:=2*((q / 2:Nat):Int)) (by omega) (by omega),u64_of (by omega) (by omega)];omega
  rw [ew,e1]
  exact Number_l0 h hL d (i+1) (by omega)
theorem Number_eq {s:ByteArray} {L X:Nat} (h:BT s L X) (hL:L≤64):Ev (fun k=>vr01_Number.f k s) (X:Int):=by
 have:=Number_l0 h hL L 0 (by omega)
 rw [Nat.div_eq_of_lt h.lt] at this
 unfold vr01_Number.f
 exact this
theorem some_l0 {s:ByteArray} {L X:Nat} (h:BT s L X) (hL:L < 9223372036854775807):∀ (d i:Nat),i+d=L →
  Ev (fun k=>vr07_some.l0 k s (i:Int)) (decide (X%2^d≠0))
 | 0,i,hi=>by
  refine evs ?_
  simp only [vr07_some.l0,nI_eq]
  simp only [if_neg (show ¬ (i:Int) < (s.size:Int) by rw [h.size];omega)]
  refine evn ?_
  simp [Nat.mod_one]
 | d+1,i,hi=>by
  refine evs ?_
  simp only [vr07_some.l0,nI_eq]
  have hb:=h.bit (i:=i) (by omega)
  simp only [if_pos (show (i:Int) < (s.size:Int) by rw [h.size];omega),if_pos (show (0:Int)≤(i:Int) by omega),hb]
  have ed:L - 1 - i=d:=by omega
  rw [ed]
  have ew:wrap64 ((i:Int)+1)=((i+1:Nat):Int):=by rw [w64 (by omega) (by omega)];omega
  have hm:X%2^(d+1)=X%2^d+2^d*(X / 2^d%2):=by rw [Nat.pow_succ,Nat.mod_mul]
  by_cases h1:X / 2^d%2=1
  ·simp only [if_pos (show (48:Int)+((X / 2^d%2:Nat):Int)=49 by omega)]
   have p:=two_pos d
   rw [hm,h1]
   refine evn ?_
   congr 1
   symm
   rw [decide_eq_true_eq];omega
  ·have h0:X / 2^d%2=0:=by omega
   simp only [if_neg (show ¬ (48:Int)+((X / 2^d%2:Nat):Int)=49 by omega),ew]
   rw [hm,h0,Nat.mul_zero,Nat.add_zero]
   exact some_l0 h hL d (i+1) (by omega)
theorem some_eq {s:ByteArray} {L X:Nat} (h:BT s L X) (hL:L < 9223372036854775807):Ev (fun k=>vr07_some.f k s) (decide (X≠0)):=by
 have:=some_l0 h hL L 0 (by omega)
 rw [Nat.mod_eq_of_lt h.lt] at this
 unfold vr07_some.f
 exact this
end Go.Proofs.YtbpcfhhcoklinaaGreat.V
namespace Go.Proofs.YtbpcfhhcoklinaaGreat.V
open Go Go.RowKit Go.Proofs.YtbpcfhhcoklinaaGreat.Ab Go.Proofs.YtbpcfhhcoklinaaGreat.Fn
theorem r4_digit {l:List Int} {m:Nat} (h:DL l m) (i:Nat):vr04_digit.f l (i:Int)=some ((dg m i:Nat):Int):=by
 unfold vr04_digit.f;rw [nI_eq]
 by_cases hi:i < l.length
 ·rw [if_pos (by omega),if_pos (by omega),h.rd]
 ·rw [if_neg (by omega),h.dg_out (by omega)];rfl
theorem r4_two_l (n:Nat) (hn:n≤24):∀ (d i:Nat),i+d=n→Ev (fun k=>vr04_two.l0 k (n:Int) ((2^i:Nat):Int) (i:Int)) ((2^n:Nat):Int)
 | 0,i,h=>by
  refine evs ?_
  simp only [vr04_two.l0,nI_eq,if_neg (show ¬ (i:Int) < (n:Int) by omega)]
  have:i=n:=by omega
  subst this
  exact Ev.now _
 | d+1,i,h=>by
  refine evs ?_
  simp only [vr04_two.l0,nI_eq]
  have hp:2^i < 2^24:=pow_lt (by omega)
  have h24:(2:Nat)^24=16777216:=by decide
  have e1:wrap64 (2*((2^i:Nat):Int))=((2^(i+1):Nat):Int):=by
   rw [Nat.pow_succ]
   generalize 2^i=z at *
   rw [w64 (by omega) (by omega)];omega
  have e2:wrap64 ((i:Int)+1)=((i+1:Nat):Int):=by rw [w64 (by omega) (by omega)];omega
  simp only [if_pos (show (i:Int) < (n:Int) by omega),e1,e2]
  exact r4_two_l n hn d (i+1) (by omega)
theorem r4_two (n:Nat) (hn:n≤24):Ev (fun k=>vr04_two.f k (n:Int)) ((2^n:Nat):Int):=by
 unfold vr04_two.f
 exact r4_two_l n hn n 0 (by omega)
theorem r4_Of_l (v:Nat) (hv:v < 18446744073709551616):∀ (d:Nat) (l:List Int),l.length+d=3→okD l→dv l+W l.length*(v / W l.length)=v→(l≠[]→W (l.length - 1)≤v) →
  ∃ r,Ev (fun k=>vr04_Of.l0 k ((v / W l.length:Nat):Int) l) r∧DL r v:=by
 intro d
 induction d with
 | zero =>
  intro l hl hok hval hcan
  have h3:v / W l.length=0:=by
   rw [show l.length=3 by omega,Nat.div_eq_of_lt (Nat.lt_of_lt_of_le hv (by decide))]
  refine ⟨l, ?_,hok,by rw [h3] at hval;simpa using hval,hcan⟩
  refine evs ?_
  simp only [vr04_Of.l0,nI_eq,h3,if_neg (show ¬ ((0:Nat):Int) > 0 by decide)]
  exact Ev.now _
 | succ d ih =>
  intro l hl hok hval hcan
  by_cases h0:v / W l.length=0
  ·refine ⟨l, ?_,hok,by rw [h0] at hval;simpa using hval,hcan⟩
   refine evs ?_
   simp only [vr04_Of.l0,nI_eq,h0,if_neg (show ¬ ((0:Nat):Int) > 0 by decide)]
   exact Ev.now _
  ·have hlt:v / W l.length < 18446744073709551616:=Nat.lt_of_le_of_lt (Nat.div_le_self _ _) hv
   have e1:wrap64 (Int.tmod ((v / W l.length:Nat):Int) 16777216)=((dg v l.length:Nat):Int):=by
    unfold dg
    generalize v / W l.length=q at *
    rw [tmodL,w64 (by omega) (by omega)]
   have e2:IntKind.u64.wrap (Int.tdiv ((v / W l.length:Nat):Int) 16777216)=((v / W (l.length+1):Nat):Int):=by
    rw [W_succ,Nat.mul_comm,← Nat.div_div_eq_div_mul]
    generalize v / W l.length=q at *
    rw [tdivL,u64_of (by omega) (by omega)]
   have ev:dv (l++[((dg v l.length:Nat):Int)])=v%W (l.length+1):=by
    rw [dv_snoc,mod_W_succ]
    have:=Nat.div_add_mod v (W l.length)
    have:=Nat.mul_comm (W l.length) (v / W l.length)
    omega
   have hW:W l.length≤v:=by
    rcases Nat.lt_or_ge v (W l.length) with h | h
    ·exact absurd (Nat.div_eq_of_lt h) h0
    ·exact h
   obtain ⟨r,h1,h2⟩:=ih (l++[((dg v l.length:Nat):Int)]) (by simp;omega) (okD_snoc hok (dg_lt _ _)) (by
    rw [ev,List.length_append,List.length_singleton]
    have:=Nat.div_add_mod v (W (l.length+1));omega) (fun _=>by simpa using hW)
   refine ⟨r, ?_,h2⟩
   refine evs ?_
   simp only [vr04_Of.l0,nI_eq]
   rw [List.length_append,List.length_singleton] at h1
   have hq0:((v / W l.length:Nat):Int) > 0:=by generalize v / W l.length=q at *;omega
   simp only [if_pos hq0,if_pos (show l.length < 17592186044416 by omega),e1,e2]
   exact h1
theorem r4_Of (v:Nat) (hv:v < 18446744073709551616):∃ r,Ev (fun k=>vr04_Of.f k (v:Int)) r∧DL r v:=by
 have:=r4_Of_l v hv 3 [] rfl okD_nil (by simp [dv,W_zero]) (fun h=>absurd rfl h)
 simpa [vr04_Of.f,W_zero] using this
theorem r4_Add_l {x y:List Int} {a b:Nat} (hx:DL x a) (hy:DL y b) (hn:x.length≤1000) (hm:y.length≤1000):∀ (d:Nat) (o:List Int) (c:Nat),o.length+d=max x.length y.length+1 →
  okD o→c≤1→dv o+W o.length*c=a%W o.length+b%W o.length→(o.length=max x.length y.length+1→c=0)→(o≠[]→W (o.length - 1)≤a+b) →
  ∃ r,Ev (fun k=>vr04_Add.l0 k x y o (c:Int) (o.length:Int)) r∧DL r (a+b):=by
 intro d
 induction d with
 | zero =>
  intro o c hl hok hc hv hlast hcan
  have c0:=hlast (by omega)
  subst c0
  have ha:=hx.mod_all (i:=o.length) (by omega)
  have hb:=hy.mod_all (i:=o.length) (by omega)
  refine ⟨o, ?_,hok,by rw [ha,hb] at hv;simpa using hv,hcan⟩
  refine evs ?_
  simp only [vr04_Add.l0,nI_eq,if_neg (show ¬ (o.length:Int) < (x.length:Int) by omega),if_neg (show ¬ (o.length:Int) < (y.length:Int) by omega),decide_eq_false (show ¬ ((0:Nat):Int) > 0 by decide)]
  refine evs ?_
  simp only [vr04_Add.j1,nI_eq,Bool.false_eq_true,if_false]
  exact Ev.now _
 | succ d ih =>
  intro o c hl hok hc hv hlast hcan
  have stop:¬ o.length < x.length→¬ o.length < y.length→c=0→∃ r,Ev (fun k=>vr04_Add.l0 k x y o (c:Int) (o.length:Int)) r∧DL r (a+b):=by
   intro h1 h2 c0
   subst c0
   have ha:=hx.mod_all (i:=o.length) (by omega)
   have hb:=hy.mod_all (i:=o.length) (by omega)
   refine ⟨o, ?_,hok,by rw [ha,hb] at hv;simpa using hv,hcan⟩
   refine evs ?_
   simp only [vr04_Add.l0,nI_eq,if_neg (show ¬ (o.length:Int) < (x.length:Int) by omega),if_neg (show ¬ (o.length:Int) < (y.length:Int) by omega),decide_eq_false (show ¬ ((0:Nat):Int) > 0 by decide)]
   refine evs ?_
   simp only [vr04_Add.j1,nI_eq,Bool.false_eq_true,if_false]
   exact Ev.now _
  have go:(o.length < x.length∨o.length < y.length∨0 < c)→∃ r,Ev (fun k=>vr04_Add.j1 k x y o (c:Int) (o.length:Int) true) r∧DL r (a+b):=by
   intro hg
   have da:=dg_lt a o.length
   have db:=dg_lt b o.length
   generalize ht:dg a o.length+dg b o.length+c=t
   have htb:t < 33554433:=by omega
   have ev:dv (o++[((t%16777216:Nat):Int)])+W (o.length+1)*(t / 16777216)=a%W (o.length+1)+b%W (o.length+1):=by
    rw [dv_snoc,mod_W_succ,mod_W_succ,W_succ]
    exact add_step hv ht
   have hWl:W o.length≤a+b:=by
    rcases hg with hg | hg | hg
    ·have:=(hx.len_iff _).mp hg;omega
    ·have:=(hy.len_iff _).mp hg;omega
    ·have:W o.length*1≤W o.length*c:=Nat.mul_le_mul_left _ hg
     have h1:=Nat.mod_le a (W o.length)
     have h2:=Nat.mod_le b (W o.length)
     omega
   obtain ⟨r,h1,h2⟩:=ih (o++[((t%16777216:Nat):Int)]) (t / 16777216) (by simp;omega) (okD_snoc hok (Nat.mod_lt _ (by decide))) (by omega) (by rw [List.length_append,List.length_singleton];exact ev)
    (fun hlen=>by
     rw [List.length_append,List.length_singleton] at hlen
     have:=hx.dg_out (i:=o.length) (by omega)
     have:=hy.dg_out (i:=o.length) (by omega)
     omega) (fun _=>by simpa using hWl)
   refine ⟨r, ?_,h2⟩
   refine evs ?_
   simp only [vr04_Add.j1,nI_eq,if_true]
   rw [List.length_append,List.length_singleton] at h1
   have hol:o.length < 4611686018427387904:=by omega
   have hol2:o.length < 17592186044416:=by omega
   simp only [r4_digit hx,r4_digit hy,Option.bind_some,if_pos hol2,w_add3 ht (by omega),tmodL,w_div24 (show t < 4611686018427387904 by omega),w_succ hol]
   exact h1
  by_cases h1:o.length < x.length
  ·obtain ⟨r,a1,a2⟩:=go (.inl h1)
   refine ⟨r,evs ?_,a2⟩
   simp only [vr04_Add.l0,nI_eq,if_pos (show (o.length:Int) < (x.length:Int) by omega)]
   exact a1
  ·by_cases h2:o.length < y.length
   ·obtain ⟨r,a1,a2⟩:=go (.inr (.inl h2))
    refine ⟨r,evs ?_,a2⟩
    simp only [vr04_Add.l0,nI_eq,if_neg (show ¬ (o.length:Int) < (x.length:Int) by omega),if_pos (show (o.length:Int) < (y.length:Int) by omega)]
    exact a1
   ·by_cases h3:c=0
    ·exact stop h1 h2 h3
    ·obtain ⟨r,a1,a2⟩:=go (.inr (.inr (by omega)))
     refine ⟨r,evs ?_,a2⟩
     simp only [vr04_Add.l0,nI_eq,if_neg (show ¬ (o.length:Int) < (x.length:Int) by omega),if_neg (show ¬ (o.length:Int) < (y.length:Int) by omega),decide_eq_true (show (c:Int) > 0 by omega)]
     exact a1
theorem r4_Add {x y:List Int} {a b:Nat} (hx:DL x a) (hy:DL y b) (hn:x.length≤1000) (hm:y.length≤1000):∃ r,Ev (fun k=>vr04_Add.f k x y) r∧DL r (a+b):=by
 have:=r4_Add_l hx hy hn hm (max x.length y.length+1) [] 0 (by simp) okD_nil (by omega) (by simp [dv,W_zero,Nat.mod_one]) (fun h=>rfl) (fun h=>absurd rfl h)
 simpa [vr04_Add.f] using this
theorem r4_times_l {x:List Int} {a q:Nat} (hx:DL x a) (hq:q≤16777216) (hq0:0 < q) (hn:x.length≤1000):∀ (d:Nat) (o:List Int) (c:Nat),o.length+d=x.length+1 →
  okD o→c < q→dv o+W o.length*c=a%W o.length*q→(o.length=x.length+1→c=0)→(o≠[]→W (o.length - 1)≤a*q) →
  ∃ r,Ev (fun k=>vr04_times.l0 k x (q:Int) o (c:Int) (o.length:Int)) r∧DL r (a*q):=by
 intro d
 induction d with
 | zero =>
  intro o c hl hok hc hv hlast hcan
  have c0:=hlast (by omega)
  subst c0
  have ha:=hx.mod_all (i:=o.length) (by omega)
  refine ⟨o, ?_,hok,by rw [ha] at hv;simpa using hv,hcan⟩
  refine evs ?_
  simp only [vr04_times.l0,nI_eq,if_neg (show ¬ (o.length:Int) < (x.length:Int) by omega),if_neg (show ¬ ((0:Nat):Int) > 0 by decide)]
  exact Ev.now _
 | succ d ih =>
  intro o c hl hok hc hv hlast hcan
  have da:=dg_lt a o.length
  have hmul:dg a o.length*q≤16777215*q:=Nat.mul_le_mul_right _ (by omega)
  generalize ht:dg a o.length*q+c=t
  have htb:t < 16777216*q:=by omega
  have hb:t < 281474976710657:=by omega
  have hol:o.length < 4611686018427387904:=by omega
  have hol2:o.length < 17592186044416:=by omega
  have hb2:t < 4611686018427387904:=by omega
  have ev:dv (o++[((t%16777216:Nat):Int)])+W (o.length+1)*(t / 16777216)=a%W (o.length+1)*q:=by
   rw [dv_snoc,mod_W_succ,W_succ]
   exact times_step hv ht
  have go:(o.length < x.length∨0 < c)→∃ r,Ev (fun k=>vr04_times.l0 k x (q:Int) (o++[((t%16777216:Nat):Int)]) ((t / 16777216:Nat):Int) ((o.length+1:Nat):Int)) r∧DL r (a*q):=by
   intro hg
   have hWl:W o.length≤a*q:=by
    rcases hg with hg | hg
    ·have:=(hx.len_iff _).mp hg
     exact Nat.le_trans this (Nat.le_mul_of_pos_right _ hq0)
    ·have h1:W o.length*1≤W o.length*c:=Nat.mul_le_mul_left _ hg
     have h2:=Nat.mul_le_mul_right q (Nat.mod_le a (W o.length))
     omega
   obtain ⟨r,h1,h2⟩:=ih (o++[((t%16777216:Nat):Int)]) (t / 16777216) (by simp;omega) (okD_snoc hok (Nat.mod_lt _ (by decide))) (by omega) (by rw [List.length_append,List.length_singleton];exact ev)
    (fun hlen=>by
     rw [List.length_append,List.length_singleton] at hlen
     have h0:=hx.dg_out (i:=o.length) (by omega)
     rw [h0] at ht
     omega) (fun _=>by simpa using hWl)
   rw [List.length_append,List.length_singleton] at h1
   exact ⟨r,h1,h2⟩
  by_cases h1:o.length < x.length
  ·obtain ⟨r,a1,a2⟩:=go (.inl h1)
   refine ⟨r,evs ?_,a2⟩
   simp only [vr04_times.l0,nI_eq,if_pos (show (o.length:Int) < (x.length:Int) by omega),if_pos (show (q:Int) > 0 by omega),r4_digit hx,Option.bind_some,if_pos hol2,w_muladd ht hb2,tmodL,w_div24 hb2,w_succ hol]
   exact a1
  ·by_cases h3:c=0
   ·subst h3
    have ha:=hx.mod_all (i:=o.length) (by omega)
    refine ⟨o,evs ?_,hok,by rw [ha] at hv;simpa using hv,hcan⟩
    simp only [vr04_times.l0,nI_eq,if_neg (show ¬ (o.length:Int) < (x.length:Int) by omega),if_neg (show ¬ ((0:Nat):Int) > 0 by omega)]
    exact Ev.now _
   ·obtain ⟨r,a1,a2⟩:=go (.inr (by omega))
    refine ⟨r,evs ?_,a2⟩
    simp only [vr04_times.l0,nI_eq,if_neg (show ¬ (o.length:Int) < (x.length:Int) by omega),if_pos (show (c:Int) > 0 by omega),r4_digit hx,Option.bind_some,if_pos hol2,w_muladd ht hb2,tmodL,w_div24 hb2,w_succ hol]
    exact a1
theorem r4_times {x:List Int} {a q:Nat} (hx:DL x a) (hq:q≤16777216) (hn:x.length≤1000):∃ r,Ev (fun k=>vr04_times.f k x (q:Int)) r∧DL r (a*q):=by
 by_cases hq0:q=0
 ·subst hq0
  refine ⟨[], ?_,by rw [Nat.mul_zero];exact DL.nil⟩
  unfold vr04_times.f;try simp only [nI_eq]
  refine evs ?_
  simp only [vr04_times.l0,nI_eq,if_neg (show ¬ ((0:Nat):Int) > 0 by decide),if_neg (show ¬ (0:Int) > 0 by decide),ite_self]
  exact Ev.now _
 ·have:=r4_times_l hx hq (by omega) hn (x.length+1) [] 0 (by simp) okD_nil (by omega) (by simp [dv,W_zero,Nat.mod_one]) (fun h=>rfl) (fun h=>absurd rfl h)
  simpa [vr04_times.f] using this
theorem r4_Shl {x:List Int} {a k:Nat} (hx:DL x a) (hk:k≤20000) (hn:x.length≤1000):∃ r,Ev (fun n=>vr04_Shl.f n x (k:Int)) r∧DL r (a*2^k):=by
 by_cases h0:a=0
 ·subst h0
  have:=hx.zero
  subst this
  refine ⟨[], ?_,by rw [Nat.zero_mul];exact DL.nil⟩
  unfold vr04_Shl.f;try simp only [nI_eq]
  exact evn rfl
 ·have hpos:=hx.pos (by omega)
  have t:=r4_two (k%24) (by omega)
  have hp:(2:Nat)^(k%24)≤2^24:=pow_le (by omega)
  obtain ⟨s,s1,s2⟩:=r4_times hx (q:=2^(k%24)) hp hn
  have hs:0 < a*2^(k%24):=Nat.mul_pos (by omega) (two_pos _)
  have hsl:=s2.pos hs
  have hsl2:s.length≤x.length+1:=by
   refine s2.len_le ?_
   rw [W_succ,Nat.mul_comm 16777216]
   have hp':2^(k%24) < 16777216:=by
    have:(2:Nat)^(k%24) < 2^24:=pow_lt (by omega)
    exact this
   have h1:=hx.lt
   exact Nat.mul_lt_mul'' h1 hp'
  have ev:dv (List.replicate (k / 24) 0++s)=a*2^k:=by
   rw [dv_append,dv_zeros,s2.val,List.length_replicate]
   unfold W
   have e1:(2:Nat)^k=2^(24*(k / 24))*2^(k%24):=by rw [← Nat.pow_add];congr 1;omega
   rw [e1];grind
  refine ⟨List.replicate (k / 24) 0++s, ?_, ?_,ev, ?_⟩
  ·unfold vr04_Shl.f;try simp only [nI_eq]
   simp only [if_neg (show ¬ (x.length:Int)=0 by omega),w_q24 hk,w_r24,if_pos (show (0:Int)≤((k / 24:Nat):Int) by omega),Int.toNat_natCast,if_pos (show k / 24≤35184372088832 by omega),Option.bind_some]
   refine Ev.bind t (Ev.bind s1 ?_)
   simp only [List.length_replicate,if_pos (show k / 24+s.length≤17592186044416 by omega)]
   exact Ev.now _
  ·intro d hd
   rcases List.mem_append.mp hd with h | h
   ·exact okD_zeros _ d h
   ·exact s2.ok d h
  ·intro _
   rw [List.length_append,List.length_replicate,show k / 24+s.length - 1=k / 24+(s.length - 1) by omega,W_add]
   have c:=s2.can (by intro e;rw [e] at hsl;simp at hsl)
   have e1:(2:Nat)^k=W (k / 24)*2^(k%24):=by unfold W;rw [← Nat.pow_add];congr 1;omega
   rw [e1]
   have:=Nat.mul_le_mul_left (W (k / 24)) c
   rw [show a*(W (k / 24)*2^(k%24))=W (k / 24)*(a*2^(k%24)) by grind]
   exact this
theorem r4_Cut {x:List Int} (hok:okD x) (hn:x.length≤1000):∃ r,Ev (fun k=>vr04_Cut.f k x) r∧DL r (dv x):=by
 have key:∀ (n:Nat),n≤x.length→dv x < W n→∃ r,Ev (fun k=>vr04_Cut.l0 k x (n:Int)) r∧DL r (dv x):=by
  intro n
  induction n with
  | zero =>
   intro _ h0
   rw [W_zero] at h0
   refine ⟨[],evs ?_,by rw [show dv x=0 by omega];exact DL.nil⟩
   simp only [vr04_Cut.l0,nI_eq]
   simp only [if_neg (show ¬ ((0:Nat):Int) > 0 by decide),if_pos (show (0:Int)≤((0:Nat):Int) by decide),if_pos (show ((0:Nat):Int)≤(x.length:Int) by omega)]
   exact evn rfl
  | succ n ih =>
   intro hl hW
   have hn4:n+1 < 4611686018427387904:=by omega
   have er:=rd_dg hok n
   by_cases hz:dg (dv x) n=0
   ·have hlt:dv x < W n:=by
     have h1:=mod_W_succ (dv x) n
     rw [Nat.mod_eq_of_lt hW,hz,Nat.mul_zero,Nat.add_zero] at h1
     rw [h1];exact Nat.mod_lt _ (W_pos n)
    obtain ⟨r,a1,a2⟩:=ih (by omega) hlt
    refine ⟨r,evs ?_,a2⟩
    simp only [vr04_Cut.l0,nI_eq,w_pred hn4 (Nat.succ_pos n),Nat.add_sub_cancel,if_pos (show ((n+1:Nat):Int) > 0 by omega),if_pos (show (0:Int)≤(n:Int) by omega),if_pos (show (n:Int) < (x.length:Int) by omega),er,hz]
    exact a1
   ·have ht:=dv_take hok (n+1) hl
    rw [Nat.mod_eq_of_lt hW] at ht
    refine ⟨x.take (n+1),evs ?_,okD_take _ hok,ht, ?_⟩
    ·simp only [vr04_Cut.l0,nI_eq,w_pred hn4 (Nat.succ_pos n),Nat.add_sub_cancel,if_pos (show ((n+1:Nat):Int) > 0 by omega),if_pos (show (0:Int)≤(n:Int) by omega),if_pos (show (n:Int) < (x.length:Int) by omega),er,if_neg (show ¬ ((dg (dv x) n:Nat):Int)=0 by omega),if_pos (show (0:Int)≤((n+1:Nat):Int) by omega),if_pos (show ((n+1:Nat):Int)≤(x.length:Int) by omega),Int.toNat_natCast]
     exact Ev.now _
    ·intro _
     rw [List.length_take,Nat.min_eq_left hl,Nat.add_sub_cancel]
     rcases Nat.lt_or_ge (dv x) (W n) with h | h
     ·exact absurd (by unfold dg;rw [Nat.div_eq_of_lt h]) hz
     ·exact h
 unfold vr04_Cut.f;try simp only [nI_eq]
 exact key x.length (Nat.le_refl _) (dv_lt hok)
theorem r4_Bits_l:∀ (d t n:Nat),t < 2^d→n+d < 4611686018427387904→d≤60→Ev (fun k=>vr04_Bits.l0 k (n:Int) (t:Int)) ((n+bl t:Nat):Int)
 | 0,t,n,h,hn,_=>by
  have:t=0:=by simpa using h
  subst this
  refine evs ?_
  simp only [vr04_Bits.l0,nI_eq,if_neg (show ¬ ((0:Nat):Int) > 0 by decide)]
  exact Ev.now _
 | d+1,t,n,h,hn,hd=>by
  refine evs ?_
  simp only [vr04_Bits.l0,nI_eq]
  by_cases h0:t=0
  ·subst h0
   simp only [if_neg (show ¬ ((0:Nat):Int) > 0 by decide)]
   exact Ev.now _
  ·have h60:(2:Nat)^(d+1)≤2^60:=pow_le hd
   have h60':(2:Nat)^60=1152921504606846976:=by decide
   have n4:n < 4611686018427387904:=by omega
   have t4:t < 4611686018427387904:=by omega
   simp only [if_pos (show (t:Int) > 0 by omega),w_succ n4,w_half t4]
   have hb:bl t=bl (t / 2)+1:=by
    have a:=bl_lt (t / 2)
    by_cases h2:t / 2=0
    ·have:t=1:=by omega
     subst this;rfl
    ·have b:=bl_le (x:=t / 2) (by omega)
     have c:=bl_pos (x:=t / 2) (by omega)
     refine bl_unique (by omega) ?_ (by rw [Nat.pow_succ];omega)
     rw [show bl (t / 2)+1 - 1=(bl (t / 2) - 1)+1 by omega,Nat.pow_succ];omega
   rw [hb,show n+(bl (t / 2)+1)=n+1+bl (t / 2) by omega]
   exact r4_Bits_l d (t / 2) (n+1) (by rw [Nat.pow_succ] at h;omega) (by omega) (by omega)
theorem r4_Bits {x:List Int} {a:Nat} (hx:DL x a) (hn:x.length≤1000):Ev (fun k=>vr04_Bits.f k x) ((bl a:Nat):Int):=by
 unfold vr04_Bits.f;try simp only [nI_eq]
 by_cases h0:a=0
 ·subst h0
  have:=hx.zero
  subst this
  refine evn ?_
  rfl
 ·have hpos:=hx.pos (by omega)
  have n4:x.length < 4611686018427387904:=by omega
  have n5:x.length - 1 < 20000:=by omega
  simp only [if_neg (show ¬ (x.length:Int)=0 by omega),w_pred n4 hpos,w_24 n5,if_pos (show (0:Int)≤((x.length - 1:Nat):Int) by omega),if_pos (show ((x.length - 1:Nat):Int) < (x.length:Int) by omega),hx.rd]
  have hd:=dg_lt a (x.length - 1)
  have b:=r4_Bits_l 24 (dg a (x.length - 1)) (24*(x.length - 1)) (by exact hd) (by omega) (by decide)
  have hb:bl a=24*(x.length - 1)+bl (dg a (x.length - 1)):=by
   have hc:=hx.can (by intro e;rw [e] at hpos;simp at hpos)
   have hlt:=hx.lt
   have edg:dg a (x.length - 1)=a / W (x.length - 1):=by
    unfold dg
    rw [Nat.mod_eq_of_lt]
    rw [Nat.div_lt_iff_lt_mul (W_pos _),← W_succ,show x.length - 1+1=x.length by omega]
    exact hlt
   have hq:0 < dg a (x.length - 1):=by rw [edg];exact Nat.div_pos hc (W_pos _)
   have u:=bl_lt (dg a (x.length - 1))
   have v:=bl_le hq
   have c:=bl_pos hq
   have dm:=Nat.div_add_mod a (W (x.length - 1))
   rw [← edg] at dm
   have ml:=Nat.mod_lt a (W_pos (x.length - 1))
   refine bl_unique (by omega) ?_ ?_
   ·rw [show 24*(x.length - 1)+bl (dg a (x.length - 1)) - 1=24*(x.length - 1)+(bl (dg a (x.length - 1)) - 1) by omega,Nat.pow_add]
    have:=Nat.mul_le_mul_left (W (x.length - 1)) v
    unfold W at *
    omega
   ·rw [Nat.pow_add]
    have:=Nat.mul_le_mul_left (W (x.length - 1)) (show dg a (x.length - 1)+1≤2^bl (dg a (x.length - 1)) by omega)
    rw [Nat.mul_add] at this
    unfold W at *
    omega
  rw [hb]
  exact b
theorem r4_Shr_l {y:List Int} {A r:Nat} (hy:DL y A) (hr:r < 24) (hn:y.length≤1000):∀ (d i:Nat) (l:List Int),i+d=y.length→okD l→l.length=y.length→dv l=A / 2^r%W i →
  ∃ s,Ev (fun k=>vr04_Shr.l0 k y ((2^r:Nat):Int) l (i:Int)) s∧DL s (A / 2^r)
 | 0,i,l,h,hok,hl,hv=>by
  have hA:A / 2^r < W i:=Nat.lt_of_le_of_lt (Nat.div_le_self _ _) (by have:=hy.lt;rw [show i=y.length by omega];exact this)
  rw [Nat.mod_eq_of_lt hA] at hv
  obtain ⟨s,s1,s2⟩:=r4_Cut hok (by omega)
  rw [hv] at s2
  refine ⟨s,evs ?_,s2⟩
  simp only [vr04_Shr.l0,nI_eq,if_neg (show ¬ (i:Int) < (y.length:Int) by omega)]
  exact Ev.bind s1 (Ev.now _)
 | d+1,i,l,h,hok,hl,hv=>by
  have hp:=two_pos r
  have hd:=dg_lt (A / 2^r) i
  have hs:=dv_set hok (n:=i) (d:=dg (A / 2^r) i) (by omega) hd
  have hz:dg (dv l) i=0:=by
   unfold dg;rw [Nat.div_eq_of_lt (by rw [hv];exact Nat.mod_lt _ (W_pos i))]
  rw [hz,Nat.mul_zero,Nat.add_zero,hv,← mod_W_succ] at hs
  obtain ⟨s,s1,s2⟩:=r4_Shr_l hy hr hn d (i+1) (l.set i ((dg (A / 2^r) i:Nat):Int)) (by omega) (okD_set hok hd) (by rw [List.length_set];exact hl) hs
  refine ⟨s,evs ?_,s2⟩
  have h4:i < 4611686018427387904:=by omega
  have hne:¬ ((2^r:Nat):Int)=0:=by generalize 2^r=z at *;omega
  simp only [vr04_Shr.l0,nI_eq,if_pos (show (i:Int) < (y.length:Int) by omega),if_pos (show (0:Int)≤(i:Int) by omega),if_neg hne,w_succ h4,r4_digit hy,Option.bind_some,if_pos (show (i:Int) < (l.length:Int) by omega),hy.rd,w_shr' (dg_lt A i) (dg_lt A (i+1)) hr,← dg_shr A i r (by omega),Int.toNat_natCast]
  exact s1
theorem r4_Shr {x:List Int} {a k:Nat} (hx:DL x a) (hk:k≤20000) (hn:x.length≤1000):∃ r,Ev (fun n=>vr04_Shr.f n x (k:Int)) r∧DL r (a / 2^k):=by
 unfold vr04_Shr.f;try simp only [nI_eq]
 simp only [w_q24 hk,w_r24]
 by_cases hq:x.length≤k / 24
 ·refine ⟨[], ?_, ?_⟩
  ·simp only [if_pos (show ((k / 24:Nat):Int)≥(x.length:Int) by omega)]
   exact Ev.now _
  ·have:a < 2^k:=Nat.lt_of_lt_of_le hx.lt (by unfold W;exact pow_le (by omega))
   rw [Nat.div_eq_of_lt this];exact DL.nil
 ·have hy:DL (x.drop (k / 24)) (a / W (k / 24)):=by
   refine ⟨okD_drop _ hx.ok, ?_, ?_⟩
   ·rw [dv_drop hx.ok _ (by omega),hx.val]
   ·intro _
    rw [List.length_drop,Nat.le_div_iff_mul_le (W_pos _),← W_add,show x.length - k / 24 - 1+k / 24=x.length - 1 by omega]
    exact hx.can (by intro e;rw [e] at hq;simp at hq)
  have hl:(x.drop (k / 24)).length=x.length - k / 24:=List.length_drop
  have t:=r4_two (k%24) (by omega)
  obtain ⟨s,s1,s2⟩:=r4_Shr_l hy (r:=k%24) (by omega) (by omega) (x.drop (k / 24)).length 0 (List.replicate (x.drop (k / 24)).length 0) (by omega) (okD_zeros _) (by simp) (by rw [dv_zeros,W_zero,Nat.mod_one])
  refine ⟨s, ?_, ?_⟩
  ·simp only [if_neg (show ¬ ((k / 24:Nat):Int)≥(x.length:Int) by omega),if_pos (show (0:Int)≤((k / 24:Nat):Int) by omega),if_pos (show ((k / 24:Nat):Int)≤(x.length:Int) by omega),Int.toNat_natCast,Option.bind_some]
   refine Ev.bind t ?_
   simp only [if_pos (show (0:Int)≤((x.drop (k / 24)).length:Int) by omega),if_pos (show (x.drop (k / 24)).length≤35184372088832 by omega)]
   exact s1
  ·have e:a / W (k / 24) / 2^(k%24)=a / 2^k:=by
    unfold W
    rw [div_div_pow]
    congr 2;omega
   rw [e] at s2
   exact s2
theorem r4_Low_l {x:List Int} {a k:Nat} (hx:DL x a) (hk:k≤20000) (hn:x.length≤1000):∀ (d i:Nat),i+d=x.length→(a%W i=0∨(k≤24*i∧a%2^k=0)) →
  Ev (fun n=>vr04_Low.l0 n x (k:Int) (i:Int)) (decide (a%2^k≠0))
 | 0,i,h,hv=>by
  have h0:a%2^k=0:=by
   rcases hv with hv | hv
   ·rw [hx.mod_all (by omega)] at hv
    rw [hv,Nat.zero_mod]
   ·exact hv.2
  refine evs ?_
  simp only [vr04_Low.l0,nI_eq,if_neg (show ¬ (i:Int) < (x.length:Int) by omega)]
  refine evs ?_
  simp only [vr04_Low.j1,nI_eq,Bool.false_eq_true,if_false]
  exact evn (by simp [h0])
 | d+1,i,h,hv=>by
  have h4:i < 4611686018427387904:=by omega
  have h5:i < 20000:=by omega
  refine evs ?_
  simp only [vr04_Low.l0,nI_eq,if_pos (show (i:Int) < (x.length:Int) by omega),w_24 h5]
  refine evs ?_
  by_cases hki:k≤24*i
  ·have h0:a%2^k=0:=by
    rcases hv with hv | hv
    ·have:=mod_pow_le (a:=a) hki
     unfold W at hv
     rw [hv,Nat.zero_mod] at this
     exact this.symm
    ·exact hv.2
   simp only [vr04_Low.j1,nI_eq,decide_eq_false (show ¬ ((24*i:Nat):Int) < (k:Int) by omega),Bool.false_eq_true,if_false]
   exact evn (by simp [h0])
  ·have hv:a%W i=0:=hv.resolve_right (fun h=>hki h.1)
   have e1:((k:Int) - ((24*i:Nat):Int))=((k - 24*i:Nat):Int):=by omega
   have e2:wrap64 ((k - 24*i:Nat):Int)=((k - 24*i:Nat):Int):=w64 (by omega) (by omega)
   simp only [vr04_Low.j1,nI_eq,decide_eq_true (show ((24*i:Nat):Int) < (k:Int) by omega),if_true,w_24 h5,e1,e2]
   by_cases hlt:k - 24*i < 24
   ·simp only [if_pos (show ((k - 24*i:Nat):Int) < 24 by omega)]
    refine Ev.bind (r4_two (k - 24*i) (by omega)) ?_
    have hp:=two_pos (k - 24*i)
    have hne:¬ ((2^(k - 24*i):Nat):Int)=0:=by generalize 2^(k - 24*i)=z at *;omega
    have hm:a%2^k=W i*(dg a i%2^(k - 24*i)):=by
     have e:(2:Nat)^k=W i*2^(k - 24*i):=by unfold W;rw [← Nat.pow_add];congr 1;omega
     rw [e,Nat.mod_mul,hv,Nat.zero_add]
     unfold dg
     rw [show (16777216:Nat)=2^24 by decide,mod_pow_le (by omega)]
    simp only [if_pos (show (0:Int)≤(i:Int) by omega),if_pos (show (i:Int) < (x.length:Int) by omega),if_neg hne,hx.rd,tmodN]
    by_cases hz:dg a i%2^(k - 24*i)=0
    ·have h0:a%2^k=0:=by rw [hm,hz,Nat.mul_zero]
     simp only [if_pos (show ((dg a i%2^(k - 24*i):Nat):Int)=0 by omega),w_succ h4]
     exact r4_Low_l hx hk hn d (i+1) (by omega) (.inr ⟨by omega,h0⟩)
    ·have h0:a%2^k≠0:=by
      rw [hm];exact Nat.mul_ne_zero (Nat.ne_of_gt (W_pos i)) hz
     simp only [if_neg (show ¬ ((dg a i%2^(k - 24*i):Nat):Int)=0 by omega)]
     exact evn (by simp [h0])
   ·have hd:=dg_lt a i
    have hm:a%W (i+1)=W i*dg a i:=by rw [mod_W_succ,hv,Nat.zero_add]
    simp only [if_neg (show ¬ ((k - 24*i:Nat):Int) < 24 by omega),if_pos (show (0:Int)≤(i:Int) by omega),if_pos (show (i:Int) < (x.length:Int) by omega),hx.rd,tmodL,Nat.mod_eq_of_lt hd]
    by_cases hz:dg a i=0
    ·simp only [if_pos (show ((dg a i:Nat):Int)=0 by omega),w_succ h4]
     exact r4_Low_l hx hk hn d (i+1) (by omega) (.inl (by rw [hm,hz,Nat.mul_zero]))
    ·have h0:a%2^k≠0:=by
      intro h0
      have:=mod_pow_le (a:=a) (b:=24*(i+1)) (c:=k) (by omega)
      rw [h0,Nat.zero_mod] at this
      have h1:a%W (i+1)=0:=this.symm
      rw [hm] at h1
      exact Nat.mul_ne_zero (Nat.ne_of_gt (W_pos i)) hz h1
     simp only [if_neg (show ¬ ((dg a i:Nat):Int)=0 by omega)]
     exact evn (by simp [h0])
theorem r4_Low {x:List Int} {a k:Nat} (hx:DL x a) (hk:k≤20000) (hn:x.length≤1000):Ev (fun n=>vr04_Low.f n x (k:Int)) (decide (a%2^k≠0)):=by
 unfold vr04_Low.f;try simp only [nI_eq]
 exact r4_Low_l hx hk hn x.length 0 (by omega) (.inl (by rw [W_zero,Nat.mod_one]))
theorem r4_Word {x:List Int} {a:Nat} (hx:DL x a):Ev (fun k=>vr04_Word.f k x) ((a%18446744073709551616:Nat):Int):=by
 unfold vr04_Word.f
 have d0:=r4_digit hx 0
 have d1:=r4_digit hx 1
 have d2:=r4_digit hx 2
 have b0:=dg_lt a 0
 have b1:=dg_lt a 1
 have b2:=dg_lt a 2
 have w1:wrap64 ((2:Int) - 1)=1:=w64 (by decide) (by decide)
 have w2:wrap64 ((1:Int) - 1)=0:=w64 (by decide) (by decide)
 have w3:wrap64 ((0:Int) - 1) = -1:=w64 (by decide) (by decide)
 have d0':vr04_digit.f x 0=_:=d0
 have d1':vr04_digit.f x 1=_:=d1
 have d2':vr04_digit.f x 2=_:=d2
 refine evs ?_
 simp only [vr04_Word.l0,nI_eq,if_pos (show (2:Int)≥0 by decide),d2',Option.bind_some,w1]
 refine evs ?_
 simp only [vr04_Word.l0,nI_eq,if_pos (show (1:Int)≥0 by decide),d1',Option.bind_some,w2]
 refine evs ?_
 simp only [vr04_Word.l0,nI_eq,if_pos (show (0:Int)≥0 by decide),d0',Option.bind_some,w3]
 refine evs ?_
 simp only [vr04_Word.l0,nI_eq,if_neg (show ¬ (-1:Int)≥0 by decide)]
 refine evn ?_
 congr 1
 simp only [u64_wrap]
 have e0:dg a 0=a%16777216:=by unfold dg;rw [W_zero,Nat.div_one]
 have e1:dg a 1=a / 16777216%16777216:=by unfold dg;rfl
 have e2:dg a 2=a / 281474976710656%16777216:=by unfold dg;rfl
 rw [e0,e1,e2]
 omega
theorem r4_Mul_l1 {a b:List Int} {A B i P M:Nat} (ha:DL a A) (hb:DL b B) (hi:i < a.length) (hn:a.length+b.length≤1000)
  (cont:∀ (l:List Int),okD l→l.length=a.length+b.length→dv l=P+W i*dg A i*B→∃ r,Ev (fun n=>vr04_Mul.l0 n a b l ((i+1:Nat):Int)) r∧DL r M):
  ∀ (d k:Nat) (l:List Int) (c:Nat),k+d=b.length→okD l→l.length=a.length+b.length→c < 16777216→dv l+W (i+k)*c=P+W i*dg A i*(B%W k)→l.getD (i+b.length) 0=0 →
   ∃ r,Ev (fun n=>vr04_Mul.l1 n a b l (i:Int) (c:Int) (k:Int)) r∧DL r M
 | 0,k,l,c,h,hok,hl,hc,hv,hz=>by
  have hk:k=b.length:=by omega
  subst hk
  have hs:=dv_set hok (n:=i+b.length) (d:=c) (by omega) hc
  have hz':dg (dv l) (i+b.length)=0:=by have:=getD_dg hok (i+b.length);rw [hz] at this;omega
  rw [hz',Nat.mul_zero,Nat.add_zero,hv,hb.mod_all (Nat.le_refl _)] at hs
  obtain ⟨r,r1,r2⟩:=cont _ (okD_set hok hc) (by rw [List.length_set];exact hl) hs
  refine ⟨r,evs ?_,r2⟩
  have h4:i+b.length < 4611686018427387904:=by omega
  have h5:i < 4611686018427387904:=by omega
  simp only [vr04_Mul.l1,nI_eq,if_neg (show ¬ (b.length:Int) < (b.length:Int) by omega),w_add rfl h4,w_succ h5,if_pos (show (0:Int)≤((i+b.length:Nat):Int) by omega),if_pos (show ((i+b.length:Nat):Int) < (l.length:Int) by omega),Int.toNat_natCast]
  exact r1
 | d+1,k,l,c,h,hok,hl,hc,hv,hz=>by
  have g0:=dg_lt (dv l) (i+k)
  have g1:=dg_lt A i
  have g2:=dg_lt B k
  have g3:dg A i*dg B k≤16777215*16777215:=Nat.mul_le_mul (by omega) (by omega)
  obtain ⟨p,hp⟩:∃ p,dg A i*dg B k=p:=⟨_,rfl⟩
  obtain ⟨t,ht⟩:∃ t,dg (dv l) (i+k)+p+c=t:=⟨_,rfl⟩
  have hst:=mul_step hok (k:=k) (by omega) hv rfl (t:=t) (by rw [hp];exact ht)
  rw [hp] at g3
  have htb:t < 281474976710656:=by omega
  obtain ⟨r,r1,r2⟩:=r4_Mul_l1 ha hb hi hn cont d (k+1) (l.set (i+k) ((t%16777216:Nat):Int)) (t / 16777216) (by omega) (okD_set hok (Nat.mod_lt _ (by decide))) (by rw [List.length_set];exact hl) (by omega) hst
   (by rw [List.getD_eq_getElem?_getD,List.getElem?_set_ne (by omega),← List.getD_eq_getElem?_getD];exact hz)
  refine ⟨r,evs ?_,r2⟩
  have h4:i+k < 4611686018427387904:=by omega
  have h5:k < 4611686018427387904:=by omega
  simp only [vr04_Mul.l1,nI_eq,if_pos (show (k:Int) < (b.length:Int) by omega),w_add rfl h4,if_pos (show (0:Int)≤((i+k:Nat):Int) by omega),if_pos (show ((i+k:Nat):Int) < (l.length:Int) by omega),if_pos (show (0:Int)≤(i:Int) by omega),if_pos (show (i:Int) < (a.length:Int) by omega),if_pos (show (0:Int)≤(k:Int) by omega),rd_dg hok,ha.rd,hb.rd]
  simp only [w_mul hp (show p < 4611686018427387904 by omega),w_add3 ht (show t < 4611686018427387904 by omega),tmodL,w_div24 (show t < 4611686018427387904 by omega),w_succ h5,Int.toNat_natCast]
  exact r1
theorem r4_Mul_l0 {a b:List Int} {A B:Nat} (ha:DL a A) (hb:DL b B) (hn:a.length+b.length≤1000):
  ∀ (d i:Nat) (l:List Int),i+d=a.length→okD l→l.length=a.length+b.length→dv l=A%W i*B→∃ r,Ev (fun n=>vr04_Mul.l0 n a b l (i:Int)) r∧DL r (A*B)
 | 0,i,l,h,hok,hl,hv=>by
  have hi:i=a.length:=by omega
  subst hi
  rw [ha.mod_all (Nat.le_refl _)] at hv
  obtain ⟨r,r1,r2⟩:=r4_Cut hok (by omega)
  rw [hv] at r2
  refine ⟨r,evs ?_,r2⟩
  simp only [vr04_Mul.l0,nI_eq,if_neg (show ¬ (a.length:Int) < (a.length:Int) by omega)]
  exact Ev.bind r1 (Ev.now _)
 | d+1,i,l,h,hok,hl,hv=>by
  have hlt:dv l < W (i+b.length):=by
   rw [hv,W_add]
   exact Nat.mul_lt_mul'' (Nat.mod_lt _ (W_pos i)) hb.lt
  have hz:l.getD (i+b.length) 0=0:=by
   rw [getD_dg hok];unfold dg;rw [Nat.div_eq_of_lt hlt];rfl
  obtain ⟨r,r1,r2⟩:=r4_Mul_l1 (P:=A%W i*B) (M:=A*B) ha hb (i:=i) (by omega) hn (fun l' o' e' v'=>r4_Mul_l0 ha hb hn d (i+1) l' (by omega) o' e' (by rw [v',mod_W_succ,Nat.add_mul]))
   b.length 0 l 0 (by omega) hok hl (by decide) (by rw [hv,W_zero,Nat.mod_one,Nat.mul_zero,Nat.mul_zero]) hz
  refine ⟨r,evs ?_,r2⟩
  simp only [vr04_Mul.l0,nI_eq,if_pos (show (i:Int) < (a.length:Int) by omega)]
  exact r1
theorem r4_Mul {a b:List Int} {A B:Nat} (ha:DL a A) (hb:DL b B) (hn:a.length+b.length≤1000):∃ r,Ev (fun n=>vr04_Mul.f n a b) r∧DL r (A*B):=by
 unfold vr04_Mul.f;try simp only [nI_eq]
 by_cases h0:a.length=0
 ·have:a=[]:=List.eq_nil_of_length_eq_zero h0
  subst this
  have hA:A=0:=by rw [← ha.val];rfl
  subst hA
  refine ⟨[], ?_,by rw [Nat.zero_mul];exact DL.nil⟩
  simp only [List.length_nil,if_pos (show ((0:Nat):Int)=0 from rfl)]
  refine evs ?_
  simp only [vr04_Mul.j0,nI_eq,if_true]
  exact Ev.now _
 ·simp only [if_neg (show ¬ (a.length:Int)=0 by omega)]
  by_cases h1:b.length=0
  ·have:b=[]:=List.eq_nil_of_length_eq_zero h1
   subst this
   have hB:B=0:=by rw [← hb.val];rfl
   subst hB
   refine ⟨[], ?_,by rw [Nat.mul_zero];exact DL.nil⟩
   refine evs ?_
   simp only [vr04_Mul.j0,nI_eq,List.length_nil,if_pos (show (((0:Nat):Int)==0)=true from rfl)]
   exact Ev.now _
  ·obtain ⟨r,r1,r2⟩:=r4_Mul_l0 ha hb hn a.length 0 (List.replicate (a.length+b.length) 0) (by omega) (okD_zeros _) (by rw [List.length_replicate]) (by rw [dv_zeros,W_zero,Nat.mod_one,Nat.zero_mul])
   refine ⟨r,evs ?_,r2⟩
   have h4:a.length+b.length < 4611686018427387904:=by omega
   have hb0:((b.length:Int)==0)=false:=by rw [beq_eq_false_iff_ne];omega
   simp only [vr04_Mul.j0,nI_eq,hb0,Bool.false_eq_true,if_false,w_add rfl h4,if_pos (show (0:Int)≤((a.length+b.length:Nat):Int) by omega),Int.toNat_natCast,if_pos (show a.length+b.length≤35184372088832 by omega)]
   exact r1
theorem r4_Cmp_l0 {a b:List Int} {A B:Nat} (ha:DL a A) (hb:DL b B) (hl:a.length=b.length) (hn:a.length≤1000):∀ (m:Nat),m≤a.length→A / W m=B / W m→Ev (fun k=>vr04_Cmp.l0 k a b ((m:Int) - 1)) (cmpN A B):=by
 intro m
 induction m with
 | zero =>
  intro hm h
  rw [W_zero,Nat.div_one,Nat.div_one] at h
  refine evs ?_
  simp only [vr04_Cmp.l0,nI_eq,if_neg (show ¬ ((0:Nat):Int) - 1≥0 by decide)]
  refine evn ?_
  rw [h];unfold cmpN;simp
 | succ m ih =>
  intro hm h
  obtain ⟨t1,t2⟩:=dg_top A B m h
  obtain ⟨_,t3⟩:=dg_top B A m h.symm
  have e:((m+1:Nat):Int) - 1=(m:Int):=by omega
  have hm4:m < 4611686018427387904:=by omega
  refine evs ?_
  simp only [vr04_Cmp.l0,nI_eq,e,if_pos (show (m:Int)≥0 by omega),if_pos (show (0:Int)≤(m:Int) by omega),if_pos (show (m:Int) < (a.length:Int) by omega),if_pos (show (m:Int) < (b.length:Int) by omega),ha.rd,hb.rd,w_less hm4]
  by_cases h1:dg A m < dg B m
  ·have:=t2.mpr h1
   have hlt:A < B:=Nat.lt_of_not_le fun hc=>absurd (Nat.div_le_div_right (c:=W m) hc) (by omega)
   simp only [if_pos (show ((dg A m:Nat):Int) < ((dg B m:Nat):Int) by omega)]
   refine evn ?_
   unfold cmpN;rw [if_pos hlt]
  ·simp only [if_neg (show ¬ ((dg A m:Nat):Int) < ((dg B m:Nat):Int) by omega)]
   by_cases h2:dg B m < dg A m
   ·have:=t3.mpr h2
    have hlt:B < A:=Nat.lt_of_not_le fun hc=>absurd (Nat.div_le_div_right (c:=W m) hc) (by omega)
    simp only [if_pos (show ((dg A m:Nat):Int) > ((dg B m:Nat):Int) by omega)]
    refine evn ?_
    unfold cmpN;rw [if_neg (by omega),if_neg (by omega)]
   ·simp only [if_neg (show ¬ ((dg A m:Nat):Int) > ((dg B m:Nat):Int) by omega)]
    exact ih (by omega) (t1.mpr (by omega))
theorem r4_Cmp {a b:List Int} {A B:Nat} (ha:DL a A) (hb:DL b B) (hn:a.length≤1000) (hm:b.length≤1000):Ev (fun k=>vr04_Cmp.f k a b) (cmpN A B):=by
 unfold vr04_Cmp.f;try simp only [nI_eq]
 by_cases hl:a.length=b.length
 ·have hn4:a.length < 4611686018427387904:=by omega
  simp only [if_pos (show (a.length:Int)=(b.length:Int) by omega),w_less hn4]
  refine r4_Cmp_l0 ha hb hl hn a.length (Nat.le_refl _) ?_
  rw [Nat.div_eq_of_lt ha.lt,Nat.div_eq_of_lt (by rw [hl];exact hb.lt)]
 ·simp only [if_neg (show ¬ (a.length:Int)=(b.length:Int) by omega)]
  rcases Nat.lt_or_ge a.length b.length with h | h
  ·have h1:=ha.lt
   have h2:=(hb.len_iff a.length).mp h
   simp only [if_pos (show (a.length:Int) < (b.length:Int) by omega)]
   refine evn ?_
   unfold cmpN;rw [if_pos (by omega)]
  ·have h1:=hb.lt
   have h2:=(ha.len_iff b.length).mp (by omega)
   simp only [if_neg (show ¬ (a.length:Int) < (b.length:Int) by omega)]
   refine evn ?_
   unfold cmpN;rw [if_neg (by omega),if_neg (by omega)]
theorem r4_Sub_l {x y:List Int} {a b:Nat} (hx:DL x a) (hy:DL y b) (hab:b≤a) (hn:x.length≤1000):∀ (d:Nat) (o:List Int) (c:Nat),o.length+d=x.length→okD o→c≤1→dv o+b%W o.length=a%W o.length+W o.length*c →
  ∃ r,Ev (fun k=>vr04_Sub.l0 k x y o (c:Int) (o.length:Int)) r∧DL r (a - b)
 | 0,o,c,hl,hok,hc,hv=>by
  have hlt:=hx.lt
  have hdo:=dv_lt hok
  rw [show o.length=x.length by omega] at hv hdo
  rw [Nat.mod_eq_of_lt hlt,Nat.mod_eq_of_lt (show b < W x.length by omega)] at hv
  have hc0:c=0:=by
   rcases (show c=0∨c=1 by omega) with h | h
   ·exact h
   ·rw [h,Nat.mul_one] at hv;omega
  rw [hc0,Nat.mul_zero,Nat.add_zero] at hv
  obtain ⟨r,s1,s2⟩:=r4_Cut hok (by omega)
  refine ⟨r,evs ?_,by rw [show a - b=dv o by omega];exact s2⟩
  simp only [vr04_Sub.l0,nI_eq,if_neg (show ¬ (o.length:Int) < (x.length:Int) by omega)]
  exact Ev.bind s1 (Ev.now _)
 | d+1,o,c,hl,hok,hc,hv=>by
  have da:=dg_lt a o.length
  have db:=dg_lt b o.length
  have hol:o.length < 4611686018427387904:=by omega
  have hol2:o.length < 17592186044416:=by omega
  have w1:wrap64 (((dg a o.length:Nat):Int) - ((dg b o.length:Nat):Int))=((dg a o.length:Nat):Int) - ((dg b o.length:Nat):Int):=w64 (by omega) (by omega)
  have w2:wrap64 (((dg a o.length:Nat):Int) - ((dg b o.length:Nat):Int) - (c:Int))=((dg a o.length:Nat):Int) - ((dg b o.length:Nat):Int) - (c:Int):=w64 (by omega) (by omega)
  have step:∀ (u t:Nat),u < 16777216→t≤1→dg a o.length+16777216*t=dg b o.length+c+u →
    ∃ r,Ev (fun k=>vr04_Sub.l0 k x y (o++[(u:Int)]) (t:Int) ((o.length+1:Nat):Int)) r∧DL r (a - b):=by
   intro u t hu ht he
   have ih:=r4_Sub_l hx hy hab hn d (o++[(u:Int)]) t (by simp;omega) (okD_snoc hok hu) ht (by
    rw [List.length_append,List.length_singleton,dv_snoc,mod_W_succ,mod_W_succ,W_succ]
    have:=sub_step hv he
    grind)
   rw [List.length_append,List.length_singleton] at ih
   exact ih
  by_cases h:dg a o.length < dg b o.length+c
  ·obtain ⟨r,r1,r2⟩:=step (dg a o.length+16777216 - dg b o.length - c) 1 (by omega) (by omega) (by omega)
   refine ⟨r,evs ?_,r2⟩
   have w3:wrap64 (((dg a o.length:Nat):Int) - ((dg b o.length:Nat):Int) - (c:Int)+16777216)=((dg a o.length+16777216 - dg b o.length - c:Nat):Int):=by rw [w64 (by omega) (by omega)];omega
   simp only [vr04_Sub.l0,nI_eq,if_pos (show (o.length:Int) < (x.length:Int) by omega),if_pos (show (0:Int)≤(o.length:Int) by omega),r4_digit hy,Option.bind_some,hx.rd,w1,w2,if_pos (show ((dg a o.length:Nat):Int) - ((dg b o.length:Nat):Int) - (c:Int) < 0 by omega),w3,if_pos hol2,w_succ hol]
   exact r1
  ·obtain ⟨r,r1,r2⟩:=step (dg a o.length - dg b o.length - c) 0 (by omega) (by omega) (by omega)
   refine ⟨r,evs ?_,r2⟩
   have w3:wrap64 (((dg a o.length:Nat):Int) - ((dg b o.length:Nat):Int) - (c:Int))=((dg a o.length - dg b o.length - c:Nat):Int):=by rw [w2];omega
   simp only [vr04_Sub.l0,nI_eq,if_pos (show (o.length:Int) < (x.length:Int) by omega),if_pos (show (0:Int)≤(o.length:Int) by omega),r4_digit hy,Option.bind_some,hx.rd,w1,w3,if_neg (show ¬ ((dg a o.length - dg b o.length - c:Nat):Int) < 0 by omega),if_pos hol2,w_succ hol]
   exact r1
theorem r4_Sub {x y:List Int} {a b:Nat} (hx:DL x a) (hy:DL y b) (hab:b≤a) (hn:x.length≤1000):∃ r,Ev (fun k=>vr04_Sub.f k x y) r∧DL r (a - b):=by
 have:=r4_Sub_l hx hy hab hn x.length [] 0 (by simp) okD_nil (by omega) (by simp [dv,W_zero,Nat.mod_one])
 simpa [vr04_Sub.f] using this
end Go.Proofs.YtbpcfhhcoklinaaGreat.V
namespace Go.Proofs.YtbpcfhhcoklinaaGreat.V
open Go Go.RowKit Go.Proofs.YtbpcfhhcoklinaaGreat.Ab Go.Proofs.YtbpcfhhcoklinaaGreat.Fn
theorem code_none:vl00_Code.f none=some 0:=rfl
theorem code_2:vl00_Code.f (some 2)=some 2:=rfl
end Go.Proofs.YtbpcfhhcoklinaaGreat.V
