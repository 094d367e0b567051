-- Written by a program of this session out of its own texts (wip/tools/link.py).
import Derived.Below
import Derived.ChangeKeysEq
import Derived.Deep.MidRow
import Derived.Deep.RegionHeld3
import Derived.Great.BuildSlice
import Derived.IntWalk
import Derived.KernelRfl
import Derived.LaidEql
import Derived.Laws.Bits64
import Derived.Laws.BitsLemmas
import Derived.Laws.BytesArg
import Derived.Laws.IdiomCopy
import Derived.Laws.OwnMore
import Derived.Laws.Rows
import Derived.Laws.Slices
import Derived.Laws.StructEq
import Derived.Laws.Tables
import Derived.Lib.BitFns
import Derived.Lib.Slices
import Derived.Lib.Small
import Derived.Lib.Strings
import Derived.Lib.Walk
import Derived.Maps.AppendAt
import Derived.OrdersHeld
import Derived.RowKit
import Derived.Scope
import Derived.Shelf.Spec.BitsCarry
import Derived.Test.YtbpcfhhcoklinaaGreatProg
import Derived.Test.YtbpcfhhcoklinaaGreatCVecInto2
import Derived.Test.YtbpcfhhcoklinaaGreatCVecInto5
import Derived.Test.YtbpcfhhcoklinaaGreatCVecInto10
import Derived.Test.YtbpcfhhcoklinaaGreatCVecInto11
noncomputable section
set_option linter.unusedSimpArgs false
set_option linter.unusedVariables false
set_option maxRecDepth 100000
noncomputable section
namespace Go.Proofs.YtbpcfhhcoklinaaGreat.Fn
open Go Go.RowKit Go.Proofs.YtbpcfhhcoklinaaGreat.Ab
def E134:En:=⟨Tryz.prog,76,Tryz.f134.ntmps,none,false,[]⟩
def S134:Sig:=⟨[.s],[(.int .i64)],false,[.s],[.bool],false⟩
def B134:Go.Code:=Tryz.f134.body.get!
def shape_is.f (a0:Int):Option (Bool):=if a0=8 then (some true) else (if a0=16 then (some true) else (if a0=32 then (some true) else (if a0=64 then (some true) else (some false))))
--@ok
def shape_is.fR (a0:Int):Option (Bool):=if a0=8 then (if a0=8 then (some true) else (some false)) else (if a0=16 then (if a0=16 then (some true) else (some false)) else (if a0=32 then (if a0=32 then (some true) else (some false)) else (if a0=64 then (some true) else (some false))))
theorem shape_is.fE (a0:Int):shape_is.fR a0=shape_is.f a0:=by
  unfold shape_is.fR shape_is.f
  exact iteC (fun h0=>(if_pos h0).trans (rfl)) (fun h0=>iteC (fun h1=>(if_pos h1).trans (rfl)) (fun h1=>iteC (fun h2=>(if_pos h2).trans (rfl)) (fun h2=>iteC (fun h3=>rfl) (fun h3=>rfl))))
def shape_is.c:Con:=S134.con fun x=>shape_is.f x
def shape_is.G (k:Nat):List (Go.FuncId×Cn):=[]
def shape_is.cuts:List (Cut (TT S134.sb)):=[]
theorem shape_is.w (k:Nat) (x:TT S134.sa):walk E134 (shape_is.G k) (cutsAt E134 k shape_is.cuts) (retE E134 Tryz.f134.results.toList S134) 4000 true [([],.code B134)] (St0 S134 x)=shape_is.f x:=Eq.trans (b:=shape_is.fR x) (by kernel_rfl) (shape_is.fE x)
theorem shape_is.ok:FnOk Tryz.prog E134.eT 134 (shape_is.c):=FnOk.walk (E:=E134) (body:=B134) Tryz.func134 rfl (by rfl) Tryz.ntmps134 rfl S134 rfl (fun k x=>shape_is.f x) shape_is.G (fun k=>trivial) 4000 shape_is.cuts trivial (fun k x r h=>(shape_is.w k x).trans h) 0
def E183:En:=⟨Tryz.prog,76,Tryz.f183.ntmps,none,false,[]⟩
def S183:Sig:=⟨[.s,.s],[(.int .u64),(.int .i64)],true,[.s,.s],[(.int .i64),.err],false⟩
def B183:Go.Code:=Tryz.f183.body.get!
def lead_Extend.f (a0:Int) (a1:Int):Option (Int×Option Int):=if a1 < 1 then (some (0,some 1)) else (if a1 > 64 then (some (0,some 1)) else (if 0≤(wrap64 (64 - a1)) then (some (shr .i64 (wrap64 (shl .u64 a0 (wrap64 (64 - a1)))) (wrap64 (64 - a1)),none)) else (none)))
--@ok
def lead_Extend.fR (a0:Int) (a1:Int):Option (Int×Option Int):=if a1 < 1 then (some (0,some 1)) else (if a1 > 64 then (some (0,some 1)) else (if 0≤(wrap64 (64 - a1)) then (if 0≤(wrap64 (64 - a1)) then (some (shr .i64 (wrap64 (shl .u64 a0 (wrap64 (64 - a1)))) (wrap64 (64 - a1)),none)) else (none)) else (none)))
theorem lead_Extend.fE (a0:Int) (a1:Int):lead_Extend.fR a0 a1=lead_Extend.f a0 a1:=by
  unfold lead_Extend.fR lead_Extend.f
  exact iteC (fun h0=>rfl) (fun h0=>iteC (fun h1=>rfl) (fun h1=>iteC (fun h2=>(if_pos h2).trans (rfl)) (fun h2=>rfl)))
def lead_Extend.c:Con:=S183.con fun x=>lead_Extend.f x.1 x.2
def lead_Extend.G (k:Nat):List (Go.FuncId×Cn):=[]
def lead_Extend.cuts:List (Cut (TT S183.sb)):=[]
theorem lead_Extend.w (k:Nat) (x:TT S183.sa):walk E183 (lead_Extend.G k) (cutsAt E183 k lead_Extend.cuts) (retE E183 Tryz.f183.results.toList S183) 4000 true [([],.code B183)] (St0 S183 x)=lead_Extend.f x.1 x.2:=Eq.trans (b:=lead_Extend.fR x.1 x.2) (by kernel_rfl) (lead_Extend.fE x.1 x.2)
theorem lead_Extend.ok:FnOk Tryz.prog E183.eT 183 (lead_Extend.c):=FnOk.walk (E:=E183) (body:=B183) Tryz.func183 rfl (by rfl) Tryz.ntmps183 rfl S183 rfl (fun k x=>lead_Extend.f x.1 x.2) lead_Extend.G (fun k=>trivial) 4000 lead_Extend.cuts trivial (fun k x r h=>(lead_Extend.w k x).trans h) 0
def E132:En:=⟨Tryz.prog,76,Tryz.f132.ntmps,none,false,[]⟩
def S132:Sig:=⟨[.s,.s],[(.int .i64),(.int .u64)],true,[.s,.s],[(.int .i64),.err],false⟩
def B132:Go.Code:=Tryz.f132.body.get!
def shape_Rank.f (a0:Int) (a1:Int):Option (Int×Option Int):=(shape_is.f a0).bind fun t100=>(if t100=true then ((lead_Extend.f a1 a0).bind fun t101=>(some (t101.1,t101.2))) else (some (0,some 2)))
--@ok
def shape_Rank.c:Con:=S132.con fun x=>shape_Rank.f x.1 x.2
def shape_Rank.G (k:Nat):List (Go.FuncId×Cn):=[(134,.f shape_is.c),(183,.f lead_Extend.c)]
def shape_Rank.cuts:List (Cut (TT S132.sb)):=[]
theorem shape_Rank.w (k:Nat) (x:TT S132.sa):walk E132 (shape_Rank.G k) (cutsAt E132 k shape_Rank.cuts) (retE E132 Tryz.f132.results.toList S132) 4000 true [([],.code B132)] (St0 S132 x)=shape_Rank.f x.1 x.2:=by kernel_rfl
theorem shape_Rank.ok:FnOk Tryz.prog E132.eT 132 (shape_Rank.c):=FnOk.walk (E:=E132) (body:=B132) Tryz.func132 rfl (by rfl) Tryz.ntmps132 rfl S132 rfl (fun k x=>shape_Rank.f x.1 x.2) shape_Rank.G (fun k=>⟨shape_is.ok,lead_Extend.ok,trivial⟩) 4000 shape_Rank.cuts trivial (fun k x r h=>(shape_Rank.w k x).trans h) 0
def E91:En:=⟨Tryz.prog,76,Tryz.f91.ntmps,none,false,[]⟩
def S91:Sig:=⟨[.s,.s,.s],[(.int .i64),(.int .u64),(.int .u64)],true,[.s,.s],[(.int .i64),.err],false⟩
def B91:Go.Code:=Tryz.f91.body.get!
def order_Cmp.f (a0:Int) (a1:Int) (a2:Int):Option (Int×Option Int):=(shape_Rank.f a0 a1).bind fun t100=>(if t100.2.isNone=true then ((shape_Rank.f a0 a2).bind fun t101=>(if t100.1 < t101.1 then (some ((-1),t101.2)) else (if t100.1 > t101.1 then (some (1,t101.2)) else (some (0,t101.2))))) else (some (0,some (t100.2.getD 0))))
--@ok
def order_Cmp.c:Con:=S91.con fun x=>order_Cmp.f x.1 x.2.1 x.2.2
def order_Cmp.G (k:Nat):List (Go.FuncId×Cn):=[(132,.f shape_Rank.c)]
def order_Cmp.cuts:List (Cut (TT S91.sb)):=[]
theorem order_Cmp.w (k:Nat) (x:TT S91.sa):walk E91 (order_Cmp.G k) (cutsAt E91 k order_Cmp.cuts) (retE E91 Tryz.f91.results.toList S91) 4000 true [([],.code B91)] (St0 S91 x)=order_Cmp.f x.1 x.2.1 x.2.2:=by kernel_rfl
theorem order_Cmp.ok:FnOk Tryz.prog E91.eT 91 (order_Cmp.c):=FnOk.walk (E:=E91) (body:=B91) Tryz.func91 rfl (by rfl) Tryz.ntmps91 rfl S91 rfl (fun k x=>order_Cmp.f x.1 x.2.1 x.2.2) order_Cmp.G (fun k=>⟨shape_Rank.ok,trivial⟩) 4000 order_Cmp.cuts trivial (fun k x r h=>(order_Cmp.w k x).trans h) 0
def E185:En:=⟨Tryz.prog,76,Tryz.f185.ntmps,none,false,[]⟩
def S185:Sig:=⟨[.s],[(.int .i64)],false,[.s],[(.int .u64)],false⟩
def B185:Go.Code:=Tryz.f185.body.get!
def lead_ones.f (a0:Int):Option (Int):=if a0=64 then (some 18446744073709551615) else (if 0≤a0 then (some (IntKind.u64.wrap ((shl .u64 1 a0) - 1))) else (none))
--@ok
def lead_ones.c:Con:=S185.con fun x=>lead_ones.f x
def lead_ones.G (k:Nat):List (Go.FuncId×Cn):=[]
def lead_ones.cuts:List (Cut (TT S185.sb)):=[]
theorem lead_ones.w (k:Nat) (x:TT S185.sa):walk E185 (lead_ones.G k) (cutsAt E185 k lead_ones.cuts) (retE E185 Tryz.f185.results.toList S185) 4000 true [([],.code B185)] (St0 S185 x)=lead_ones.f x:=by kernel_rfl
theorem lead_ones.ok:FnOk Tryz.prog E185.eT 185 (lead_ones.c):=FnOk.walk (E:=E185) (body:=B185) Tryz.func185 rfl (by rfl) Tryz.ntmps185 rfl S185 rfl (fun k x=>lead_ones.f x) lead_ones.G (fun k=>trivial) 4000 lead_ones.cuts trivial (fun k x r h=>(lead_ones.w k x).trans h) 0
def E135:En:=⟨Tryz.prog,76,Tryz.f135.ntmps,none,false,[]⟩
def S135:Sig:=⟨[.s],[(.int .i64)],true,[.s,.s],[(.int .u64),.err],false⟩
def B135:Go.Code:=Tryz.f135.body.get!
def lead_Mask.f (a0:Int):Option (Int×Option Int):=if a0 < 0 then (some (0,some 1)) else (if a0 > 64 then (some (0,some 1)) else ((lead_ones.f a0).bind fun t100=>(some (t100,none))))
--@ok
def lead_Mask.c:Con:=S135.con fun x=>lead_Mask.f x
def lead_Mask.G (k:Nat):List (Go.FuncId×Cn):=[(185,.f lead_ones.c)]
def lead_Mask.cuts:List (Cut (TT S135.sb)):=[]
theorem lead_Mask.w (k:Nat) (x:TT S135.sa):walk E135 (lead_Mask.G k) (cutsAt E135 k lead_Mask.cuts) (retE E135 Tryz.f135.results.toList S135) 4000 true [([],.code B135)] (St0 S135 x)=lead_Mask.f x:=by kernel_rfl
theorem lead_Mask.ok:FnOk Tryz.prog E135.eT 135 (lead_Mask.c):=FnOk.walk (E:=E135) (body:=B135) Tryz.func135 rfl (by rfl) Tryz.ntmps135 rfl S135 rfl (fun k x=>lead_Mask.f x) lead_Mask.G (fun k=>⟨lead_ones.ok,trivial⟩) 4000 lead_Mask.cuts trivial (fun k x r h=>(lead_Mask.w k x).trans h) 0
def E93:En:=⟨Tryz.prog,76,Tryz.f93.ntmps,none,false,[]⟩
def S93:Sig:=⟨[.s,.s],[(.int .i64),(.int .u64)],true,[.s,.s],[(.int .u64),.err],false⟩
def B93:Go.Code:=Tryz.f93.body.get!
def shape_Fold.f (a0:Int) (a1:Int):Option (Int×Option Int):=(shape_is.f a0).bind fun t100=>(if t100=true then ((lead_Mask.f a0).bind fun t101=>(some (Go.bits .and .u64 a1 t101.1,t101.2))) else (some (0,some 2)))
--@ok
def shape_Fold.c:Con:=S93.con fun x=>shape_Fold.f x.1 x.2
def shape_Fold.G (k:Nat):List (Go.FuncId×Cn):=[(134,.f shape_is.c),(135,.f lead_Mask.c)]
def shape_Fold.cuts:List (Cut (TT S93.sb)):=[]
theorem shape_Fold.w (k:Nat) (x:TT S93.sa):walk E93 (shape_Fold.G k) (cutsAt E93 k shape_Fold.cuts) (retE E93 Tryz.f93.results.toList S93) 4000 true [([],.code B93)] (St0 S93 x)=shape_Fold.f x.1 x.2:=by kernel_rfl
theorem shape_Fold.ok:FnOk Tryz.prog E93.eT 93 (shape_Fold.c):=FnOk.walk (E:=E93) (body:=B93) Tryz.func93 rfl (by rfl) Tryz.ntmps93 rfl S93 rfl (fun k x=>shape_Fold.f x.1 x.2) shape_Fold.G (fun k=>⟨shape_is.ok,lead_Mask.ok,trivial⟩) 4000 shape_Fold.cuts trivial (fun k x r h=>(shape_Fold.w k x).trans h) 0
def E45:En:=⟨Tryz.prog,76,Tryz.f45.ntmps,none,false,[]⟩
def S45:Sig:=⟨[.s,.s,.s],[(.int .i64),(.int .u64),(.int .u64)],true,[.s,.s],[(.int .u64),.err],false⟩
def B45:Go.Code:=Tryz.f45.body.get!
def order_Max.f (a0:Int) (a1:Int) (a2:Int):Option (Int×Option Int):=(order_Cmp.f a0 a1 a2).bind fun t100=>(if t100.1 < 0 then ((shape_Fold.f a0 a2).bind fun t101=>(some (t101.1,t101.2))) else ((shape_Fold.f a0 a1).bind fun t102=>(some (t102.1,t102.2))))
--@ok
def order_Max.c:Con:=S45.con fun x=>order_Max.f x.1 x.2.1 x.2.2
def order_Max.G (k:Nat):List (Go.FuncId×Cn):=[(91,.f order_Cmp.c),(93,.f shape_Fold.c)]
def order_Max.cuts:List (Cut (TT S45.sb)):=[]
theorem order_Max.w (k:Nat) (x:TT S45.sa):walk E45 (order_Max.G k) (cutsAt E45 k order_Max.cuts) (retE E45 Tryz.f45.results.toList S45) 4000 true [([],.code B45)] (St0 S45 x)=order_Max.f x.1 x.2.1 x.2.2:=by kernel_rfl
theorem order_Max.ok:FnOk Tryz.prog E45.eT 45 (order_Max.c):=FnOk.walk (E:=E45) (body:=B45) Tryz.func45 rfl (by rfl) Tryz.ntmps45 rfl S45 rfl (fun k x=>order_Max.f x.1 x.2.1 x.2.2) order_Max.G (fun k=>⟨order_Cmp.ok,shape_Fold.ok,trivial⟩) 4000 order_Max.cuts trivial (fun k x r h=>(order_Max.w k x).trans h) 0
def E115:En:=⟨Tryz.prog,76,Tryz.f115.ntmps,none,false,[]⟩
def S115:Sig:=⟨[.s],[(.int .i64)],false,[.s],[(.int .i64)],false⟩
def B115:Go.Code:=Tryz.f115.body.get!
def round_held.f (a0:Int):Option (Int):=some (mx (-1099511627776) (mn a0 1099511627776))
--@ok
def round_held.c:Con:=S115.con fun x=>round_held.f x
def round_held.G (k:Nat):List (Go.FuncId×Cn):=[]
def round_held.cuts:List (Cut (TT S115.sb)):=[]
theorem round_held.w (k:Nat) (x:TT S115.sa):walk E115 (round_held.G k) (cutsAt E115 k round_held.cuts) (retE E115 Tryz.f115.results.toList S115) 4000 true [([],.code B115)] (St0 S115 x)=round_held.f x:=by kernel_rfl
theorem round_held.ok:FnOk Tryz.prog E115.eT 115 (round_held.c):=FnOk.walk (E:=E115) (body:=B115) Tryz.func115 rfl (by rfl) Tryz.ntmps115 rfl S115 rfl (fun k x=>round_held.f x) round_held.G (fun k=>trivial) 4000 round_held.cuts trivial (fun k x r h=>(round_held.w k x).trans h) 0
def E139:En:=⟨Tryz.prog,76,Tryz.f139.ntmps,none,false,[]⟩
def S139:Sig:=⟨[.g 6],[(.int .i64),.bool,(.int .i64),(.int .u64),(.int .u64),.bool],false,[.s],[.bool],false⟩
def B139:Go.Code:=Tryz.f139.body.get!
def round_sound.j0:Nat→Int→Bool→Int→Bool→Int→Int→Int→Bool→Option (Bool)
 | 0,_,_,_,_,_,_,_,_=>none
 | k+1,x4,x5,x1000,x1001,x1002,x1003,x1004,x1005=>if x5=true then (some ((x1000==x1000)&&((!x1001)&&((x1002==0)&&((x1003==0)&&((x1004==0)&&(!x1005))))))) else (if x4=1 then (if (x1003 / 9223372036854775808)=1 then ((round_held.f x1002).bind fun t100=>(some (x1002==t100))) else (some false)) else (some false))
def round_sound.f (k:Nat) (a0_0:Int) (a0_1:Bool) (a0_2:Int) (a0_3:Int) (a0_4:Int) (a0_5:Bool):Option (Bool):=if a0_0=0 then (round_sound.j0 k a0_0 (a0_0==0) a0_0 a0_1 a0_2 a0_3 a0_4 a0_5) else (round_sound.j0 k a0_0 (a0_0==2) a0_0 a0_1 a0_2 a0_3 a0_4 a0_5)
--@ok
def round_sound.c (k:Nat):Con:=S139.con fun x=>round_sound.f k x.1 x.2.1 x.2.2.1 x.2.2.2.1 x.2.2.2.2.1 x.2.2.2.2.2
def round_sound.G (k:Nat):List (Go.FuncId×Cn):=[(115,.f round_held.c)]
def round_sound.cuts:List (Cut (TT S139.sb)):=[⟨[1,4,1,0,1],[.sc 4 (.int .i64),.sc 5 (.bool),.box 1 120 [.int .i64,.bool,.int .i64,.int .u64,.int .u64,.bool]],fun k x=>round_sound.j0 k x.1 x.2.1 x.2.2.1 x.2.2.2.1 x.2.2.2.2.1 x.2.2.2.2.2.1 x.2.2.2.2.2.2.1 x.2.2.2.2.2.2.2⟩]
theorem round_sound.w0 (k:Nat) (x:ET [.sc 4 (.int .i64),.sc 5 (.bool),.box 1 120 [.int .i64,.bool,.int .i64,.int .u64,.int .u64,.bool]]):walk E139 (round_sound.G k) (cutsAt E139 k round_sound.cuts) (retE E139 Tryz.f139.results.toList S139) 4000 true (stackAt B139 [1,4,1,0,1]) (mkE [.sc 4 (.int .i64),.sc 5 (.bool),.box 1 120 [.int .i64,.bool,.int .i64,.int .u64,.int .u64,.bool]] x St.nil)=round_sound.j0 (k+1) x.1 x.2.1 x.2.2.1 x.2.2.2.1 x.2.2.2.2.1 x.2.2.2.2.2.1 x.2.2.2.2.2.2.1 x.2.2.2.2.2.2.2:=by kernel_rfl
theorem round_sound.w (k:Nat) (x:TT S139.sa):walk E139 (round_sound.G k) (cutsAt E139 k round_sound.cuts) (retE E139 Tryz.f139.results.toList S139) 4000 true [([],.code B139)] (St0 S139 x)=round_sound.f k x.1 x.2.1 x.2.2.1 x.2.2.2.1 x.2.2.2.2.1 x.2.2.2.2.2:=by kernel_rfl
theorem round_sound.ok (k:Nat):FnOk Tryz.prog E139.eT 139 (round_sound.c k):=FnOk.walk (E:=E139) (body:=B139) Tryz.func139 rfl (by rfl) Tryz.ntmps139 rfl S139 rfl (fun k x=>round_sound.f k x.1 x.2.1 x.2.2.1 x.2.2.2.1 x.2.2.2.2.1 x.2.2.2.2.2) round_sound.G (fun k=>⟨round_held.ok,trivial⟩) 4000 round_sound.cuts ⟨⟨fun _=>rfl,fun k x q h=>(round_sound.w0 k x).trans h⟩,trivial⟩ (fun k x r h=>(round_sound.w k x).trans h) k
def E156:En:=⟨Tryz.prog,76,Tryz.f156.ntmps,none,false,[]⟩
def S156:Sig:=⟨[.s],[(.int .i64)],true,[.g 5,.s],[(.int .i64),(.int .u64),(.int .u64),(.int .u64),(.int .i64),.err],false⟩
def B156:Go.Code:=Tryz.f156.body.get!
def shape_Of.f (a0:Int):Option (Int×Int×Int×Int×Int×Option Int):=(shape_is.f a0).bind fun t100=>(if t100=true then (if 0≤(wrap64 (a0 - 1)) then (some (a0,IntKind.u64.wrap ((shl .u64 1 (wrap64 (a0 - 1))) - 1),1,shl .u64 1 (wrap64 (a0 - 1)),wrap64 ((wrap64 (4*a0)) - 8),none)) else (none)) else (some (0,0,0,0,0,some 2)))
--@ok
def shape_Of.c:Con:=S156.con fun x=>shape_Of.f x
def shape_Of.G (k:Nat):List (Go.FuncId×Cn):=[(134,.f shape_is.c)]
def shape_Of.cuts:List (Cut (TT S156.sb)):=[]
theorem shape_Of.w (k:Nat) (x:TT S156.sa):walk E156 (shape_Of.G k) (cutsAt E156 k shape_Of.cuts) (retE E156 Tryz.f156.results.toList S156) 4000 true [([],.code B156)] (St0 S156 x)=shape_Of.f x:=by kernel_rfl
theorem shape_Of.ok:FnOk Tryz.prog E156.eT 156 (shape_Of.c):=FnOk.walk (E:=E156) (body:=B156) Tryz.func156 rfl (by rfl) Tryz.ntmps156 rfl S156 rfl (fun k x=>shape_Of.f x) shape_Of.G (fun k=>⟨shape_is.ok,trivial⟩) 4000 shape_Of.cuts trivial (fun k x r h=>(shape_Of.w k x).trans h) 0
def S113:Sig:=⟨[.s],[(.int .u64)],false,[.s],[(.int .i64)],false⟩
def bits_Len64.f (a0:Int):Option (Int):=if 0≤a0∧a0≤18446744073709551615 then some (Lib.bitLen a0.toNat:Int) else none
--@ok
def bits_Len64.c:Con:=S113.con fun x=>bits_Len64.f x
theorem bits_Len64.ok:FnOk Tryz.prog 76 113 bits_Len64.c:=by
  intro (x:Int) (r:Int) w ok vs hF hv
  refine .inl ⟨enters Tryz.func113 rfl rfl vs w, ?_⟩
  have hF':bits_Len64.f x=some r:=hF
  unfold bits_Len64.f at hF'
  split at hF'
  · rename_i hx
    injection hF' with hF'
    subst hF'
    obtain ⟨l⟩:=vs
    match l,hv with
    | [],h=>exact h.elim
    | [v],h =>
      obtain ⟨⟨rfl, -⟩, -⟩:=h
      refine (GLen.len64 x w hx.1 hx.2).mono ?_
      rintro e w' ⟨rfl,rfl⟩
      refine ⟨_,rfl,⟨_,rfl,rfl, ?_,by simp,by simp⟩,.refl _ _⟩
      have h64:(2:Nat)^64=18446744073709551616:=by decide
      have:=Lib.bitLen_le x.toNat 64 (Nat.le_refl _) (by rw [h64];have:=hx.2;have:=hx.1;generalize (show Int from x)=y at *;omega)
      constructor <;> simp only [kLo,kHi] <;> omega
    | _ :: _ :: _,h=>exact h.2.elim
  · cases hF'
end Go.Proofs.YtbpcfhhcoklinaaGreat.Fn
set_option maxRecDepth 100000
noncomputable section
namespace Go.Proofs.YtbpcfhhcoklinaaGreat.Fn
open Go Go.RowKit Go.Proofs.YtbpcfhhcoklinaaGreat.Ab
def E154:En:=⟨Tryz.prog,76,Tryz.f154.ntmps,none,false,[]⟩
def S154:Sig:=⟨[.g 2],[(.int .u64),(.int .u64)],false,[.s],[(.int .i64)],false⟩
def B154:Go.Code:=Tryz.f154.body.get!
def twin_Len.f (a0_0:Int) (a0_1:Int):Option (Int):=if a0_0 > 0 then ((bits_Len64.f a0_0).bind fun t100=>(some (wrap64 (64+t100)))) else ((bits_Len64.f a0_1).bind fun t101=>(some t101))
--@ok
def twin_Len.c:Con:=S154.con fun x=>twin_Len.f x.1 x.2
def twin_Len.G (k:Nat):List (Go.FuncId×Cn):=[(113,.f bits_Len64.c)]
def twin_Len.cuts:List (Cut (TT S154.sb)):=[]
theorem twin_Len.w (k:Nat) (x:TT S154.sa):walk E154 (twin_Len.G k) (cutsAt E154 k twin_Len.cuts) (retE E154 Tryz.f154.results.toList S154) 4000 true [([],.code B154)] (St0 S154 x)=twin_Len.f x.1 x.2:=by kernel_rfl
theorem twin_Len.ok:FnOk Tryz.prog E154.eT 154 (twin_Len.c):=FnOk.walk (E:=E154) (body:=B154) Tryz.func154 rfl (by rfl) Tryz.ntmps154 rfl S154 rfl (fun k x=>twin_Len.f x.1 x.2) twin_Len.G (fun k=>⟨bits_Len64.ok,trivial⟩) 4000 twin_Len.cuts trivial (fun k x r h=>(twin_Len.w k x).trans h) 0
def E155:En:=⟨Tryz.prog,76,Tryz.f155.ntmps,none,false,[]⟩
def S155:Sig:=⟨[.g 2,.s],[(.int .u64),(.int .u64),(.int .i64)],false,[.g 2],[(.int .u64),(.int .u64)],false⟩
def B155:Go.Code:=Tryz.f155.body.get!
def twin_shl.f (a0_0:Int) (a0_1:Int) (a1:Int):Option (Int×Int):=if a1≥64 then (if 0≤(wrap64 (a1 - 64)) then (some (shl .u64 a0_1 (wrap64 (a1 - 64)),0)) else (none)) else (if 0≤a1 then (if 0≤(wrap64 (64 - a1)) then (some (Go.bits .or .u64 (shl .u64 a0_0 a1) (shr .u64 a0_1 (wrap64 (64 - a1))),shl .u64 a0_1 a1)) else (none)) else (none))
--@ok
def twin_shl.fR (a0_0:Int) (a0_1:Int) (a1:Int):Option (Int×Int):=if a1≥64 then (if 0≤(wrap64 (a1 - 64)) then (some (shl .u64 a0_1 (wrap64 (a1 - 64)),0)) else (none)) else (if 0≤a1 then (if 0≤(wrap64 (64 - a1)) then (if 0≤a1 then (some (Go.bits .or .u64 (shl .u64 a0_0 a1) (shr .u64 a0_1 (wrap64 (64 - a1))),shl .u64 a0_1 a1)) else (none)) else (none)) else (none))
theorem twin_shl.fE (a0_0:Int) (a0_1:Int) (a1:Int):twin_shl.fR a0_0 a0_1 a1=twin_shl.f a0_0 a0_1 a1:=by
  unfold twin_shl.fR twin_shl.f
  exact iteC (fun h0=>iteC (fun h1=>rfl) (fun h1=>rfl)) (fun h0=>iteC (fun h1=>iteC (fun h2=>(if_pos h1).trans (rfl)) (fun h2=>rfl)) (fun h1=>rfl))
def twin_shl.c:Con:=S155.con fun x=>twin_shl.f x.1 x.2.1 x.2.2
def twin_shl.G (k:Nat):List (Go.FuncId×Cn):=[]
def twin_shl.cuts:List (Cut (TT S155.sb)):=[]
theorem twin_shl.w (k:Nat) (x:TT S155.sa):walk E155 (twin_shl.G k) (cutsAt E155 k twin_shl.cuts) (retE E155 Tryz.f155.results.toList S155) 4000 true [([],.code B155)] (St0 S155 x)=twin_shl.f x.1 x.2.1 x.2.2:=Eq.trans (b:=twin_shl.fR x.1 x.2.1 x.2.2) (by kernel_rfl) (twin_shl.fE x.1 x.2.1 x.2.2)
theorem twin_shl.ok:FnOk Tryz.prog E155.eT 155 (twin_shl.c):=FnOk.walk (E:=E155) (body:=B155) Tryz.func155 rfl (by rfl) Tryz.ntmps155 rfl S155 rfl (fun k x=>twin_shl.f x.1 x.2.1 x.2.2) twin_shl.G (fun k=>trivial) 4000 twin_shl.cuts trivial (fun k x r h=>(twin_shl.w k x).trans h) 0
def E157:En:=⟨Tryz.prog,76,Tryz.f157.ntmps,none,false,[]⟩
def S157:Sig:=⟨[.g 2,.s],[(.int .u64),(.int .u64),(.int .i64)],true,[.g 2,.s,.s],[(.int .u64),(.int .u64),.bool,.err],false⟩
def B157:Go.Code:=Tryz.f157.body.get!
def twin_Shl.f (a0_0:Int) (a0_1:Int) (a1:Int):Option (Int×Int×Bool×Option Int):=if a1 < 0 then (some (0,0,false,some 1)) else ((twin_shl.f a0_0 a0_1 (mn a1 128)).bind fun t100=>((twin_Len.f a0_0 a0_1).bind fun t101=>(some (t100.1,t100.2,decide (t101 > (wrap64 (128 - (mn a1 128)))),none))))
--@ok
def twin_Shl.c:Con:=S157.con fun x=>twin_Shl.f x.1 x.2.1 x.2.2
def twin_Shl.G (k:Nat):List (Go.FuncId×Cn):=[(154,.f twin_Len.c),(155,.f twin_shl.c)]
def twin_Shl.cuts:List (Cut (TT S157.sb)):=[]
theorem twin_Shl.w (k:Nat) (x:TT S157.sa):walk E157 (twin_Shl.G k) (cutsAt E157 k twin_Shl.cuts) (retE E157 Tryz.f157.results.toList S157) 4000 true [([],.code B157)] (St0 S157 x)=twin_Shl.f x.1 x.2.1 x.2.2:=by kernel_rfl
theorem twin_Shl.ok:FnOk Tryz.prog E157.eT 157 (twin_Shl.c):=FnOk.walk (E:=E157) (body:=B157) Tryz.func157 rfl (by rfl) Tryz.ntmps157 rfl S157 rfl (fun k x=>twin_Shl.f x.1 x.2.1 x.2.2) twin_Shl.G (fun k=>⟨twin_Len.ok,twin_shl.ok,trivial⟩) 4000 twin_Shl.cuts trivial (fun k x r h=>(twin_Shl.w k x).trans h) 0
def E199:En:=⟨Tryz.prog,76,Tryz.f199.ntmps,none,false,[]⟩
def S199:Sig:=⟨[.g 2,.s],[(.int .u64),(.int .u64),(.int .i64)],false,[.g 2],[(.int .u64),(.int .u64)],false⟩
def B199:Go.Code:=Tryz.f199.body.get!
def twin_shr.f (a0_0:Int) (a0_1:Int) (a1:Int):Option (Int×Int):=if a1≥64 then (if 0≤(wrap64 (a1 - 64)) then (some (0,shr .u64 a0_0 (wrap64 (a1 - 64)))) else (none)) else (if 0≤a1 then (if 0≤(wrap64 (64 - a1)) then (some (shr .u64 a0_0 a1,Go.bits .or .u64 (shr .u64 a0_1 a1) (shl .u64 a0_0 (wrap64 (64 - a1))))) else (none)) else (none))
--@ok
def twin_shr.fR (a0_0:Int) (a0_1:Int) (a1:Int):Option (Int×Int):=if a1≥64 then (if 0≤(wrap64 (a1 - 64)) then (some (0,shr .u64 a0_0 (wrap64 (a1 - 64)))) else (none)) else (if 0≤a1 then (if 0≤a1 then (if 0≤(wrap64 (64 - a1)) then (some (shr .u64 a0_0 a1,Go.bits .or .u64 (shr .u64 a0_1 a1) (shl .u64 a0_0 (wrap64 (64 - a1))))) else (none)) else (none)) else (none))
theorem twin_shr.fE (a0_0:Int) (a0_1:Int) (a1:Int):twin_shr.fR a0_0 a0_1 a1=twin_shr.f a0_0 a0_1 a1:=by
  unfold twin_shr.fR twin_shr.f
  exact iteC (fun h0=>iteC (fun h1=>rfl) (fun h1=>rfl)) (fun h0=>iteC (fun h1=>(if_pos h1).trans (iteC (fun h2=>rfl) (fun h2=>rfl))) (fun h1=>rfl))
def twin_shr.c:Con:=S199.con fun x=>twin_shr.f x.1 x.2.1 x.2.2
def twin_shr.G (k:Nat):List (Go.FuncId×Cn):=[]
def twin_shr.cuts:List (Cut (TT S199.sb)):=[]
theorem twin_shr.w (k:Nat) (x:TT S199.sa):walk E199 (twin_shr.G k) (cutsAt E199 k twin_shr.cuts) (retE E199 Tryz.f199.results.toList S199) 4000 true [([],.code B199)] (St0 S199 x)=twin_shr.f x.1 x.2.1 x.2.2:=Eq.trans (b:=twin_shr.fR x.1 x.2.1 x.2.2) (by kernel_rfl) (twin_shr.fE x.1 x.2.1 x.2.2)
theorem twin_shr.ok:FnOk Tryz.prog E199.eT 199 (twin_shr.c):=FnOk.walk (E:=E199) (body:=B199) Tryz.func199 rfl (by rfl) Tryz.ntmps199 rfl S199 rfl (fun k x=>twin_shr.f x.1 x.2.1 x.2.2) twin_shr.G (fun k=>trivial) 4000 twin_shr.cuts trivial (fun k x r h=>(twin_shr.w k x).trans h) 0
def E165:En:=⟨Tryz.prog,76,Tryz.f165.ntmps,none,false,[]⟩
def S165:Sig:=⟨[.g 2,.s],[(.int .u64),(.int .u64),(.int .i64)],true,[.g 2,.s,.s],[(.int .u64),(.int .u64),.bool,.err],false⟩
def B165:Go.Code:=Tryz.f165.body.get!
def twin_Shr.f (a0_0:Int) (a0_1:Int) (a1:Int):Option (Int×Int×Bool×Option Int):=if a1 < 0 then (some (0,0,false,some 1)) else ((twin_shr.f a0_0 a0_1 (mn a1 128)).bind fun t100=>((twin_shl.f t100.1 t100.2 (mn a1 128)).bind fun t101=>(some (t100.1,t100.2, !((t101.1==a0_0)&&(t101.2==a0_1)),none))))
--@ok
def twin_Shr.c:Con:=S165.con fun x=>twin_Shr.f x.1 x.2.1 x.2.2
def twin_Shr.G (k:Nat):List (Go.FuncId×Cn):=[(155,.f twin_shl.c),(199,.f twin_shr.c)]
def twin_Shr.cuts:List (Cut (TT S165.sb)):=[]
theorem twin_Shr.w (k:Nat) (x:TT S165.sa):walk E165 (twin_Shr.G k) (cutsAt E165 k twin_Shr.cuts) (retE E165 Tryz.f165.results.toList S165) 4000 true [([],.code B165)] (St0 S165 x)=twin_Shr.f x.1 x.2.1 x.2.2:=by kernel_rfl
theorem twin_Shr.ok:FnOk Tryz.prog E165.eT 165 (twin_Shr.c):=FnOk.walk (E:=E165) (body:=B165) Tryz.func165 rfl (by rfl) Tryz.ntmps165 rfl S165 rfl (fun k x=>twin_Shr.f x.1 x.2.1 x.2.2) twin_Shr.G (fun k=>⟨twin_shl.ok,twin_shr.ok,trivial⟩) 4000 twin_Shr.cuts trivial (fun k x r h=>(twin_Shr.w k x).trans h) 0
def E158:En:=⟨Tryz.prog,76,Tryz.f158.ntmps,none,false,[]⟩
def S158:Sig:=⟨[.g 2,.s,.s,.s],[(.int .u64),(.int .u64),(.int .u64),(.int .i64),.bool],true,[.g 2,.s],[(.int .u64),(.int .u64),.bool],false⟩
def B158:Go.Code:=Tryz.f158.body.get!
def round_under.f (a0_0:Int) (a0_1:Int) (a1:Int) (a2:Int) (a3:Bool):Option (Int×Int×Bool):=(twin_Shr.f a0_0 a0_1 a2).bind fun t100=>(if 0≤(wrap64 (64 - a2)) then (if a3=true then (some (Go.bits .or .u64 t100.1 (shl .u64 a1 (wrap64 (64 - a2))),t100.2.1,true)) else (some (Go.bits .or .u64 t100.1 (shl .u64 a1 (wrap64 (64 - a2))),t100.2.1,t100.2.2.1))) else (none))
--@ok
def round_under.c:Con:=S158.con fun x=>round_under.f x.1 x.2.1 x.2.2.1 x.2.2.2.1 x.2.2.2.2
def round_under.G (k:Nat):List (Go.FuncId×Cn):=[(165,.f twin_Shr.c)]
def round_under.cuts:List (Cut (TT S158.sb)):=[]
theorem round_under.w (k:Nat) (x:TT S158.sa):walk E158 (round_under.G k) (cutsAt E158 k round_under.cuts) (retE E158 Tryz.f158.results.toList S158) 4000 true [([],.code B158)] (St0 S158 x)=round_under.f x.1 x.2.1 x.2.2.1 x.2.2.2.1 x.2.2.2.2:=by kernel_rfl
theorem round_under.ok:FnOk Tryz.prog E158.eT 158 (round_under.c):=FnOk.walk (E:=E158) (body:=B158) Tryz.func158 rfl (by rfl) Tryz.ntmps158 rfl S158 rfl (fun k x=>round_under.f x.1 x.2.1 x.2.2.1 x.2.2.2.1 x.2.2.2.2) round_under.G (fun k=>⟨twin_Shr.ok,trivial⟩) 4000 round_under.cuts trivial (fun k x r h=>(round_under.w k x).trans h) 0
def E159:En:=⟨Tryz.prog,76,Tryz.f159.ntmps,none,false,[]⟩
def S159:Sig:=⟨[.s,.s],[(.int .u64),.bool],false,[.s],[(.int .i64)],false⟩
def B159:Go.Code:=Tryz.f159.body.get!
def round_left.j0:Nat→Int→Bool→Int→Bool→Option (Int)
 | 0,_,_,_,_=>none
 | k+1,x0,x1,x5,x6=>if x6=true then (some 3) else (if x0=x5 then (some 2) else (if x0 > 0 then (some 1) else (if x1=true then (some 1) else (some 0))))
def round_left.f (k:Nat) (a0:Int) (a1:Bool):Option (Int):=if a0 > 9223372036854775808 then (round_left.j0 k a0 a1 9223372036854775808 (decide (a0 > 9223372036854775808))) else (if a0=9223372036854775808 then (round_left.j0 k a0 a1 9223372036854775808 a1) else (round_left.j0 k a0 a1 9223372036854775808 false))
--@ok
def round_left.c (k:Nat):Con:=S159.con fun x=>round_left.f k x.1 x.2
def round_left.G (k:Nat):List (Go.FuncId×Cn):=[]
def round_left.cuts:List (Cut (TT S159.sb)):=[⟨[1,4,0,1,1],[.sc 0 (.int .u64),.sc 1 (.bool),.sc 5 (.int .u64),.sc 6 (.bool)],fun k x=>round_left.j0 k x.1 x.2.1 x.2.2.1 x.2.2.2⟩]
theorem round_left.w0 (k:Nat) (x:ET [.sc 0 (.int .u64),.sc 1 (.bool),.sc 5 (.int .u64),.sc 6 (.bool)]):walk E159 (round_left.G k) (cutsAt E159 k round_left.cuts) (retE E159 Tryz.f159.results.toList S159) 4000 true (stackAt B159 [1,4,0,1,1]) (mkE [.sc 0 (.int .u64),.sc 1 (.bool),.sc 5 (.int .u64),.sc 6 (.bool)] x St.nil)=round_left.j0 (k+1) x.1 x.2.1 x.2.2.1 x.2.2.2:=by kernel_rfl
theorem round_left.w (k:Nat) (x:TT S159.sa):walk E159 (round_left.G k) (cutsAt E159 k round_left.cuts) (retE E159 Tryz.f159.results.toList S159) 4000 true [([],.code B159)] (St0 S159 x)=round_left.f k x.1 x.2:=by kernel_rfl
theorem round_left.ok (k:Nat):FnOk Tryz.prog E159.eT 159 (round_left.c k):=FnOk.walk (E:=E159) (body:=B159) Tryz.func159 rfl (by rfl) Tryz.ntmps159 rfl S159 rfl (fun k x=>round_left.f k x.1 x.2) round_left.G (fun k=>trivial) 4000 round_left.cuts ⟨⟨fun _=>rfl,fun k x q h=>(round_left.w0 k x).trans h⟩,trivial⟩ (fun k x r h=>(round_left.w k x).trans h) k
def E116:En:=⟨Tryz.prog,76,Tryz.f116.ntmps,none,false,[]⟩
def S116:Sig:=⟨[.s,.g 6],[(.int .i64),(.int .i64),.bool,(.int .i64),(.int .u64),(.int .u64),.bool],true,[.s,.s,.s],[(.int .u64),(.int .i64),.err],false⟩
def B116:Go.Code:=Tryz.f116.body.get!
mutual
def round_Cut.j0:Nat→Int→Int→Int→Int→Bool→Option (Int×Int×Option Int)
 | 0,_,_,_,_,_=>none
 | k+1,x0,x3002,x3003,x3004,x3005=>(twin_Shl.f x3003 x3004 1).bind fun t102=>((round_under.f t102.1 t102.2.1 (IntKind.u64.wrap (Go.bits .and .i64 x3002 3)) 2 x3005).bind fun t103=>(if (x3002 / 4)≥0 then ((round_under.f t103.1 t103.2.1 0 1 t103.2.2).bind fun t104=>(round_Cut.l0 k x0 t104.2.2 (wrap64 ((x3002 / 4)+1)) 0 t104.1 t104.2.1)) else ((round_under.f t103.1 t103.2.1 1 1 t103.2.2).bind fun t105=>(round_Cut.l1 k x0 t105.2.2 (wrap64 (-(x3002 / 4))) 0 t105.1 t105.2.1))))
def round_Cut.l0:Nat→Int→Bool→Int→Int→Int→Int→Option (Int×Int×Option Int)
 | 0,_,_,_,_,_,_=>none
 | k+1,x0,x12,x114,x115,x9000,x9001=>if x115 < x114 then ((round_under.f x9000 x9001 1 1 x12).bind fun t106=>(round_Cut.l0 k x0 t106.2.2 x114 (wrap64 (x115+1)) t106.1 t106.2.1)) else (round_Cut.j3 k x0 x12 x9000 x9001)
def round_Cut.l1:Nat→Int→Bool→Int→Int→Int→Int→Option (Int×Int×Option Int)
 | 0,_,_,_,_,_,_=>none
 | k+1,x0,x12,x131,x132,x9000,x9001=>if x132 < x131 then ((round_under.f x9000 x9001 0 1 x12).bind fun t107=>(round_Cut.l1 k x0 t107.2.2 x131 (wrap64 (x132+1)) t107.1 t107.2.1)) else (round_Cut.j3 k x0 x12 x9000 x9001)
def round_Cut.j3:Nat→Int→Bool→Int→Int→Option (Int×Int×Option Int)
 | 0,_,_,_,_=>none
 | k+1,x0,x12,x9000,x9001=>if 0≤(wrap64 (65 - x0)) then ((twin_Shl.f x9000 x9001 (wrap64 (x0 - 1))).bind fun t108=>(if t108.2.1=0 then ((round_left.f k t108.1 x12).bind fun t109=>(some (shr .u64 x9000 (wrap64 (65 - x0)),t109,none))) else ((round_left.f k t108.1 true).bind fun t110=>(some (shr .u64 x9000 (wrap64 (65 - x0)),t110,none))))) else (none)
end
def round_Cut.f (k:Nat) (a0:Int) (a1_0:Int) (a1_1:Bool) (a1_2:Int) (a1_3:Int) (a1_4:Int) (a1_5:Bool):Option (Int×Int×Option Int):=(shape_Of.f a0).bind fun t100=>(if t100.2.2.2.2.2.isNone=true then ((round_sound.f k a1_0 a1_1 a1_2 a1_3 a1_4 a1_5).bind fun t101=>(if t101=true then (if a1_0=0 then (some (0,0,none)) else (if a1_0=2 then (some (t100.2.2.2.1,0,none)) else (if a1_2≥t100.2.2.2.2.1 then (some (t100.2.1,0,none)) else (if a1_2 < (wrap64 (-t100.2.2.2.2.1)) then (some (t100.2.2.1,0,none)) else (if a1_2=(wrap64 (-t100.2.2.2.2.1)) then (if a1_3=9223372036854775808 then (if a1_4=0 then (if a1_5=true then (round_Cut.j0 k a0 a1_2 a1_3 a1_4 a1_5) else (some (t100.2.2.1,0,none))) else (round_Cut.j0 k a0 a1_2 a1_3 a1_4 a1_5)) else (round_Cut.j0 k a0 a1_2 a1_3 a1_4 a1_5)) else (round_Cut.j0 k a0 a1_2 a1_3 a1_4 a1_5)))))) else (some (0,0,some 1)))) else (some (0,0,some (t100.2.2.2.2.2.getD 0))))
--@ok
def round_Cut.fR (k:Nat) (a0:Int) (a1_0:Int) (a1_1:Bool) (a1_2:Int) (a1_3:Int) (a1_4:Int) (a1_5:Bool):Option (Int×Int×Option Int):=(shape_Of.f a0).bind fun t100=>(if t100.2.2.2.2.2.isNone=true then ((round_sound.f k a1_0 a1_1 a1_2 a1_3 a1_4 a1_5).bind fun t101=>(if t101=true then (if a1_0=0 then (some (0,0,none)) else (if a1_0=2 then (some (t100.2.2.2.1,0,none)) else (if a1_2≥t100.2.2.2.2.1 then (some (t100.2.1,0,none)) else (if a1_2 < (wrap64 (-t100.2.2.2.2.1)) then (if a1_2 < (wrap64 (-t100.2.2.2.2.1)) then (some (t100.2.2.1,0,none)) else (round_Cut.j0 k a0 a1_2 a1_3 a1_4 a1_5)) else (if a1_2=(wrap64 (-t100.2.2.2.2.1)) then (if a1_3=9223372036854775808 then (if a1_4=0 then (if a1_5=true then (round_Cut.j0 k a0 a1_2 a1_3 a1_4 a1_5) else (some (t100.2.2.1,0,none))) else (round_Cut.j0 k a0 a1_2 a1_3 a1_4 a1_5)) else (round_Cut.j0 k a0 a1_2 a1_3 a1_4 a1_5)) else (round_Cut.j0 k a0 a1_2 a1_3 a1_4 a1_5)))))) else (some (0,0,some 1)))) else (some (0,0,some (t100.2.2.2.2.2.getD 0))))
theorem round_Cut.fE (k:Nat) (a0:Int) (a1_0:Int) (a1_1:Bool) (a1_2:Int) (a1_3:Int) (a1_4:Int) (a1_5:Bool):round_Cut.fR k a0 a1_0 a1_1 a1_2 a1_3 a1_4 a1_5=round_Cut.f k a0 a1_0 a1_1 a1_2 a1_3 a1_4 a1_5:=by
  unfold round_Cut.fR round_Cut.f
  exact bindC fun _=>iteC (fun h0=>bindC fun _=>iteC (fun h1=>iteC (fun h2=>rfl) (fun h2=>iteC (fun h3=>rfl) (fun h3=>iteC (fun h4=>rfl) (fun h4=>iteC (fun h5=>(if_pos h5).trans (rfl)) (fun h5=>iteC (fun h6=>iteC (fun h7=>iteC (fun h8=>iteC (fun h9=>rfl) (fun h9=>rfl)) (fun h8=>rfl)) (fun h7=>rfl)) (fun h6=>rfl)))))) (fun h1=>rfl)) (fun h0=>rfl)
def round_Cut.c (k:Nat):Con:=S116.con fun x=>round_Cut.f k x.1 x.2.1 x.2.2.1 x.2.2.2.1 x.2.2.2.2.1 x.2.2.2.2.2.1 x.2.2.2.2.2.2
def round_Cut.G (k:Nat):List (Go.FuncId×Cn):=[(139,.f (round_sound.c k)),(156,.f shape_Of.c),(157,.f twin_Shl.c),(158,.f round_under.c),(159,.f (round_left.c k))]
def round_Cut.cuts:List (Cut (TT S116.sb)):=[⟨[1,1,1],[.sc 0 (.int .i64),.box 3 120 [.int .i64,.bool,.int .i64,.int .u64,.int .u64,.bool]],fun k x=>round_Cut.j0 k x.1 x.2.2.2.1 x.2.2.2.2.1 x.2.2.2.2.2.1 x.2.2.2.2.2.2⟩,⟨[6,4,1,1,2,1,0,1,1,1,1,1,1,1],[.sc 0 (.int .i64),.sc 12 (.bool),.sc 114 (.int .i64),.sc 115 (.int .i64),.box 9 155 [.int .u64,.int .u64]],fun k x=>round_Cut.l0 k x.1 x.2.1 x.2.2.1 x.2.2.2.1 x.2.2.2.2.1 x.2.2.2.2.2⟩,⟨[6,4,1,1,3,1,0,1,1,1,1,1,1,1],[.sc 0 (.int .i64),.sc 12 (.bool),.sc 131 (.int .i64),.sc 132 (.int .i64),.box 9 155 [.int .u64,.int .u64]],fun k x=>round_Cut.l1 k x.1 x.2.1 x.2.2.1 x.2.2.2.1 x.2.2.2.2.1 x.2.2.2.2.2⟩,⟨[1,1,1,1,1,1,1,1],[.sc 0 (.int .i64),.sc 12 (.bool),.box 9 155 [.int .u64,.int .u64]],fun k x=>round_Cut.j3 k x.1 x.2.1 x.2.2.1 x.2.2.2⟩]
theorem round_Cut.w0 (k:Nat) (x:ET [.sc 0 (.int .i64),.box 3 120 [.int .i64,.bool,.int .i64,.int .u64,.int .u64,.bool]]):walk E116 (round_Cut.G k) (cutsAt E116 k round_Cut.cuts) (retE E116 Tryz.f116.results.toList S116) 4000 true (stackAt B116 [1,1,1]) (mkE [.sc 0 (.int .i64),.box 3 120 [.int .i64,.bool,.int .i64,.int .u64,.int .u64,.bool]] x St.nil)=round_Cut.j0 (k+1) x.1 x.2.2.2.1 x.2.2.2.2.1 x.2.2.2.2.2.1 x.2.2.2.2.2.2:=by kernel_rfl
theorem round_Cut.w1 (k:Nat) (x:ET [.sc 0 (.int .i64),.sc 12 (.bool),.sc 114 (.int .i64),.sc 115 (.int .i64),.box 9 155 [.int .u64,.int .u64]]):walk E116 (round_Cut.G k) (cutsAt E116 k round_Cut.cuts) (retE E116 Tryz.f116.results.toList S116) 4000 true (stackAt B116 [6,4,1,1,2,1,0,1,1,1,1,1,1,1]) (mkE [.sc 0 (.int .i64),.sc 12 (.bool),.sc 114 (.int .i64),.sc 115 (.int .i64),.box 9 155 [.int .u64,.int .u64]] x St.nil)=round_Cut.l0 (k+1) x.1 x.2.1 x.2.2.1 x.2.2.2.1 x.2.2.2.2.1 x.2.2.2.2.2:=by kernel_rfl
theorem round_Cut.w2 (k:Nat) (x:ET [.sc 0 (.int .i64),.sc 12 (.bool),.sc 131 (.int .i64),.sc 132 (.int .i64),.box 9 155 [.int .u64,.int .u64]]):walk E116 (round_Cut.G k) (cutsAt E116 k round_Cut.cuts) (retE E116 Tryz.f116.results.toList S116) 4000 true (stackAt B116 [6,4,1,1,3,1,0,1,1,1,1,1,1,1]) (mkE [.sc 0 (.int .i64),.sc 12 (.bool),.sc 131 (.int .i64),.sc 132 (.int .i64),.box 9 155 [.int .u64,.int .u64]] x St.nil)=round_Cut.l1 (k+1) x.1 x.2.1 x.2.2.1 x.2.2.2.1 x.2.2.2.2.1 x.2.2.2.2.2:=by kernel_rfl
theorem round_Cut.w3 (k:Nat) (x:ET [.sc 0 (.int .i64),.sc 12 (.bool),.box 9 155 [.int .u64,.int .u64]]):walk E116 (round_Cut.G k) (cutsAt E116 k round_Cut.cuts) (retE E116 Tryz.f116.results.toList S116) 4000 true (stackAt B116 [1,1,1,1,1,1,1,1]) (mkE [.sc 0 (.int .i64),.sc 12 (.bool),.box 9 155 [.int .u64,.int .u64]] x St.nil)=round_Cut.j3 (k+1) x.1 x.2.1 x.2.2.1 x.2.2.2:=by kernel_rfl
theorem round_Cut.w (k:Nat) (x:TT S116.sa):walk E116 (round_Cut.G k) (cutsAt E116 k round_Cut.cuts) (retE E116 Tryz.f116.results.toList S116) 4000 true [([],.code B116)] (St0 S116 x)=round_Cut.f k x.1 x.2.1 x.2.2.1 x.2.2.2.1 x.2.2.2.2.1 x.2.2.2.2.2.1 x.2.2.2.2.2.2:=Eq.trans (b:=round_Cut.fR k x.1 x.2.1 x.2.2.1 x.2.2.2.1 x.2.2.2.2.1 x.2.2.2.2.2.1 x.2.2.2.2.2.2) (by kernel_rfl) (round_Cut.fE k x.1 x.2.1 x.2.2.1 x.2.2.2.1 x.2.2.2.2.1 x.2.2.2.2.2.1 x.2.2.2.2.2.2)
theorem round_Cut.ok (k:Nat):FnOk Tryz.prog E116.eT 116 (round_Cut.c k):=FnOk.walk (E:=E116) (body:=B116) Tryz.func116 rfl (by rfl) Tryz.ntmps116 rfl S116 rfl (fun k x=>round_Cut.f k x.1 x.2.1 x.2.2.1 x.2.2.2.1 x.2.2.2.2.1 x.2.2.2.2.2.1 x.2.2.2.2.2.2) round_Cut.G (fun k=>⟨round_sound.ok k,shape_Of.ok,twin_Shl.ok,round_under.ok,round_left.ok k,trivial⟩) 4000 round_Cut.cuts ⟨⟨fun _=>rfl,fun k x q h=>(round_Cut.w0 k x).trans h⟩,⟨fun _=>rfl,fun k x q h=>(round_Cut.w1 k x).trans h⟩,⟨fun _=>rfl,fun k x q h=>(round_Cut.w2 k x).trans h⟩,⟨fun _=>rfl,fun k x q h=>(round_Cut.w3 k x).trans h⟩,trivial⟩ (fun k x r h=>(round_Cut.w k x).trans h) k
def E75:En:=⟨Tryz.prog,76,Tryz.f75.ntmps,none,false,[]⟩
def S75:Sig:=⟨[.s,.g 6],[(.int .i64),(.int .i64),.bool,(.int .i64),(.int .u64),(.int .u64),.bool],true,[.s,.s],[(.int .u64),.err],false⟩
def B75:Go.Code:=Tryz.f75.body.get!
def round_Round.f (k:Nat) (a0:Int) (a1_0:Int) (a1_1:Bool) (a1_2:Int) (a1_3:Int) (a1_4:Int) (a1_5:Bool):Option (Int×Option Int):=(round_Cut.f k a0 a1_0 a1_1 a1_2 a1_3 a1_4 a1_5).bind fun t100=>(if t100.2.2.isNone=true then (if t100.2.1=2 then (if (Go.bits .and .u64 t100.1 1)=0 then (if a1_1=true then ((shape_Fold.f a0 (IntKind.u64.wrap (-t100.1))).bind fun t101=>(some (t101.1,t101.2))) else ((shape_Fold.f a0 t100.1).bind fun t102=>(some (t102.1,t102.2)))) else (if a1_1=true then ((shape_Fold.f a0 (IntKind.u64.wrap (-(IntKind.u64.wrap (t100.1+1))))).bind fun t103=>(some (t103.1,t103.2))) else ((shape_Fold.f a0 (IntKind.u64.wrap (t100.1+1))).bind fun t104=>(some (t104.1,t104.2))))) else (if t100.2.1=3 then (if a1_1=true then ((shape_Fold.f a0 (IntKind.u64.wrap (-(IntKind.u64.wrap (t100.1+1))))).bind fun t105=>(some (t105.1,t105.2))) else ((shape_Fold.f a0 (IntKind.u64.wrap (t100.1+1))).bind fun t106=>(some (t106.1,t106.2)))) else (if a1_1=true then ((shape_Fold.f a0 (IntKind.u64.wrap (-t100.1))).bind fun t107=>(some (t107.1,t107.2))) else ((shape_Fold.f a0 t100.1).bind fun t108=>(some (t108.1,t108.2)))))) else (some (0,some (t100.2.2.getD 0))))
--@ok
def round_Round.c (k:Nat):Con:=S75.con fun x=>round_Round.f k x.1 x.2.1 x.2.2.1 x.2.2.2.1 x.2.2.2.2.1 x.2.2.2.2.2.1 x.2.2.2.2.2.2
def round_Round.G (k:Nat):List (Go.FuncId×Cn):=[(93,.f shape_Fold.c),(116,.f (round_Cut.c k))]
def round_Round.cuts:List (Cut (TT S75.sb)):=[]
theorem round_Round.w (k:Nat) (x:TT S75.sa):walk E75 (round_Round.G k) (cutsAt E75 k round_Round.cuts) (retE E75 Tryz.f75.results.toList S75) 4000 true [([],.code B75)] (St0 S75 x)=round_Round.f k x.1 x.2.1 x.2.2.1 x.2.2.2.1 x.2.2.2.2.1 x.2.2.2.2.2.1 x.2.2.2.2.2.2:=by kernel_rfl
theorem round_Round.ok (k:Nat):FnOk Tryz.prog E75.eT 75 (round_Round.c k):=FnOk.walk (E:=E75) (body:=B75) Tryz.func75 rfl (by rfl) Tryz.ntmps75 rfl S75 rfl (fun k x=>round_Round.f k x.1 x.2.1 x.2.2.1 x.2.2.2.1 x.2.2.2.2.1 x.2.2.2.2.2.1 x.2.2.2.2.2.2) round_Round.G (fun k=>⟨shape_Fold.ok,round_Cut.ok k,trivial⟩) 4000 round_Round.cuts trivial (fun k x r h=>(round_Round.w k x).trans h) k
def E137:En:=⟨Tryz.prog,76,Tryz.f137.ntmps,none,false,[]⟩
def S137:Sig:=⟨[.s,.s],[(.int .i64),(.int .u64)],true,[.s,.s],[(.int .i64),.err],false⟩
def B137:Go.Code:=Tryz.f137.body.get!
def shape_Kind.f (a0:Int) (a1:Int):Option (Int×Option Int):=(shape_Fold.f a0 a1).bind fun t100=>(if t100.2.isNone=true then (if t100.1=0 then (some (0,none)) else (if 0≤(wrap64 (a0 - 1)) then (if t100.1=(shl .u64 1 (wrap64 (a0 - 1))) then (some (2,none)) else (some (1,none))) else (none))) else (some (0,some (t100.2.getD 0))))
--@ok
def shape_Kind.c:Con:=S137.con fun x=>shape_Kind.f x.1 x.2
def shape_Kind.G (k:Nat):List (Go.FuncId×Cn):=[(93,.f shape_Fold.c)]
def shape_Kind.cuts:List (Cut (TT S137.sb)):=[]
theorem shape_Kind.w (k:Nat) (x:TT S137.sa):walk E137 (shape_Kind.G k) (cutsAt E137 k shape_Kind.cuts) (retE E137 Tryz.f137.results.toList S137) 4000 true [([],.code B137)] (St0 S137 x)=shape_Kind.f x.1 x.2:=by kernel_rfl
theorem shape_Kind.ok:FnOk Tryz.prog E137.eT 137 (shape_Kind.c):=FnOk.walk (E:=E137) (body:=B137) Tryz.func137 rfl (by rfl) Tryz.ntmps137 rfl S137 rfl (fun k x=>shape_Kind.f x.1 x.2) shape_Kind.G (fun k=>⟨shape_Fold.ok,trivial⟩) 4000 shape_Kind.cuts trivial (fun k x r h=>(shape_Kind.w k x).trans h) 0
def E72:En:=⟨Tryz.prog,76,Tryz.f72.ntmps,none,false,[]⟩
def S72:Sig:=⟨[.s],[(.int .u64)],false,[.s],[(.int .i64)],false⟩
def B72:Go.Code:=Tryz.f72.body.get!
def bits_LeadingZeros64.f (a0:Int):Option (Int):=(bits_Len64.f a0).bind fun t100=>(some (wrap64 (64 - t100)))
--@ok
def bits_LeadingZeros64.c:Con:=S72.con fun x=>bits_LeadingZeros64.f x
def bits_LeadingZeros64.G (k:Nat):List (Go.FuncId×Cn):=[(113,.f bits_Len64.c)]
def bits_LeadingZeros64.cuts:List (Cut (TT S72.sb)):=[]
theorem bits_LeadingZeros64.w (k:Nat) (x:TT S72.sa):walk E72 (bits_LeadingZeros64.G k) (cutsAt E72 k bits_LeadingZeros64.cuts) (retE E72 Tryz.f72.results.toList S72) 4000 true [([],.code B72)] (St0 S72 x)=bits_LeadingZeros64.f x:=by kernel_rfl
theorem bits_LeadingZeros64.ok:FnOk Tryz.prog E72.eT 72 (bits_LeadingZeros64.c):=FnOk.walk (E:=E72) (body:=B72) Tryz.func72 rfl (by rfl) Tryz.ntmps72 rfl S72 rfl (fun k x=>bits_LeadingZeros64.f x) bits_LeadingZeros64.G (fun k=>⟨bits_Len64.ok,trivial⟩) 4000 bits_LeadingZeros64.cuts trivial (fun k x r h=>(bits_LeadingZeros64.w k x).trans h) 0
def E187:En:=⟨Tryz.prog,76,Tryz.f187.ntmps,none,false,[]⟩
def S187:Sig:=⟨[.s,.s],[(.int .u64),(.int .i64)],true,[.s,.s,.s],[.bool,(.int .i64),.err],false⟩
def B187:Go.Code:=Tryz.f187.body.get!
def lead_Run.j0:Nat→Int→Int→Bool→Option (Bool×Int×Option Int)
 | 0,_,_,_=>none
 | k+1,x0,x1,x13=>if x13=true then (some (false,0,some 1)) else (if 0≤(wrap64 (64 - x1)) then (if ((shl .u64 x0 (wrap64 (64 - x1))) / 9223372036854775808)=1 then ((bits_LeadingZeros64.f (Go.bits .xor .u64 18446744073709551615 (shl .u64 x0 (wrap64 (64 - x1))))).bind fun t100=>(some (((shl .u64 x0 (wrap64 (64 - x1))) / 9223372036854775808)==1,mn t100 x1,none))) else ((bits_LeadingZeros64.f (shl .u64 x0 (wrap64 (64 - x1)))).bind fun t101=>(some (((shl .u64 x0 (wrap64 (64 - x1))) / 9223372036854775808)==1,mn t101 x1,none)))) else (none))
def lead_Run.f (k:Nat) (a0:Int) (a1:Int):Option (Bool×Int×Option Int):=if a1 < 1 then (lead_Run.j0 k a0 a1 true) else (lead_Run.j0 k a0 a1 (decide (a1 > 64)))
--@ok
def lead_Run.c (k:Nat):Con:=S187.con fun x=>lead_Run.f k x.1 x.2
def lead_Run.G (k:Nat):List (Go.FuncId×Cn):=[(72,.f bits_LeadingZeros64.c)]
def lead_Run.cuts:List (Cut (TT S187.sb)):=[⟨[1,0,1],[.sc 0 (.int .u64),.sc 1 (.int .i64),.sc 13 (.bool)],fun k x=>lead_Run.j0 k x.1 x.2.1 x.2.2⟩]
theorem lead_Run.w0 (k:Nat) (x:ET [.sc 0 (.int .u64),.sc 1 (.int .i64),.sc 13 (.bool)]):walk E187 (lead_Run.G k) (cutsAt E187 k lead_Run.cuts) (retE E187 Tryz.f187.results.toList S187) 4000 true (stackAt B187 [1,0,1]) (mkE [.sc 0 (.int .u64),.sc 1 (.int .i64),.sc 13 (.bool)] x St.nil)=lead_Run.j0 (k+1) x.1 x.2.1 x.2.2:=by kernel_rfl
theorem lead_Run.w (k:Nat) (x:TT S187.sa):walk E187 (lead_Run.G k) (cutsAt E187 k lead_Run.cuts) (retE E187 Tryz.f187.results.toList S187) 4000 true [([],.code B187)] (St0 S187 x)=lead_Run.f k x.1 x.2:=by kernel_rfl
theorem lead_Run.ok (k:Nat):FnOk Tryz.prog E187.eT 187 (lead_Run.c k):=FnOk.walk (E:=E187) (body:=B187) Tryz.func187 rfl (by rfl) Tryz.ntmps187 rfl S187 rfl (fun k x=>lead_Run.f k x.1 x.2) lead_Run.G (fun k=>⟨bits_LeadingZeros64.ok,trivial⟩) 4000 lead_Run.cuts ⟨⟨fun _=>rfl,fun k x q h=>(lead_Run.w0 k x).trans h⟩,trivial⟩ (fun k x r h=>(lead_Run.w k x).trans h) k
end Go.Proofs.YtbpcfhhcoklinaaGreat.Fn
set_option maxRecDepth 100000
noncomputable section
namespace Go.Proofs.YtbpcfhhcoklinaaGreat.Fn
open Go Go.RowKit Go.Proofs.YtbpcfhhcoklinaaGreat.Ab
def E210:En:=⟨Tryz.prog,76,Tryz.f210.ntmps,none,false,[]⟩
def S210:Sig:=⟨[.s,.s],[(.int .i64),(.int .i64)],false,[.s],[.bool],false⟩
def B210:Go.Code:=Tryz.f210.body.get!
def lead_field.f (a0:Int) (a1:Int):Option (Bool):=if a0≥0 then (if a0≤64 then (if a1≥0 then (some (decide (a1≤(wrap64 (64 - a0))))) else (some false)) else (some false)) else (some false)
--@ok
def lead_field.c:Con:=S210.con fun x=>lead_field.f x.1 x.2
def lead_field.G (k:Nat):List (Go.FuncId×Cn):=[]
def lead_field.cuts:List (Cut (TT S210.sb)):=[]
theorem lead_field.w (k:Nat) (x:TT S210.sa):walk E210 (lead_field.G k) (cutsAt E210 k lead_field.cuts) (retE E210 Tryz.f210.results.toList S210) 4000 true [([],.code B210)] (St0 S210 x)=lead_field.f x.1 x.2:=by kernel_rfl
theorem lead_field.ok:FnOk Tryz.prog E210.eT 210 (lead_field.c):=FnOk.walk (E:=E210) (body:=B210) Tryz.func210 rfl (by rfl) Tryz.ntmps210 rfl S210 rfl (fun k x=>lead_field.f x.1 x.2) lead_field.G (fun k=>trivial) 4000 lead_field.cuts trivial (fun k x r h=>(lead_field.w k x).trans h) 0
def E188:En:=⟨Tryz.prog,76,Tryz.f188.ntmps,none,false,[]⟩
def S188:Sig:=⟨[.s,.s,.s],[(.int .u64),(.int .i64),(.int .i64)],true,[.s,.s],[(.int .u64),.err],false⟩
def B188:Go.Code:=Tryz.f188.body.get!
def lead_Field.f (a0:Int) (a1:Int) (a2:Int):Option (Int×Option Int):=(lead_field.f a1 a2).bind fun t100=>(if t100=true then (if 0≤a1 then ((lead_ones.f a2).bind fun t101=>(some (Go.bits .and .u64 (shr .u64 a0 a1) t101,none))) else (none)) else (some (0,some 1)))
--@ok
def lead_Field.c:Con:=S188.con fun x=>lead_Field.f x.1 x.2.1 x.2.2
def lead_Field.G (k:Nat):List (Go.FuncId×Cn):=[(185,.f lead_ones.c),(210,.f lead_field.c)]
def lead_Field.cuts:List (Cut (TT S188.sb)):=[]
theorem lead_Field.w (k:Nat) (x:TT S188.sa):walk E188 (lead_Field.G k) (cutsAt E188 k lead_Field.cuts) (retE E188 Tryz.f188.results.toList S188) 4000 true [([],.code B188)] (St0 S188 x)=lead_Field.f x.1 x.2.1 x.2.2:=by kernel_rfl
theorem lead_Field.ok:FnOk Tryz.prog E188.eT 188 (lead_Field.c):=FnOk.walk (E:=E188) (body:=B188) Tryz.func188 rfl (by rfl) Tryz.ntmps188 rfl S188 rfl (fun k x=>lead_Field.f x.1 x.2.1 x.2.2) lead_Field.G (fun k=>⟨lead_ones.ok,lead_field.ok,trivial⟩) 4000 lead_Field.cuts trivial (fun k x r h=>(lead_Field.w k x).trans h) 0
def E138:En:=⟨Tryz.prog,76,Tryz.f138.ntmps,none,false,[]⟩
def S138:Sig:=⟨[.s,.s],[(.int .i64),(.int .u64)],true,[.g 8,.s],[.bool,.bool,(.int .i64),(.int .i64),(.int .i64),(.int .i64),(.int .i64),(.int .u64),.err],false⟩
def B138:Go.Code:=Tryz.f138.body.get!
mutual
def codec_Split.j0:Nat→Int→Int→Option Int→Bool→Option (Bool×Bool×Int×Int×Int×Int×Int×Int×Option Int)
 | 0,_,_,_,_=>none
 | k+1,x0,x1,x7,x25=>if x25=true then (some (false,false,0,0,0,0,0,0,x7)) else ((shape_Rank.f x0 x1).bind fun t101=>(if t101.1 < 0 then (codec_Split.j1 k x0 (IntKind.u64.wrap (-x1)) true) else (codec_Split.j1 k x0 x1 false)))
def codec_Split.j1:Nat→Int→Int→Bool→Option (Bool×Bool×Int×Int×Int×Int×Int×Int×Option Int)
 | 0,_,_,_=>none
 | k+1,x0,x1,x8000=>(lead_Run.f k x1 (wrap64 (x0 - 1))).bind fun t102=>(if t102.1=true then ((lead_Field.f x1 (wrap64 ((mx (wrap64 ((wrap64 ((wrap64 (x0 - 1)) - t102.2.1)) - 1)) 0) - (mn (mx (wrap64 ((wrap64 ((wrap64 (x0 - 1)) - t102.2.1)) - 1)) 0) 2))) (mn (mx (wrap64 ((wrap64 ((wrap64 (x0 - 1)) - t102.2.1)) - 1)) 0) 2)).bind fun t103=>((lead_Field.f x1 0 (wrap64 ((mx (wrap64 ((wrap64 ((wrap64 (x0 - 1)) - t102.2.1)) - 1)) 0) - (mn (mx (wrap64 ((wrap64 ((wrap64 (x0 - 1)) - t102.2.1)) - 1)) 0) 2)))).bind fun t104=>(some (x8000,t102.1,t102.2.1,wrap64 (t102.2.1 - 1),mn (mx (wrap64 ((wrap64 ((wrap64 (x0 - 1)) - t102.2.1)) - 1)) 0) 2,wrap64 ((wrap64 t103.1)*(2^(((2 - (mn (mx (wrap64 ((wrap64 ((wrap64 (x0 - 1)) - t102.2.1)) - 1)) 0) 2)):Int).toNat))),wrap64 ((mx (wrap64 ((wrap64 ((wrap64 (x0 - 1)) - t102.2.1)) - 1)) 0) - (mn (mx (wrap64 ((wrap64 ((wrap64 (x0 - 1)) - t102.2.1)) - 1)) 0) 2)),t104.1,none)))) else ((lead_Field.f x1 (wrap64 ((mx (wrap64 ((wrap64 ((wrap64 (x0 - 1)) - t102.2.1)) - 1)) 0) - (mn (mx (wrap64 ((wrap64 ((wrap64 (x0 - 1)) - t102.2.1)) - 1)) 0) 2))) (mn (mx (wrap64 ((wrap64 ((wrap64 (x0 - 1)) - t102.2.1)) - 1)) 0) 2)).bind fun t105=>((lead_Field.f x1 0 (wrap64 ((mx (wrap64 ((wrap64 ((wrap64 (x0 - 1)) - t102.2.1)) - 1)) 0) - (mn (mx (wrap64 ((wrap64 ((wrap64 (x0 - 1)) - t102.2.1)) - 1)) 0) 2)))).bind fun t106=>(some (x8000,t102.1,t102.2.1,wrap64 (-t102.2.1),mn (mx (wrap64 ((wrap64 ((wrap64 (x0 - 1)) - t102.2.1)) - 1)) 0) 2,wrap64 ((wrap64 t105.1)*(2^(((2 - (mn (mx (wrap64 ((wrap64 ((wrap64 (x0 - 1)) - t102.2.1)) - 1)) 0) 2)):Int).toNat))),wrap64 ((mx (wrap64 ((wrap64 ((wrap64 (x0 - 1)) - t102.2.1)) - 1)) 0) - (mn (mx (wrap64 ((wrap64 ((wrap64 (x0 - 1)) - t102.2.1)) - 1)) 0) 2)),t106.1,none)))))
end
def codec_Split.f (k:Nat) (a0:Int) (a1:Int):Option (Bool×Bool×Int×Int×Int×Int×Int×Int×Option Int):=(shape_Kind.f a0 a1).bind fun t100=>(if t100.2.isNone=true then (codec_Split.j0 k a0 a1 none (t100.1 != 1)) else (codec_Split.j0 k a0 a1 (some (t100.2.getD 0)) true))
--@ok
def codec_Split.c (k:Nat):Con:=S138.con fun x=>codec_Split.f k x.1 x.2
def codec_Split.G (k:Nat):List (Go.FuncId×Cn):=[(132,.f shape_Rank.c),(137,.f shape_Kind.c),(187,.f (lead_Run.c k)),(188,.f lead_Field.c)]
def codec_Split.cuts:List (Cut (TT S138.sb)):=[⟨[1,0,1,1],[.sc 0 (.int .i64),.sc 1 (.int .u64),.sc 7 (.err),.sc 25 (.bool),.box 4 175 [.bool,.bool,.int .i64,.int .i64,.int .i64,.int .i64,.int .i64,.int .u64]],fun k x=>codec_Split.j0 k x.1 x.2.1 x.2.2.1 x.2.2.2.1⟩,⟨[1,1,1,1,1],[.sc 0 (.int .i64),.sc 1 (.int .u64),.box 4 175 [.bool,.bool,.int .i64,.int .i64,.int .i64,.int .i64,.int .i64,.int .u64],.box 8 175 [.bool,.bool,.int .i64,.int .i64,.int .i64,.int .i64,.int .i64,.int .u64]],fun k x=>codec_Split.j1 k x.1 x.2.1 x.2.2.2.1⟩]
theorem codec_Split.w0 (k:Nat) (x:ET [.sc 0 (.int .i64),.sc 1 (.int .u64),.sc 7 (.err),.sc 25 (.bool),.box 4 175 [.bool,.bool,.int .i64,.int .i64,.int .i64,.int .i64,.int .i64,.int .u64]]):walk E138 (codec_Split.G k) (cutsAt E138 k codec_Split.cuts) (retE E138 Tryz.f138.results.toList S138) 4000 true (stackAt B138 [1,0,1,1]) (mkE [.sc 0 (.int .i64),.sc 1 (.int .u64),.sc 7 (.err),.sc 25 (.bool),.box 4 175 [.bool,.bool,.int .i64,.int .i64,.int .i64,.int .i64,.int .i64,.int .u64]] x St.nil)=codec_Split.j0 (k+1) x.1 x.2.1 x.2.2.1 x.2.2.2.1:=by kernel_rfl
theorem codec_Split.w1 (k:Nat) (x:ET [.sc 0 (.int .i64),.sc 1 (.int .u64),.box 4 175 [.bool,.bool,.int .i64,.int .i64,.int .i64,.int .i64,.int .i64,.int .u64],.box 8 175 [.bool,.bool,.int .i64,.int .i64,.int .i64,.int .i64,.int .i64,.int .u64]]):walk E138 (codec_Split.G k) (cutsAt E138 k codec_Split.cuts) (retE E138 Tryz.f138.results.toList S138) 4000 true (stackAt B138 [1,1,1,1,1]) (mkE [.sc 0 (.int .i64),.sc 1 (.int .u64),.box 4 175 [.bool,.bool,.int .i64,.int .i64,.int .i64,.int .i64,.int .i64,.int .u64],.box 8 175 [.bool,.bool,.int .i64,.int .i64,.int .i64,.int .i64,.int .i64,.int .u64]] x St.nil)=codec_Split.j1 (k+1) x.1 x.2.1 x.2.2.2.1:=by kernel_rfl
theorem codec_Split.w (k:Nat) (x:TT S138.sa):walk E138 (codec_Split.G k) (cutsAt E138 k codec_Split.cuts) (retE E138 Tryz.f138.results.toList S138) 4000 true [([],.code B138)] (St0 S138 x)=codec_Split.f k x.1 x.2:=by kernel_rfl
theorem codec_Split.ok (k:Nat):FnOk Tryz.prog E138.eT 138 (codec_Split.c k):=FnOk.walk (E:=E138) (body:=B138) Tryz.func138 rfl (by rfl) Tryz.ntmps138 rfl S138 rfl (fun k x=>codec_Split.f k x.1 x.2) codec_Split.G (fun k=>⟨shape_Rank.ok,shape_Kind.ok,lead_Run.ok k,lead_Field.ok,trivial⟩) 4000 codec_Split.cuts ⟨⟨fun _=>rfl,fun k x q h=>(codec_Split.w0 k x).trans h⟩,⟨fun _=>rfl,fun k x q h=>(codec_Split.w1 k x).trans h⟩,trivial⟩ (fun k x r h=>(codec_Split.w k x).trans h) k
def E95:En:=⟨Tryz.prog,76,Tryz.f95.ntmps,none,false,[]⟩
def S95:Sig:=⟨[.s,.s],[(.int .i64),(.int .u64)],true,[.g 4,.s],[(.int .i64),.bool,(.int .i64),(.int .u64),.err],false⟩
def B95:Go.Code:=Tryz.f95.body.get!
def codec_Decode.f (k:Nat) (a0:Int) (a1:Int):Option (Int×Bool×Int×Int×Option Int):=(shape_Kind.f a0 a1).bind fun t100=>(if t100.2.isNone=true then (if t100.1=1 then ((codec_Split.f k a0 a1).bind fun t101=>(if 0≤(wrap64 (63 - t101.2.2.2.2.2.2.1)) then (some (t100.1,t101.1,wrap64 ((wrap64 (4*t101.2.2.2.1))+t101.2.2.2.2.2.1),Go.bits .or .u64 9223372036854775808 (shl .u64 t101.2.2.2.2.2.2.2.1 (wrap64 (63 - t101.2.2.2.2.2.2.1))),none)) else (none))) else (some (t100.1,false,0,0,none))) else (some (t100.1,false,0,0,some (t100.2.getD 0))))
--@ok
def codec_Decode.c (k:Nat):Con:=S95.con fun x=>codec_Decode.f k x.1 x.2
def codec_Decode.G (k:Nat):List (Go.FuncId×Cn):=[(137,.f shape_Kind.c),(138,.f (codec_Split.c k))]
def codec_Decode.cuts:List (Cut (TT S95.sb)):=[]
theorem codec_Decode.w (k:Nat) (x:TT S95.sa):walk E95 (codec_Decode.G k) (cutsAt E95 k codec_Decode.cuts) (retE E95 Tryz.f95.results.toList S95) 4000 true [([],.code B95)] (St0 S95 x)=codec_Decode.f k x.1 x.2:=by kernel_rfl
theorem codec_Decode.ok (k:Nat):FnOk Tryz.prog E95.eT 95 (codec_Decode.c k):=FnOk.walk (E:=E95) (body:=B95) Tryz.func95 rfl (by rfl) Tryz.ntmps95 rfl S95 rfl (fun k x=>codec_Decode.f k x.1 x.2) codec_Decode.G (fun k=>⟨shape_Kind.ok,codec_Split.ok k,trivial⟩) 4000 codec_Decode.cuts trivial (fun k x r h=>(codec_Decode.w k x).trans h) k
def E114:En:=⟨Tryz.prog,76,Tryz.f114.ntmps,none,false,[]⟩
def S114:Sig:=⟨[.g 2],[(.int .u64),(.int .u64)],true,[.g 2,.s],[(.int .u64),(.int .u64),(.int .i64)],false⟩
def B114:Go.Code:=Tryz.f114.body.get!
def twin_Norm.f (a0_0:Int) (a0_1:Int):Option (Int×Int×Int):=if ((a0_0==0)&&(a0_1==0))=true then (some (a0_0,a0_1,0)) else ((twin_Len.f a0_0 a0_1).bind fun t100=>((twin_shl.f a0_0 a0_1 (wrap64 (128 - t100))).bind fun t101=>(some (t101.1,t101.2,wrap64 (128 - t100)))))
--@ok
def twin_Norm.c:Con:=S114.con fun x=>twin_Norm.f x.1 x.2
def twin_Norm.G (k:Nat):List (Go.FuncId×Cn):=[(154,.f twin_Len.c),(155,.f twin_shl.c)]
def twin_Norm.cuts:List (Cut (TT S114.sb)):=[]
theorem twin_Norm.w (k:Nat) (x:TT S114.sa):walk E114 (twin_Norm.G k) (cutsAt E114 k twin_Norm.cuts) (retE E114 Tryz.f114.results.toList S114) 4000 true [([],.code B114)] (St0 S114 x)=twin_Norm.f x.1 x.2:=by kernel_rfl
theorem twin_Norm.ok:FnOk Tryz.prog E114.eT 114 (twin_Norm.c):=FnOk.walk (E:=E114) (body:=B114) Tryz.func114 rfl (by rfl) Tryz.ntmps114 rfl S114 rfl (fun k x=>twin_Norm.f x.1 x.2) twin_Norm.G (fun k=>⟨twin_Len.ok,twin_shl.ok,trivial⟩) 4000 twin_Norm.cuts trivial (fun k x r h=>(twin_Norm.w k x).trans h) 0
def E73:En:=⟨Tryz.prog,76,Tryz.f73.ntmps,none,false,[]⟩
def S73:Sig:=⟨[.s,.s,.s,.s,.s],[.bool,(.int .u64),(.int .u64),(.int .i64),.bool],true,[.g 6,.s],[(.int .i64),.bool,(.int .i64),(.int .u64),(.int .u64),.bool,.err],false⟩
def B73:Go.Code:=Tryz.f73.body.get!
def round_Make.j0:Nat→Bool→Int→Int→Int→Bool→Bool→Option (Int×Bool×Int×Int×Int×Bool×Option Int)
 | 0,_,_,_,_,_,_=>none
 | k+1,x0,x1,x2,x3,x4,x19=>if x19=true then (some (0,false,0,0,0,false,some 1)) else ((twin_Norm.f x1 x2).bind fun t100=>(if ((t100.1==0)&&(t100.2.1==0))=true then (some (0,false,0,0,0,false,none)) else ((round_held.f (wrap64 (((mx (-4398046511104) (mn x3 4398046511104))+127) - t100.2.2))).bind fun t101=>(some (1,x0,t101,t100.1,t100.2.1,x4,none)))))
def round_Make.f (k:Nat) (a0:Bool) (a1:Int) (a2:Int) (a3:Int) (a4:Bool):Option (Int×Bool×Int×Int×Int×Bool×Option Int):=if a4=true then (round_Make.j0 k a0 a1 a2 a3 a4 ((a1 / 9223372036854775808)==0)) else (round_Make.j0 k a0 a1 a2 a3 a4 false)
--@ok
def round_Make.c (k:Nat):Con:=S73.con fun x=>round_Make.f k x.1 x.2.1 x.2.2.1 x.2.2.2.1 x.2.2.2.2
def round_Make.G (k:Nat):List (Go.FuncId×Cn):=[(114,.f twin_Norm.c),(115,.f round_held.c)]
def round_Make.cuts:List (Cut (TT S73.sb)):=[⟨[1,0,1],[.sc 0 (.bool),.sc 1 (.int .u64),.sc 2 (.int .u64),.sc 3 (.int .i64),.sc 4 (.bool),.sc 19 (.bool),.box 10 120 [.int .i64,.bool,.int .i64,.int .u64,.int .u64,.bool]],fun k x=>round_Make.j0 k x.1 x.2.1 x.2.2.1 x.2.2.2.1 x.2.2.2.2.1 x.2.2.2.2.2.1⟩]
theorem round_Make.w0 (k:Nat) (x:ET [.sc 0 (.bool),.sc 1 (.int .u64),.sc 2 (.int .u64),.sc 3 (.int .i64),.sc 4 (.bool),.sc 19 (.bool),.box 10 120 [.int .i64,.bool,.int .i64,.int .u64,.int .u64,.bool]]):walk E73 (round_Make.G k) (cutsAt E73 k round_Make.cuts) (retE E73 Tryz.f73.results.toList S73) 4000 true (stackAt B73 [1,0,1]) (mkE [.sc 0 (.bool),.sc 1 (.int .u64),.sc 2 (.int .u64),.sc 3 (.int .i64),.sc 4 (.bool),.sc 19 (.bool),.box 10 120 [.int .i64,.bool,.int .i64,.int .u64,.int .u64,.bool]] x St.nil)=round_Make.j0 (k+1) x.1 x.2.1 x.2.2.1 x.2.2.2.1 x.2.2.2.2.1 x.2.2.2.2.2.1:=by kernel_rfl
theorem round_Make.w (k:Nat) (x:TT S73.sa):walk E73 (round_Make.G k) (cutsAt E73 k round_Make.cuts) (retE E73 Tryz.f73.results.toList S73) 4000 true [([],.code B73)] (St0 S73 x)=round_Make.f k x.1 x.2.1 x.2.2.1 x.2.2.2.1 x.2.2.2.2:=by kernel_rfl
theorem round_Make.ok (k:Nat):FnOk Tryz.prog E73.eT 73 (round_Make.c k):=FnOk.walk (E:=E73) (body:=B73) Tryz.func73 rfl (by rfl) Tryz.ntmps73 rfl S73 rfl (fun k x=>round_Make.f k x.1 x.2.1 x.2.2.1 x.2.2.2.1 x.2.2.2.2) round_Make.G (fun k=>⟨twin_Norm.ok,round_held.ok,trivial⟩) 4000 round_Make.cuts ⟨⟨fun _=>rfl,fun k x q h=>(round_Make.w0 k x).trans h⟩,trivial⟩ (fun k x r h=>(round_Make.w k x).trans h) k
def E96:En:=⟨Tryz.prog,76,Tryz.f96.ntmps,none,false,[]⟩
def S96:Sig:=⟨[.g 4],[(.int .i64),.bool,(.int .i64),(.int .u64)],true,[.g 6,.s],[(.int .i64),.bool,(.int .i64),(.int .u64),(.int .u64),.bool,.err],false⟩
def B96:Go.Code:=Tryz.f96.body.get!
def round_Of.f (k:Nat) (a0_0:Int) (a0_1:Bool) (a0_2:Int) (a0_3:Int):Option (Int×Bool×Int×Int×Int×Bool×Option Int):=(round_sound.f k a0_0 a0_1 a0_2 a0_3 0 false).bind fun t100=>(if t100=true then (if a0_2 < (-1073741824) then (some (0,false,0,0,0,false,some 1)) else (if a0_2 > 1073741824 then (some (0,false,0,0,0,false,some 1)) else (some (a0_0,a0_1,a0_2,a0_3,0,false,none)))) else (some (0,false,0,0,0,false,some 1)))
--@ok
def round_Of.c (k:Nat):Con:=S96.con fun x=>round_Of.f k x.1 x.2.1 x.2.2.1 x.2.2.2
def round_Of.G (k:Nat):List (Go.FuncId×Cn):=[(139,.f (round_sound.c k))]
def round_Of.cuts:List (Cut (TT S96.sb)):=[]
theorem round_Of.w (k:Nat) (x:TT S96.sa):walk E96 (round_Of.G k) (cutsAt E96 k round_Of.cuts) (retE E96 Tryz.f96.results.toList S96) 4000 true [([],.code B96)] (St0 S96 x)=round_Of.f k x.1 x.2.1 x.2.2.1 x.2.2.2:=by kernel_rfl
theorem round_Of.ok (k:Nat):FnOk Tryz.prog E96.eT 96 (round_Of.c k):=FnOk.walk (E:=E96) (body:=B96) Tryz.func96 rfl (by rfl) Tryz.ntmps96 rfl S96 rfl (fun k x=>round_Of.f k x.1 x.2.1 x.2.2.1 x.2.2.2) round_Of.G (fun k=>⟨round_sound.ok k,trivial⟩) 4000 round_Of.cuts trivial (fun k x r h=>(round_Of.w k x).trans h) k
def E151:En:=⟨Tryz.prog,76,Tryz.f151.ntmps,none,false,[]⟩
def S151:Sig:=⟨[.s,.s],[(.int .u64),(.int .u64)],true,[.s,.s],[(.int .u64),(.int .u64)],false⟩
def B151:Go.Code:=Tryz.f151.body.get!
def bits_Mul64.f (a0:Int) (a1:Int):Option (Int×Int):=some (IntKind.u64.wrap ((IntKind.u64.wrap ((IntKind.u64.wrap ((a0 / 4294967296)*(a1 / 4294967296)))+((IntKind.u64.wrap ((IntKind.u64.wrap ((a0 / 4294967296)*(Go.bits .and .u64 a1 4294967295)))+((IntKind.u64.wrap ((Go.bits .and .u64 a0 4294967295)*(Go.bits .and .u64 a1 4294967295))) / 4294967296))) / 4294967296)))+((IntKind.u64.wrap ((Go.bits .and .u64 (IntKind.u64.wrap ((IntKind.u64.wrap ((a0 / 4294967296)*(Go.bits .and .u64 a1 4294967295)))+((IntKind.u64.wrap ((Go.bits .and .u64 a0 4294967295)*(Go.bits .and .u64 a1 4294967295))) / 4294967296))) 4294967295)+(IntKind.u64.wrap ((Go.bits .and .u64 a0 4294967295)*(a1 / 4294967296))))) / 4294967296)),IntKind.u64.wrap (a0*a1))
--@ok
def bits_Mul64.c:Con:=S151.con fun x=>bits_Mul64.f x.1 x.2
def bits_Mul64.G (k:Nat):List (Go.FuncId×Cn):=[]
def bits_Mul64.cuts:List (Cut (TT S151.sb)):=[]
theorem bits_Mul64.w (k:Nat) (x:TT S151.sa):walk E151 (bits_Mul64.G k) (cutsAt E151 k bits_Mul64.cuts) (retE E151 Tryz.f151.results.toList S151) 4000 true [([],.code B151)] (St0 S151 x)=bits_Mul64.f x.1 x.2:=by kernel_rfl
theorem bits_Mul64.ok:FnOk Tryz.prog E151.eT 151 (bits_Mul64.c):=FnOk.walk (E:=E151) (body:=B151) Tryz.func151 rfl (by rfl) Tryz.ntmps151 rfl S151 rfl (fun k x=>bits_Mul64.f x.1 x.2) bits_Mul64.G (fun k=>trivial) 4000 bits_Mul64.cuts trivial (fun k x r h=>(bits_Mul64.w k x).trans h) 0
def E186:En:=⟨Tryz.prog,76,Tryz.f186.ntmps,none,false,[]⟩
def S186:Sig:=⟨[.s,.s],[(.int .u64),(.int .u64)],false,[.g 2],[(.int .u64),(.int .u64)],false⟩
def B186:Go.Code:=Tryz.f186.body.get!
def twin_Mul.f (a0:Int) (a1:Int):Option (Int×Int):=(bits_Mul64.f a0 a1).bind fun t100=>(some (t100.1,t100.2))
--@ok
def twin_Mul.c:Con:=S186.con fun x=>twin_Mul.f x.1 x.2
def twin_Mul.G (k:Nat):List (Go.FuncId×Cn):=[(151,.f bits_Mul64.c)]
def twin_Mul.cuts:List (Cut (TT S186.sb)):=[]
theorem twin_Mul.w (k:Nat) (x:TT S186.sa):walk E186 (twin_Mul.G k) (cutsAt E186 k twin_Mul.cuts) (retE E186 Tryz.f186.results.toList S186) 4000 true [([],.code B186)] (St0 S186 x)=twin_Mul.f x.1 x.2:=by kernel_rfl
theorem twin_Mul.ok:FnOk Tryz.prog E186.eT 186 (twin_Mul.c):=FnOk.walk (E:=E186) (body:=B186) Tryz.func186 rfl (by rfl) Tryz.ntmps186 rfl S186 rfl (fun k x=>twin_Mul.f x.1 x.2) twin_Mul.G (fun k=>⟨bits_Mul64.ok,trivial⟩) 4000 twin_Mul.cuts trivial (fun k x r h=>(twin_Mul.w k x).trans h) 0
def E136:En:=⟨Tryz.prog,76,Tryz.f136.ntmps,none,false,[]⟩
def S136:Sig:=⟨[.g 4,.g 4],[(.int .i64),.bool,(.int .i64),(.int .u64),(.int .i64),.bool,(.int .i64),(.int .u64)],true,[.g 6,.s],[(.int .i64),.bool,(.int .i64),(.int .u64),(.int .u64),.bool,.err],false⟩
def B136:Go.Code:=Tryz.f136.body.get!
mutual
def prod_Exact.j0:Nat→Bool→Int→Bool→Int→Int→Int→Bool→Int→Int→Option (Int×Bool×Int×Int×Int×Bool×Option Int)
 | 0,_,_,_,_,_,_,_,_,_=>none
 | k+1,x29,x2000,x2001,x2002,x2003,x3000,x3001,x3002,x3003=>if x29=true then (some (2,false,0,0,0,false,none)) else (if x2000=0 then (prod_Exact.j1 k (x2000==0) x2001 x2002 x2003 x3001 x3002 x3003) else (prod_Exact.j1 k (x3000==0) x2001 x2002 x2003 x3001 x3002 x3003))
def prod_Exact.j1:Nat→Bool→Bool→Int→Int→Bool→Int→Int→Option (Int×Bool×Int×Int×Int×Bool×Option Int)
 | 0,_,_,_,_,_,_,_=>none
 | k+1,x37,x2001,x2002,x2003,x3001,x3002,x3003=>if x37=true then (some (0,false,0,0,0,false,none)) else ((twin_Mul.f x2003 x3003).bind fun t102=>((round_Make.f k (!(x2001==x3001)) t102.1 t102.2 (wrap64 ((wrap64 (x2002+x3002)) - 126)) false).bind fun t103=>(some (t103.1,t103.2.1,t103.2.2.1,t103.2.2.2.1,t103.2.2.2.2.1,t103.2.2.2.2.2.1,t103.2.2.2.2.2.2))))
end
def prod_Exact.f (k:Nat) (a0_0:Int) (a0_1:Bool) (a0_2:Int) (a0_3:Int) (a1_0:Int) (a1_1:Bool) (a1_2:Int) (a1_3:Int):Option (Int×Bool×Int×Int×Int×Bool×Option Int):=(round_Of.f k a0_0 a0_1 a0_2 a0_3).bind fun t100=>(if t100.2.2.2.2.2.2.isNone=true then ((round_Of.f k a1_0 a1_1 a1_2 a1_3).bind fun t101=>(if t101.2.2.2.2.2.2.isNone=true then (if a0_0=2 then (prod_Exact.j0 k (a0_0==2) a0_0 a0_1 a0_2 a0_3 a1_0 a1_1 a1_2 a1_3) else (prod_Exact.j0 k (a1_0==2) a0_0 a0_1 a0_2 a0_3 a1_0 a1_1 a1_2 a1_3)) else (some (0,false,0,0,0,false,some (t101.2.2.2.2.2.2.getD 0))))) else (some (0,false,0,0,0,false,some (t100.2.2.2.2.2.2.getD 0))))
--@ok
def prod_Exact.c (k:Nat):Con:=S136.con fun x=>prod_Exact.f k x.1 x.2.1 x.2.2.1 x.2.2.2.1 x.2.2.2.2.1 x.2.2.2.2.2.1 x.2.2.2.2.2.2.1 x.2.2.2.2.2.2.2
def prod_Exact.G (k:Nat):List (Go.FuncId×Cn):=[(73,.f (round_Make.c k)),(96,.f (round_Of.c k)),(186,.f twin_Mul.c)]
def prod_Exact.cuts:List (Cut (TT S136.sb)):=[⟨[1,4,0,1,1],[.sc 29 (.bool),.box 2 137 [.int .i64,.bool,.int .i64,.int .u64],.box 3 137 [.int .i64,.bool,.int .i64,.int .u64],.box 4 120 [.int .i64,.bool,.int .i64,.int .u64,.int .u64,.bool]],fun k x=>prod_Exact.j0 k x.1 x.2.1.1 x.2.1.2.1 x.2.1.2.2.1 x.2.1.2.2.2 x.2.2.1.1 x.2.2.1.2.1 x.2.2.1.2.2.1 x.2.2.1.2.2.2⟩,⟨[1,3,1,4,0,1,1],[.sc 37 (.bool),.box 2 137 [.int .i64,.bool,.int .i64,.int .u64],.box 3 137 [.int .i64,.bool,.int .i64,.int .u64],.box 4 120 [.int .i64,.bool,.int .i64,.int .u64,.int .u64,.bool]],fun k x=>prod_Exact.j1 k x.1 x.2.1.2.1 x.2.1.2.2.1 x.2.1.2.2.2 x.2.2.1.2.1 x.2.2.1.2.2.1 x.2.2.1.2.2.2⟩]
theorem prod_Exact.w0 (k:Nat) (x:ET [.sc 29 (.bool),.box 2 137 [.int .i64,.bool,.int .i64,.int .u64],.box 3 137 [.int .i64,.bool,.int .i64,.int .u64],.box 4 120 [.int .i64,.bool,.int .i64,.int .u64,.int .u64,.bool]]):walk E136 (prod_Exact.G k) (cutsAt E136 k prod_Exact.cuts) (retE E136 Tryz.f136.results.toList S136) 4000 true (stackAt B136 [1,4,0,1,1]) (mkE [.sc 29 (.bool),.box 2 137 [.int .i64,.bool,.int .i64,.int .u64],.box 3 137 [.int .i64,.bool,.int .i64,.int .u64],.box 4 120 [.int .i64,.bool,.int .i64,.int .u64,.int .u64,.bool]] x St.nil)=prod_Exact.j0 (k+1) x.1 x.2.1.1 x.2.1.2.1 x.2.1.2.2.1 x.2.1.2.2.2 x.2.2.1.1 x.2.2.1.2.1 x.2.2.1.2.2.1 x.2.2.1.2.2.2:=by kernel_rfl
theorem prod_Exact.w1 (k:Nat) (x:ET [.sc 37 (.bool),.box 2 137 [.int .i64,.bool,.int .i64,.int .u64],.box 3 137 [.int .i64,.bool,.int .i64,.int .u64],.box 4 120 [.int .i64,.bool,.int .i64,.int .u64,.int .u64,.bool]]):walk E136 (prod_Exact.G k) (cutsAt E136 k prod_Exact.cuts) (retE E136 Tryz.f136.results.toList S136) 4000 true (stackAt B136 [1,3,1,4,0,1,1]) (mkE [.sc 37 (.bool),.box 2 137 [.int .i64,.bool,.int .i64,.int .u64],.box 3 137 [.int .i64,.bool,.int .i64,.int .u64],.box 4 120 [.int .i64,.bool,.int .i64,.int .u64,.int .u64,.bool]] x St.nil)=prod_Exact.j1 (k+1) x.1 x.2.1.2.1 x.2.1.2.2.1 x.2.1.2.2.2 x.2.2.1.2.1 x.2.2.1.2.2.1 x.2.2.1.2.2.2:=by kernel_rfl
theorem prod_Exact.w (k:Nat) (x:TT S136.sa):walk E136 (prod_Exact.G k) (cutsAt E136 k prod_Exact.cuts) (retE E136 Tryz.f136.results.toList S136) 4000 true [([],.code B136)] (St0 S136 x)=prod_Exact.f k x.1 x.2.1 x.2.2.1 x.2.2.2.1 x.2.2.2.2.1 x.2.2.2.2.2.1 x.2.2.2.2.2.2.1 x.2.2.2.2.2.2.2:=by kernel_rfl
theorem prod_Exact.ok (k:Nat):FnOk Tryz.prog E136.eT 136 (prod_Exact.c k):=FnOk.walk (E:=E136) (body:=B136) Tryz.func136 rfl (by rfl) Tryz.ntmps136 rfl S136 rfl (fun k x=>prod_Exact.f k x.1 x.2.1 x.2.2.1 x.2.2.2.1 x.2.2.2.2.1 x.2.2.2.2.2.1 x.2.2.2.2.2.2.1 x.2.2.2.2.2.2.2) prod_Exact.G (fun k=>⟨round_Make.ok k,round_Of.ok k,twin_Mul.ok,trivial⟩) 4000 prod_Exact.cuts ⟨⟨fun _=>rfl,fun k x q h=>(prod_Exact.w0 k x).trans h⟩,⟨fun _=>rfl,fun k x q h=>(prod_Exact.w1 k x).trans h⟩,trivial⟩ (fun k x r h=>(prod_Exact.w k x).trans h) k
def E94:En:=⟨Tryz.prog,76,Tryz.f94.ntmps,none,false,[]⟩
def S94:Sig:=⟨[.s,.s,.s],[(.int .i64),(.int .u64),(.int .u64)],true,[.g 6,.s],[(.int .i64),.bool,(.int .i64),(.int .u64),(.int .u64),.bool,.err],false⟩
def B94:Go.Code:=Tryz.f94.body.get!
def fuse_product.f (k:Nat) (a0:Int) (a1:Int) (a2:Int):Option (Int×Bool×Int×Int×Int×Bool×Option Int):=(codec_Decode.f k a0 a1).bind fun t100=>(if t100.2.2.2.2.isNone=true then ((codec_Decode.f k a0 a2).bind fun t101=>((prod_Exact.f k t100.1 t100.2.1 t100.2.2.1 t100.2.2.2.1 t101.1 t101.2.1 t101.2.2.1 t101.2.2.2.1).bind fun t102=>(some (t102.1,t102.2.1,t102.2.2.1,t102.2.2.2.1,t102.2.2.2.2.1,t102.2.2.2.2.2.1,t102.2.2.2.2.2.2)))) else (some (0,false,0,0,0,false,some (t100.2.2.2.2.getD 0))))
--@ok
def fuse_product.c (k:Nat):Con:=S94.con fun x=>fuse_product.f k x.1 x.2.1 x.2.2
def fuse_product.G (k:Nat):List (Go.FuncId×Cn):=[(95,.f (codec_Decode.c k)),(136,.f (prod_Exact.c k))]
def fuse_product.cuts:List (Cut (TT S94.sb)):=[]
theorem fuse_product.w (k:Nat) (x:TT S94.sa):walk E94 (fuse_product.G k) (cutsAt E94 k fuse_product.cuts) (retE E94 Tryz.f94.results.toList S94) 4000 true [([],.code B94)] (St0 S94 x)=fuse_product.f k x.1 x.2.1 x.2.2:=by kernel_rfl
theorem fuse_product.ok (k:Nat):FnOk Tryz.prog E94.eT 94 (fuse_product.c k):=FnOk.walk (E:=E94) (body:=B94) Tryz.func94 rfl (by rfl) Tryz.ntmps94 rfl S94 rfl (fun k x=>fuse_product.f k x.1 x.2.1 x.2.2) fuse_product.G (fun k=>⟨codec_Decode.ok k,prod_Exact.ok k,trivial⟩) 4000 fuse_product.cuts trivial (fun k x r h=>(fuse_product.w k x).trans h) k
def E140:En:=⟨Tryz.prog,76,Tryz.f140.ntmps,none,false,[]⟩
def S140:Sig:=⟨[.g 4,.s],[(.int .u64),(.int .u64),(.int .u64),(.int .u64),(.int .i64)],true,[.g 4,.s],[(.int .u64),(.int .u64),(.int .u64),(.int .u64),.bool],false⟩
def B140:Go.Code:=Tryz.f140.body.get!
def broad_wide_under.l0:Nat→Int→Bool→Int→Int→Int→Int→Option (Int×Int×Int×Int×Bool)
 | 0,_,_,_,_,_,_=>none
 | k+1,x1,x6,x2000,x2001,x2002,x2003=>if x1≥64 then (if x6=true then (broad_wide_under.l0 k (wrap64 (x1 - 64)) true 0 x2000 x2001 x2002) else (broad_wide_under.l0 k (wrap64 (x1 - 64)) (x2003 != 0) 0 x2000 x2001 x2002)) else (if x1=0 then (some (x2000,x2001,x2002,x2003,x6)) else (if x6=true then (if 0≤x1 then (if 0≤(wrap64 (64 - x1)) then (some (shr .u64 x2000 x1,Go.bits .or .u64 (shr .u64 x2001 x1) (shl .u64 x2000 (wrap64 (64 - x1))),Go.bits .or .u64 (shr .u64 x2002 x1) (shl .u64 x2001 (wrap64 (64 - x1))),Go.bits .or .u64 (shr .u64 x2003 x1) (shl .u64 x2002 (wrap64 (64 - x1))),true)) else (none)) else (none)) else (if 0≤(wrap64 (64 - x1)) then (if 0≤x1 then (some (shr .u64 x2000 x1,Go.bits .or .u64 (shr .u64 x2001 x1) (shl .u64 x2000 (wrap64 (64 - x1))),Go.bits .or .u64 (shr .u64 x2002 x1) (shl .u64 x2001 (wrap64 (64 - x1))),Go.bits .or .u64 (shr .u64 x2003 x1) (shl .u64 x2002 (wrap64 (64 - x1))),(shl .u64 x2003 (wrap64 (64 - x1))) != 0)) else (none)) else (none))))
def broad_wide_under.f (k:Nat) (a0_0:Int) (a0_1:Int) (a0_2:Int) (a0_3:Int) (a1:Int):Option (Int×Int×Int×Int×Bool):=if a1≥256 then (some (0,0,0,0, !((a0_0==0)&&((a0_1==0)&&((a0_2==0)&&(a0_3==0)))))) else (broad_wide_under.l0 k a1 false a0_0 a0_1 a0_2 a0_3)
--@ok
def broad_wide_under.l0R (k:Nat) (x1:Int) (x6:Bool) (x2000:Int) (x2001:Int) (x2002:Int) (x2003:Int):Option (Int×Int×Int×Int×Bool):=if x1≥64 then (if x6=true then (broad_wide_under.l0 k (wrap64 (x1 - 64)) true 0 x2000 x2001 x2002) else (broad_wide_under.l0 k (wrap64 (x1 - 64)) (x2003 != 0) 0 x2000 x2001 x2002)) else (if x1=0 then (some (x2000,x2001,x2002,x2003,x6)) else (if x6=true then (if 0≤x1 then (if 0≤x1 then (if 0≤(wrap64 (64 - x1)) then (if 0≤x1 then (if 0≤(wrap64 (64 - x1)) then (if 0≤x1 then (if 0≤(wrap64 (64 - x1)) then (some (shr .u64 x2000 x1,Go.bits .or .u64 (shr .u64 x2001 x1) (shl .u64 x2000 (wrap64 (64 - x1))),Go.bits .or .u64 (shr .u64 x2002 x1) (shl .u64 x2001 (wrap64 (64 - x1))),Go.bits .or .u64 (shr .u64 x2003 x1) (shl .u64 x2002 (wrap64 (64 - x1))),true)) else (none)) else (none)) else (none)) else (none)) else (none)) else (none)) else (none)) else (if 0≤(wrap64 (64 - x1)) then (if 0≤x1 then (if 0≤x1 then (if 0≤(wrap64 (64 - x1)) then (if 0≤x1 then (if 0≤(wrap64 (64 - x1)) then (if 0≤x1 then (if 0≤(wrap64 (64 - x1)) then (some (shr .u64 x2000 x1,Go.bits .or .u64 (shr .u64 x2001 x1) (shl .u64 x2000 (wrap64 (64 - x1))),Go.bits .or .u64 (shr .u64 x2002 x1) (shl .u64 x2001 (wrap64 (64 - x1))),Go.bits .or .u64 (shr .u64 x2003 x1) (shl .u64 x2002 (wrap64 (64 - x1))),(shl .u64 x2003 (wrap64 (64 - x1))) != 0)) else (none)) else (none)) else (none)) else (none)) else (none)) else (none)) else (none)) else (none))))
theorem broad_wide_under.l0E (k:Nat) (x1:Int) (x6:Bool) (x2000:Int) (x2001:Int) (x2002:Int) (x2003:Int):broad_wide_under.l0R k x1 x6 x2000 x2001 x2002 x2003=broad_wide_under.l0 (k+1) x1 x6 x2000 x2001 x2002 x2003:=by
  unfold broad_wide_under.l0R
  rw [broad_wide_under.l0]
  exact iteC (fun h0=>iteC (fun h1=>rfl) (fun h1=>rfl)) (fun h0=>iteC (fun h1=>rfl) (fun h1=>iteC (fun h2=>iteC (fun h3=>(if_pos h3).trans (iteC (fun h4=>(if_pos h3).trans ((if_pos h4).trans ((if_pos h3).trans ((if_pos h4).trans (rfl))))) (fun h4=>rfl))) (fun h3=>rfl)) (fun h2=>iteC (fun h3=>iteC (fun h4=>(if_pos h4).trans ((if_pos h3).trans ((if_pos h4).trans ((if_pos h3).trans ((if_pos h4).trans ((if_pos h3).trans (rfl))))))) (fun h4=>rfl)) (fun h3=>rfl))))
def broad_wide_under.c (k:Nat):Con:=S140.con fun x=>broad_wide_under.f k x.1 x.2.1 x.2.2.1 x.2.2.2.1 x.2.2.2.2
def broad_wide_under.G (k:Nat):List (Go.FuncId×Cn):=[]
def broad_wide_under.cuts:List (Cut (TT S140.sb)):=[⟨[6,4,0,1,1,1],[.sc 1 (.int .i64),.sc 6 (.bool),.box 2 180 [.int .u64,.int .u64,.int .u64,.int .u64],.box 4 180 [.int .u64,.int .u64,.int .u64,.int .u64]],fun k x=>broad_wide_under.l0 k x.1 x.2.1 x.2.2.1.1 x.2.2.1.2.1 x.2.2.1.2.2.1 x.2.2.1.2.2.2⟩]
theorem broad_wide_under.w0 (k:Nat) (x:ET [.sc 1 (.int .i64),.sc 6 (.bool),.box 2 180 [.int .u64,.int .u64,.int .u64,.int .u64],.box 4 180 [.int .u64,.int .u64,.int .u64,.int .u64]]):walk E140 (broad_wide_under.G k) (cutsAt E140 k broad_wide_under.cuts) (retE E140 Tryz.f140.results.toList S140) 4000 true (stackAt B140 [6,4,0,1,1,1]) (mkE [.sc 1 (.int .i64),.sc 6 (.bool),.box 2 180 [.int .u64,.int .u64,.int .u64,.int .u64],.box 4 180 [.int .u64,.int .u64,.int .u64,.int .u64]] x St.nil)=broad_wide_under.l0 (k+1) x.1 x.2.1 x.2.2.1.1 x.2.2.1.2.1 x.2.2.1.2.2.1 x.2.2.1.2.2.2:=Eq.trans (b:=broad_wide_under.l0R k x.1 x.2.1 x.2.2.1.1 x.2.2.1.2.1 x.2.2.1.2.2.1 x.2.2.1.2.2.2) (by kernel_rfl) (broad_wide_under.l0E k x.1 x.2.1 x.2.2.1.1 x.2.2.1.2.1 x.2.2.1.2.2.1 x.2.2.1.2.2.2)
theorem broad_wide_under.w (k:Nat) (x:TT S140.sa):walk E140 (broad_wide_under.G k) (cutsAt E140 k broad_wide_under.cuts) (retE E140 Tryz.f140.results.toList S140) 4000 true [([],.code B140)] (St0 S140 x)=broad_wide_under.f k x.1 x.2.1 x.2.2.1 x.2.2.2.1 x.2.2.2.2:=by kernel_rfl
theorem broad_wide_under.ok (k:Nat):FnOk Tryz.prog E140.eT 140 (broad_wide_under.c k):=FnOk.walk (E:=E140) (body:=B140) Tryz.func140 rfl (by rfl) Tryz.ntmps140 rfl S140 rfl (fun k x=>broad_wide_under.f k x.1 x.2.1 x.2.2.1 x.2.2.2.1 x.2.2.2.2) broad_wide_under.G (fun k=>trivial) 4000 broad_wide_under.cuts ⟨⟨fun _=>rfl,fun k x q h=>(broad_wide_under.w0 k x).trans h⟩,trivial⟩ (fun k x r h=>(broad_wide_under.w k x).trans h) k
end Go.Proofs.YtbpcfhhcoklinaaGreat.Fn
set_option maxRecDepth 100000
noncomputable section
namespace Go.Proofs.YtbpcfhhcoklinaaGreat.Fn
open Go Go.RowKit Go.Proofs.YtbpcfhhcoklinaaGreat.Ab
def S153:Sig:=⟨[.s,.s,.s],[(.int .u64),(.int .u64),(.int .u64)],true,[.s,.s],[(.int .u64),(.int .u64)],false⟩
def bits_Add64.f (a0:Int) (a1:Int) (a2:Int):Option (Int×Int):=@ite _ (0≤a0∧a0 < 18446744073709551616∧0≤a1∧a1 < 18446744073709551616∧0≤a2∧a2≤1) (Classical.propDecidable _) (some ((a0+a1+a2)%18446744073709551616,(a0+a1+a2) / 18446744073709551616)) none
--@ok
def bits_Add64.c:Con:=S153.con fun x=>bits_Add64.f x.1 x.2.1 x.2.2
theorem bits_Add64.ok:FnOk Tryz.prog 76 153 bits_Add64.c:=by
  intro x r w ok vs hF hv
  obtain ⟨a,b,c⟩:=x
  have hF':bits_Add64.f a b c=some r:=hF
  unfold bits_Add64.f at hF'
  split at hF'
  · rename_i hx
    injection hF' with hF'
    subst hF'
    obtain ⟨l⟩:=vs
    match l,hv with
    | [v1,v2,v3],h =>
      obtain ⟨⟨rfl, -⟩,⟨rfl, -⟩,⟨rfl, -⟩, -⟩:=h
      refine .inr ⟨_,w,CarryX.add64 a b c hx.1 hx.2.1 hx.2.2.1 hx.2.2.2.1 hx.2.2.2.2.1 hx.2.2.2.2.2 w,⟨_,rfl,_,rfl,⟨rfl, ?_,by simp,by simp⟩,⟨rfl, ?_,by simp,by simp⟩,trivial⟩,.refl _ _⟩
      · constructor <;> simp only [kLo,kHi] <;> omega
      · constructor <;> simp only [kLo,kHi] <;> omega
    | [],h=>exact h.elim
    | [_],h=>exact h.2.elim
    | [_,_],h=>exact h.2.2.elim
    | _ :: _ :: _ :: _ :: _,h=>exact h.2.2.2.elim
  · cases hF'
def E141:En:=⟨Tryz.prog,76,Tryz.f141.ntmps,none,false,[]⟩
def S141:Sig:=⟨[.g 4,.g 4],[(.int .u64),(.int .u64),(.int .u64),(.int .u64),(.int .u64),(.int .u64),(.int .u64),(.int .u64)],true,[.g 4,.s],[(.int .u64),(.int .u64),(.int .u64),(.int .u64),(.int .u64)],false⟩
def B141:Go.Code:=Tryz.f141.body.get!
def broad_wide_plus.f (a0_0:Int) (a0_1:Int) (a0_2:Int) (a0_3:Int) (a1_0:Int) (a1_1:Int) (a1_2:Int) (a1_3:Int):Option (Int×Int×Int×Int×Int):=(bits_Add64.f a0_3 a1_3 0).bind fun t100=>((bits_Add64.f a0_2 a1_2 t100.2).bind fun t101=>((bits_Add64.f a0_1 a1_1 t101.2).bind fun t102=>((bits_Add64.f a0_0 a1_0 t102.2).bind fun t103=>(some (t103.1,t102.1,t101.1,t100.1,t103.2)))))
--@ok
def broad_wide_plus.c:Con:=S141.con fun x=>broad_wide_plus.f x.1 x.2.1 x.2.2.1 x.2.2.2.1 x.2.2.2.2.1 x.2.2.2.2.2.1 x.2.2.2.2.2.2.1 x.2.2.2.2.2.2.2
def broad_wide_plus.G (k:Nat):List (Go.FuncId×Cn):=[(153,.f bits_Add64.c)]
def broad_wide_plus.cuts:List (Cut (TT S141.sb)):=[]
theorem broad_wide_plus.w (k:Nat) (x:TT S141.sa):walk E141 (broad_wide_plus.G k) (cutsAt E141 k broad_wide_plus.cuts) (retE E141 Tryz.f141.results.toList S141) 4000 true [([],.code B141)] (St0 S141 x)=broad_wide_plus.f x.1 x.2.1 x.2.2.1 x.2.2.2.1 x.2.2.2.2.1 x.2.2.2.2.2.1 x.2.2.2.2.2.2.1 x.2.2.2.2.2.2.2:=by kernel_rfl
theorem broad_wide_plus.ok:FnOk Tryz.prog E141.eT 141 (broad_wide_plus.c):=FnOk.walk (E:=E141) (body:=B141) Tryz.func141 rfl (by rfl) Tryz.ntmps141 rfl S141 rfl (fun k x=>broad_wide_plus.f x.1 x.2.1 x.2.2.1 x.2.2.2.1 x.2.2.2.2.1 x.2.2.2.2.2.1 x.2.2.2.2.2.2.1 x.2.2.2.2.2.2.2) broad_wide_plus.G (fun k=>⟨bits_Add64.ok,trivial⟩) 4000 broad_wide_plus.cuts trivial (fun k x r h=>(broad_wide_plus.w k x).trans h) 0
def S189:Sig:=⟨[.s,.s,.s],[(.int .u64),(.int .u64),(.int .u64)],true,[.s,.s],[(.int .u64),(.int .u64)],false⟩
def bits_Sub64.f (a0:Int) (a1:Int) (a2:Int):Option (Int×Int):=@ite _ (0≤a0∧0≤a1∧a1 < 18446744073709551616∧0≤a2∧a2≤1) (Classical.propDecidable _) (some ((a0 - a1 - a2)%18446744073709551616,if a0 < a1+a2 then 1 else 0)) none
--@ok
def bits_Sub64.c:Con:=S189.con fun x=>bits_Sub64.f x.1 x.2.1 x.2.2
theorem bits_Sub64.ok:FnOk Tryz.prog 76 189 bits_Sub64.c:=by
  intro x r w ok vs hF hv
  have hF':bits_Sub64.f x.1 x.2.1 x.2.2=some r:=hF
  obtain ⟨a,b,c⟩:=x
  unfold bits_Sub64.f at hF'
  split at hF'
  · rename_i hx
    injection hF' with hF'
    subst hF'
    obtain ⟨l⟩:=vs
    match l,hv with
    | [v1,v2,v3],h =>
      obtain ⟨⟨rfl, -⟩,⟨rfl, -⟩,⟨rfl, -⟩, -⟩:=h
      refine .inr ⟨_,w,CarryX.sub64 a b c hx.1 hx.2.1 hx.2.2.1 hx.2.2.2.1 hx.2.2.2.2 w,⟨_,rfl,_,rfl,⟨rfl, ?_,by simp,by simp⟩,⟨rfl, ?_,by simp,by simp⟩,trivial⟩,.refl _ _⟩
      · constructor <;> simp only [kLo,kHi] <;> omega
      · constructor <;> simp only [kLo,kHi] <;> split <;> omega
    | [],h=>exact h.elim
    | [_],h=>exact h.2.elim
    | [_,_],h=>exact h.2.2.elim
    | _ :: _ :: _ :: _ :: _,h=>exact h.2.2.2.elim
  · cases hF'
def E142:En:=⟨Tryz.prog,76,Tryz.f142.ntmps,none,false,[]⟩
def S142:Sig:=⟨[.g 4,.g 4,.s],[(.int .u64),(.int .u64),(.int .u64),(.int .u64),(.int .u64),(.int .u64),(.int .u64),(.int .u64),(.int .u64)],true,[.g 4,.s],[(.int .u64),(.int .u64),(.int .u64),(.int .u64),(.int .u64)],false⟩
def B142:Go.Code:=Tryz.f142.body.get!
def broad_wide_less.f (a0_0:Int) (a0_1:Int) (a0_2:Int) (a0_3:Int) (a1_0:Int) (a1_1:Int) (a1_2:Int) (a1_3:Int) (a2:Int):Option (Int×Int×Int×Int×Int):=(bits_Sub64.f a0_3 a1_3 a2).bind fun t100=>((bits_Sub64.f a0_2 a1_2 t100.2).bind fun t101=>((bits_Sub64.f a0_1 a1_1 t101.2).bind fun t102=>((bits_Sub64.f a0_0 a1_0 t102.2).bind fun t103=>(some (t103.1,t102.1,t101.1,t100.1,t103.2)))))
--@ok
def broad_wide_less.c:Con:=S142.con fun x=>broad_wide_less.f x.1 x.2.1 x.2.2.1 x.2.2.2.1 x.2.2.2.2.1 x.2.2.2.2.2.1 x.2.2.2.2.2.2.1 x.2.2.2.2.2.2.2.1 x.2.2.2.2.2.2.2.2
def broad_wide_less.G (k:Nat):List (Go.FuncId×Cn):=[(189,.f bits_Sub64.c)]
def broad_wide_less.cuts:List (Cut (TT S142.sb)):=[]
theorem broad_wide_less.w (k:Nat) (x:TT S142.sa):walk E142 (broad_wide_less.G k) (cutsAt E142 k broad_wide_less.cuts) (retE E142 Tryz.f142.results.toList S142) 4000 true [([],.code B142)] (St0 S142 x)=broad_wide_less.f x.1 x.2.1 x.2.2.1 x.2.2.2.1 x.2.2.2.2.1 x.2.2.2.2.2.1 x.2.2.2.2.2.2.1 x.2.2.2.2.2.2.2.1 x.2.2.2.2.2.2.2.2:=by kernel_rfl
theorem broad_wide_less.ok:FnOk Tryz.prog E142.eT 142 (broad_wide_less.c):=FnOk.walk (E:=E142) (body:=B142) Tryz.func142 rfl (by rfl) Tryz.ntmps142 rfl S142 rfl (fun k x=>broad_wide_less.f x.1 x.2.1 x.2.2.1 x.2.2.2.1 x.2.2.2.2.1 x.2.2.2.2.2.1 x.2.2.2.2.2.2.1 x.2.2.2.2.2.2.2.1 x.2.2.2.2.2.2.2.2) broad_wide_less.G (fun k=>⟨bits_Sub64.ok,trivial⟩) 4000 broad_wide_less.cuts trivial (fun k x r h=>(broad_wide_less.w k x).trans h) 0
def E143:En:=⟨Tryz.prog,76,Tryz.f143.ntmps,none,false,[]⟩
def S143:Sig:=⟨[.g 4],[(.int .u64),(.int .u64),(.int .u64),(.int .u64)],true,[.g 4,.s],[(.int .u64),(.int .u64),(.int .u64),(.int .u64),(.int .i64)],false⟩
def B143:Go.Code:=Tryz.f143.body.get!
def broad_wide_raised.l0:Nat→Int→Int→Int→Int→Int→Option (Int×Int×Int×Int×Int)
 | 0,_,_,_,_,_=>none
 | k+1,x4,x1000,x1001,x1002,x1003=>if x1000=0 then (broad_wide_raised.l0 k (wrap64 (x4+64)) x1001 x1002 x1003 0) else ((bits_LeadingZeros64.f x1000).bind fun t100=>(if t100=0 then (some (x1000,x1001,x1002,x1003,x4)) else (if 0≤t100 then (if 0≤(wrap64 (64 - t100)) then (some (Go.bits .or .u64 (shl .u64 x1000 t100) (shr .u64 x1001 (wrap64 (64 - t100))),Go.bits .or .u64 (shl .u64 x1001 t100) (shr .u64 x1002 (wrap64 (64 - t100))),Go.bits .or .u64 (shl .u64 x1002 t100) (shr .u64 x1003 (wrap64 (64 - t100))),shl .u64 x1003 t100,wrap64 (x4+t100))) else (none)) else (none))))
def broad_wide_raised.f (k:Nat) (a0_0:Int) (a0_1:Int) (a0_2:Int) (a0_3:Int):Option (Int×Int×Int×Int×Int):=broad_wide_raised.l0 k 0 a0_0 a0_1 a0_2 a0_3
--@ok
def broad_wide_raised.l0R (k:Nat) (x4:Int) (x1000:Int) (x1001:Int) (x1002:Int) (x1003:Int):Option (Int×Int×Int×Int×Int):=if x1000=0 then (broad_wide_raised.l0 k (wrap64 (x4+64)) x1001 x1002 x1003 0) else ((bits_LeadingZeros64.f x1000).bind fun t100=>(if t100=0 then (some (x1000,x1001,x1002,x1003,x4)) else (if 0≤t100 then (if 0≤(wrap64 (64 - t100)) then (if 0≤t100 then (if 0≤(wrap64 (64 - t100)) then (if 0≤t100 then (if 0≤(wrap64 (64 - t100)) then (if 0≤t100 then (some (Go.bits .or .u64 (shl .u64 x1000 t100) (shr .u64 x1001 (wrap64 (64 - t100))),Go.bits .or .u64 (shl .u64 x1001 t100) (shr .u64 x1002 (wrap64 (64 - t100))),Go.bits .or .u64 (shl .u64 x1002 t100) (shr .u64 x1003 (wrap64 (64 - t100))),shl .u64 x1003 t100,wrap64 (x4+t100))) else (none)) else (none)) else (none)) else (none)) else (none)) else (none)) else (none))))
theorem broad_wide_raised.l0E (k:Nat) (x4:Int) (x1000:Int) (x1001:Int) (x1002:Int) (x1003:Int):broad_wide_raised.l0R k x4 x1000 x1001 x1002 x1003=broad_wide_raised.l0 (k+1) x4 x1000 x1001 x1002 x1003:=by
  unfold broad_wide_raised.l0R
  rw [broad_wide_raised.l0]
  exact iteC (fun h0=>rfl) (fun h0=>bindC fun _=>iteC (fun h1=>rfl) (fun h1=>iteC (fun h2=>iteC (fun h3=>(if_pos h2).trans ((if_pos h3).trans ((if_pos h2).trans ((if_pos h3).trans ((if_pos h2).trans (rfl)))))) (fun h3=>rfl)) (fun h2=>rfl)))
def broad_wide_raised.c (k:Nat):Con:=S143.con fun x=>broad_wide_raised.f k x.1 x.2.1 x.2.2.1 x.2.2.2
def broad_wide_raised.G (k:Nat):List (Go.FuncId×Cn):=[(72,.f bits_LeadingZeros64.c)]
def broad_wide_raised.cuts:List (Cut (TT S143.sb)):=[⟨[6,4,0,1,1],[.sc 4 (.int .i64),.box 1 180 [.int .u64,.int .u64,.int .u64,.int .u64],.box 2 180 [.int .u64,.int .u64,.int .u64,.int .u64]],fun k x=>broad_wide_raised.l0 k x.1 x.2.1.1 x.2.1.2.1 x.2.1.2.2.1 x.2.1.2.2.2⟩]
theorem broad_wide_raised.w0 (k:Nat) (x:ET [.sc 4 (.int .i64),.box 1 180 [.int .u64,.int .u64,.int .u64,.int .u64],.box 2 180 [.int .u64,.int .u64,.int .u64,.int .u64]]):walk E143 (broad_wide_raised.G k) (cutsAt E143 k broad_wide_raised.cuts) (retE E143 Tryz.f143.results.toList S143) 4000 true (stackAt B143 [6,4,0,1,1]) (mkE [.sc 4 (.int .i64),.box 1 180 [.int .u64,.int .u64,.int .u64,.int .u64],.box 2 180 [.int .u64,.int .u64,.int .u64,.int .u64]] x St.nil)=broad_wide_raised.l0 (k+1) x.1 x.2.1.1 x.2.1.2.1 x.2.1.2.2.1 x.2.1.2.2.2:=Eq.trans (b:=broad_wide_raised.l0R k x.1 x.2.1.1 x.2.1.2.1 x.2.1.2.2.1 x.2.1.2.2.2) (by kernel_rfl) (broad_wide_raised.l0E k x.1 x.2.1.1 x.2.1.2.1 x.2.1.2.2.1 x.2.1.2.2.2)
theorem broad_wide_raised.w (k:Nat) (x:TT S143.sa):walk E143 (broad_wide_raised.G k) (cutsAt E143 k broad_wide_raised.cuts) (retE E143 Tryz.f143.results.toList S143) 4000 true [([],.code B143)] (St0 S143 x)=broad_wide_raised.f k x.1 x.2.1 x.2.2.1 x.2.2.2:=by kernel_rfl
theorem broad_wide_raised.ok (k:Nat):FnOk Tryz.prog E143.eT 143 (broad_wide_raised.c k):=FnOk.walk (E:=E143) (body:=B143) Tryz.func143 rfl (by rfl) Tryz.ntmps143 rfl S143 rfl (fun k x=>broad_wide_raised.f k x.1 x.2.1 x.2.2.1 x.2.2.2) broad_wide_raised.G (fun k=>⟨bits_LeadingZeros64.ok,trivial⟩) 4000 broad_wide_raised.cuts ⟨⟨fun _=>rfl,fun k x q h=>(broad_wide_raised.w0 k x).trans h⟩,trivial⟩ (fun k x r h=>(broad_wide_raised.w k x).trans h) k
def E97:En:=⟨Tryz.prog,76,Tryz.f97.ntmps,none,false,[]⟩
def S97:Sig:=⟨[.g 6,.g 6],[(.int .i64),.bool,(.int .i64),(.int .u64),(.int .u64),.bool,(.int .i64),.bool,(.int .i64),(.int .u64),(.int .u64),.bool],false,[.g 6],[(.int .i64),.bool,(.int .i64),(.int .u64),(.int .u64),.bool],false⟩
def B97:Go.Code:=Tryz.f97.body.get!
mutual
def broad_Sum.j0:Nat→Bool→Int→Bool→Int→Int→Int→Bool→Int→Bool→Int→Int→Int→Bool→Option (Int×Bool×Int×Int×Int×Bool)
 | 0,_,_,_,_,_,_,_,_,_,_,_,_,_=>none
 | k+1,x17,x2000,x2001,x2002,x2003,x2004,x2005,x3000,x3001,x3002,x3003,x3004,x3005=>if x17=true then (some (2,false,0,0,0,false)) else (if x2000=0 then (some (x3000,x3001,x3002,x3003,x3004,x3005)) else (if x3000=0 then (some (x2000,x2001,x2002,x2003,x2004,x2005)) else (if x2002 < x3002 then (broad_Sum.j1 k x3001 x3002 x3003 x3004 x2001 x2002 x2003 x2004) else (broad_Sum.j1 k x2001 x2002 x2003 x2004 x3001 x3002 x3003 x3004))))
def broad_Sum.j1:Nat→Bool→Int→Int→Int→Bool→Int→Int→Int→Option (Int×Bool×Int×Int×Int×Bool)
 | 0,_,_,_,_,_,_,_,_=>none
 | k+1,x2001,x2002,x2003,x2004,x3001,x3002,x3003,x3004=>(broad_wide_under.f k x3003 x3004 0 0 (wrap64 (x2002 - x3002))).bind fun t100=>(if (x2001==x3001)=true then ((broad_wide_plus.f x2003 x2004 0 0 t100.1 t100.2.1 t100.2.2.1 t100.2.2.2.1).bind fun t101=>(if t101.2.2.2.2=1 then ((broad_wide_under.f k t101.1 t101.2.1 t101.2.2.1 t101.2.2.2.1 1).bind fun t102=>(if t100.2.2.2.2=true then (some (1,x2001,mx (-1099511627776) (mn (wrap64 (x2002+1)) 1099511627776),Go.bits .or .u64 t102.1 9223372036854775808,t102.2.1,true)) else (if (Go.bits .and .u64 t101.2.2.2.1 1)=1 then (some (1,x2001,mx (-1099511627776) (mn (wrap64 (x2002+1)) 1099511627776),Go.bits .or .u64 t102.1 9223372036854775808,t102.2.1,true)) else (if t102.2.2.1=0 then (some (1,x2001,mx (-1099511627776) (mn (wrap64 (x2002+1)) 1099511627776),Go.bits .or .u64 t102.1 9223372036854775808,t102.2.1,t102.2.2.2.1 != 0)) else (some (1,x2001,mx (-1099511627776) (mn (wrap64 (x2002+1)) 1099511627776),Go.bits .or .u64 t102.1 9223372036854775808,t102.2.1,true)))))) else (if t100.2.2.2.2=true then (some (1,x2001,mx (-1099511627776) (mn x2002 1099511627776),t101.1,t101.2.1,true)) else (if t101.2.2.1=0 then (some (1,x2001,mx (-1099511627776) (mn x2002 1099511627776),t101.1,t101.2.1,t101.2.2.2.1 != 0)) else (some (1,x2001,mx (-1099511627776) (mn x2002 1099511627776),t101.1,t101.2.1,true)))))) else (if t100.2.2.2.2=true then (broad_Sum.j2 k t100.2.2.2.2 1 x3001 x2003 x2004 0 0 t100.1 t100.2.1 t100.2.2.1 t100.2.2.2.1 1 x2001 x2002) else (broad_Sum.j2 k t100.2.2.2.2 0 x3001 x2003 x2004 0 0 t100.1 t100.2.1 t100.2.2.1 t100.2.2.2.1 1 x2001 x2002)))
def broad_Sum.j2:Nat→Bool→Int→Bool→Int→Int→Int→Int→Int→Int→Int→Int→Int→Bool→Int→Option (Int×Bool×Int×Int×Int×Bool)
 | 0,_,_,_,_,_,_,_,_,_,_,_,_,_,_=>none
 | k+1,x7,x13,x3001,x5000,x5001,x5002,x5003,x6000,x6001,x6002,x6003,x8000,x8001,x8002=>(broad_wide_less.f x5000 x5001 x5002 x5003 x6000 x6001 x6002 x6003 x13).bind fun t103=>(if t103.2.2.2.2=1 then ((broad_wide_less.f x6000 x6001 x6002 x6003 x5000 x5001 x5002 x5003 0).bind fun t104=>(if ((t104.1==0)&&((t104.2.1==0)&&((t104.2.2.1==0)&&(t104.2.2.2.1==0))))=true then (some (0,false,0,0,0,false)) else ((broad_wide_raised.f k t104.1 t104.2.1 t104.2.2.1 t104.2.2.2.1).bind fun t105=>(if x7=true then (some (x8000,x3001,mx (-1099511627776) (mn (wrap64 (x8002 - t105.2.2.2.2)) 1099511627776),t105.1,t105.2.1,true)) else (if t105.2.2.1=0 then (some (x8000,x3001,mx (-1099511627776) (mn (wrap64 (x8002 - t105.2.2.2.2)) 1099511627776),t105.1,t105.2.1,t105.2.2.2.1 != 0)) else (some (x8000,x3001,mx (-1099511627776) (mn (wrap64 (x8002 - t105.2.2.2.2)) 1099511627776),t105.1,t105.2.1,true))))))) else (if ((t103.1==0)&&((t103.2.1==0)&&((t103.2.2.1==0)&&(t103.2.2.2.1==0))))=true then (some (0,false,0,0,0,false)) else ((broad_wide_raised.f k t103.1 t103.2.1 t103.2.2.1 t103.2.2.2.1).bind fun t106=>(if x7=true then (some (x8000,x8001,mx (-1099511627776) (mn (wrap64 (x8002 - t106.2.2.2.2)) 1099511627776),t106.1,t106.2.1,true)) else (if t106.2.2.1=0 then (some (x8000,x8001,mx (-1099511627776) (mn (wrap64 (x8002 - t106.2.2.2.2)) 1099511627776),t106.1,t106.2.1,t106.2.2.2.1 != 0)) else (some (x8000,x8001,mx (-1099511627776) (mn (wrap64 (x8002 - t106.2.2.2.2)) 1099511627776),t106.1,t106.2.1,true)))))))
end
def broad_Sum.f (k:Nat) (a0_0:Int) (a0_1:Bool) (a0_2:Int) (a0_3:Int) (a0_4:Int) (a0_5:Bool) (a1_0:Int) (a1_1:Bool) (a1_2:Int) (a1_3:Int) (a1_4:Int) (a1_5:Bool):Option (Int×Bool×Int×Int×Int×Bool):=if a0_0=2 then (broad_Sum.j0 k true a0_0 a0_1 a0_2 a0_3 a0_4 a0_5 a1_0 a1_1 a1_2 a1_3 a1_4 a1_5) else (broad_Sum.j0 k (a1_0==2) a0_0 a0_1 a0_2 a0_3 a0_4 a0_5 a1_0 a1_1 a1_2 a1_3 a1_4 a1_5)
--@ok
def broad_Sum.c (k:Nat):Con:=S97.con fun x=>broad_Sum.f k x.1 x.2.1 x.2.2.1 x.2.2.2.1 x.2.2.2.2.1 x.2.2.2.2.2.1 x.2.2.2.2.2.2.1 x.2.2.2.2.2.2.2.1 x.2.2.2.2.2.2.2.2.1 x.2.2.2.2.2.2.2.2.2.1 x.2.2.2.2.2.2.2.2.2.2.1 x.2.2.2.2.2.2.2.2.2.2.2
def broad_Sum.G (k:Nat):List (Go.FuncId×Cn):=[(140,.f (broad_wide_under.c k)),(141,.f broad_wide_plus.c),(142,.f broad_wide_less.c),(143,.f (broad_wide_raised.c k))]
def broad_Sum.cuts:List (Cut (TT S97.sb)):=[⟨[1,4,0,1],[.sc 17 (.bool),.box 2 120 [.int .i64,.bool,.int .i64,.int .u64,.int .u64,.bool],.box 3 120 [.int .i64,.bool,.int .i64,.int .u64,.int .u64,.bool],.box 4 120 [.int .i64,.bool,.int .i64,.int .u64,.int .u64,.bool]],fun k x=>broad_Sum.j0 k x.1 x.2.1.1 x.2.1.2.1 x.2.1.2.2.1 x.2.1.2.2.2.1 x.2.1.2.2.2.2.1 x.2.1.2.2.2.2.2 x.2.2.1.1 x.2.2.1.2.1 x.2.2.1.2.2.1 x.2.2.1.2.2.2.1 x.2.2.1.2.2.2.2.1 x.2.2.1.2.2.2.2.2⟩,⟨[1,1],[.box 2 120 [.int .i64,.bool,.int .i64,.int .u64,.int .u64,.bool],.box 3 120 [.int .i64,.bool,.int .i64,.int .u64,.int .u64,.bool],.box 4 120 [.int .i64,.bool,.int .i64,.int .u64,.int .u64,.bool]],fun k x=>broad_Sum.j1 k x.1.2.1 x.1.2.2.1 x.1.2.2.2.1 x.1.2.2.2.2.1 x.2.1.2.1 x.2.1.2.2.1 x.2.1.2.2.2.1 x.2.1.2.2.2.2.1⟩,⟨[1,1,3,1,0,1,1,1,1,1,1],[.sc 7 (.bool),.sc 13 (.int .u64),.box 3 120 [.int .i64,.bool,.int .i64,.int .u64,.int .u64,.bool],.box 4 120 [.int .i64,.bool,.int .i64,.int .u64,.int .u64,.bool],.box 5 180 [.int .u64,.int .u64,.int .u64,.int .u64],.box 6 180 [.int .u64,.int .u64,.int .u64,.int .u64],.box 8 120 [.int .i64,.bool,.int .i64,.int .u64,.int .u64,.bool],.box 9 180 [.int .u64,.int .u64,.int .u64,.int .u64]],fun k x=>broad_Sum.j2 k x.1 x.2.1 x.2.2.1.2.1 x.2.2.2.2.1.1 x.2.2.2.2.1.2.1 x.2.2.2.2.1.2.2.1 x.2.2.2.2.1.2.2.2 x.2.2.2.2.2.1.1 x.2.2.2.2.2.1.2.1 x.2.2.2.2.2.1.2.2.1 x.2.2.2.2.2.1.2.2.2 x.2.2.2.2.2.2.1.1 x.2.2.2.2.2.2.1.2.1 x.2.2.2.2.2.2.1.2.2.1⟩]
theorem broad_Sum.w0 (k:Nat) (x:ET [.sc 17 (.bool),.box 2 120 [.int .i64,.bool,.int .i64,.int .u64,.int .u64,.bool],.box 3 120 [.int .i64,.bool,.int .i64,.int .u64,.int .u64,.bool],.box 4 120 [.int .i64,.bool,.int .i64,.int .u64,.int .u64,.bool]]):walk E97 (broad_Sum.G k) (cutsAt E97 k broad_Sum.cuts) (retE E97 Tryz.f97.results.toList S97) 4000 true (stackAt B97 [1,4,0,1]) (mkE [.sc 17 (.bool),.box 2 120 [.int .i64,.bool,.int .i64,.int .u64,.int .u64,.bool],.box 3 120 [.int .i64,.bool,.int .i64,.int .u64,.int .u64,.bool],.box 4 120 [.int .i64,.bool,.int .i64,.int .u64,.int .u64,.bool]] x St.nil)=broad_Sum.j0 (k+1) x.1 x.2.1.1 x.2.1.2.1 x.2.1.2.2.1 x.2.1.2.2.2.1 x.2.1.2.2.2.2.1 x.2.1.2.2.2.2.2 x.2.2.1.1 x.2.2.1.2.1 x.2.2.1.2.2.1 x.2.2.1.2.2.2.1 x.2.2.1.2.2.2.2.1 x.2.2.1.2.2.2.2.2:=by kernel_rfl
theorem broad_Sum.w1 (k:Nat) (x:ET [.box 2 120 [.int .i64,.bool,.int .i64,.int .u64,.int .u64,.bool],.box 3 120 [.int .i64,.bool,.int .i64,.int .u64,.int .u64,.bool],.box 4 120 [.int .i64,.bool,.int .i64,.int .u64,.int .u64,.bool]]):walk E97 (broad_Sum.G k) (cutsAt E97 k broad_Sum.cuts) (retE E97 Tryz.f97.results.toList S97) 4000 true (stackAt B97 [1,1]) (mkE [.box 2 120 [.int .i64,.bool,.int .i64,.int .u64,.int .u64,.bool],.box 3 120 [.int .i64,.bool,.int .i64,.int .u64,.int .u64,.bool],.box 4 120 [.int .i64,.bool,.int .i64,.int .u64,.int .u64,.bool]] x St.nil)=broad_Sum.j1 (k+1) x.1.2.1 x.1.2.2.1 x.1.2.2.2.1 x.1.2.2.2.2.1 x.2.1.2.1 x.2.1.2.2.1 x.2.1.2.2.2.1 x.2.1.2.2.2.2.1:=by kernel_rfl
theorem broad_Sum.w2 (k:Nat) (x:ET [.sc 7 (.bool),.sc 13 (.int .u64),.box 3 120 [.int .i64,.bool,.int .i64,.int .u64,.int .u64,.bool],.box 4 120 [.int .i64,.bool,.int .i64,.int .u64,.int .u64,.bool],.box 5 180 [.int .u64,.int .u64,.int .u64,.int .u64],.box 6 180 [.int .u64,.int .u64,.int .u64,.int .u64],.box 8 120 [.int .i64,.bool,.int .i64,.int .u64,.int .u64,.bool],.box 9 180 [.int .u64,.int .u64,.int .u64,.int .u64]]):walk E97 (broad_Sum.G k) (cutsAt E97 k broad_Sum.cuts) (retE E97 Tryz.f97.results.toList S97) 4000 true (stackAt B97 [1,1,3,1,0,1,1,1,1,1,1]) (mkE [.sc 7 (.bool),.sc 13 (.int .u64),.box 3 120 [.int .i64,.bool,.int .i64,.int .u64,.int .u64,.bool],.box 4 120 [.int .i64,.bool,.int .i64,.int .u64,.int .u64,.bool],.box 5 180 [.int .u64,.int .u64,.int .u64,.int .u64],.box 6 180 [.int .u64,.int .u64,.int .u64,.int .u64],.box 8 120 [.int .i64,.bool,.int .i64,.int .u64,.int .u64,.bool],.box 9 180 [.int .u64,.int .u64,.int .u64,.int .u64]] x St.nil)=broad_Sum.j2 (k+1) x.1 x.2.1 x.2.2.1.2.1 x.2.2.2.2.1.1 x.2.2.2.2.1.2.1 x.2.2.2.2.1.2.2.1 x.2.2.2.2.1.2.2.2 x.2.2.2.2.2.1.1 x.2.2.2.2.2.1.2.1 x.2.2.2.2.2.1.2.2.1 x.2.2.2.2.2.1.2.2.2 x.2.2.2.2.2.2.1.1 x.2.2.2.2.2.2.1.2.1 x.2.2.2.2.2.2.1.2.2.1:=by kernel_rfl
theorem broad_Sum.w (k:Nat) (x:TT S97.sa):walk E97 (broad_Sum.G k) (cutsAt E97 k broad_Sum.cuts) (retE E97 Tryz.f97.results.toList S97) 4000 true [([],.code B97)] (St0 S97 x)=broad_Sum.f k x.1 x.2.1 x.2.2.1 x.2.2.2.1 x.2.2.2.2.1 x.2.2.2.2.2.1 x.2.2.2.2.2.2.1 x.2.2.2.2.2.2.2.1 x.2.2.2.2.2.2.2.2.1 x.2.2.2.2.2.2.2.2.2.1 x.2.2.2.2.2.2.2.2.2.2.1 x.2.2.2.2.2.2.2.2.2.2.2:=by kernel_rfl
theorem broad_Sum.ok (k:Nat):FnOk Tryz.prog E97.eT 97 (broad_Sum.c k):=FnOk.walk (E:=E97) (body:=B97) Tryz.func97 rfl (by rfl) Tryz.ntmps97 rfl S97 rfl (fun k x=>broad_Sum.f k x.1 x.2.1 x.2.2.1 x.2.2.2.1 x.2.2.2.2.1 x.2.2.2.2.2.1 x.2.2.2.2.2.2.1 x.2.2.2.2.2.2.2.1 x.2.2.2.2.2.2.2.2.1 x.2.2.2.2.2.2.2.2.2.1 x.2.2.2.2.2.2.2.2.2.2.1 x.2.2.2.2.2.2.2.2.2.2.2) broad_Sum.G (fun k=>⟨broad_wide_under.ok k,broad_wide_plus.ok,broad_wide_less.ok,broad_wide_raised.ok k,trivial⟩) 4000 broad_Sum.cuts ⟨⟨fun _=>rfl,fun k x q h=>(broad_Sum.w0 k x).trans h⟩,⟨fun _=>rfl,fun k x q h=>(broad_Sum.w1 k x).trans h⟩,⟨fun _=>rfl,fun k x q h=>(broad_Sum.w2 k x).trans h⟩,trivial⟩ (fun k x r h=>(broad_Sum.w k x).trans h) k
def E46:En:=⟨Tryz.prog,76,Tryz.f46.ntmps,none,false,[]⟩
def S46:Sig:=⟨[.s,.s,.s,.s],[(.int .i64),(.int .u64),(.int .u64),(.int .u64)],true,[.s,.s],[(.int .u64),.err],false⟩
def B46:Go.Code:=Tryz.f46.body.get!
def fuse_Fma.f (k:Nat) (a0:Int) (a1:Int) (a2:Int) (a3:Int):Option (Int×Option Int):=(fuse_product.f k a0 a1 a2).bind fun t100=>(if t100.2.2.2.2.2.2.isNone=true then ((codec_Decode.f k a0 a3).bind fun t101=>((round_Of.f k t101.1 t101.2.1 t101.2.2.1 t101.2.2.2.1).bind fun t102=>((broad_Sum.f k t100.1 t100.2.1 t100.2.2.1 t100.2.2.2.1 t100.2.2.2.2.1 t100.2.2.2.2.2.1 t102.1 t102.2.1 t102.2.2.1 t102.2.2.2.1 t102.2.2.2.2.1 t102.2.2.2.2.2.1).bind fun t103=>((round_Round.f k a0 t103.1 t103.2.1 t103.2.2.1 t103.2.2.2.1 t103.2.2.2.2.1 t103.2.2.2.2.2).bind fun t104=>(some (t104.1,t104.2)))))) else (some (0,some (t100.2.2.2.2.2.2.getD 0))))
--@ok
def fuse_Fma.c (k:Nat):Con:=S46.con fun x=>fuse_Fma.f k x.1 x.2.1 x.2.2.1 x.2.2.2
def fuse_Fma.G (k:Nat):List (Go.FuncId×Cn):=[(75,.f (round_Round.c k)),(94,.f (fuse_product.c k)),(95,.f (codec_Decode.c k)),(96,.f (round_Of.c k)),(97,.f (broad_Sum.c k))]
def fuse_Fma.cuts:List (Cut (TT S46.sb)):=[]
theorem fuse_Fma.w (k:Nat) (x:TT S46.sa):walk E46 (fuse_Fma.G k) (cutsAt E46 k fuse_Fma.cuts) (retE E46 Tryz.f46.results.toList S46) 4000 true [([],.code B46)] (St0 S46 x)=fuse_Fma.f k x.1 x.2.1 x.2.2.1 x.2.2.2:=by kernel_rfl
theorem fuse_Fma.ok (k:Nat):FnOk Tryz.prog E46.eT 46 (fuse_Fma.c k):=FnOk.walk (E:=E46) (body:=B46) Tryz.func46 rfl (by rfl) Tryz.ntmps46 rfl S46 rfl (fun k x=>fuse_Fma.f k x.1 x.2.1 x.2.2.1 x.2.2.2) fuse_Fma.G (fun k=>⟨round_Round.ok k,fuse_product.ok k,codec_Decode.ok k,round_Of.ok k,broad_Sum.ok k,trivial⟩) 4000 fuse_Fma.cuts trivial (fun k x r h=>(fuse_Fma.w k x).trans h) k
def E11:En:=⟨Tryz.prog,76,Tryz.f11.ntmps,none,false,[]⟩
def S11:Sig:=⟨[.s,.s,.s],[(.int .i64),(.rd .u64),(.int .u64)],true,[.s,.s],[(.int .u64),.err],false⟩
def B11:Go.Code:=Tryz.f11.body.get!
mutual
def vec_Poly.j0:Nat→Int→List Int→Int→Int→Option (Int×Option Int)
 | 0,_,_,_,_=>none
 | k+1,x0,x1,x2,x8=>(order_Max.f x0 x8 x8).bind fun t100=>(vec_Poly.l0 k x0 x1 x2 t100.1 t100.2 (wrap64 ((nI x1.length) - 2)))
def vec_Poly.l0:Nat→Int→List Int→Int→Int→Option Int→Int→Option (Int×Option Int)
 | 0,_,_,_,_,_,_=>none
 | k+1,x0,x1,x2,x8,x9,x10=>if x10≥0 then (if x9.isNone=true then (if 0≤x10 then (if x10 < (nI x1.length) then ((fuse_Fma.f k x0 x8 x2 (rd x1 x10)).bind fun t101=>(vec_Poly.l0 k x0 x1 x2 t101.1 t101.2 (wrap64 (x10 - 1)))) else (none)) else (none)) else (some (0,some (x9.getD 0)))) else (if x9.isNone=true then (some (x8,none)) else (some (0,some (x9.getD 0))))
end
def vec_Poly.f (k:Nat) (a0:Int) (l1:List Int) (a2:Int):Option (Int×Option Int):=if (nI l1.length) > 0 then (if 0≤(wrap64 ((nI l1.length) - 1)) then (if (wrap64 ((nI l1.length) - 1)) < (nI l1.length) then (vec_Poly.j0 k a0 l1 a2 (rd l1 (wrap64 ((nI l1.length) - 1)))) else (none)) else (none)) else (vec_Poly.j0 k a0 l1 a2 0)
--@ok
def vec_Poly.c (k:Nat):Con:=S11.con fun x=>vec_Poly.f k x.1 x.2.1 x.2.2
def vec_Poly.G (k:Nat):List (Go.FuncId×Cn):=[(45,.f order_Max.c),(46,.f (fuse_Fma.c k))]
def vec_Poly.cuts:List (Cut (TT S11.sb)):=[⟨[1,1,1],[.sc 0 (.int .i64),.sc 1 (.rd .u64),.sc 2 (.int .u64),.sc 8 (.int .u64)],fun k x=>vec_Poly.j0 k x.1 x.2.1 x.2.2.1 x.2.2.2⟩,⟨[6,4,1,0,1,1,1,1],[.sc 0 (.int .i64),.sc 1 (.rd .u64),.sc 2 (.int .u64),.sc 8 (.int .u64),.sc 9 (.err),.sc 10 (.int .i64)],fun k x=>vec_Poly.l0 k x.1 x.2.1 x.2.2.1 x.2.2.2.1 x.2.2.2.2.1 x.2.2.2.2.2⟩]
theorem vec_Poly.w0 (k:Nat) (x:ET [.sc 0 (.int .i64),.sc 1 (.rd .u64),.sc 2 (.int .u64),.sc 8 (.int .u64)]):walk E11 (vec_Poly.G k) (cutsAt E11 k vec_Poly.cuts) (retE E11 Tryz.f11.results.toList S11) 4000 true (stackAt B11 [1,1,1]) (mkE [.sc 0 (.int .i64),.sc 1 (.rd .u64),.sc 2 (.int .u64),.sc 8 (.int .u64)] x St.nil)=vec_Poly.j0 (k+1) x.1 x.2.1 x.2.2.1 x.2.2.2:=by kernel_rfl
theorem vec_Poly.w1 (k:Nat) (x:ET [.sc 0 (.int .i64),.sc 1 (.rd .u64),.sc 2 (.int .u64),.sc 8 (.int .u64),.sc 9 (.err),.sc 10 (.int .i64)]):walk E11 (vec_Poly.G k) (cutsAt E11 k vec_Poly.cuts) (retE E11 Tryz.f11.results.toList S11) 4000 true (stackAt B11 [6,4,1,0,1,1,1,1]) (mkE [.sc 0 (.int .i64),.sc 1 (.rd .u64),.sc 2 (.int .u64),.sc 8 (.int .u64),.sc 9 (.err),.sc 10 (.int .i64)] x St.nil)=vec_Poly.l0 (k+1) x.1 x.2.1 x.2.2.1 x.2.2.2.1 x.2.2.2.2.1 x.2.2.2.2.2:=by kernel_rfl
theorem vec_Poly.w (k:Nat) (x:TT S11.sa):walk E11 (vec_Poly.G k) (cutsAt E11 k vec_Poly.cuts) (retE E11 Tryz.f11.results.toList S11) 4000 true [([],.code B11)] (St0 S11 x)=vec_Poly.f k x.1 x.2.1 x.2.2:=by kernel_rfl
theorem vec_Poly.ok (k:Nat):FnOk Tryz.prog E11.eT 11 (vec_Poly.c k):=FnOk.walk (E:=E11) (body:=B11) Tryz.func11 rfl (by rfl) Tryz.ntmps11 rfl S11 rfl (fun k x=>vec_Poly.f k x.1 x.2.1 x.2.2) vec_Poly.G (fun k=>⟨order_Max.ok,fuse_Fma.ok k,trivial⟩) 4000 vec_Poly.cuts ⟨⟨fun _=>rfl,fun k x q h=>(vec_Poly.w0 k x).trans h⟩,⟨fun _=>rfl,fun k x q h=>(vec_Poly.w1 k x).trans h⟩,trivial⟩ (fun k x r h=>(vec_Poly.w k x).trans h) k
def E16:En:=⟨Tryz.prog,76,Tryz.f16.ntmps,none,false,[]⟩
def S16:Sig:=⟨[.s,.s],[(.rd .u64),(.rd .u64)],false,[.s],[.bool],false⟩
def B16:Go.Code:=Tryz.f16.body.get!
def vr04_Same.l0:Nat→List Int→List Int→Int→Option (Bool)
 | 0,_,_,_=>none
 | k+1,x0,x1,x5=>if x5 < (nI x0.length) then (if 0≤x5 then (if x5 < (nI x1.length) then (if (rd x0 x5)=(rd x1 x5) then (vr04_Same.l0 k x0 x1 (wrap64 (x5+1))) else (some false)) else (none)) else (none)) else (some true)
def vr04_Same.f (k:Nat) (l0:List Int) (l1:List Int):Option (Bool):=if (nI l0.length)=(nI l1.length) then (vr04_Same.l0 k l0 l1 0) else (some false)
--@ok
def vr04_Same.l0R (k:Nat) (x0:List Int) (x1:List Int) (x5:Int):Option (Bool):=if x5 < (nI x0.length) then (if 0≤x5 then (if x5 < (nI x0.length) then (if 0≤x5 then (if x5 < (nI x1.length) then (if (rd x0 x5)=(rd x1 x5) then (vr04_Same.l0 k x0 x1 (wrap64 (x5+1))) else (some false)) else (none)) else (none)) else (none)) else (none)) else (some true)
theorem vr04_Same.l0E (k:Nat) (x0:List Int) (x1:List Int) (x5:Int):vr04_Same.l0R k x0 x1 x5=vr04_Same.l0 (k+1) x0 x1 x5:=by
  unfold vr04_Same.l0R
  rw [vr04_Same.l0]
  exact iteC (fun h0=>iteC (fun h1=>(if_pos h0).trans ((if_pos h1).trans (iteC (fun h2=>iteC (fun h3=>rfl) (fun h3=>rfl)) (fun h2=>rfl)))) (fun h1=>rfl)) (fun h0=>rfl)
def vr04_Same.c (k:Nat):Con:=S16.con fun x=>vr04_Same.f k x.1 x.2
def vr04_Same.G (k:Nat):List (Go.FuncId×Cn):=[]
def vr04_Same.cuts:List (Cut (TT S16.sb)):=[⟨[6,4,1,0,1,1],[.sc 0 (.rd .u64),.sc 1 (.rd .u64),.sc 5 (.int .i64)],fun k x=>vr04_Same.l0 k x.1 x.2.1 x.2.2⟩]
theorem vr04_Same.w0 (k:Nat) (x:ET [.sc 0 (.rd .u64),.sc 1 (.rd .u64),.sc 5 (.int .i64)]):walk E16 (vr04_Same.G k) (cutsAt E16 k vr04_Same.cuts) (retE E16 Tryz.f16.results.toList S16) 4000 true (stackAt B16 [6,4,1,0,1,1]) (mkE [.sc 0 (.rd .u64),.sc 1 (.rd .u64),.sc 5 (.int .i64)] x St.nil)=vr04_Same.l0 (k+1) x.1 x.2.1 x.2.2:=Eq.trans (b:=vr04_Same.l0R k x.1 x.2.1 x.2.2) (by kernel_rfl) (vr04_Same.l0E k x.1 x.2.1 x.2.2)
theorem vr04_Same.w (k:Nat) (x:TT S16.sa):walk E16 (vr04_Same.G k) (cutsAt E16 k vr04_Same.cuts) (retE E16 Tryz.f16.results.toList S16) 4000 true [([],.code B16)] (St0 S16 x)=vr04_Same.f k x.1 x.2:=by kernel_rfl
theorem vr04_Same.ok (k:Nat):FnOk Tryz.prog E16.eT 16 (vr04_Same.c k):=FnOk.walk (E:=E16) (body:=B16) Tryz.func16 rfl (by rfl) Tryz.ntmps16 rfl S16 rfl (fun k x=>vr04_Same.f k x.1 x.2) vr04_Same.G (fun k=>trivial) 4000 vr04_Same.cuts ⟨⟨fun _=>rfl,fun k x q h=>(vr04_Same.w0 k x).trans h⟩,trivial⟩ (fun k x r h=>(vr04_Same.w k x).trans h) k
def S60:RSig:=⟨some ⟨[.int .i64,.bool,.int .i64],some (.u64,16)⟩,100,false,true,[],[],none,0,false,[.s],[(.int .i64)],false⟩
def E60 (gg:Nat):En:=enR Tryz.prog 76 Tryz.f60.ntmps [] S60 gg
def B60:Go.Code:=Tryz.f60.body.get!
def accum_Acc_size.f (c0:Int) (c1:Bool) (c2:Int) (c3:List Int):Option (Unit×Unit×(Int)):=some ((),(),wrap64 (Int.tdiv c0 4))
--@ok
def accum_Acc_size.c:RCon:=S60.con fun x y=>accum_Acc_size.f x.1 x.2.1 x.2.2.1 x.2.2.2
def accum_Acc_size.G (k:Nat):List (Go.FuncId×Cn):=[]
def accum_Acc_size.cuts:List (Cut (RSig.R S60)):=[]
theorem accum_Acc_size.w (gg:Nat) (k:Nat) (x:RcT S60.rL S60.win) (y:TT S60.sa):walk (E60 gg) (accum_Acc_size.G k) (cutsAt (E60 gg) k accum_Acc_size.cuts) (retR (E60 gg) Tryz.f60.results.toList S60) 4000 true [([],.code B60)] (St0R S60 x y)=accum_Acc_size.f x.1 x.2.1 x.2.2.1 x.2.2.2:=by kernel_rfl
theorem accum_Acc_size.ok:FnOkR Tryz.prog (E60 0).eT 60 (accum_Acc_size.c):=FnOkR.walk (P:=(E60 0).P) (eT:=(E60 0).eT) (N:=(E60 0).N) (wf:=(E60 0).wf) (body:=B60) Tryz.func60 rfl (by rfl) Tryz.ntmps60 S60 (by rfl) (fun k x y=>accum_Acc_size.f x.1 x.2.1 x.2.2.1 x.2.2.2) accum_Acc_size.G (fun k=>trivial) 4000 accum_Acc_size.cuts (fun gg=>trivial) (fun gg k x y r h=>(accum_Acc_size.w gg k x y).trans h) 0
def S28:RSig:=⟨some ⟨[.int .i64,.bool,.int .i64],some (.u64,16)⟩,100,false,true,[],[],none,0,false,[.g 4],[(.int .i64),.bool,(.int .i64),(.rd .u64)],true⟩
def E28 (gg:Nat):En:=enR Tryz.prog 76 Tryz.f28.ntmps [] S28 gg
def B28:Go.Code:=Tryz.f28.body.get!
def accum_Acc_State.f (c0:Int) (c1:Bool) (c2:Int) (c3:List Int):Option (Unit×Unit×(Int×Bool×Int×List Int)):=(accum_Acc_size.f c0 c1 c2 c3).bind fun t100=>(if 0≤t100.2.2 then (if t100.2.2≤16 then (if (0+((c3.take ((t100.2.2:Int).toNat)).length))≤(140737488355328 / 8) then (some ((),(),(c0,c1,c2,c3.take ((t100.2.2:Int).toNat)))) else (none)) else (none)) else (none))
--@ok
def accum_Acc_State.c:RCon:=S28.con fun x y=>accum_Acc_State.f x.1 x.2.1 x.2.2.1 x.2.2.2
def accum_Acc_State.G (k:Nat):List (Go.FuncId×Cn):=[(60,.r accum_Acc_size.c)]
def accum_Acc_State.cuts:List (Cut (RSig.R S28)):=[]
theorem accum_Acc_State.w (gg:Nat) (k:Nat) (x:RcT S28.rL S28.win) (y:TT S28.sa):walk (E28 gg) (accum_Acc_State.G k) (cutsAt (E28 gg) k accum_Acc_State.cuts) (retR (E28 gg) Tryz.f28.results.toList S28) 4000 true [([],.code B28)] (St0R S28 x y)=accum_Acc_State.f x.1 x.2.1 x.2.2.1 x.2.2.2:=by kernel_rfl
theorem accum_Acc_State.ok:FnOkR Tryz.prog (E28 0).eT 28 (accum_Acc_State.c):=FnOkR.walk (P:=(E28 0).P) (eT:=(E28 0).eT) (N:=(E28 0).N) (wf:=(E28 0).wf) (body:=B28) Tryz.func28 rfl (by rfl) Tryz.ntmps28 S28 (by rfl) (fun k x y=>accum_Acc_State.f x.1 x.2.1 x.2.2.1 x.2.2.2) accum_Acc_State.G (fun k=>⟨accum_Acc_size.ok,trivial⟩) 4000 accum_Acc_State.cuts (fun gg=>trivial) (fun gg k x y r h=>(accum_Acc_State.w gg k x y).trans h) 0
def S152:RSig:=⟨some ⟨[.int .i64,.bool,.int .i64],some (.u64,16)⟩,100,false,false,[.s,.s,.s,.s],[(.int .u64),(.int .u64),(.int .i64),.bool],none,0,true,[],[],true⟩
def E152 (gg:Nat):En:=enR Tryz.prog 76 Tryz.f152.ntmps [] S152 gg
def B152:Go.Code:=Tryz.f152.body.get!
mutual
def accum_Acc_enter.l0:Nat→Int→Bool→Int→Int→List Int→Bool→Int→Int→Int→Int→Int→Int→Option (((Int×Bool×Int×List Int))×Unit×(Unit))
 | 0,_,_,_,_,_,_,_,_,_,_,_,_=>none
 | k+1,y0,y1,y2,x13,yl,x4,x10,x14,x15,x12000,x12001,x12002=>if x15 < x13 then (if (wrap64 (x15 - x10)) < 3 then (if 0≤(wrap64 (x15 - x10)) then (accum_Acc_enter.j1 k y0 ((y1,y2).1) ((y1,y2).2) x13 yl x4 x10 x14 x15 (rd ([x12000,x12001,x12002]:List Int) (wrap64 (x15 - x10))) x12000 x12001 x12002) else (none)) else (if x14=0 then (some ((y0,(y1,y2).1,(y1,y2).2,yl),(),())) else (accum_Acc_enter.j1 k y0 ((y1,y2).1) ((y1,y2).2) x13 yl x4 x10 x14 x15 0 x12000 x12001 x12002))) else (some ((y0,(y1,y2).1,(y1,y2).2,yl),(),()))
def accum_Acc_enter.j1:Nat→Int→Bool→Int→Int→List Int→Bool→Int→Int→Int→Int→Int→Int→Int→Option (((Int×Bool×Int×List Int))×Unit×(Unit))
 | 0,_,_,_,_,_,_,_,_,_,_,_,_,_=>none
 | k+1,y0,y1,y2,x13,yl,x4,x10,x14,x15,x16,x12000,x12001,x12002=>if x4=true then (if 0≤x15 then (if x15 < x13 then ((bits_Sub64.f (rd yl x15) x16 x14).bind fun t101=>(accum_Acc_enter.l0 k y0 ((y1,y2).1) ((y1,y2).2) x13 (yl.set ((x15:Int).toNat) t101.1) x4 x10 t101.2 (wrap64 (x15+1)) x12000 x12001 x12002)) else (none)) else (none)) else (if 0≤x15 then (if x15 < x13 then ((bits_Add64.f (rd yl x15) x16 x14).bind fun t102=>(accum_Acc_enter.l0 k y0 ((y1,y2).1) ((y1,y2).2) x13 (yl.set ((x15:Int).toNat) t102.1) x4 x10 t102.2 (wrap64 (x15+1)) x12000 x12001 x12002)) else (none)) else (none))
end
def accum_Acc_enter.f (k:Nat) (c0:Int) (c1:Bool) (c2:Int) (c3:List Int) (a1:Int) (a2:Int) (a3:Int) (a4:Bool):Option (((Int×Bool×Int×List Int))×Unit×(Unit)):=if 0≤(IntKind.u64.wrap (Int.tmod a3 64)) then (if 0≤(IntKind.u64.wrap (63 - (IntKind.u64.wrap (Int.tmod a3 64)))) then ((accum_Acc_size.f c0 c1 c2 c3).bind fun t100=>(if 0≤t100.2.2 then (if t100.2.2≤16 then (accum_Acc_enter.l0 k c0 c1 c2 t100.2.2 c3 a4 (wrap64 (Int.tdiv a3 64)) 0 (wrap64 (Int.tdiv a3 64)) (shl .u64 a2 (IntKind.u64.wrap (Int.tmod a3 64))) (Go.bits .or .u64 (shl .u64 a1 (IntKind.u64.wrap (Int.tmod a3 64))) (shr .u64 (a2 / 2) (IntKind.u64.wrap (63 - (IntKind.u64.wrap (Int.tmod a3 64)))))) (shr .u64 (a1 / 2) (IntKind.u64.wrap (63 - (IntKind.u64.wrap (Int.tmod a3 64)))))) else (none)) else (none))) else (none)) else (none)
--@ok
def accum_Acc_enter.l0R (k:Nat) (y0:Int) (y1:Bool) (y2:Int) (x13:Int) (yl:List Int) (x4:Bool) (x10:Int) (x14:Int) (x15:Int) (x12000:Int) (x12001:Int) (x12002:Int):Option (((Int×Bool×Int×List Int))×Unit×(Unit)):=if x15 < x13 then (if (wrap64 (x15 - x10)) < 3 then (if 0≤(wrap64 (x15 - x10)) then (if (wrap64 (x15 - x10)) < 3 then (accum_Acc_enter.j1 k y0 ((y1,y2).1) ((y1,y2).2) x13 yl x4 x10 x14 x15 (rd ([x12000,x12001,x12002]:List Int) (wrap64 (x15 - x10))) x12000 x12001 x12002) else (none)) else (none)) else (if x14=0 then (some ((y0,(y1,y2).1,(y1,y2).2,yl),(),())) else (accum_Acc_enter.j1 k y0 ((y1,y2).1) ((y1,y2).2) x13 yl x4 x10 x14 x15 0 x12000 x12001 x12002))) else (some ((y0,(y1,y2).1,(y1,y2).2,yl),(),()))
theorem accum_Acc_enter.l0E (k:Nat) (y0:Int) (y1:Bool) (y2:Int) (x13:Int) (yl:List Int) (x4:Bool) (x10:Int) (x14:Int) (x15:Int) (x12000:Int) (x12001:Int) (x12002:Int):accum_Acc_enter.l0R k y0 y1 y2 x13 yl x4 x10 x14 x15 x12000 x12001 x12002=accum_Acc_enter.l0 (k+1) y0 y1 y2 x13 yl x4 x10 x14 x15 x12000 x12001 x12002:=by
  unfold accum_Acc_enter.l0R
  rw [accum_Acc_enter.l0]
  exact iteC (fun h0=>iteC (fun h1=>iteC (fun h2=>(if_pos h1).trans (rfl)) (fun h2=>rfl)) (fun h1=>iteC (fun h2=>rfl) (fun h2=>rfl))) (fun h0=>rfl)
def accum_Acc_enter.j1R (k:Nat) (y0:Int) (y1:Bool) (y2:Int) (x13:Int) (yl:List Int) (x4:Bool) (x10:Int) (x14:Int) (x15:Int) (x16:Int) (x12000:Int) (x12001:Int) (x12002:Int):Option (((Int×Bool×Int×List Int))×Unit×(Unit)):=if x4=true then (if 0≤x15 then (if x15 < x13 then ((bits_Sub64.f (rd yl x15) x16 x14).bind fun t101=>(if 0≤x15 then (if x15 < x13 then (accum_Acc_enter.l0 k y0 ((y1,y2).1) ((y1,y2).2) x13 (yl.set ((x15:Int).toNat) t101.1) x4 x10 t101.2 (wrap64 (x15+1)) x12000 x12001 x12002) else (none)) else (none))) else (none)) else (none)) else (if 0≤x15 then (if x15 < x13 then ((bits_Add64.f (rd yl x15) x16 x14).bind fun t102=>(if 0≤x15 then (if x15 < x13 then (accum_Acc_enter.l0 k y0 ((y1,y2).1) ((y1,y2).2) x13 (yl.set ((x15:Int).toNat) t102.1) x4 x10 t102.2 (wrap64 (x15+1)) x12000 x12001 x12002) else (none)) else (none))) else (none)) else (none))
theorem accum_Acc_enter.j1E (k:Nat) (y0:Int) (y1:Bool) (y2:Int) (x13:Int) (yl:List Int) (x4:Bool) (x10:Int) (x14:Int) (x15:Int) (x16:Int) (x12000:Int) (x12001:Int) (x12002:Int):accum_Acc_enter.j1R k y0 y1 y2 x13 yl x4 x10 x14 x15 x16 x12000 x12001 x12002=accum_Acc_enter.j1 (k+1) y0 y1 y2 x13 yl x4 x10 x14 x15 x16 x12000 x12001 x12002:=by
  unfold accum_Acc_enter.j1R
  rw [accum_Acc_enter.j1]
  exact iteC (fun h0=>iteC (fun h1=>iteC (fun h2=>bindC fun _=>(if_pos h1).trans ((if_pos h2).trans (rfl))) (fun h2=>rfl)) (fun h1=>rfl)) (fun h0=>iteC (fun h1=>iteC (fun h2=>bindC fun _=>(if_pos h1).trans ((if_pos h2).trans (rfl))) (fun h2=>rfl)) (fun h1=>rfl))
def accum_Acc_enter.fR (k:Nat) (c0:Int) (c1:Bool) (c2:Int) (c3:List Int) (a1:Int) (a2:Int) (a3:Int) (a4:Bool):Option (((Int×Bool×Int×List Int))×Unit×(Unit)):=if 0≤(IntKind.u64.wrap (Int.tmod a3 64)) then (if 0≤(IntKind.u64.wrap (Int.tmod a3 64)) then (if 0≤(IntKind.u64.wrap (63 - (IntKind.u64.wrap (Int.tmod a3 64)))) then (if 0≤(IntKind.u64.wrap (63 - (IntKind.u64.wrap (Int.tmod a3 64)))) then ((accum_Acc_size.f c0 c1 c2 c3).bind fun t100=>(if 0≤t100.2.2 then (if t100.2.2≤16 then (accum_Acc_enter.l0 k c0 c1 c2 t100.2.2 c3 a4 (wrap64 (Int.tdiv a3 64)) 0 (wrap64 (Int.tdiv a3 64)) (shl .u64 a2 (IntKind.u64.wrap (Int.tmod a3 64))) (Go.bits .or .u64 (shl .u64 a1 (IntKind.u64.wrap (Int.tmod a3 64))) (shr .u64 (a2 / 2) (IntKind.u64.wrap (63 - (IntKind.u64.wrap (Int.tmod a3 64)))))) (shr .u64 (a1 / 2) (IntKind.u64.wrap (63 - (IntKind.u64.wrap (Int.tmod a3 64)))))) else (none)) else (none))) else (none)) else (none)) else (none)) else (none)
theorem accum_Acc_enter.fE (k:Nat) (c0:Int) (c1:Bool) (c2:Int) (c3:List Int) (a1:Int) (a2:Int) (a3:Int) (a4:Bool):accum_Acc_enter.fR k c0 c1 c2 c3 a1 a2 a3 a4=accum_Acc_enter.f k c0 c1 c2 c3 a1 a2 a3 a4:=by
  unfold accum_Acc_enter.fR accum_Acc_enter.f
  exact iteC (fun h0=>(if_pos h0).trans (iteC (fun h1=>(if_pos h1).trans (bindC fun _=>iteC (fun h2=>iteC (fun h3=>rfl) (fun h3=>rfl)) (fun h2=>rfl))) (fun h1=>rfl))) (fun h0=>rfl)
def accum_Acc_enter.c (k:Nat):RCon:=S152.con fun x y=>accum_Acc_enter.f k x.1 x.2.1 x.2.2.1 x.2.2.2 y.1 y.2.1 y.2.2.1 y.2.2.2
def accum_Acc_enter.G (k:Nat):List (Go.FuncId×Cn):=[(60,.r accum_Acc_size.c),(153,.f bits_Add64.c),(189,.f bits_Sub64.c)]
def accum_Acc_enter.cuts:List (Cut (RSig.R S152)):=[⟨[6,4,1,1,1,1,1,1,8],[.mbw (some 0) 100 [.int .i64,.bool,.int .i64] .u64 16 [13],.sc 4 (.bool),.sc 10 (.int .i64),.sc 14 (.int .u64),.sc 15 (.int .i64),.box 12 116 [.int .u64,.int .u64,.int .u64]],fun k x=>accum_Acc_enter.l0 k x.1.1 x.1.2.1 x.1.2.2.1 x.1.2.2.2.1 x.1.2.2.2.2 x.2.1 x.2.2.1 x.2.2.2.1 x.2.2.2.2.1 x.2.2.2.2.2.1 x.2.2.2.2.2.2.1 x.2.2.2.2.2.2.2⟩,⟨[1,1,4,0,1,6,4,1,1,1,1,1,1,8],[.mbw (some 0) 100 [.int .i64,.bool,.int .i64] .u64 16 [13],.sc 4 (.bool),.sc 10 (.int .i64),.sc 14 (.int .u64),.sc 15 (.int .i64),.sc 16 (.int .u64),.box 12 116 [.int .u64,.int .u64,.int .u64]],fun k x=>accum_Acc_enter.j1 k x.1.1 x.1.2.1 x.1.2.2.1 x.1.2.2.2.1 x.1.2.2.2.2 x.2.1 x.2.2.1 x.2.2.2.1 x.2.2.2.2.1 x.2.2.2.2.2.1 x.2.2.2.2.2.2.1 x.2.2.2.2.2.2.2.1 x.2.2.2.2.2.2.2.2⟩]
theorem accum_Acc_enter.w0 (gg:Nat) (k:Nat) (x:ET [.mbw (some 0) 100 [.int .i64,.bool,.int .i64] .u64 16 [13],.sc 4 (.bool),.sc 10 (.int .i64),.sc 14 (.int .u64),.sc 15 (.int .i64),.box 12 116 [.int .u64,.int .u64,.int .u64]]):walk (E152 gg) (accum_Acc_enter.G k) (cutsAt (E152 gg) k accum_Acc_enter.cuts) (retR (E152 gg) Tryz.f152.results.toList S152) 4000 true (stackAt B152 [6,4,1,1,1,1,1,1,8]) (mkE [.mbw (some 0) 100 [.int .i64,.bool,.int .i64] .u64 16 [13],.sc 4 (.bool),.sc 10 (.int .i64),.sc 14 (.int .u64),.sc 15 (.int .i64),.box 12 116 [.int .u64,.int .u64,.int .u64]] x St.nil)=accum_Acc_enter.l0 (k+1) x.1.1 x.1.2.1 x.1.2.2.1 x.1.2.2.2.1 x.1.2.2.2.2 x.2.1 x.2.2.1 x.2.2.2.1 x.2.2.2.2.1 x.2.2.2.2.2.1 x.2.2.2.2.2.2.1 x.2.2.2.2.2.2.2:=Eq.trans (b:=accum_Acc_enter.l0R k x.1.1 x.1.2.1 x.1.2.2.1 x.1.2.2.2.1 x.1.2.2.2.2 x.2.1 x.2.2.1 x.2.2.2.1 x.2.2.2.2.1 x.2.2.2.2.2.1 x.2.2.2.2.2.2.1 x.2.2.2.2.2.2.2) (by kernel_rfl) (accum_Acc_enter.l0E k x.1.1 x.1.2.1 x.1.2.2.1 x.1.2.2.2.1 x.1.2.2.2.2 x.2.1 x.2.2.1 x.2.2.2.1 x.2.2.2.2.1 x.2.2.2.2.2.1 x.2.2.2.2.2.2.1 x.2.2.2.2.2.2.2)
theorem accum_Acc_enter.w1 (gg:Nat) (k:Nat) (x:ET [.mbw (some 0) 100 [.int .i64,.bool,.int .i64] .u64 16 [13],.sc 4 (.bool),.sc 10 (.int .i64),.sc 14 (.int .u64),.sc 15 (.int .i64),.sc 16 (.int .u64),.box 12 116 [.int .u64,.int .u64,.int .u64]]):walk (E152 gg) (accum_Acc_enter.G k) (cutsAt (E152 gg) k accum_Acc_enter.cuts) (retR (E152 gg) Tryz.f152.results.toList S152) 4000 true (stackAt B152 [1,1,4,0,1,6,4,1,1,1,1,1,1,8]) (mkE [.mbw (some 0) 100 [.int .i64,.bool,.int .i64] .u64 16 [13],.sc 4 (.bool),.sc 10 (.int .i64),.sc 14 (.int .u64),.sc 15 (.int .i64),.sc 16 (.int .u64),.box 12 116 [.int .u64,.int .u64,.int .u64]] x St.nil)=accum_Acc_enter.j1 (k+1) x.1.1 x.1.2.1 x.1.2.2.1 x.1.2.2.2.1 x.1.2.2.2.2 x.2.1 x.2.2.1 x.2.2.2.1 x.2.2.2.2.1 x.2.2.2.2.2.1 x.2.2.2.2.2.2.1 x.2.2.2.2.2.2.2.1 x.2.2.2.2.2.2.2.2:=Eq.trans (b:=accum_Acc_enter.j1R k x.1.1 x.1.2.1 x.1.2.2.1 x.1.2.2.2.1 x.1.2.2.2.2 x.2.1 x.2.2.1 x.2.2.2.1 x.2.2.2.2.1 x.2.2.2.2.2.1 x.2.2.2.2.2.2.1 x.2.2.2.2.2.2.2.1 x.2.2.2.2.2.2.2.2) (by kernel_rfl) (accum_Acc_enter.j1E k x.1.1 x.1.2.1 x.1.2.2.1 x.1.2.2.2.1 x.1.2.2.2.2 x.2.1 x.2.2.1 x.2.2.2.1 x.2.2.2.2.1 x.2.2.2.2.2.1 x.2.2.2.2.2.2.1 x.2.2.2.2.2.2.2.1 x.2.2.2.2.2.2.2.2)
theorem accum_Acc_enter.w (gg:Nat) (k:Nat) (x:RcT S152.rL S152.win) (y:TT S152.sa):walk (E152 gg) (accum_Acc_enter.G k) (cutsAt (E152 gg) k accum_Acc_enter.cuts) (retR (E152 gg) Tryz.f152.results.toList S152) 4000 true [([],.code B152)] (St0R S152 x y)=accum_Acc_enter.f k x.1 x.2.1 x.2.2.1 x.2.2.2 y.1 y.2.1 y.2.2.1 y.2.2.2:=Eq.trans (b:=accum_Acc_enter.fR k x.1 x.2.1 x.2.2.1 x.2.2.2 y.1 y.2.1 y.2.2.1 y.2.2.2) (by kernel_rfl) (accum_Acc_enter.fE k x.1 x.2.1 x.2.2.1 x.2.2.2 y.1 y.2.1 y.2.2.1 y.2.2.2)
theorem accum_Acc_enter.ok (k:Nat):FnOkR Tryz.prog (E152 0).eT 152 (accum_Acc_enter.c k):=FnOkR.walk (P:=(E152 0).P) (eT:=(E152 0).eT) (N:=(E152 0).N) (wf:=(E152 0).wf) (body:=B152) Tryz.func152 rfl (by rfl) Tryz.ntmps152 S152 (by rfl) (fun k x y=>accum_Acc_enter.f k x.1 x.2.1 x.2.2.1 x.2.2.2 y.1 y.2.1 y.2.2.1 y.2.2.2) accum_Acc_enter.G (fun k=>⟨accum_Acc_size.ok,bits_Add64.ok,bits_Sub64.ok,trivial⟩) 4000 accum_Acc_enter.cuts (fun gg=>⟨⟨fun _=>rfl,fun k x q h=>(accum_Acc_enter.w0 gg k x).trans h⟩,⟨fun _=>rfl,fun k x q h=>(accum_Acc_enter.w1 gg k x).trans h⟩,trivial⟩) (fun gg k x y r h=>(accum_Acc_enter.w gg k x y).trans h) k
end Go.Proofs.YtbpcfhhcoklinaaGreat.Fn
set_option maxRecDepth 100000
noncomputable section
namespace Go.Proofs.YtbpcfhhcoklinaaGreat.Fn
open Go Go.RowKit Go.Proofs.YtbpcfhhcoklinaaGreat.Ab
def S105:RSig:=⟨some ⟨[.int .i64,.bool,.int .i64],some (.u64,16)⟩,100,false,false,[.s,.s,.s],[(.int .u64),(.int .u64),.bool],none,0,false,[.s],[.err],true⟩
def E105 (gg:Nat):En:=enR Tryz.prog 76 Tryz.f105.ntmps [152] S105 gg
def B105:Go.Code:=Tryz.f105.body.get!
mutual
def accum_Acc_deposit.j0:Nat→Int→Bool→Int→List Int→Bool→Bool→Int→Bool→Int→Int→Int→Bool→Int→Int→Option (((Int×Bool×Int×List Int))×Unit×(Option Int))
 | 0,_,_,_,_,_,_,_,_,_,_,_,_,_,_=>none
 | k+1,y0,y1,y2,yl,x3,x52,x9000,x9001,x9002,x9003,x11000,x11001,x11002,x11003=>if x52=true then (some ((y0,true,(y1,y2).2,([0,0,0,0,0,0,0,0,0,0,0,0,0,0,0,0]:List Int)),(),none)) else (if x9000=1 then (accum_Acc_deposit.j1 k y0 ((y1,y2).1) ((y1,y2).2) yl x3 (x11000==1) x9001 x9002 x9003 x11001 x11002 x11003) else (accum_Acc_deposit.j1 k y0 ((y1,y2).1) ((y1,y2).2) yl x3 false x9001 x9002 x9003 x11001 x11002 x11003))
def accum_Acc_deposit.j1:Nat→Int→Bool→Int→List Int→Bool→Bool→Bool→Int→Int→Bool→Int→Int→Option (((Int×Bool×Int×List Int))×Unit×(Option Int))
 | 0,_,_,_,_,_,_,_,_,_,_,_,_=>none
 | k+1,y0,y1,y2,yl,x3,x74,x9001,x9002,x9003,x11001,x11002,x11003=>if x74=true then ((bits_Mul64.f x9003 x11003).bind fun t102=>(accum_Acc_deposit.l0 k y0 ((y1,y2).1) ((y1,y2).2) yl x3 t102.1 t102.2 (wrap64 ((wrap64 ((wrap64 ((wrap64 (x9002+x11002)) - 126))+(wrap64 (8*y0)))) - 16)) x9001 x11001)) else (some ((y0,(y1,y2).1,(y1,y2).2,yl),(),none))
def accum_Acc_deposit.l0:Nat→Int→Bool→Int→List Int→Bool→Int→Int→Int→Bool→Bool→Option (((Int×Bool×Int×List Int))×Unit×(Option Int))
 | 0,_,_,_,_,_,_,_,_,_,_=>none
 | k+1,y0,y1,y2,yl,x3,x12,x13,x14,x9001,x11001=>if x14 < 0 then (accum_Acc_deposit.l0 k y0 ((y1,y2).1) ((y1,y2).2) yl x3 (x12 / 2) (Go.bits .or .u64 (x13 / 2) (IntKind.u64.wrap (x12*9223372036854775808))) (wrap64 (x14+1)) x9001 x11001) else ((accum_Acc_enter.f k y0 ((y1,y2).1) ((y1,y2).2) yl x12 x13 x14 (!((!(x9001==x11001))==x3))).bind fun t103=>(some ((t103.1.1,t103.1.2.1,t103.1.2.2.1,t103.1.2.2.2),(),none)))
end
def accum_Acc_deposit.f (k:Nat) (c0:Int) (c1:Bool) (c2:Int) (c3:List Int) (a1:Int) (a2:Int) (a3:Bool):Option (((Int×Bool×Int×List Int))×Unit×(Option Int)):=if c2=2147483647 then (some ((c0,c1,c2,c3),(),some 11)) else ((codec_Decode.f k c0 a1).bind fun t100=>(if t100.2.2.2.2.isNone=true then ((codec_Decode.f k c0 a2).bind fun t101=>(if t101.2.2.2.2.isNone=true then (if c1=true then (accum_Acc_deposit.j0 k c0 c1 (wrap64 (c2+1)) c3 a3 true t100.1 t100.2.1 t100.2.2.1 t100.2.2.2.1 t101.1 t101.2.1 t101.2.2.1 t101.2.2.2.1) else (if t100.1=2 then (accum_Acc_deposit.j0 k c0 c1 (wrap64 (c2+1)) c3 a3 true t100.1 t100.2.1 t100.2.2.1 t100.2.2.2.1 t101.1 t101.2.1 t101.2.2.1 t101.2.2.2.1) else (accum_Acc_deposit.j0 k c0 c1 (wrap64 (c2+1)) c3 a3 (t101.1==2) t100.1 t100.2.1 t100.2.2.1 t100.2.2.2.1 t101.1 t101.2.1 t101.2.2.1 t101.2.2.2.1))) else (some ((c0,c1,c2,c3),(),some (t101.2.2.2.2.getD 0))))) else (some ((c0,c1,c2,c3),(),some (t100.2.2.2.2.getD 0)))))
--@ok
def accum_Acc_deposit.c (k:Nat):RCon:=S105.con fun x y=>accum_Acc_deposit.f k x.1 x.2.1 x.2.2.1 x.2.2.2 y.1 y.2.1 y.2.2
def accum_Acc_deposit.G (k:Nat):List (Go.FuncId×Cn):=[(95,.f (codec_Decode.c k)),(151,.f bits_Mul64.c),(152,.r (accum_Acc_enter.c k))]
def accum_Acc_deposit.cuts:List (Cut (RSig.R S105)):=[⟨[1,4,0,1,1,1,1,1,1,1],[.mbw (some 0) 100 [.int .i64,.bool,.int .i64] .u64 16 [],.sc 3 (.bool),.sc 52 (.bool),.box 9 137 [.int .i64,.bool,.int .i64,.int .u64],.box 11 137 [.int .i64,.bool,.int .i64,.int .u64]],fun k x=>accum_Acc_deposit.j0 k x.1.1 x.1.2.1 x.1.2.2.1 x.1.2.2.2 x.2.1 x.2.2.1 x.2.2.2.1.1 x.2.2.2.1.2.1 x.2.2.2.1.2.2.1 x.2.2.2.1.2.2.2 x.2.2.2.2.1 x.2.2.2.2.2.1 x.2.2.2.2.2.2.1 x.2.2.2.2.2.2.2⟩,⟨[1,3,1,4,0,1,1,1,1,1,1,1],[.mbw (some 0) 100 [.int .i64,.bool,.int .i64] .u64 16 [],.sc 3 (.bool),.sc 74 (.bool),.box 9 137 [.int .i64,.bool,.int .i64,.int .u64],.box 11 137 [.int .i64,.bool,.int .i64,.int .u64]],fun k x=>accum_Acc_deposit.j1 k x.1.1 x.1.2.1 x.1.2.2.1 x.1.2.2.2 x.2.1 x.2.2.1 x.2.2.2.1.2.1 x.2.2.2.1.2.2.1 x.2.2.2.1.2.2.2 x.2.2.2.2.2.1 x.2.2.2.2.2.2.1 x.2.2.2.2.2.2.2⟩,⟨[6,4,0,1,1,2,1,3,1,4,0,1,1,1,1,1,1,1],[.mbw (some 0) 100 [.int .i64,.bool,.int .i64] .u64 16 [],.sc 3 (.bool),.sc 12 (.int .u64),.sc 13 (.int .u64),.sc 14 (.int .i64),.box 9 137 [.int .i64,.bool,.int .i64,.int .u64],.box 11 137 [.int .i64,.bool,.int .i64,.int .u64]],fun k x=>accum_Acc_deposit.l0 k x.1.1 x.1.2.1 x.1.2.2.1 x.1.2.2.2 x.2.1 x.2.2.1 x.2.2.2.1 x.2.2.2.2.1 x.2.2.2.2.2.1.2.1 x.2.2.2.2.2.2.2.1⟩]
theorem accum_Acc_deposit.w0 (gg:Nat) (k:Nat) (x:ET [.mbw (some 0) 100 [.int .i64,.bool,.int .i64] .u64 16 [],.sc 3 (.bool),.sc 52 (.bool),.box 9 137 [.int .i64,.bool,.int .i64,.int .u64],.box 11 137 [.int .i64,.bool,.int .i64,.int .u64]]):walk (E105 gg) (accum_Acc_deposit.G k) (cutsAt (E105 gg) k accum_Acc_deposit.cuts) (retR (E105 gg) Tryz.f105.results.toList S105) 4000 true (stackAt B105 [1,4,0,1,1,1,1,1,1,1]) (mkE [.mbw (some 0) 100 [.int .i64,.bool,.int .i64] .u64 16 [],.sc 3 (.bool),.sc 52 (.bool),.box 9 137 [.int .i64,.bool,.int .i64,.int .u64],.box 11 137 [.int .i64,.bool,.int .i64,.int .u64]] x St.nil)=accum_Acc_deposit.j0 (k+1) x.1.1 x.1.2.1 x.1.2.2.1 x.1.2.2.2 x.2.1 x.2.2.1 x.2.2.2.1.1 x.2.2.2.1.2.1 x.2.2.2.1.2.2.1 x.2.2.2.1.2.2.2 x.2.2.2.2.1 x.2.2.2.2.2.1 x.2.2.2.2.2.2.1 x.2.2.2.2.2.2.2:=by kernel_rfl
theorem accum_Acc_deposit.w1 (gg:Nat) (k:Nat) (x:ET [.mbw (some 0) 100 [.int .i64,.bool,.int .i64] .u64 16 [],.sc 3 (.bool),.sc 74 (.bool),.box 9 137 [.int .i64,.bool,.int .i64,.int .u64],.box 11 137 [.int .i64,.bool,.int .i64,.int .u64]]):walk (E105 gg) (accum_Acc_deposit.G k) (cutsAt (E105 gg) k accum_Acc_deposit.cuts) (retR (E105 gg) Tryz.f105.results.toList S105) 4000 true (stackAt B105 [1,3,1,4,0,1,1,1,1,1,1,1]) (mkE [.mbw (some 0) 100 [.int .i64,.bool,.int .i64] .u64 16 [],.sc 3 (.bool),.sc 74 (.bool),.box 9 137 [.int .i64,.bool,.int .i64,.int .u64],.box 11 137 [.int .i64,.bool,.int .i64,.int .u64]] x St.nil)=accum_Acc_deposit.j1 (k+1) x.1.1 x.1.2.1 x.1.2.2.1 x.1.2.2.2 x.2.1 x.2.2.1 x.2.2.2.1.2.1 x.2.2.2.1.2.2.1 x.2.2.2.1.2.2.2 x.2.2.2.2.2.1 x.2.2.2.2.2.2.1 x.2.2.2.2.2.2.2:=by kernel_rfl
theorem accum_Acc_deposit.w2 (gg:Nat) (k:Nat) (x:ET [.mbw (some 0) 100 [.int .i64,.bool,.int .i64] .u64 16 [],.sc 3 (.bool),.sc 12 (.int .u64),.sc 13 (.int .u64),.sc 14 (.int .i64),.box 9 137 [.int .i64,.bool,.int .i64,.int .u64],.box 11 137 [.int .i64,.bool,.int .i64,.int .u64]]):walk (E105 gg) (accum_Acc_deposit.G k) (cutsAt (E105 gg) k accum_Acc_deposit.cuts) (retR (E105 gg) Tryz.f105.results.toList S105) 4000 true (stackAt B105 [6,4,0,1,1,2,1,3,1,4,0,1,1,1,1,1,1,1]) (mkE [.mbw (some 0) 100 [.int .i64,.bool,.int .i64] .u64 16 [],.sc 3 (.bool),.sc 12 (.int .u64),.sc 13 (.int .u64),.sc 14 (.int .i64),.box 9 137 [.int .i64,.bool,.int .i64,.int .u64],.box 11 137 [.int .i64,.bool,.int .i64,.int .u64]] x St.nil)=accum_Acc_deposit.l0 (k+1) x.1.1 x.1.2.1 x.1.2.2.1 x.1.2.2.2 x.2.1 x.2.2.1 x.2.2.2.1 x.2.2.2.2.1 x.2.2.2.2.2.1.2.1 x.2.2.2.2.2.2.2.1:=by kernel_rfl
theorem accum_Acc_deposit.w (gg:Nat) (k:Nat) (x:RcT S105.rL S105.win) (y:TT S105.sa):walk (E105 gg) (accum_Acc_deposit.G k) (cutsAt (E105 gg) k accum_Acc_deposit.cuts) (retR (E105 gg) Tryz.f105.results.toList S105) 4000 true [([],.code B105)] (St0R S105 x y)=accum_Acc_deposit.f k x.1 x.2.1 x.2.2.1 x.2.2.2 y.1 y.2.1 y.2.2:=by kernel_rfl
theorem accum_Acc_deposit.ok (k:Nat):FnOkR Tryz.prog (E105 0).eT 105 (accum_Acc_deposit.c k):=FnOkR.walk (P:=(E105 0).P) (eT:=(E105 0).eT) (N:=(E105 0).N) (wf:=(E105 0).wf) (body:=B105) Tryz.func105 rfl (by rfl) Tryz.ntmps105 S105 (by rfl) (fun k x y=>accum_Acc_deposit.f k x.1 x.2.1 x.2.2.1 x.2.2.2 y.1 y.2.1 y.2.2) accum_Acc_deposit.G (fun k=>⟨codec_Decode.ok k,bits_Mul64.ok,accum_Acc_enter.ok k,trivial⟩) 4000 accum_Acc_deposit.cuts (fun gg=>⟨⟨fun _=>rfl,fun k x q h=>(accum_Acc_deposit.w0 gg k x).trans h⟩,⟨fun _=>rfl,fun k x q h=>(accum_Acc_deposit.w1 gg k x).trans h⟩,⟨fun _=>rfl,fun k x q h=>(accum_Acc_deposit.w2 gg k x).trans h⟩,trivial⟩) (fun gg k x y r h=>(accum_Acc_deposit.w gg k x y).trans h) k
def S67:RSig:=⟨some ⟨[.int .i64,.bool,.int .i64],some (.u64,16)⟩,100,false,false,[.s,.s],[(.int .u64),(.int .u64)],none,0,false,[.s],[.err],true⟩
def E67 (gg:Nat):En:=enR Tryz.prog 76 Tryz.f67.ntmps [105] S67 gg
def B67:Go.Code:=Tryz.f67.body.get!
def accum_Acc_Put.f (k:Nat) (c0:Int) (c1:Bool) (c2:Int) (c3:List Int) (a1:Int) (a2:Int):Option (((Int×Bool×Int×List Int))×Unit×(Option Int)):=(accum_Acc_deposit.f k c0 c1 c2 c3 a1 a2 false).bind fun t100=>(some ((t100.1.1,t100.1.2.1,t100.1.2.2.1,t100.1.2.2.2),(),t100.2.2))
--@ok
def accum_Acc_Put.c (k:Nat):RCon:=S67.con fun x y=>accum_Acc_Put.f k x.1 x.2.1 x.2.2.1 x.2.2.2 y.1 y.2
def accum_Acc_Put.G (k:Nat):List (Go.FuncId×Cn):=[(105,.r (accum_Acc_deposit.c k))]
def accum_Acc_Put.cuts:List (Cut (RSig.R S67)):=[]
theorem accum_Acc_Put.w (gg:Nat) (k:Nat) (x:RcT S67.rL S67.win) (y:TT S67.sa):walk (E67 gg) (accum_Acc_Put.G k) (cutsAt (E67 gg) k accum_Acc_Put.cuts) (retR (E67 gg) Tryz.f67.results.toList S67) 4000 true [([],.code B67)] (St0R S67 x y)=accum_Acc_Put.f k x.1 x.2.1 x.2.2.1 x.2.2.2 y.1 y.2:=by kernel_rfl
theorem accum_Acc_Put.ok (k:Nat):FnOkR Tryz.prog (E67 0).eT 67 (accum_Acc_Put.c k):=FnOkR.walk (P:=(E67 0).P) (eT:=(E67 0).eT) (N:=(E67 0).N) (wf:=(E67 0).wf) (body:=B67) Tryz.func67 rfl (by rfl) Tryz.ntmps67 S67 (by rfl) (fun k x y=>accum_Acc_Put.f k x.1 x.2.1 x.2.2.1 x.2.2.2 y.1 y.2) accum_Acc_Put.G (fun k=>⟨accum_Acc_deposit.ok k,trivial⟩) 4000 accum_Acc_Put.cuts (fun gg=>trivial) (fun gg k x y r h=>(accum_Acc_Put.w gg k x y).trans h) k
end Go.Proofs.YtbpcfhhcoklinaaGreat.Fn
namespace Go.Proofs.YtbpcfhhcoklinaaGreat.V
open Go Go.RowKit Go.Proofs.YtbpcfhhcoklinaaGreat.Ab Go.Proofs.YtbpcfhhcoklinaaGreat.Fn
theorem shl_hi (V k:Nat) (h:V < 2^128) (hk:k≤64):
  V*2^k%2^128 / 2^64=V / 2^64*2^k%2^64+V%2^64 / 2^(64 - k):=by
 have s:=pow_split hk
 have p1:=two_pos k
 have p2:=two_pos (64 - k)
 rw [show (2:Nat)^128=2^64*2^64 by decide,Nat.mod_mul_right_div_self]
 generalize hq:V / 2^64=q
 generalize hr:V%2^64=r
 have hV:V=q*2^64+r:=by subst hq hr;have:=Nat.div_add_mod V (2^64);omega
 have hr':r < 2^64:=by subst hr;exact Nat.mod_lt _ (two_pos 64)
 generalize hb:r / 2^(64 - k)=b
 generalize hc:r%2^(64 - k)=c
 have hr2:r=2^(64 - k)*b+c:=by subst hb hc;exact (Nat.div_add_mod _ _).symm
 have hc':c < 2^(64 - k):=by subst hc;exact Nat.mod_lt _ p2
 have hb':b < 2^k:=by subst hb;rw [Nat.div_lt_iff_lt_mul p2];rw [s];exact hr'
 have e:V*2^k=(q*2^k+b)*2^64+c*2^k:=by
  rw [hV,hr2,← s];grind
 have hc2:c*2^k < 2^64:=by
  rw [← s,Nat.mul_comm];exact Nat.mul_lt_mul_of_pos_left hc' p1
 have d:V*2^k / 2^64=q*2^k+b:=by
  rw [e,Nat.add_comm,Nat.add_mul_div_right _ _ (two_pos 64),Nat.div_eq_of_lt hc2];omega
 rw [d]
 have m1:q*2^k%2^64=q%2^(64 - k)*2^k:=by
  rw [← s,Nat.mul_comm (2^k),Nat.mul_mod_mul_right]
 have m2:q%2^(64 - k)*2^k+b < 2^64:=by
  have:q%2^(64 - k)+1≤2^(64 - k):=Nat.mod_lt _ p2
  have:=Nat.mul_le_mul_right (2^k) this
  rw [Nat.mul_comm (2^(64 - k)),s,Nat.add_mul] at this
  omega
 rw [Nat.add_mod,m1,Nat.mod_eq_of_lt (Nat.lt_of_lt_of_le hb' (pow_le hk)),Nat.mod_eq_of_lt m2]
theorem twin_shl_eq (V k:Nat) (h:V < 2^128) (hk:k≤128):
  twin_shl.f (TH V) (TL V) (k:Int)=some (TH (V*2^k%2^128),TL (V*2^k%2^128)):=by
 unfold twin_shl.f
 have hT:V / 18446744073709551616 < 18446744073709551616:=by rw [p128] at h;omega
 have hL:V%18446744073709551616 < 18446744073709551616:=by omega
 by_cases h64:64≤k
 ·rw [if_pos (by omega),w64 (by omega) (by omega),if_pos (by omega)]
  have e:((k:Int) - 64)=((k - 64:Nat):Int):=by omega
  rw [e]
  unfold TL TH
  rw [shl_nat _ _ (by omega)]
  have s:(2:Nat)^k=2^64*2^(k - 64):=by rw [← Nat.pow_add];congr 1;omega
  have g:V*2^k=V*2^(k - 64)*18446744073709551616:=by rw [s,p64];grind
  have g1:V%18446744073709551616*2^(k - 64)%18446744073709551616=V*2^k%2^128 / 18446744073709551616:=by
   rw [p128,mod128_hi,g,Nat.mul_div_cancel _ (by decide),Nat.mod_mul_mod]
  have g2:V*2^k%2^128%18446744073709551616=0:=by rw [g,p128];omega
  rw [g1,g2]
  rfl
 ·rw [if_neg (by omega),if_pos (by omega),w64 (by omega) (by omega),if_pos (by omega)]
  have e:(64 - (k:Int))=((64 - k:Nat):Int):=by omega
  rw [e]
  unfold TL TH
  rw [shl_nat _ _ (by omega),shl_nat _ _ (by omega),shr_nat _ _ (by omega)]
  have hh:=shl_hi V k h (by omega)
  have p2:=two_pos (64 - k)
  have s:=pow_split (show k≤64 by omega)
  rw [or_add _ _ k (Nat.mod_lt _ (by decide)) ?_ ?_ ?_]
  ·congr 3
   ·rw [← p64,hh]
   ·rw [Nat.mod_mul_mod,p128];omega
  ·rw [← p64,← s,Nat.mod_mul_right_mod,Nat.mul_mod_left]
  ·rw [Nat.div_lt_iff_lt_mul p2,s,p64];exact hL
  ·exact Nat.lt_of_le_of_lt (Nat.div_le_self _ _) hL
theorem shr_lo (V k:Nat) (hk:k≤64):V / 2^k%2^64=V%2^64 / 2^k+V / 2^64*2^(64 - k)%2^64:=by
 have s:=pow_split hk
 have p1:=two_pos k
 have p2:=two_pos (64 - k)
 generalize hq:V / 2^64=q
 generalize hr:V%2^64=r
 have hV:V=q*2^64+r:=by subst hq hr;have:=Nat.div_add_mod V (2^64);omega
 have hr':r < 2^64:=by subst hr;exact Nat.mod_lt _ (two_pos 64)
 have e:V / 2^k=r / 2^k+q*2^(64 - k):=by
  rw [hV,← s,show q*(2^k*2^(64 - k))+r=r+q*2^(64 - k)*2^k by grind,Nat.add_mul_div_right _ _ p1]
 have hb:r / 2^k < 2^(64 - k):=by rw [Nat.div_lt_iff_lt_mul p1,Nat.mul_comm,s];exact hr'
 have m1:q*2^(64 - k)%2^64=q%2^k*2^(64 - k):=by
  rw [← s,Nat.mul_mod_mul_right]
 have m2:r / 2^k+q%2^k*2^(64 - k) < 2^64:=by
  have:q%2^k+1≤2^k:=Nat.mod_lt _ p1
  have:=Nat.mul_le_mul_right (2^(64 - k)) this
  rw [s,Nat.add_mul] at this
  omega
 rw [e,Nat.add_mod,m1,Nat.mod_eq_of_lt (Nat.lt_of_lt_of_le hb (pow_le (by omega))),Nat.mod_eq_of_lt m2]
theorem twin_shr_eq (V k:Nat) (h:V < 2^128) (hk:k≤128):
  twin_shr.f (TH V) (TL V) (k:Int)=some (TH (V / 2^k),TL (V / 2^k)):=by
 unfold twin_shr.f
 have hT:V / 18446744073709551616 < 18446744073709551616:=by rw [p128] at h;omega
 have hL:V%18446744073709551616 < 18446744073709551616:=by omega
 by_cases h64:64≤k
 ·rw [if_pos (by omega),w64 (by omega) (by omega),if_pos (by omega)]
  have e:((k:Int) - 64)=((k - 64:Nat):Int):=by omega
  rw [e]
  unfold TL TH
  rw [shr_nat _ _ (by omega)]
  have s:(2:Nat)^k=2^64*2^(k - 64):=by rw [← Nat.pow_add];congr 1;omega
  have lt:V / 2^k < 2^64:=by
   rw [s,← Nat.div_div_eq_div_mul,p64]
   exact Nat.lt_of_le_of_lt (Nat.div_le_self _ _) hT
  rw [Nat.div_eq_of_lt (show V / 2^k < 18446744073709551616 by rw [← p64];exact lt),Nat.mod_eq_of_lt (show V / 2^k < 18446744073709551616 by rw [← p64];exact lt),s,← Nat.div_div_eq_div_mul,p64]
  rfl
 ·rw [if_neg (by omega),if_pos (by omega),w64 (by omega) (by omega),if_pos (by omega)]
  have e:(64 - (k:Int))=((64 - k:Nat):Int):=by omega
  rw [e]
  unfold TL TH
  rw [shr_nat _ _ (by omega),shr_nat _ _ (by omega),shl_nat _ _ (by omega)]
  have hh:=shr_lo V k (by omega)
  have p1:=two_pos k
  have s:=pow_split (show k≤64 by omega)
  have hs:V%18446744073709551616 / 2^k < 2^(64 - k):=by rw [Nat.div_lt_iff_lt_mul p1,Nat.mul_comm,s,p64];exact hL
  have oc:Go.bits .or .u64 ((V%18446744073709551616 / 2^k:Nat):Int) ((V / 18446744073709551616*2^(64 - k)%18446744073709551616:Nat):Int)=((V%18446744073709551616 / 2^k+V / 18446744073709551616*2^(64 - k)%18446744073709551616:Nat):Int):=by
   rw [or_nat _ _ (Nat.lt_of_le_of_lt (Nat.div_le_self _ _) hL) (Nat.mod_lt _ (by decide)),Nat.or_comm]
   have e2:V / 18446744073709551616*2^(64 - k)%18446744073709551616=V / 18446744073709551616%2^k*2^(64 - k):=by
    rw [← p64,← s,Nat.mul_mod_mul_right]
   rw [e2,or_parts hs,Nat.add_comm]
  have g1:V / 18446744073709551616 / 2^k=V / 2^k / 18446744073709551616:=by rw [Nat.div_div_eq_div_mul,Nat.div_div_eq_div_mul,Nat.mul_comm]
  rw [oc,g1,← p64,hh]
theorem twin_Len_eq (V:Nat) (h:V < 2^128):twin_Len.f (TH V) (TL V)=some ((bl V:Nat):Int):=by
 unfold twin_Len.f bits_Len64.f TH TL
 have hT:V / 18446744073709551616 < 18446744073709551616:=by rw [p128] at h;omega
 have hL:V%18446744073709551616 < 18446744073709551616:=by omega
 have c1:=bl_le_of_lt h
 by_cases h0:0 < V / 18446744073709551616
 ·rw [if_pos (by omega),if_pos ⟨by omega,by omega⟩]
  simp only [Option.bind_some]
  have e:Lib.bitLen (V / 18446744073709551616)=bl (V / 18446744073709551616):=bitLen_bl (by rw [p64];exact hT)
  have c2:=bl_le_of_lt (show V / 18446744073709551616 < 2^64 by rw [p64];exact hT)
  have a:=bl_lt (V / 18446744073709551616)
  have b:=bl_le h0
  have c:=bl_pos h0
  have l:bl V=64+bl (V / 18446744073709551616):=by
   refine bl_unique (by omega) ?_ ?_
   ·rw [show 64+bl (V / 18446744073709551616) - 1=64+(bl (V / 18446744073709551616) - 1) by omega,Nat.pow_add,p64]
    have:=Nat.div_mul_le_self V 18446744073709551616
    have:=Nat.mul_le_mul_left 18446744073709551616 b
    omega
   ·rw [Nat.pow_add,p64]
    have e:=Nat.div_add_mod V 18446744073709551616
    have:=Nat.mul_le_mul_left 18446744073709551616 a
    omega
  rw [Int.toNat_natCast,e,w64 (by omega) (by omega),l]
  congr 1
 ·rw [if_neg (by omega),if_pos ⟨by omega,by omega⟩]
  simp only [Option.bind_some]
  rw [Int.toNat_natCast,bitLen_bl (by rw [p64];exact hL)]
  have:V%18446744073709551616=V:=by omega
  rw [this]
theorem twin_Shl_eq (V k:Nat) (h:V < 2^128) (hk:k≤128):
  twin_Shl.f (TH V) (TL V) (k:Int)=some (TH (V*2^k%2^128),TL (V*2^k%2^128),decide (128 < bl V+k),none):=by
 unfold twin_Shl.f
 rw [if_neg (by omega)]
 have e:mn (k:Int) 128=k:=by unfold mn;rw [if_neg (by omega)]
 rw [e,twin_shl_eq V k h hk]
 simp only [Option.bind_some]
 rw [twin_Len_eq V h]
 simp only [Option.bind_some]
 have c1:=bl_le_of_lt h
 rw [w64 (by omega) (by omega)]
 congr 4
 rw [decide_eq_decide]
 omega
theorem twin_Shr_eq (V k:Nat) (h:V < 2^128) (hk:k≤128):
  twin_Shr.f (TH V) (TL V) (k:Int)=some (TH (V / 2^k),TL (V / 2^k),decide (V%2^k≠0),none):=by
 unfold twin_Shr.f
 rw [if_neg (by omega)]
 have e:mn (k:Int) 128=k:=by unfold mn;rw [if_neg (by omega)]
 rw [e,twin_shr_eq V k h hk]
 simp only [Option.bind_some]
 have h2:V / 2^k < 2^128:=Nat.lt_of_le_of_lt (Nat.div_le_self _ _) h
 rw [twin_shl_eq _ k h2 hk]
 simp only [Option.bind_some]
 have hm:V / 2^k*2^k%2^128=V / 2^k*2^k:=Nat.mod_eq_of_lt (Nat.lt_of_le_of_lt (Nat.div_mul_le_self _ _) h)
 rw [hm]
 have hd:=Nat.div_add_mod V (2^k)
 rw [Nat.mul_comm] at hd
 have key:(!(TH (V / 2^k*2^k)==TH V) || !(TL (V / 2^k*2^k)==TL V))=decide (V%2^k≠0):=by
  by_cases hz:V%2^k=0
  ·have:V / 2^k*2^k=V:=by omega
   rw [this];simp [hz]
  ·have:V / 2^k*2^k≠V:=by omega
   have hne:¬ (TH (V / 2^k*2^k)=TH V∧TL (V / 2^k*2^k)=TL V):=fun ⟨h1,h2⟩=>this (T_eq h1 h2)
   rw [decide_eq_true hz]
   by_cases h1:TH (V / 2^k*2^k)=TH V
   ·have h2:TL (V / 2^k*2^k)≠TL V:=fun h2=>hne ⟨h1,h2⟩
    simp [h1,h2]
   ·simp [h1]
 rw [Bool.not_and,key]
theorem twin_Norm_zero:twin_Norm.f 0 0=some (0,0,0):=by unfold twin_Norm.f;rfl
theorem twin_Norm_eq (V:Nat) (h:V < 2^128) (h0:0 < V):
  twin_Norm.f (TH V) (TL V)=some (TH (V*2^(128 - bl V)),TL (V*2^(128 - bl V)),((128 - bl V:Nat):Int)):=by
 unfold twin_Norm.f
 have c1:=bl_le_of_lt h
 have hz:¬ (TH V==0&&TL V==0)=true:=by
  intro hc
  simp only [Bool.and_eq_true,beq_iff_eq] at hc
  unfold TH TL at hc;omega
 rw [if_neg hz,twin_Len_eq V h]
 simp only [Option.bind_some]
 rw [w64 (by omega) (by omega)]
 have e:(128 - (bl V:Int))=((128 - bl V:Nat):Int):=by omega
 rw [e,twin_shl_eq V _ h (by omega)]
 simp only [Option.bind_some]
 have hm:V*2^(128 - bl V)%2^128=V*2^(128 - bl V):=by
  refine Nat.mod_eq_of_lt ?_
  rw [← pow_split c1]
  exact Nat.mul_lt_mul_of_pos_right (bl_lt V) (two_pos _)
 rw [hm]
end Go.Proofs.YtbpcfhhcoklinaaGreat.V
namespace Go.Proofs.YtbpcfhhcoklinaaGreat.V
open Go Go.RowKit Go.Proofs.YtbpcfhhcoklinaaGreat.Ab Go.Proofs.YtbpcfhhcoklinaaGreat.Fn
def isW (n:Int):Bool:=n==8||n==16||n==32||n==64
theorem isW_cases {n:Int} (h:isW n=true):n=8∨n=16∨n=32∨n=64:=by
  unfold isW at h;simp at h;omega
theorem shape_is_eq (n:Int):shape_is.f n=some (isW n):=by
  unfold shape_is.f isW
  by_cases h1:n=8
  · simp [h1]
  · by_cases h2:n=16
    · simp [h2]
    · by_cases h3:n=32
      · simp [h3]
      · by_cases h4:n=64
        · simp [h4]
        · simp [h1,h2,h3,h4]
theorem shape_Of_eq {n:Nat} (h:isW n=true):shape_Of.f n=some ((n:Int),((2^(n - 1) - 1:Nat):Int),1,((2^(n - 1):Nat):Int),4*(n:Int) - 8,none):=by
  unfold shape_Of.f
  rw [shape_is_eq,h]
  have h':n=8∨n=16∨n=32∨n=64:=by have:=isW_cases h;omega
  rcases h' with rfl | rfl | rfl | rfl <;> decide +kernel
def soundE (kd:Int) (ng:Bool) (sc hi lo:Int) (rs:Bool):Bool:=
  if kd=0∨kd=2 then (!ng&&(sc==0&&(hi==0&&(lo==0 && !rs))))
  else decide (kd=1∧9223372036854775808≤hi∧-1099511627776≤sc∧sc≤1099511627776)
def heldI (s:Int):Int:=if s < -1099511627776 then -1099511627776 else if 1099511627776 < s then 1099511627776 else s
theorem round_held_eq (s:Int):round_held.f s=some (heldI s):=by
  unfold round_held.f heldI mx mn
  congr 1
  repeat' split
  all_goals omega
theorem round_sound_eq (kd : Int) (ng : Bool) (sc hi lo : Int) (rs : Bool) (h : hi < 18446744073709551616) (h0 : 0 ≤ hi) :
    Ev (fun k=>round_sound.f k kd ng sc hi lo rs) (soundE kd ng sc hi lo rs):=by
  unfold round_sound.f soundE
  by_cases h0:kd=0
  · simp only [if_pos h0,if_pos (Or.inl h0:kd=0∨kd=2)]
    refine Ev.step (f:=fun _=>_) (fun k=>by simp only [round_sound.j0,nI_eq];rw [if_pos (by simp [h0])];simp) (Ev.now _)
  · simp only [if_neg h0]
    by_cases h2:kd=2
    · simp only [if_pos (Or.inr h2:kd=0∨kd=2)]
      refine Ev.step (f:=fun _=>_) (fun k=>by simp only [round_sound.j0,nI_eq];rw [if_pos (by simp [h2])];simp) (Ev.now _)
    · simp only [if_neg (show ¬ (kd=0∨kd=2) by omega)]
      refine Ev.step (f:=fun _=>_) (fun k=>by simp only [round_sound.j0,nI_eq];rw [if_neg (by simp [h2])]) ?_
      simp only [round_held_eq,Option.bind_some]
      refine Ev.congr (f:=fun _=>some _) (fun _=>?_) (Ev.now _)
      by_cases h1:kd=1
      · rw [if_pos h1]
        by_cases h3:hi / 9223372036854775808=1
        · rw [if_pos h3]
          congr 1
          rw [Bool.eq_iff_iff]
          simp only [beq_iff_eq,decide_eq_true_eq,heldI]
          split
          · omega
          · split <;> omega
        · rw [if_neg h3]
          congr 1
          symm
          rw [decide_eq_false_iff_not]
          omega
      · rw [if_neg h1]
        congr 1
        symm
        rw [decide_eq_false_iff_not]
        omega
theorem round_under_eq (X a b m : Nat) (R : Bool) (hX : X < 2 ^ (128 + a)) (hb : b < 2 ^ m) (hm : m ≤ 64) :
    round_under.f (TH (X / 2^a)) (TL (X / 2^a)) (b:Int) (m:Int) (R||decide (X%2^a≠0)) =
      some (TH ((b*2^(128+a)+X) / 2^(a+m)),TL ((b*2^(128+a)+X) / 2^(a+m)),R||decide ((b*2^(128+a)+X)%2^(a+m)≠0)):=by
  unfold round_under.f
  have pa:=two_pos a
  have pm:=two_pos m
  have hw:X / 2^a < 2^128:=by rw [Nat.div_lt_iff_lt_mul pa,← Nat.pow_add];exact hX
  rw [twin_Shr_eq _ m hw (by omega)]
  simp only [Option.bind_some]
  rw [w64 (by omega) (by omega),if_pos (by omega)]
  have e64:(64 - (m:Int))=((64 - m:Nat):Int):=by omega
  rw [e64,shl_nat _ _ (by omega)]
  -- the new string's upper bits
  have s:=pow_split hm
  have hbl:b*2^(64 - m) < 2^64:=by rw [← s];exact Nat.mul_lt_mul_of_pos_right hb (two_pos _)
  rw [Nat.mod_eq_of_lt (show b*2^(64 - m) < 18446744073709551616 by rw [← p64];exact hbl)]
  generalize hw2:X / 2^a=w at hw
  have e1:(b*2^(128+a)+X) / 2^(a+m)=b*2^(128 - m)+w / 2^m:=by
    have s1:b*2^(128+a)=b*2^(128 - m)*2^(a+m):=by
      rw [Nat.mul_assoc,← Nat.pow_add];congr 2;omega
    rw [s1,Nat.add_comm,Nat.add_mul_div_right _ _ (two_pos _),Nat.pow_add,← Nat.div_div_eq_div_mul,hw2,Nat.add_comm]
  have hwm:w / 2^m < 2^(128 - m):=by
    rw [Nat.div_lt_iff_lt_mul pm,Nat.mul_comm,pow_split (by omega)];exact hw
  have e2:b*2^(128 - m)=b*2^(64 - m)*18446744073709551616:=by
    rw [← p64,Nat.mul_assoc,← Nat.pow_add];congr 2;omega
  have hq:w / 2^m / 18446744073709551616 < 2^(64 - m):=by
    rw [← p64,Nat.div_lt_iff_lt_mul (two_pos 64),← Nat.pow_add]
    exact Nat.lt_of_lt_of_eq hwm (by congr 1;omega)
  have hor:Go.bits .or .u64 (TH (w / 2^m)) ((b*2^(64 - m):Nat):Int)=TH (b*2^(128 - m)+w / 2^m):=by
    unfold TH
    have hlt:w / 2^m / 18446744073709551616 < 18446744073709551616:=Nat.lt_of_lt_of_le hq (by rw [← p64];exact pow_le (by omega))
    rw [or_nat _ _ hlt (by rw [← p64];exact hbl),Nat.or_comm,or_parts hq,e2]
    congr 1
    omega
  have hlo:TL (w / 2^m)=TL (b*2^(128 - m)+w / 2^m):=by unfold TL;rw [e2];congr 1;omega
  have e3:decide ((b*2^(128+a)+X)%2^(a+m)≠0)=(decide (X%2^a≠0)||decide (w%2^m≠0)):=by
    have s1:b*2^(128+a)=b*2^(128 - m)*2^(a+m):=by
      rw [Nat.mul_assoc,← Nat.pow_add];congr 2;omega
    have s2:(b*2^(128+a)+X)%2^(a+m)=X%2^(a+m):=by rw [s1,Nat.mul_add_mod_self_right]
    have s3:X%2^(a+m)=2^a*(w%2^m)+X%2^a:=by
      rw [Nat.pow_add,Nat.mod_mul,hw2,Nat.add_comm]
    rw [s2,s3,Bool.eq_iff_iff]
    simp only [Bool.or_eq_true,decide_eq_true_eq]
    have hz:2^a*(w%2^m)=0↔w%2^m=0:=by
      rw [Nat.mul_eq_zero];constructor
      · rintro (h | h)
        · omega
        · exact h
      · exact .inr
    omega
  rw [hor,hlo,e1,e3]
  cases R <;> by_cases hd:X%2^a=0 <;> simp [hd]
theorem round_left_eq (b:Nat) (R:Bool) (hb:b < 18446744073709551616):Ev (fun k=>round_left.f k (b:Int) R) (lft b 64 R):=by
  unfold round_left.f lft
  rw [p64]
  by_cases h1:(b:Int) > 9223372036854775808
  · simp only [if_pos h1,if_pos (show 18446744073709551616 < 2*b by omega)]
    exact Ev.step (f:=fun _=>some 3) (fun k=>by simp only [round_left.j0,nI_eq];rw [if_pos (by simpa using h1)]) (Ev.now _)
  · simp only [if_neg h1,if_neg (show ¬ 18446744073709551616 < 2*b by omega)]
    by_cases h2:(b:Int)=9223372036854775808
    · simp only [if_pos h2,if_pos (show 2*b=18446744073709551616 by omega)]
      refine evs ?_
      simp only [round_left.j0,nI_eq]
      refine evn ?_
      cases R
      · simp [h2]
      · simp
    · simp only [if_neg h2,if_neg (show ¬ 2*b=18446744073709551616 by omega)]
      refine evs ?_
      simp only [round_left.j0,nI_eq]
      refine evn ?_
      by_cases h3:0 < b
      · rw [if_neg (by simp),if_neg h2,if_pos (by omega),if_pos h3]
      · rw [if_neg (by simp),if_neg h2,if_neg (by omega),if_neg h3]
        cases R <;> simp
theorem round_Cut_j3 (n X a : Nat) (R : Bool) (h8 : 8 ≤ n) (h64 : n ≤ 64) (hX : X < 2 ^ (128 + a)) :
    Ev (fun k=>round_Cut.j3 k (n:Int) (R||decide (X%2^a≠0)) (TH (X / 2^a)) (TL (X / 2^a)))
      (((X / 2^(129 - n+a):Nat):Int),lft (X%2^(129 - n+a)) (129 - n+a) R,none):=by
  have pa:=two_pos a
  have hw:X / 2^a < 2^128:=by rw [Nat.div_lt_iff_lt_mul pa,← Nat.pow_add];exact hX
  generalize hw2:X / 2^a=w at hw
  refine evs ?_
  simp only [round_Cut.j3,nI_eq]
  have e1:wrap64 (65 - (n:Int))=((65 - n:Nat):Int):=by rw [w64 (by omega) (by omega)];omega
  have e2:wrap64 ((n:Int) - 1)=((n - 1:Nat):Int):=by rw [w64 (by omega) (by omega)];omega
  simp only [e1,e2,if_pos (show (0:Int)≤((65 - n:Nat):Int) by omega)]
  simp only [twin_Shl_eq w (n - 1) hw (by omega),Option.bind_some]
  -- what is behind
  have hsplit:w*2^(n - 1)%2^128=w%2^(129 - n)*2^(n - 1):=by
    have e:(2:Nat)^128=2^(129 - n)*2^(n - 1):=by rw [← Nat.pow_add];congr 1;omega
    rw [e,Nat.mul_mod_mul_right]
  generalize hb:w*2^(n - 1)%2^128=bh at hsplit
  have hbh:bh < 340282366920938463463374607431768211456:=by rw [← hb,← p128];exact Nat.mod_lt _ (two_pos 128)
  have hP:shr .u64 (TH w) ((65 - n:Nat):Int)=((X / 2^(129 - n+a):Nat):Int):=by
    unfold TH
    rw [shr_nat _ _ (by omega),← p64,div_div_pow,← hw2,div_div_pow]
    congr 3;omega
  have hL:∀ R':Bool,R'=(R||decide (X%2^a≠0))→lft (bh / 18446744073709551616) 64 (R'||decide (bh%18446744073709551616≠0))=lft (X%2^(129 - n+a)) (129 - n+a) R:=by
    intro R' hR
    have a1:=lft_split (bh / 18446744073709551616) (bh%18446744073709551616) 64 64 R' (by rw [p64];omega) (by omega)
    rw [p64,show bh / 18446744073709551616*18446744073709551616+bh%18446744073709551616=bh by omega] at a1
    rw [← a1,hsplit,show 64+64=(129 - n)+(n - 1) by omega,lft_scale _ _ _ _ (by omega),hR]
    have a2:=lft_split (w%2^(129 - n)) (X%2^a) a (129 - n) R (Nat.mod_lt _ pa) (by omega)
    rw [← a2]
    congr 1
    rw [Nat.add_comm (129 - n) a,Nat.pow_add,Nat.mod_mul,hw2,Nat.mul_comm,Nat.add_comm]
  by_cases h0:TL bh=0
  · simp only [if_pos h0]
    have hz:bh%18446744073709551616=0:=by unfold TL at h0;omega
    have hl:=hL _ rfl
    rw [hz] at hl
    simp only [ne_eq,not_true_eq_false,decide_false,Bool.or_false] at hl
    refine Ev.bind (a:=lft (bh / 18446744073709551616) 64 (R||decide (X%2^a≠0))) ?_ ?_
    · exact round_left_eq (bh / 18446744073709551616) _ (by omega)
    · rw [hP]
      simp only [ne_eq] at hl ⊢
      rw [hl]
      exact Ev.now _
  · simp only [if_neg h0]
    have hz:bh%18446744073709551616≠0:=by unfold TL at h0;omega
    have hl:=hL _ rfl
    rw [decide_eq_true hz,Bool.or_true] at hl
    refine Ev.bind (a:=lft (bh / 18446744073709551616) 64 true) ?_ ?_
    · exact round_left_eq (bh / 18446744073709551616) _ (by omega)
    · rw [hP,hl]
      exact Ev.now _
theorem round_Cut_l0 (n : Nat) (R : Bool) (b : Nat) (h8 : 8 ≤ n) (h64 : n ≤ 64) (hb : b ≤ 64) : ∀ (d i X a : Nat), i + d = b → X < 2 ^ (128 + a) →
    Ev (fun k=>round_Cut.l0 k (n:Int) (R||decide (X%2^a≠0)) (b:Int) (i:Int) (TH (X / 2^a)) (TL (X / 2^a)))
      ((((((2^d - 1)*2^(128+a)+X) / 2^(129 - n+(a+d)):Nat)):Int),lft (((2^d - 1)*2^(128+a)+X)%2^(129 - n+(a+d))) (129 - n+(a+d)) R,none)
  | 0,i,X,a,hi,hX=>by
    refine evs ?_
    simp only [round_Cut.l0,nI_eq]
    simp only [if_neg (show ¬ (i:Int) < (b:Int) by omega)]
    have:=round_Cut_j3 n X a R h8 h64 hX
    simpa using this
  | d+1,i,X,a,hi,hX=>by
    refine evs ?_
    simp only [round_Cut.l0,nI_eq]
    simp only [if_pos (show (i:Int) < (b:Int) by omega)]
    have u:=round_under_eq X a 1 1 R hX (by decide) (by decide)
    simp only [Nat.one_mul] at u
    have u':round_under.f (TH (X / 2^a)) (TL (X / 2^a)) 1 1 (R||decide (X%2^a≠0))=_:=u
    simp only [u',Option.bind_some]
    have e:wrap64 ((i:Int)+1)=((i+1:Nat):Int):=by rw [w64 (by omega) (by omega)];omega
    rw [e]
    have hX':2^(128+a)+X < 2^(128+(a+1)):=by
      rw [show 128+(a+1)=128+a+1 by omega,Nat.pow_succ];omega
    have ih:=round_Cut_l0 n R b h8 h64 hb d (i+1) (2^(128+a)+X) (a+1) (by omega) hX'
    have e2:(2^d - 1)*2^(128+(a+1))+(2^(128+a)+X)=(2^(d+1) - 1)*2^(128+a)+X:=by
      have p:=two_pos d
      obtain ⟨q,hq⟩:∃ q,2^d=q+1:=⟨2^d - 1,by omega⟩
      rw [show 128+(a+1)=128+a+1 by omega,Nat.pow_succ 2 (128+a),Nat.pow_succ 2 d,hq]
      generalize 2^(128+a)=Z
      rw [show (q+1)*2 - 1=2*q+1 by omega,show q+1 - 1=q by omega]
      grind
    rw [e2,show a+1+d=a+(d+1) by omega] at ih
    exact ih
theorem round_Cut_l1 (n : Nat) (R : Bool) (b : Nat) (h8 : 8 ≤ n) (h64 : n ≤ 64) (hb : b ≤ 64) : ∀ (d i X a : Nat), i + d = b → X < 2 ^ (128 + a) →
    Ev (fun k=>round_Cut.l1 k (n:Int) (R||decide (X%2^a≠0)) (b:Int) (i:Int) (TH (X / 2^a)) (TL (X / 2^a)))
      (((X / 2^(129 - n+(a+d)):Nat):Int),lft (X%2^(129 - n+(a+d))) (129 - n+(a+d)) R,none)
  | 0,i,X,a,hi,hX=>by
    refine evs ?_
    simp only [round_Cut.l1,nI_eq]
    simp only [if_neg (show ¬ (i:Int) < (b:Int) by omega)]
    exact round_Cut_j3 n X a R h8 h64 hX
  | d+1,i,X,a,hi,hX=>by
    refine evs ?_
    simp only [round_Cut.l1,nI_eq]
    simp only [if_pos (show (i:Int) < (b:Int) by omega)]
    have u:=round_under_eq X a 0 1 R hX (by decide) (by decide)
    simp only [Nat.zero_mul,Nat.zero_add] at u
    have u':round_under.f (TH (X / 2^a)) (TL (X / 2^a)) 0 1 (R||decide (X%2^a≠0))=_:=u
    simp only [u',Option.bind_some]
    have e:wrap64 ((i:Int)+1)=((i+1:Nat):Int):=by rw [w64 (by omega) (by omega)];omega
    rw [e]
    have hX':X < 2^(128+(a+1)):=Nat.lt_of_lt_of_le hX (pow_le (by omega))
    have ih:=round_Cut_l1 n R b h8 h64 hb d (i+1) X (a+1) (by omega) hX'
    rw [show a+1+d=a+(d+1) by omega] at ih
    exact ih
theorem round_Cut_j0_eq (n f : Nat) (kd : Int) (ng : Bool) (s : Int) (R : Bool) (hn : isW n = true) (h0 : -(4 * (n : Int) - 8) ≤ s) (h1 : s < 4 * (n : Int) - 8) (hf : f < 2 ^ 127) :
    Ev (fun k=>round_Cut.j0 k (n:Int) s (TH (2^127+f)) (TL (2^127+f)) R) (((cutP n (sig s f):Nat):Int),cutL n (sig s f) R,none):=by
  have hn':n=8∨n=16∨n=32∨n=64:=by have:=isW_cases hn;omega
  have h8:8≤n:=by omega
  have h64:n≤64:=by omega
  have hV:2^127+f < 2^128:=by rw [show (2:Nat)^128=2*2^127 by decide];omega
  refine evs ?_
  simp only [round_Cut.j0,nI_eq]
  have s1:=twin_Shl_eq (2^127+f) 1 hV (by decide)
  have m1:(2^127+f)*2^1%2^128=2*f:=by rw [p127,p128] at *;omega
  rw [m1] at s1
  have s1':twin_Shl.f (TH (2^127+f)) (TL (2^127+f)) 1=_:=s1
  simp only [s1',Option.bind_some]
  have e4:IntKind.u64.wrap (Go.bits .and .i64 s 3)=(((s%4).toNat:Nat):Int):=by rw [and_i64_3,u64_of (by omega) (by omega)];omega
  rw [e4]
  generalize he:(s%4).toNat=e
  have he4 : e < 2 ^ 2 := by have : (2 : Nat) ^ 2 = 4 := by decide
                             omega
  have hX0:2*f < 2^(128+0):=by rw [show (2:Nat)^(128+0)=2*2^127 by decide];omega
  have u1:=round_under_eq (2*f) 0 e 2 R hX0 he4 (by decide)
  simp only [Nat.pow_zero,Nat.div_one,Nat.mod_one,ne_eq,not_true_eq_false,decide_false,Bool.or_false,Nat.zero_add,Nat.add_zero] at u1
  have u1':round_under.f (TH (2*f)) (TL (2*f)) (e:Int) 2 R=_:=u1
  simp only [u1',Option.bind_some]
  have hX1:e*2^128+2*f < 2^(128+2):=by
    have:(e+1)*2^128≤2^2*2^128:=Nat.mul_le_mul_right _ he4
    rw [Nat.add_mul] at this
    rw [show (2:Nat)^(128+2)=2^2*2^128 by decide]
    simp only [Nat.add_zero] at hX0
    omega
  by_cases hk:s / 4≥0
  · simp only [if_pos hk]
    have u2:=round_under_eq (e*2^128+2*f) 2 0 1 R hX1 (by decide) (by decide)
    simp only [Nat.zero_mul,Nat.zero_add] at u2
    have u2':round_under.f (TH ((e*2^128+2*f) / 2^2)) (TL ((e*2^128+2*f) / 2^2)) 0 1 (R||decide (¬(e*2^128+2*f)%2^2=0))=_:=u2
    simp only [u2',Option.bind_some]
    generalize hq:(s / 4).toNat=q
    have hq61:q≤61:=by omega
    have ew:wrap64 (s / 4+1)=((q+1:Nat):Int):=by rw [w64 (by omega) (by omega)];omega
    rw [ew]
    have l:=round_Cut_l0 n R (q+1) h8 h64 (by omega) (q+1) 0 (e*2^128+2*f) 3 (by omega) (Nat.lt_of_lt_of_le hX1 (pow_le (by decide)))
    have c:=cut_of n ((2^(q+1) - 1)*2^(128+3)+(e*2^128+2*f)) (129 - n+(3+(q+1))) (68 - q) R h64 (by omega) (by omega)
    have es:sig s f=((2^(q+1) - 1)*2^(128+3)+(e*2^128+2*f))*2^(68 - q):=by
      unfold sig
      rw [if_pos hk,hq,he,show 69 - q=1+(68 - q) by omega,Nat.pow_add 2 1,← Nat.mul_assoc]
      congr 1
      rw [show (2:Nat)^(128+3)=2^130*2 by decide,show (2:Nat)^128=2^127*2 by decide]
      generalize 2^(q+1) - 1=z
      grind
    rw [es,c.1,c.2]
    exact l
  · simp only [if_neg hk]
    have u2:=round_under_eq (e*2^128+2*f) 2 1 1 R hX1 (by decide) (by decide)
    simp only [Nat.one_mul] at u2
    have u2':round_under.f (TH ((e*2^128+2*f) / 2^2)) (TL ((e*2^128+2*f) / 2^2)) 1 1 (R||decide (¬(e*2^128+2*f)%2^2=0))=_:=u2
    simp only [u2',Option.bind_some]
    generalize hq:(-(s / 4)).toNat=q
    have hq62:q≤62:=by omega
    have ew:wrap64 (-(s / 4))=((q:Nat):Int):=by rw [w64 (by omega) (by omega)];omega
    rw [ew]
    have hX2:2^(128+2)+(e*2^128+2*f) < 2^(128+3):=by
      rw [show (2:Nat)^(128+3)=2^(128+2)+2^(128+2) by decide];omega
    have l:=round_Cut_l1 n R q h8 h64 (by omega) q 0 (2^(128+2)+(e*2^128+2*f)) 3 (by omega) hX2
    have c:=cut_of n (2^(128+2)+(e*2^128+2*f)) (129 - n+(3+q)) (69 - q) R h64 (by omega) (by omega)
    have es:sig s f=(2^(128+2)+(e*2^128+2*f))*2^(69 - q):=by
      unfold sig
      rw [if_neg (by omega),hq,he,show 70 - q=1+(69 - q) by omega,Nat.pow_add 2 1,← Nat.mul_assoc]
      congr 1
      rw [show (2:Nat)^(128+2)=2^129*2 by decide,show (2:Nat)^128=2^127*2 by decide]
      grind
    rw [es,c.1,c.2]
    exact l
theorem sound_kinds {kd sc hi lo:Int} {ng rs:Bool} (h:soundE kd ng sc hi lo rs=true):kd=0∨kd=2∨kd=1:=by
  unfold soundE at h
  split at h
  · omega
  · have:=of_decide_eq_true h;omega
theorem sound_real {sc hi lo:Int} {ng rs:Bool} (h:soundE 1 ng sc hi lo rs=true):9223372036854775808≤hi∧-1099511627776≤sc∧sc≤1099511627776:=by
  unfold soundE at h
  rw [if_neg (by decide)] at h
  have:=of_decide_eq_true h;omega
theorem round_Cut_eq {n hi lo : Nat} {kd sc : Int} {ng rs : Bool} (hn : isW n = true) (hh : hi < 18446744073709551616) (hl : lo < 18446744073709551616) (h : soundE kd ng sc hi lo rs = true) :
    Ev (fun k=>round_Cut.f k n kd ng sc hi lo rs) ((cutE n kd sc (hi*18446744073709551616+lo) rs).1,(cutE n kd sc (hi*18446744073709551616+lo) rs).2,none):=by
  unfold round_Cut.f
  have hn':n=8∨n=16∨n=32∨n=64:=by have:=isW_cases hn;omega
  simp only [shape_Of_eq hn,Option.bind_some,Option.isNone_none,if_true]
  refine Ev.bind (round_sound_eq _ _ _ _ _ _ (by omega) (by omega)) ?_
  simp only [h,if_true]
  unfold cutE
  by_cases k0:kd=0
  · simp only [if_pos k0];exact Ev.now _
  · simp only [if_neg k0]
    by_cases k2:kd=2
    · simp only [if_pos k2];exact Ev.now _
    · simp only [if_neg k2]
      have k1:kd=1:=by have:=sound_kinds h;omega
      subst k1
      obtain ⟨b0,b1,b2⟩:=sound_real h
      have ew:wrap64 (-(4*(n:Int) - 8)) = -(4*(n:Int) - 8):=w64 (by omega) (by omega)
      by_cases c1:sc≥4*(n:Int) - 8
      · simp only [if_pos c1,if_pos (show 4*(n:Int) - 8≤sc by omega)];exact Ev.now _
      · simp only [if_neg c1,if_neg (show ¬ 4*(n:Int) - 8≤sc by omega),ew]
        by_cases c2:sc < -(4*(n:Int) - 8)
        · simp only [if_pos c2,if_pos (Or.inl c2:sc < -(4*(n:Int) - 8)∨(sc = -(4*(n:Int) - 8)∧hi*18446744073709551616+lo=2^127∧rs=false))];exact Ev.now _
        · simp only [if_neg c2]
          have key : ¬ (sc = -(4 * (n : Int) - 8) ∧ hi * 18446744073709551616 + lo = 2 ^ 127 ∧ rs = false) →
              Ev (fun k=>round_Cut.j0 k (n:Int) sc (hi:Int) (lo:Int) rs)
                ((if sc < -(4*(n:Int) - 8)∨(sc = -(4*(n:Int) - 8)∧hi*18446744073709551616+lo=2^127∧rs=false) then ((1:Int),(0:Int)) else ((cutP n (sig sc (hi*18446744073709551616+lo - 2^127)):Int),cutL n (sig sc (hi*18446744073709551616+lo - 2^127)) rs)).1,
                 (if sc < -(4*(n:Int) - 8)∨(sc = -(4*(n:Int) - 8)∧hi*18446744073709551616+lo=2^127∧rs=false) then ((1:Int),(0:Int)) else ((cutP n (sig sc (hi*18446744073709551616+lo - 2^127)):Int),cutL n (sig sc (hi*18446744073709551616+lo - 2^127)) rs)).2,none):=by
            intro hno
            rw [if_neg (fun hh=>hh.elim c2 hno)]
            have hf:2^127+(hi*18446744073709551616+lo - 2^127)=hi*18446744073709551616+lo:=by rw [p127];omega
            have j:=round_Cut_j0_eq n (hi*18446744073709551616+lo - 2^127) 1 ng sc rs hn (by omega) (by omega) (by rw [p127];omega)
            rw [hf,TH_of hl,TL_of hl] at j
            exact j
          by_cases c3:sc = -(4*(n:Int) - 8)
          · simp only [if_pos c3]
            by_cases c4:(hi:Int)=9223372036854775808
            · simp only [if_pos c4]
              by_cases c5:(lo:Int)=0
              · simp only [if_pos c5]
                cases rs
                · simp only [Bool.false_eq_true,if_false]
                  rw [if_pos (Or.inr ⟨c3,by rw [p127];omega,trivial⟩)]
                  exact Ev.now _
                · simp only [if_true]
                  exact key (by simp)
              · simp only [if_neg c5]
                exact key (by rw [p127];omega)
            · simp only [if_neg c4]
              exact key (by rw [p127];omega)
          · simp only [if_neg c3]
            exact key (by omega)
theorem pow64 {n:Nat} (h:isW n=true):n≤64∧8≤n:=by have:=isW_cases h;omega
theorem lead_ones_eq {n:Nat} (h:n≤64):lead_ones.f (n:Int)=some ((2^n - 1:Nat):Int):=by
  unfold lead_ones.f
  by_cases h1:n=64
  · subst h1;rfl
  · rw [if_neg (by omega),if_pos (by omega)]
    have e:=shl_nat 1 n h
    have e':shl .u64 1 (n:Int)=_:=e
    have hp:2^n < 2^64:=pow_lt (by omega)
    have hp0:=two_pos n
    rw [p64] at hp
    rw [e',Nat.one_mul,Nat.mod_eq_of_lt hp,u64_of (by omega) (by omega)]
    congr 1
    omega
theorem shape_Fold_eq {n x:Nat} (h:isW n=true) (hx:x < 18446744073709551616):shape_Fold.f (n:Int) (x:Int)=some (((x%2^n:Nat):Int),none):=by
  have hb:=pow64 h
  unfold shape_Fold.f lead_Mask.f
  simp only [shape_is_eq,h,if_true,Option.bind_some,if_neg (show ¬ (n:Int) < 0 by omega),if_neg (show ¬ (n:Int) > 64 by omega),lead_ones_eq hb.1]
  rw [and_mask x n hx hb.1]
theorem shape_Fold_no {n x:Int} (h:isW n=false):shape_Fold.f n x=some (0,some 2):=by
  unfold shape_Fold.f
  simp [shape_is_eq,h]
theorem neg_wrap {p:Nat} (h:p < 18446744073709551616):IntKind.u64.wrap (-(p:Int))=(((18446744073709551616 - p)%18446744073709551616:Nat):Int):=by
  rw [u64_wrap];omega
theorem and_one {p:Nat} (h:p < 18446744073709551616):Go.bits .and .u64 (p:Int) 1=((p%2:Nat):Int):=by
  have:=and_mask p 1 h (by decide)
  simpa using this
theorem round_Round_eq {n hi lo : Nat} {kd sc : Int} {ng rs : Bool} (hn : isW n = true) (hh : hi < 18446744073709551616) (hl : lo < 18446744073709551616) (h : soundE kd ng sc hi lo rs = true) :
    Ev (fun k=>round_Round.f k n kd ng sc hi lo rs) (((rnd n kd ng sc (hi*18446744073709551616+lo) rs:Nat):Int),none):=by
  obtain ⟨b64,b8⟩:=pow64 hn
  unfold round_Round.f
  refine Ev.bind (round_Cut_eq hn hh hl h) ?_
  have hV:hi*18446744073709551616+lo < 2^128:=by rw [p128];omega
  have hb:=cutE_bounds (kd:=kd) (sc:=sc) (R:=rs) b64 b8 hV
  unfold rnd
  generalize cutE n kd sc (hi*18446744073709551616+lo) rs=c at hb
  obtain ⟨c1,c2⟩:=c
  simp only at hb
  obtain ⟨p,rfl⟩:=Int.eq_ofNat_of_zero_le hb.1
  have hp1:p≤2^(n - 1):=by omega
  have hp2:2^(n - 1) < 2^64:=pow_lt (by omega)
  have hp3:2^(n - 1)+1 < 2^n:=by
    have:2^n=2*2^(n - 1):=by rw [show n=n - 1+1 by omega,Nat.pow_succ];simp;omega
    have:2^1≤2^(n - 1):=pow_le (by omega)
    omega
  have hp4:(2:Nat)^n≤2^64:=pow_le b64
  rw [p64] at hp2 hp4
  have fo:∀ x:Nat,x < 2^n→shape_Fold.f (n:Int) (x:Int)=some ((x:Int),none):=fun x hx=>by
    rw [shape_Fold_eq hn (by omega),Nat.mod_eq_of_lt hx]
  have fn:∀ x:Nat,x < 2^n→shape_Fold.f (n:Int) (IntKind.u64.wrap (-(x:Int)))=some (((negN n x:Nat):Int),none):=fun x hx=>by
    rw [neg_wrap (by omega),shape_Fold_eq hn (Nat.mod_lt _ (by decide))];rfl
  have e1:IntKind.u64.wrap ((p:Int)+1)=((p+1:Nat):Int):=by rw [u64_of (by omega) (by omega)];omega
  refine evn ?_
  simp only [Option.isNone_none,if_true,e1,fo p (by omega),fo (p+1) (by omega),fn p (by omega),fn (p+1) (by omega),Option.bind_some,and_one (show p < 18446744073709551616 by omega),Int.toNat_natCast]
  by_cases k2:c2=2
  · subst k2
    by_cases hp:p%2=0
    · simp only [if_true,if_pos (show ((p%2:Nat):Int)=0 by omega)]
      cases ng <;> simp [hp]
    · have hp':p%2=1:=by omega
      simp only [if_true,if_neg (show ¬ ((p%2:Nat):Int)=0 by omega)]
      cases ng <;> simp [hp']
  · by_cases k3:c2=3
    · subst k3
      cases ng <;> simp
    · simp only [if_neg k2,if_neg k3]
      cases ng <;> simp [k2,k3]
def soundN (kd:Int) (ng:Bool) (sc fr:Int):Bool:=
  if kd=0∨kd=2 then (!ng&&(sc==0&&fr==0))
  else decide (kd=1∧9223372036854775808≤fr∧-1073741824≤sc∧sc≤1073741824)
theorem round_Of_eq (kd : Int) (ng : Bool) (sc fr : Int) (h : fr < 18446744073709551616) (h0 : 0 ≤ fr) :
    Ev (fun k=>round_Of.f k kd ng sc fr) (if soundN kd ng sc fr then (kd,ng,sc,fr,0,false,none) else (0,false,0,0,0,false,some 1)):=by
  unfold round_Of.f
  refine Ev.bind (round_sound_eq _ _ _ _ _ _ h h0) ?_
  refine evn ?_
  unfold soundE soundN
  by_cases hk:kd=0∨kd=2
  · simp only [if_pos hk]
    cases ng
    · by_cases h1:sc=0
      · by_cases h2:fr=0
        · simp [h1,h2]
        · simp [h1,h2]
      · simp [h1]
    · simp
  · simp only [if_neg hk]
    by_cases h1:kd=1∧9223372036854775808≤fr∧-1073741824≤sc∧sc≤1073741824
    · have h2:kd=1∧9223372036854775808≤fr∧-1099511627776≤sc∧sc≤1099511627776:=by omega
      rw [decide_eq_true h1,decide_eq_true h2]
      simp only [if_true]
      rw [if_neg (by omega),if_neg (by omega)]
    · rw [decide_eq_false h1]
      simp only [Bool.false_eq_true,if_false]
      by_cases h2:kd=1∧9223372036854775808≤fr∧-1099511627776≤sc∧sc≤1099511627776
      · rw [decide_eq_true h2]
        simp only [if_true]
        by_cases h3:sc < -1073741824
        · rw [if_pos h3]
        · rw [if_neg h3,if_pos (by omega)]
      · rw [decide_eq_false h2]
        simp
def mkV (m:Nat):Nat:=if bl m≤128 then m*2^(128 - bl m) else m / 2^(bl m - 128)
def mkR (m:Nat) (R:Bool):Bool:=R||decide (m%2^(bl m - 128)≠0)
def farI (e:Int):Int:=if e < -4398046511104 then -4398046511104 else if 4398046511104 < e then 4398046511104 else e
theorem farI_bounds (e:Int):-4398046511104≤farI e∧farI e≤4398046511104:=by
  unfold farI
  repeat' split
  all_goals omega
theorem farI_mx (e:Int):mx (-4398046511104) (mn e 4398046511104)=farI e:=by
  unfold mx mn farI
  repeat' split
  all_goals omega
theorem T_zero {V:Nat} (h:V≠0):¬ (TH V==0&&TL V==0)=true:=by
  intro hc
  simp only [Bool.and_eq_true,beq_iff_eq] at hc
  unfold TH TL at hc;omega
def makeV (ng:Bool) (V:Nat) (e:Int) (R:Bool):Int×Bool×Int×Int×Int×Bool×Option Int:=
  if V=0 then (0,false,0,0,0,false,none)
  else (1,ng,heldI (farI e+(bl V:Int) - 1),TH (mkV V),TL (mkV V),R,none)
theorem round_Make_j0 (ng:Bool) (V:Nat) (e:Int) (R:Bool) (hV:V < 2^128):Ev (fun k=>round_Make.j0 k ng (TH V) (TL V) e R false) (makeV ng V e R):=by
  refine evs ?_
  simp only [round_Make.j0,nI_eq,Bool.false_eq_true,if_false]
  unfold makeV
  by_cases h2:V=0
  · subst h2
    have t:twin_Norm.f (TH 0) (TL 0)=some (0,0,0):=twin_Norm_zero
    rw [if_pos rfl,t]
    exact Ev.now _
  · rw [if_neg h2]
    simp only [twin_Norm_eq V hV (by omega),Option.bind_some]
    have c1:=bl_le_of_lt hV
    have c2:=bl_pos (x:=V) (by omega)
    have hm:mkV V=V*2^(128 - bl V):=by unfold mkV;rw [if_pos c1]
    rw [← hm]
    have hpos:mkV V≠0:=by
      have:0 < mkV V:=by rw [hm];exact Nat.mul_pos (by omega) (two_pos _)
      omega
    rw [if_neg (T_zero hpos),round_held_eq,Option.bind_some,farI_mx]
    have hfb:=farI_bounds e
    rw [w64 (by omega) (by omega)]
    have ee:farI e+127 - ((128 - bl V:Nat):Int)=farI e+(bl V:Int) - 1:=by omega
    rw [ee]
    exact Ev.now _
theorem round_Make_bad (ng:Bool) (hi lo e:Int) (R:Bool):Ev (fun k=>round_Make.j0 k ng hi lo e R true) (0,false,0,0,0,false,some 1):=by
  refine evs ?_
  simp only [round_Make.j0,nI_eq,if_true]
  exact Ev.now _
theorem round_Make_eq (ng : Bool) (V : Nat) (e : Int) (R : Bool) (hV : V < 2 ^ 128) :
    Ev (fun k=>round_Make.f k ng (TH V) (TL V) e R) (if R=true∧V < 2^127 then (0,false,0,0,0,false,some 1) else makeV ng V e R):=by
  unfold round_Make.f
  cases R
  · rw [if_neg (fun h=>Bool.noConfusion h.1)]
    exact Ev.congr (f:=fun k=>round_Make.j0 k ng (TH V) (TL V) e false false) (fun _=>by rw [if_neg Bool.false_ne_true]) (round_Make_j0 ng V e false hV)
  · refine Ev.congr (f:=fun k=>round_Make.j0 k ng (TH V) (TL V) e true (TH V / 9223372036854775808==0)) (fun _=>by rw [if_pos rfl]) ?_
    by_cases h:V < 2^127
    · rw [if_pos ⟨rfl,h⟩]
      have hb:(TH V / 9223372036854775808==0)=true:=by
        rw [beq_iff_eq];unfold TH;rw [p127] at h;omega
      rw [hb]
      exact round_Make_bad ng _ _ e true
    · rw [if_neg (fun hh=>h hh.2)]
      have hb:(TH V / 9223372036854775808==0)=false:=by
        rw [beq_eq_false_iff_ne];unfold TH;rw [p127] at h;omega
      rw [hb]
      exact round_Make_j0 ng V e true hV
end Go.Proofs.YtbpcfhhcoklinaaGreat.V
namespace Go.Proofs.YtbpcfhhcoklinaaGreat.V
open Go Go.RowKit Go.Proofs.YtbpcfhhcoklinaaGreat.Ab Go.Proofs.YtbpcfhhcoklinaaGreat.Fn
def runO (m w:Nat):Bool:=decide (2^(m - 1)≤w)
def runL (m w:Nat):Nat:=if runO m w then m - bl (2^m - 1 - w) else m - bl w
def dL1 (m w:Nat):Nat:=m - runL m w - 1
def dEb (m w:Nat):Nat:=min (dL1 m w) 2
def dLf (m w:Nat):Nat:=dL1 m w - dEb m w
def decK (m w:Nat):Int:=if runO m w then (runL m w:Int) - 1 else -(runL m w:Int)
def decEx (m w:Nat):Nat:=w / 2^dLf m w%2^dEb m w*2^(2 - dEb m w)
def decS (m w:Nat):Int:=4*decK m w+(decEx m w:Int)
def decFr (m w:Nat):Nat:=2^63+w%2^dLf m w*2^(63 - dLf m w)
theorem run_ones {m w:Nat} (h1:1≤m) (hw:w < 2^m) (ho:2^(m - 1)≤w):
  ∃ r l A t,runL m w=r∧dL1 m w=l∧1≤r∧r≤m∧l=m - r - 1∧w=A*2^l+t∧t < 2^l∧((r < m∧A=2*(2^r - 1))∨(r=m∧l=0∧A=2^m - 1∧t=0)):=by
 have e:runL m w=m - bl (2^m - 1 - w):=by unfold runL runO;rw [if_pos (by simpa using ho)]
 have hm:(2:Nat)^m=2*2^(m - 1):=by rw [show m=m - 1+1 by omega,Nat.pow_succ];simp;omega
 have hz:2^m - 1 - w < 2^(m - 1):=by omega
 have hb:=bl_le_of_lt hz
 by_cases h0:2^m - 1 - w=0
 ·rw [h0,bl_zero,Nat.sub_zero] at e
  refine ⟨m,0,w,0,e,by unfold dL1;rw [e];omega,h1,Nat.le_refl _,by omega,by simp,by decide,.inr ⟨rfl,rfl,by omega,rfl⟩⟩
 ·have b1:=bl_pos (x:=2^m - 1 - w) (by omega)
  have b2:=bl_le (x:=2^m - 1 - w) (by omega)
  have b3:=bl_lt (2^m - 1 - w)
  generalize bl (2^m - 1 - w)=b at *
  have e1:dL1 m w=b - 1:=by unfold dL1;rw [e];omega
  have q1:(2:Nat)^b=2*2^(b - 1):=by rw [show b=b - 1+1 by omega,Nat.pow_succ];simp;omega
  have q2:(2:Nat)^m=2^(m - b)*2^b:=by rw [← Nat.pow_add];exact pow_congr (by omega)
  have p1:=two_pos (m - b)
  obtain ⟨a,ha⟩:∃ a,2^(m - b)=a+1:=⟨2^(m - b) - 1,by omega⟩
  have q3:2*(2^(m - b) - 1)*2^(b - 1)=2^m - 2^b:=by
   rw [q2,ha,q1,Nat.add_sub_cancel,Nat.add_mul]
   have:2*a*2^(b - 1)=a*(2*2^(b - 1)):=by grind
   omega
  have q4:2^b≤2^m:=pow_le (by omega)
  refine ⟨m - b,b - 1,2*(2^(m - b) - 1),w - 2*(2^(m - b) - 1)*2^(b - 1),e,e1,by omega,by omega,by omega, ?_, ?_,.inl ⟨by omega,rfl⟩⟩
  ·rw [q3];omega
  ·rw [q3];omega
theorem run_noughts {m w:Nat} (h1:1≤m) (hw0:0 < w) (ho:¬ 2^(m - 1)≤w):
  ∃ r l t,runL m w=r∧dL1 m w=l∧1≤r∧r < m∧l=m - r - 1∧w=1*2^l+t∧t < 2^l:=by
 have e:runL m w=m - bl w:=by unfold runL runO;rw [if_neg (by simpa using ho)]
 have hb:=bl_le_of_lt (show w < 2^(m - 1) by omega)
 have b1:=bl_pos hw0
 have b2:=bl_le hw0
 have b3:=bl_lt w
 generalize bl w=b at *
 have q1:(2:Nat)^b=2*2^(b - 1):=by rw [show b=b - 1+1 by omega,Nat.pow_succ];simp;omega
 exact ⟨m - b,b - 1,w - 2^(b - 1),e,by unfold dL1;rw [e];omega,by omega,by omega,by omega,by omega,by omega⟩
theorem tail_parts {m w l A t:Nat} (hl:dL1 m w=l) (hw:w=A*2^l+t) (ht:t < 2^l):
  t=w / 2^dLf m w%2^dEb m w*2^dLf m w+w%2^dLf m w∧dEb m w+dLf m w=l∧dEb m w≤2∧(0 < dLf m w→dEb m w=2):=by
 have hs:dEb m w+dLf m w=l:=by unfold dLf dEb;omega
 refine ⟨?_,hs,by unfold dEb;omega,by unfold dLf dEb;omega⟩
 have h:w%2^l=t:=by rw [hw,Nat.add_comm,Nat.add_mul_mod_self_right,Nat.mod_eq_of_lt ht]
 rw [← hs,Nat.add_comm,Nat.pow_add,Nat.mod_mul] at h
 have:=Nat.mul_comm (2^dLf m w) (w / 2^dLf m w%2^dEb m w)
 omega
theorem tail_sig {m r l t eb lf er fr:Nat} (hm:m≤64) (hr:r < m) (hl:l=m - r - 1) (ht:t=er*2^lf+fr) (hs:eb+lf=l) (he:eb≤2) (hlf:0 < lf→eb=2) (hfr:fr < 2^lf):
  (er*2^(2 - eb)*2^127+fr*2^(63 - lf)*2^64)*2^(70 - r)=t*2^(200 - m):=by
 rw [ht,Nat.add_mul,Nat.add_mul]
 have a1:er*2^(2 - eb)*2^127*2^(70 - r)=er*2^lf*2^(200 - m):=by
  rw [Nat.mul_assoc,Nat.mul_assoc,← Nat.pow_add,← Nat.pow_add,Nat.mul_assoc,← Nat.pow_add]
  rw [show 2 - eb+(127+(70 - r))=lf+(200 - m) by omega]
 have a2:fr*2^(63 - lf)*2^64*2^(70 - r)=fr*2^(200 - m):=by
  by_cases h0:lf=0
  ·subst h0
   have:fr=0:=by simpa using hfr
   simp [this]
  ·have:=hlf (by omega)
   rw [Nat.mul_assoc,Nat.mul_assoc,← Nat.pow_add,← Nat.pow_add]
   rw [show 63 - lf+(64+(70 - r))=200 - m by omega]
 rw [a1,a2]
theorem fr_back {m w:Nat}:(decFr m w - 2^63)*2^64=w%2^dLf m w*2^(63 - dLf m w)*2^64:=by
 unfold decFr;rw [Nat.add_sub_cancel_left]
theorem decEx_lt {m w:Nat}:decEx m w < 4:=by
 unfold decEx
 have h1:=Nat.mod_lt (w / 2^dLf m w) (two_pos (dEb m w))
 have he:dEb m w≤2:=by unfold dEb;omega
 have:2^dEb m w*2^(2 - dEb m w)=2^2:=pow_split he
 have:=Nat.mul_lt_mul_of_pos_right h1 (two_pos (2 - dEb m w))
 omega
theorem decFr_range {m w:Nat} (h:dLf m w≤63):2^63≤decFr m w∧decFr m w < 2^64:=by
 unfold decFr
 have h1:=Nat.mod_lt w (two_pos (dLf m w))
 have h2:2^dLf m w*2^(63 - dLf m w)=2^63:=pow_split h
 have h3:=Nat.mul_lt_mul_of_pos_right h1 (two_pos (63 - dLf m w))
 rw [h2] at h3
 rw [p63] at *
 rw [p64]
 omega
theorem dec_sig {m w:Nat} (h1:7≤m) (hm:m≤64) (hw0:0 < w) (hw:w < 2^m):
  sig (decS m w) ((decFr m w - 2^63)*2^64)=w*2^(200 - m)∧-(4*(m:Int) - 4)≤decS m w∧decS m w≤4*(m:Int) - 4∧1≤runL m w∧runL m w≤m:=by
 have he:=decEx_lt (m:=m) (w:=w)
 by_cases ho:2^(m - 1)≤w
 ·obtain ⟨r,l,A,t,e1,e2,r1,r2,hl,hA,ht,hc⟩:=run_ones (by omega) hw ho
  obtain ⟨t1,t2,t3,t4⟩:=tail_parts e2 hA ht
  have hk:decK m w=((r - 1:Nat):Int):=by unfold decK runO;rw [if_pos (by simpa using ho),e1];omega
  have hs:decS m w=4*((r - 1:Nat):Int)+((decEx m w:Nat):Int):=by unfold decS;rw [hk]
  have hfr:=Nat.mod_lt w (two_pos (dLf m w))
  rcases hc with ⟨c1,c2⟩ | ⟨c1,c2,c3,c4⟩
  ·refine ⟨?_,by omega,by omega,by omega,by omega⟩
   rw [sig_pos_eq hs he,fr_back,show 69 - (r - 1)=70 - r by omega,show r - 1+1=r by omega]
   have k:=tail_sig hm c1 hl t1 t2 t3 t4 hfr
   have e3:(2^r - 1)*2^130*2^(70 - r)=A*2^l*2^(200 - m):=by
    rw [c2,Nat.mul_assoc,Nat.mul_comm 2,Nat.mul_assoc (2^r - 1),Nat.mul_assoc (2^r - 1)]
    congr 1
    have:(2:Nat)*2^l*2^(200 - m)=2^(1+l+(200 - m)):=by rw [Nat.pow_add,Nat.pow_add,Nat.pow_one]
    rw [this,← Nat.pow_add]
    exact pow_congr (by omega)
   have e4:w*2^(200 - m)=A*2^l*2^(200 - m)+t*2^(200 - m):=by
    rw [← Nat.add_mul,← hA]
   rw [e4,← k,← e3,Nat.add_assoc,Nat.add_mul]
   rfl
  ·have hlf:dLf m w=0∧dEb m w=0:=by omega
   have hex:decEx m w=0:=by unfold decEx;rw [hlf.2,Nat.pow_zero,Nat.mod_one,Nat.zero_mul]
   refine ⟨?_,by omega,by omega,by omega,by omega⟩
   rw [sig_pos_eq hs he,fr_back,hlf.1,hex,show 69 - (r - 1)=70 - m by omega,show r - 1+1=m by omega]
   simp only [Nat.pow_zero,Nat.mod_one,Nat.zero_mul,Nat.add_zero]
   have:w=2^m - 1:=by rw [hA,c2,c4,c3];simp
   rw [this,Nat.mul_assoc,← Nat.pow_add]
   congr 1
   exact pow_congr (by omega)
 ·obtain ⟨r,l,t,e1,e2,r1,r2,hl,hA,ht⟩:=run_noughts (by omega) hw0 ho
  obtain ⟨t1,t2,t3,t4⟩:=tail_parts e2 hA ht
  have hk:decK m w = -(r:Int):=by unfold decK runO;rw [if_neg (by simpa using ho),e1]
  have hs:decS m w = -(4*(r:Int))+((decEx m w:Nat):Int):=by unfold decS;rw [hk];omega
  have hfr:=Nat.mod_lt w (two_pos (dLf m w))
  have k:=tail_sig hm r2 hl t1 t2 t3 t4 hfr
  refine ⟨?_,by omega,by omega,by omega,by omega⟩
  rw [sig_neg_eq hs (by omega) he,fr_back]
  have e3:2^129*2^(70 - r)=1*2^l*2^(200 - m):=by
   rw [Nat.one_mul,← Nat.pow_add,← Nat.pow_add]
   exact pow_congr (by omega)
  have e4:w*2^(200 - m)=1*2^l*2^(200 - m)+t*2^(200 - m):=by
   rw [← Nat.add_mul,← hA]
  rw [e4,← k,← e3,Nat.add_assoc,Nat.add_mul]
  rfl
theorem mn_min (a b:Nat):mn (a:Int) (b:Int)=((min a b:Nat):Int):=by unfold mn;split <;> omega
theorem mx_zero (a:Int):mx a 0=((a.toNat:Nat):Int):=by unfold mx;split <;> omega
theorem lead_field_eq {a n:Nat} (h:a+n≤64):lead_field.f (a:Int) (n:Int)=some true:=by
 unfold lead_field.f
 rw [if_pos (by omega),if_pos (by omega),if_pos (by omega),w64 (by omega) (by omega),decide_eq_true (by omega)]
theorem lead_Field_eq {x a n:Nat} (hx:x < 18446744073709551616) (h:a+n≤64):lead_Field.f (x:Int) (a:Int) (n:Int)=some (((x / 2^a%2^n:Nat):Int),none):=by
 unfold lead_Field.f
 rw [lead_field_eq h,Option.bind_some,if_pos rfl,if_pos (by omega),lead_ones_eq (by omega),Option.bind_some,shr_nat x a (by omega),and_mask _ _ (Nat.lt_of_le_of_lt (Nat.div_le_self _ _) hx) (by omega)]
theorem Len64_eq {x:Nat} (hx:x < 18446744073709551616):bits_Len64.f (x:Int)=some ((bl x:Nat):Int):=by
 unfold bits_Len64.f
 rw [if_pos ⟨by omega,by omega⟩,Int.toNat_natCast,bitLen_bl (by rw [p64];exact hx)]
theorem Lead0_eq {x:Nat} (hx:x < 18446744073709551616):bits_LeadingZeros64.f (x:Int)=some ((64 - bl x:Nat):Int):=by
 have hb:bl x≤64:=bl_le_of_lt (by rw [p64];exact hx)
 unfold bits_LeadingZeros64.f
 rw [Len64_eq hx,Option.bind_some,w64 (by omega) (by omega)]
 congr 1;omega
theorem bl_add {z c k:Nat} (hz:0 < z) (hc:c < 2^k):bl (z*2^k+c)=bl z+k:=by
 have h1:=bl_le hz
 have h2:=bl_lt z
 have h0:=bl_pos hz
 refine bl_unique (by omega) ?_ ?_
 ·rw [show bl z+k - 1=bl z - 1+k by omega,Nat.pow_add]
  exact Nat.le_trans (Nat.mul_le_mul_right _ h1) (Nat.le_add_right _ _)
 ·rw [Nat.pow_add]
  have:=Nat.mul_le_mul_right (2^k) (show z+1≤2^bl z by omega)
  rw [Nat.add_mul] at this;omega
theorem lead_Run_eq {x m w:Nat} (h1:1≤m) (hm:m≤63) (hx:x < 18446744073709551616) (hw:x%2^m=w) (hw0:0 < w):
  Ev (fun k=>lead_Run.f k (x:Int) (m:Int)) (runO m w,((runL m w:Nat):Int),none):=by
 have hwl:w < 2^m:=by rw [← hw];exact Nat.mod_lt _ (two_pos m)
 unfold lead_Run.f
 simp only [if_neg (show ¬ (m:Int) < 1 by omega),decide_eq_false (show ¬ (m:Int) > 64 by omega)]
 refine evs ?_
 have e1:wrap64 (64 - (m:Int))=((64 - m:Nat):Int):=by rw [w64 (by omega) (by omega)];omega
 have hs:(2:Nat)^m*2^(64 - m)=18446744073709551616:=by rw [pow_split (by omega),p64]
 have e2:shl .u64 (x:Int) ((64 - m:Nat):Int)=((w*2^(64 - m):Nat):Int):=by
  rw [shl_nat x _ (by omega),← hs,Nat.mul_mod_mul_right,hw]
 simp only [lead_Run.j0,nI_eq,Bool.false_eq_true,if_false,e1,if_pos (show (0:Int)≤((64 - m:Nat):Int) by omega),e2]
 clear e1 e2
 have hp:=two_pos (64 - m)
 have hlt:w*2^(64 - m) < 18446744073709551616:=by rw [← hs];exact Nat.mul_lt_mul_of_pos_right hwl hp
 have h63:2^(m - 1)*2^(64 - m)=9223372036854775808:=by rw [← Nat.pow_add,← p63];exact pow_congr (by omega)
 have htop:2^(m - 1)≤w↔9223372036854775808≤w*2^(64 - m):=by
  rw [← h63]
  exact ⟨fun h=>Nat.mul_le_mul_right _ h,fun h=>Nat.le_of_mul_le_mul_right h hp⟩
 have hbw:=bl_le_of_lt hwl
 by_cases ho:2^(m - 1)≤w
 ·have eo:runO m w=true:=by unfold runO;simpa using ho
  have h9:=htop.mp ho
  have el:runL m w=m - bl (2^m - 1 - w):=by unfold runL;rw [if_pos eo]
  generalize hu:w*2^(64 - m)=u at *
  simp only [if_pos (show ((u:Nat):Int) / 9223372036854775808=1 by omega),show (((u:Nat):Int) / 9223372036854775808==1)=true by rw [beq_iff_eq];omega,xor_all u hlt,Lead0_eq (show 18446744073709551615 - u < 18446744073709551616 by omega),Option.bind_some,eo]
  refine evn ?_
  have e3:18446744073709551615 - u=(2^m - 1 - w)*2^(64 - m)+(2^(64 - m) - 1):=by
   have hm1:1≤2^m:=two_pos m
   obtain ⟨z,hz⟩:∃ z,2^m=z+w+1:=⟨2^m - 1 - w,by omega⟩
   have:2^m - 1 - w=z:=by omega
   rw [this]
   rw [hz,Nat.add_mul,Nat.add_mul,hu,Nat.one_mul] at hs
   omega
  have hbl:bl (18446744073709551615 - u)=bl (2^m - 1 - w)+(64 - m):=by
   rw [e3]
   by_cases h0:2^m - 1 - w=0
   ·rw [h0,Nat.zero_mul,Nat.zero_add,bl_zero,Nat.zero_add]
    refine bl_unique (by omega) ?_ (by omega)
    have:(2:Nat)^(64 - m)=2*2^(64 - m - 1):=by rw [show 64 - m=64 - m - 1+1 by omega,Nat.pow_succ];simp;omega
    have:=two_pos (64 - m - 1)
    omega
   ·exact bl_add (by omega) (by omega)
  have hb2:bl (2^m - 1 - w)≤m:=bl_le_of_lt (by omega)
  rw [hbl,el]
  rw [mn_min]
  congr 3
  omega
 ·have eo:runO m w=false:=by unfold runO;simpa using ho
  have h9:¬ 9223372036854775808≤w*2^(64 - m):=fun h=>ho (htop.mpr h)
  have el:runL m w=m - bl w:=by unfold runL;rw [eo];rfl
  have hbl:=bl_mul_pow (64 - m) hw0
  generalize hu:w*2^(64 - m)=u at *
  simp only [if_neg (show ¬ ((u:Nat):Int) / 9223372036854775808=1 by omega),show (((u:Nat):Int) / 9223372036854775808==1)=false by rw [beq_eq_false_iff_ne];omega,Lead0_eq hlt,Option.bind_some,eo]
  refine evn ?_
  rw [hbl,el]
  rw [mn_min]
  congr 3
  omega
theorem shape_Kind_no {n:Int} (h:isW n=false) (x:Int):shape_Kind.f n x=some (0,some 2):=by
 unfold shape_Kind.f
 rw [shape_Fold_no h];rfl
theorem shape_Kind_eq {n x:Nat} (h:isW (n:Int)=true) (hx:x < 18446744073709551616):shape_Kind.f (n:Int) (x:Int)=some (if x%2^n=0 then 0 else if x%2^n=2^(n - 1) then 2 else 1,none):=by
 obtain ⟨b64,b8⟩:=pow64 h
 have hp:(2:Nat)^(n - 1) < 18446744073709551616:=by rw [← p64];exact pow_lt (by omega)
 have e1:wrap64 ((n:Int) - 1)=((n - 1:Nat):Int):=by rw [w64 (by omega) (by omega)];omega
 have e2:shl .u64 1 ((n - 1:Nat):Int)=((2^(n - 1):Nat):Int):=by
  have:=shl_nat 1 (n - 1) (by omega)
  rw [Nat.one_mul,Nat.mod_eq_of_lt hp] at this
  exact this
 unfold shape_Kind.f
 rw [shape_Fold_eq h hx,Option.bind_some]
 simp only [Option.isNone_none,if_true,e1,e2,if_pos (show (0:Int)≤((n - 1:Nat):Int) by omega)]
 generalize x%2^n=y
 by_cases h0:y=0
 ·rw [if_pos (by omega),if_pos h0]
 ·rw [if_neg (by omega),if_neg h0]
  by_cases h1:y=2^(n - 1)
  ·rw [if_pos (by omega),if_pos h1]
  ·rw [if_neg (by omega),if_neg h1]
theorem rank_shift {z k:Nat} (n:Nat) (hn:n+k=64) (h1:1≤n) (hz:z < 2^n):wrap64 ((z*2^k:Nat):Int) / 2^k=rkN n z:=by
 have hp:=two_pos k
 have e:(2:Nat)^n*2^k=18446744073709551616:=by rw [← Nat.pow_add,hn,p64]
 have e1:(2:Nat)^(n - 1)*2^k=9223372036854775808:=by rw [← Nat.pow_add,← p63];exact pow_congr (by omega)
 have hlt:z*2^k < 18446744073709551616:=by rw [← e];exact Nat.mul_lt_mul_of_pos_right hz hp
 rw [pow_cast]
 unfold rkN
 by_cases h:2^(n - 1)≤z
 ·have h9:9223372036854775808≤z*2^k:=by rw [← e1];exact Nat.mul_le_mul_right _ h
  rw [if_pos h]
  have w:wrap64 ((z*2^k:Nat):Int)=((z:Int) - ((2^n:Nat):Int))*((2^k:Nat):Int):=by
   have:((z:Int) - ((2^n:Nat):Int))*((2^k:Nat):Int)=((z*2^k:Nat):Int) - ((2^n*2^k:Nat):Int):=by
    rw [Int.sub_mul,Int.natCast_mul,Int.natCast_mul]
   rw [this,e]
   generalize z*2^k=u at *
   unfold wrap64;omega
  rw [w]
  exact Int.mul_ediv_cancel _ (by generalize 2^k=q at *;omega)
 ·have h9:z*2^k < 9223372036854775808:=by rw [← e1];exact Nat.mul_lt_mul_of_pos_right (by omega) hp
  rw [if_neg h,w64 (by omega) (by omega),Int.natCast_mul]
  exact Int.mul_ediv_cancel _ (by generalize 2^k=q at *;omega)
theorem lead_Extend_eq {n x:Nat} (h1:1≤n) (hn:n≤64) (hx:x < 18446744073709551616):lead_Extend.f (x:Int) (n:Int)=some (rkN n (x%2^n),none):=by
 unfold lead_Extend.f
 have e1:wrap64 (64 - (n:Int))=((64 - n:Nat):Int):=by rw [w64 (by omega) (by omega)];omega
 have hs:(2:Nat)^n*2^(64 - n)=18446744073709551616:=by rw [pow_split (by omega),p64]
 have e2:shl .u64 (x:Int) ((64 - n:Nat):Int)=((x%2^n*2^(64 - n):Nat):Int):=by
  rw [shl_nat x _ (by omega),← hs,Nat.mul_mod_mul_right]
 rw [if_neg (by omega),if_neg (by omega),e1,if_pos (by omega),e2]
 have e3:∀ y:Int,shr .i64 y ((64 - n:Nat):Int)=y / 2^(64 - n):=fun y=>by
  unfold shr
  rw [Int.toNat_natCast,Nat.min_eq_left (by simp [IntKind.bits])]
 rw [e3,rank_shift n (by omega) h1 (Nat.mod_lt _ (two_pos n))]
theorem shape_Rank_eq {n x:Nat} (h:isW (n:Int)=true) (hx:x < 18446744073709551616):shape_Rank.f (n:Int) (x:Int)=some (rkN n (x%2^n),none):=by
 obtain ⟨b64,b8⟩:=pow64 h
 unfold shape_Rank.f
 rw [shape_is_eq,Option.bind_some,if_pos h,lead_Extend_eq (by omega) b64 hx];rfl
def magN (n x:Nat):Nat:=if 2^(n - 1) < x then 2^n - x else x
theorem two_halves {n:Nat} (h:1≤n):(2:Nat)^n=2*2^(n - 1):=by
 rw [show n=n - 1+1 by omega,Nat.pow_succ];simp;omega
theorem magN_bounds {n x:Nat} (h1:1≤n) (hx:x < 2^n) (h0:x≠0) (h2:x≠2^(n - 1)):0 < magN n x∧magN n x < 2^(n - 1):=by
 have e:=two_halves h1
 unfold magN
 split <;> omega
theorem neg_mod {n p:Nat} (h1:1≤n) (hn:n≤64) (hp:p < 18446744073709551616) (h2:2^(n - 1) < p%2^n):(18446744073709551616 - p)%18446744073709551616%2^(n - 1)=2^n - p%2^n:=by
 have e:=two_halves h1
 have s:(18446744073709551616:Nat)=2^n*2^(64 - n):=by rw [pow_split hn,p64]
 have hl:=Nat.mod_lt p (two_pos n)
 have hd:=Nat.div_add_mod p (2^n)
 have hq:p / 2^n < 2^(64 - n):=by rw [Nat.div_lt_iff_lt_mul (two_pos n),Nat.mul_comm,← s];exact hp
 have hpp:0 < p:=by
  rcases Nat.eq_zero_or_pos p with h | h
  ·rw [h,Nat.zero_mod] at h2;omega
  ·exact h
 rw [Nat.mod_eq_of_lt (show 18446744073709551616 - p < 18446744073709551616 by omega)]
 generalize p%2^n=y at *
 generalize p / 2^n=q at *
 obtain ⟨c,hc⟩:∃ c,2^(64 - n)=q+c+1:=⟨2^(64 - n) - q - 1,by omega⟩
 have e2:18446744073709551616 - p=(2^n - y)+2^(n - 1)*(2*c):=by
  have:2^n*(q+c+1)=2^n*q+2^(n - 1)*(2*c)+2^n:=by rw [e];grind
  rw [s,hc,this,← hd]
  omega
 rw [e2,Nat.add_mul_mod_self_left,Nat.mod_eq_of_lt (by omega)]
def splE (ng:Bool) (m w:Nat):Bool×Bool×Int×Int×Int×Int×Int×Int×Option Int:=
 (ng,runO m w,((runL m w:Nat):Int),decK m w,((dEb m w:Nat):Int),((decEx m w:Nat):Int),((dLf m w:Nat):Int),((w%2^dLf m w:Nat):Int),none)
theorem Split_j1 {n x w:Nat} {ng:Bool} (h:isW (n:Int)=true) (hx:x < 18446744073709551616) (hw:x%2^(n - 1)=w) (hw0:0 < w):
  Ev (fun k=>codec_Split.j1 k (n:Int) (x:Int) ng) (splE ng (n - 1) w):=by
 obtain ⟨b64,b8⟩:=pow64 h
 have hwl:w < 2^(n - 1):=by rw [← hw];exact Nat.mod_lt _ (two_pos (n - 1))
 obtain ⟨m,rfl⟩:∃ m,n=m+1:=⟨n - 1,by omega⟩
 rw [Nat.add_sub_cancel] at *
 obtain ⟨_,_,_,r1,r2⟩:=dec_sig (m:=m) (w:=w) (by omega) (by omega) hw0 hwl
 have em:wrap64 (((m+1:Nat):Int) - 1)=(m:Int):=by rw [w64 (by omega) (by omega)];omega
 have hd1:dL1 m w≤m:=by unfold dL1;omega
 have hd2:dEb m w≤dL1 m w:=by unfold dEb;omega
 have hd3:dEb m w≤2:=by unfold dEb;omega
 have hlf:dLf m w+dEb m w≤64:=by unfold dLf;omega
 have hlf0:dLf m w≤64:=by omega
 have hlm:dLf m w+dEb m w≤m:=by unfold dLf;omega
 have hlm2:dLf m w≤m:=by omega
 have el1:mx (wrap64 (wrap64 ((m:Int) - ((runL m w:Nat):Int)) - 1)) 0=((dL1 m w:Nat):Int):=by
  clear em
  rw [w64 (n:=(m:Int) - ((runL m w:Nat):Int)) (by omega) (by omega),w64 (by omega) (by omega),mx_zero]
  unfold dL1;congr 1;omega
 have eeb:mn ((dL1 m w:Nat):Int) 2=((dEb m w:Nat):Int):=by
  have:=mn_min (dL1 m w) 2
  exact this
 have elf:wrap64 (((dL1 m w:Nat):Int) - ((dEb m w:Nat):Int))=((dLf m w:Nat):Int):=by
  clear em el1 eeb
  rw [w64 (by omega) (by omega)];unfold dLf;omega
 have f1:=lead_Field_eq (x:=x) (a:=dLf m w) (n:=dEb m w) hx hlf
 have f2:lead_Field.f (x:Int) 0 ((dLf m w:Nat):Int)=_:=lead_Field_eq (x:=x) (a:=0) (n:=dLf m w) hx (by rw [Nat.zero_add];exact hlf0)
 have g1:x / 2^dLf m w%2^dEb m w=w / 2^dLf m w%2^dEb m w:=by
  rw [← Nat.mod_mul_right_div_self x,← Nat.mod_mul_right_div_self w,← Nat.pow_add,← hw,mod_pow_le (by rw [hw];exact hlm),hw]
 have g2:x / 2^0%2^dLf m w=w%2^dLf m w:=by
  rw [Nat.pow_zero,Nat.div_one,← mod_pow_le (a:=x) hlm2,hw]
 rw [g1] at f1
 rw [g2] at f2
 have hex:wrap64 (wrap64 ((w / 2^dLf m w%2^dEb m w:Nat):Int)*2^(2 - ((dEb m w:Nat):Int)).toNat)=((decEx m w:Nat):Int):=by
  clear em el1 eeb elf f1 f2 g1 g2
  have hl:=Nat.mod_lt (w / 2^dLf m w) (two_pos (dEb m w))
  have hl2:(2:Nat)^dEb m w≤2^2:=pow_le hd3
  have hx4:=decEx_lt (m:=m) (w:=w)
  unfold decEx at *
  have e3:(2:Int) - ((dEb m w:Nat):Int)=((2 - dEb m w:Nat):Int):=by omega
  rw [e3]
  generalize w / 2^dLf m w%2^dEb m w=u at *
  rw [w64 (n:=(u:Int)) (by omega) (by omega),Int.toNat_natCast,pow_cast,← Int.natCast_mul]
  generalize u*2^(2 - dEb m w)=v at *
  rw [w64 (by omega) (by omega)]
 have er1:runO m w=true→wrap64 (((runL m w:Nat):Int) - 1)=decK m w:=fun ho=>by
  clear em el1 eeb elf f1 f2 g1 g2 hex
  unfold decK;rw [if_pos ho,w64 (by omega) (by omega)]
 have er2:runO m w=false→wrap64 (-((runL m w:Nat):Int))=decK m w:=fun ho=>by
  clear em el1 eeb elf f1 f2 g1 g2 hex
  unfold decK;rw [ho,w64 (by omega) (by omega)];rfl
 refine evs ?_
 simp only [codec_Split.j1,nI_eq,em]
 have hm1:1≤m:=by clear em el1 eeb elf f1 f2 g1 g2 hex er1 er2;omega
 have hm2:m≤63:=by clear em el1 eeb elf f1 f2 g1 g2 hex er1 er2;omega
 refine Ev.bind (lead_Run_eq hm1 hm2 hx hw hw0) ?_
 refine evn ?_
 simp only [el1,eeb,elf,f1,f2,Option.bind_some,hex]
 unfold splE
 cases ho:runO m w
 ·simp [er2 ho]
 ·simp [er1 ho]
theorem Split_real {n p:Nat} (h:isW (n:Int)=true) (hp:p < 18446744073709551616) (h0:p%2^n≠0) (h1:p%2^n≠2^(n - 1)):
  Ev (fun k=>codec_Split.f k (n:Int) (p:Int)) (splE (decide (2^(n - 1) < p%2^n)) (n - 1) (magN n (p%2^n))):=by
 obtain ⟨b64,b8⟩:=pow64 h
 have hm:=magN_bounds (n:=n) (by omega) (Nat.mod_lt p (two_pos n)) h0 h1
 have hl:=Nat.mod_lt p (two_pos n)
 have e:=two_halves (n:=n) (by omega)
 unfold codec_Split.f
 simp only [shape_Kind_eq h hp,if_neg h0,if_neg h1,Option.bind_some,Option.isNone_none,if_true]
 refine evs ?_
 simp only [codec_Split.j0,nI_eq,show ((1:Int) != 1)=false from rfl,Bool.false_eq_true,if_false,shape_Rank_eq h hp,Option.bind_some]
 by_cases hs:2^(n - 1) < p%2^n
 ·have hr:rkN n (p%2^n) < 0:=by unfold rkN;rw [if_pos (by omega)];omega
  simp only [if_pos hr,neg_wrap hp,decide_eq_true hs]
  refine Split_j1 h (Nat.mod_lt _ (by decide)) ?_ hm.1
  rw [neg_mod (by omega) b64 hp hs]
  unfold magN;rw [if_pos hs]
 ·have hr:¬ rkN n (p%2^n) < 0:=by unfold rkN;rw [if_neg (by omega)];omega
  simp only [if_neg hr,decide_eq_false hs]
  refine Split_j1 h hp ?_ hm.1
  have:magN n (p%2^n)=p%2^n:=by unfold magN;rw [if_neg hs]
  rw [this,← mod_pow_le (a:=p) (show n - 1≤n by omega),Nat.mod_eq_of_lt (by omega)]
theorem Decode_no {n:Int} (h:isW n=false) (x:Int):Ev (fun k=>codec_Decode.f k n x) (0,false,0,0,some 2):=by
 unfold codec_Decode.f
 simp only [shape_Kind_no h,Option.bind_some]
 exact Ev.now _
def decE (n x:Nat):Int×Bool×Int×Int×Option Int:=
 if x=0 then (0,false,0,0,none) else if x=2^(n - 1) then (2,false,0,0,none)
 else (1,decide (2^(n - 1) < x),decS (n - 1) (magN n x),((decFr (n - 1) (magN n x):Nat):Int),none)
theorem Decode_eq {n p:Nat} (h:isW (n:Int)=true) (hp:p < 18446744073709551616):Ev (fun k=>codec_Decode.f k (n:Int) (p:Int)) (decE n (p%2^n)):=by
 obtain ⟨b64,b8⟩:=pow64 h
 unfold codec_Decode.f decE
 simp only [shape_Kind_eq h hp,Option.bind_some,Option.isNone_none,if_true]
 by_cases h0:p%2^n=0
 ·simp only [if_pos h0]
  exact Ev.now _
 ·simp only [if_neg h0]
  by_cases h1:p%2^n=2^(n - 1)
  ·simp only [if_pos h1]
   exact Ev.now _
  ·simp only [if_neg h1,if_true]
   refine Ev.bind (Split_real h hp h0 h1) ?_
   have hm:=magN_bounds (n:=n) (by omega) (Nat.mod_lt p (two_pos n)) h0 h1
   generalize hg:magN n (p%2^n)=w at *
   obtain ⟨m,rfl⟩:∃ m,n=m+1:=⟨n - 1,by omega⟩
   rw [Nat.add_sub_cancel] at *
   obtain ⟨_,s1,s2,r1,r2⟩:=dec_sig (m:=m) (w:=w) (by omega) (by omega) hm.1 hm.2
   have hx4:=decEx_lt (m:=m) (w:=w)
   have hlf:dLf m w≤63:=by unfold dLf dL1;omega
   have hfr:=decFr_range hlf
   have ew:wrap64 (63 - ((dLf m w:Nat):Int))=((63 - dLf m w:Nat):Int):=by rw [w64 (by omega) (by omega)];omega
   have es:wrap64 (wrap64 (4*decK m w)+((decEx m w:Nat):Int))=decS m w:=by
    clear ew
    unfold decS at *
    rw [w64 (n:=4*decK m w) (by omega) (by omega),w64 (by omega) (by omega)]
   have ef:Go.bits .or .u64 9223372036854775808 (shl .u64 ((w%2^dLf m w:Nat):Int) ((63 - dLf m w:Nat):Int))=((decFr m w:Nat):Int):=by
    clear ew es
    have hl:=Nat.mod_lt w (two_pos (dLf m w))
    have hb:w%2^dLf m w*2^(63 - dLf m w) < 2^63:=by
     have h2:2^dLf m w*2^(63 - dLf m w)=2^63:=pow_split hlf
     rw [← h2];exact Nat.mul_lt_mul_of_pos_right hl (two_pos _)
    have hb':=hb
    rw [p63] at hb'
    rw [shl_nat _ _ (by omega),Nat.mod_eq_of_lt (by omega)]
    have:=or_add 9223372036854775808 (w%2^dLf m w*2^(63 - dLf m w)) 63 (by decide) (by decide) hb (by omega)
    unfold decFr
    rw [p63]
    exact this
   refine evn ?_
   unfold splE
   simp only [ew,es,ef,if_pos (show (0:Int)≤((63 - dLf m w:Nat):Int) by clear ew es ef;omega)]
end Go.Proofs.YtbpcfhhcoklinaaGreat.V
namespace Go.Proofs.YtbpcfhhcoklinaaGreat.V
open Go Go.RowKit Go.Proofs.YtbpcfhhcoklinaaGreat.Ab Go.Proofs.YtbpcfhhcoklinaaGreat.Fn
theorem dLf_le {m w:Nat} (h:m≤64):dLf m w≤63:=by unfold dLf dL1;omega
theorem dec_soundN {n w:Nat} {ng:Bool} (h8:8≤n) (hn:n≤64) (hw0:0 < w) (hw:w < 2^(n - 1)):soundN 1 ng (decS (n - 1) w) ((decFr (n - 1) w:Nat):Int)=true:=by
 obtain ⟨_,s1,s2,_,_⟩:=dec_sig (m:=n - 1) (w:=w) (by omega) (by omega) hw0 hw
 have:=decFr_range (m:=n - 1) (w:=w) (dLf_le (by omega))
 rw [p63] at this
 unfold soundN
 rw [if_neg (by omega)]
 exact decide_eq_true (by omega)
theorem q4 {n:Nat} (hn:n≤63):(2:Nat)^(202 - n)=4*2^(200 - n)∧(2:Nat)^(201 - n)=2*2^(200 - n):=by
 rw [show 202 - n=200 - n+1+1 by omega,show 201 - n=200 - n+1 by omega,Nat.pow_succ,Nat.pow_succ]
 omega
end Go.Proofs.YtbpcfhhcoklinaaGreat.V
namespace Go.Proofs.YtbpcfhhcoklinaaGreat.V
open Go Go.RowKit Go.Proofs.YtbpcfhhcoklinaaGreat.Ab Go.Proofs.YtbpcfhhcoklinaaGreat.Fn
def n4 (a b c d:Nat):Nat:=((a*18446744073709551616+b)*18446744073709551616+c)*18446744073709551616+d
structure W4 (a b c d W:Nat):Prop where
 ha:a < 18446744073709551616
 hb:b < 18446744073709551616
 hc:c < 18446744073709551616
 hd:d < 18446744073709551616
 e:n4 a b c d=W
theorem W4.zero:W4 0 0 0 0 0:=⟨by decide,by decide,by decide,by decide,rfl⟩
theorem W4.of {V:Nat} (h:V < 2^128):W4 (V / 18446744073709551616) (V%18446744073709551616) 0 0 (V*2^128):=by
 rw [p128] at *
 refine ⟨by omega,by omega,by decide,by decide, ?_⟩
 unfold n4
 omega
theorem W4.lt {a b c d W:Nat} (h:W4 a b c d W):W < 2^256:=by
 obtain ⟨ha,hb,hc,hd,e⟩:=h
 unfold n4 at e
 rw [show (2:Nat)^256=18446744073709551616*18446744073709551616*18446744073709551616*18446744073709551616 by decide]
 omega
theorem W4.eq0 {a b c d W:Nat} (h:W4 a b c d W):W=0↔a=0∧b=0∧c=0∧d=0:=by
 obtain ⟨ha,hb,hc,hd,e⟩:=h
 unfold n4 at e
 omega
theorem W4.parts {a b c d W:Nat} (h:W4 a b c d W):2^128*(a*18446744073709551616+b)+(c*18446744073709551616+d)=W:=by
 have e:=h.e
 unfold n4 at e
 rw [p128]
 omega
theorem W4.lowlt {a b c d W:Nat} (h:W4 a b c d W):c*18446744073709551616+d < 2^128:=by
 have e:=h.hc
 have e:=h.hd
 rw [p128]
 omega
theorem W4.top {a b c d W:Nat} (h:W4 a b c d W):a*18446744073709551616+b=W / 2^128:=by
 have h2:=h.parts
 have h3:=h.lowlt
 rw [← h2,Nat.mul_add_div (two_pos 128),Nat.div_eq_of_lt h3,Nat.add_zero]
theorem W4.low {a b c d W:Nat} (h:W4 a b c d W):W%2^128=c*18446744073709551616+d:=by
 have h2:=h.parts
 have h3:=h.lowlt
 rw [← h2,Nat.mul_add_mod,Nat.mod_eq_of_lt h3]
theorem W4.hi {a b c d W:Nat} (h:W4 a b c d W):(a:Int)=TH (W / 2^128)∧(b:Int)=TL (W / 2^128):=by
 rw [← h.top]
 have:=h.hb
 exact ⟨(TH_of this).symm,(TL_of this).symm⟩
theorem n4_shift {B p q a b c d:Nat} (hB:p*q=B) (hp:0 < p) (hq:0 < q) (ha:a < B) (hb:b < B) (hc:c < B) (hd:d < B):
  a / p < B∧b / p+a%p*q < B∧c / p+b%p*q < B∧d / p+c%p*q < B ∧
  (((a*B+b)*B+c)*B+d) / p=(((a / p)*B+(b / p+a%p*q))*B+(c / p+b%p*q))*B+(d / p+c%p*q) ∧
  (((a*B+b)*B+c)*B+d)%p=d%p:=by
 have key:∀ x y,x < B→x / p+y%p*q < B:=by
  intro x y hx
  have h1:x / p < q:=by rw [Nat.div_lt_iff_lt_mul hp,Nat.mul_comm,hB];exact hx
  have h2:=Nat.mul_le_mul_right q (show y%p+1≤p from Nat.mod_lt _ hp)
  rw [hB,Nat.add_mul] at h2
  omega
 have e:((a*B+b)*B+c)*B+d=p*((((a / p)*B+(b / p+a%p*q))*B+(c / p+b%p*q))*B+(d / p+c%p*q))+d%p:=by
  have da:=Nat.div_add_mod a p
  have db:=Nat.div_add_mod b p
  have dc:=Nat.div_add_mod c p
  have dd:=Nat.div_add_mod d p
  generalize a / p=a1 at *
  generalize a%p=a0 at *
  generalize b / p=b1 at *
  generalize b%p=b0 at *
  generalize c / p=c1 at *
  generalize c%p=c0 at *
  generalize d / p=d1 at *
  generalize d%p=d0 at *
  subst hB
  subst da db dc dd
  grind
 refine ⟨Nat.lt_of_le_of_lt (Nat.div_le_self _ _) ha,key b a hb,key c b hc,key d c hd, ?_, ?_⟩
 ·rw [e,Nat.mul_add_div hp,Nat.div_eq_of_lt (Nat.mod_lt _ hp),Nat.add_zero]
 ·rw [e,Nat.mul_add_mod,Nat.mod_mod]
theorem or_shift {x y s:Nat} (hs:s≤64) (hx:x < 18446744073709551616):Go.bits .or .u64 (shr .u64 (x:Int) (s:Int)) (shl .u64 (y:Int) ((64 - s:Nat):Int))=((x / 2^s+y%2^s*2^(64 - s):Nat):Int):=by
 have hq:=pow_split hs
 have e:y*2^(64 - s)%18446744073709551616=y%2^s*2^(64 - s):=by
  rw [← p64,← hq,Nat.mul_mod_mul_right]
 have h1:x / 2^s < 2^(64 - s):=by
  rw [Nat.div_lt_iff_lt_mul (two_pos s),Nat.mul_comm,hq,p64];exact hx
 rw [shr_nat x s hs,shl_nat y (64 - s) (by omega),e,or_nat _ _ (Nat.lt_of_le_of_lt (Nat.div_le_self _ _) hx) (by rw [← e];exact Nat.mod_lt _ (by decide)),Nat.or_comm,or_parts h1,Nat.add_comm]
theorem under_l0:∀ (m s:Nat) (a b c d:Nat) (L:Bool),s / 64=m→s < 4294967296→a < 18446744073709551616→b < 18446744073709551616→c < 18446744073709551616→d < 18446744073709551616 →
  ∃ a' b' c' d':Nat,W4 a' b' c' d' (n4 a b c d / 2^s)∧Ev (fun k=>broad_wide_under.l0 k (s:Int) L (a:Int) (b:Int) (c:Int) (d:Int)) ((a':Int),(b':Int),(c':Int),(d':Int),L||decide (n4 a b c d%2^s≠0))
 | 0,s,a,b,c,d,L,hm,hs,ha,hb,hc,hd=>by
  have h64:s < 64:=by omega
  have sp:=pow_split (Nat.le_of_lt h64)
  rw [p64] at sp
  have e64:wrap64 (64 - (s:Int))=((64 - s:Nat):Int):=by rw [w64 (by omega) (by omega)];omega
  have c1:¬ (s:Int)≥64:=by omega
  have c2:(0:Int)≤(s:Int):=by omega
  have c3:(0:Int)≤((64 - s:Nat):Int):=by omega
  obtain ⟨k1,k2,k3,k4,k5,k6⟩:=n4_shift sp (two_pos s) (two_pos _) ha hb hc hd
  refine ⟨_,_,_,_,⟨k1,k2,k3,k4,k5.symm⟩,evs ?_⟩
  rw [show n4 a b c d%2^s=d%2^s from k6]
  simp only [broad_wide_under.l0]
  simp only [if_neg c1]
  by_cases h0:s=0
  ·subst h0
   rw [if_pos (show ((0:Nat):Int)=0 from rfl)]
   refine evn ?_
   simp only [Nat.pow_zero,Nat.div_one,Nat.mod_one,Nat.zero_mul,Nat.add_zero]
   cases L <;> rfl
  ·rw [if_neg (show ¬ (s:Int)=0 from fun h=>h0 (Int.ofNat.inj h)),e64]
   have hz:(shl .u64 (d:Int) ((64 - s:Nat):Int) != 0)=decide (d%2^s≠0):=by
    rw [shl_nat d (64 - s) (Nat.sub_le _ _),← p64,← pow_split (Nat.le_of_lt h64),Nat.mul_mod_mul_right]
    have:=two_pos (64 - s)
    rw [Bool.eq_iff_iff]
    simp only [bne_iff_ne,decide_eq_true_eq,ne_eq,Int.natCast_eq_zero,Nat.mul_eq_zero]
    constructor
    ·intro h h';exact h (.inl h')
    ·rintro h (h' | h')
     ·exact h h'
     ·omega
   rw [or_shift (Nat.le_of_lt h64) hb,or_shift (Nat.le_of_lt h64) hc,or_shift (Nat.le_of_lt h64) hd,shr_nat a s (Nat.le_of_lt h64),hz]
   cases L
   ·simp only [Bool.false_or]
    rw [if_neg (by decide),if_pos c3,if_pos c2]
    exact Ev.now _
   ·simp only [Bool.true_or]
    rw [if_pos trivial,if_pos c2,if_pos c3]
    exact Ev.now _
 | m+1,s,a,b,c,d,L,hm,hs,ha,hb,hc,hd=>by
  have h64:64≤s:=by omega
  have e64:wrap64 ((s:Int) - 64)=((s - 64:Nat):Int):=by rw [w64 (by omega) (by omega)];omega
  obtain ⟨a',b',c',d',hw,hE⟩:=under_l0 m (s - 64) 0 a b c (L||decide (d≠0)) (by omega) (by omega) (by decide) ha hb hc
  have hn:n4 0 a b c=n4 a b c d / 2^64:=by unfold n4;rw [p64];omega
  have hd0:n4 a b c d%2^64=d:=by unfold n4;rw [p64];omega
  have hsp:(2:Nat)^s=2^64*2^(s - 64):=by rw [← Nat.pow_add];congr 1;omega
  have e1:n4 0 a b c / 2^(s - 64)=n4 a b c d / 2^s:=by rw [hn,hsp,Nat.div_div_eq_div_mul]
  have e2:(L||decide (d≠0)||decide (n4 0 a b c%2^(s - 64)≠0))=(L||decide (n4 a b c d%2^s≠0)):=by
   rw [hsp,Nat.mod_mul,hd0,← hn,Bool.or_assoc]
   congr 1
   have:=two_pos 64
   rw [Bool.eq_iff_iff]
   simp only [Bool.or_eq_true,decide_eq_true_eq,ne_eq,Nat.add_eq_zero_iff,Nat.mul_eq_zero]
   generalize n4 0 a b c%2^(s - 64)=r
   have:(2:Nat)^64≠0:=by omega
   constructor
   ·rintro (h | h) ⟨h1,h2⟩
    ·exact h h1
    ·rcases h2 with h2 | h2
     ·exact this h2
     ·exact h h2
   ·intro h
    by_cases h1:d=0
    ·exact .inr fun h2=>h ⟨h1,.inr h2⟩
    ·exact .inl h1
  rw [e1] at hw
  rw [e2] at hE
  refine ⟨a',b',c',d',hw,evs ?_⟩
  simp only [broad_wide_under.l0]
  simp only [if_pos (show (s:Int)≥64 by omega),e64]
  have hne:((d:Int) != 0)=decide (d≠0):=by
   rw [Bool.eq_iff_iff];simp
  simp only [hne]
  cases L
  ·simp only [if_neg (show ¬ (false=true) by decide)];exact hE
  ·simp only [if_pos];exact hE
theorem under_eq {a b c d W s:Nat} (h:W4 a b c d W) (hs:s < 9223372036854775808):∃ a' b' c' d':Nat,W4 a' b' c' d' (W / 2^s) ∧
  Ev (fun k=>broad_wide_under.f k (a:Int) (b:Int) (c:Int) (d:Int) (s:Int)) ((a':Int),(b':Int),(c':Int),(d':Int),decide (W%2^s≠0)):=by
 unfold broad_wide_under.f
 by_cases h2:256≤s
 ·have hlt:W < 2^s:=Nat.lt_of_lt_of_le h.lt (pow_le h2)
  refine ⟨0,0,0,0,by rw [Nat.div_eq_of_lt hlt];exact W4.zero, ?_⟩
  simp only [if_pos (show (s:Int)≥256 by omega)]
  rw [Nat.mod_eq_of_lt hlt]
  refine evn ?_
  have hb:(!(((a:Int)==0)&&(((b:Int)==0)&&(((c:Int)==0)&&((d:Int)==0)))))=decide (W≠0):=by
   have:=h.eq0
   rw [Bool.eq_iff_iff]
   simp only [Bool.not_eq_true',decide_eq_true_eq,ne_eq,this,Bool.and_eq_false_iff,beq_eq_false_iff_ne,Int.natCast_eq_zero]
   omega
  rw [hb];rfl
 ·simp only [if_neg (show ¬ (s:Int)≥256 by omega)]
  obtain ⟨a',b',c',d',hw,hE⟩:=under_l0 (s / 64) s a b c d false rfl (by omega) h.ha h.hb h.hc h.hd
  rw [h.e,Bool.false_or] at hE
  rw [h.e] at hw
  exact ⟨a',b',c',d',hw,hE⟩
theorem Ob {α β:Type} {o:Option α} {v:α} {f:α→Option β} {r:Option β} (h:o=some v) (h2:f v=r):o.bind f=r:=by subst h;exact h2
theorem add64_nat {x y r:Nat} (hx:x < 18446744073709551616) (hy:y < 18446744073709551616) (hr:r≤1):∃ m q:Nat,m < 18446744073709551616∧q≤1∧x+y+r=18446744073709551616*q+m∧bits_Add64.f (x:Int) (y:Int) (r:Int)=some ((m:Int),(q:Int)):=by
 refine ⟨(x+y+r)%18446744073709551616,(x+y+r) / 18446744073709551616,Nat.mod_lt _ (by decide),by omega,(Nat.div_add_mod _ _).symm, ?_⟩
 unfold bits_Add64.f
 rw [if_pos (by omega)]
 rfl
theorem p256:(2:Nat)^256=18446744073709551616*18446744073709551616*18446744073709551616*18446744073709551616:=by decide
theorem sum4 {B a b c d a' b' c' d' q0 q1 q2 q3 w z y x:Nat} (w3:d+d'+0=B*q0+w) (z3:c+c'+q0=B*q1+z) (y3:b+b'+q1=B*q2+y) (x3:a+a'+q2=B*q3+x):
  (((a*B+b)*B+c)*B+d)+(((a'*B+b')*B+c')*B+d')=B*B*B*B*q3+(((x*B+y)*B+z)*B+w):=by
 have e1:(((a*B+b)*B+c)*B+d)+(((a'*B+b')*B+c')*B+d')=(((a+a')*B+(b+b'))*B+(c+c'))*B+(d+d'+0):=by grind
 have e2:(((a+a')*B+(b+b'))*B+(c+c'))*B+(B*q0+w)=(((a+a')*B+(b+b'))*B+(c+c'+q0))*B+w:=by grind
 have e3:(((a+a')*B+(b+b'))*B+(B*q1+z))*B+w=(((a+a')*B+(b+b'+q1))*B+z)*B+w:=by grind
 have e4:(((a+a')*B+(B*q2+y))*B+z)*B+w=(((a+a'+q2)*B+y)*B+z)*B+w:=by grind
 rw [e1,w3,e2,z3,e3,y3,e4,x3]
 grind
theorem dif4 {B a b c d a' b' c' d' q0 q1 q2 q3 w z y x r:Nat} (w3:d+B*q0=d'+r+w) (z3:c+B*q1=c'+q0+z) (y3:b+B*q2=b'+q1+y) (x3:a+B*q3=a'+q2+x):
  (((a*B+b)*B+c)*B+d)+B*B*B*B*q3=(((a'*B+b')*B+c')*B+d')+r+(((x*B+y)*B+z)*B+w):=by
 have a1:=congrArg (fun t=>t*(B*B*B)) x3
 have a2:=congrArg (fun t=>t*(B*B)) y3
 have a3:=congrArg (fun t=>t*B) z3
 grind
theorem plus_eq {a b c d W a' b' c' d' X:Nat} (h:W4 a b c d W) (h':W4 a' b' c' d' X):∃ x y z w q:Nat,W4 x y z w ((W+X)%2^256)∧q=(W+X) / 2^256 ∧
  broad_wide_plus.f (a:Int) (b:Int) (c:Int) (d:Int) (a':Int) (b':Int) (c':Int) (d':Int)=some ((x:Int),(y:Int),(z:Int),(w:Int),(q:Int)):=by
 obtain ⟨ha,hb,hc,hd,e⟩:=h
 obtain ⟨ga,gb,gc,gd,g⟩:=h'
 obtain ⟨w,q0,w1,w2,w3,w4⟩:=add64_nat (r:=0) hd gd (by decide)
 obtain ⟨z,q1,z1,z2,z3,z4⟩:=add64_nat hc gc w2
 obtain ⟨y,q2,y1,y2,y3,y4⟩:=add64_nat hb gb z2
 obtain ⟨x,q3,x1,x2,x3,x4⟩:=add64_nat ha ga y2
 have hw:W4 x y z w (n4 x y z w):=⟨x1,y1,z1,w1,rfl⟩
 have hs:W+X=2^256*q3+n4 x y z w:=by
  have t:=sum4 w3 z3 y3 x3
  rw [← p256] at t
  subst e g
  exact t
 refine ⟨x,y,z,w,q3, ?_, ?_, ?_⟩
 ·rw [hs,Nat.mul_add_mod,Nat.mod_eq_of_lt hw.lt];exact hw
 ·rw [hs,Nat.mul_add_div (two_pos 256),Nat.div_eq_of_lt hw.lt];rfl
 ·unfold broad_wide_plus.f
  rw [show (0:Int)=((0:Nat):Int) from rfl]
  exact Ob w4 (Ob z4 (Ob y4 (Ob x4 rfl)))
theorem sub64_nat {x y r:Nat} (hx:x < 18446744073709551616) (hy:y < 18446744073709551616) (hr:r≤1):∃ m q:Nat,m < 18446744073709551616∧q≤1∧x+18446744073709551616*q=y+r+m∧bits_Sub64.f (x:Int) (y:Int) (r:Int)=some ((m:Int),(q:Int)):=by
 by_cases h:x < y+r
 ·refine ⟨x+18446744073709551616 - y - r,1,by omega,by omega,by omega, ?_⟩
  unfold bits_Sub64.f
  rw [if_pos (by omega),if_pos (by omega)]
  congr 2
  omega
 ·refine ⟨x - y - r,0,by omega,by omega,by omega, ?_⟩
  unfold bits_Sub64.f
  rw [if_pos (by omega),if_neg (by omega)]
  congr 2
  omega
theorem less_eq {a b c d W a' b' c' d' X r:Nat} (h:W4 a b c d W) (h':W4 a' b' c' d' X) (hr:r≤1):∃ x y z w q:Nat,W4 x y z w (n4 x y z w)∧q≤1∧W+2^256*q=X+r+n4 x y z w ∧
  broad_wide_less.f (a:Int) (b:Int) (c:Int) (d:Int) (a':Int) (b':Int) (c':Int) (d':Int) (r:Int)=some ((x:Int),(y:Int),(z:Int),(w:Int),(q:Int)):=by
 obtain ⟨ha,hb,hc,hd,e⟩:=h
 obtain ⟨ga,gb,gc,gd,g⟩:=h'
 obtain ⟨w,q0,w1,w2,w3,w4⟩:=sub64_nat hd gd hr
 obtain ⟨z,q1,z1,z2,z3,z4⟩:=sub64_nat hc gc w2
 obtain ⟨y,q2,y1,y2,y3,y4⟩:=sub64_nat hb gb z2
 obtain ⟨x,q3,x1,x2,x3,x4⟩:=sub64_nat ha ga y2
 refine ⟨x,y,z,w,q3,⟨x1,y1,z1,w1,rfl⟩,x2, ?_, ?_⟩
 ·have t:=dif4 w3 z3 y3 x3
  rw [← p256] at t
  subst e g
  exact t
 ·unfold broad_wide_less.f
  exact Ob w4 (Ob z4 (Ob y4 (Ob x4 rfl)))
theorem n4_up {B p q a b c d:Nat} (hB:p*q=B) (hp:0 < p) (hq:0 < q) (ha:a < q) (hb:b < B) (hc:c < B) (hd:d < B):
  a*p+b / q < B∧b%q*p+c / q < B∧c%q*p+d / q < B∧d%q*p < B ∧
  (((a*p+b / q)*B+(b%q*p+c / q))*B+(c%q*p+d / q))*B+d%q*p=(((a*B+b)*B+c)*B+d)*p:=by
 have key:∀ x y,y < q→x < B→y*p+x / q < B:=by
  intro x y hy hx
  have h1:x / q < p:=by rw [Nat.div_lt_iff_lt_mul hq,hB];exact hx
  have h2:=Nat.mul_le_mul_right p (show y+1≤q from hy)
  rw [Nat.mul_comm q,hB,Nat.add_mul] at h2
  omega
 have k0:=key 0 (d%q) (Nat.mod_lt _ hq) (by omega)
 rw [Nat.zero_div,Nat.add_zero] at k0
 refine ⟨key b a ha hb,key c _ (Nat.mod_lt _ hq) hc,key d _ (Nat.mod_lt _ hq) hd,k0, ?_⟩
 have db:=Nat.div_add_mod b q
 have dc:=Nat.div_add_mod c q
 have dd:=Nat.div_add_mod d q
 generalize b / q=b1 at *
 generalize b%q=b0 at *
 generalize c / q=c1 at *
 generalize c%q=c0 at *
 generalize d / q=d1 at *
 generalize d%q=d0 at *
 subst hB
 subst db dc dd
 grind
theorem or_up {x y s:Nat} (hs:s≤64) (hy:y < 18446744073709551616):Go.bits .or .u64 (shl .u64 (x:Int) (s:Int)) (shr .u64 (y:Int) ((64 - s:Nat):Int))=((x%2^(64 - s)*2^s+y / 2^(64 - s):Nat):Int):=by
 have hq:=pow_split hs
 have e:x*2^s%18446744073709551616=x%2^(64 - s)*2^s:=by
  rw [← p64,← hq,Nat.mul_comm (2^s),Nat.mul_mod_mul_right]
 have h1:y / 2^(64 - s) < 2^s:=by
  rw [Nat.div_lt_iff_lt_mul (two_pos _),hq,p64];exact hy
 rw [shl_nat x s hs,shr_nat y (64 - s) (Nat.sub_le _ _),e,or_nat _ _ (by rw [← e];exact Nat.mod_lt _ (by decide)) (Nat.lt_of_le_of_lt (Nat.div_le_self _ _) hy),or_parts h1]
theorem shl_up {x s:Nat} (hs:s≤64):shl .u64 (x:Int) (s:Int)=((x%2^(64 - s)*2^s:Nat):Int):=by
 have hq:=pow_split hs
 rw [shl_nat x s hs,← p64,← hq,Nat.mul_comm (2^s),Nat.mul_mod_mul_right]
theorem n4_bl {a b c d:Nat} (h0:0 < a) (hb:b < 18446744073709551616) (hc:c < 18446744073709551616) (hd:d < 18446744073709551616):bl (n4 a b c d)=bl a+192:=by
 have c0:=bl_pos h0
 have c1:=bl_le h0
 have c2:=bl_lt a
 have p192:(2:Nat)^192=18446744073709551616*18446744073709551616*18446744073709551616:=by decide
 have lo:18446744073709551616*18446744073709551616*18446744073709551616*a≤n4 a b c d:=by unfold n4;omega
 have hi:n4 a b c d < 18446744073709551616*18446744073709551616*18446744073709551616*(a+1):=by unfold n4;omega
 rw [← p192] at lo hi
 refine bl_unique (by omega) ?_ ?_
 ·rw [show bl a+192 - 1=192+(bl a - 1) by omega,Nat.pow_add]
  exact Nat.le_trans (Nat.mul_le_mul_left _ c1) lo
 ·rw [Nat.add_comm,Nat.pow_add]
  exact Nat.lt_of_lt_of_le hi (Nat.mul_le_mul_left _ c2)
def RaisedP (a b c d k:Nat):Prop:=∃ a' b' c' d':Nat,W4 a' b' c' d' (n4 a b c d*2^(256 - bl (n4 a b c d))) ∧
  Ev (fun n=>broad_wide_raised.l0 n (k:Int) (a:Int) (b:Int) (c:Int) (d:Int)) ((a':Int),(b':Int),(c':Int),(d':Int),((k+(256 - bl (n4 a b c d)):Nat):Int))
theorem raised_base {a b c d k:Nat} (h0:0 < a) (ha:a < 18446744073709551616) (hb:b < 18446744073709551616) (hc:c < 18446744073709551616) (hd:d < 18446744073709551616) (hk:k < 4294967296):RaisedP a b c d k:=by
 have hbl:=n4_bl h0 hb hc hd
 have g0:=bl_pos h0
 have g1:=bl_le_of_lt (show a < 2^64 by rw [p64];exact ha)
 have g2:=bl_lt a
 obtain ⟨s,hs⟩:∃ s,s=64 - bl a:=⟨_,rfl⟩
 have s1:256 - bl (n4 a b c d)=s:=by omega
 have s2:64 - s=bl a:=by omega
 have s3:s≤64:=by omega
 have s4:wrap64 (64 - (bl a:Int))=(s:Int):=by rw [w64 (by omega) (by omega)];omega
 have s5:wrap64 (64 - (s:Int))=((64 - s:Nat):Int):=by rw [w64 (by omega) (by omega)];omega
 have s6:wrap64 ((k:Int)+(s:Int))=((k+s:Nat):Int):=by rw [w64 (by omega) (by omega)];omega
 have s7:¬ (a:Int)=0:=by omega
 have s8:(0:Int)≤(s:Int):=by omega
 have s9:(0:Int)≤((64 - s:Nat):Int):=by omega
 have sp:=pow_split s3
 rw [p64] at sp
 obtain ⟨k1,k2,k3,k4,k5⟩:=n4_up sp (two_pos s) (two_pos _) (by rw [s2];exact g2) hb hc hd
 have L:bits_LeadingZeros64.f (a:Int)=some (s:Int):=by
  unfold bits_LeadingZeros64.f bits_Len64.f
  rw [if_pos (by omega)]
  simp only [Option.bind_some]
  rw [Int.toNat_natCast,bitLen_bl (by rw [p64];exact ha),s4]
 unfold RaisedP
 rw [s1]
 refine ⟨_,_,_,_,⟨k1,k2,k3,k4,k5⟩,evs ?_⟩
 simp only [broad_wide_raised.l0]
 simp only [if_neg s7]
 refine Ev.bind (evn L) ?_
 by_cases z:s=0
 ·rw [if_pos (by omega)]
  refine evn ?_
  subst z
  have e:∀ x,x < 18446744073709551616→x / 2^(64 - 0)=0∧x%2^(64 - 0)=x:=by
   intro x hx
   rw [← p64] at hx
   exact ⟨Nat.div_eq_of_lt hx,Nat.mod_eq_of_lt hx⟩
  rw [(e b hb).1,(e b hb).2,(e c hc).1,(e c hc).2,(e d hd).1,(e d hd).2]
  simp only [Nat.pow_zero,Nat.mul_one,Nat.add_zero]
 ·rw [if_neg (by omega),s5,if_pos s8,if_pos s9]
  rw [or_up s3 hb,or_up s3 hc,or_up s3 hd,shl_up s3,s6,Nat.mod_eq_of_lt (show a < 2^(64 - s) by rw [s2];exact g2)]
  exact Ev.now _
theorem raised_step {b c d k:Nat} (h0:b≠0∨c≠0∨d≠0) (hb:b < 18446744073709551616) (hc:c < 18446744073709551616) (hd:d < 18446744073709551616) (hk:k < 4294967296) (h:RaisedP b c d 0 (k+64)):RaisedP 0 b c d k:=by
 unfold RaisedP at *
 have e:n4 b c d 0=n4 0 b c d*2^64:=by unfold n4;rw [p64];omega
 have hp:0 < n4 0 b c d:=by unfold n4;omega
 have hlt:n4 0 b c d < 2^192:=by
  rw [show (2:Nat)^192=18446744073709551616*18446744073709551616*18446744073709551616 by decide]
  unfold n4;omega
 have l:=bl_le_of_lt hlt
 rw [e,bl_mul_pow 64 hp,Nat.mul_assoc,← Nat.pow_add] at h
 generalize n4 0 b c d=W at *
 have e1:64+(256 - (bl W+64))=256 - bl W:=by omega
 have e2:k+64+(256 - (bl W+64))=k+(256 - bl W):=by omega
 rw [e1,e2] at h
 obtain ⟨a',b',c',d',hw,hE⟩:=h
 refine ⟨a',b',c',d',hw,evs ?_⟩
 simp only [broad_wide_raised.l0]
 simp only [if_pos (show ((0:Nat):Int)=0 from rfl)]
 rw [show wrap64 ((k:Int)+64)=((k+64:Nat):Int) by rw [w64 (by omega) (by omega)];omega]
 exact hE
theorem raised_eq {a b c d W:Nat} (h:W4 a b c d W) (h0:0 < W):∃ a' b' c' d':Nat,W4 a' b' c' d' (W*2^(256 - bl W)) ∧
  Ev (fun n=>broad_wide_raised.f n (a:Int) (b:Int) (c:Int) (d:Int)) ((a':Int),(b':Int),(c':Int),(d':Int),((256 - bl W:Nat):Int)):=by
 obtain ⟨ha,hb,hc,hd,e⟩:=h
 have key:RaisedP a b c d 0:=by
  by_cases z:a=0
  ·subst z
   have h1:b≠0∨c≠0∨d≠0:=by unfold n4 at e;omega
   refine raised_step h1 hb hc hd (by decide) ?_
   by_cases z:b=0
   ·subst z
    have h2:c≠0∨d≠0:=by omega
    refine raised_step (by omega) hc hd (by decide) (by decide) ?_
    by_cases z:c=0
    ·subst z
     have h3:d≠0:=by omega
     refine raised_step (by omega) hd (by decide) (by decide) (by decide) ?_
     exact raised_base (by omega) hd (by decide) (by decide) (by decide) (by decide)
    ·exact raised_base (by omega) hc hd (by decide) (by decide) (by decide)
   ·exact raised_base (by omega) hb hc hd (by decide) (by decide)
  ·exact raised_base (by omega) ha hb hc hd (by decide)
 unfold RaisedP at key
 rw [e,Nat.zero_add] at key
 exact key
end Go.Proofs.YtbpcfhhcoklinaaGreat.V
