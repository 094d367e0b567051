-- Written by a program of this session out of its own texts (wip/tools/link.py).
import Derived.Below
import Derived.ChangeKeysEq
import Derived.Deep.MidRow
import Derived.Deep.RegionHeld3
import Derived.Great.BuildSlice
import Derived.Ground.SlsfProg
import Derived.IntWalk
import Derived.KernelRfl
import Derived.LaidEql
import Derived.Laws.Bits64
import Derived.Laws.BitsLemmas
import Derived.Laws.BytesArg
import Derived.Laws.IdiomCopy
import Derived.Laws.OwnMore
import Derived.Laws.Rows
import Derived.Laws.Slices
import Derived.Laws.StructEq
import Derived.Laws.Tables
import Derived.Lib.BitFns
import Derived.Lib.Slices
import Derived.Lib.Small
import Derived.Lib.Strings
import Derived.Lib.Walk
import Derived.LoopIn
import Derived.LoopNIn
import Derived.Maps.AppendAt
import Derived.OrdersHeld
import Derived.OwnWalkIn
import Derived.RangeFuncBound
import Derived.RangeFuncCalls
import Derived.RangeFuncLeaves
import Derived.RangeFuncNested
import Derived.RowKit
import Derived.Scope
import Derived.Shelf.Abstract
import Derived.Shelf.RegionOpen
import Derived.Shelf.SlGeneric
import Derived.Shelf.SlSortCmp.NoneTotal
import Derived.Shelf.Spec.BitsCarry
import Derived.TacticsInMore
import Derived.Test.YtbpcfhhcoklinaaGreatProg
import Derived.WalkKit
import Derived.Test.YtbpcfhhcoklinaaGreatCVecEach11
import Derived.Test.YtbpcfhhcoklinaaGreatCVecEach16
import Derived.Test.YtbpcfhhcoklinaaGreatCVecEach18
set_option linter.unusedSimpArgs false
set_option linter.unusedVariables false
namespace Go.Proofs.YtbpcfhhcoklinaaGreat.V
open Go Go.RowKit Go.Proofs.YtbpcfhhcoklinaaGreat.Ab Go.Proofs.YtbpcfhhcoklinaaGreat.Fn
def numL (l:List UInt8):Nat:=l.foldl (fun x b=>2*x+(b.toNat - 48)) 0
def okL (l:List UInt8):Prop:=∀ b∈l,b.toNat=48∨b.toNat=49
theorem numL_acc (l:List UInt8):∀ x,l.foldl (fun x b=>2*x+(b.toNat - 48)) x=x*2^l.length+numL l:=by
 induction l with
 | nil=>intro x;simp [numL]
 | cons b l ih =>
  intro x
  simp only [List.foldl_cons,List.length_cons,numL]
  rw [ih,ih (2*0+(b.toNat - 48)),Nat.pow_succ]
  generalize 2^l.length=z
  generalize numL l=y
  generalize b.toNat - 48=w
  grind
theorem numL_append (a b:List UInt8):numL (a++b)=numL a*2^b.length+numL b:=by
 unfold numL
 rw [List.foldl_append,numL_acc]
 rfl
theorem numL_lt {l:List UInt8} (h:okL l):numL l < 2^l.length:=by
 induction l with
 | nil=>simp [numL]
 | cons b l ih =>
  have ih:=ih (fun x hx=>h x (List.mem_cons_of_mem _ hx))
  have hb:=h b List.mem_cons_self
  rw [show b :: l=[b]++l from rfl,numL_append]
  have e:numL [b]=b.toNat - 48:=by simp [numL]
  rw [e,List.length_append,Nat.pow_add]
  simp only [List.length_singleton,Nat.pow_one]
  rcases hb with hb | hb <;> rw [hb] <;> omega
theorem okL_append {a b:List UInt8} (ha:okL a) (hb:okL b):okL (a++b):=fun x hx=>(List.mem_append.mp hx).elim (ha x) (hb x)
theorem okL_take {a:List UInt8} (m:Nat) (h:okL a):okL (a.take m):=fun x hx=>h x (List.mem_of_mem_take hx)
theorem okL_drop {a:List UInt8} (m:Nat) (h:okL a):okL (a.drop m):=fun x hx=>h x (List.mem_of_mem_drop hx)
structure BT (s:ByteArray) (L X:Nat):Prop where
 ok:okL s.data.toList
 size:s.size=L
 num:numL s.data.toList=X
theorem lenB (s:ByteArray):s.data.toList.length=s.size:=Array.length_toList
theorem BT.len {s:ByteArray} {L X:Nat} (h:BT s L X):s.data.toList.length=L:=by rw [← h.size];exact lenB s
theorem BT.lt {s:ByteArray} {L X:Nat} (h:BT s L X):X < 2^L:=by have:=numL_lt h.ok;rw [h.len,h.num] at this;exact this
theorem BT.append {s t:ByteArray} {L M X Y:Nat} (h:BT s L X) (k:BT t M Y):BT (s++t) (L+M) (X*2^M+Y):=by
 refine ⟨?_, ?_, ?_⟩
 ·rw [ByteArray.data_append,Array.toList_append];exact okL_append h.ok k.ok
 ·rw [ByteArray.size_append,h.size,k.size]
 ·rw [ByteArray.data_append,Array.toList_append,numL_append,h.num,k.num,k.len]
theorem BT.parts {s:ByteArray} {L X:Nat} (h:BT s L X) (m:Nat) (hm:m≤L):
  BT (s.extract 0 m) m (X / 2^(L - m))∧BT (s.extract m s.size) (L - m) (X%2^(L - m)):=by
 have hl:=h.len
 have e1:(s.extract 0 m).data.toList=s.data.toList.take m:=by
  rw [ByteArray.data_extract,Array.toList_extract];simp [List.extract]
 have e2:(s.extract m s.size).data.toList=s.data.toList.drop m:=by
  rw [ByteArray.data_extract,Array.toList_extract,List.extract_eq_take_drop]
  rw [List.take_of_length_le]
  rw [List.length_drop,hl,h.size];omega
 have hn:X=numL (s.data.toList.take m)*2^(L - m)+numL (s.data.toList.drop m):=by
  have:=numL_append (s.data.toList.take m) (s.data.toList.drop m)
  rw [List.take_append_drop,h.num,List.length_drop,hl] at this
  exact this
 have hlt:numL (s.data.toList.drop m) < 2^(L - m):=by
  have:=numL_lt (okL_drop m h.ok)
  rw [List.length_drop,hl] at this
  exact this
 have p:=two_pos (L - m)
 refine ⟨⟨by rw [e1];exact okL_take m h.ok, ?_, ?_⟩,⟨by rw [e2];exact okL_drop m h.ok, ?_, ?_⟩⟩
 ·rw [ByteArray.size_extract,h.size];omega
 ·rw [e1,hn,Nat.add_comm,Nat.add_mul_div_right _ _ p,Nat.div_eq_of_lt hlt,Nat.zero_add]
 ·rw [ByteArray.size_extract,h.size];omega
 ·rw [e2,hn,Nat.add_comm,Nat.add_mul_mod_self_right,Nat.mod_eq_of_lt hlt]
theorem bt_of {s:ByteArray} {i:Nat} (h:i < s.size):bt s (i:Int)=((s.data.toList[i]'(by rw [lenB];exact h)).toNat:Int):=by
 unfold bt
 rw [dif_pos (by simpa using h)]
 simp [ByteArray.getElem_eq_getElem_data]
theorem BT.bit {s:ByteArray} {L X i:Nat} (h:BT s L X) (hi:i < L):bt s (i:Int)=48+((X / 2^(L - 1 - i)%2:Nat):Int):=by
 have hs:i < s.size:=by rw [h.size];exact hi
 rw [bt_of hs]
 have hl:=h.len
 have hi':i < s.data.toList.length:=by omega
 have hx:=h.ok _ (List.getElem_mem hi')
 have e1:X=numL (s.data.toList.take (i+1))*2^(L - 1 - i)+numL (s.data.toList.drop (i+1)):=by
  have:=numL_append (s.data.toList.take (i+1)) (s.data.toList.drop (i+1))
  rw [List.take_append_drop,h.num,List.length_drop,hl,show L - (i+1)=L - 1 - i by omega] at this
  exact this
 have hlt:numL (s.data.toList.drop (i+1)) < 2^(L - 1 - i):=by
  have:=numL_lt (okL_drop (i+1) h.ok)
  rw [List.length_drop,hl,show L - (i+1)=L - 1 - i by omega] at this
  exact this
 have e2:X / 2^(L - 1 - i)=numL (s.data.toList.take (i+1)):=by
  rw [e1,Nat.add_comm,Nat.add_mul_div_right _ _ (two_pos _),Nat.div_eq_of_lt hlt,Nat.zero_add]
 have e3:numL (s.data.toList.take (i+1))=2*numL (s.data.toList.take i)+((s.data.toList[i]'hi').toNat - 48):=by
  rw [List.take_succ_eq_append_getElem hi',numL_append]
  simp [numL];omega
 rw [e2,e3]
 rcases hx with hx | hx <;> rw [hx] <;> omega
theorem BT.nil:BT ByteArray.empty 0 0:=⟨by intro b hb;simp at hb,rfl,rfl⟩
structure BN (l:List Int) (L X:Nat):Prop where
 len:l.length=L
 bt:BT (strOfNums l) L X
theorem BN.nil:BN [] 0 0:=⟨rfl,⟨by intro b hb;simp [strOfNums_data] at hb,rfl,rfl⟩⟩
theorem BN.snoc {l:List Int} {L X:Nat} (h:BN l L X) (b:Nat) (hb:b < 2):BN (l++[48+(b:Int)]) (L+1) (2*X+b):=by
 have e:(strOfNums (l++[48+(b:Int)])).data.toList=(strOfNums l).data.toList++[UInt8.ofNat (48+b)]:=by
  rw [strOfNums_data,strOfNums_data,List.map_append]
  have:(48+(b:Int)).toNat=48+b:=by omega
  simp [this]
 have hv:(UInt8.ofNat (48+b)).toNat=48+b:=by
  rw [UInt8.toNat_ofNat'];omega
 refine ⟨by simp [h.len],⟨?_, ?_, ?_⟩⟩
 ·rw [e]
  refine okL_append h.bt.ok ?_
  intro x hx
  simp only [List.mem_singleton] at hx
  subst hx;rw [hv];omega
 ·rw [strOfNums_size];simp [h.len]
 ·rw [e,numL_append,h.bt.num]
  have:numL [UInt8.ofNat (48+b)]=b:=by unfold numL;simp only [List.foldl_cons,List.foldl_nil];rw [hv];omega
  rw [this];simp;omega
theorem tmod2 (n:Nat):Int.tmod (n:Int) 2=((n%2:Nat):Int):=by
 rw [Int.tmod_eq_emod_of_nonneg (by omega)];omega
theorem byte_bit (n:Nat):(48+Int.tmod (n:Int) 2%256)%256=48+((n%2:Nat):Int):=by rw [tmod2];omega
theorem Text_l0 (x:Nat) (hx:x < 18446744073709551616):∀ (d:Nat) (l:List Int) (L:Nat),d≤64→L≤64→L+d≤64→BN l L (x%2^(L+d) / 2^d) →
  ∃ s,Ev (fun k=>vr01_Text.l0 k (x:Int) l ((d:Int) - 1)) s∧BT s (L+d) (x%2^(L+d))
 | 0,l,L,_,_,_,h=>by
  refine ⟨strOfNums l, ?_,by simpa using h.bt⟩
  refine evs ?_
  simp only [vr01_Text.l0,nI_eq]
  simp only [if_neg (show ¬ ((0:Nat):Int) - 1≥0 by omega)]
  exact Ev.now _
 | d+1,l,L,hd,hL,hs,h=>by
  have hb:=BN.snoc h (x / 2^d%2) (Nat.mod_lt _ (by decide))
  have e:2*(x%2^(L+(d+1)) / 2^(d+1))+x / 2^d%2=x%2^(L+1+d) / 2^d:=by
   rw [show L+(d+1)=L+1+d by omega,Nat.pow_succ 2 d,← Nat.div_div_eq_div_mul]
   have e1:x%2^(L+1+d) / 2^d%2=x / 2^d%2:=by
    rw [show L+1+d=d+(L+1) by omega,Nat.pow_add,Nat.mod_mul_right_div_self,Nat.pow_succ,Nat.mod_mul_left_mod]
   omega
  rw [e] at hb
  obtain ⟨s,h1,h2⟩:=Text_l0 x hx d _ (L+1) (by omega) (by omega) (by omega) hb
  refine ⟨s, ?_,by rw [show L+(d+1)=L+1+d by omega];exact h2⟩
  refine evs ?_
  simp only [vr01_Text.l0,nI_eq]
  have ei:((d+1:Nat):Int) - 1=(d:Int):=by omega
  rw [ei]
  have ew:wrap64 ((d:Int) - 1)=(d:Int) - 1:=w64 (by omega) (by omega)
  have hlen:=h.len
  have esh:=shr_nat x d (by omega)
  have eb:=byte_bit (x / 2^d)
  simp only [if_pos (show (d:Int)≥0 by omega),if_pos (show (0:Int)≤(d:Int) by omega),if_pos (show l.length < 140737488355328 by omega),ew,esh,eb]
  exact h1
theorem Text_eq (x n:Nat) (hx:x < 18446744073709551616) (hn:n≤64):
  ∃ s,Ev (fun k=>vr01_Text.f k (x:Int) (n:Int)) s∧BT s n (x%2^n):=by
 have h0:BN [] 0 (x%2^(0+n) / 2^n):=by
  rw [Nat.zero_add,Nat.div_eq_of_lt (Nat.mod_lt _ (two_pos n))];exact BN.nil
 obtain ⟨s,h1,h2⟩:=Text_l0 x hx n [] 0 hn (by omega) (by omega) h0
 refine ⟨s, ?_,by rw [Nat.zero_add] at h2;exact h2⟩
 unfold vr01_Text.f
 rw [w64 (by omega) (by omega)]
 exact h1
theorem Number_l0 {s:ByteArray} {L X:Nat} (h:BT s L X) (hL:L≤64):∀ (d i:Nat),i+d=L →
  Ev (fun k=>vr01_Number.l0 k s ((X / 2^d:Nat):Int) (i:Int)) (X:Int)
 | 0,i,hi=>by
  refine evs ?_
  simp only [vr01_Number.l0,nI_eq]
  simp only [if_neg (show ¬ (i:Int) < (s.size:Int) by rw [h.size];omega)]
  simpa using Ev.now (X:Int)
 | d+1,i,hi=>by
  refine evs ?_
  simp only [vr01_Number.l0,nI_eq]
  have hb:=h.bit (i:=i) (by omega)
  have hlt:=h.lt
  simp only [if_pos (show (i:Int) < (s.size:Int) by rw [h.size];omega),if_pos (show (0:Int)≤(i:Int) by omega),hb]
  have ed:L - 1 - i=d:=by omega
  rw [ed]
  have ew:wrap64 ((i:Int)+1)=((i+1:Nat):Int):=by rw [w64 (by omega) (by omega)];omega
  have hq:X / 2^d < 2^64:=Nat.lt_of_le_of_lt (Nat.div_le_self _ _) (Nat.lt_of_lt_of_le hlt (pow_le hL))
  rw [p64] at hq
  have e2:X / 2^(d+1)=X / 2^d / 2:=by rw [Nat.pow_succ,Nat.div_div_eq_div_mul]
  have e1:IntKind.u64.wrap (IntKind.u64.wrap (2*((X / 2^(d+1):Nat):Int))+(48+((X / 2^d%2:Nat):Int) - 48)%256)=((X / 2^d:Nat):Int):=by
   rw [e2]
   generalize X / 2^d=q at hq
   rw [u64_of (n:=2*((q / 2:Nat):Int)) (by omega) (by omega),u64_of (by omega) (by omega)];omega
  rw [ew,e1]
  exact Number_l0 h hL d (i+1) (by omega)
theorem Number_eq {s:ByteArray} {L X:Nat} (h:BT s L X) (hL:L≤64):Ev (fun k=>vr01_Number.f k s) (X:Int):=by
 have:=Number_l0 h hL L 0 (by omega)
 rw [Nat.div_eq_of_lt h.lt] at this
 unfold vr01_Number.f
 exact this
theorem some_l0 {s:ByteArray} {L X:Nat} (h:BT s L X) (hL:L < 9223372036854775807):∀ (d i:Nat),i+d=L →
  Ev (fun k=>vr07_some.l0 k s (i:Int)) (decide (X%2^d≠0))
 | 0,i,hi=>by
  refine evs ?_
  simp only [vr07_some.l0,nI_eq]
  simp only [if_neg (show ¬ (i:Int) < (s.size:Int) by rw [h.size];omega)]
  refine evn ?_
  simp [Nat.mod_one]
 | d+1,i,hi=>by
  refine evs ?_
  simp only [vr07_some.l0,nI_eq]
  have hb:=h.bit (i:=i) (by omega)
  simp only [if_pos (show (i:Int) < (s.size:Int) by rw [h.size];omega),if_pos (show (0:Int)≤(i:Int) by omega),hb]
  have ed:L - 1 - i=d:=by omega
  rw [ed]
  have ew:wrap64 ((i:Int)+1)=((i+1:Nat):Int):=by rw [w64 (by omega) (by omega)];omega
  have hm:X%2^(d+1)=X%2^d+2^d*(X / 2^d%2):=by rw [Nat.pow_succ,Nat.mod_mul]
  by_cases h1:X / 2^d%2=1
  ·simp only [if_pos (show (48:Int)+((X / 2^d%2:Nat):Int)=49 by omega)]
   have p:=two_pos d
   rw [hm,h1]
   refine evn ?_
   congr 1
   symm
   rw [decide_eq_true_eq];omega
  ·have h0:X / 2^d%2=0:=by omega
   simp only [if_neg (show ¬ (48:Int)+((X / 2^d%2:Nat):Int)=49 by omega),ew]
   rw [hm,h0,Nat.mul_zero,Nat.add_zero]
   exact some_l0 h hL d (i+1) (by omega)
theorem some_eq {s:ByteArray} {L X:Nat} (h:BT s L X) (hL:L < 9223372036854775807):Ev (fun k=>vr07_some.f k s) (decide (X≠0)):=by
 have:=some_l0 h hL L 0 (by omega)
 rw [Nat.mod_eq_of_lt h.lt] at this
 unfold vr07_some.f
 exact this
end Go.Proofs.YtbpcfhhcoklinaaGreat.V
namespace Go.Proofs.YtbpcfhhcoklinaaGreat.V
open Go Go.RowKit Go.Proofs.YtbpcfhhcoklinaaGreat.Ab Go.Proofs.YtbpcfhhcoklinaaGreat.Fn
theorem r4_digit {l:List Int} {m:Nat} (h:DL l m) (i:Nat):vr04_digit.f l (i:Int)=some ((dg m i:Nat):Int):=by
 unfold vr04_digit.f;rw [nI_eq]
 by_cases hi:i < l.length
 ·rw [if_pos (by omega),if_pos (by omega),h.rd]
 ·rw [if_neg (by omega),h.dg_out (by omega)];rfl
theorem r4_two_l (n:Nat) (hn:n≤24):∀ (d i:Nat),i+d=n→Ev (fun k=>vr04_two.l0 k (n:Int) ((2^i:Nat):Int) (i:Int)) ((2^n:Nat):Int)
 | 0,i,h=>by
  refine evs ?_
  simp only [vr04_two.l0,nI_eq,if_neg (show ¬ (i:Int) < (n:Int) by omega)]
  have:i=n:=by omega
  subst this
  exact Ev.now _
 | d+1,i,h=>by
  refine evs ?_
  simp only [vr04_two.l0,nI_eq]
  have hp:2^i < 2^24:=pow_lt (by omega)
  have h24:(2:Nat)^24=16777216:=by decide
  have e1:wrap64 (2*((2^i:Nat):Int))=((2^(i+1):Nat):Int):=by
   rw [Nat.pow_succ]
   generalize 2^i=z at *
   rw [w64 (by omega) (by omega)];omega
  have e2:wrap64 ((i:Int)+1)=((i+1:Nat):Int):=by rw [w64 (by omega) (by omega)];omega
  simp only [if_pos (show (i:Int) < (n:Int) by omega),e1,e2]
  exact r4_two_l n hn d (i+1) (by omega)
theorem r4_two (n:Nat) (hn:n≤24):Ev (fun k=>vr04_two.f k (n:Int)) ((2^n:Nat):Int):=by
 unfold vr04_two.f
 exact r4_two_l n hn n 0 (by omega)
theorem r4_Of_l (v:Nat) (hv:v < 18446744073709551616):∀ (d:Nat) (l:List Int),l.length+d=3→okD l→dv l+W l.length*(v / W l.length)=v→(l≠[]→W (l.length - 1)≤v) →
  ∃ r,Ev (fun k=>vr04_Of.l0 k ((v / W l.length:Nat):Int) l) r∧DL r v:=by
 intro d
 induction d with
 | zero =>
  intro l hl hok hval hcan
  have h3:v / W l.length=0:=by
   rw [show l.length=3 by omega,Nat.div_eq_of_lt (Nat.lt_of_lt_of_le hv (by decide))]
  refine ⟨l, ?_,hok,by rw [h3] at hval;simpa using hval,hcan⟩
  refine evs ?_
  simp only [vr04_Of.l0,nI_eq,h3,if_neg (show ¬ ((0:Nat):Int) > 0 by decide)]
  exact Ev.now _
 | succ d ih =>
  intro l hl hok hval hcan
  by_cases h0:v / W l.length=0
  ·refine ⟨l, ?_,hok,by rw [h0] at hval;simpa using hval,hcan⟩
   refine evs ?_
   simp only [vr04_Of.l0,nI_eq,h0,if_neg (show ¬ ((0:Nat):Int) > 0 by decide)]
   exact Ev.now _
  ·have hlt:v / W l.length < 18446744073709551616:=Nat.lt_of_le_of_lt (Nat.div_le_self _ _) hv
   have e1:wrap64 (Int.tmod ((v / W l.length:Nat):Int) 16777216)=((dg v l.length:Nat):Int):=by
    unfold dg
    generalize v / W l.length=q at *
    rw [tmodL,w64 (by omega) (by omega)]
   have e2:IntKind.u64.wrap (Int.tdiv ((v / W l.length:Nat):Int) 16777216)=((v / W (l.length+1):Nat):Int):=by
    rw [W_succ,Nat.mul_comm,← Nat.div_div_eq_div_mul]
    generalize v / W l.length=q at *
    rw [tdivL,u64_of (by omega) (by omega)]
   have ev:dv (l++[((dg v l.length:Nat):Int)])=v%W (l.length+1):=by
    rw [dv_snoc,mod_W_succ]
    have:=Nat.div_add_mod v (W l.length)
    have:=Nat.mul_comm (W l.length) (v / W l.length)
    omega
   have hW:W l.length≤v:=by
    rcases Nat.lt_or_ge v (W l.length) with h | h
    ·exact absurd (Nat.div_eq_of_lt h) h0
    ·exact h
   obtain ⟨r,h1,h2⟩:=ih (l++[((dg v l.length:Nat):Int)]) (by simp;omega) (okD_snoc hok (dg_lt _ _)) (by
    rw [ev,List.length_append,List.length_singleton]
    have:=Nat.div_add_mod v (W (l.length+1));omega) (fun _=>by simpa using hW)
   refine ⟨r, ?_,h2⟩
   refine evs ?_
   simp only [vr04_Of.l0,nI_eq]
   rw [List.length_append,List.length_singleton] at h1
   have hq0:((v / W l.length:Nat):Int) > 0:=by generalize v / W l.length=q at *;omega
   simp only [if_pos hq0,if_pos (show l.length < 17592186044416 by omega),e1,e2]
   exact h1
theorem r4_Of (v:Nat) (hv:v < 18446744073709551616):∃ r,Ev (fun k=>vr04_Of.f k (v:Int)) r∧DL r v:=by
 have:=r4_Of_l v hv 3 [] rfl okD_nil (by simp [dv,W_zero]) (fun h=>absurd rfl h)
 simpa [vr04_Of.f,W_zero] using this
theorem r4_Add_l {x y:List Int} {a b:Nat} (hx:DL x a) (hy:DL y b) (hn:x.length≤1000) (hm:y.length≤1000):∀ (d:Nat) (o:List Int) (c:Nat),o.length+d=max x.length y.length+1 →
  okD o→c≤1→dv o+W o.length*c=a%W o.length+b%W o.length→(o.length=max x.length y.length+1→c=0)→(o≠[]→W (o.length - 1)≤a+b) →
  ∃ r,Ev (fun k=>vr04_Add.l0 k x y o (c:Int) (o.length:Int)) r∧DL r (a+b):=by
 intro d
 induction d with
 | zero =>
  intro o c hl hok hc hv hlast hcan
  have c0:=hlast (by omega)
  subst c0
  have ha:=hx.mod_all (i:=o.length) (by omega)
  have hb:=hy.mod_all (i:=o.length) (by omega)
  refine ⟨o, ?_,hok,by rw [ha,hb] at hv;simpa using hv,hcan⟩
  refine evs ?_
  simp only [vr04_Add.l0,nI_eq,if_neg (show ¬ (o.length:Int) < (x.length:Int) by omega),if_neg (show ¬ (o.length:Int) < (y.length:Int) by omega),decide_eq_false (show ¬ ((0:Nat):Int) > 0 by decide)]
  refine evs ?_
  simp only [vr04_Add.j1,nI_eq,Bool.false_eq_true,if_false]
  exact Ev.now _
 | succ d ih =>
  intro o c hl hok hc hv hlast hcan
  have stop:¬ o.length < x.length→¬ o.length < y.length→c=0→∃ r,Ev (fun k=>vr04_Add.l0 k x y o (c:Int) (o.length:Int)) r∧DL r (a+b):=by
   intro h1 h2 c0
   subst c0
   have ha:=hx.mod_all (i:=o.length) (by omega)
   have hb:=hy.mod_all (i:=o.length) (by omega)
   refine ⟨o, ?_,hok,by rw [ha,hb] at hv;simpa using hv,hcan⟩
   refine evs ?_
   simp only [vr04_Add.l0,nI_eq,if_neg (show ¬ (o.length:Int) < (x.length:Int) by omega),if_neg (show ¬ (o.length:Int) < (y.length:Int) by omega),decide_eq_false (show ¬ ((0:Nat):Int) > 0 by decide)]
   refine evs ?_
   simp only [vr04_Add.j1,nI_eq,Bool.false_eq_true,if_false]
   exact Ev.now _
  have go:(o.length < x.length∨o.length < y.length∨0 < c)→∃ r,Ev (fun k=>vr04_Add.j1 k x y o (c:Int) (o.length:Int) true) r∧DL r (a+b):=by
   intro hg
   have da:=dg_lt a o.length
   have db:=dg_lt b o.length
   generalize ht:dg a o.length+dg b o.length+c=t
   have htb:t < 33554433:=by omega
   have ev:dv (o++[((t%16777216:Nat):Int)])+W (o.length+1)*(t / 16777216)=a%W (o.length+1)+b%W (o.length+1):=by
    rw [dv_snoc,mod_W_succ,mod_W_succ,W_succ]
    exact add_step hv ht
   have hWl:W o.length≤a+b:=by
    rcases hg with hg | hg | hg
    ·have:=(hx.len_iff _).mp hg;omega
    ·have:=(hy.len_iff _).mp hg;omega
    ·have:W o.length*1≤W o.length*c:=Nat.mul_le_mul_left _ hg
     have h1:=Nat.mod_le a (W o.length)
     have h2:=Nat.mod_le b (W o.length)
     omega
   obtain ⟨r,h1,h2⟩:=ih (o++[((t%16777216:Nat):Int)]) (t / 16777216) (by simp;omega) (okD_snoc hok (Nat.mod_lt _ (by decide))) (by omega) (by rw [List.length_append,List.length_singleton];exact ev)
    (fun hlen=>by
     rw [List.length_append,List.length_singleton] at hlen
     have:=hx.dg_out (i:=o.length) (by omega)
     have:=hy.dg_out (i:=o.length) (by omega)
     omega) (fun _=>by simpa using hWl)
   refine ⟨r, ?_,h2⟩
   refine evs ?_
   simp only [vr04_Add.j1,nI_eq,if_true]
   rw [List.length_append,List.length_singleton] at h1
   have hol:o.length < 4611686018427387904:=by omega
   have hol2:o.length < 17592186044416:=by omega
   simp only [r4_digit hx,r4_digit hy,Option.bind_some,if_pos hol2,w_add3 ht (by omega),tmodL,w_div24 (show t < 4611686018427387904 by omega),w_succ hol]
   exact h1
  by_cases h1:o.length < x.length
  ·obtain ⟨r,a1,a2⟩:=go (.inl h1)
   refine ⟨r,evs ?_,a2⟩
   simp only [vr04_Add.l0,nI_eq,if_pos (show (o.length:Int) < (x.length:Int) by omega)]
   exact a1
  ·by_cases h2:o.length < y.length
   ·obtain ⟨r,a1,a2⟩:=go (.inr (.inl h2))
    refine ⟨r,evs ?_,a2⟩
    simp only [vr04_Add.l0,nI_eq,if_neg (show ¬ (o.length:Int) < (x.length:Int) by omega),if_pos (show (o.length:Int) < (y.length:Int) by omega)]
    exact a1
   ·by_cases h3:c=0
    ·exact stop h1 h2 h3
    ·obtain ⟨r,a1,a2⟩:=go (.inr (.inr (by omega)))
     refine ⟨r,evs ?_,a2⟩
     simp only [vr04_Add.l0,nI_eq,if_neg (show ¬ (o.length:Int) < (x.length:Int) by omega),if_neg (show ¬ (o.length:Int) < (y.length:Int) by omega),decide_eq_true (show (c:Int) > 0 by omega)]
     exact a1
theorem r4_Add {x y:List Int} {a b:Nat} (hx:DL x a) (hy:DL y b) (hn:x.length≤1000) (hm:y.length≤1000):∃ r,Ev (fun k=>vr04_Add.f k x y) r∧DL r (a+b):=by
 have:=r4_Add_l hx hy hn hm (max x.length y.length+1) [] 0 (by simp) okD_nil (by omega) (by simp [dv,W_zero,Nat.mod_one]) (fun h=>rfl) (fun h=>absurd rfl h)
 simpa [vr04_Add.f] using this
theorem r4_times_l {x:List Int} {a q:Nat} (hx:DL x a) (hq:q≤16777216) (hq0:0 < q) (hn:x.length≤1000):∀ (d:Nat) (o:List Int) (c:Nat),o.length+d=x.length+1 →
  okD o→c < q→dv o+W o.length*c=a%W o.length*q→(o.length=x.length+1→c=0)→(o≠[]→W (o.length - 1)≤a*q) →
  ∃ r,Ev (fun k=>vr04_times.l0 k x (q:Int) o (c:Int) (o.length:Int)) r∧DL r (a*q):=by
 intro d
 induction d with
 | zero =>
  intro o c hl hok hc hv hlast hcan
  have c0:=hlast (by omega)
  subst c0
  have ha:=hx.mod_all (i:=o.length) (by omega)
  refine ⟨o, ?_,hok,by rw [ha] at hv;simpa using hv,hcan⟩
  refine evs ?_
  simp only [vr04_times.l0,nI_eq,if_neg (show ¬ (o.length:Int) < (x.length:Int) by omega),if_neg (show ¬ ((0:Nat):Int) > 0 by decide)]
  exact Ev.now _
 | succ d ih =>
  intro o c hl hok hc hv hlast hcan
  have da:=dg_lt a o.length
  have hmul:dg a o.length*q≤16777215*q:=Nat.mul_le_mul_right _ (by omega)
  generalize ht:dg a o.length*q+c=t
  have htb:t < 16777216*q:=by omega
  have hb:t < 281474976710657:=by omega
  have hol:o.length < 4611686018427387904:=by omega
  have hol2:o.length < 17592186044416:=by omega
  have hb2:t < 4611686018427387904:=by omega
  have ev:dv (o++[((t%16777216:Nat):Int)])+W (o.length+1)*(t / 16777216)=a%W (o.length+1)*q:=by
   rw [dv_snoc,mod_W_succ,W_succ]
   exact times_step hv ht
  have go:(o.length < x.length∨0 < c)→∃ r,Ev (fun k=>vr04_times.l0 k x (q:Int) (o++[((t%16777216:Nat):Int)]) ((t / 16777216:Nat):Int) ((o.length+1:Nat):Int)) r∧DL r (a*q):=by
   intro hg
   have hWl:W o.length≤a*q:=by
    rcases hg with hg | hg
    ·have:=(hx.len_iff _).mp hg
     exact Nat.le_trans this (Nat.le_mul_of_pos_right _ hq0)
    ·have h1:W o.length*1≤W o.length*c:=Nat.mul_le_mul_left _ hg
     have h2:=Nat.mul_le_mul_right q (Nat.mod_le a (W o.length))
     omega
   obtain ⟨r,h1,h2⟩:=ih (o++[((t%16777216:Nat):Int)]) (t / 16777216) (by simp;omega) (okD_snoc hok (Nat.mod_lt _ (by decide))) (by omega) (by rw [List.length_append,List.length_singleton];exact ev)
    (fun hlen=>by
     rw [List.length_append,List.length_singleton] at hlen
     have h0:=hx.dg_out (i:=o.length) (by omega)
     rw [h0] at ht
     omega) (fun _=>by simpa using hWl)
   rw [List.length_append,List.length_singleton] at h1
   exact ⟨r,h1,h2⟩
  by_cases h1:o.length < x.length
  ·obtain ⟨r,a1,a2⟩:=go (.inl h1)
   refine ⟨r,evs ?_,a2⟩
   simp only [vr04_times.l0,nI_eq,if_pos (show (o.length:Int) < (x.length:Int) by omega),if_pos (show (q:Int) > 0 by omega),r4_digit hx,Option.bind_some,if_pos hol2,w_muladd ht hb2,tmodL,w_div24 hb2,w_succ hol]
   exact a1
  ·by_cases h3:c=0
   ·subst h3
    have ha:=hx.mod_all (i:=o.length) (by omega)
    refine ⟨o,evs ?_,hok,by rw [ha] at hv;simpa using hv,hcan⟩
    simp only [vr04_times.l0,nI_eq,if_neg (show ¬ (o.length:Int) < (x.length:Int) by omega),if_neg (show ¬ ((0:Nat):Int) > 0 by omega)]
    exact Ev.now _
   ·obtain ⟨r,a1,a2⟩:=go (.inr (by omega))
    refine ⟨r,evs ?_,a2⟩
    simp only [vr04_times.l0,nI_eq,if_neg (show ¬ (o.length:Int) < (x.length:Int) by omega),if_pos (show (c:Int) > 0 by omega),r4_digit hx,Option.bind_some,if_pos hol2,w_muladd ht hb2,tmodL,w_div24 hb2,w_succ hol]
    exact a1
theorem r4_times {x:List Int} {a q:Nat} (hx:DL x a) (hq:q≤16777216) (hn:x.length≤1000):∃ r,Ev (fun k=>vr04_times.f k x (q:Int)) r∧DL r (a*q):=by
 by_cases hq0:q=0
 ·subst hq0
  refine ⟨[], ?_,by rw [Nat.mul_zero];exact DL.nil⟩
  unfold vr04_times.f;try simp only [nI_eq]
  refine evs ?_
  simp only [vr04_times.l0,nI_eq,if_neg (show ¬ ((0:Nat):Int) > 0 by decide),if_neg (show ¬ (0:Int) > 0 by decide),ite_self]
  exact Ev.now _
 ·have:=r4_times_l hx hq (by omega) hn (x.length+1) [] 0 (by simp) okD_nil (by omega) (by simp [dv,W_zero,Nat.mod_one]) (fun h=>rfl) (fun h=>absurd rfl h)
  simpa [vr04_times.f] using this
theorem r4_Shl {x:List Int} {a k:Nat} (hx:DL x a) (hk:k≤20000) (hn:x.length≤1000):∃ r,Ev (fun n=>vr04_Shl.f n x (k:Int)) r∧DL r (a*2^k):=by
 by_cases h0:a=0
 ·subst h0
  have:=hx.zero
  subst this
  refine ⟨[], ?_,by rw [Nat.zero_mul];exact DL.nil⟩
  unfold vr04_Shl.f;try simp only [nI_eq]
  exact evn rfl
 ·have hpos:=hx.pos (by omega)
  have t:=r4_two (k%24) (by omega)
  have hp:(2:Nat)^(k%24)≤2^24:=pow_le (by omega)
  obtain ⟨s,s1,s2⟩:=r4_times hx (q:=2^(k%24)) hp hn
  have hs:0 < a*2^(k%24):=Nat.mul_pos (by omega) (two_pos _)
  have hsl:=s2.pos hs
  have hsl2:s.length≤x.length+1:=by
   refine s2.len_le ?_
   rw [W_succ,Nat.mul_comm 16777216]
   have hp':2^(k%24) < 16777216:=by
    have:(2:Nat)^(k%24) < 2^24:=pow_lt (by omega)
    exact this
   have h1:=hx.lt
   exact Nat.mul_lt_mul'' h1 hp'
  have ev:dv (List.replicate (k / 24) 0++s)=a*2^k:=by
   rw [dv_append,dv_zeros,s2.val,List.length_replicate]
   unfold W
   have e1:(2:Nat)^k=2^(24*(k / 24))*2^(k%24):=by rw [← Nat.pow_add];congr 1;omega
   rw [e1];grind
  refine ⟨List.replicate (k / 24) 0++s, ?_, ?_,ev, ?_⟩
  ·unfold vr04_Shl.f;try simp only [nI_eq]
   simp only [if_neg (show ¬ (x.length:Int)=0 by omega),w_q24 hk,w_r24,if_pos (show (0:Int)≤((k / 24:Nat):Int) by omega),Int.toNat_natCast,if_pos (show k / 24≤35184372088832 by omega),Option.bind_some]
   refine Ev.bind t (Ev.bind s1 ?_)
   simp only [List.length_replicate,if_pos (show k / 24+s.length≤17592186044416 by omega)]
   exact Ev.now _
  ·intro d hd
   rcases List.mem_append.mp hd with h | h
   ·exact okD_zeros _ d h
   ·exact s2.ok d h
  ·intro _
   rw [List.length_append,List.length_replicate,show k / 24+s.length - 1=k / 24+(s.length - 1) by omega,W_add]
   have c:=s2.can (by intro e;rw [e] at hsl;simp at hsl)
   have e1:(2:Nat)^k=W (k / 24)*2^(k%24):=by unfold W;rw [← Nat.pow_add];congr 1;omega
   rw [e1]
   have:=Nat.mul_le_mul_left (W (k / 24)) c
   rw [show a*(W (k / 24)*2^(k%24))=W (k / 24)*(a*2^(k%24)) by grind]
   exact this
theorem r4_Cut {x:List Int} (hok:okD x) (hn:x.length≤1000):∃ r,Ev (fun k=>vr04_Cut.f k x) r∧DL r (dv x):=by
 have key:∀ (n:Nat),n≤x.length→dv x < W n→∃ r,Ev (fun k=>vr04_Cut.l0 k x (n:Int)) r∧DL r (dv x):=by
  intro n
  induction n with
  | zero =>
   intro _ h0
   rw [W_zero] at h0
   refine ⟨[],evs ?_,by rw [show dv x=0 by omega];exact DL.nil⟩
   simp only [vr04_Cut.l0,nI_eq]
   simp only [if_neg (show ¬ ((0:Nat):Int) > 0 by decide),if_pos (show (0:Int)≤((0:Nat):Int) by decide),if_pos (show ((0:Nat):Int)≤(x.length:Int) by omega)]
   exact evn rfl
  | succ n ih =>
   intro hl hW
   have hn4:n+1 < 4611686018427387904:=by omega
   have er:=rd_dg hok n
   by_cases hz:dg (dv x) n=0
   ·have hlt:dv x < W n:=by
     have h1:=mod_W_succ (dv x) n
     rw [Nat.mod_eq_of_lt hW,hz,Nat.mul_zero,Nat.add_zero] at h1
     rw [h1];exact Nat.mod_lt _ (W_pos n)
    obtain ⟨r,a1,a2⟩:=ih (by omega) hlt
    refine ⟨r,evs ?_,a2⟩
    simp only [vr04_Cut.l0,nI_eq,w_pred hn4 (Nat.succ_pos n),Nat.add_sub_cancel,if_pos (show ((n+1:Nat):Int) > 0 by omega),if_pos (show (0:Int)≤(n:Int) by omega),if_pos (show (n:Int) < (x.length:Int) by omega),er,hz]
    exact a1
   ·have ht:=dv_take hok (n+1) hl
    rw [Nat.mod_eq_of_lt hW] at ht
    refine ⟨x.take (n+1),evs ?_,okD_take _ hok,ht, ?_⟩
    ·simp only [vr04_Cut.l0,nI_eq,w_pred hn4 (Nat.succ_pos n),Nat.add_sub_cancel,if_pos (show ((n+1:Nat):Int) > 0 by omega),if_pos (show (0:Int)≤(n:Int) by omega),if_pos (show (n:Int) < (x.length:Int) by omega),er,if_neg (show ¬ ((dg (dv x) n:Nat):Int)=0 by omega),if_pos (show (0:Int)≤((n+1:Nat):Int) by omega),if_pos (show ((n+1:Nat):Int)≤(x.length:Int) by omega),Int.toNat_natCast]
     exact Ev.now _
    ·intro _
     rw [List.length_take,Nat.min_eq_left hl,Nat.add_sub_cancel]
     rcases Nat.lt_or_ge (dv x) (W n) with h | h
     ·exact absurd (by unfold dg;rw [Nat.div_eq_of_lt h]) hz
     ·exact h
 unfold vr04_Cut.f;try simp only [nI_eq]
 exact key x.length (Nat.le_refl _) (dv_lt hok)
theorem r4_Bits_l:∀ (d t n:Nat),t < 2^d→n+d < 4611686018427387904→d≤60→Ev (fun k=>vr04_Bits.l0 k (n:Int) (t:Int)) ((n+bl t:Nat):Int)
 | 0,t,n,h,hn,_=>by
  have:t=0:=by simpa using h
  subst this
  refine evs ?_
  simp only [vr04_Bits.l0,nI_eq,if_neg (show ¬ ((0:Nat):Int) > 0 by decide)]
  exact Ev.now _
 | d+1,t,n,h,hn,hd=>by
  refine evs ?_
  simp only [vr04_Bits.l0,nI_eq]
  by_cases h0:t=0
  ·subst h0
   simp only [if_neg (show ¬ ((0:Nat):Int) > 0 by decide)]
   exact Ev.now _
  ·have h60:(2:Nat)^(d+1)≤2^60:=pow_le hd
   have h60':(2:Nat)^60=1152921504606846976:=by decide
   have n4:n < 4611686018427387904:=by omega
   have t4:t < 4611686018427387904:=by omega
   simp only [if_pos (show (t:Int) > 0 by omega),w_succ n4,w_half t4]
   have hb:bl t=bl (t / 2)+1:=by
    have a:=bl_lt (t / 2)
    by_cases h2:t / 2=0
    ·have:t=1:=by omega
     subst this;rfl
    ·have b:=bl_le (x:=t / 2) (by omega)
     have c:=bl_pos (x:=t / 2) (by omega)
     refine bl_unique (by omega) ?_ (by rw [Nat.pow_succ];omega)
     rw [show bl (t / 2)+1 - 1=(bl (t / 2) - 1)+1 by omega,Nat.pow_succ];omega
   rw [hb,show n+(bl (t / 2)+1)=n+1+bl (t / 2) by omega]
   exact r4_Bits_l d (t / 2) (n+1) (by rw [Nat.pow_succ] at h;omega) (by omega) (by omega)
theorem r4_Bits {x:List Int} {a:Nat} (hx:DL x a) (hn:x.length≤1000):Ev (fun k=>vr04_Bits.f k x) ((bl a:Nat):Int):=by
 unfold vr04_Bits.f;try simp only [nI_eq]
 by_cases h0:a=0
 ·subst h0
  have:=hx.zero
  subst this
  refine evn ?_
  rfl
 ·have hpos:=hx.pos (by omega)
  have n4:x.length < 4611686018427387904:=by omega
  have n5:x.length - 1 < 20000:=by omega
  simp only [if_neg (show ¬ (x.length:Int)=0 by omega),w_pred n4 hpos,w_24 n5,if_pos (show (0:Int)≤((x.length - 1:Nat):Int) by omega),if_pos (show ((x.length - 1:Nat):Int) < (x.length:Int) by omega),hx.rd]
  have hd:=dg_lt a (x.length - 1)
  have b:=r4_Bits_l 24 (dg a (x.length - 1)) (24*(x.length - 1)) (by exact hd) (by omega) (by decide)
  have hb:bl a=24*(x.length - 1)+bl (dg a (x.length - 1)):=by
   have hc:=hx.can (by intro e;rw [e] at hpos;simp at hpos)
   have hlt:=hx.lt
   have edg:dg a (x.length - 1)=a / W (x.length - 1):=by
    unfold dg
    rw [Nat.mod_eq_of_lt]
    rw [Nat.div_lt_iff_lt_mul (W_pos _),← W_succ,show x.length - 1+1=x.length by omega]
    exact hlt
   have hq:0 < dg a (x.length - 1):=by rw [edg];exact Nat.div_pos hc (W_pos _)
   have u:=bl_lt (dg a (x.length - 1))
   have v:=bl_le hq
   have c:=bl_pos hq
   have dm:=Nat.div_add_mod a (W (x.length - 1))
   rw [← edg] at dm
   have ml:=Nat.mod_lt a (W_pos (x.length - 1))
   refine bl_unique (by omega) ?_ ?_
   ·rw [show 24*(x.length - 1)+bl (dg a (x.length - 1)) - 1=24*(x.length - 1)+(bl (dg a (x.length - 1)) - 1) by omega,Nat.pow_add]
    have:=Nat.mul_le_mul_left (W (x.length - 1)) v
    unfold W at *
    omega
   ·rw [Nat.pow_add]
    have:=Nat.mul_le_mul_left (W (x.length - 1)) (show dg a (x.length - 1)+1≤2^bl (dg a (x.length - 1)) by omega)
    rw [Nat.mul_add] at this
    unfold W at *
    omega
  rw [hb]
  exact b
theorem r4_Shr_l {y:List Int} {A r:Nat} (hy:DL y A) (hr:r < 24) (hn:y.length≤1000):∀ (d i:Nat) (l:List Int),i+d=y.length→okD l→l.length=y.length→dv l=A / 2^r%W i →
  ∃ s,Ev (fun k=>vr04_Shr.l0 k y ((2^r:Nat):Int) l (i:Int)) s∧DL s (A / 2^r)
 | 0,i,l,h,hok,hl,hv=>by
  have hA:A / 2^r < W i:=Nat.lt_of_le_of_lt (Nat.div_le_self _ _) (by have:=hy.lt;rw [show i=y.length by omega];exact this)
  rw [Nat.mod_eq_of_lt hA] at hv
  obtain ⟨s,s1,s2⟩:=r4_Cut hok (by omega)
  rw [hv] at s2
  refine ⟨s,evs ?_,s2⟩
  simp only [vr04_Shr.l0,nI_eq,if_neg (show ¬ (i:Int) < (y.length:Int) by omega)]
  exact Ev.bind s1 (Ev.now _)
 | d+1,i,l,h,hok,hl,hv=>by
  have hp:=two_pos r
  have hd:=dg_lt (A / 2^r) i
  have hs:=dv_set hok (n:=i) (d:=dg (A / 2^r) i) (by omega) hd
  have hz:dg (dv l) i=0:=by
   unfold dg;rw [Nat.div_eq_of_lt (by rw [hv];exact Nat.mod_lt _ (W_pos i))]
  rw [hz,Nat.mul_zero,Nat.add_zero,hv,← mod_W_succ] at hs
  obtain ⟨s,s1,s2⟩:=r4_Shr_l hy hr hn d (i+1) (l.set i ((dg (A / 2^r) i:Nat):Int)) (by omega) (okD_set hok hd) (by rw [List.length_set];exact hl) hs
  refine ⟨s,evs ?_,s2⟩
  have h4:i < 4611686018427387904:=by omega
  have hne:¬ ((2^r:Nat):Int)=0:=by generalize 2^r=z at *;omega
  simp only [vr04_Shr.l0,nI_eq,if_pos (show (i:Int) < (y.length:Int) by omega),if_pos (show (0:Int)≤(i:Int) by omega),if_neg hne,w_succ h4,r4_digit hy,Option.bind_some,if_pos (show (i:Int) < (l.length:Int) by omega),hy.rd,w_shr' (dg_lt A i) (dg_lt A (i+1)) hr,← dg_shr A i r (by omega),Int.toNat_natCast]
  exact s1
theorem r4_Shr {x:List Int} {a k:Nat} (hx:DL x a) (hk:k≤20000) (hn:x.length≤1000):∃ r,Ev (fun n=>vr04_Shr.f n x (k:Int)) r∧DL r (a / 2^k):=by
 unfold vr04_Shr.f;try simp only [nI_eq]
 simp only [w_q24 hk,w_r24]
 by_cases hq:x.length≤k / 24
 ·refine ⟨[], ?_, ?_⟩
  ·simp only [if_pos (show ((k / 24:Nat):Int)≥(x.length:Int) by omega)]
   exact Ev.now _
  ·have:a < 2^k:=Nat.lt_of_lt_of_le hx.lt (by unfold W;exact pow_le (by omega))
   rw [Nat.div_eq_of_lt this];exact DL.nil
 ·have hy:DL (x.drop (k / 24)) (a / W (k / 24)):=by
   refine ⟨okD_drop _ hx.ok, ?_, ?_⟩
   ·rw [dv_drop hx.ok _ (by omega),hx.val]
   ·intro _
    rw [List.length_drop,Nat.le_div_iff_mul_le (W_pos _),← W_add,show x.length - k / 24 - 1+k / 24=x.length - 1 by omega]
    exact hx.can (by intro e;rw [e] at hq;simp at hq)
  have hl:(x.drop (k / 24)).length=x.length - k / 24:=List.length_drop
  have t:=r4_two (k%24) (by omega)
  obtain ⟨s,s1,s2⟩:=r4_Shr_l hy (r:=k%24) (by omega) (by omega) (x.drop (k / 24)).length 0 (List.replicate (x.drop (k / 24)).length 0) (by omega) (okD_zeros _) (by simp) (by rw [dv_zeros,W_zero,Nat.mod_one])
  refine ⟨s, ?_, ?_⟩
  ·simp only [if_neg (show ¬ ((k / 24:Nat):Int)≥(x.length:Int) by omega),if_pos (show (0:Int)≤((k / 24:Nat):Int) by omega),if_pos (show ((k / 24:Nat):Int)≤(x.length:Int) by omega),Int.toNat_natCast,Option.bind_some]
   refine Ev.bind t ?_
   simp only [if_pos (show (0:Int)≤((x.drop (k / 24)).length:Int) by omega),if_pos (show (x.drop (k / 24)).length≤35184372088832 by omega)]
   exact s1
  ·have e:a / W (k / 24) / 2^(k%24)=a / 2^k:=by
    unfold W
    rw [div_div_pow]
    congr 2;omega
   rw [e] at s2
   exact s2
theorem r4_Low_l {x:List Int} {a k:Nat} (hx:DL x a) (hk:k≤20000) (hn:x.length≤1000):∀ (d i:Nat),i+d=x.length→(a%W i=0∨(k≤24*i∧a%2^k=0)) →
  Ev (fun n=>vr04_Low.l0 n x (k:Int) (i:Int)) (decide (a%2^k≠0))
 | 0,i,h,hv=>by
  have h0:a%2^k=0:=by
   rcases hv with hv | hv
   ·rw [hx.mod_all (by omega)] at hv
    rw [hv,Nat.zero_mod]
   ·exact hv.2
  refine evs ?_
  simp only [vr04_Low.l0,nI_eq,if_neg (show ¬ (i:Int) < (x.length:Int) by omega)]
  refine evs ?_
  simp only [vr04_Low.j1,nI_eq,Bool.false_eq_true,if_false]
  exact evn (by simp [h0])
 | d+1,i,h,hv=>by
  have h4:i < 4611686018427387904:=by omega
  have h5:i < 20000:=by omega
  refine evs ?_
  simp only [vr04_Low.l0,nI_eq,if_pos (show (i:Int) < (x.length:Int) by omega),w_24 h5]
  refine evs ?_
  by_cases hki:k≤24*i
  ·have h0:a%2^k=0:=by
    rcases hv with hv | hv
    ·have:=mod_pow_le (a:=a) hki
     unfold W at hv
     rw [hv,Nat.zero_mod] at this
     exact this.symm
    ·exact hv.2
   simp only [vr04_Low.j1,nI_eq,decide_eq_false (show ¬ ((24*i:Nat):Int) < (k:Int) by omega),Bool.false_eq_true,if_false]
   exact evn (by simp [h0])
  ·have hv:a%W i=0:=hv.resolve_right (fun h=>hki h.1)
   have e1:((k:Int) - ((24*i:Nat):Int))=((k - 24*i:Nat):Int):=by omega
   have e2:wrap64 ((k - 24*i:Nat):Int)=((k - 24*i:Nat):Int):=w64 (by omega) (by omega)
   simp only [vr04_Low.j1,nI_eq,decide_eq_true (show ((24*i:Nat):Int) < (k:Int) by omega),if_true,w_24 h5,e1,e2]
   by_cases hlt:k - 24*i < 24
   ·simp only [if_pos (show ((k - 24*i:Nat):Int) < 24 by omega)]
    refine Ev.bind (r4_two (k - 24*i) (by omega)) ?_
    have hp:=two_pos (k - 24*i)
    have hne:¬ ((2^(k - 24*i):Nat):Int)=0:=by generalize 2^(k - 24*i)=z at *;omega
    have hm:a%2^k=W i*(dg a i%2^(k - 24*i)):=by
     have e:(2:Nat)^k=W i*2^(k - 24*i):=by unfold W;rw [← Nat.pow_add];congr 1;omega
     rw [e,Nat.mod_mul,hv,Nat.zero_add]
     unfold dg
     rw [show (16777216:Nat)=2^24 by decide,mod_pow_le (by omega)]
    simp only [if_pos (show (0:Int)≤(i:Int) by omega),if_pos (show (i:Int) < (x.length:Int) by omega),if_neg hne,hx.rd,tmodN]
    by_cases hz:dg a i%2^(k - 24*i)=0
    ·have h0:a%2^k=0:=by rw [hm,hz,Nat.mul_zero]
     simp only [if_pos (show ((dg a i%2^(k - 24*i):Nat):Int)=0 by omega),w_succ h4]
     exact r4_Low_l hx hk hn d (i+1) (by omega) (.inr ⟨by omega,h0⟩)
    ·have h0:a%2^k≠0:=by
      rw [hm];exact Nat.mul_ne_zero (Nat.ne_of_gt (W_pos i)) hz
     simp only [if_neg (show ¬ ((dg a i%2^(k - 24*i):Nat):Int)=0 by omega)]
     exact evn (by simp [h0])
   ·have hd:=dg_lt a i
    have hm:a%W (i+1)=W i*dg a i:=by rw [mod_W_succ,hv,Nat.zero_add]
    simp only [if_neg (show ¬ ((k - 24*i:Nat):Int) < 24 by omega),if_pos (show (0:Int)≤(i:Int) by omega),if_pos (show (i:Int) < (x.length:Int) by omega),hx.rd,tmodL,Nat.mod_eq_of_lt hd]
    by_cases hz:dg a i=0
    ·simp only [if_pos (show ((dg a i:Nat):Int)=0 by omega),w_succ h4]
     exact r4_Low_l hx hk hn d (i+1) (by omega) (.inl (by rw [hm,hz,Nat.mul_zero]))
    ·have h0:a%2^k≠0:=by
      intro h0
      have:=mod_pow_le (a:=a) (b:=24*(i+1)) (c:=k) (by omega)
      rw [h0,Nat.zero_mod] at this
      have h1:a%W (i+1)=0:=this.symm
      rw [hm] at h1
      exact Nat.mul_ne_zero (Nat.ne_of_gt (W_pos i)) hz h1
     simp only [if_neg (show ¬ ((dg a i:Nat):Int)=0 by omega)]
     exact evn (by simp [h0])
theorem r4_Low {x:List Int} {a k:Nat} (hx:DL x a) (hk:k≤20000) (hn:x.length≤1000):Ev (fun n=>vr04_Low.f n x (k:Int)) (decide (a%2^k≠0)):=by
 unfold vr04_Low.f;try simp only [nI_eq]
 exact r4_Low_l hx hk hn x.length 0 (by omega) (.inl (by rw [W_zero,Nat.mod_one]))
theorem r4_Word {x:List Int} {a:Nat} (hx:DL x a):Ev (fun k=>vr04_Word.f k x) ((a%18446744073709551616:Nat):Int):=by
 unfold vr04_Word.f
 have d0:=r4_digit hx 0
 have d1:=r4_digit hx 1
 have d2:=r4_digit hx 2
 have b0:=dg_lt a 0
 have b1:=dg_lt a 1
 have b2:=dg_lt a 2
 have w1:wrap64 ((2:Int) - 1)=1:=w64 (by decide) (by decide)
 have w2:wrap64 ((1:Int) - 1)=0:=w64 (by decide) (by decide)
 have w3:wrap64 ((0:Int) - 1) = -1:=w64 (by decide) (by decide)
 have d0':vr04_digit.f x 0=_:=d0
 have d1':vr04_digit.f x 1=_:=d1
 have d2':vr04_digit.f x 2=_:=d2
 refine evs ?_
 simp only [vr04_Word.l0,nI_eq,if_pos (show (2:Int)≥0 by decide),d2',Option.bind_some,w1]
 refine evs ?_
 simp only [vr04_Word.l0,nI_eq,if_pos (show (1:Int)≥0 by decide),d1',Option.bind_some,w2]
 refine evs ?_
 simp only [vr04_Word.l0,nI_eq,if_pos (show (0:Int)≥0 by decide),d0',Option.bind_some,w3]
 refine evs ?_
 simp only [vr04_Word.l0,nI_eq,if_neg (show ¬ (-1:Int)≥0 by decide)]
 refine evn ?_
 congr 1
 simp only [u64_wrap]
 have e0:dg a 0=a%16777216:=by unfold dg;rw [W_zero,Nat.div_one]
 have e1:dg a 1=a / 16777216%16777216:=by unfold dg;rfl
 have e2:dg a 2=a / 281474976710656%16777216:=by unfold dg;rfl
 rw [e0,e1,e2]
 omega
theorem r4_Mul_l1 {a b:List Int} {A B i P M:Nat} (ha:DL a A) (hb:DL b B) (hi:i < a.length) (hn:a.length+b.length≤1000)
  (cont:∀ (l:List Int),okD l→l.length=a.length+b.length→dv l=P+W i*dg A i*B→∃ r,Ev (fun n=>vr04_Mul.l0 n a b l ((i+1:Nat):Int)) r∧DL r M):
  ∀ (d k:Nat) (l:List Int) (c:Nat),k+d=b.length→okD l→l.length=a.length+b.length→c < 16777216→dv l+W (i+k)*c=P+W i*dg A i*(B%W k)→l.getD (i+b.length) 0=0 →
   ∃ r,Ev (fun n=>vr04_Mul.l1 n a b l (i:Int) (c:Int) (k:Int)) r∧DL r M
 | 0,k,l,c,h,hok,hl,hc,hv,hz=>by
  have hk:k=b.length:=by omega
  subst hk
  have hs:=dv_set hok (n:=i+b.length) (d:=c) (by omega) hc
  have hz':dg (dv l) (i+b.length)=0:=by have:=getD_dg hok (i+b.length);rw [hz] at this;omega
  rw [hz',Nat.mul_zero,Nat.add_zero,hv,hb.mod_all (Nat.le_refl _)] at hs
  obtain ⟨r,r1,r2⟩:=cont _ (okD_set hok hc) (by rw [List.length_set];exact hl) hs
  refine ⟨r,evs ?_,r2⟩
  have h4:i+b.length < 4611686018427387904:=by omega
  have h5:i < 4611686018427387904:=by omega
  simp only [vr04_Mul.l1,nI_eq,if_neg (show ¬ (b.length:Int) < (b.length:Int) by omega),w_add rfl h4,w_succ h5,if_pos (show (0:Int)≤((i+b.length:Nat):Int) by omega),if_pos (show ((i+b.length:Nat):Int) < (l.length:Int) by omega),Int.toNat_natCast]
  exact r1
 | d+1,k,l,c,h,hok,hl,hc,hv,hz=>by
  have g0:=dg_lt (dv l) (i+k)
  have g1:=dg_lt A i
  have g2:=dg_lt B k
  have g3:dg A i*dg B k≤16777215*16777215:=Nat.mul_le_mul (by omega) (by omega)
  obtain ⟨p,hp⟩:∃ p,dg A i*dg B k=p:=⟨_,rfl⟩
  obtain ⟨t,ht⟩:∃ t,dg (dv l) (i+k)+p+c=t:=⟨_,rfl⟩
  have hst:=mul_step hok (k:=k) (by omega) hv rfl (t:=t) (by rw [hp];exact ht)
  rw [hp] at g3
  have htb:t < 281474976710656:=by omega
  obtain ⟨r,r1,r2⟩:=r4_Mul_l1 ha hb hi hn cont d (k+1) (l.set (i+k) ((t%16777216:Nat):Int)) (t / 16777216) (by omega) (okD_set hok (Nat.mod_lt _ (by decide))) (by rw [List.length_set];exact hl) (by omega) hst
   (by rw [List.getD_eq_getElem?_getD,List.getElem?_set_ne (by omega),← List.getD_eq_getElem?_getD];exact hz)
  refine ⟨r,evs ?_,r2⟩
  have h4:i+k < 4611686018427387904:=by omega
  have h5:k < 4611686018427387904:=by omega
  simp only [vr04_Mul.l1,nI_eq,if_pos (show (k:Int) < (b.length:Int) by omega),w_add rfl h4,if_pos (show (0:Int)≤((i+k:Nat):Int) by omega),if_pos (show ((i+k:Nat):Int) < (l.length:Int) by omega),if_pos (show (0:Int)≤(i:Int) by omega),if_pos (show (i:Int) < (a.length:Int) by omega),if_pos (show (0:Int)≤(k:Int) by omega),rd_dg hok,ha.rd,hb.rd]
  simp only [w_mul hp (show p < 4611686018427387904 by omega),w_add3 ht (show t < 4611686018427387904 by omega),tmodL,w_div24 (show t < 4611686018427387904 by omega),w_succ h5,Int.toNat_natCast]
  exact r1
theorem r4_Mul_l0 {a b:List Int} {A B:Nat} (ha:DL a A) (hb:DL b B) (hn:a.length+b.length≤1000):
  ∀ (d i:Nat) (l:List Int),i+d=a.length→okD l→l.length=a.length+b.length→dv l=A%W i*B→∃ r,Ev (fun n=>vr04_Mul.l0 n a b l (i:Int)) r∧DL r (A*B)
 | 0,i,l,h,hok,hl,hv=>by
  have hi:i=a.length:=by omega
  subst hi
  rw [ha.mod_all (Nat.le_refl _)] at hv
  obtain ⟨r,r1,r2⟩:=r4_Cut hok (by omega)
  rw [hv] at r2
  refine ⟨r,evs ?_,r2⟩
  simp only [vr04_Mul.l0,nI_eq,if_neg (show ¬ (a.length:Int) < (a.length:Int) by omega)]
  exact Ev.bind r1 (Ev.now _)
 | d+1,i,l,h,hok,hl,hv=>by
  have hlt:dv l < W (i+b.length):=by
   rw [hv,W_add]
   exact Nat.mul_lt_mul'' (Nat.mod_lt _ (W_pos i)) hb.lt
  have hz:l.getD (i+b.length) 0=0:=by
   rw [getD_dg hok];unfold dg;rw [Nat.div_eq_of_lt hlt];rfl
  obtain ⟨r,r1,r2⟩:=r4_Mul_l1 (P:=A%W i*B) (M:=A*B) ha hb (i:=i) (by omega) hn (fun l' o' e' v'=>r4_Mul_l0 ha hb hn d (i+1) l' (by omega) o' e' (by rw [v',mod_W_succ,Nat.add_mul]))
   b.length 0 l 0 (by omega) hok hl (by decide) (by rw [hv,W_zero,Nat.mod_one,Nat.mul_zero,Nat.mul_zero]) hz
  refine ⟨r,evs ?_,r2⟩
  simp only [vr04_Mul.l0,nI_eq,if_pos (show (i:Int) < (a.length:Int) by omega)]
  exact r1
theorem r4_Mul {a b:List Int} {A B:Nat} (ha:DL a A) (hb:DL b B) (hn:a.length+b.length≤1000):∃ r,Ev (fun n=>vr04_Mul.f n a b) r∧DL r (A*B):=by
 unfold vr04_Mul.f;try simp only [nI_eq]
 by_cases h0:a.length=0
 ·have:a=[]:=List.eq_nil_of_length_eq_zero h0
  subst this
  have hA:A=0:=by rw [← ha.val];rfl
  subst hA
  refine ⟨[], ?_,by rw [Nat.zero_mul];exact DL.nil⟩
  simp only [List.length_nil,if_pos (show ((0:Nat):Int)=0 from rfl)]
  refine evs ?_
  simp only [vr04_Mul.j0,nI_eq,if_true]
  exact Ev.now _
 ·simp only [if_neg (show ¬ (a.length:Int)=0 by omega)]
  by_cases h1:b.length=0
  ·have:b=[]:=List.eq_nil_of_length_eq_zero h1
   subst this
   have hB:B=0:=by rw [← hb.val];rfl
   subst hB
   refine ⟨[], ?_,by rw [Nat.mul_zero];exact DL.nil⟩
   refine evs ?_
   simp only [vr04_Mul.j0,nI_eq,List.length_nil,if_pos (show (((0:Nat):Int)==0)=true from rfl)]
   exact Ev.now _
  ·obtain ⟨r,r1,r2⟩:=r4_Mul_l0 ha hb hn a.length 0 (List.replicate (a.length+b.length) 0) (by omega) (okD_zeros _) (by rw [List.length_replicate]) (by rw [dv_zeros,W_zero,Nat.mod_one,Nat.zero_mul])
   refine ⟨r,evs ?_,r2⟩
   have h4:a.length+b.length < 4611686018427387904:=by omega
   have hb0:((b.length:Int)==0)=false:=by rw [beq_eq_false_iff_ne];omega
   simp only [vr04_Mul.j0,nI_eq,hb0,Bool.false_eq_true,if_false,w_add rfl h4,if_pos (show (0:Int)≤((a.length+b.length:Nat):Int) by omega),Int.toNat_natCast,if_pos (show a.length+b.length≤35184372088832 by omega)]
   exact r1
theorem r4_Cmp_l0 {a b:List Int} {A B:Nat} (ha:DL a A) (hb:DL b B) (hl:a.length=b.length) (hn:a.length≤1000):∀ (m:Nat),m≤a.length→A / W m=B / W m→Ev (fun k=>vr04_Cmp.l0 k a b ((m:Int) - 1)) (cmpN A B):=by
 intro m
 induction m with
 | zero =>
  intro hm h
  rw [W_zero,Nat.div_one,Nat.div_one] at h
  refine evs ?_
  simp only [vr04_Cmp.l0,nI_eq,if_neg (show ¬ ((0:Nat):Int) - 1≥0 by decide)]
  refine evn ?_
  rw [h];unfold cmpN;simp
 | succ m ih =>
  intro hm h
  obtain ⟨t1,t2⟩:=dg_top A B m h
  obtain ⟨_,t3⟩:=dg_top B A m h.symm
  have e:((m+1:Nat):Int) - 1=(m:Int):=by omega
  have hm4:m < 4611686018427387904:=by omega
  refine evs ?_
  simp only [vr04_Cmp.l0,nI_eq,e,if_pos (show (m:Int)≥0 by omega),if_pos (show (0:Int)≤(m:Int) by omega),if_pos (show (m:Int) < (a.length:Int) by omega),if_pos (show (m:Int) < (b.length:Int) by omega),ha.rd,hb.rd,w_less hm4]
  by_cases h1:dg A m < dg B m
  ·have:=t2.mpr h1
   have hlt:A < B:=Nat.lt_of_not_le fun hc=>absurd (Nat.div_le_div_right (c:=W m) hc) (by omega)
   simp only [if_pos (show ((dg A m:Nat):Int) < ((dg B m:Nat):Int) by omega)]
   refine evn ?_
   unfold cmpN;rw [if_pos hlt]
  ·simp only [if_neg (show ¬ ((dg A m:Nat):Int) < ((dg B m:Nat):Int) by omega)]
   by_cases h2:dg B m < dg A m
   ·have:=t3.mpr h2
    have hlt:B < A:=Nat.lt_of_not_le fun hc=>absurd (Nat.div_le_div_right (c:=W m) hc) (by omega)
    simp only [if_pos (show ((dg A m:Nat):Int) > ((dg B m:Nat):Int) by omega)]
    refine evn ?_
    unfold cmpN;rw [if_neg (by omega),if_neg (by omega)]
   ·simp only [if_neg (show ¬ ((dg A m:Nat):Int) > ((dg B m:Nat):Int) by omega)]
    exact ih (by omega) (t1.mpr (by omega))
theorem r4_Cmp {a b:List Int} {A B:Nat} (ha:DL a A) (hb:DL b B) (hn:a.length≤1000) (hm:b.length≤1000):Ev (fun k=>vr04_Cmp.f k a b) (cmpN A B):=by
 unfold vr04_Cmp.f;try simp only [nI_eq]
 by_cases hl:a.length=b.length
 ·have hn4:a.length < 4611686018427387904:=by omega
  simp only [if_pos (show (a.length:Int)=(b.length:Int) by omega),w_less hn4]
  refine r4_Cmp_l0 ha hb hl hn a.length (Nat.le_refl _) ?_
  rw [Nat.div_eq_of_lt ha.lt,Nat.div_eq_of_lt (by rw [hl];exact hb.lt)]
 ·simp only [if_neg (show ¬ (a.length:Int)=(b.length:Int) by omega)]
  rcases Nat.lt_or_ge a.length b.length with h | h
  ·have h1:=ha.lt
   have h2:=(hb.len_iff a.length).mp h
   simp only [if_pos (show (a.length:Int) < (b.length:Int) by omega)]
   refine evn ?_
   unfold cmpN;rw [if_pos (by omega)]
  ·have h1:=hb.lt
   have h2:=(ha.len_iff b.length).mp (by omega)
   simp only [if_neg (show ¬ (a.length:Int) < (b.length:Int) by omega)]
   refine evn ?_
   unfold cmpN;rw [if_neg (by omega),if_neg (by omega)]
theorem r4_Sub_l {x y:List Int} {a b:Nat} (hx:DL x a) (hy:DL y b) (hab:b≤a) (hn:x.length≤1000):∀ (d:Nat) (o:List Int) (c:Nat),o.length+d=x.length→okD o→c≤1→dv o+b%W o.length=a%W o.length+W o.length*c →
  ∃ r,Ev (fun k=>vr04_Sub.l0 k x y o (c:Int) (o.length:Int)) r∧DL r (a - b)
 | 0,o,c,hl,hok,hc,hv=>by
  have hlt:=hx.lt
  have hdo:=dv_lt hok
  rw [show o.length=x.length by omega] at hv hdo
  rw [Nat.mod_eq_of_lt hlt,Nat.mod_eq_of_lt (show b < W x.length by omega)] at hv
  have hc0:c=0:=by
   rcases (show c=0∨c=1 by omega) with h | h
   ·exact h
   ·rw [h,Nat.mul_one] at hv;omega
  rw [hc0,Nat.mul_zero,Nat.add_zero] at hv
  obtain ⟨r,s1,s2⟩:=r4_Cut hok (by omega)
  refine ⟨r,evs ?_,by rw [show a - b=dv o by omega];exact s2⟩
  simp only [vr04_Sub.l0,nI_eq,if_neg (show ¬ (o.length:Int) < (x.length:Int) by omega)]
  exact Ev.bind s1 (Ev.now _)
 | d+1,o,c,hl,hok,hc,hv=>by
  have da:=dg_lt a o.length
  have db:=dg_lt b o.length
  have hol:o.length < 4611686018427387904:=by omega
  have hol2:o.length < 17592186044416:=by omega
  have w1:wrap64 (((dg a o.length:Nat):Int) - ((dg b o.length:Nat):Int))=((dg a o.length:Nat):Int) - ((dg b o.length:Nat):Int):=w64 (by omega) (by omega)
  have w2:wrap64 (((dg a o.length:Nat):Int) - ((dg b o.length:Nat):Int) - (c:Int))=((dg a o.length:Nat):Int) - ((dg b o.length:Nat):Int) - (c:Int):=w64 (by omega) (by omega)
  have step:∀ (u t:Nat),u < 16777216→t≤1→dg a o.length+16777216*t=dg b o.length+c+u →
    ∃ r,Ev (fun k=>vr04_Sub.l0 k x y (o++[(u:Int)]) (t:Int) ((o.length+1:Nat):Int)) r∧DL r (a - b):=by
   intro u t hu ht he
   have ih:=r4_Sub_l hx hy hab hn d (o++[(u:Int)]) t (by simp;omega) (okD_snoc hok hu) ht (by
    rw [List.length_append,List.length_singleton,dv_snoc,mod_W_succ,mod_W_succ,W_succ]
    have:=sub_step hv he
    grind)
   rw [List.length_append,List.length_singleton] at ih
   exact ih
  by_cases h:dg a o.length < dg b o.length+c
  ·obtain ⟨r,r1,r2⟩:=step (dg a o.length+16777216 - dg b o.length - c) 1 (by omega) (by omega) (by omega)
   refine ⟨r,evs ?_,r2⟩
   have w3:wrap64 (((dg a o.length:Nat):Int) - ((dg b o.length:Nat):Int) - (c:Int)+16777216)=((dg a o.length+16777216 - dg b o.length - c:Nat):Int):=by rw [w64 (by omega) (by omega)];omega
   simp only [vr04_Sub.l0,nI_eq,if_pos (show (o.length:Int) < (x.length:Int) by omega),if_pos (show (0:Int)≤(o.length:Int) by omega),r4_digit hy,Option.bind_some,hx.rd,w1,w2,if_pos (show ((dg a o.length:Nat):Int) - ((dg b o.length:Nat):Int) - (c:Int) < 0 by omega),w3,if_pos hol2,w_succ hol]
   exact r1
  ·obtain ⟨r,r1,r2⟩:=step (dg a o.length - dg b o.length - c) 0 (by omega) (by omega) (by omega)
   refine ⟨r,evs ?_,r2⟩
   have w3:wrap64 (((dg a o.length:Nat):Int) - ((dg b o.length:Nat):Int) - (c:Int))=((dg a o.length - dg b o.length - c:Nat):Int):=by rw [w2];omega
   simp only [vr04_Sub.l0,nI_eq,if_pos (show (o.length:Int) < (x.length:Int) by omega),if_pos (show (0:Int)≤(o.length:Int) by omega),r4_digit hy,Option.bind_some,hx.rd,w1,w3,if_neg (show ¬ ((dg a o.length - dg b o.length - c:Nat):Int) < 0 by omega),if_pos hol2,w_succ hol]
   exact r1
theorem r4_Sub {x y:List Int} {a b:Nat} (hx:DL x a) (hy:DL y b) (hab:b≤a) (hn:x.length≤1000):∃ r,Ev (fun k=>vr04_Sub.f k x y) r∧DL r (a - b):=by
 have:=r4_Sub_l hx hy hab hn x.length [] 0 (by simp) okD_nil (by omega) (by simp [dv,W_zero,Nat.mod_one])
 simpa [vr04_Sub.f] using this
theorem half_bounds {l h:Nat} (hl:l < h) (hh:h≤16777216) (h2:2≤h - l):l < (l+h) / 2∧(l+h) / 2 < h:=by omega
theorem r4_DivMod_l1 {x y q r:List Int} {N B i:Nat} {res:List Int×List Int} (hy:DL y B) (hr:DL r N) (hn:y.length≤500) (hm:r.length≤1000) (hi:i < q.length) (hq:q.length≤1000) (hN:N / B < 16777216)
  (H:Ev (fun k=>(vr04_times.f k y ((N / B:Nat):Int)).bind fun t=>(vr04_Sub.f k r t).bind fun s=>vr04_DivMod.l0 k x y (q.set i ((N / B:Nat):Int)) s ((i:Int) - 1)) res):
  ∀ (d l h:Nat),l*B≤N→N < h*B→l < h→h≤16777216→h - l≤2^d→Ev (fun k=>vr04_DivMod.l1 k x y q r (i:Int) (l:Int) (h:Int)) res
 | d,l,h,h1,h2,h3,h4,h5=>by
  have hB:0 < B:=by
   rcases Nat.eq_zero_or_pos B with e | e
   ·rw [e,Nat.mul_zero] at h2;omega
   ·exact e
  have w1:wrap64 ((h:Int) - (l:Int))=(h:Int) - (l:Int):=w64 (by omega) (by omega)
  have w2:wrap64 (Int.tdiv (wrap64 ((l:Int)+(h:Int))) 2)=(((l+h) / 2:Nat):Int):=by
   rw [show (l:Int)+(h:Int)=((l+h:Nat):Int) by omega,w64 (n:=((l+h:Nat):Int)) (by omega) (by omega),w_half (by omega)]
  have wi:wrap64 ((i:Int) - 1)=(i:Int) - 1:=w64 (by omega) (by omega)
  by_cases hs:h - l≤1
  ·have hl:N / B=l:=by
    have e:h=l+1:=by omega
    rw [e] at h2
    exact Nat.div_eq_of_lt_le (by omega) h2
   refine evs ?_
   simp only [vr04_DivMod.l1,nI_eq,w1,if_neg (show ¬ (h:Int) - (l:Int) > 1 by omega),if_pos (show (0:Int)≤(i:Int) by omega),if_pos (show (i:Int) < (q.length:Int) by omega),Int.toNat_natCast,wi]
   rw [hl] at H
   exact H
  ·match d,h5 with
   | 0,h5=>rw [Nat.pow_zero] at h5;omega
   | d+1,h5 =>
   obtain ⟨m1,m2⟩:=half_bounds h3 h4 (by omega)
   rw [Nat.pow_succ] at h5
   obtain ⟨t,t1,t2⟩:=r4_times (q:=(l+h) / 2) hy (by omega) (by omega)
   have lt:t.length≤501:=t2.len_le (by
    have:=hy.lt
    have e:B*((l+h) / 2) < W y.length*16777216:=Nat.mul_lt_mul'' this (by omega)
    rw [Nat.mul_comm (W y.length),← W_succ] at e
    exact Nat.lt_of_lt_of_le e (W_mono (by omega)))
   refine evs ?_
   simp only [vr04_DivMod.l1,nI_eq,w1,w2,if_pos (show (h:Int) - (l:Int) > 1 by omega)]
   refine Ev.bind t1 (Ev.bind (r4_Cmp t2 hr (by omega) (by omega)) ?_)
   have hc:cmpN (B*((l+h) / 2)) N≤0↔(l+h) / 2*B≤N:=by
    rw [Nat.mul_comm]
    unfold cmpN;split
    ·omega
    ·split <;> omega
   by_cases c:(l+h) / 2*B≤N
   ·simp only [if_pos (hc.mpr c)]
    exact r4_DivMod_l1 hy hr hn hm hi hq hN H d ((l+h) / 2) h c h2 m2 h4 (by omega)
   ·simp only [if_neg (fun k=>c (hc.mp k))]
    exact r4_DivMod_l1 hy hr hn hm hi hq hN H d l ((l+h) / 2) h1 (by omega) m1 (by omega) (by omega)
theorem dv_cons (a:Nat) (l:List Int):dv ((a:Int) :: l)=a+16777216*dv l:=by
 have:=dv_append [(a:Int)] l
 have e:dv [(a:Int)]=a:=by simp [dv]
 rw [List.singleton_append,e,List.length_singleton,W_succ,W_zero] at this
 exact this
theorem r4_DivMod_l0 {x y:List Int} {A B:Nat} (hx:DL x A) (hy:DL y B) (hB:0 < B) (hn:x.length≤400) (hm:y.length≤400):∀ (m:Nat) (q r:List Int),m≤x.length→q.length=x.length→okD q→dv q=W m*(A / B / W m)→DL r (A / W m%B) →
  ∃ u v,Ev (fun k=>vr04_DivMod.l0 k x y q r ((m:Int) - 1)) (u,v)∧DL u (A / B)∧DL v (A%B)
 | 0,q,r,h0,hl,hok,hv,hr=>by
  rw [W_zero,Nat.div_one,Nat.one_mul] at hv
  rw [W_zero,Nat.div_one] at hr
  obtain ⟨u,u1,u2⟩:=r4_Cut hok (by omega)
  rw [hv] at u2
  refine ⟨u,r,evs ?_,u2,hr⟩
  simp only [vr04_DivMod.l0,nI_eq,if_neg (show ¬ ((0:Nat):Int) - 1≥0 by omega)]
  exact Ev.bind u1 (Ev.now _)
 | i+1,q,r,h0,hl,hok,hv,hr=>by
  obtain ⟨d1,d2⟩:=div_step A B i hB
  have hok':okD (((dg A i:Nat):Int) :: r):=by
   intro z hz
   rcases List.mem_cons.1 hz with rfl | hz
   ·have:=dg_lt A i;omega
   ·exact hr.ok z hz
  have lr:r.length≤400:=by
   refine Nat.le_trans (hr.len_le (n:=y.length) ?_) hm
   exact Nat.lt_of_lt_of_le (Nat.mod_lt _ hB) (Nat.le_of_lt hy.lt)
  obtain ⟨c,c1,c2⟩:=r4_Cut hok' (by simp;omega)
  rw [dv_cons,hr.val] at c2
  have hN:(dg A i+16777216*(A / W (i+1)%B)) / B < 16777216:=by rw [d1];exact dg_lt _ _
  have hNlt:dg A i+16777216*(A / W (i+1)%B) < W 401:=by
   have h1:=dg_lt A i
   have h2:A / W (i+1)%B < W 400:=Nat.lt_of_lt_of_le (Nat.mod_lt _ hB) (Nat.le_trans (Nat.le_of_lt hy.lt) (W_mono hm))
   have e:W 401=16777216*W 400:=W_succ 400
   omega
  have lc:c.length≤401:=c2.len_le hNlt
  generalize hNe:dg A i+16777216*(A / W (i+1)%B)=N at *
  -- the digit is laid,the rest goes on
  have hlo:N / B*B≤N:=Nat.div_mul_le_self _ _
  obtain ⟨t,t1,t2⟩:=r4_times (q:=N / B) hy (by omega) (by omega)
  obtain ⟨s,s1,s2⟩:=r4_Sub c2 t2 (by rw [Nat.mul_comm];exact hlo) (by omega)
  have es:N - B*(N / B)=A / W i%B:=by
   rw [← d2]
   have:=Nat.div_add_mod N B
   omega
  rw [es] at s2
  have hset:=dv_set hok (n:=i) (d:=N / B) (by omega) hN
  have hz:dg (dv q) i=0:=by
   rw [hv];unfold dg
   rw [W_succ,Nat.mul_assoc,Nat.mul_left_comm,Nat.mul_div_cancel_left _ (W_pos i),Nat.mul_mod_right]
  rw [hz,Nat.mul_zero,Nat.add_zero,hv,d1,div_W] at hset
  rw [← d1] at hset
  obtain ⟨u,v,e1,e2,e3⟩:=r4_DivMod_l0 hx hy hB hn hm i (q.set i ((N / B:Nat):Int)) s (by omega) (by rw [List.length_set];exact hl) (okD_set hok hN) hset s2
  refine ⟨u,v,evs ?_,e2,e3⟩
  simp only [vr04_DivMod.l0,nI_eq,show ((i+1:Nat):Int) - 1=(i:Int) by omega,if_pos (show (i:Int)≥0 by omega),if_pos (show (0:Int)≤(i:Int) by omega),if_pos (show (i:Int) < (x.length:Int) by omega),if_pos (show 1+r.length≤17592186044416 by omega),hx.rd,List.singleton_append]
  refine Ev.bind c1 ?_
  refine r4_DivMod_l1 hy c2 (by omega) (by omega) (by omega) (by omega) hN (Ev.bind t1 (Ev.bind s1 e1)) 24 0 16777216 (by omega) ?_ (by decide) (by decide) (by decide)
  rw [Nat.div_lt_iff_lt_mul hB] at hN
  exact hN
theorem r4_DivMod {x y:List Int} {A B:Nat} (hx:DL x A) (hy:DL y B) (hB:0 < B) (hn:x.length≤400) (hm:y.length≤400):
  ∃ u v,Ev (fun k=>vr04_DivMod.f k x y) (u,v)∧DL u (A / B)∧DL v (A%B):=by
 have hA:=hx.lt
 obtain ⟨u,v,e1,e2,e3⟩:=r4_DivMod_l0 hx hy hB hn hm x.length (List.replicate x.length 0) [] (Nat.le_refl _) (by simp) (okD_zeros _) (by
  rw [dv_zeros,Nat.div_eq_of_lt (Nat.lt_of_le_of_lt (Nat.div_le_self _ _) hA),Nat.mul_zero]) (by rw [Nat.div_eq_of_lt hA,Nat.zero_mod];exact DL.nil)
 refine ⟨u,v, ?_,e2,e3⟩
 unfold vr04_DivMod.f
 simp only [nI_eq,Int.toNat_natCast,if_pos (show x.length≤35184372088832 by omega),show wrap64 ((x.length:Int) - 1)=(x.length:Int) - 1 from w64 (by omega) (by omega)]
 exact e1
end Go.Proofs.YtbpcfhhcoklinaaGreat.V
namespace Go.Proofs.YtbpcfhhcoklinaaGreat.V
open Go Go.RowKit Go.Proofs.YtbpcfhhcoklinaaGreat.Ab Go.Proofs.YtbpcfhhcoklinaaGreat.Fn
theorem r0_digit {l:List Int} {m:Nat} (h:DL l m) (i:Nat):vr00_digit.f l (i:Int)=some ((dg m i:Nat):Int):=by
 unfold vr00_digit.f;rw [nI_eq]
 by_cases hi:i < l.length
 ·rw [if_pos (by omega),if_pos (by omega),h.rd]
 ·rw [if_neg (by omega),h.dg_out (by omega)];rfl
theorem r0_two_l (n:Nat) (hn:n≤24):∀ (d i:Nat),i+d=n→Ev (fun k=>vr00_two.l0 k (n:Int) ((2^i:Nat):Int) (i:Int)) ((2^n:Nat):Int)
 | 0,i,h=>by
  refine evs ?_
  simp only [vr00_two.l0,nI_eq,if_neg (show ¬ (i:Int) < (n:Int) by omega)]
  have:i=n:=by omega
  subst this
  exact Ev.now _
 | d+1,i,h=>by
  refine evs ?_
  simp only [vr00_two.l0,nI_eq]
  have hp:2^i < 2^24:=pow_lt (by omega)
  have h24:(2:Nat)^24=16777216:=by decide
  have e1:wrap64 (2*((2^i:Nat):Int))=((2^(i+1):Nat):Int):=by
   rw [Nat.pow_succ]
   generalize 2^i=z at *
   rw [w64 (by omega) (by omega)];omega
  have e2:wrap64 ((i:Int)+1)=((i+1:Nat):Int):=by rw [w64 (by omega) (by omega)];omega
  simp only [if_pos (show (i:Int) < (n:Int) by omega),e1,e2]
  exact r0_two_l n hn d (i+1) (by omega)
theorem r0_two (n:Nat) (hn:n≤24):Ev (fun k=>vr00_two.f k (n:Int)) ((2^n:Nat):Int):=by
 unfold vr00_two.f
 exact r0_two_l n hn n 0 (by omega)
theorem r0_Of_l (v:Nat) (hv:v < 18446744073709551616):∀ (d:Nat) (l:List Int),l.length+d=3→okD l→dv l+W l.length*(v / W l.length)=v→(l≠[]→W (l.length - 1)≤v) →
  ∃ r,Ev (fun k=>vr00_Of.l0 k ((v / W l.length:Nat):Int) l) r∧DL r v:=by
 intro d
 induction d with
 | zero =>
  intro l hl hok hval hcan
  have h3:v / W l.length=0:=by
   rw [show l.length=3 by omega,Nat.div_eq_of_lt (Nat.lt_of_lt_of_le hv (by decide))]
  refine ⟨l, ?_,hok,by rw [h3] at hval;simpa using hval,hcan⟩
  refine evs ?_
  simp only [vr00_Of.l0,nI_eq,h3,if_neg (show ¬ ((0:Nat):Int) > 0 by decide)]
  exact Ev.now _
 | succ d ih =>
  intro l hl hok hval hcan
  by_cases h0:v / W l.length=0
  ·refine ⟨l, ?_,hok,by rw [h0] at hval;simpa using hval,hcan⟩
   refine evs ?_
   simp only [vr00_Of.l0,nI_eq,h0,if_neg (show ¬ ((0:Nat):Int) > 0 by decide)]
   exact Ev.now _
  ·have hlt:v / W l.length < 18446744073709551616:=Nat.lt_of_le_of_lt (Nat.div_le_self _ _) hv
   have e1:wrap64 (Int.tmod ((v / W l.length:Nat):Int) 16777216)=((dg v l.length:Nat):Int):=by
    unfold dg
    generalize v / W l.length=q at *
    rw [tmodL,w64 (by omega) (by omega)]
   have e2:IntKind.u64.wrap (Int.tdiv ((v / W l.length:Nat):Int) 16777216)=((v / W (l.length+1):Nat):Int):=by
    rw [W_succ,Nat.mul_comm,← Nat.div_div_eq_div_mul]
    generalize v / W l.length=q at *
    rw [tdivL,u64_of (by omega) (by omega)]
   have ev:dv (l++[((dg v l.length:Nat):Int)])=v%W (l.length+1):=by
    rw [dv_snoc,mod_W_succ]
    have:=Nat.div_add_mod v (W l.length)
    have:=Nat.mul_comm (W l.length) (v / W l.length)
    omega
   have hW:W l.length≤v:=by
    rcases Nat.lt_or_ge v (W l.length) with h | h
    ·exact absurd (Nat.div_eq_of_lt h) h0
    ·exact h
   obtain ⟨r,h1,h2⟩:=ih (l++[((dg v l.length:Nat):Int)]) (by simp;omega) (okD_snoc hok (dg_lt _ _)) (by
    rw [ev,List.length_append,List.length_singleton]
    have:=Nat.div_add_mod v (W (l.length+1));omega) (fun _=>by simpa using hW)
   refine ⟨r, ?_,h2⟩
   refine evs ?_
   simp only [vr00_Of.l0,nI_eq]
   rw [List.length_append,List.length_singleton] at h1
   have hq0:((v / W l.length:Nat):Int) > 0:=by generalize v / W l.length=q at *;omega
   simp only [if_pos hq0,if_pos (show l.length < 17592186044416 by omega),e1,e2]
   exact h1
theorem r0_Of (v:Nat) (hv:v < 18446744073709551616):∃ r,Ev (fun k=>vr00_Of.f k (v:Int)) r∧DL r v:=by
 have:=r0_Of_l v hv 3 [] rfl okD_nil (by simp [dv,W_zero]) (fun h=>absurd rfl h)
 simpa [vr00_Of.f,W_zero] using this
theorem r0_Add_l {x y:List Int} {a b:Nat} (hx:DL x a) (hy:DL y b) (hn:x.length≤1000) (hm:y.length≤1000):∀ (d:Nat) (o:List Int) (c:Nat),o.length+d=max x.length y.length+1 →
  okD o→c≤1→dv o+W o.length*c=a%W o.length+b%W o.length→(o.length=max x.length y.length+1→c=0)→(o≠[]→W (o.length - 1)≤a+b) →
  ∃ r,Ev (fun k=>vr00_Add.l0 k x y o (c:Int) (o.length:Int)) r∧DL r (a+b):=by
 intro d
 induction d with
 | zero =>
  intro o c hl hok hc hv hlast hcan
  have c0:=hlast (by omega)
  subst c0
  have ha:=hx.mod_all (i:=o.length) (by omega)
  have hb:=hy.mod_all (i:=o.length) (by omega)
  refine ⟨o, ?_,hok,by rw [ha,hb] at hv;simpa using hv,hcan⟩
  refine evs ?_
  simp only [vr00_Add.l0,nI_eq,if_neg (show ¬ (o.length:Int) < (x.length:Int) by omega),if_neg (show ¬ (o.length:Int) < (y.length:Int) by omega),decide_eq_false (show ¬ ((0:Nat):Int) > 0 by decide)]
  refine evs ?_
  simp only [vr00_Add.j1,nI_eq,Bool.false_eq_true,if_false]
  exact Ev.now _
 | succ d ih =>
  intro o c hl hok hc hv hlast hcan
  have stop:¬ o.length < x.length→¬ o.length < y.length→c=0→∃ r,Ev (fun k=>vr00_Add.l0 k x y o (c:Int) (o.length:Int)) r∧DL r (a+b):=by
   intro h1 h2 c0
   subst c0
   have ha:=hx.mod_all (i:=o.length) (by omega)
   have hb:=hy.mod_all (i:=o.length) (by omega)
   refine ⟨o, ?_,hok,by rw [ha,hb] at hv;simpa using hv,hcan⟩
   refine evs ?_
   simp only [vr00_Add.l0,nI_eq,if_neg (show ¬ (o.length:Int) < (x.length:Int) by omega),if_neg (show ¬ (o.length:Int) < (y.length:Int) by omega),decide_eq_false (show ¬ ((0:Nat):Int) > 0 by decide)]
   refine evs ?_
   simp only [vr00_Add.j1,nI_eq,Bool.false_eq_true,if_false]
   exact Ev.now _
  have go:(o.length < x.length∨o.length < y.length∨0 < c)→∃ r,Ev (fun k=>vr00_Add.j1 k x y o (c:Int) (o.length:Int) true) r∧DL r (a+b):=by
   intro hg
   have da:=dg_lt a o.length
   have db:=dg_lt b o.length
   generalize ht:dg a o.length+dg b o.length+c=t
   have htb:t < 33554433:=by omega
   have ev:dv (o++[((t%16777216:Nat):Int)])+W (o.length+1)*(t / 16777216)=a%W (o.length+1)+b%W (o.length+1):=by
    rw [dv_snoc,mod_W_succ,mod_W_succ,W_succ]
    exact add_step hv ht
   have hWl:W o.length≤a+b:=by
    rcases hg with hg | hg | hg
    ·have:=(hx.len_iff _).mp hg;omega
    ·have:=(hy.len_iff _).mp hg;omega
    ·have:W o.length*1≤W o.length*c:=Nat.mul_le_mul_left _ hg
     have h1:=Nat.mod_le a (W o.length)
     have h2:=Nat.mod_le b (W o.length)
     omega
   obtain ⟨r,h1,h2⟩:=ih (o++[((t%16777216:Nat):Int)]) (t / 16777216) (by simp;omega) (okD_snoc hok (Nat.mod_lt _ (by decide))) (by omega) (by rw [List.length_append,List.length_singleton];exact ev)
    (fun hlen=>by
     rw [List.length_append,List.length_singleton] at hlen
     have:=hx.dg_out (i:=o.length) (by omega)
     have:=hy.dg_out (i:=o.length) (by omega)
     omega) (fun _=>by simpa using hWl)
   refine ⟨r, ?_,h2⟩
   refine evs ?_
   simp only [vr00_Add.j1,nI_eq,if_true]
   rw [List.length_append,List.length_singleton] at h1
   have hol:o.length < 4611686018427387904:=by omega
   have hol2:o.length < 17592186044416:=by omega
   simp only [r0_digit hx,r0_digit hy,Option.bind_some,if_pos hol2,w_add3 ht (by omega),tmodL,w_div24 (show t < 4611686018427387904 by omega),w_succ hol]
   exact h1
  by_cases h1:o.length < x.length
  ·obtain ⟨r,a1,a2⟩:=go (.inl h1)
   refine ⟨r,evs ?_,a2⟩
   simp only [vr00_Add.l0,nI_eq,if_pos (show (o.length:Int) < (x.length:Int) by omega)]
   exact a1
  ·by_cases h2:o.length < y.length
   ·obtain ⟨r,a1,a2⟩:=go (.inr (.inl h2))
    refine ⟨r,evs ?_,a2⟩
    simp only [vr00_Add.l0,nI_eq,if_neg (show ¬ (o.length:Int) < (x.length:Int) by omega),if_pos (show (o.length:Int) < (y.length:Int) by omega)]
    exact a1
   ·by_cases h3:c=0
    ·exact stop h1 h2 h3
    ·obtain ⟨r,a1,a2⟩:=go (.inr (.inr (by omega)))
     refine ⟨r,evs ?_,a2⟩
     simp only [vr00_Add.l0,nI_eq,if_neg (show ¬ (o.length:Int) < (x.length:Int) by omega),if_neg (show ¬ (o.length:Int) < (y.length:Int) by omega),decide_eq_true (show (c:Int) > 0 by omega)]
     exact a1
theorem r0_Add {x y:List Int} {a b:Nat} (hx:DL x a) (hy:DL y b) (hn:x.length≤1000) (hm:y.length≤1000):∃ r,Ev (fun k=>vr00_Add.f k x y) r∧DL r (a+b):=by
 have:=r0_Add_l hx hy hn hm (max x.length y.length+1) [] 0 (by simp) okD_nil (by omega) (by simp [dv,W_zero,Nat.mod_one]) (fun h=>rfl) (fun h=>absurd rfl h)
 simpa [vr00_Add.f] using this
theorem r0_times_l {x:List Int} {a q:Nat} (hx:DL x a) (hq:q≤16777216) (hq0:0 < q) (hn:x.length≤1000):∀ (d:Nat) (o:List Int) (c:Nat),o.length+d=x.length+1 →
  okD o→c < q→dv o+W o.length*c=a%W o.length*q→(o.length=x.length+1→c=0)→(o≠[]→W (o.length - 1)≤a*q) →
  ∃ r,Ev (fun k=>vr00_times.l0 k x (q:Int) o (c:Int) (o.length:Int)) r∧DL r (a*q):=by
 intro d
 induction d with
 | zero =>
  intro o c hl hok hc hv hlast hcan
  have c0:=hlast (by omega)
  subst c0
  have ha:=hx.mod_all (i:=o.length) (by omega)
  refine ⟨o, ?_,hok,by rw [ha] at hv;simpa using hv,hcan⟩
  refine evs ?_
  simp only [vr00_times.l0,nI_eq,if_neg (show ¬ (o.length:Int) < (x.length:Int) by omega),if_neg (show ¬ ((0:Nat):Int) > 0 by decide)]
  exact Ev.now _
 | succ d ih =>
  intro o c hl hok hc hv hlast hcan
  have da:=dg_lt a o.length
  have hmul:dg a o.length*q≤16777215*q:=Nat.mul_le_mul_right _ (by omega)
  generalize ht:dg a o.length*q+c=t
  have htb:t < 16777216*q:=by omega
  have hb:t < 281474976710657:=by omega
  have hol:o.length < 4611686018427387904:=by omega
  have hol2:o.length < 17592186044416:=by omega
  have hb2:t < 4611686018427387904:=by omega
  have ev:dv (o++[((t%16777216:Nat):Int)])+W (o.length+1)*(t / 16777216)=a%W (o.length+1)*q:=by
   rw [dv_snoc,mod_W_succ,W_succ]
   exact times_step hv ht
  have go:(o.length < x.length∨0 < c)→∃ r,Ev (fun k=>vr00_times.l0 k x (q:Int) (o++[((t%16777216:Nat):Int)]) ((t / 16777216:Nat):Int) ((o.length+1:Nat):Int)) r∧DL r (a*q):=by
   intro hg
   have hWl:W o.length≤a*q:=by
    rcases hg with hg | hg
    ·have:=(hx.len_iff _).mp hg
     exact Nat.le_trans this (Nat.le_mul_of_pos_right _ hq0)
    ·have h1:W o.length*1≤W o.length*c:=Nat.mul_le_mul_left _ hg
     have h2:=Nat.mul_le_mul_right q (Nat.mod_le a (W o.length))
     omega
   obtain ⟨r,h1,h2⟩:=ih (o++[((t%16777216:Nat):Int)]) (t / 16777216) (by simp;omega) (okD_snoc hok (Nat.mod_lt _ (by decide))) (by omega) (by rw [List.length_append,List.length_singleton];exact ev)
    (fun hlen=>by
     rw [List.length_append,List.length_singleton] at hlen
     have h0:=hx.dg_out (i:=o.length) (by omega)
     rw [h0] at ht
     omega) (fun _=>by simpa using hWl)
   rw [List.length_append,List.length_singleton] at h1
   exact ⟨r,h1,h2⟩
  by_cases h1:o.length < x.length
  ·obtain ⟨r,a1,a2⟩:=go (.inl h1)
   refine ⟨r,evs ?_,a2⟩
   simp only [vr00_times.l0,nI_eq,if_pos (show (o.length:Int) < (x.length:Int) by omega),if_pos (show (q:Int) > 0 by omega),r0_digit hx,Option.bind_some,if_pos hol2,w_muladd ht hb2,tmodL,w_div24 hb2,w_succ hol]
   exact a1
  ·by_cases h3:c=0
   ·subst h3
    have ha:=hx.mod_all (i:=o.length) (by omega)
    refine ⟨o,evs ?_,hok,by rw [ha] at hv;simpa using hv,hcan⟩
    simp only [vr00_times.l0,nI_eq,if_neg (show ¬ (o.length:Int) < (x.length:Int) by omega),if_neg (show ¬ ((0:Nat):Int) > 0 by omega)]
    exact Ev.now _
   ·obtain ⟨r,a1,a2⟩:=go (.inr (by omega))
    refine ⟨r,evs ?_,a2⟩
    simp only [vr00_times.l0,nI_eq,if_neg (show ¬ (o.length:Int) < (x.length:Int) by omega),if_pos (show (c:Int) > 0 by omega),r0_digit hx,Option.bind_some,if_pos hol2,w_muladd ht hb2,tmodL,w_div24 hb2,w_succ hol]
    exact a1
theorem r0_times {x:List Int} {a q:Nat} (hx:DL x a) (hq:q≤16777216) (hn:x.length≤1000):∃ r,Ev (fun k=>vr00_times.f k x (q:Int)) r∧DL r (a*q):=by
 by_cases hq0:q=0
 ·subst hq0
  refine ⟨[], ?_,by rw [Nat.mul_zero];exact DL.nil⟩
  unfold vr00_times.f;try simp only [nI_eq]
  refine evs ?_
  simp only [vr00_times.l0,nI_eq,if_neg (show ¬ ((0:Nat):Int) > 0 by decide),if_neg (show ¬ (0:Int) > 0 by decide),ite_self]
  exact Ev.now _
 ·have:=r0_times_l hx hq (by omega) hn (x.length+1) [] 0 (by simp) okD_nil (by omega) (by simp [dv,W_zero,Nat.mod_one]) (fun h=>rfl) (fun h=>absurd rfl h)
  simpa [vr00_times.f] using this
theorem r0_Shl {x:List Int} {a k:Nat} (hx:DL x a) (hk:k≤20000) (hn:x.length≤1000):∃ r,Ev (fun n=>vr00_Shl.f n x (k:Int)) r∧DL r (a*2^k):=by
 by_cases h0:a=0
 ·subst h0
  have:=hx.zero
  subst this
  refine ⟨[], ?_,by rw [Nat.zero_mul];exact DL.nil⟩
  unfold vr00_Shl.f;try simp only [nI_eq]
  exact evn rfl
 ·have hpos:=hx.pos (by omega)
  have t:=r0_two (k%24) (by omega)
  have hp:(2:Nat)^(k%24)≤2^24:=pow_le (by omega)
  obtain ⟨s,s1,s2⟩:=r0_times hx (q:=2^(k%24)) hp hn
  have hs:0 < a*2^(k%24):=Nat.mul_pos (by omega) (two_pos _)
  have hsl:=s2.pos hs
  have hsl2:s.length≤x.length+1:=by
   refine s2.len_le ?_
   rw [W_succ,Nat.mul_comm 16777216]
   have hp':2^(k%24) < 16777216:=by
    have:(2:Nat)^(k%24) < 2^24:=pow_lt (by omega)
    exact this
   have h1:=hx.lt
   exact Nat.mul_lt_mul'' h1 hp'
  have ev:dv (List.replicate (k / 24) 0++s)=a*2^k:=by
   rw [dv_append,dv_zeros,s2.val,List.length_replicate]
   unfold W
   have e1:(2:Nat)^k=2^(24*(k / 24))*2^(k%24):=by rw [← Nat.pow_add];congr 1;omega
   rw [e1];grind
  refine ⟨List.replicate (k / 24) 0++s, ?_, ?_,ev, ?_⟩
  ·unfold vr00_Shl.f;try simp only [nI_eq]
   simp only [if_neg (show ¬ (x.length:Int)=0 by omega),w_q24 hk,w_r24,if_pos (show (0:Int)≤((k / 24:Nat):Int) by omega),Int.toNat_natCast,if_pos (show k / 24≤35184372088832 by omega),Option.bind_some]
   refine Ev.bind t (Ev.bind s1 ?_)
   simp only [List.length_replicate,if_pos (show k / 24+s.length≤17592186044416 by omega)]
   exact Ev.now _
  ·intro d hd
   rcases List.mem_append.mp hd with h | h
   ·exact okD_zeros _ d h
   ·exact s2.ok d h
  ·intro _
   rw [List.length_append,List.length_replicate,show k / 24+s.length - 1=k / 24+(s.length - 1) by omega,W_add]
   have c:=s2.can (by intro e;rw [e] at hsl;simp at hsl)
   have e1:(2:Nat)^k=W (k / 24)*2^(k%24):=by unfold W;rw [← Nat.pow_add];congr 1;omega
   rw [e1]
   have:=Nat.mul_le_mul_left (W (k / 24)) c
   rw [show a*(W (k / 24)*2^(k%24))=W (k / 24)*(a*2^(k%24)) by grind]
   exact this
end Go.Proofs.YtbpcfhhcoklinaaGreat.V
namespace Go.Proofs.YtbpcfhhcoklinaaGreat.V
open Go Go.RowKit Go.Proofs.YtbpcfhhcoklinaaGreat.Ab Go.Proofs.YtbpcfhhcoklinaaGreat.Fn
theorem ref02_Of_eq {V:Nat} (hV:V < 2^128):∃ r,Ev (fun k=>vr02_Of.f k (TH V) (TL V)) r∧DL r V:=by
 have h1:V / 18446744073709551616 < 18446744073709551616:=by rw [p128] at hV;omega
 obtain ⟨a,a1,a2⟩:=r0_Of (V / 18446744073709551616) h1
 have la:a.length≤3:=a2.len_le (Nat.lt_of_lt_of_le h1 (by decide))
 obtain ⟨b,b1,b2⟩:=r0_Shl (k:=64) a2 (by decide) (by omega)
 obtain ⟨c,c1,c2⟩:=r0_Of (V%18446744073709551616) (Nat.mod_lt _ (by decide))
 have lc:c.length≤3:=c2.len_le (Nat.lt_of_lt_of_le (Nat.mod_lt _ (by decide)) (show 18446744073709551616≤W 3 by decide))
 have e:V / 18446744073709551616*2^64≤V:=by rw [p64];exact Nat.div_mul_le_self _ _
 have lb:b.length≤6:=b2.len_le (Nat.lt_of_le_of_lt e (Nat.lt_of_lt_of_le hV (by decide)))
 obtain ⟨d,d1,d2⟩:=r0_Add b2 c2 (by omega) (by omega)
 refine ⟨d, ?_, ?_⟩
 ·unfold vr02_Of.f
  exact Ev.bind a1 (Ev.bind b1 (Ev.bind c1 (Ev.bind d1 (Ev.now _))))
 ·rw [show V / 18446744073709551616*2^64+V%18446744073709551616=V by rw [p64];omega] at d2
  exact d2
theorem one_DL:DL ([1]:List Int) 1:=by
 refine ⟨?_,by decide,fun _=>by decide⟩
 intro d hd
 have:d=1:=by simpa using hd
 subst this
 exact ⟨by decide,by decide⟩
end Go.Proofs.YtbpcfhhcoklinaaGreat.V
namespace Go.Proofs.YtbpcfhhcoklinaaGreat.V
open Go Go.RowKit Go.Proofs.YtbpcfhhcoklinaaGreat.Ab Go.Proofs.YtbpcfhhcoklinaaGreat.Fn
theorem code_none:vl00_Code.f none=some 0:=rfl
theorem code_2:vl00_Code.f (some 2)=some 2:=rfl
end Go.Proofs.YtbpcfhhcoklinaaGreat.V
