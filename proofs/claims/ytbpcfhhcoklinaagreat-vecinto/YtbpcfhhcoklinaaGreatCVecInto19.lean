-- Written by a program of this session out of its own texts (wip/tools/link.py).
import Derived.Below
import Derived.ChangeKeysEq
import Derived.Deep.MidRow
import Derived.Deep.RegionHeld3
import Derived.Great.BuildSlice
import Derived.Ground.SlsfProg
import Derived.IntWalk
import Derived.KernelRfl
import Derived.LaidEql
import Derived.Laws.Bits64
import Derived.Laws.BitsLemmas
import Derived.Laws.BytesArg
import Derived.Laws.IdiomCopy
import Derived.Laws.OwnMore
import Derived.Laws.Rows
import Derived.Laws.Slices
import Derived.Laws.Strings
import Derived.Laws.StructEq
import Derived.Laws.Tables
import Derived.Lib.BitFns
import Derived.Lib.Slices
import Derived.Lib.Small
import Derived.Lib.Strings
import Derived.Lib.Walk
import Derived.LoopIn
import Derived.LoopNIn
import Derived.Maps.AppendAt
import Derived.OrdersHeld
import Derived.OwnWalkIn
import Derived.RangeFuncBound
import Derived.RangeFuncCalls
import Derived.RangeFuncLeaves
import Derived.RangeFuncNested
import Derived.RowKit
import Derived.Scope
import Derived.Shelf.Abstract
import Derived.Shelf.RegionOpen
import Derived.Shelf.SlGeneric
import Derived.Shelf.SlSortCmp.NoneTotal
import Derived.Shelf.Spec.BitsCarry
import Derived.TacticsInMore
import Derived.Test.YtbpcfhhcoklinaaGreatProg
import Derived.WalkKit
import Derived.Test.YtbpcfhhcoklinaaGreatCVecInto10
import Derived.Test.YtbpcfhhcoklinaaGreatCVecInto11
import Derived.Test.YtbpcfhhcoklinaaGreatCVecInto16
import Derived.Test.YtbpcfhhcoklinaaGreatCVecInto17
import Derived.Test.YtbpcfhhcoklinaaGreatCVecInto18
set_option linter.unusedSimpArgs false
set_option linter.unusedVariables false
namespace Go.Proofs.YtbpcfhhcoklinaaGreat.V
open Go Go.RowKit Go.Proofs.YtbpcfhhcoklinaaGreat.Ab Go.Proofs.YtbpcfhhcoklinaaGreat.Fn
theorem ref_Is_eq (n:Int):vr05_Is.f n=some (isW n):=by
  unfold vr05_Is.f isW
  by_cases h1:n=8
  · simp [h1]
  · by_cases h2:n=16
    · simp [h2]
    · by_cases h3:n=32
      · simp [h3]
      · rw [if_neg h1,if_neg h2,if_neg h3]
        have e1:(n==8)=false:=by simpa using h1
        have e2:(n==16)=false:=by simpa using h2
        have e3:(n==32)=false:=by simpa using h3
        rw [e1,e2,e3];rfl
theorem ref_Power_l (n:Nat) (hn:n≤63):∀ (d i:Nat),i+d=n→Ev (fun k=>vr05_Power.l0 k (n:Int) ((2^i:Nat):Int) (i:Int)) ((2^n:Nat):Int)
  | 0,i,h=>by
    refine evs ?_
    simp only [vr05_Power.l0,nI_eq,if_neg (show ¬ (i:Int) < (n:Int) by omega)]
    have:i=n:=by omega
    subst this
    exact Ev.now _
  | d+1,i,h=>by
    refine evs ?_
    have hp:2^(i+1)≤2^63:=pow_le (by omega)
    rw [p63,Nat.pow_succ] at hp
    have e1:IntKind.u64.wrap (2*((2^i:Nat):Int))=((2^(i+1):Nat):Int):=by
      rw [Nat.pow_succ]
      generalize 2^i=z at *
      rw [u64_of (by omega) (by omega)];omega
    have e2:wrap64 ((i:Int)+1)=((i+1:Nat):Int):=by rw [w64 (by omega) (by omega)];omega
    simp only [vr05_Power.l0,nI_eq,if_pos (show (i:Int) < (n:Int) by omega),e1,e2]
    exact ref_Power_l n hn d (i+1) (by omega)
theorem ref_Power_eq {n:Nat} (hn:n≤63):Ev (fun k=>vr05_Power.f k (n:Int)) ((2^n:Nat):Int):=by
  unfold vr05_Power.f
  exact ref_Power_l n hn n 0 (by omega)
theorem ref_Sound_eq (kd:Int) (ng:Bool) (sc hi lo:Int) (rs:Bool):vr07_Sound.f kd ng sc hi lo rs=some (soundE kd ng sc hi lo rs):=by
  unfold vr07_Sound.f soundE
  by_cases h0:kd=0
  · subst h0;simp
  · by_cases h2:kd=2
    · subst h2;simp
    · by_cases h1:kd=1
      · subst h1
        by_cases a:hi≥9223372036854775808
        · by_cases b:sc ≥ -1099511627776
          · simp [a,b]
          · simp [a,b]
        · simp [a]
      · simp [h0,h1,h2]
theorem ref_left_eq {s:ByteArray} {D X:Nat} (h:BT s D X) (hD:0 < D) (hD2:D < 100000) (R:Bool):Ev (fun k=>vr07_left.f k s R) (lft X D R):=by
  have hs:=h.size
  have hne:¬ s.toList=([]:List UInt8):=by
    rw [ByteArray.toList_eq]
    intro e
    have:=h.len
    rw [e] at this;simp at this;omega
  unfold vr07_left.f
  simp only [if_neg (show ¬ (s.toList==([]:List UInt8))=true by simpa using hne)]
  refine evs ?_
  simp only [vr07_left.j0,nI_eq,if_pos (show 1≤(s.size:Int) by omega)]
  have p:=(h.parts 1 (by omega)).2
  have hb:=h.bit (i:=0) (by omega)
  rw [Nat.sub_zero] at hb
  have hb':bt s 0=_:=hb
  have hlt:=h.lt
  obtain ⟨d,rfl⟩:∃ d,D=d+1:=⟨D - 1,by omega⟩
  rw [Nat.add_sub_cancel] at hb' p
  refine Ev.bind (some_eq p (by omega)) ?_
  simp only [if_pos (show (0:Int) < (s.size:Int) by omega),hb']
  have hz:X / 2^d < 2:=by
    rw [Nat.div_lt_iff_lt_mul (two_pos d)]
    rw [Nat.pow_succ] at hlt;omega
  rw [Nat.mod_eq_of_lt hz]
  have hm:=Nat.div_add_mod X (2^d)
  have hml:=Nat.mod_lt X (two_pos d)
  unfold lft
  rw [Nat.pow_succ]
  generalize X%2^d=Y at *
  have hb2:X / 2^d=0∨X / 2^d=1:=by
    revert hz;generalize X / 2^d=w;intro hz;omega
  rcases hb2 with hb2 | hb2
  · rw [hb2] at hm hb' ⊢
    rw [Nat.mul_zero] at hm
    generalize 2^d=Z at *
    simp only [if_neg (show ¬ (48:Int)+((0:Nat):Int)=49 by decide)]
    refine evs ?_
    simp only [vr07_left.j1,nI_eq,Bool.false_eq_true,if_false,if_pos (show (0:Int) < (s.size:Int) by omega),hb',if_neg (show ¬ (48:Int)+((0:Nat):Int)=49 by decide)]
    refine evn ?_
    by_cases y:Y=0
    · rw [if_neg (by simp [y]),if_neg (show ¬ Z*2 < 2*X by omega),if_neg (show ¬ 2*X=Z*2 by omega),if_neg (show ¬ 0 < X by omega)]
      cases R <;> rfl
    · rw [if_pos (by simp [y]),if_neg (show ¬ Z*2 < 2*X by omega),if_neg (show ¬ 2*X=Z*2 by omega),if_pos (show 0 < X by omega)]
  · rw [hb2] at hm hb' ⊢
    rw [Nat.mul_one] at hm
    generalize 2^d=Z at *
    simp only [if_pos (show (48:Int)+((1:Nat):Int)=49 by decide)]
    by_cases y:Y=0
    · simp only [if_neg (show ¬ decide (Y≠0)=true by simp [y])]
      rw [if_neg (show ¬ Z*2 < 2*X by omega),if_pos (show 2*X=Z*2 by omega)]
      refine evs ?_
      simp only [vr07_left.j1,nI_eq,if_pos (show (0:Int) < (s.size:Int) by omega),hb',if_pos (show (48:Int)+((1:Nat):Int)=49 by decide)]
      refine evn ?_
      cases R <;> rfl
    · simp only [if_pos (show decide (Y≠0)=true by simp [y])]
      rw [if_pos (show Z*2 < 2*X by omega)]
      refine evs ?_
      simp only [vr07_left.j1,nI_eq,if_true]
      exact Ev.now _
theorem ref_regime_eq {s:Int} (h0:-1000000≤s) (h1:s≤1000000):vr06_regime.f s=some (s / 4):=by
  unfold vr06_regime.f
  have q:(0≤s∧Int.tdiv s 4=s / 4)∨(s < 0∧Int.tdiv s 4=if s%4=0 then s / 4 else s / 4+1):=by
    rcases (show s < 0∨0≤s by omega) with h | h
    · right
      refine ⟨h, ?_⟩
      rw [Int.tdiv_eq_ediv]
      by_cases hd:s%4=0
      · rw [if_pos hd,if_pos (Or.inr (by omega)),Int.add_zero]
      · rw [if_neg hd,if_neg (by omega)];rfl
    · left;exact ⟨h,Int.tdiv_eq_ediv_of_nonneg h⟩
  have e:wrap64 (Int.tdiv s 4)=Int.tdiv s 4:=by
    rcases q with ⟨h,q⟩ | ⟨h,q⟩
    · rw [q,w64 (by omega) (by omega)]
    · rw [q]
      by_cases hd:s%4=0
      · rw [if_pos hd,w64 (by omega) (by omega)]
      · rw [if_neg hd,w64 (by omega) (by omega)]
  rw [e]
  rcases q with ⟨h,q⟩ | ⟨h,q⟩
  · rw [q,w64 (n:=4*(s / 4)) (by omega) (by omega),if_neg (by omega)]
  · by_cases hd:s%4=0
    · rw [if_pos hd] at q
      rw [q,w64 (n:=4*(s / 4)) (by omega) (by omega),if_neg (by omega)]
    · rw [if_neg hd] at q
      rw [q,w64 (n:=4*(s / 4+1)) (by omega) (by omega),if_pos (by omega),w64 (by omega) (by omega),Int.add_sub_cancel]
theorem ref_Head_l0 (s : Int) (q : Nat) (hq : q ≤ 1000) : ∀ (d i : Nat) (l : List Int), i + d = q + 1 → BN l i (2 ^ i - 1) →
    ∃ l',BN l' (q+1) (2^(q+1) - 1)∧∀ r,Ev (fun k=>vr06_Head.l1 k s (q:Int) l' 0) r→Ev (fun k=>vr06_Head.l0 k s (q:Int) l (i:Int)) r
  | 0,i,l,h,hl=>by
    have:i=q+1:=by omega
    subst this
    refine ⟨l,hl,fun r hr=>evs ?_⟩
    simp only [vr06_Head.l0,nI_eq,if_neg (show ¬ ((q+1:Nat):Int)≤(q:Int) by omega)]
    exact hr
  | d+1,i,l,h,hl=>by
    have hp:=two_pos i
    have hb:=BN.snoc hl 1 (by decide)
    have e:2*(2^i - 1)+1=2^(i+1) - 1:=by rw [Nat.pow_succ];omega
    rw [e] at hb
    obtain ⟨l',b,f⟩:=ref_Head_l0 s q hq d (i+1) _ (by omega) hb
    refine ⟨l',b,fun r hr=>evs ?_⟩
    have hlen:=hl.len
    have e2:wrap64 ((i:Int)+1)=((i+1:Nat):Int):=by rw [w64 (by omega) (by omega)];omega
    simp only [vr06_Head.l0,nI_eq,if_pos (show (i:Int)≤(q:Int) by omega),if_pos (show l.length < 140737488355328 by omega),e2]
    exact f r hr
theorem ref_Head_l1 (s : Int) (q : Nat) (hq : q ≤ 1000) : ∀ (d i : Nat) (l : List Int), i + d = q → BN l i 0 →
    ∃ l',BN l' q 0∧∀ r,Ev (fun k=>vr06_Head.l1 k s (-(q:Int)) l' (-(q:Int))) r→Ev (fun k=>vr06_Head.l1 k s (-(q:Int)) l (-(i:Int))) r
  | 0,i,l,h,hl=>by
    have:i=q:=by omega
    subst this
    exact ⟨l,hl,fun r hr=>hr⟩
  | d+1,i,l,h,hl=>by
    have hb:=BN.snoc hl 0 (by decide)
    obtain ⟨l',b,f⟩:=ref_Head_l1 s q hq d (i+1) _ (by omega) hb
    refine ⟨l',b,fun r hr=>evs ?_⟩
    have hlen:=hl.len
    have e2:wrap64 (-(i:Int) - 1) = -((i+1:Nat):Int):=by rw [w64 (by omega) (by omega)];omega
    simp only [vr06_Head.l1,nI_eq,if_pos (show -(i:Int) > -(q:Int) by omega),if_pos (show l.length < 140737488355328 by omega),e2]
    exact f r hr
theorem ref_Head_pos {s : Int} {q e : Nat} (h : s = 4 * (q : Int) + e) (he : e < 4) (hq : q ≤ 1000) :
    ∃ t,Ev (fun k=>vr06_Head.f k s) t∧BT t (q+4) ((2^(q+1) - 1)*8+e):=by
  have er:s / 4=(q:Int):=by omega
  obtain ⟨l,b,f⟩:=ref_Head_l0 s q hq (q+1) 0 [] (by omega) BN.nil
  obtain ⟨t,t1,t2⟩:=Text_eq e 2 (by omega) (by decide)
  rw [Nat.mod_eq_of_lt (show e < 2^2 by omega)] at t2
  have hb:=BN.snoc b 0 (by decide)
  have hlen:=b.len
  have hs:=hb.bt.size
  have ht:=t2.size
  refine ⟨strOfNums (l++[48])++t, ?_, ?_⟩
  · unfold vr06_Head.f
    simp only [ref_regime_eq (s:=s) (by omega) (by omega),Option.bind_some,er]
    refine f _ (evs ?_)
    have e3:IntKind.u64.wrap (wrap64 (s - wrap64 (4*(q:Int))))=(e:Int):=by
      rw [w64 (n:=4*(q:Int)) (by omega) (by omega),w64 (by omega) (by omega),u64_of (by omega) (by omega)];omega
    simp only [vr06_Head.l1,nI_eq,if_neg (show ¬ (0:Int) > (q:Int) by omega),if_pos (show (q:Int)≥0 by omega),if_pos (show l.length < 140737488355328 by omega),Option.bind_some,e3]
    refine Ev.bind t1 ?_
    have hs':(strOfNums (l++[48])).size=q+1+1:=hs
    simp only [hs',ht,if_pos (show q+1+1+2≤9223372036854775807 by omega)]
    exact Ev.now _
  · have:=hb.bt.append t2
    have e4:(2*(2^(q+1) - 1)+0)*2^2+e=(2^(q+1) - 1)*8+e:=by omega
    rw [e4] at this
    exact this
theorem ref_Head_neg {s : Int} {q e : Nat} (h : s = -(4 * (q : Int)) + e) (h0 : 0 < q) (he : e < 4) (hq : q ≤ 1000) :
    ∃ t,Ev (fun k=>vr06_Head.f k s) t∧BT t (q+3) (4+e):=by
  have er:s / 4 = -(q:Int):=by omega
  obtain ⟨l,b,f⟩:=ref_Head_l1 s q hq q 0 [] (by omega) BN.nil
  obtain ⟨t,t1,t2⟩:=Text_eq e 2 (by omega) (by decide)
  rw [Nat.mod_eq_of_lt (show e < 2^2 by omega)] at t2
  have hb:=BN.snoc b 1 (by decide)
  have hlen:=b.len
  have hs:=hb.bt.size
  have ht:=t2.size
  refine ⟨strOfNums (l++[49])++t, ?_, ?_⟩
  · unfold vr06_Head.f
    simp only [ref_regime_eq (s:=s) (by omega) (by omega),Option.bind_some,er]
    refine evs ?_
    simp only [vr06_Head.l0,nI_eq,if_neg (show ¬ (0:Int)≤-(q:Int) by omega)]
    refine f _ (evs ?_)
    have e3:IntKind.u64.wrap (wrap64 (s - wrap64 (4 * -(q:Int))))=(e:Int):=by
      rw [w64 (n:=4 * -(q:Int)) (by omega) (by omega),w64 (by omega) (by omega),u64_of (by omega) (by omega)];omega
    simp only [vr06_Head.l1,nI_eq,if_neg (show ¬ -(q:Int) > -(q:Int) by omega),if_neg (show ¬ -(q:Int)≥0 by omega),if_pos (show l.length < 140737488355328 by omega),Option.bind_some,e3]
    refine Ev.bind t1 ?_
    have hs':(strOfNums (l++[49])).size=q+1:=hs
    simp only [hs',ht,if_pos (show q+1+2≤9223372036854775807 by omega)]
    exact Ev.now _
  · have:=hb.bt.append t2
    have e4:(2*0+1)*2^2+e=4+e:=by omega
    rw [e4] at this
    exact this
theorem ref_Cut_j1 {n f : Nat} {sc : Int} {rs : Bool} {g : ByteArray} (hn : isW n = true) (hg : BT g 127 f)
    (h0:-(4*(n:Int) - 8)≤sc) (h1:sc < 4*(n:Int) - 8):
    Ev (fun k=>vr07_Cut.j2 k (n:Int) g false sc rs) ((cutP n (sig sc f):Int),cutL n (sig sc f) rs,0):=by
  obtain ⟨b64,b8⟩:=pow64 hn
  have ew:wrap64 ((n:Int) - 1)=((n - 1:Nat):Int):=by rw [w64 (by omega) (by omega)];omega
  have key : ∀ (t : ByteArray) (L X D a : Nat), Ev (fun k => vr06_Head.f k sc) t → BT t L X → L ≤ 1000 → 0 < D → L + 127 = D + (n - 1) → D + a = 201 - n → sig sc f = (X * 2 ^ 127 + f) * 2 ^ a →
      Ev (fun k=>vr07_Cut.j2 k (n:Int) g false sc rs) ((cutP n (sig sc f):Int),cutL n (sig sc f) rs,0):=by
    intro t L X D a ht hX hL hD hLD hDa hsig
    have hb:=hX.append hg
    have hp:=hb.parts (n - 1) (by omega)
    have eD:L+127 - (n - 1)=D:=by omega
    rw [eD] at hp
    have hc:=cut_of n (X*2^127+f) D a rs b64 hD hDa
    rw [hsig,hc.1,hc.2]
    refine evs ?_
    have s1:=hX.size
    have s2:=hg.size
    have s3:(t++g).size=L+127:=hb.size
    simp only [vr07_Cut.j2,nI_eq,Bool.false_eq_true,if_false]
    refine Ev.bind ht ?_
    simp only [if_pos (show t.size+g.size≤9223372036854775807 by omega),ew,if_pos (show (0:Int)≤((n - 1:Nat):Int) by omega),if_pos (show ((n - 1:Nat):Int)≤((t++g).size:Int) by omega),Int.toNat_natCast]
    exact Ev.bind (Number_eq hp.1 (by omega)) (Ev.bind (ref_left_eq hp.2 hD (by omega) rs) (Ev.now _))
  rcases scale_cases sc with ⟨q,e,hs,he⟩ | ⟨q,e,hs,hq,he⟩
  · obtain ⟨t,t1,t2⟩:=ref_Head_pos hs he (by omega)
    refine key t (q+4) _ (q+132 - n) (69 - q) t1 t2 (by omega) (by omega) (by omega) (by omega) ?_
    rw [sig_pos_eq hs he]
    generalize 2^(q+1) - 1=z
    generalize 2^(69 - q)=w
    rw [show (2:Nat)^130=8*2^127 by decide]
    generalize (2:Nat)^127=y
    grind
  · obtain ⟨t,t1,t2⟩:=ref_Head_neg hs hq he (by omega)
    refine key t (q+3) _ (q+131 - n) (70 - q) t1 t2 (by omega) (by omega) (by omega) (by omega) ?_
    rw [sig_neg_eq hs hq he]
    generalize 2^(70 - q)=w
    rw [show (2:Nat)^129=4*2^127 by decide]
    generalize (2:Nat)^127=y
    grind
theorem ref_Cut_eq {n hi lo : Nat} {kd sc : Int} {ng rs : Bool} (hn : isW n = true) (hh : hi < 18446744073709551616) (hl : lo < 18446744073709551616) (h : soundE kd ng sc hi lo rs = true) :
    Ev (fun k=>vr07_Cut.f k n kd ng sc hi lo rs) ((cutE n kd sc (hi*18446744073709551616+lo) rs).1,(cutE n kd sc (hi*18446744073709551616+lo) rs).2,0):=by
  obtain ⟨b64,b8⟩:=pow64 hn
  have ew:wrap64 ((n:Int) - 1)=((n - 1:Nat):Int):=by rw [w64 (by omega) (by omega)];omega
  have et:wrap64 (wrap64 (4*(n:Int)) - 8)=4*(n:Int) - 8:=by rw [w64 (n:=4*(n:Int)) (by omega) (by omega),w64 (by omega) (by omega)]
  have em:wrap64 (-(4*(n:Int) - 8)) = -(4*(n:Int) - 8):=w64 (by omega) (by omega)
  unfold vr07_Cut.f
  simp only [ref_Is_eq,ref_Sound_eq,hn,h,Option.bind_some,if_true]
  unfold cutE
  rcases sound_kinds h with k | k | k
  · subst k
    simp only [if_neg (show ¬ (0:Int)=1 by decide),if_neg (show ¬ (0:Int)=2 by decide),if_true]
    exact evs (Ev.now _)
  · subst k
    simp only [if_neg (show ¬ (2:Int)=1 by decide),if_neg (show ¬ (2:Int)=0 by decide),if_true,ew]
    exact Ev.bind (ref_Power_eq (by omega)) (evs (Ev.now _))
  · subst k
    obtain ⟨b0,b1,b2⟩:=sound_real h
    simp only [if_neg (show ¬ (1:Int)=2 by decide),if_neg (show ¬ (1:Int)=0 by decide),if_true]
    obtain ⟨x,x1,x2⟩:=Text_eq hi 64 hh (by decide)
    obtain ⟨y,y1,y2⟩:=Text_eq lo 64 hl (by decide)
    rw [Nat.mod_eq_of_lt (by rw [p64];exact hh)] at x2
    rw [Nat.mod_eq_of_lt (by rw [p64];exact hl)] at y2
    have xp:=(x2.parts 1 (by decide)).2
    have g:=xp.append y2
    have ef:hi%2^(64 - 1)*2^64+lo=hi*18446744073709551616+lo - 2^127:=by
      rw [p127,p64,show 64 - 1=63 from rfl,p63];omega
    rw [ef] at g
    have xs:=x2.size
    have ys:=y2.size
    have zs:=xp.size
    refine Ev.bind x1 ?_
    simp only [nI_eq,if_pos (show (1:Int)≤(x.size:Int) by omega)]
    refine Ev.bind y1 ?_
    simp only [if_pos (show (x.extract 1 x.size).size+y.size≤9223372036854775807 by omega)]
    generalize x.extract 1 x.size++y=z at g
    obtain ⟨V,hV⟩:∃ V,V=hi*18446744073709551616+lo:=⟨_,rfl⟩
    rw [← hV] at g ⊢
    have hf:V - 2^127=0↔V=2^127:=by rw [p127];omega
    have j0 : ∀ b : Bool, (b = true ↔ (V = 2 ^ 127 ∧ rs = false)) → Ev (fun k => vr07_Cut.j1 k (n : Int) z b sc rs)
        ((if 4*(n:Int) - 8≤sc then (((2^(n - 1) - 1:Nat):Int),(0:Int)) else if sc < -(4*(n:Int) - 8)∨(sc = -(4*(n:Int) - 8)∧V=2^127∧rs=false) then (1,0) else ((cutP n (sig sc (V - 2^127)):Int),cutL n (sig sc (V - 2^127)) rs)).1,
         (if 4*(n:Int) - 8≤sc then (((2^(n - 1) - 1:Nat):Int),(0:Int)) else if sc < -(4*(n:Int) - 8)∨(sc = -(4*(n:Int) - 8)∧V=2^127∧rs=false) then (1,0) else ((cutP n (sig sc (V - 2^127)):Int),cutL n (sig sc (V - 2^127)) rs)).2,0):=by
      intro b hb
      refine evs ?_
      simp only [vr07_Cut.j1,nI_eq,et,em]
      by_cases c1:sc≥4*(n:Int) - 8
      · simp only [if_pos c1,if_pos (show 4*(n:Int) - 8≤sc by omega),ew]
        refine Ev.bind (ref_Power_eq (by omega)) ?_
        have hp:2^(n - 1)≤2^63:=pow_le (by omega)
        rw [p63] at hp
        have hp0:=two_pos (n - 1)
        refine evn ?_
        rw [u64_of (by omega) (by omega)]
        congr 2;omega
      · simp only [if_neg c1,if_neg (show ¬ 4*(n:Int) - 8≤sc by omega)]
        by_cases c2:sc < -(4*(n:Int) - 8)
        · simp only [if_pos c2,if_pos (Or.inl c2:sc < -(4*(n:Int) - 8)∨(sc = -(4*(n:Int) - 8)∧V=2^127∧rs=false))]
          refine evs ?_
          simp only [vr07_Cut.j2,nI_eq,if_true]
          exact Ev.now _
        · simp only [if_neg c2]
          by_cases c3:sc = -(4*(n:Int) - 8)
          · simp only [if_pos c3]
            by_cases c4:b=true
            · have c5:=hb.mp c4
              simp only [if_pos (Or.inr ⟨c3,c5⟩:sc < -(4*(n:Int) - 8)∨(sc = -(4*(n:Int) - 8)∧V=2^127∧rs=false)),c4]
              refine evs ?_
              simp only [vr07_Cut.j2,nI_eq,if_true]
              exact Ev.now _
            · have c5:¬ (sc < -(4*(n:Int) - 8)∨(sc = -(4*(n:Int) - 8)∧V=2^127∧rs=false)):=fun hh=>hh.elim c2 (fun hh=>c4 (hb.mpr hh.2))
              have c6:b=false:=by simpa using c4
              simp only [if_neg c5,c6]
              exact ref_Cut_j1 hn g (by omega) (by omega)
          · have c5:¬ (sc < -(4*(n:Int) - 8)∨(sc = -(4*(n:Int) - 8)∧V=2^127∧rs=false)):=fun hh=>hh.elim c2 (fun hh=>c3 hh.1)
            simp only [if_neg c3,if_neg c5]
            exact ref_Cut_j1 hn g (by omega) (by omega)
    by_cases hr:rs=true
    · simp only [if_pos hr]
      refine j0 _ ?_
      simp [hr]
    · simp only [if_neg hr]
      refine Ev.bind (some_eq g (by decide)) ?_
      refine j0 _ ?_
      rw [← hf]
      simp [hr]
theorem ref_Fold_eq {n x:Nat} (h:isW n=true) (hx:x < 18446744073709551616):Ev (fun k=>vr06_Fold.f k (n:Int) (x:Int)) ((x%2^n:Nat):Int):=by
  obtain ⟨b64,b8⟩:=pow64 h
  obtain ⟨s,s1,s2⟩:=Text_eq x n hx b64
  unfold vr06_Fold.f
  refine Ev.bind (a:=(((x%2^n:Nat):Int),(0:Int))) ?_ (Ev.now _)
  unfold vr05_Fold.f
  simp only [ref_Is_eq,h,Option.bind_some,if_true]
  exact Ev.bind s1 (Ev.bind (Number_eq s2 b64) (Ev.now _))
theorem ref_Neg_eq {n x:Nat} (h:isW n=true) (hx:x < 18446744073709551616):Ev (fun k=>vr06_Neg.f k (n:Int) (x:Int)) ((negN n x:Nat):Int):=by
  unfold vr06_Neg.f
  rw [neg_wrap hx]
  exact Ev.bind (ref_Fold_eq h (Nat.mod_lt _ (by decide))) (Ev.now _)
theorem ref_Rounds_eq {n hi lo : Nat} {kd sc : Int} {ng rs : Bool} (hn : isW n = true) (hh : hi < 18446744073709551616) (hl : lo < 18446744073709551616) (h : soundE kd ng sc hi lo rs = true) :
    Ev (fun k=>vr07_Rounds.f k n kd ng sc hi lo rs) (((rnd n kd ng sc (hi*18446744073709551616+lo) rs:Nat):Int),0):=by
  obtain ⟨b64,b8⟩:=pow64 hn
  unfold vr07_Rounds.f
  refine Ev.bind (ref_Cut_eq hn hh hl h) ?_
  have hV:hi*18446744073709551616+lo < 2^128:=by rw [p128];omega
  have hb:=cutE_bounds (kd:=kd) (sc:=sc) (R:=rs) b64 b8 hV
  unfold rnd
  generalize cutE n kd sc (hi*18446744073709551616+lo) rs=c at hb
  obtain ⟨c1,c2⟩:=c
  simp only at hb
  obtain ⟨p,rfl⟩:=Int.eq_ofNat_of_zero_le hb.1
  have hp1:p≤2^(n - 1):=by omega
  have hp2:2^(n - 1)≤2^63:=pow_le (by omega)
  rw [p63] at hp2
  have e1:IntKind.u64.wrap ((p:Int)+1)=((p+1:Nat):Int):=by rw [u64_of (by omega) (by omega)];omega
  have j0 : ∀ b : Bool, (b = true ↔ (c2 = 3 ∨ (c2 = 2 ∧ p % 2 = 1))) → Ev (fun k => vr07_Rounds.j0 k (n : Int) (p : Int) b ng)
      (((if ng=true then negN n (if c2=3∨c2=2∧(p:Int).toNat%2=1 then (p:Int).toNat+1 else (p:Int).toNat) else (if c2=3∨c2=2∧(p:Int).toNat%2=1 then (p:Int).toNat+1 else (p:Int).toNat):Nat):Int),0):=by
    intro b hb
    refine evs ?_
    simp only [vr07_Rounds.j0,nI_eq,e1,Int.toNat_natCast]
    by_cases c:b=true
    · have c':=hb.mp c
      simp only [if_pos c,if_pos c']
      cases ng
      · exact Ev.now _
      · simp only [if_true]
        exact Ev.bind (ref_Neg_eq hn (by omega)) (Ev.now _)
    · have c':¬ (c2=3∨(c2=2∧p%2=1)):=fun hh=>c (hb.mpr hh)
      simp only [if_neg c,if_neg c']
      cases ng
      · exact Ev.now _
      · simp only [if_true]
        exact Ev.bind (ref_Neg_eq hn (by omega)) (Ev.now _)
  simp only [if_true]
  by_cases k3:c2=3
  · simp only [if_pos k3]
    exact j0 true (by simp [k3])
  · simp only [if_neg k3]
    by_cases k2:c2=2
    · simp only [if_pos k2]
      refine j0 _ ?_
      rw [tmod2,beq_iff_eq]
      constructor
      · intro hh;exact .inr ⟨k2,by omega⟩
      · rintro (hh | hh)
        · exact absurd hh k3
        · omega
    · simp only [if_neg k2]
      exact j0 false (by simp [k2,k3])
end Go.Proofs.YtbpcfhhcoklinaaGreat.V
namespace Go.Proofs.YtbpcfhhcoklinaaGreat.V
open Go Go.RowKit Go.Proofs.YtbpcfhhcoklinaaGreat.Ab Go.Proofs.YtbpcfhhcoklinaaGreat.Fn
def exactE (ng:Bool) (m:Nat) (e:Int) (R:Bool):Int×Bool×Int×Int×Int×Bool:=
 if m=0 then (0,false,0,0,0,false) else (1,ng,heldI (e+(bl m:Int) - 1),TH (mkV m),TL (mkV m),mkR m R)
theorem pow_eq {a b:Nat} (h:a=b):(2:Nat)^a=2^b:=by rw [h]
theorem mkV_lt {m:Nat} (hm:0 < m):mkV m < 2^128:=by
 have h1:=bl_lt m
 unfold mkV
 split
 ·rename_i h
  have:2^bl m*2^(128 - bl m)=2^128:=pow_split h
  rw [← this]
  exact Nat.mul_lt_mul_of_pos_right h1 (two_pos _)
 ·rename_i h
  rw [Nat.div_lt_iff_lt_mul (two_pos _),← Nat.pow_add]
  exact Nat.lt_of_lt_of_eq h1 (pow_eq (by omega))
theorem mkV_ge {m:Nat} (hm:0 < m):2^127≤mkV m:=by
 have h1:=bl_le hm
 have h0:=bl_pos hm
 unfold mkV
 split
 ·rename_i h
  have:2^(bl m - 1)*2^(128 - bl m)=2^127:=by rw [← Nat.pow_add];congr 1;omega
  rw [← this]
  exact Nat.mul_le_mul_right _ h1
 ·rename_i h
  rw [Nat.le_div_iff_mul_le (two_pos _),← Nat.pow_add]
  exact Nat.le_trans (Nat.le_of_eq (pow_eq (by omega))) h1
theorem T_top {V:Nat} (h:V < 2^128):((V / 2^64%18446744073709551616:Nat):Int)=TH V:=by
 unfold TH
 rw [p64,Nat.mod_eq_of_lt]
 rw [p128] at h;omega
theorem ref_Held_eq (s:Int):vr07_Held.f s=some (heldI s):=by
 unfold vr07_Held.f heldI
 by_cases h1:s < -1099511627776
 ·rw [if_pos h1,if_pos h1]
 ·rw [if_neg h1,if_neg h1]
  by_cases h2:s > 1099511627776
  ·rw [if_pos h2,if_pos (by omega)]
  ·rw [if_neg h2,if_neg (by omega)]
theorem ref_tail {s:List Int} {V:Nat} (h:DL s V) (hn:s.length≤1000) (hV:V < 2^128) {α:Type} (g:Int→Int→α):
  Ev (fun k=>(vr04_Word.f k s).bind fun a=>(vr04_Shr.f k s 64).bind fun b=>(vr04_Word.f k b).bind fun c=>some (g c a)) (g (TH V) (TL V)):=by
 obtain ⟨b,b1,b2⟩:=r4_Shr (k:=64) h (by decide) hn
 have w:=r4_Word b2
 rw [T_top hV] at w
 exact Ev.bind (r4_Word h) (Ev.bind b1 (Ev.bind w (Ev.now _)))
theorem ref_Exactly_eq {x:List Int} {m:Nat} {e:Int} {ng R:Bool} (hx:DL x m) (hn:x.length≤800) (h0:-2305843009213693952≤e) (h1:e≤2305843009213693952):
  Ev (fun k=>vr07_Exactly.f k ng x e R) (exactE ng m e R):=by
 unfold vr07_Exactly.f exactE
 refine Ev.bind (r4_Bits hx (by omega)) ?_
 by_cases hm:m=0
 ·subst hm
  rw [bl_zero]
  simp only [if_true]
  exact Ev.now _
 ·have hb:=bl_pos (x:=m) (by omega)
  have hbl:bl m≤24*x.length:=bl_W hx.lt
  have ew:wrap64 (wrap64 (e+((bl m:Nat):Int)) - 1)=e+(bl m:Int) - 1:=by
   rw [w64 (n:=e+((bl m:Nat):Int)) (by omega) (by omega),w64 (by omega) (by omega)]
  have hlt:=mkV_lt (m:=m) (by omega)
  have hne:¬ ((bl m:Nat):Int)=0:=by omega
  rw [if_neg hm]
  simp only [if_neg hne]
  simp only [ew]
  simp only [ref_Held_eq,Option.bind_some]
  clear ew
  generalize heldI (e+(bl m:Int) - 1)=sc
  by_cases h2:bl m < 128
  ·have e1:wrap64 (128 - ((bl m:Nat):Int))=((128 - bl m:Nat):Int):=by rw [w64 (by omega) (by omega)];omega
   obtain ⟨s,s1,s2⟩:=r4_Shl (k:=128 - bl m) hx (by omega) (by omega)
   simp only [if_pos (show ((bl m:Nat):Int) < 128 by omega),e1]
   clear e1
   refine Ev.bind s1 (evs ?_)
   have hv:m*2^(128 - bl m)=mkV m:=by unfold mkV;rw [if_pos (by omega)]
   rw [hv] at s2
   have hr:mkR m R=R:=by unfold mkR;rw [show bl m - 128=0 by omega,Nat.pow_zero,Nat.mod_one];simp
   have hl:s.length≤6:=s2.len_le (Nat.lt_of_lt_of_le hlt (by decide))
   simp only [vr07_Exactly.j0,nI_eq,if_neg (show ¬ ((bl m:Nat):Int) > 128 by omega),hr]
   exact ref_tail s2 (by omega) hlt (fun a b=>(1,ng,sc,a,b,R))
  ·simp only [if_neg (show ¬ ((bl m:Nat):Int) < 128 by omega)]
   refine evs ?_
   by_cases h3:bl m=128
   ·have hv:m=mkV m:=by unfold mkV;rw [if_pos (by omega),h3];simp
    have hr:mkR m R=R:=by unfold mkR;rw [show bl m - 128=0 by omega,Nat.pow_zero,Nat.mod_one];simp
    rw [hr]
    simp only [vr07_Exactly.j0,nI_eq,if_neg (show ¬ ((bl m:Nat):Int) > 128 by omega)]
    rw [← hv]
    rw [← hv] at hlt
    exact ref_tail hx (by omega) hlt (fun a b=>(1,ng,sc,a,b,R))
   ·have e1:wrap64 (((bl m:Nat):Int) - 128)=((bl m - 128:Nat):Int):=by rw [w64 (by omega) (by omega)];omega
    have hv:m / 2^(bl m - 128)=mkV m:=by unfold mkV;rw [if_neg (by omega)]
    obtain ⟨s,s1,s2⟩:=r4_Shr (k:=bl m - 128) hx (by omega) (by omega)
    rw [hv] at s2
    have hl:s.length≤6:=s2.len_le (Nat.lt_of_lt_of_le hlt (by decide))
    have j1:∀ b:Bool,Ev (fun k=>vr07_Exactly.j1 k x ((bl m:Nat):Int) 1 ng sc b) (1,ng,sc,TH (mkV m),TL (mkV m),b):=by
     intro b
     refine evs ?_
     simp only [vr07_Exactly.j1,nI_eq,e1]
     refine Ev.bind s1 ?_
     exact ref_tail s2 (by omega) hlt (fun c a=>(1,ng,sc,c,a,b))
    simp only [vr07_Exactly.j0,nI_eq,if_pos (show ((bl m:Nat):Int) > 128 by omega),e1]
    refine Ev.bind (r4_Low (k:=bl m - 128) hx (by omega) (by omega)) ?_
    cases R
    ·simp only [Bool.false_eq_true,if_false]
     exact j1 _
    ·simp only [if_true]
     exact j1 true
end Go.Proofs.YtbpcfhhcoklinaaGreat.V
namespace Go.Proofs.YtbpcfhhcoklinaaGreat.V
open Go Go.RowKit Go.Proofs.YtbpcfhhcoklinaaGreat.Ab Go.Proofs.YtbpcfhhcoklinaaGreat.Fn
structure NM where
 kd:Int
 ng:Bool
 sc:Int
 fr:Nat
structure EX where
 kd:Int
 ng:Bool
 sc:Int
 V:Nat
 R:Bool
def NM.ok (x:NM):Prop:=soundN x.kd x.ng x.sc (x.fr:Int)=true∧x.fr < 18446744073709551616
def EX.zero:EX:=⟨0,false,0,0,false⟩
def EX.nar:EX:=⟨2,false,0,0,false⟩
def EX.ok (x:EX):Prop:=x=EX.zero∨x=EX.nar∨(x.kd=1∧2^127≤x.V∧x.V < 2^128∧-1099511627776≤x.sc∧x.sc≤1099511627776)
theorem EX.ok_lt {x:EX} (h:x.ok):x.V < 2^128:=by
 rcases h with rfl | rfl | h
 ·exact two_pos 128
 ·exact two_pos 128
 ·exact h.2.2.1
theorem EX.ok_sound {x:EX} (h:x.ok):soundE x.kd x.ng x.sc (TH x.V) (TL x.V) x.R=true:=by
 rcases h with rfl | rfl | ⟨h1,h2,h3,h4,h5⟩
 ·rfl
 ·rfl
 ·unfold soundE
  rw [if_neg (by omega)]
  refine decide_eq_true ⟨h1, ?_,h4,h5⟩
  unfold TH
  rw [p127] at h2
  omega
def EX.rnd (n:Nat) (x:EX):Nat:=V.rnd n x.kd x.ng x.sc x.V x.R
theorem heldI_bounds (s:Int):-1099511627776≤heldI s∧heldI s≤1099511627776:=by
 unfold heldI
 repeat' split
 all_goals omega
def natX (ng:Bool) (m:Nat) (e:Int) (R:Bool):EX:=if m=0 then EX.zero else ⟨1,ng,heldI (e+(bl m:Int) - 1),mkV m,mkR m R⟩
theorem natX_ok (ng:Bool) (m:Nat) (e:Int) (R:Bool):(natX ng m e R).ok:=by
 unfold natX
 by_cases h:m=0
 ·rw [if_pos h];exact .inl rfl
 ·rw [if_neg h]
  have hb:=heldI_bounds (e+(bl m:Int) - 1)
  exact .inr (.inr ⟨rfl,mkV_ge (by omega),mkV_lt (by omega),hb.1,hb.2⟩)
theorem exactE_natX (ng:Bool) (m:Nat) (e:Int) (R:Bool):exactE ng m e R=((natX ng m e R).kd,(natX ng m e R).ng,(natX ng m e R).sc,TH (natX ng m e R).V,TL (natX ng m e R).V,(natX ng m e R).R):=by
 unfold exactE natX
 by_cases h:m=0
 ·rw [if_pos h,if_pos h];rfl
 ·rw [if_neg h,if_neg h]
def decN (n x:Nat):NM:=if x=0 then ⟨0,false,0,0⟩ else if x=2^(n - 1) then ⟨2,false,0,0⟩ else ⟨1,decide (2^(n - 1) < x),decS (n - 1) (magN n x),decFr (n - 1) (magN n x)⟩
theorem decE_N (n x:Nat):decE n x=((decN n x).kd,(decN n x).ng,(decN n x).sc,((decN n x).fr:Int),none):=by
 unfold decE decN
 by_cases h0:x=0
 ·rw [if_pos h0,if_pos h0];rfl
 ·rw [if_neg h0,if_neg h0]
  by_cases h1:x=2^(n - 1)
  ·rw [if_pos h1,if_pos h1];rfl
  ·rw [if_neg h1,if_neg h1]
theorem decN_ok {n x:Nat} (h8:8≤n) (hn:n≤64) (hx:x < 2^n):(decN n x).ok:=by
 unfold decN
 by_cases h0:x=0
 ·rw [if_pos h0];exact ⟨rfl,by decide⟩
 ·rw [if_neg h0]
  by_cases h1:x=2^(n - 1)
  ·rw [if_pos h1];exact ⟨rfl,by decide⟩
  ·rw [if_neg h1]
   have hm:=magN_bounds (by omega) hx h0 h1
   refine ⟨dec_soundN h8 hn hm.1 hm.2, ?_⟩
   have:=(decFr_range (dLf_le (m:=n - 1) (w:=magN n x) (by omega))).2
   rw [p64] at this
   exact this
def NM.ex (a:NM):EX:=⟨a.kd,a.ng,a.sc,a.fr*18446744073709551616,false⟩
theorem NM.cases {x:NM} (h:x.ok):x=⟨0,false,0,0⟩∨x=⟨2,false,0,0⟩∨(x.kd=1∧2^63≤x.fr∧x.fr < 2^64∧-1073741824≤x.sc∧x.sc≤1073741824):=by
 obtain ⟨h1,h2⟩:=h
 obtain ⟨kd,ng,sc,fr⟩:=x
 unfold soundN at h1
 simp only at h1 h2 ⊢
 split at h1
 ·rename_i hk
  have:ng=false∧sc=0∧fr=0:=by simpa using h1
  obtain ⟨rfl,rfl,rfl⟩:=this
  rcases hk with rfl | rfl
  ·exact .inl rfl
  ·exact .inr (.inl rfl)
 ·have:=of_decide_eq_true h1
  rw [p63,p64]
  exact .inr (.inr (by omega))
theorem NM.ex_ok {x:NM} (h:x.ok):x.ex.ok:=by
 rcases NM.cases h with rfl | rfl | ⟨h1,h2,h3,h4,h5⟩
 ·exact .inl rfl
 ·exact .inr (.inl rfl)
 ·refine .inr (.inr ⟨h1, ?_, ?_, ?_, ?_⟩)
  ·show 2^127≤x.fr*18446744073709551616
   rw [p127];rw [p63] at h2;omega
  ·show x.fr*18446744073709551616 < 2^128
   rw [p128];rw [p64] at h3;omega
  ·show -1099511627776≤x.sc
   omega
  ·show x.sc≤1099511627776
   omega
theorem NM.ex_tup (x:NM) (h:x.ok):TH x.ex.V=(x.fr:Int)∧TL x.ex.V=0:=by
 have:=h.2
 unfold NM.ex TH TL
 simp only
 omega
theorem Round_X {n:Nat} {x:EX} (h:isW (n:Int)=true) (hx:x.ok):Ev (fun k=>round_Round.f k (n:Int) x.kd x.ng x.sc (TH x.V) (TL x.V) x.R) (((x.rnd n:Nat):Int),none):=by
 have hl:=EX.ok_lt hx
 have hs:=EX.ok_sound hx
 rw [p128] at hl
 have:=round_Round_eq (n:=n) (hi:=x.V / 18446744073709551616) (lo:=x.V%18446744073709551616) h (by omega) (by omega) hs
 rw [show x.V / 18446744073709551616*18446744073709551616+x.V%18446744073709551616=x.V by omega] at this
 exact this
theorem ref_Rounds_X {n:Nat} {x:EX} (h:isW (n:Int)=true) (hx:x.ok):Ev (fun k=>vr07_Rounds.f k (n:Int) x.kd x.ng x.sc (TH x.V) (TL x.V) x.R) (((x.rnd n:Nat):Int),0):=by
 have hl:=EX.ok_lt hx
 have hs:=EX.ok_sound hx
 rw [p128] at hl
 have:=ref_Rounds_eq (n:=n) (hi:=x.V / 18446744073709551616) (lo:=x.V%18446744073709551616) h (by omega) (by omega) hs
 rw [show x.V / 18446744073709551616*18446744073709551616+x.V%18446744073709551616=x.V by omega] at this
 exact this
theorem ref_Round_X {n:Nat} {x:EX} (h:isW (n:Int)=true) (hx:x.ok):Ev (fun k=>vr07_Round.f k (n:Int) x.kd x.ng x.sc (TH x.V) (TL x.V) x.R) ((x.rnd n:Nat):Int):=by
 unfold vr07_Round.f
 exact Ev.bind (ref_Rounds_X h hx) (Ev.now _)
theorem EX.rnd_lt {n:Nat} {x:EX} (h8:8≤n) (hn:n≤64) (hx:x.ok):x.rnd n < 2^n:=by
 have key:V.rnd n x.kd false x.sc x.V x.R≤2^(n - 1):=by
  rcases hx with rfl | rfl | ⟨h1,h2,h3,h4,h5⟩
  ·unfold V.rnd cutE EX.zero;simp
  ·unfold V.rnd cutE EX.nar;simp
  ·rw [h1,rnd_pos h8 hn h3 h2]
   exact Nat.le_trans (posP_bounds (n:=n) (s:=x.sc) (R:=x.R) h8 hn h3).2 (Nat.sub_le _ _)
 have h2:=two_halves (n:=n) (by omega)
 have hp:=two_pos (n - 1)
 unfold EX.rnd
 cases hng:x.ng
 ·exact Nat.lt_of_le_of_lt key (pow_lt (by omega))
 ·rw [rnd_neg]
  unfold negN
  exact Nat.mod_lt _ (two_pos n)
theorem Decode_N {n p:Nat} (h:isW (n:Int)=true) (hp:p < 18446744073709551616):
  Ev (fun k=>codec_Decode.f k (n:Int) (p:Int)) ((decN n (p%2^n)).kd,(decN n (p%2^n)).ng,(decN n (p%2^n)).sc,((decN n (p%2^n)).fr:Int),none):=by
 rw [← decE_N];exact Decode_eq h hp
end Go.Proofs.YtbpcfhhcoklinaaGreat.V
namespace Go.Proofs.YtbpcfhhcoklinaaGreat.V
open Go Go.RowKit Go.Proofs.YtbpcfhhcoklinaaGreat.Ab
def negP (n x:Nat):Nat:=if x=0 then 0 else 2^n - x
theorem negP_negP {n x:Nat} (hx:x < 2^n):negP n (negP n x)=x:=by
 unfold negP
 by_cases h:x=0
 ·simp [h]
 ·rw [if_neg h,if_neg (by omega)];omega
theorem negN_mod {n p:Nat} (hn:n≤64) (hp:p < 18446744073709551616):negN n p=negP n (p%2^n):=by
 unfold negN negP
 have s:(18446744073709551616:Nat)=2^n*2^(64 - n):=by rw [pow_split hn,p64]
 have hd:=Nat.div_add_mod p (2^n)
 have hl:=Nat.mod_lt p (two_pos n)
 have hq:p / 2^n < 2^(64 - n):=by rw [Nat.div_lt_iff_lt_mul (two_pos n),Nat.mul_comm,← s];exact hp
 rw [show (18446744073709551616 - p)%18446744073709551616%2^n=(18446744073709551616 - p)%2^n by
  rw [s,Nat.mod_mul_right_mod]]
 generalize p%2^n=r at *
 generalize p / 2^n=q at *
 obtain ⟨c,hc⟩:∃ c,2^(64 - n)=q+c+1:=⟨2^(64 - n) - q - 1,by omega⟩
 by_cases h:r=0
 ·rw [if_pos h]
  have:18446744073709551616 - p=2^n*(c+1):=by
   have:2^n*(q+c+1)=2^n*q+2^n*(c+1):=by grind
   rw [s,hc];omega
  rw [this,Nat.mul_mod_right]
 ·rw [if_neg h]
  have:18446744073709551616 - p=(2^n - r)+2^n*c:=by
   have:2^n*(q+c+1)=2^n*q+2^n*c+2^n:=by grind
   rw [s,hc];omega
  rw [this,Nat.add_mul_mod_self_left,Nat.mod_eq_of_lt (by omega)]
def NM.neg (a:NM):NM:=if a.kd=1 then ⟨a.kd, !a.ng,a.sc,a.fr⟩ else a
def EX.neg (a:EX):EX:=if a.kd=1 then ⟨a.kd, !a.ng,a.sc,a.V,a.R⟩ else a
theorem EX.rnd_zero (n:Nat):EX.zero.rnd n=0:=by unfold EX.zero EX.rnd V.rnd cutE;simp
theorem EX.rnd_nar (n:Nat):EX.nar.rnd n=2^(n - 1):=by
 unfold EX.nar EX.rnd V.rnd cutE;simp
 rw [pow_cast];exact Int.toNat_natCast _
theorem EX.rnd_neg {n:Nat} {x:EX} (h8:8≤n) (hn:n≤64) (hx:x.ok):x.neg.rnd n=negP n (x.rnd n):=by
 have h2:=two_halves (n:=n) (by omega)
 have hp:=two_pos (n - 1)
 have h64:2^n≤18446744073709551616:=by rw [← p64];exact pow_le hn
 have hx':=hx
 rcases hx with rfl | rfl | ⟨h1,h2,h3,h4,h5⟩
 ·rw [show EX.zero.neg=EX.zero from rfl,EX.rnd_zero];rfl
 ·rw [show EX.nar.neg=EX.nar from rfl,EX.rnd_nar];unfold negP;rw [if_neg (by omega)];omega
 ·obtain ⟨kd,ng,sc,U,R⟩:=x
  simp only at h1
  subst h1
  have hb:V.rnd n 1 false sc U R < 2^n:=EX.rnd_lt (x:=⟨1,false,sc,U,R⟩) h8 hn (.inr (.inr ⟨rfl,h2,h3,h4,h5⟩))
  have e:negN n (V.rnd n 1 false sc U R)=negP n (V.rnd n 1 false sc U R):=by
   rw [negN_mod hn (by omega),Nat.mod_eq_of_lt hb]
  cases ng
  ·show V.rnd n 1 true sc U R=negP n (V.rnd n 1 false sc U R)
   rw [V.rnd_neg,e]
  ·show V.rnd n 1 false sc U R=negP n (V.rnd n 1 true sc U R)
   rw [V.rnd_neg,e,negP_negP hb]
end Go.Proofs.YtbpcfhhcoklinaaGreat.V
namespace Go.Proofs.YtbpcfhhcoklinaaGreat.V
open Go Go.RowKit Go.Proofs.YtbpcfhhcoklinaaGreat.Ab
def EX.sg (x:EX):Int:=if x.kd=1 then (if x.ng then -1 else 1) else 0
def lmE (s:Int) (V:Nat) (R:Bool) (t:Int) (U:Nat) (Q:Bool):Prop:=s < t∨(s=t∧(V < U∨(V=U∧bR R≤bR Q)))
theorem lmE_refl (s:Int) (V:Nat) (R:Bool):lmE s V R s V R:=by unfold lmE;omega
def EX.le (x y:EX):Prop:=x.sg < y.sg∨(x.sg=y.sg∧((x.sg=1→lmE x.sc x.V x.R y.sc y.V y.R)∧(x.sg = -1→lmE y.sc y.V y.R x.sc x.V x.R)))
theorem EX.le_refl (x:EX):x.le x:=.inr ⟨rfl,fun _=>lmE_refl _ _ _,fun _=>lmE_refl _ _ _⟩
def EX.num (x:EX):Prop:=x=EX.zero∨(x.kd=1∧2^127≤x.V∧x.V < 2^128∧-1099511627776≤x.sc∧x.sc≤1099511627776)
theorem EX.num.ok {x:EX} (h:x.num):x.ok:=h.elim .inl (fun h=>.inr (.inr h))
theorem rkN_inj {n x y:Nat} (hx:x < 2^n) (hy:y < 2^n) (h:rkN n x=rkN n y):x=y:=by
 unfold rkN at h
 split at h <;> split at h <;> omega
end Go.Proofs.YtbpcfhhcoklinaaGreat.V
namespace Go.Proofs.YtbpcfhhcoklinaaGreat.V
open Go Go.RowKit Go.Proofs.YtbpcfhhcoklinaaGreat.Ab Go.Proofs.YtbpcfhhcoklinaaGreat.Fn
theorem w_succ4 {t:Nat} (hb:t < 4611686018427387904):wrap64 ((t:Int)+1)=((t+1:Nat):Int):=by
 rw [w64 (by omega) (by omega)];omega
theorem dLf_le63 {m w:Nat} (h:m≤63):dLf m w≤63:=by unfold dLf dL1;omega
theorem ref_Kind_eq {n x:Nat} (h:isW (n:Int)=true) (hx:x < 18446744073709551616):Ev (fun k=>vr05_Kind.f k (n:Int) (x:Int)) (if x%2^n=0 then 0 else if x%2^n=2^(n - 1) then 2 else 1,0):=by
 obtain ⟨b64,b8⟩:=pow64 h
 obtain ⟨s,s1,s2⟩:=Text_eq x n hx b64
 unfold vr05_Kind.f
 refine Ev.bind (a:=(((x%2^n:Nat):Int),(0:Int))) ?_ ?_
 ·unfold vr05_Fold.f
  simp only [ref_Is_eq,h,Option.bind_some,if_true]
  exact Ev.bind s1 (Ev.bind (Number_eq s2 b64) (Ev.now _))
 ·simp only [if_true]
  by_cases h0:x%2^n=0
  ·simp only [h0,if_true,if_pos (show ((0:Nat):Int)=0 from rfl)]
   exact Ev.now _
  ·simp only [if_neg h0,if_neg (show ¬ ((x%2^n:Nat):Int)=0 by omega)]
   have ew:wrap64 ((n:Int) - 1)=((n - 1:Nat):Int):=by rw [w64 (by omega) (by omega)];omega
   rw [ew]
   refine Ev.bind (ref_Power_eq (by omega)) (evn ?_)
   by_cases h1:x%2^n=2^(n - 1)
   ·rw [if_pos h1,if_pos (by rw [h1])]
   ·rw [if_neg h1,if_neg (show ¬ ((x%2^n:Nat):Int)=((2^(n - 1):Nat):Int) from fun h=>h1 (Int.ofNat.inj h))]
theorem ones_bit {r j:Nat} (h:j < r):(2^r - 1) / 2^j%2=1:=by
 have a:=Nat.testBit_two_pow_sub_one r j
 rw [Nat.testBit_eq_decide_div_mod_eq,decide_eq_true h] at a
 exact of_decide_eq_true a
theorem run_bits {m w:Nat} (h1:1≤m) (hw0:0 < w) (hw:w < 2^m):
  (∀ i,i < runL m w→w / 2^(m - 1 - i)%2=if runO m w then 1 else 0)∧(runL m w < m→w / 2^(m - 1 - runL m w)%2≠if runO m w then 1 else 0)∧1≤runL m w∧runL m w≤m:=by
 by_cases ho:2^(m - 1)≤w
 ·have eo:runO m w=true:=by unfold runO;exact decide_eq_true ho
  obtain ⟨r,l,A,t,e1,e2,r1,r2,hl,hwe,ht,hA⟩:=run_ones h1 hw ho
  rw [e1,eo]
  simp only [if_true]
  rcases hA with ⟨hr,hA⟩ | ⟨hr,hl0,hA,ht0⟩
  ·have hd:w / 2^l=A:=by rw [hwe,Nat.add_comm,Nat.add_mul_div_right _ _ (two_pos l),Nat.div_eq_of_lt ht,Nat.zero_add]
   refine ⟨fun i hi=>?_,fun _=>?_,r1,r2⟩
   ·have:w / 2^(m - 1 - i)=(2^r - 1) / 2^(r - 1 - i):=by
     have e:2^(m - 1 - i)=2^l*(2^1*2^(r - 1 - i)):=by rw [← Nat.pow_add,← Nat.pow_add];exact pow_congr (by omega)
     rw [e,← Nat.div_div_eq_div_mul,hd,← Nat.div_div_eq_div_mul,hA]
     congr 1
     omega
    rw [this];exact ones_bit (by omega)
   ·rw [show m - 1 - r=l by omega,hd,hA];omega
  ·have hww:w=2^m - 1:=by rw [hwe,hl0,hA,ht0];simp
   refine ⟨fun i hi=>?_,fun h=>absurd h (by omega),r1,r2⟩
   rw [hww];exact ones_bit (by omega)
 ·have eo:runO m w=false:=by unfold runO;exact decide_eq_false ho
  obtain ⟨r,l,t,e1,e2,r1,r2,hl,hwe,ht⟩:=run_noughts h1 hw0 ho
  rw [e1,eo]
  simp only [Bool.false_eq_true,if_false]
  refine ⟨fun i hi=>?_,fun _=>?_,r1,by omega⟩
  ·have:2^(l+1)≤2^(m - 1 - i):=pow_le (by omega)
   have e:2^(l+1)=2*2^l:=by rw [Nat.pow_succ];omega
   rw [Nat.div_eq_of_lt (by omega)]
  ·rw [show m - 1 - r=l by omega]
   have hd:w / 2^l=1:=by rw [hwe,Nat.add_comm,Nat.add_mul_div_right _ _ (two_pos l),Nat.div_eq_of_lt ht]
   rw [hd];decide
theorem top_bit {m w:Nat} (h1:1≤m) (hw:w < 2^m):w / 2^(m - 1)%2=if 2^(m - 1)≤w then 1 else 0:=by
 have e:=two_halves h1
 have hp:=two_pos (m - 1)
 by_cases h:2^(m - 1)≤w
 ·rw [if_pos h]
  have:w / 2^(m - 1)=1:=by
   rw [show w=(w - 2^(m - 1))+2^(m - 1) by omega,Nat.add_div_right _ hp,Nat.div_eq_of_lt (by omega)]
  rw [this]
 ·rw [if_neg h,Nat.div_eq_of_lt (by omega)]
theorem ref_run_l0 {s:ByteArray} {m w:Nat} (hs:BT s m w) (h1:1≤m) (hm:m≤100) (hw0:0 < w):∀ (d i:Nat),i+d=runL m w→Ev (fun k=>vr06_run.l0 k s (i:Int)) ((runL m w:Nat):Int)
 | 0,i,h=>by
  obtain ⟨a,b,c,e⟩:=run_bits h1 hw0 hs.lt
  have hi:i=runL m w:=by omega
  rw [← hi] at a b c e ⊢
  refine evs ?_
  simp only [vr06_run.l0,nI_eq,hs.size]
  by_cases hl:i < m
  ·have b0:=hs.bit (i:=0) h1
   have bi:=hs.bit (i:=i) hl
   have hne:¬ bt s (i:Int)=bt s 0:=by
    rw [show bt s 0=bt s ((0:Nat):Int) from rfl,b0,bi,a 0 (by omega)]
    have:=b hl
    generalize (if runO m w=true then 1 else 0)=z at *
    omega
   simp only [if_pos (show (i:Int) < (m:Int) by omega),if_pos (show (0:Int)≤(i:Int) by omega),if_pos (show (0:Int) < (m:Int) by omega),if_neg hne]
   exact Ev.now _
  ·simp only [if_neg (show ¬ (i:Int) < (m:Int) by omega)]
   exact Ev.now _
 | d+1,i,h=>by
  obtain ⟨a,b,c,e⟩:=run_bits h1 hw0 hs.lt
  refine evs ?_
  simp only [vr06_run.l0,nI_eq,hs.size]
  have b0:=hs.bit (i:=0) h1
  have bi:=hs.bit (i:=i) (by omega)
  have heq:bt s (i:Int)=bt s 0:=by
   rw [show bt s 0=bt s ((0:Nat):Int) from rfl,b0,bi,a 0 (by omega),a i (by omega)]
  have h4:i < 4611686018427387904:=by omega
  simp only [if_pos (show (i:Int) < (m:Int) by omega),if_pos (show (0:Int)≤(i:Int) by omega),if_pos (show (0:Int) < (m:Int) by omega),if_pos heq,w_succ4 h4]
  exact ref_run_l0 hs h1 hm hw0 d (i+1) (by omega)
theorem ref_run_eq {s:ByteArray} {m w:Nat} (hs:BT s m w) (h1:1≤m) (hm:m≤100) (hw0:0 < w):Ev (fun k=>vr06_run.f k s) ((runL m w:Nat):Int):=by
 unfold vr06_run.f
 exact ref_run_l0 hs h1 hm hw0 (runL m w) 0 (by omega)
theorem ref_String_eq {n p:Nat} (h:isW (n:Int)=true) (hp:p < 18446744073709551616) (h0:p%2^n≠0) (h1:p%2^n≠2^(n - 1)):
  ∃ s,Ev (fun k=>vr06_String.f k (n:Int) (p:Int)) s∧BT s (n - 1) (magN n (p%2^n)):=by
 obtain ⟨b64,b8⟩:=pow64 h
 obtain ⟨t,t1,t2⟩:=Text_eq p n hp b64
 have hx:=Nat.mod_lt p (two_pos n)
 have b0:=t2.bit (i:=0) (by omega)
 rw [Nat.sub_zero,top_bit (by omega) hx] at b0
 have b0':bt t 0=_:=b0
 unfold vr06_String.f
 by_cases hs:2^(n - 1) < p%2^n
 ·obtain ⟨u,u1,u2⟩:=Text_eq ((18446744073709551616 - p)%18446744073709551616) n (Nat.mod_lt _ (by decide)) b64
  have hm:=(u2.parts 1 (by omega)).2
  rw [mod_pow_le (by omega),neg_mod (by omega) b64 hp hs] at hm
  refine ⟨u.extract 1 u.size, ?_, ?_⟩
  ·refine Ev.bind t1 ?_
   rw [if_pos (by omega)] at b0'
   simp only [nI_eq,t2.size,if_pos (show (0:Int) < (n:Int) by omega),b0',if_pos (show (48:Int)+((1:Nat):Int)=49 by decide),neg_wrap hp]
   refine Ev.bind u1 ?_
   simp only [nI_eq,u2.size,if_pos (show (1:Int)≤(n:Int) by omega)]
   exact Ev.now _
  ·unfold magN;rw [if_pos hs];exact hm
 ·have hm:=(t2.parts 1 (by omega)).2
  rw [Nat.mod_eq_of_lt (show p%2^n < 2^(n - 1) by omega)] at hm
  refine ⟨t.extract 1 t.size, ?_, ?_⟩
  ·refine Ev.bind t1 ?_
   rw [if_neg (by omega)] at b0'
   simp only [b0',if_neg (show ¬ (48:Int)+((0:Nat):Int)=49 by decide)]
   simp only [nI_eq,t2.size,if_pos (show (0:Int) < (n:Int) by omega),if_pos (show (1:Int)≤(n:Int) by omega)]
   exact Ev.now _
  ·unfold magN;rw [if_neg hs];exact hm
def splR (ng:Bool) (m w:Nat):Bool×Bool×Int×Int×Int×Int×Int×Int×Int:=
 (ng,runO m w,((runL m w:Nat):Int),decK m w,((dEb m w:Nat):Int),((decEx m w:Nat):Int),((dLf m w:Nat):Int),((w%2^dLf m w:Nat):Int),0)
theorem bt_lit00:BT (⟨#[48,48]⟩:ByteArray) 2 0:=by
 refine ⟨?_,rfl,rfl⟩
 intro b hb
 have:b=48:=by simpa using hb
 subst this
 exact .inl rfl
theorem bt_lit1:BT (⟨#[49]⟩:ByteArray) 1 1:=by
 refine ⟨?_,rfl,rfl⟩
 intro b hb
 have:b=49:=by simpa using hb
 subst this
 exact .inr rfl
theorem bt_lit0:BT (⟨#[48]⟩:ByteArray) 1 0:=by
 refine ⟨?_,rfl,rfl⟩
 intro b hb
 have:b=48:=by simpa using hb
 subst this
 exact .inl rfl
theorem bt_lit:BT (⟨#[]⟩:ByteArray) 0 0:=by
 refine ⟨?_,rfl,rfl⟩
 intro b hb
 simp at hb
theorem ref_Split_j2 {s:ByteArray} {l w m:Nat} {ng o:Bool} {r K:Int} (hs:BT s l (w%2^l)) (hl:l≤64) (hd:dL1 m w=l):
  Ev (fun k=>vr06_Split.j2 k s ng o r K) (ng,o,r,K,((dEb m w:Nat):Int),((decEx m w:Nat):Int),((dLf m w:Nat):Int),((w%2^dLf m w:Nat):Int),0):=by
 refine evs ?_
 simp only [vr06_Split.j2,nI_eq]
 by_cases h2:2 < l
 ·have eb:dEb m w=2:=by unfold dEb;omega
  have lf:dLf m w=l - 2:=by unfold dLf;omega
  have q1:=(hs.parts 2 (by omega)).1
  have q2:=(hs.parts 2 (by omega)).2
  have q3:=q1.append bt_lit00
  have q4:=(q3.parts 2 (by omega)).1
  rw [Nat.add_zero,show 2+2 - 2=2 by omega,Nat.mul_div_cancel _ (two_pos 2)] at q4
  have x1:w%2^l / 2^(l - 2)=decEx m w:=by
   unfold decEx
   rw [eb,lf,show (2:Nat)^l=2^(l - 2)*2^2 by rw [← Nat.pow_add];exact pow_congr (by omega),Nat.mod_mul_right_div_self]
   simp
  have x2:w%2^l%2^(l - 2)=w%2^dLf m w:=by rw [lf];exact mod_pow_le (by omega)
  rw [x1] at q4
  rw [x2] at q2
  have hx:=decEx_lt (m:=m) (w:=w)
  have s4:((s.extract 0 2)++(⟨#[48,48]⟩:ByteArray)).size=4:=q3.size
  have e3:wrap64 ((l:Int) - 2)=((l - 2:Nat):Int):=by rw [w64 (by omega) (by omega)];omega
  have e4:wrap64 ((decEx m w:Nat):Int)=((decEx m w:Nat):Int):=w64 (by omega) (by omega)
  simp only [hs.size,if_pos (show (l:Int) > 2 by omega),if_pos (show (0:Int)≤2 by decide),if_pos (show (2:Int)≤(l:Int) by omega),q1.size,if_pos (show 2+2≤9223372036854775807 by decide),s4,if_pos (show (2:Int)≤((4:Nat):Int) by decide)]
  rw [hs.size] at q2
  refine Ev.bind (Number_eq q4 (by decide)) (Ev.bind (Number_eq q2 (by omega)) ?_)
  simp only [e3,e4,eb,lf]
  exact Ev.now _
 ·have eb:dEb m w=l:=by unfold dEb;omega
  have lf:dLf m w=0:=by unfold dLf;omega
  have q1:=(hs.parts l (by omega)).1
  have q2:=(hs.parts l (by omega)).2
  have q3:=q1.append bt_lit00
  have q4:=(q3.parts 2 (by omega)).1
  rw [Nat.sub_self,Nat.pow_zero,Nat.div_one,Nat.add_zero,show l+2 - 2=l by omega] at q4
  rw [Nat.sub_self,Nat.pow_zero,Nat.mod_one] at q2
  have x1:w%2^l*2^2 / 2^l=decEx m w:=by
   unfold decEx
   rw [eb,lf,Nat.pow_zero,Nat.div_one,show (2:Nat)^2=2^(2 - l)*2^l by rw [← Nat.pow_add];exact pow_congr (by omega),← Nat.mul_assoc,Nat.mul_div_cancel _ (two_pos l)]
  rw [x1] at q4
  have hx:=decEx_lt (m:=m) (w:=w)
  have s4:((s.extract 0 l)++(⟨#[48,48]⟩:ByteArray)).size=l+2:=q3.size
  have e3:wrap64 ((l:Int) - (l:Int))=((0:Nat):Int):=by rw [w64 (by omega) (by omega)];omega
  have e4:wrap64 ((decEx m w:Nat):Int)=((decEx m w:Nat):Int):=w64 (by omega) (by omega)
  simp only [hs.size,if_neg (show ¬ (l:Int) > 2 by omega),if_pos (show (0:Int)≤(l:Int) by omega),if_pos (show (l:Int)≤(l:Int) by omega),Int.toNat_natCast,q1.size,if_pos (show l+2≤9223372036854775807 by omega),if_pos (show (0:Int)≤2 by decide),s4,if_pos (show (2:Int)≤((l+2:Nat):Int) by omega)]
  rw [hs.size] at q2
  refine Ev.bind (Number_eq q4 (by decide)) (Ev.bind (Number_eq q2 (by omega)) ?_)
  simp only [e3,e4,eb,lf,Nat.pow_zero,Nat.mod_one]
  exact Ev.now _
theorem ref_Split_eq {n p:Nat} (h:isW (n:Int)=true) (hp:p < 18446744073709551616) (h0:p%2^n≠0) (h1:p%2^n≠2^(n - 1)):
  Ev (fun k=>vr06_Split.f k (n:Int) (p:Int)) (splR (decide (2^(n - 1) < p%2^n)) (n - 1) (magN n (p%2^n))):=by
 obtain ⟨b64,b8⟩:=pow64 h
 have hx:=Nat.mod_lt p (two_pos n)
 have hm:=magN_bounds (n:=n) (by omega) hx h0 h1
 obtain ⟨s,s1,s2⟩:=ref_String_eq h hp h0 h1
 obtain ⟨t,t1,t2⟩:=Text_eq p n hp b64
 unfold vr06_Split.f
 refine Ev.bind (ref_Kind_eq h hp) ?_
 simp only [if_neg h0,if_neg h1,if_true]
 refine evs ?_
 simp only [vr06_Split.j0,nI_eq,show ((1:Int) != 1)=false from rfl,Bool.false_eq_true,if_false]
 have hsz0:0 < n - 1:=by omega
 refine Ev.bind s1 ?_
 simp only [s2.size,if_pos (show (0:Int) < ((n - 1:Nat):Int) by omega)]
 refine Ev.bind t1 ?_
 generalize magN n (p%2^n)=w at *
 have hsz:0 < n - 1:=by omega
 have bt0:=t2.bit (i:=0) (by omega)
 rw [Nat.sub_zero,top_bit (by omega) hx] at bt0
 have bt0':bt t 0=_:=bt0
 have bs0:=s2.bit (i:=0) hsz
 rw [Nat.sub_zero,top_bit (by omega) hm.2] at bs0
 have bs0':bt s 0=_:=bs0
 have et:(bt t 0==49)=decide (2^(n - 1) < p%2^n):=by
  rw [bt0']
  by_cases hc:2^(n - 1)≤p%2^n
  ·rw [if_pos hc,decide_eq_true (by omega)];rfl
  ·rw [if_neg hc,decide_eq_false (by omega)];rfl
 have es:(bt s 0==49)=runO (n - 1) w:=by
  rw [bs0']
  unfold runO
  by_cases hc:2^(n - 1 - 1)≤w
  ·rw [if_pos hc,decide_eq_true hc];rfl
  ·rw [if_neg hc,decide_eq_false hc];rfl
 have es':(bt s 0=49)↔runO (n - 1) w=true:=by rw [← es,beq_iff_eq]
 simp only [t2.size,if_pos (show (0:Int) < (n:Int) by omega)]
 refine Ev.bind (ref_run_eq s2 (by omega) (by omega) hm.1) ?_
 obtain ⟨_,_,r1,r2⟩:=run_bits (m:=n - 1) (by omega) hm.1 hm.2
 have j1:∀ K:Int,K=decK (n - 1) w→Ev (fun k=>vr06_Split.j1 k s (decide (2^(n - 1) < p%2^n)) (runO (n - 1) w) ((runL (n - 1) w:Nat):Int) K) (splR (decide (2^(n - 1) < p%2^n)) (n - 1) w):=by
  intro K hK
  refine evs ?_
  simp only [vr06_Split.j1,nI_eq,s2.size]
  unfold splR
  rw [hK]
  have h4:runL (n - 1) w < 4611686018427387904:=by omega
  by_cases hl:runL (n - 1) w < n - 1
  ·have q:=(s2.parts (runL (n - 1) w+1) (by omega)).2
   have hd:dL1 (n - 1) w=n - 1 - (runL (n - 1) w+1):=by unfold dL1;omega
   rw [s2.size] at q
   simp only [if_pos (show ((runL (n - 1) w:Nat):Int) < ((n - 1:Nat):Int) by omega),w_succ4 h4,if_pos (show (0:Int)≤((runL (n - 1) w+1:Nat):Int) by omega),if_pos (show ((runL (n - 1) w+1:Nat):Int)≤((n - 1:Nat):Int) by omega),Int.toNat_natCast]
   exact ref_Split_j2 q (by omega) hd
  ·have hd:dL1 (n - 1) w=0:=by unfold dL1;omega
   simp only [if_neg (show ¬ ((runL (n - 1) w:Nat):Int) < ((n - 1:Nat):Int) by omega)]
   exact ref_Split_j2 (l:=0) (by rw [Nat.pow_zero,Nat.mod_one];exact bt_lit) (by decide) hd
 by_cases ho:runO (n - 1) w=true
 ·have ew:wrap64 (((runL (n - 1) w:Nat):Int) - 1)=decK (n - 1) w:=by
   rw [w64 (by omega) (by omega)];unfold decK;rw [if_pos ho]
  simp only [if_pos (es'.mpr ho),et,es,ew]
  exact j1 _ rfl
 ·have ew:wrap64 (-((runL (n - 1) w:Nat):Int))=decK (n - 1) w:=by
   rw [w64 (by omega) (by omega)];unfold decK;rw [if_neg ho]
  simp only [if_neg (fun h=>ho (es'.mp h)),et,es,ew]
  exact j1 _ rfl
theorem ref_Decodes_l0 {a:Int} {b:Bool} {c:Int}:∀ (d:Nat) (s:ByteArray) (L X:Nat),L+d=64→BT s L X→Ev (fun k=>vr06_Decodes.l0 k s a b c) (a,b,c,((X*2^d:Nat):Int),0)
 | 0,s,L,X,h,hs=>by
  refine evs ?_
  simp only [vr06_Decodes.l0,nI_eq,hs.size,if_neg (show ¬ (L:Int) < 64 by omega)]
  refine Ev.bind (Number_eq hs (by omega)) ?_
  rw [Nat.pow_zero,Nat.mul_one]
  exact Ev.now _
 | d+1,s,L,X,h,hs=>by
  refine evs ?_
  simp only [vr06_Decodes.l0,nI_eq,hs.size,if_pos (show (L:Int) < 64 by omega),if_pos (show L < 9223372036854775807 by omega)]
  have:=ref_Decodes_l0 (a:=a) (b:=b) (c:=c) d _ (L+1) _ (by omega) (hs.append bt_lit0)
  rw [Nat.add_zero,Nat.mul_assoc,← Nat.pow_add,Nat.add_comm 1 d] at this
  exact this
theorem ref_Decodes_eq {n p:Nat} (h:isW (n:Int)=true) (hp:p < 18446744073709551616):
  Ev (fun k=>vr06_Decodes.f k (n:Int) (p:Int)) ((decE n (p%2^n)).1,(decE n (p%2^n)).2.1,(decE n (p%2^n)).2.2.1,(decE n (p%2^n)).2.2.2.1,0):=by
 obtain ⟨b64,b8⟩:=pow64 h
 unfold vr06_Decodes.f decE
 refine Ev.bind (ref_Kind_eq h hp) ?_
 simp only [if_true]
 by_cases h0:p%2^n=0
 ·simp only [if_pos h0]
  refine evs ?_
  simp only [vr06_Decodes.j0,nI_eq,show ((0:Int) != 1)=true from rfl,if_true]
  exact Ev.now _
 ·simp only [if_neg h0]
  by_cases h1:p%2^n=2^(n - 1)
  ·simp only [if_pos h1]
   refine evs ?_
   simp only [vr06_Decodes.j0,nI_eq,show ((2:Int) != 1)=true from rfl,if_true]
   exact Ev.now _
  ·simp only [if_neg h1]
   refine evs ?_
   simp only [vr06_Decodes.j0,nI_eq,show ((1:Int) != 1)=false from rfl,Bool.false_eq_true,if_false]
   refine Ev.bind (ref_Split_eq h hp h0 h1) ?_
   have hx:=Nat.mod_lt p (two_pos n)
   have hm:=magN_bounds (n:=n) (by omega) hx h0 h1
   unfold splR
   simp only
   generalize decide (2^(n - 1) < p%2^n)=ng
   generalize magN n (p%2^n)=w at *
   have hlf:=dLf_le63 (m:=n - 1) (w:=w) (by omega)
   have hfr:=decFr_range hlf
   obtain ⟨_,s1,s2,r1,r2⟩:=dec_sig (m:=n - 1) (w:=w) (by omega) (by omega) hm.1 hm.2
   have hx4:=decEx_lt (m:=n - 1) (w:=w)
   have hq:=Nat.mod_lt w (two_pos (dLf (n - 1) w))
   have hq2:w%2^dLf (n - 1) w < 18446744073709551616:=by
    have:=Nat.mod_le w (2^dLf (n - 1) w)
    have:2^(n - 1)≤2^63:=pow_le (by omega)
    rw [p63] at this
    omega
   obtain ⟨t,t1,t2⟩:=Text_eq (w%2^dLf (n - 1) w) (dLf (n - 1) w) hq2 (by omega)
   rw [Nat.mod_mod] at t2
   refine Ev.bind t1 ?_
   simp only [t2.size,if_pos (show 1+dLf (n - 1) w≤9223372036854775807 by omega)]
   have es:wrap64 (wrap64 (4*decK (n - 1) w)+((decEx (n - 1) w:Nat):Int))=decS (n - 1) w:=by
    unfold decS at *
    rw [w64 (n:=4*decK (n - 1) w) (by omega) (by omega),w64 (by omega) (by omega)]
   rw [es]
   have key:=ref_Decodes_l0 (a:=1) (b:=ng) (c:=decS (n - 1) w) (63 - dLf (n - 1) w) _ (1+dLf (n - 1) w) _ (by omega) (bt_lit1.append t2)
   have ef:(1*2^dLf (n - 1) w+w%2^dLf (n - 1) w)*2^(63 - dLf (n - 1) w)=decFr (n - 1) w:=by
    unfold decFr
    rw [Nat.one_mul,Nat.add_mul,pow_split hlf]
   rw [ef] at key
   exact key
theorem ref_Decode_eq {n p:Nat} (h:isW (n:Int)=true) (hp:p < 18446744073709551616):
  Ev (fun k=>vr06_Decode.f k (n:Int) (p:Int)) ((decE n (p%2^n)).1,(decE n (p%2^n)).2.1,(decE n (p%2^n)).2.2.1,(decE n (p%2^n)).2.2.2.1):=by
 unfold vr06_Decode.f
 exact Ev.bind (ref_Decodes_eq h hp) (Ev.now _)
end Go.Proofs.YtbpcfhhcoklinaaGreat.V
namespace Go.Proofs.YtbpcfhhcoklinaaGreat.V
open Go Go.RowKit Go.Proofs.YtbpcfhhcoklinaaGreat.Ab Go.Proofs.YtbpcfhhcoklinaaGreat.Fn
theorem ref_Decode_N {n p:Nat} (h:isW (n:Int)=true) (hp:p < 18446744073709551616):
  Ev (fun k=>vr06_Decode.f k (n:Int) (p:Int)) ((decN n (p%2^n)).kd,(decN n (p%2^n)).ng,(decN n (p%2^n)).sc,((decN n (p%2^n)).fr:Int)):=by
 have:=ref_Decode_eq h hp
 rw [decE_N] at this
 exact this
end Go.Proofs.YtbpcfhhcoklinaaGreat.V
namespace Go.Proofs.YtbpcfhhcoklinaaGreat.V
open Go Go.RowKit Go.Proofs.YtbpcfhhcoklinaaGreat.Ab Go.Proofs.YtbpcfhhcoklinaaGreat.Fn
theorem mkV_ge128 {m:Nat} (h:128≤bl m):mkV m=m / 2^(bl m - 128):=by
 unfold mkV
 by_cases h2:bl m≤128
 ·have:bl m=128:=by omega
  rw [if_pos h2,this,Nat.sub_self,Nat.pow_zero,Nat.mul_one,Nat.div_one]
 ·rw [if_neg h2]
theorem natX_zero (g:Bool) (e:Int) (R:Bool):natX g 0 e R=EX.zero:=by unfold natX;rw [if_pos rfl]
theorem natX_shift (g:Bool) (M t:Nat) (e:Int) (R:Bool):natX g (M*2^t) e R=natX g M (e+t) R:=by
 by_cases h:M=0
 ·subst h;rw [Nat.zero_mul,natX_zero,natX_zero]
 ·have hM:0 < M:=by omega
  have p:=two_pos t
  have hb:=bl_mul_pow t hM
  have hne:¬ M*2^t=0:=by rw [Nat.mul_eq_zero];omega
  unfold natX
  rw [if_neg h,if_neg hne]
  have e1:mkV (M*2^t)=mkV M:=by
   unfold mkV
   rw [hb]
   by_cases a:bl M+t≤128
   ·rw [if_pos a,if_pos (by omega),Nat.mul_assoc,← Nat.pow_add,show t+(128 - (bl M+t))=128 - bl M by omega]
   ·rw [if_neg a]
    by_cases c:bl M≤128
    ·rw [if_pos c,mul_pow_div' M (by omega),show t - (bl M+t - 128)=128 - bl M by omega]
    ·rw [if_neg c,mul_pow_div M (by omega),show bl M+t - 128 - t=bl M - 128 by omega]
  have e2:mkR (M*2^t) R=mkR M R:=by
   unfold mkR
   rw [hb]
   congr 1
   by_cases c:bl M≤128
   ·rw [show bl M - 128=0 by omega,Nat.pow_zero,Nat.mod_one]
    have:M*2^t%2^(bl M+t - 128)=0:=by
     rw [show t=(t - (bl M+t - 128))+(bl M+t - 128) by omega,Nat.pow_add,← Nat.mul_assoc]
     rw [show (t - (bl M+t - 128))+(bl M+t - 128)=t by omega]
     exact Nat.mul_mod_left _ _
    rw [this]
   ·rw [show bl M+t - 128=(bl M - 128)+t by omega,Nat.pow_add,Nat.mul_mod_mul_right]
    rw [Bool.eq_iff_iff]
    simp only [decide_eq_true_eq,ne_eq,Nat.mul_eq_zero]
    omega
  rw [e1,e2,hb]
  congr 2
  omega
theorem or_ne {u v q:Nat} (hq:0 < q):decide (u+q*v≠0)=(decide (u≠0)||decide (v≠0)):=by
 rw [Bool.eq_iff_iff]
 simp only [decide_eq_true_eq,ne_eq,Bool.or_eq_true,Nat.add_eq_zero_iff,Nat.mul_eq_zero]
 omega
theorem natX_trunc (g:Bool) {M T t:Nat} (e:Int) (R:Bool) (hT:M / 2^t=T) (h:2^127≤T):natX g M e R=natX g T (e+t) (R||decide (M%2^t≠0)):=by
 have p:=two_pos t
 have T0:0 < T:=Nat.lt_of_lt_of_le (two_pos 127) h
 have hbT:128≤bl T:=le_bl_of_le h
 have d:=Nat.div_add_mod M (2^t)
 have r:=Nat.mod_lt M p
 rw [hT] at d
 have c1:=bl_le T0
 have c2:=bl_lt T
 have hb:bl M=bl T+t:=by
  refine bl_unique (by omega) ?_ ?_
  ·rw [show bl T+t - 1=t+(bl T - 1) by omega,Nat.pow_add]
   exact Nat.le_trans (Nat.mul_le_mul_left _ c1) (by omega)
  ·rw [Nat.add_comm,Nat.pow_add]
   refine Nat.lt_of_lt_of_le ?_ (Nat.mul_le_mul_left (2^t) c2)
   rw [Nat.mul_succ]
   omega
 have hM:¬ M=0:=by
  intro h0
  rw [h0,Nat.zero_div] at hT
  omega
 have h3:128≤bl M:=by omega
 have h4:bl T+t - 128=t+(bl T - 128):=by omega
 have h5:e+((bl T+t:Nat):Int) - 1=e+(t:Int)+(bl T:Int) - 1:=by omega
 unfold natX
 rw [if_neg hM,if_neg (by omega)]
 have e1:mkV M=mkV T:=by
  rw [mkV_ge128 h3,mkV_ge128 hbT,hb,h4,← div_div_pow,hT]
 have e2:mkR M R=mkR T (R||decide (M%2^t≠0)):=by
  unfold mkR
  rw [hb,h4,Nat.pow_add,Nat.mod_mul,hT,Bool.or_assoc]
  rw [or_ne p]
 rw [e1,e2,hb,h5]
theorem natX_256 (g:Bool) {S:Nat} (e:Int) (R:Bool) (h:bl S=256):natX g S e R=⟨1,g,heldI (e+255),S / 2^128,R||decide (S%2^128≠0)⟩:=by
 unfold natX
 have h0:¬ S=0:=by rintro rfl;rw [bl_zero] at h;omega
 rw [if_neg h0,mkV_ge128 (by omega)]
 unfold mkR
 rw [h]
 congr 2
 omega
theorem natX_257 (g:Bool) {S:Nat} (e:Int) (R:Bool) (h:bl S=257):natX g S e R=⟨1,g,heldI (e+256),S / 2^129,R||decide (S%2^129≠0)⟩:=by
 unfold natX
 have h0:¬ S=0:=by rintro rfl;rw [bl_zero] at h;omega
 rw [if_neg h0,mkV_ge128 (by omega)]
 unfold mkR
 rw [h]
 congr 2
 omega
def intX (z:Int) (e:Int):EX:=natX (decide (z < 0)) z.natAbs e false
theorem intX_nat (g:Bool) (M:Nat) (e:Int):intX (if g then -(M:Int) else (M:Int)) e=natX g M e false:=by
 unfold intX
 by_cases h:M=0
 ·subst h
  cases g <;> rfl
 ·cases g
  ·simp only [if_neg (show ¬ (false=true) by decide),Int.natAbs_natCast]
   rw [decide_eq_false (by omega)]
  ·simp only [if_pos]
   rw [Int.natAbs_neg,Int.natAbs_natCast,decide_eq_true (by omega)]
def EX.val (x:EX) (e:Int):Int:=if x.ng then -((x.V*2^(x.sc - e).toNat:Nat):Int) else ((x.V*2^(x.sc - e).toNat:Nat):Int)
def sumX (x y:EX):EX:=if x.kd=2∨y.kd=2 then EX.nar else if x.kd=0 then y else if y.kd=0 then x else
 intX (x.val (min x.sc y.sc)+y.val (min x.sc y.sc)) (min x.sc y.sc - 127)
theorem sumX_comm {x y:EX} (hx:x.ok) (hy:y.ok):sumX x y=sumX y x:=by
 unfold sumX
 by_cases h:x.kd=2∨y.kd=2
 ·rw [if_pos h,if_pos h.symm]
 ·have h':¬ (y.kd=2∨x.kd=2):=fun h'=>h h'.symm
  rw [if_neg h,if_neg h']
  by_cases a:x.kd=0
  ·by_cases b:y.kd=0
   ·rw [if_pos a,if_pos b]
    have e1:x=EX.zero:=by
     rcases hx with rfl | rfl | hx
     ·rfl
     ·exact absurd a (by decide)
     ·omega
    have e2:y=EX.zero:=by
     rcases hy with rfl | rfl | hy
     ·rfl
     ·exact absurd b (by decide)
     ·omega
    rw [e1,e2]
   ·rw [if_pos a,if_neg b,if_pos a]
  ·by_cases b:y.kd=0
   ·rw [if_neg a,if_pos b,if_pos b]
   ·rw [if_neg a,if_neg b,if_neg b,if_neg a,Int.add_comm,Int.min_comm]
theorem sumX_ok {x y:EX} (hx:x.ok) (hy:y.ok):(sumX x y).ok:=by
 unfold sumX
 split
 ·exact .inr (.inl rfl)
 ·split
  ·exact hy
  ·split
   ·exact hx
   ·exact natX_ok _ _ _ _
theorem sumX_real {x y:EX} (hx:x.kd=1) (hy:y.kd=1) (h:y.sc≤x.sc) {d:Nat} (hd:(x.sc - y.sc).toNat=d):
  sumX x y=intX ((if x.ng then -((x.V*2^d:Nat):Int) else ((x.V*2^d:Nat):Int))+(if y.ng then -(y.V:Int) else (y.V:Int))) (y.sc - 127):=by
 unfold sumX EX.val
 rw [if_neg (by omega),if_neg (by omega),if_neg (by omega),show min x.sc y.sc=y.sc by omega,hd,Int.sub_self]
 simp only [Int.toNat_zero,Nat.pow_zero,Nat.mul_one]
theorem sumX_same {x y:EX} (hx:x.kd=1) (hy:y.kd=1) (h:y.sc≤x.sc) {d:Nat} (hd:(x.sc - y.sc).toNat=d) (hs:x.ng=y.ng):
  sumX x y=natX x.ng (x.V*2^d+y.V) (y.sc - 127) false:=by
 rw [sumX_real hx hy h hd,← hs,← intX_nat]
 congr 1
 generalize x.V*2^d=a
 cases x.ng
 ·simp
 ·simp;omega
theorem sumX_ge {x y:EX} (hx:x.kd=1) (hy:y.kd=1) (h:y.sc≤x.sc) {d:Nat} (hd:(x.sc - y.sc).toNat=d) (hs:x.ng≠y.ng) (hle:y.V≤x.V*2^d):
  sumX x y=natX x.ng (x.V*2^d - y.V) (y.sc - 127) false:=by
 rw [sumX_real hx hy h hd,← intX_nat]
 congr 1
 generalize x.V*2^d=a at *
 cases hg:x.ng
 ·rw [hg] at hs
  have:y.ng=true:=by cases hy':y.ng;exact absurd hy'.symm hs;rfl
  rw [this];simp;omega
 ·rw [hg] at hs
  have:y.ng=false:=by cases hy':y.ng;rfl;exact absurd hy'.symm hs
  rw [this];simp;omega
theorem sumX_lt {x y:EX} (hx:x.kd=1) (hy:y.kd=1) (h:y.sc≤x.sc) {d:Nat} (hd:(x.sc - y.sc).toNat=d) (hs:x.ng≠y.ng) (hle:x.V*2^d≤y.V):
  sumX x y=natX y.ng (y.V - x.V*2^d) (y.sc - 127) false:=by
 rw [sumX_real hx hy h hd,← intX_nat]
 congr 1
 generalize x.V*2^d=a at *
 cases hg:x.ng
 ·rw [hg] at hs
  have:y.ng=true:=by cases hy':y.ng;exact absurd hy'.symm hs;rfl
  rw [this];simp;omega
 ·rw [hg] at hs
  have:y.ng=false:=by cases hy':y.ng;rfl;exact absurd hy'.symm hs
  rw [this];simp;omega
theorem sum_cut {A B d:Nat} (a b:Nat) (hA:A=a*2^128) (hB:B=b*2^128):(a*2^d+b)*2^128 / 2^d=A+B / 2^d∧(a*2^d+b)*2^128%2^d=B%2^d:=by
 have e:(a*2^d+b)*2^128=2^d*A+B:=by subst hA hB;grind
 rw [e,Nat.mul_add_div (two_pos d),Nat.mul_add_mod]
 exact ⟨rfl,rfl⟩
theorem natX_sum (g:Bool) {a b d:Nat} (e:Int) (ha:2^127≤a):natX g (a*2^d+b) e false=natX g (a*2^128+b*2^128 / 2^d) (e - 128+d) (decide (b*2^128%2^d≠0)):=by
 obtain ⟨h1,h2⟩:=sum_cut (d:=d) a b rfl rfl
 have:=natX_shift g (a*2^d+b) 128 (e - 128) false
 rw [show e - 128+((128:Nat):Int)=e by omega] at this
 have p:=two_pos 128
 have hT:2^127≤a*2^128+b*2^128 / 2^d:=Nat.le_trans ha (Nat.le_trans (Nat.le_mul_of_pos_right a p) (Nat.le_add_right _ _))
 rw [← this,natX_trunc g (e - 128) false h1 hT,h2,Bool.false_or]
end Go.Proofs.YtbpcfhhcoklinaaGreat.V
namespace Go.Proofs.YtbpcfhhcoklinaaGreat.V
open Go Go.RowKit Go.Proofs.YtbpcfhhcoklinaaGreat.Ab Go.Proofs.YtbpcfhhcoklinaaGreat.Fn
def EX.tup (x:EX):Int×Bool×Int×Int×Int×Bool:=(x.kd,x.ng,x.sc,TH x.V,TL x.V,x.R)
theorem heldI_mx (s:Int):mx (-1099511627776) (mn s 1099511627776)=heldI s:=by
 unfold mx mn heldI
 repeat' split
 all_goals omega
theorem tail_flag {z w N:Nat} {α:Type} (f:Bool→α) (r:Bool) (low:N=z*18446744073709551616+w) (hw:w < 18446744073709551616):
  (if r=true then some (f true) else if (z:Int)=0 then some (f ((w:Int) != 0)) else some (f true))=some (f (r||decide (N≠0))):=by
 cases r
 ·rw [if_neg (by decide),Bool.false_or]
  by_cases hz:z=0
  ·rw [if_pos (by omega)]
   congr 2
   rw [Bool.eq_iff_iff]
   simp only [bne_iff_ne,decide_eq_true_eq]
   omega
  ·rw [if_neg (by omega),decide_eq_true (by omega)]
 ·rw [if_pos rfl,Bool.true_or]
theorem Sum_end {x y z w N:Nat} (h:W4 x y z w N) {g r:Bool} {s:Int} (hs0:-1099511627776≤s) (hs1:s≤1099511627776):
  Ev (fun k=>if (((x:Int)==0)&&(((y:Int)==0)&&(((z:Int)==0)&&((w:Int)==0))))=true then (some (0,false,0,0,0,false)) else ((broad_wide_raised.f k (x:Int) (y:Int) (z:Int) (w:Int)).bind fun t106=>(if r=true then (some (1,g,mx (-1099511627776) (mn (wrap64 (s - t106.2.2.2.2)) 1099511627776),t106.1,t106.2.1,true)) else (if t106.2.2.1=0 then (some (1,g,mx (-1099511627776) (mn (wrap64 (s - t106.2.2.2.2)) 1099511627776),t106.1,t106.2.1,t106.2.2.2.1 != 0)) else (some (1,g,mx (-1099511627776) (mn (wrap64 (s - t106.2.2.2.2)) 1099511627776),t106.1,t106.2.1,true))))))
  (natX g N (s - 255) r).tup:=by
 have h0:=h.eq0
 by_cases hN:N=0
 ·have hc:(((x:Int)==0)&&(((y:Int)==0)&&(((z:Int)==0)&&((w:Int)==0))))=true:=by
   obtain ⟨rfl,rfl,rfl,rfl⟩:=h0.1 hN;rfl
  simp only [if_pos hc]
  rw [hN,natX_zero]
  exact Ev.now _
 ·have hc:¬ (((x:Int)==0)&&(((y:Int)==0)&&(((z:Int)==0)&&((w:Int)==0))))=true:=by
   intro hc
   simp only [Bool.and_eq_true,beq_iff_eq] at hc
   exact hN (h0.2 (by omega))
  simp only [if_neg hc]
  have hp:0 < N:=by omega
  obtain ⟨x',y',z',w',h',hE⟩:=raised_eq h hp
  refine Ev.bind hE (evn ?_)
  have hb:=bl_mul_pow (256 - bl N) hp
  have hl:=bl_le_of_lt h.lt
  have e1:=natX_shift g N (256 - bl N) (s - 255 - ((256 - bl N:Nat):Int)) r
  rw [show s - 255 - ((256 - bl N:Nat):Int)+((256 - bl N:Nat):Int)=s - 255 by omega,natX_256 g _ r (by omega)] at e1
  rw [← e1]
  have hh:=h'.hi
  have hs:wrap64 (s - ((256 - bl N:Nat):Int))=s - 255 - ((256 - bl N:Nat):Int)+255:=by rw [w64 (by omega) (by omega)];omega
  show (if r=true then some (1,g,mx (-1099511627776) (mn (wrap64 (s - ((256 - bl N:Nat):Int))) 1099511627776),(x':Int),(y':Int),true) else if (z':Int)=0 then some (1,g,mx (-1099511627776) (mn (wrap64 (s - ((256 - bl N:Nat):Int))) 1099511627776),(x':Int),(y':Int),(w':Int) != 0) else some (1,g,mx (-1099511627776) (mn (wrap64 (s - ((256 - bl N:Nat):Int))) 1099511627776),(x':Int),(y':Int),true))=_
  rw [tail_flag (fun b=>((1:Int),g,mx (-1099511627776) (mn (wrap64 (s - ((256 - bl N:Nat):Int))) 1099511627776),(x':Int),(y':Int),b)) r rfl h'.hd,heldI_mx,hs,hh.1,hh.2,← h'.low]
  rfl
theorem Sum_j2 {a1 a2 a3 a4 b1 b2 b3 b4 A b:Nat} (hA:W4 a1 a2 a3 a4 A) (hb:W4 b1 b2 b3 b4 b) {r g h:Bool} {s:Int} (hr:r=true→b+1≤A) (hs0:-1099511627776≤s) (hs1:s≤1099511627776):
  Ev (fun k=>broad_Sum.j2 k r ((r.toNat:Nat):Int) h (a1:Int) (a2:Int) (a3:Int) (a4:Int) (b1:Int) (b2:Int) (b3:Int) (b4:Int) 1 g s)
  (if b+r.toNat≤A then natX g (A - b - r.toNat) (s - 255) r else natX h (b - A) (s - 255) false).tup:=by
 refine evs ?_
 simp only [broad_Sum.j2]
 have r1:r.toNat≤1:=by cases r <;> decide
 obtain ⟨x,y,z,w,q,hw,q1,qe,hE⟩:=less_eq hA hb r1
 have la:=hA.lt
 have lb:=hb.lt
 have lw:=hw.lt
 refine Ev.bind (evn hE) ?_
 by_cases hq:q=0
 ·subst hq
  have hle:b+r.toNat≤A:=by omega
  simp only [if_neg (show ¬ ((0:Nat):Int)=1 by decide),if_pos hle]
  have:=Sum_end (g:=g) (r:=r) hw hs0 hs1
  rw [show n4 x y z w=A - b - r.toNat by omega] at this
  exact this
 ·have hq:q=1:=by omega
  subst hq
  have hlt:¬ b+r.toNat≤A:=by omega
  have hf:r=false:=by
   cases r
   ·rfl
   ·have:=hr rfl
    exact absurd this hlt
  subst hf
  simp only [if_pos (show ((1:Nat):Int)=1 by decide),if_neg hlt]
  obtain ⟨x',y',z',w',q',hw',q1',qe',hE'⟩:=less_eq hb hA (r:=0) (by decide)
  have lw':=hw'.lt
  have:=Sum_end (g:=h) (r:=false) hw' hs0 hs1
  have hlt':¬ b≤A:=hlt
  have hq':q'=0:=by omega
  subst hq'
  rw [show n4 x' y' z' w'=b - A by omega] at this
  exact Ev.bind (evn hE') this
theorem bl_range {n S:Nat} (h:2^n≤S) (h2:S < 2^n*2):bl S=n+1:=bl_unique (by omega) h (by rw [Nat.pow_succ];exact h2)
theorem Sum_same {a1 a2 a3 a4 b1 b2 b3 b4 A b:Nat} (hA:W4 a1 a2 a3 a4 A) (hb:W4 b1 b2 b3 b4 b) {r g:Bool} {s:Int} (h255:2^255≤A) (hs0:-1099511627776≤s) (hs1:s≤1099511627776):
  Ev (fun k=>(broad_wide_plus.f (a1:Int) (a2:Int) (a3:Int) (a4:Int) (b1:Int) (b2:Int) (b3:Int) (b4:Int)).bind fun t101=>(if t101.2.2.2.2=1 then ((broad_wide_under.f k t101.1 t101.2.1 t101.2.2.1 t101.2.2.2.1 1).bind fun t102=>(if r=true then (some ((1:Int),g,mx (-1099511627776) (mn (wrap64 (s+1)) 1099511627776),Go.bits .or .u64 t102.1 9223372036854775808,t102.2.1,true)) else (if (Go.bits .and .u64 t101.2.2.2.1 1)=1 then (some (1,g,mx (-1099511627776) (mn (wrap64 (s+1)) 1099511627776),Go.bits .or .u64 t102.1 9223372036854775808,t102.2.1,true)) else (if t102.2.2.1=0 then (some (1,g,mx (-1099511627776) (mn (wrap64 (s+1)) 1099511627776),Go.bits .or .u64 t102.1 9223372036854775808,t102.2.1,t102.2.2.2.1 != 0)) else (some (1,g,mx (-1099511627776) (mn (wrap64 (s+1)) 1099511627776),Go.bits .or .u64 t102.1 9223372036854775808,t102.2.1,true)))))) else (if r=true then (some (1,g,mx (-1099511627776) (mn s 1099511627776),t101.1,t101.2.1,true)) else (if t101.2.2.1=0 then (some (1,g,mx (-1099511627776) (mn s 1099511627776),t101.1,t101.2.1,t101.2.2.2.1 != 0)) else (some (1,g,mx (-1099511627776) (mn s 1099511627776),t101.1,t101.2.1,true))))))
  (natX g (A+b) (s - 255) r).tup:=by
 have la:=hA.lt
 have lb:=hb.lt
 obtain ⟨x,y,z,w,q,hw,hq,hE⟩:=plus_eq hA hb
 generalize hS:A+b=S at *
 refine Ev.bind (evn hE) ?_
 have sb:S < 2^256*2:=by omega
 by_cases h1:S < 2^256
 ·have q0:q=0:=by rw [hq];exact Nat.div_eq_of_lt h1
  subst q0
  rw [Nat.mod_eq_of_lt h1] at hw
  have hbl:bl S=255+1:=bl_range (by omega) (by omega)
  rw [natX_256 g _ r hbl,show s - 255+255=s by omega]
  simp only [if_neg (show ¬ ((0:Nat):Int)=1 by decide)]
  refine evn ?_
  rw [tail_flag (fun c=>((1:Int),g,mx (-1099511627776) (mn s 1099511627776),(x:Int),(y:Int),c)) r rfl hw.hd,heldI_mx,hw.hi.1,hw.hi.2,← hw.low]
  rfl
 ·have d256:=two_pos 256
  obtain ⟨S0,hS0⟩:∃ S0,S=2^256*1+S0:=⟨S - 2^256,by omega⟩
  have l0:S0 < 2^256:=by omega
  have q1:q=1:=by rw [hq,hS0,Nat.mul_add_div d256,Nat.div_eq_of_lt l0]
  subst q1
  rw [hS0,Nat.mul_add_mod,Nat.mod_eq_of_lt l0] at hw
  have hbl:bl S=256+1:=bl_range (by omega) sb
  rw [natX_257 g _ r hbl,show s - 255+256=s+1 by omega]
  simp only [if_pos (show ((1:Nat):Int)=1 by decide)]
  obtain ⟨x',y',z',w',hw',hE'⟩:=under_eq hw (s:=1) (by decide)
  refine Ev.bind hE' (evn ?_)
  have hodd:S0%2=w%2:=by
   rw [← hw.e];unfold n4;omega
  have hand:Go.bits .and .u64 (w:Int) 1=((w%2:Nat):Int):=and_mask w 1 hw.hd (by decide)
  have hx':x' < 9223372036854775808:=by
   have:=hw'.parts
   have p255:S0 / 2^1 < 2^255:=by omega
   rw [← this,show (2:Nat)^255=2^128*2^127 by decide,p127] at p255
   omega
  have hor:Go.bits .or .u64 (x':Int) 9223372036854775808=((9223372036854775808+x':Nat):Int):=by
   have:=or_nat x' 9223372036854775808 hw'.ha (by decide)
   rw [show ((9223372036854775808:Nat):Int)=9223372036854775808 from rfl] at this
   rw [this,Nat.or_comm,show (9223372036854775808:Nat)=1*2^63 by decide,or_parts (by rw [p63];exact hx')]
  have htop:S / 2^129=(9223372036854775808+x')*18446744073709551616+y':=by
   have:=hw'.top
   rw [show (2:Nat)^129=2^1*2^128 by decide,← Nat.div_div_eq_div_mul,hS0,show (2:Nat)^256*1=2^1*(2^128*170141183460469231731687303715884105728) by decide,Nat.mul_add_div (two_pos 1),Nat.mul_add_div (two_pos 128),← this]
   omega
  have hlow:decide (S%2^129≠0)=(decide (w%2≠0)||decide (z'*18446744073709551616+w'≠0)):=by
   have:=hw'.low
   rw [show (2:Nat)^129=2^1*2^128 by decide,Nat.mod_mul,or_ne (two_pos 1),hS0,show (2:Nat)^256*1=2^1*(2^128*170141183460469231731687303715884105728) by decide,Nat.mul_add_mod,Nat.mul_add_div (two_pos 1),Nat.mul_add_mod,this,Nat.pow_one,hodd]
  rw [htop,hlow,hand,hor,heldI_mx,w64 (by omega) (by omega)]
  unfold EX.tup
  simp only
  rw [TH_of hw'.hb,TL_of hw'.hb]
  cases r
  ·rw [if_neg (by decide),Bool.false_or]
   by_cases ho:w%2=0
   ·rw [if_neg (by omega),decide_eq_false (by omega),Bool.false_or]
    have:=tail_flag (z:=z') (fun c=>((1:Int),g,heldI (s+1),((9223372036854775808+x':Nat):Int),(y':Int),c)) false rfl hw'.hd
    rw [if_neg (by decide),Bool.false_or] at this
    exact this
   ·rw [if_pos (by omega),decide_eq_true (by omega),Bool.true_or]
  ·rw [if_pos rfl,Bool.true_or]
theorem dif_cut {A B P q m:Nat} (hP:0 < P) (dm:P*q+m=B) (ml:m < P) (hle:B≤P*A):
  (m=0→P*A - B=(A - q)*P)∧(m≠0→(P*A - B) / P=A - q - 1∧(P*A - B)%P≠0):=by
 constructor
 ·intro h0
  rw [← dm,h0,Nat.add_zero,← Nat.mul_sub,Nat.mul_comm]
 ·intro h0
  have hq:q < A:=by
   refine Nat.lt_of_mul_lt_mul_left (a:=P) ?_
   omega
  obtain ⟨t,rfl⟩:∃ t,A=q+1+t:=⟨A - q - 1,by omega⟩
  have e:P*(q+1+t) - B=P*t+(P - m):=by
   rw [← dm,Nat.mul_add,Nat.mul_add,Nat.mul_one]
   omega
  have hl:P - m < P:=by omega
  rw [e,Nat.mul_add_div hP,Nat.div_eq_of_lt hl,Nat.mul_add_mod,Nat.mod_eq_of_lt hl]
  omega
theorem natX_dif (g:Bool) {a b d:Nat} (e:Int) (hle:b≤a*2^d) (r:Bool) (hr:r=decide (b*2^128%2^d≠0)) (hbig:r=true→2^127≤a*2^128 - b*2^128 / 2^d - 1):
  natX g (a*2^d - b) e false=natX g (a*2^128 - b*2^128 / 2^d - r.toNat) (e - 128+d) r:=by
 have h1:=natX_shift g (a*2^d - b) 128 (e - 128) false
 rw [show e - 128+((128:Nat):Int)=e by omega] at h1
 have ec:a*2^d*2^128=2^d*(a*2^128):=by grind
 have hle':=Nat.mul_le_mul_right (2^128) hle
 rw [ec] at hle'
 rw [← h1,Nat.mul_sub_right_distrib,ec]
 obtain ⟨c1,c2⟩:=dif_cut (two_pos d) (Nat.div_add_mod (b*2^128) (2^d)) (Nat.mod_lt _ (two_pos d)) hle'
 by_cases hm:b*2^128%2^d=0
 ·have:r=false:=by rw [hr,decide_eq_false (fun h=>h hm)]
  subst this
  rw [c1 hm,natX_shift,Bool.toNat_false,Nat.sub_zero]
 ·have:r=true:=by rw [hr,decide_eq_true hm]
  subst this
  obtain ⟨c3,c4⟩:=c2 hm
  rw [natX_trunc g (e - 128) false c3 (hbig rfl),decide_eq_true c4,Bool.toNat_true,Bool.false_or]
theorem natX_dif' (g:Bool) {a b d:Nat} (e:Int) (hle:a*2^d≤b) (hm:b*2^128%2^d=0):
  natX g (b - a*2^d) e false=natX g (b*2^128 / 2^d - a*2^128) (e - 128+d) false:=by
 have h1:=natX_shift g (b - a*2^d) 128 (e - 128) false
 rw [show e - 128+((128:Nat):Int)=e by omega] at h1
 have h2:=natX_shift g (b*2^128 / 2^d - a*2^128) d (e - 128) false
 have dm:=Nat.div_add_mod (b*2^128) (2^d)
 rw [hm,Nat.add_zero,Nat.mul_comm] at dm
 rw [← h1,← h2,Nat.mul_sub_right_distrib,Nat.mul_sub_right_distrib,dm,show a*2^d*2^128=a*2^128*2^d by grind]
theorem Sum_j1 {x y:EX} (hx:x.ok) (hy:y.ok) (kx:x.kd=1) (ky:y.kd=1) (h:y.sc≤x.sc):
  Ev (fun k=>broad_Sum.j1 k x.ng x.sc (TH x.V) (TL x.V) y.ng y.sc (TH y.V) (TL y.V)) (sumX x y).tup:=by
 obtain ⟨vx,lx,s0,s1⟩:2^127≤x.V∧x.V < 2^128∧-1099511627776≤x.sc∧x.sc≤1099511627776:=by
  rcases hx with rfl | rfl | hx
  ·exact absurd kx (by decide)
  ·exact absurd kx (by decide)
  ·exact hx.2
 obtain ⟨vy,ly,t0,t1⟩:2^127≤y.V∧y.V < 2^128∧-1099511627776≤y.sc∧y.sc≤1099511627776:=by
  rcases hy with rfl | rfl | hy
  ·exact absurd ky (by decide)
  ·exact absurd ky (by decide)
  ·exact hy.2
 obtain ⟨d,hd⟩:∃ d,(x.sc - y.sc).toNat=d:=⟨_,rfl⟩
 have hd':x.sc - y.sc=(d:Int):=by omega
 refine evs ?_
 simp only [broad_Sum.j1]
 have hA:=W4.of lx
 obtain ⟨b1,b2,b3,b4,hb,hE⟩:=under_eq (W4.of ly) (s:=d) (by omega)
 have hw:wrap64 (x.sc - y.sc)=(d:Int):=by rw [w64 (by omega) (by omega)];exact hd'
 rw [hw]
 refine Ev.bind hE ?_
 have hA255:2^255≤x.V*2^128:=by
  rw [show (2:Nat)^255=2^127*2^128 by decide]
  exact Nat.mul_le_mul_right _ vx
 by_cases hs:x.ng=y.ng
 ·simp only [if_pos (beq_iff_eq.2 hs)]
  rw [sumX_same kx ky h hd hs,natX_sum x.ng _ vx,show y.sc - 127 - 128+(d:Int)=x.sc - 255 by omega]
  exact Sum_same hA hb hA255 s0 s1
 ·simp only [if_neg (fun h=>hs (beq_iff_eq.1 h):¬ (x.ng==y.ng)=true)]
  have hd':=hs
  have ms:=Nat.div_mul_le_self (y.V*2^128) (2^d)
  have key:∀ r:Bool,r=decide (y.V*2^128%2^d≠0)→(r=true→y.V*2^128 / 2^d≤2^127):=by
   intro r hr h1
   subst hr
   have hm:=of_decide_eq_true h1
   have h128:128 < d:=by
    refine Nat.lt_of_not_le fun hc=>hm ?_
    rw [← pow_split hc,Nat.mul_comm (2^d),← Nat.mul_assoc]
    exact Nat.mul_mod_left _ _
   rw [mul_pow_div y.V (Nat.le_of_lt h128)]
   have:y.V / 2^(d - 128) < 2^127:=by
    rw [Nat.div_lt_iff_lt_mul (two_pos _),← Nat.pow_add]
    exact Nat.lt_of_lt_of_le ly (pow_le (by omega))
   exact Nat.le_of_lt this
  obtain ⟨r,hr⟩:∃ r,r=decide (y.V*2^128%2^d≠0):=⟨_,rfl⟩
  have hk:=key r hr
  rw [← hr]
  have hrA:r=true→y.V*2^128 / 2^d+1≤x.V*2^128:=fun h=>by
   have:=hk h
   have:(2:Nat)^127+1≤2^255:=by decide
   omega
  have hbig:r=true→2^127≤x.V*2^128 - y.V*2^128 / 2^d - 1:=fun h=>by
   have:=hk h
   have:(2:Nat)^127+2^127+1≤2^255:=by decide
   omega
  have main:=Sum_j2 (g:=x.ng) (h:=y.ng) (r:=r) hA hb hrA s0 s1
  have hval:(if y.V*2^128 / 2^d+r.toNat≤x.V*2^128 then natX x.ng (x.V*2^128 - y.V*2^128 / 2^d - r.toNat) (x.sc - 255) r else natX y.ng (y.V*2^128 / 2^d - x.V*2^128) (x.sc - 255) false)=sumX x y:=by
   have dm:=Nat.div_add_mod (y.V*2^128) (2^d)
   have ml:=Nat.mod_lt (y.V*2^128) (two_pos d)
   by_cases hle:y.V≤x.V*2^d
   ·have hq:y.V*2^128 / 2^d+r.toNat≤x.V*2^128:=by
     cases hrr:r
     ·show y.V*2^128 / 2^d+0≤_
      rw [Nat.add_zero]
      refine Nat.le_of_lt_succ ((Nat.div_lt_iff_lt_mul (two_pos d)).2 ?_)
      rw [Nat.succ_mul]
      have:=Nat.mul_le_mul_right (2^128) hle
      rw [show x.V*2^d*2^128=x.V*2^128*2^d by grind] at this
      have:=two_pos d
      omega
     ·exact hrA hrr
    rw [if_pos hq,sumX_ge kx ky h hd hs hle,natX_dif x.ng _ hle r hr hbig,show y.sc - 127 - 128+(d:Int)=x.sc - 255 by omega]
   ·have hlt:x.V*2^d≤y.V:=by omega
    have hlt2:x.V*2^d < y.V:=by omega
    have hm:y.V*2^128%2^d=0:=by
     have h128:d≤128:=by
      refine Nat.le_of_not_lt fun hc=>?_
      have h1:2^d≤x.V*2^d:=Nat.le_mul_of_pos_left _ (Nat.lt_of_lt_of_le (two_pos 127) vx)
      have h2:=pow_lt hc
      omega
     rw [← pow_split h128,Nat.mul_comm (2^d),← Nat.mul_assoc]
     exact Nat.mul_mod_left _ _
    have hrf:r=false:=by rw [hr,decide_eq_false (fun h=>h hm)]
    subst hrf
    have he:=natX_dif' y.ng (y.sc - 127) hlt hm
    have hgt:¬ y.V*2^128 / 2^d+false.toNat≤x.V*2^128:=by
     rw [Bool.toNat_false,Nat.add_zero]
     intro hc
     have h3:=Nat.mul_le_mul_left (2^d) hc
     rw [hm,Nat.add_zero] at dm
     rw [dm] at h3
     have h4:=Nat.mul_lt_mul_of_pos_right hlt2 (two_pos 128)
     rw [show x.V*2^d*2^128=2^d*(x.V*2^128) by grind] at h4
     exact absurd h3 (Nat.not_le.2 h4)
    rw [if_neg hgt,sumX_lt kx ky h hd hs hlt,he,show y.sc - 127 - 128+(d:Int)=x.sc - 255 by omega]
  rw [← hval]
  cases r
  ·simp only [if_neg (show ¬ (false=true) by decide)];exact main
  ·simp only [if_pos];exact main
end Go.Proofs.YtbpcfhhcoklinaaGreat.V
namespace Go.Proofs.YtbpcfhhcoklinaaGreat.V
open Go Go.RowKit Go.Proofs.YtbpcfhhcoklinaaGreat.Ab Go.Proofs.YtbpcfhhcoklinaaGreat.Fn
def cmpI (x y:Int):Int:=if x < y then -1 else if x > y then 1 else 0
theorem cmpI_neg {x y:Int}:cmpI x y < 0↔x < y:=by unfold cmpI;split <;> (try split) <;> omega
end Go.Proofs.YtbpcfhhcoklinaaGreat.V
namespace Go.Proofs.YtbpcfhhcoklinaaGreat.V
open Go Go.RowKit Go.Proofs.YtbpcfhhcoklinaaGreat.Ab Go.Proofs.YtbpcfhhcoklinaaGreat.Fn
theorem order_Neg_eq {n a:Nat} (h:isW (n:Int)=true) (ha:a < 18446744073709551616):Ev (fun _=>order_Neg.f (n:Int) (a:Int)) (((negP n (a%2^n):Nat):Int),none):=by
 obtain ⟨b64,b8⟩:=pow64 h
 refine evn ?_
 unfold order_Neg.f
 rw [neg_wrap ha,shape_Fold_eq h (Nat.mod_lt _ (by decide))]
 have:=negN_mod (n:=n) b64 ha
 unfold negN at this
 rw [this]
 rfl
theorem order_Cmp_run {n a b:Nat} (h:isW (n:Int)=true) (ha:a < 18446744073709551616) (hb:b < 18446744073709551616):order_Cmp.f (n:Int) (a:Int) (b:Int)=some (cmpI (rkN n (a%2^n)) (rkN n (b%2^n)),none):=by
 unfold order_Cmp.f
 rw [shape_Rank_eq h ha,shape_Rank_eq h hb]
 simp only [Option.bind_some,Option.isNone_none,if_true]
 unfold cmpI
 split
 ·rfl
 ·split <;> rfl
end Go.Proofs.YtbpcfhhcoklinaaGreat.V
