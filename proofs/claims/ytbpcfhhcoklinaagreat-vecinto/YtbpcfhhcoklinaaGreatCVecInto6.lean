-- Written by a program of this session out of its own texts (wip/tools/link.py).
import Derived.Below
import Derived.Deep.RegionHeld3
import Derived.IntWalk
import Derived.Laws.Bits64
import Derived.Laws.BitsLemmas
import Derived.Laws.OwnMore
import Derived.OrdersHeld
import Derived.RowKit
import Derived.Test.YtbpcfhhcoklinaaGreatCVecInto4
noncomputable section
set_option linter.unusedSimpArgs false
set_option linter.unusedVariables false
namespace Go.Proofs.YtbpcfhhcoklinaaGreat.Ab
open Go Go.RowKit
theorem nI_ex (n:Nat):∃ m:Int,m=(n:Int):=⟨_,rfl⟩
def nI (n:Nat):Int:=Classical.choose (nI_ex n)
theorem nI_eq (n:Nat):nI n=(n:Int):=Classical.choose_spec (nI_ex n)
def rd (xs:List Int) (i:Int):Int:=xs.getD i.toNat 0
def bt (s:ByteArray) (i:Int):Int:=if h:i.toNat < s.size then ((s[i.toNat]'h).toNat:Int) else 0
def mx (a b:Int):Int:=if a < b then b else a
def mn (a b:Int):Int:=if b < a then b else a
def shl (k:IntKind) (x y:Int):Int:=k.wrap (x*2^min y.toNat k.bits)
def shr (k:IntKind) (x y:Int):Int:=x / 2^min y.toNat k.bits
theorem wrap_in {k:IntKind} {n:Int} (h0:kLo k≤n) (h1:n≤kHi k):k.wrap n=n:=by
  cases k <;> simp only [kLo,kHi] at h0 h1 <;> simp only [IntKind.wrap,IntKind.bits,IntKind.signed,Bool.true_and,Bool.false_and,Bool.false_eq_true,if_false] <;> (first | (split <;> simp_all <;> omega) | omega)
def wr (k:IntKind) (e:Int):Sc:=
  match k with
  | .i64=>.int .i64 (wrap64 e) none none
  | .i32=>.int .i32 (wrap32 e) none none
  | .u8=>.int .u8 (e%256) (some 0) (some 255)
  | .u32=>.int .u32 (e%4294967296) (some 0) (some 4294967295)
  | k=>.int k (k.wrap e) none none
theorem wrap_inK (k:IntKind) (n:Int):inK k (k.wrap n):=by
  cases k <;> simp only [inK,kLo,kHi,IntKind.wrap,IntKind.bits,IntKind.signed,Bool.true_and,Bool.false_and,Bool.false_eq_true,if_false] <;> (first | (split <;> simp_all <;> omega) | omega)
theorem w64 (n:Int):IntKind.i64.wrap n=wrap64 n:=by rw [IntKind.wrap_i64];unfold wrap64;rfl
theorem w32 (n:Int):IntKind.i32.wrap n=wrap32 n:=by rw [IntKind.wrap_i32];unfold wrap32;rfl
theorem wr_ok (C:Cx) (k:IntKind) (e:Int):VS C (wr k e) (.int k (k.wrap e)):=by
  have h:=wrap_inK k e
  cases k
  case i64=>rw [w64] at h ⊢;exact ⟨rfl,h,by simp,by simp⟩
  case i32=>rw [w32] at h ⊢;exact ⟨rfl,h,by simp,by simp⟩
  case u8=>rw [IntKind.wrap_u8] at h ⊢;exact ⟨rfl,h,by simp;omega,by simp;omega⟩
  case u32=>rw [IntKind.wrap_u32] at h ⊢;exact ⟨rfl,h,by simp;omega,by simp;omega⟩
  all_goals exact ⟨rfl,h,by simp,by simp⟩
def wrapped (k:IntKind) (e:Int) (lo hi:Option Int):Sc:=
  match lo,hi with
  | some a,some b=>bif decide (kLo k≤a)&&decide (b≤kHi k) then .int k e (some a) (some b) else wr k e
  | _,_=>wr k e
theorem wrapped_ok (C : Cx) (k : IntKind) (e : Int) (lo hi : Option Int) (h0 : ∀ a, lo = some a → a ≤ e) (h1 : ∀ a, hi = some a → e ≤ a) :
    VS C (wrapped k e lo hi) (.int k (k.wrap e)):=by
  unfold wrapped
  split
  · rename_i a b
    cases hc:(decide (kLo k≤a)&&decide (b≤kHi k))
    · exact wr_ok C k e
    · simp only [Bool.and_eq_true,decide_eq_true_eq] at hc
      have:=h0 a rfl
      have:=h1 b rfl
      exact ⟨by rw [wrap_in (by omega) (by omega)],⟨by omega,by omega⟩,h0,h1⟩
  · exact wr_ok C k e
def oadd:Option Int→Option Int→Option Int
  | some a,some b=>some (a+b)
  | _,_=>none
def osub:Option Int→Option Int→Option Int
  | some a,some b=>some (a - b)
  | _,_=>none
def all4 (a b c d:Option Int):Bool:=a.isSome&&b.isSome&&(c.isSome&&d.isSome)
def isLit (c:Int) (lo hi:Option Int):Bool:=
  match lo,hi with
  | some a,some b=>decide (a=c)&&decide (b=c)
  | _,_=>false
def same2 (lo hi:Option Int):Bool:=
  match lo,hi with
  | some a,some b=>decide (a=b)
  | _,_=>false
def litOf (lo hi:Option Int):Option Int:=
  match lo,hi with
  | some a,some b=>bif decide (a=b) then some a else none
  | _,_=>none
def mulB (xl xh yl yh:Option Int):Option Int×Option Int:=
  match xl,xh,yl,yh with
  | some a,some b,some c,some d=>bif decide (a=b)||decide (c=d) then (some (min (min (a*c) (a*d)) (min (b*c) (b*d))),some (max (max (a*c) (a*d)) (max (b*c) (b*d)))) else (none,none)
  | _,_,_,_=>(none,none)
def nonneg (lo:Option Int):Bool:=
  match lo with
  | some a=>decide (0≤a)
  | none=>false
def atleast1 (lo:Option Int):Bool:=
  match lo with
  | some a=>decide (1≤a)
  | none=>false
def quoF (k:IntKind) (x:Int) (xl xh:Option Int) (y:Int) (yl:Option Int):Sc:=
  bif nonneg xl then
    (match xh with
     | some b=>bif atleast1 yl&&decide (b≤kHi k) then .int k (x / y) (some 0) (some b) else wr k (x / y)
     | none=>wr k (x / y))
  else wr k (Int.tdiv x y)
def remF (k:IntKind) (x:Int) (xl:Option Int) (y:Int) (yl yh:Option Int):Sc:=
  bif nonneg xl then .int k (x%y) (some 0) (bif atleast1 yl then (match litOf yl yh with | some c=>some (c - 1) | none=>none) else none) else .int k (Int.tmod x y) none none
def shlC (k:IntKind) (x:Int) (xl xh:Option Int) (c:Nat):Sc:=
  wrapped k (x*((2^c:Nat):Int)) (xl.map (· * ((2^c:Nat):Int))) (xh.map (· * ((2^c:Nat):Int)))
def shrC (k:IntKind) (x:Int) (xl xh:Option Int) (c:Nat):Sc:=
  .int k (x / ((2^c:Nat):Int)) (xl.map (· / ((2^c:Nat):Int))) (xh.map (· / ((2^c:Nat):Int)))
def leqB (h:Option Int) (n:Nat):Bool:=
  match h with
  | some a=>decide (a≤(n:Int))
  | none=>false
def unsg (k:IntKind):Bool:=
  match k with
  | .u8 | .u16 | .u32 | .u64=>true
  | _=>false
def shlV (k:IntKind) (x:Int) (xl xh:Option Int) (y:Int) (yh:Option Int):Sc:=
  bif leqB yh k.bits then (bif isLit 1 xl xh then wr k (2^y.toNat) else wr k (x*2^y.toNat))
  else .int k (shl k x y) (bif nonneg xl&&unsg k then some 0 else none) none
def shrV (k:IntKind) (x:Int) (xl xh:Option Int) (y:Int) (yh:Option Int):Sc:=
  bif leqB yh k.bits then .int k (x / 2^y.toNat) none none
  else .int k (shr k x y) (bif nonneg xl then some 0 else none) (bif nonneg xl then xh else none)
section
variable {β:Type}
def shiftF (left:Bool) (k:IntKind) (x:Int) (xl xh:Option Int) (y:Int) (yl yh:Option Int) (K:Sc→Option β):Option β:=
  match litOf yl yh with
  | some c => bif decide (0 ≤ c) && decide (c ≤ (k.bits : Int)) then
      (bif decide (c=0) then K (bif left then wr k x else .int k x xl xh) else bif left then K (shlC k x xl xh c.toNat) else K (shrC k x xl xh c.toNat)) else none
  | none => bif nonneg yl then K (bif left then shlV k x xl xh y yh else shrV k x xl xh y yh)
      else if 0≤y then K (bif left then shlV k x xl xh y yh else shrV k x xl xh y yh) else none
def divF (quo:Bool) (k:IntKind) (x:Int) (xl xh:Option Int) (y:Int) (yl yh:Option Int) (K:Sc→Option β):Option β:=
  bif same2 yl yh&&atleast1 yl then K (bif quo then quoF k x xl xh y yl else remF k x xl y yl yh)
  else if y=0 then none else K (bif quo then quoF k x xl xh y yl else remF k x xl y yl yh)
def ibin (op:BinOp) (k:IntKind) (x:Int) (xl xh:Option Int) (y:Int) (yl yh:Option Int) (K:Sc→Option β):Option β:=
  match op with
  | .add=>K (bif all4 xl xh yl yh then wrapped k (x+y) (oadd xl yl) (oadd xh yh) else wr k (x+y))
  | .sub => bif isLit 0 xl xh then K (bif all4 xl xh yl yh then wrapped k (-y) (osub xl yh) (osub xh yl) else wr k (-y))
      else K (bif all4 xl xh yl yh then wrapped k (x - y) (osub xl yh) (osub xh yl) else wr k (x - y))
  | .mul=>K (wrapped k (x*y) (mulB xl xh yl yh).1 (mulB xl xh yl yh).2)
  | .quo=>divF true k x xl xh y yl yh K
  | .rem=>divF false k x xl xh y yl yh K
  | .and=>K (.int k (Go.bits .and k x y) none none)
  | .or=>K (.int k (Go.bits .or k x y) none none)
  | .xor=>K (.int k (Go.bits .xor k x y) none none)
  | .andNot=>K (.int k (Go.bits .andNot k x y) none none)
  | .shl=>shiftF true k x xl xh y yl yh K
  | .shr=>shiftF false k x xl xh y yl yh K
  | .eql=>K (.bool (.eq x y))
  | .neq=>K (.bool (.ne x y))
  | .lss=>K (.bool (.lt x y))
  | .leq=>K (.bool (.le x y))
  | .gtr=>K (.bool (.gt x y))
  | .geq=>K (.bool (.ge x y))
end
theorem litOf_eq {lo hi:Option Int} {c y:Int} (h:litOf lo hi=some c) (h0:∀ a,lo=some a→a≤y) (h1:∀ a,hi=some a→y≤a):y=c:=by
  unfold litOf at h
  split at h
  · rename_i a b
    cases hd:decide (a=b) <;> rw [hd] at h <;> simp at h hd
    have:=h0 a rfl
    have:=h1 b rfl
    omega
  · cases h
theorem nonneg_of {lo:Option Int} {x:Int} (h:nonneg lo=true) (h0:∀ a,lo=some a→a≤x):0≤x:=by
  unfold nonneg at h
  split at h
  · have:=h0 _ rfl;simp at h;omega
  · cases h
theorem atleast1_of {lo:Option Int} {x:Int} (h:atleast1 lo=true) (h0:∀ a,lo=some a→a≤x):1≤x:=by
  unfold atleast1 at h
  split at h
  · have:=h0 _ rfl;simp at h;omega
  · cases h
theorem kLo_le (k:IntKind):kLo k≤0:=by cases k <;> simp [kLo]
theorem quoF_ok (C : Cx) (k : IntKind) (x : Int) (xl xh : Option Int) (y : Int) (yl : Option Int) (hx0 : ∀ a, xl = some a → a ≤ x) (hx1 : ∀ a, xh = some a → x ≤ a) (hy0 : ∀ a, yl = some a → a ≤ y) :
    VS C (quoF k x xl xh y yl) (.int k (k.wrap (x.tdiv y))):=by
  unfold quoF
  cases hn:nonneg xl
  · exact wr_ok C k _
  · have hx:=nonneg_of hn hx0
    rw [Int.tdiv_eq_ediv_of_nonneg hx]
    simp only [cond_true]
    split
    · rename_i b
      cases hc:(atleast1 yl&&decide (b≤kHi k))
      · exact wr_ok C k _
      · simp only [Bool.and_eq_true,decide_eq_true_eq] at hc
        have hy:=atleast1_of hc.1 hy0
        have hb:=hx1 b rfl
        have h1:0≤x / y:=Int.ediv_nonneg hx (by omega)
        have h2:x / y≤x:=Int.ediv_le_self y hx
        have:=kLo_le k
        refine ⟨by rw [wrap_in (by omega) (by omega)],⟨by omega,by omega⟩, ?_, ?_⟩
        · intro a ha;injection ha with ha;omega
        · intro a ha;injection ha with ha;omega
    · exact wr_ok C k _
theorem tmod_le' {a:Int} (b:Int) (h:0≤a):a.tmod b≤a:=by
  obtain ⟨n,rfl⟩:=Int.eq_ofNat_of_zero_le h
  rcases Int.natAbs_eq b with hb | hb
  · rw [hb,← Int.ofNat_tmod];exact Int.ofNat_le.mpr (Nat.mod_le _ _)
  · rw [hb,Int.tmod_neg,← Int.ofNat_tmod];exact Int.ofNat_le.mpr (Nat.mod_le _ _)
theorem tmod_inK {k:IntKind} {x:Int} (y:Int) (hx:inK k x):inK k (x.tmod y):=by
  have:=kLo_le k
  have h0:0≤kHi k:=by cases k <;> simp [kHi]
  obtain ⟨h1,h2⟩:=hx
  by_cases hs:0≤x
  · have ha:0≤x.tmod y:=Int.tmod_nonneg y hs
    have hb:=tmod_le' y hs
    exact ⟨by omega,by omega⟩
  · have hn:x = -(-x):=by omega
    have ha:0≤(-x).tmod y:=Int.tmod_nonneg y (by omega)
    have hb:=tmod_le' y (show 0≤-x by omega)
    rw [hn,Int.neg_tmod]
    exact ⟨by omega,by omega⟩
theorem div_inK {k:IntKind} {x p:Int} (hx:inK k x) (hp:0 < p):inK k (x / p):=by
  have:=kLo_le k
  have h0:0≤kHi k:=by cases k <;> simp [kHi]
  obtain ⟨h1,h2⟩:=hx
  by_cases hs:0≤x
  · have:=Int.ediv_nonneg hs (Int.le_of_lt hp)
    have:=Int.ediv_le_self p hs
    exact ⟨by omega,by omega⟩
  · have ha:x / p < 0:=Int.ediv_neg_of_neg_of_pos (by omega) hp
    have hb:x≤x / p:=by
      rw [Int.le_ediv_iff_mul_le hp]
      have:=Int.mul_le_mul_of_nonpos_left (a:=x) (b:=p) (c:=1) (by omega) (by omega)
      omega
    exact ⟨by omega,by omega⟩
theorem remF_ok (C : Cx) (k : IntKind) (x : Int) (xl : Option Int) (y : Int) (yl yh : Option Int) (hx0 : ∀ a, xl = some a → a ≤ x) (hy0 : ∀ a, yl = some a → a ≤ y) (hy1 : ∀ a, yh = some a → y ≤ a) (hy : y ≠ 0) (hxk : inK k x) :
    VS C (remF k x xl y yl yh) (.int k (x.tmod y)):=by
  unfold remF
  cases hn:nonneg xl
  · exact ⟨rfl,tmod_inK y hxk,by simp,by simp⟩
  · have hx:=nonneg_of hn hx0
    have hin:=tmod_inK y hxk
    rw [Int.tmod_eq_emod_of_nonneg hx] at hin ⊢
    refine ⟨rfl,hin, ?_, ?_⟩
    · intro a ha;injection ha with ha;have:=Int.emod_nonneg x hy;omega
    · intro a ha
      cases h1:atleast1 yl
      · rw [h1] at ha;cases ha
      · rw [h1] at ha
        simp only [cond_true] at ha
        split at ha
        · rename_i c hc
          have h2:=litOf_eq hc hy0 hy1
          have h3:=atleast1_of h1 hy0
          injection ha with ha
          have:=Int.emod_lt_of_pos x (show 0 < y by omega)
          omega
        · cases ha
theorem pow_cast (c:Nat):((2^c:Nat):Int)=2^c:=by simp
theorem pow_pos' (c:Nat):(0:Int) < 2^c:=Int.pow_pos (by decide)
theorem shlC_ok (C : Cx) (k : IntKind) (x : Int) (xl xh : Option Int) (c : Nat) (hx0 : ∀ a, xl = some a → a ≤ x) (hx1 : ∀ a, xh = some a → x ≤ a) :
    VS C (shlC k x xl xh c) (.int k (k.wrap (x*2^c))):=by
  unfold shlC
  rw [pow_cast]
  refine wrapped_ok C k _ _ _ ?_ ?_
  · intro a ha
    cases xl with
    | none=>cases ha
    | some b=>simp at ha;subst ha;exact Int.mul_le_mul_of_nonneg_right (hx0 b rfl) (Int.le_of_lt (pow_pos' c))
  · intro a ha
    cases xh with
    | none=>cases ha
    | some b=>simp at ha;subst ha;exact Int.mul_le_mul_of_nonneg_right (hx1 b rfl) (Int.le_of_lt (pow_pos' c))
theorem shrC_ok (C : Cx) (k : IntKind) (x : Int) (xl xh : Option Int) (c : Nat) (hx0 : ∀ a, xl = some a → a ≤ x) (hx1 : ∀ a, xh = some a → x ≤ a) (hxk : inK k x) :
    VS C (shrC k x xl xh c) (.int k (x / 2^c)):=by
  unfold shrC
  rw [pow_cast]
  refine ⟨rfl,div_inK hxk (pow_pos' c), ?_, ?_⟩
  · intro a ha
    cases xl with
    | none=>cases ha
    | some b=>simp at ha;subst ha;exact Int.ediv_le_ediv (pow_pos' c) (hx0 b rfl)
  · intro a ha
    cases xh with
    | none=>cases ha
    | some b=>simp at ha;subst ha;exact Int.ediv_le_ediv (pow_pos' c) (hx1 b rfl)
theorem leqB_of {h:Option Int} {n:Nat} {y:Int} (hl:leqB h n=true) (h1:∀ a,h=some a→y≤a):y≤n:=by
  unfold leqB at hl
  split at hl
  · have:=h1 _ rfl;simp at hl;omega
  · cases hl
theorem wrap_nonneg {k:IntKind} (h:unsg k=true) (n:Int):0≤k.wrap n:=by
  have:=(wrap_inK k n).1
  cases k <;> first | exact this | (simp [unsg] at h)
theorem shlV_ok (C : Cx) (k : IntKind) (x : Int) (xl xh : Option Int) (y : Int) (yh : Option Int) (hx0 : ∀ a, xl = some a → a ≤ x) (hx1 : ∀ a, xh = some a → x ≤ a) (hy1 : ∀ a, yh = some a → y ≤ a) :
    VS C (shlV k x xl xh y yh) (.int k (k.wrap (x*2^min y.toNat k.bits))):=by
  unfold shlV
  cases hl:leqB yh k.bits
  · refine ⟨rfl,wrap_inK _ _, ?_,by simp⟩
    intro a ha
    cases hc:(nonneg xl&&unsg k)
    · rw [hc] at ha;cases ha
    · rw [hc] at ha
      simp only [Bool.and_eq_true] at hc
      injection ha with ha
      subst ha
      exact wrap_nonneg hc.2 _
  · have:=leqB_of hl hy1
    rw [Nat.min_eq_left (by omega)]
    simp only [cond_true]
    cases h1:isLit 1 xl xh
    · exact wr_ok C k _
    · have : x = 1 := by
        unfold isLit at h1
        split at h1
        · have:=hx0 _ rfl;have:=hx1 _ rfl;simp at h1;omega
        · cases h1
      subst this
      rw [Int.one_mul]
      exact wr_ok C k _
theorem shrV_ok (C : Cx) (k : IntKind) (x : Int) (xl xh : Option Int) (y : Int) (yh : Option Int) (hx0 : ∀ a, xl = some a → a ≤ x) (hx1 : ∀ a, xh = some a → x ≤ a) (hy1 : ∀ a, yh = some a → y ≤ a) (hxk : inK k x) :
    VS C (shrV k x xl xh y yh) (.int k (x / 2^min y.toNat k.bits)):=by
  unfold shrV
  cases hl:leqB yh k.bits
  · refine ⟨rfl,div_inK hxk (pow_pos' _), ?_, ?_⟩
    · intro a ha
      cases hc:nonneg xl
      · rw [hc] at ha;cases ha
      · rw [hc] at ha
        injection ha with ha
        subst ha
        exact Int.ediv_nonneg (nonneg_of hc hx0) (Int.le_of_lt (pow_pos' _))
    · intro a ha
      cases hc:nonneg xl
      · rw [hc] at ha;cases ha
      · rw [hc] at ha
        have h2:=hx1 a ha
        have h3:x / 2^min y.toNat k.bits≤x:=Int.ediv_le_self _ (nonneg_of hc hx0)
        exact Int.le_trans h3 h2
  · have:=leqB_of hl hy1
    rw [Nat.min_eq_left (by omega)]
    exact ⟨rfl,div_inK hxk (pow_pos' _),by simp,by simp⟩
theorem mulB_ok {x y : Int} {xl xh yl yh : Option Int} (hx0 : ∀ a, xl = some a → a ≤ x) (hx1 : ∀ a, xh = some a → x ≤ a) (hy0 : ∀ a, yl = some a → a ≤ y) (hy1 : ∀ a, yh = some a → y ≤ a) :
    (∀ a,(mulB xl xh yl yh).1=some a→a≤x*y)∧(∀ a,(mulB xl xh yl yh).2=some a→x*y≤a):=by
  unfold mulB
  split
  · rename_i a b c d
    cases hc:(decide (a=b)||decide (c=d))
    · exact ⟨by simp,by simp⟩
    · simp only [cond_true,Option.some.injEq,forall_eq']
      have h1:=hx0 a rfl
      have h2:=hx1 b rfl
      have h3:=hy0 c rfl
      have h4:=hy1 d rfl
      simp only [Bool.or_eq_true,decide_eq_true_eq] at hc
      rcases hc with rfl | rfl
      · have hx:x=a:=by omega
        subst hx
        by_cases hs:0≤x
        · have:=Int.mul_le_mul_of_nonneg_left h3 hs
          have:=Int.mul_le_mul_of_nonneg_left h4 hs
          omega
        · have:=Int.mul_le_mul_of_nonpos_left (a:=x) (b:=y) (c:=c) (by omega) h3
          have:=Int.mul_le_mul_of_nonpos_left (a:=x) (b:=d) (c:=y) (by omega) h4
          omega
      · have hy:y=c:=by omega
        subst hy
        by_cases hs:0≤y
        · have:=Int.mul_le_mul_of_nonneg_right h1 hs
          have:=Int.mul_le_mul_of_nonneg_right h2 hs
          omega
        · have:=Int.mul_le_mul_of_nonpos_right (a:=x) (b:=a) (c:=y) h1 (by omega)
          have:=Int.mul_le_mul_of_nonpos_right (a:=b) (b:=x) (c:=y) h2 (by omega)
          omega
  · exact ⟨by simp,by simp⟩
theorem ibin_ok {β : Type} (P : Program) (C : Cx) (op : BinOp) (k : IntKind) (x : Int) (xl xh : Option Int) (k' : IntKind) (y : Int) (yl yh : Option Int) (K : Sc → Option β) (r : β) (t : TypeId)
    (hk:k'=k∨op = .shl∨op = .shr) (hxk:inK k x) (hx0:∀ a,xl=some a→a≤x) (hx1:∀ a,xh=some a→x≤a) (hy0:∀ a,yl=some a→a≤y) (hy1:∀ a,yh=some a→y≤a)
    (h:ibin op k x xl xh y yl yh K=some r):
    ∃ s v,K s=some r∧VS C s v∧∀ w,(binOp op t (.int k x) (.int k' y)).run P w = .ok v w:=by
  have hsh:∀ l,(op = .shl∧l=true∨op = .shr∧l=false)→shiftF l k x xl xh y yl yh K=some r→∃ s v,K s=some r∧VS C s v∧∀ w,(binOp op t (.int k x) (.int k' y)).run P w = .ok v w:=by
    intro l hl h
    have hrun:0≤y→∀ w,(binOp op t (.int k x) (.int k' y)).run P w = .ok (.int k (if l=true then k.wrap (x*2^min y.toNat k.bits) else x / 2^min y.toNat k.bits)) w:=by
      intro h0 w
      have hp:(0:Int)≤2^min y.toNat k.bits:=Int.le_of_lt (pow_pos' _)
      rcases hl with ⟨rfl,rfl⟩ | ⟨rfl,rfl⟩
      · show (Op.shift .shl k x k' y).run P w=_
        simp [Op.shift,show ¬ y < 0 by omega]
      · show (Op.shift .shr k x k' y).run P w=_
        simp [Op.shift,show ¬ y < 0 by omega,Int.fdiv_eq_ediv_of_nonneg _ hp]
    have hv:0≤y→VS C (bif l then shlV k x xl xh y yh else shrV k x xl xh y yh) (.int k (if l=true then k.wrap (x*2^min y.toNat k.bits) else x / 2^min y.toNat k.bits)):=by
      intro h0
      cases l
      · exact shrV_ok C k x xl xh y yh hx0 hx1 hy1 hxk
      · exact shlV_ok C k x xl xh y yh hx0 hx1 hy1
    unfold shiftF at h
    split at h
    · rename_i c hc
      have hyc:=litOf_eq hc hy0 hy1
      subst hyc
      cases hb:(decide (0≤y)&&decide (y≤(k.bits:Int))) <;> rw [hb] at h
      · cases h
      · simp only [Bool.and_eq_true,decide_eq_true_eq] at hb
        simp only [cond_true] at h
        have hr:=hrun hb.1
        rw [Nat.min_eq_left (by omega)] at hr
        by_cases h00:y=0
        · subst h00
          simp only [decide_true,cond_true] at h
          cases l
          · exact ⟨_,_,h,⟨rfl,hxk,hx0,hx1⟩,fun w=>by have:=hr w;simpa using this⟩
          · exact ⟨_,_,h,wr_ok C k x,fun w=>by have:=hr w;simpa using this⟩
        · simp only [h00,decide_false,cond_false] at h
          cases l
          · exact ⟨_,_,h,shrC_ok C k x xl xh _ hx0 hx1 hxk,by simpa using hr⟩
          · exact ⟨_,_,h,shlC_ok C k x xl xh _ hx0 hx1,by simpa using hr⟩
    · cases hn:nonneg yl <;> rw [hn] at h
      · simp only [cond_false] at h
        split at h
        · rename_i h0
          exact ⟨_,_,h,hv h0,hrun h0⟩
        · cases h
      · have h0:=nonneg_of hn hy0
        exact ⟨_,_,h,hv h0,hrun h0⟩
  have hdiv:∀ q,(op = .quo∧q=true∨op = .rem∧q=false)→divF q k x xl xh y yl yh K=some r→∃ s v,K s=some r∧VS C s v∧∀ w,(binOp op t (.int k x) (.int k' y)).run P w = .ok v w:=by
    intro q hq h
    have hkk:k'=k:=by
      rcases hk with hk | hk | hk
      · exact hk
      · rcases hq with ⟨rfl,_⟩ | ⟨rfl,_⟩ <;> cases hk
      · rcases hq with ⟨rfl,_⟩ | ⟨rfl,_⟩ <;> cases hk
    subst hkk
    have hmain:y≠0→K (bif q then quoF k' x xl xh y yl else remF k' x xl y yl yh)=some r→∃ s v,K s=some r∧VS C s v∧∀ w,(binOp op t (.int k' x) (.int k' y)).run P w = .ok v w:=by
      intro hy h
      rcases hq with ⟨rfl,rfl⟩ | ⟨rfl,rfl⟩
      · exact ⟨_,_,h,quoF_ok C k' x xl xh y yl hx0 hx1 hy0,fun w=>by simp [binOp,Op.intDiv,hy]⟩
      · exact ⟨_,_,h,remF_ok C k' x xl y yl yh hx0 hy0 hy1 hy hxk,fun w=>by simp [binOp,Op.intDiv,hy]⟩
    unfold divF at h
    cases hc:(same2 yl yh&&atleast1 yl) <;> rw [hc] at h
    · simp only [cond_false] at h
      split at h
      · cases h
      · exact hmain (by assumption) h
    · simp only [Bool.and_eq_true] at hc
      exact hmain (by have:=atleast1_of hc.2 hy0;omega) h
  have hadd:∀ {a b c d:Option Int},(∀ z,a=some z→z≤x)→(∀ z,c=some z→z≤y)→∀ z,oadd a c=some z→z≤x+y:=by
    intro a b c d h1 h2 z hz
    unfold oadd at hz
    split at hz
    · have:=h1 _ rfl;have:=h2 _ rfl;injection hz with hz;omega
    · cases hz
  have hadd':∀ {a c:Option Int},(∀ z,a=some z→x≤z)→(∀ z,c=some z→y≤z)→∀ z,oadd a c=some z→x+y≤z:=by
    intro a c h1 h2 z hz
    unfold oadd at hz
    split at hz
    · have:=h1 _ rfl;have:=h2 _ rfl;injection hz with hz;omega
    · cases hz
  have hsub:∀ {a c:Option Int},(∀ z,a=some z→z≤x)→(∀ z,c=some z→y≤z)→∀ z,osub a c=some z→z≤x - y:=by
    intro a c h1 h2 z hz
    unfold osub at hz
    split at hz
    · have:=h1 _ rfl;have:=h2 _ rfl;injection hz with hz;omega
    · cases hz
  have hsub':∀ {a c:Option Int},(∀ z,a=some z→x≤z)→(∀ z,c=some z→z≤y)→∀ z,osub a c=some z→x - y≤z:=by
    intro a c h1 h2 z hz
    unfold osub at hz
    split at hz
    · have:=h1 _ rfl;have:=h2 _ rfl;injection hz with hz;omega
    · cases hz
  cases op <;> simp only [ibin] at h
  case shl=>exact hsh true (.inl ⟨rfl,rfl⟩) h
  case shr=>exact hsh false (.inr ⟨rfl,rfl⟩) h
  case quo=>exact hdiv true (.inl ⟨rfl,rfl⟩) h
  case rem=>exact hdiv false (.inr ⟨rfl,rfl⟩) h
  all_goals
    have hkk:k'=k:=by
      rcases hk with hk | hk | hk
      · exact hk
      · cases hk
      · cases hk
    subst hkk
  case add =>
    refine ⟨_,.int k' (k'.wrap (x+y)),h, ?_,fun w=>by simp [binOp,Op.intArith]⟩
    cases all4 xl xh yl yh
    · exact wr_ok C k' _
    · exact wrapped_ok C k' _ _ _ (hadd (b:=none) (d:=none) hx0 hy0) (hadd' hx1 hy1)
  case sub =>
    cases hz:isLit 0 xl xh <;> rw [hz] at h
    · refine ⟨_,.int k' (k'.wrap (x - y)),h, ?_,fun w=>by simp [binOp,Op.intArith]⟩
      cases all4 xl xh yl yh
      · exact wr_ok C k' _
      · exact wrapped_ok C k' _ _ _ (hsub hx0 hy1) (hsub' hx1 hy0)
    · have hx : x = 0 := by
        unfold isLit at hz
        split at hz
        · have:=hx0 _ rfl;have:=hx1 _ rfl;simp at hz;omega
        · cases hz
      subst hx
      refine ⟨_,.int k' (k'.wrap (0 - y)),h, ?_,fun w=>by simp [binOp,Op.intArith]⟩
      rw [Int.zero_sub]
      cases all4 xl xh yl yh
      · exact wr_ok C k' _
      · exact wrapped_ok C k' _ _ _ (by have:=@hsub _ _ hx0 hy1;simpa using this) (by have:=@hsub' _ _ hx1 hy0;simpa using this)
  case mul =>
    have:=mulB_ok hx0 hx1 hy0 hy1
    exact ⟨_,.int k' (k'.wrap (x*y)),h,wrapped_ok C k' _ _ _ this.1 this.2,fun w=>by simp [binOp,Op.intArith]⟩
  case and=>exact ⟨_,_,h,⟨rfl,wrap_inK _ _,by simp,by simp⟩,fun w=>by rw [binOp_and,intBits_and];rfl⟩
  case or=>exact ⟨_,_,h,⟨rfl,wrap_inK _ _,by simp,by simp⟩,fun w=>by rw [binOp_or,intBits_or];rfl⟩
  case xor=>exact ⟨_,_,h,⟨rfl,wrap_inK _ _,by simp,by simp⟩,fun w=>by rw [binOp_xor,intBits_xor];rfl⟩
  case andNot=>exact ⟨_,_,h,⟨rfl,wrap_inK _ _,by simp,by simp⟩,fun w=>by rw [binOp_andNot,intBits_andNot];rfl⟩
  case eql=>exact ⟨_,_,h,rfl,fun w=>by rw [binOp_eql];rfl⟩
  case neq=>exact ⟨_,_,h,rfl,fun w=>by rw [binOp_neq];rfl⟩
  case lss=>exact ⟨_,_,h,rfl,fun w=>by rw [binOp_lss];rfl⟩
  case leq=>exact ⟨_,_,h,rfl,fun w=>by rw [binOp_leq];rfl⟩
  case gtr=>exact ⟨_,_,h,rfl,fun w=>by rw [binOp_gtr];rfl⟩
  case geq=>exact ⟨_,_,h,rfl,fun w=>by rw [binOp_geq];rfl⟩
end Go.Proofs.YtbpcfhhcoklinaaGreat.Ab
