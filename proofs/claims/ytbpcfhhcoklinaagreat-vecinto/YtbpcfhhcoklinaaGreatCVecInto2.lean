-- Written by a program of this session out of its own texts (wip/tools/link.py).
import Derived.KernelRfl
import Derived.Shelf.Spec.BitsCarry
import Derived.Test.YtbpcfhhcoklinaaGreatProg
namespace Go.Proofs.YtbpcfhhcoklinaaGreat.CarryX
open Go Go.Proofs
theorem sub64 (x y b:Int) (hx:0≤x) (hy:0≤y) (hy':y < 18446744073709551616) (hb0:0≤b) (hb:b≤1) (w:World):
  (callFunc 189 #[.int .u64 x,.int .u64 y,.int .u64 b]).run Tryz.prog w = .ok (.value (.tuple #[.int .u64 ((x - y - b)%18446744073709551616),.int .u64 (if x < y+b then 1 else 0)])) w:=by
 obtain ⟨x,rfl⟩:=Int.eq_ofNat_of_zero_le hx
 obtain ⟨y,rfl⟩:=Int.eq_ofNat_of_zero_le hy
 obtain ⟨b,rfl⟩:=Int.eq_ofNat_of_zero_le hb0
 have e1:(((x+18446744073709551616 - y - b)%18446744073709551616:Nat):Int)=((x:Int) - y - b)%18446744073709551616:=by omega
 have e2:((if x < y+b then 1 else 0:Nat):Int)=if (x:Int) < y+b then 1 else 0:=by split <;> split <;> omega
 rw [← e1,← e2,run_callFunc_extern Tryz.func189 (by kernel_rfl) (by kernel_rfl) (by kernel_rfl) (e:=sub64Entry) (by kernel_rfl),run_sub64 x y b (by omega)]
 rfl
theorem add64 (x y c:Int) (hx:0≤x) (hx':x < 18446744073709551616) (hy:0≤y) (hy':y < 18446744073709551616) (hc0:0≤c) (hc:c≤1) (w:World):
  (callFunc 153 #[.int .u64 x,.int .u64 y,.int .u64 c]).run Tryz.prog w = .ok (.value (.tuple #[.int .u64 ((x+y+c)%18446744073709551616),.int .u64 ((x+y+c) / 18446744073709551616)])) w:=by
 rw [run_callFunc_extern Tryz.func153 (by kernel_rfl) (by kernel_rfl) (by kernel_rfl) (e:=add64Entry) (by kernel_rfl),run_add64 x y c (by omega) (by omega) (by omega) (by omega)]
 simp only [Result.andThen]
end Go.Proofs.YtbpcfhhcoklinaaGreat.CarryX
