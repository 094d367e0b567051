-- Written by a program of this session out of its own texts (wip/tools/link.py).
import Derived.LaidEql
import Derived.WideLaws
namespace Go.Proofs.Ytebhpipfkomhjaa.ErrX
open Go
section
variable {P : Program} (w : World)
theorem equalIn_int (d : Nat) {ti tn : TypeId} {ms : Array (String × TypeId)} {i : TypeInfo} {k : IntKind} (a b : Int)
  (hi : P.underlying ti = some (.interface ms)) (hn : P.underlying tn = some (.int k)) (hinfo : P.info? tn = some i) (hcomp : i.comparable = true) :
  (Op.equalIn (d + 2) ti (.iface tn (.int k a)) (.iface tn (.int k b))).run P w = .ok (a == b) w := by
 simp [Op.equalIn, run_underlying hi, run_underlying hn, typeInfo, hinfo, hcomp]
theorem eql_int {ti tn : TypeId} {ms : Array (String × TypeId)} {i : TypeInfo} {k : IntKind} (a b : Int)
  (hi : P.underlying ti = some (.interface ms)) (hn : P.underlying tn = some (.int k)) (hinfo : P.info? tn = some i) (hcomp : i.comparable = true) :
  (binOp .eql ti (.iface tn (.int k a)) (.iface tn (.int k b))).run P w = .ok (.bool (a == b)) w := by
 simp only [binOp]
 simp [Op.equal, Op.maxDepth, equalIn_int w 9998 a b hi hn hinfo hcomp]
theorem neq_int {ti tn : TypeId} {ms : Array (String × TypeId)} {i : TypeInfo} {k : IntKind} (a b : Int)
  (hi : P.underlying ti = some (.interface ms)) (hn : P.underlying tn = some (.int k)) (hinfo : P.info? tn = some i) (hcomp : i.comparable = true) :
  (binOp .neq ti (.iface tn (.int k a)) (.iface tn (.int k b))).run P w = .ok (.bool (a != b)) w := by
 simp only [binOp]
 simp [Op.equal, Op.maxDepth, equalIn_int w 9998 a b hi hn hinfo hcomp, bne]
theorem eql_nil_left {ti : TypeId} {ms : Array (String × TypeId)} (tp : TypeId) (v : Value) (hi : P.underlying ti = some (.interface ms)) :
  (binOp .eql ti .nilIface (.iface tp v)).run P w = .ok (.bool false) w := run_eql_iface_nil_left w tp v hi
theorem neq_nil_left {ti : TypeId} {ms : Array (String × TypeId)} (tp : TypeId) (v : Value) (hi : P.underlying ti = some (.interface ms)) :
  (binOp .neq ti .nilIface (.iface tp v)).run P w = .ok (.bool true) w := by
 have h : ∀ d : Nat, (Op.equalIn (d + 1) ti .nilIface (.iface tp v)).run P w = .ok false w := fun d => by simp [Op.equalIn, run_underlying hi]
 simp only [binOp]
 simp [Op.equal, Op.maxDepth, h 9999]
end
end Go.Proofs.Ytebhpipfkomhjaa.ErrX
