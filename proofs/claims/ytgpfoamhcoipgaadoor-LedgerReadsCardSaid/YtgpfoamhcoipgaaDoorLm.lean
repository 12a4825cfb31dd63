import Derived.Test.YtgpfoamhcoipgaaDoorLp
import Derived.Laws.StructEq
/-! The ledger's map: keys and windows; how panes stand. -/
namespace Go.Proofs.YtgpfoamhcoipgaaDoor
open Go.RowKit Go.Sort
set_option linter.unusedVariables false

theorem toList_inj {a b : ByteArray} : a.toList = b.toList ↔ a = b := by
  constructor
  · intro h
    rw [ByteArray.toList_eq, ByteArray.toList_eq] at h
    obtain ⟨⟨x⟩⟩ := a
    obtain ⟨⟨y⟩⟩ := b
    simp only at h
    rw [h]
  · intro h; rw [h]
def nmC (x : Nm) : Value := .agg #[.string x.key, .int .i64 x.s, .int .i64 x.e]
/-- How a pane stands: is it there, what was told, its next revision. -/
structure Std where
  live : Bool
  a : AV
  next : Nat
def st0 : Std := ⟨false, noAV, 0⟩
def stL (s : Std) : Array Value := #[.bool s.live, .int .u64 (s.a.n : Int), .float .f64 s.a.x, .bool s.a.ov, .float .f64 s.a.lo, .float .f64 s.a.hi, .int .u64 (s.next : Int)]
def stC (s : Std) : Value := .agg (stL s)
set_option maxRecDepth 100000 in
theorem equal_nm (x y : Nm) (w : World) : (Op.equal 65 (nmC x) (nmC y)).run Tryd.prog w = .ok (decide (x = y)) w := by
  have hd : decide (x = y) = (x.key.toList == y.key.toList && (x.s == y.s && x.e == y.e)) := by
    obtain ⟨k1, a, b⟩ := x
    obtain ⟨k2, c, d⟩ := y
    rw [Bool.eq_iff_iff]
    simp only [decide_eq_true_eq, Nm.mk.injEq, Bool.and_eq_true, beq_iff_eq, toList_inj]
  rw [hd]
  unfold nmC
  unfold Op.equal Op.maxDepth
  rcases hb : (x.key.toList == y.key.toList) with _ | _ <;> rcases hb2 : (x.s == y.s) with _ | _ <;> rcases hb3 : (x.e == y.e) with _ | _ <;> go_simp
  all_goals trace_state
theorem check_nmN (n : Nat) (b : Bool) (x : Nm) (w : World) : (Instr.checkKey b (n + 3) 65 (nmC x)).run Tryd.prog w = .ok () w := by
  unfold nmC
  simp [Instr.checkKey, part]
  all_goals trace_state
theorem check_nm (b : Bool) (x : Nm) (w : World) : (Instr.checkKey b 10000 65 (nmC x)).run Tryd.prog w = .ok () w := check_nmN 9997 b x w
theorem same_nm (x : Nm) : Instr.sameBits 10000 (nmC x) (nmC x) = true := by
  unfold nmC
  simp [Instr.sameBits, beq_toListBytes]
set_option maxRecDepth 100000 in
theorem mapTy_led : MapTy Tryd.prog 30 65 67 nmC (stC st0) where
  under := Tryd.underlying30
  wide := by rw [Tryd.underlying65]
  check := check_nm
  equal := equal_nm
  same := same_nm
  zero := (zero_of_info (P := Tryd.prog) (v := stC st0) (n := 7) (by kernel_rfl)).1
end Go.Proofs.YtgpfoamhcoipgaaDoor
