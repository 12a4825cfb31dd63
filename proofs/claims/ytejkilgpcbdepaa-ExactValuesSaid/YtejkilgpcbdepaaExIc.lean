import Derived.Test.YtejkilgpcbdepaaExH
import Derived.Test.YtejkilgpcbdepaaExIm
import Derived.BigFrame
/-! Exact sums: the walk of Value. -/
namespace Go.Proofs.Ytejkilgpcbdepaa
open Go.RowKit
set_option linter.unusedVariables false
section
variable {P : Program} {o : Oper} {a : Act} {K : Act → World → Prop} {Q : Exit → Act → World → Prop}
/-- Held back. -/
structure Hold (p : Prop) : Prop where
  out : p
theorem stop_hold {ops : Array Oper} {rest : List Oper} {Q : Exit → Act → World → Prop} {w : World} (d : Option Tmp) (hd : o.dst = d) (h : Hold (wpList P ops Q (o :: rest) a w)) : wpList P ops Q (o :: rest) a w := h.out
theorem at_op0 {ops : Array Oper} {rest : List Oper} {Q : Exit → Act → World → Prop} {w : World} (op : Op) (h : wpList P ops Q (o :: rest) a w) (ho : o.op = op) (hg : o.guard = none) : wpList P ops Q (o :: rest) a w := h
theorem at_opG {ops : Array Oper} {rest : List Oper} {Q : Exit → Act → World → Prop} {w : World} (op : Op) (gd : Option (Nat × Bool)) (h : wpList P ops Q (o :: rest) a w) (ho : o.op = op) (hg : o.guard = gd) : wpList P ops Q (o :: rest) a w := h
theorem wpList_load_rowG {ops : Array Oper} {rest : List Oper} {Q : Exit → Act → World → Prop} {w : World} (hw : Region.wanted o (yielded ops a.tmps) = true) (ty : TypeId) (x : Operand) (ho : o.op = .load ty x)
    (g : Nat) (hx : a.eval x = .pointer (some ⟨g, 0, none⟩)) (t : TypeId) (cs : Array Value) (fr : Nat × Nat) (d : TypeDesc) (hg : w.heap[g]? = some (.cells cs t fr))
    (hu : P.underlying ty = some d) (hd : (match d with | .struct _ | .array _ _ => true | _ => false) = true) (hi : (P.info? ty).map (·.size) = some cs.size)
    (h : wpList P ops Q rest (a.put o.dst (.agg cs)) w) : wpList P ops Q (o :: rest) a w :=
  BigFrame.wpList_want hw fun K hK => wp_load_row ty x ho g hx t cs fr d hg hu hd hi (hK _ _ h)
theorem at_opw {w : World} (op : Op) (h : o.wp P a w K Q) (ho : o.op = op) : o.wp P a w K Q := h
end
theorem run_index35 (C : Array Value) (hsz : C.size = 35) (k : Nat) (hk : k < 35) (x : Int) (h : C[k]? = some (.int .u64 x)) (w : World) :
    (Instr.index 28 (.agg C) (.int .i64 (k : Int))).run Try.prog w = .ok (.int .u64 x) w := by
  have h1 : (0 : Int) ≤ (k : Int) ∧ (k : Int) < ((35 : Nat) : Int) := by omega
  have hv := at_of (by omega) h
  simp [Instr.index, run_underlying Try.underlying28, asIntOf, go_sem, part, hk, hv, hsz, Try.sizeOf27, Try.isAgg27, Sem.run_bind, Result.andThen]

theorem or_low (g x : Nat) (hg : g = 0 ∨ g = 9223372036854775808) (hx : x < 9223372036854775808) : g ||| x = g + x := by
  rcases hg with rfl | rfl
  · simp
  · exact (Nat.two_pow_add_eq_or_of_lt (i := 63) (b := x) (by omega) 1).symm
theorem pack_any (g e f : Nat) (hg : g = 0 ∨ g = 9223372036854775808) (he : e ≤ 2046) (hf : f < 18446744073709551616) : (bits .or .u64 (bits .or .u64 (g : Int) ((e : Int) * 4503599627370496)) (bits .and .u64 (f : Int) 4503599627370495)).toNat = g + (e * 4503599627370496 + f % 4503599627370496) := by
  have e1 : (e : Int) * 4503599627370496 = ((e * 4503599627370496 : Nat) : Int) := by omega
  have hm : f % 4503599627370496 < 4503599627370496 := by omega
  rw [and_52 f hf, e1, or64 g _ (by omega) (by omega), or_low g _ hg (by omega)]
  have e2 : (g + e * 4503599627370496) ||| f % 4503599627370496 = g + e * 4503599627370496 + f % 4503599627370496 := by
    have : g + e * 4503599627370496 = 2 ^ 52 * (g / 4503599627370496 + e) := by omega
    rw [this, ← Nat.two_pow_add_eq_or_of_lt (i := 52) (by omega)]
  rw [or64 _ _ (by omega) (by omega), e2]
  omega
theorem pack_false (sN m : Nat) (mi : Int) (hmi : (m : Int) = mi) (h1 : 4503599627370496 ≤ m) (h2 : m < 9007199254740992) (hs : sN + 1 ≤ 2046) :
    (bits .or .u64 (bits .or .u64 0 (((sN : Int) + 1) * 4503599627370496)) (bits .and .u64 mi 4503599627370495)).toNat = sN * 4503599627370496 + m := by
  have := pack_any 0 (sN + 1) m (.inl rfl) hs (by omega)
  rw [← hmi, show ((sN : Int) + 1) = ((sN + 1 : Nat) : Int) by omega]
  refine this.trans ?_
  omega
theorem pack_true (sN m : Nat) (mi : Int) (hmi : (m : Int) = mi) (h1 : 4503599627370496 ≤ m) (h2 : m < 9007199254740992) (hs : sN + 1 ≤ 2046) :
    (bits .or .u64 (bits .or .u64 9223372036854775808 (((sN : Int) + 1) * 4503599627370496)) (bits .and .u64 mi 4503599627370495)).toNat = 9223372036854775808 + (sN * 4503599627370496 + m) := by
  have := pack_any 9223372036854775808 (sN + 1) m (.inr rfl) hs (by omega)
  rw [← hmi, show ((sN : Int) + 1) = ((sN + 1 : Nat) : Int) by omega]
  refine this.trans ?_
  omega
theorem packV_false (sN m : Nat) (h1 : m + 1 = 9007199254740992) (hs : sN + 2 ≤ 2046) :
    (bits .or .u64 (bits .or .u64 0 (((sN : Int) + 1 + 1) * 4503599627370496)) (bits .and .u64 4503599627370496 4503599627370495)).toNat = sN * 4503599627370496 + (m + 1) := by
  have := pack_any 0 (sN + 2) 4503599627370496 (.inl rfl) hs (by omega)
  rw [show ((sN : Int) + 1 + 1) = ((sN + 2 : Nat) : Int) by omega]
  refine this.trans ?_
  omega
theorem packW_false (sN m : Nat) (mi : Int) (hq : mi + 1 = 9007199254740992) (h1 : m + 1 = 9007199254740992) (hs : sN + 2 ≤ 2046) :
    (bits .or .u64 (bits .or .u64 0 (((sN : Int) + 1 + 1) * 4503599627370496)) (bits .and .u64 ((mi + 1) / 2) 4503599627370495)).toNat = sN * 4503599627370496 + (m + 1) := by
  rw [show (mi + 1) / 2 = 4503599627370496 by omega]
  exact packV_false sN m h1 hs
theorem packV_true (sN m : Nat) (h1 : m + 1 = 9007199254740992) (hs : sN + 2 ≤ 2046) :
    (bits .or .u64 (bits .or .u64 9223372036854775808 (((sN : Int) + 1 + 1) * 4503599627370496)) (bits .and .u64 4503599627370496 4503599627370495)).toNat = 9223372036854775808 + (sN * 4503599627370496 + (m + 1)) := by
  have := pack_any 9223372036854775808 (sN + 2) 4503599627370496 (.inr rfl) hs (by omega)
  rw [show ((sN : Int) + 1 + 1) = ((sN + 2 : Nat) : Int) by omega]
  refine this.trans ?_
  omega
theorem packW_true (sN m : Nat) (mi : Int) (hq : mi + 1 = 9007199254740992) (h1 : m + 1 = 9007199254740992) (hs : sN + 2 ≤ 2046) :
    (bits .or .u64 (bits .or .u64 9223372036854775808 (((sN : Int) + 1 + 1) * 4503599627370496)) (bits .and .u64 ((mi + 1) / 2) 4503599627370495)).toNat = 9223372036854775808 + (sN * 4503599627370496 + (m + 1)) := by
  rw [show (mi + 1) / 2 = 4503599627370496 by omega]
  exact packV_true sN m h1 hs
end Go.Proofs.Ytejkilgpcbdepaa
