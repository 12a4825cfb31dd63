import Derived.Test.YtgpfoamhcoipgaaDoorLm
import Derived.Test.YtgpfoamhcoipgaaDoorLq
/-! The ledger's Add. -/
namespace Go.Proofs.YtgpfoamhcoipgaaDoor
open Go.RowKit Go.Sort Go.ChangeMaps
set_option linter.unusedVariables false
attribute [-simp] Tryd.isAgg34 Tryd.sizeOf34 Tryd.typeInfo34 Tryd.type34
attribute [-simp] Tryd.isAgg40 Tryd.sizeOf40 Tryd.typeInfo40 Tryd.type40
attribute [-simp] Tryd.isAgg38 Tryd.sizeOf38 Tryd.typeInfo38 Tryd.type38
attribute [-simp] Tryd.isAgg43 Tryd.sizeOf43 Tryd.typeInfo43 Tryd.type43
attribute [-simp] Tryd.isAgg65 Tryd.sizeOf65 Tryd.typeInfo65 Tryd.type65
attribute [-simp] Tryd.isAgg67 Tryd.sizeOf67 Tryd.typeInfo67 Tryd.type67

/-- A change. -/
structure Ch where
  put : Bool
  rev : Nat
  p : Pn
def chL (c : Ch) : List Value := .bool c.put :: .int .u64 (c.rev : Int) :: paneL c.p
def chA (c : Ch) : Array Value := (chL c).toArray
structure Ch.ok (c : Ch) : Prop where
  rev : c.rev < 18446744073709551616
  a : c.p.a.ok
set_option maxRecDepth 100000 in
theorem encCh : Enc Tryd.prog 43 chL 10 88 where
  pos := by decide
  len := fun _ => rfl
  one := fun c v hv => by
    rcases List.mem_cons.1 hv with rfl | hv
    · rfl
    · rcases List.mem_cons.1 hv with rfl | hv
      · rfl
      · exact paneL_one _ v hv
  info := ⟨_, _, rfl, rfl, rfl, rfl, rfl⟩
set_option maxRecDepth 100000 in
theorem sizeCh : (Tryd.prog.info? 43).map (·.size) = some 10 := by kernel_rfl
set_option maxRecDepth 100000 in
theorem sizeNm : (Tryd.prog.info? 65).map (·.size) = some 3 := by kernel_rfl
set_option maxRecDepth 100000 in
theorem sizeStd : (Tryd.prog.info? 67).map (·.size) = some 7 := by kernel_rfl
set_option maxRecDepth 100000 in
theorem zeroCh : ∀ w, (zeroValue 43).run Tryd.prog w = .ok (.agg (chA ⟨false, 0, default⟩)) w := (zero_of_info (P := Tryd.prog) (v := .agg (chA ⟨false, 0, default⟩)) (n := 10) (by kernel_rfl)).1
set_option maxRecDepth 100000 in
theorem zeroNm : ∀ w, (zeroValue 65).run Tryd.prog w = .ok (nmC ⟨⟨#[]⟩, 0, 0⟩) w := (zero_of_info (P := Tryd.prog) (v := nmC ⟨⟨#[]⟩, 0, 0⟩) (n := 3) (by kernel_rfl)).1
set_option maxRecDepth 100000 in
theorem zeroStd : ∀ w, (zeroValue 67).run Tryd.prog w = .ok (stC st0) w := (zero_of_info (P := Tryd.prog) (v := stC st0) (n := 7) (by kernel_rfl)).1
def nmA (x : Nm) : Array Value := #[.string x.key, .int .i64 x.s, .int .i64 x.e]
set_option maxRecDepth 100000 in
theorem built_nm (x : Nm) : Tryd.prog.built 65 [(0, .string x.key), (1, .agg #[.int .i64 x.s, .int .i64 x.e])] = some (nmA x) := by
  rw [built_of 65 Tryd.t65 #[.string ⟨#[]⟩, .int .i64 0, .int .i64 0] _ [(0, 1), (1, 2)] (by kernel_rfl) (by kernel_rfl) Tryd.underlying65 (by kernel_rfl)]
  rfl
theorem layS (z : Array Value) (hz : z.size = 7) (b : Value) (C : Array Value) (hC : C.size = 5) (n : Value) (i : Nat) :
    (lay #[n] (lay C (lay #[b] z 0) 1) 6)[i]? = (#[b] ++ C ++ #[n])[i]? := by
  have s1 : (lay #[b] z 0).size = 7 := by rw [lay_size _ _ _ (by rw [hz]; exact of_decide_eq_true rfl), hz]
  have s2 : (lay C (lay #[b] z 0) 1).size = 7 := by rw [lay_size _ _ _ (by rw [s1, hC]; decide), s1]
  rw [lay_at _ _ _ _ (by rw [s2]; exact of_decide_eq_true rfl), lay_at _ _ _ _ (by rw [s1, hC]; decide), lay_at _ _ _ _ (by rw [hz]; exact of_decide_eq_true rfl), hC]
  have e1 : (#[n] : Array Value).size = 1 := rfl
  have e2 : (#[b] : Array Value).size = 1 := rfl
  have e3 : (#[b] ++ C).size = 6 := by rw [Array.size_append, e2, hC]
  rw [e1, e2, Array.getElem?_append, e3, Array.getElem?_append, e2]
  by_cases h6 : i < 6
  · rw [if_neg (show ¬(6 ≤ i ∧ i < 6 + 1) by omega), if_pos h6]
    by_cases h1 : i < 1
    · rw [if_neg (show ¬(1 ≤ i ∧ i < 1 + 5) by omega), if_pos (show 0 ≤ i ∧ i < 0 + 1 by omega), if_pos h1]; rfl
    · rw [if_pos (show 1 ≤ i ∧ i < 1 + 5 by omega), if_neg h1]
  · by_cases h7 : i = 6
    · subst h7; rfl
    · rw [if_neg (show ¬(6 ≤ i ∧ i < 6 + 1) by omega), if_neg (show ¬(1 ≤ i ∧ i < 1 + 5) by omega), if_neg (show ¬(0 ≤ i ∧ i < 0 + 1) by omega), if_neg h6, Array.getElem?_eq_none (by rw [hz]; omega), Array.getElem?_eq_none (by rw [e1]; omega)]
set_option maxRecDepth 100000 in
theorem built_std0 (b : Bool) (C : Array Value) (hC : C.size = 5) (n : Int) : Tryd.prog.built 67 [(0, .bool b), (1, .agg C), (2, .int .u64 n)] = some (#[.bool b] ++ C ++ #[.int .u64 n]) := by
  rw [built_of 67 Tryd.t67 (stL st0) _ [(0, 1), (1, 5), (6, 1)] (by kernel_rfl) (by kernel_rfl) Tryd.underlying67 (by kernel_rfl)]
  have hz : (stL st0).size = 7 := rfl
  generalize stL st0 = z at *
  have s1 : (lay #[Value.bool b] z 0).size = 7 := by rw [lay_size _ _ _ (by rw [hz]; exact of_decide_eq_true rfl), hz]
  have s2 : (lay C (lay #[Value.bool b] z 0) 1).size = 7 := by rw [lay_size _ _ _ (by rw [s1, hC]; decide), s1]
  rw [fill_step _ _ _ _ _ 0 1 rfl rfl (by rw [hz]; exact of_decide_eq_true rfl), fill_step _ _ _ (.agg C) _ 1 5 rfl hC (by show 1 + C.size ≤ (lay #[Value.bool b] z 0).size; rw [s1, hC]; decide),
    fill_step _ _ _ _ _ 6 1 rfl rfl (by show 6 + 1 ≤ (lay C (lay #[Value.bool b] z 0) 1).size; rw [s2]; decide), Instr.fill]
  congr 1
  exact Array.ext_getElem? (layS z hz _ C hC _)
theorem built_std (b : Bool) (a : AV) (n : Nat) : Tryd.prog.built 67 [(0, .bool b), (1, .agg (avC a)), (2, .int .u64 (n : Int))] = some (stL ⟨b, a, n⟩) := (built_std0 b (avC a) rfl n).trans rfl
theorem stL_one (s : Std) : (stL s).all (·.oneCell') = true := by simp [stL, Value.oneCell']
theorem nmA_one (s : Nm) : (nmA s).all (·.oneCell') = true := by simp [nmA, Value.oneCell']
theorem chA_one (c : Ch) : (chA c).all (·.oneCell') = true := by simp [chA, chL, paneL, Value.oneCell']
/-- How one change turns how a pane stands. -/
def stepS (s : Std) (c : Ch) : Option Std :=
  if c.put = true ∧ s.live = false ∧ c.rev = s.next then some ⟨true, c.p.a, s.next⟩
  else if c.put = false ∧ s.live = true ∧ c.rev = s.next ∧ sameAV c.p.a s.a = true then some ⟨false, noAV, (s.next + 1) % 18446744073709551616⟩
  else none
def putF (f : Nm → Std) (n : Nm) (s : Std) : Nm → Std := fun m => if m = n then s else f m
def addF (f : Nm → Std) : List Ch → Option (Nm → Std)
  | [] => some f
  | c :: l => (stepS (f c.p.nm) c).bind fun s => addF (putF f c.p.nm s) l
/-- How panes stand, by a ledger's map. -/
def AtIs (w : World) (m : Value) (f : Nm → Std) : Prop := (m = .map none ∧ ∀ n, f n = st0) ∨ ∃ b mp, m = .map (some b) ∧ MapAt nmC stC w b mp ∧ ∀ n, (lget mp n).getD st0 = f n
theorem below_setBlock {w wr : World} {n b : Nat} (h : Below n w wr) (hb : n ≤ b) (o : Obj) : Below n w (setBlock wr b o) :=
  ⟨h.os, h.tape, h.output, by show _ ≤ (wr.heap.setIfInBounds b o).size; rw [Array.size_setIfInBounds]; exact h.size, fun i hi => by
    show (wr.heap.setIfInBounds b o)[i]? = _
    rw [Array.getElem?_setIfInBounds_ne (by omega)]
    exact h.block i hi⟩
end Go.Proofs.YtgpfoamhcoipgaaDoor
