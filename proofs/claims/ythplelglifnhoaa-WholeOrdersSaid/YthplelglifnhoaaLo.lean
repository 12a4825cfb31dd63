import Derived.Test.YthplelglifnhoaaMp
import Derived.Test.YthplelglifnhoaaAh
import Derived.Sort.Statements
import Derived.Sort.Grow
/-! Which of two keys and windows stands ahead. -/
namespace Go.Proofs.Ythplelglifnhoaa
open Go.RowKit Go.Sort
set_option linter.unusedVariables false
attribute [-simp] Try.isAgg40 Try.sizeOf40 Try.typeInfo40 Try.type40

/-- A key and a window. -/
structure Nm where
  key : ByteArray
  s : Int
  e : Int
deriving DecidableEq
set_option maxRecDepth 100000 in
theorem sizeWin : (Try.prog.info? 40).map (·.size) = some 2 := by kernel_rfl
/-- A world that has grown, and in which some answers were drawn. -/
def Grew (w w' : World) : Prop := ∃ q os, w' = grow (w.drewN q) os
theorem Grew.refl (w : World) : Grew w w := ⟨0, #[], by rw [grow_empty]; rfl⟩
theorem Grew.alloc {w w' : World} (h : Grew w w') (o : Obj) : Grew w (w'.alloc o) := by
  obtain ⟨q, os, rfl⟩ := h
  exact ⟨q, os ++ #[o], by rw [alloc_eq_grow, grow_grow]⟩
theorem Grew.drew {w w' : World} (h : Grew w w') : Grew w w'.drew := by
  obtain ⟨q, os, rfl⟩ := h
  exact ⟨q + 1, os, rfl⟩
/-- Does one stand ahead of another? -/
def nmLt (x y : Nm) : Bool := Op.bytesLess x.key.toList y.key.toList || (decide (x.key.toList = y.key.toList) && (decide (x.s < y.s) || (decide (x.s = y.s) && decide (x.e < y.e))))
def nmOrd (x y : Nm) : Int := if nmLt x y = true then -1 else if x.key.toList = y.key.toList ∧ x.s = y.s ∧ x.e = y.e then 0 else 1
set_option maxRecDepth 100000 in
set_option maxHeartbeats 4000000 in
theorem order_any (x y : Nm) (w : World) :
    Calls Try.prog 18 #[.string x.key, .agg #[.int .i64 x.s, .int .i64 x.e], .string y.key, .agg #[.int .i64 y.s, .int .i64 y.e]] w fun e w' => e = .returned (.int .i64 (nmOrd x y)) ∧ Grew w w' := by
  obtain ⟨k1, a, b⟩ := x
  obtain ⟨k2, c, d⟩ := y
  have Hs := Lib.hid sizeWin
  have h1 := heap_alloc2_old w (.cells #[.int .i64 a, .int .i64 b] 40) (.cells #[.int .i64 c, .int .i64 d] 40)
  have h2 := heap_alloc2_new w (.cells #[.int .i64 a, .int .i64 b] 40) (.cells #[.int .i64 c, .int .i64 d] 40)
  have a0 := (cell_of_row _ _ 0 _ _ _ h1).trans (show (#[.int .i64 a, .int .i64 b] : Array Value)[0]? = some (.int .i64 a) from rfl)
  have a1 := (cell_of_row _ _ 1 _ _ _ h1).trans (show (#[.int .i64 a, .int .i64 b] : Array Value)[1]? = some (.int .i64 b) from rfl)
  have b0 := (cell_of_row _ _ 0 _ _ _ h2).trans (show (#[.int .i64 c, .int .i64 d] : Array Value)[0]? = some (.int .i64 c) from rfl)
  have b1 := (cell_of_row _ _ 1 _ _ _ h2).trans (show (#[.int .i64 c, .int .i64 d] : Array Value)[1]? = some (.int .i64 d) from rfl)
  have hg := ((Grew.refl w).alloc (.cells #[.int .i64 a, .int .i64 b] 40)).alloc (.cells #[.int .i64 c, .int .i64 d] 40)
  have Hg := Lib.hid hg
  clear hg
  by_cases hp : Op.bytesLess k1.toList k2.toList = true
  · rw [show nmOrd _ _ = (-1) from by unfold nmOrd nmLt; rw [hp]; rfl]
    go_enter Try.func18, Try.ntmps18
    go_wp2_with fail
    all_goals first
      | (go_ret; exact ⟨rfl, Hg.out⟩)
      | (exfalso; contradiction)
      | (exfalso; omega)
  · have hp : Op.bytesLess k1.toList k2.toList = false := by simpa using hp
    by_cases hk : k1.toList = k2.toList
    · rw [hk] at hp
      rcases Int.lt_trichotomy a c with h5 | rfl | h5
      · rw [show nmOrd _ _ = (-1) from by unfold nmOrd nmLt; simp [hp, hk, h5]]
        go_enter Try.func18, Try.ntmps18
        go_wp2_with fail
        all_goals first
          | (go_ret; exact ⟨rfl, Hg.out⟩)
          | (exfalso; contradiction)
          | (exfalso; omega)
      · rcases Int.lt_trichotomy b d with h7 | rfl | h7
        · rw [show nmOrd _ _ = (-1) from by unfold nmOrd nmLt; simp [hp, hk, h7]]
          go_enter Try.func18, Try.ntmps18
          go_wp2_with fail
          all_goals first
            | (go_ret; exact ⟨rfl, Hg.out⟩)
            | (exfalso; contradiction)
            | (exfalso; omega)
        · rw [show nmOrd _ _ = 0 from by unfold nmOrd nmLt; simp [hp, hk]]
          go_enter Try.func18, Try.ntmps18
          go_upto_region 3 with fail
          all_goals first
            | (go_wp2_with (first
                | (refine at_opG (.load 40 (.tmp 5)) (some (3, true)) ?_ rfl rfl; refine wpList_load_rowG rfl 40 (.tmp 5) rfl w.heap.size rfl 40 _ (0, 0) _ h1 Try.underlying40 rfl Hs.out ?_)
                | (refine at_opG (.load 40 (.tmp 7)) (some (3, true)) ?_ rfl rfl; refine wpList_load_rowG rfl 40 (.tmp 7) rfl (w.heap.size + 1) rfl 40 _ (0, 0) _ h2 Try.underlying40 rfl Hs.out ?_))
               go_ret; exact ⟨rfl, Hg.out⟩)
            | (exfalso; contradiction)
            | (exfalso; omega)
        · rw [show nmOrd _ _ = 1 from by unfold nmOrd nmLt; simp [hp, hk]; omega]
          go_enter Try.func18, Try.ntmps18
          go_upto_region 3 with fail
          all_goals first
            | (go_wp2_with (first
                | (refine at_opG (.load 40 (.tmp 5)) (some (3, true)) ?_ rfl rfl; refine wpList_load_rowG rfl 40 (.tmp 5) rfl w.heap.size rfl 40 _ (0, 0) _ h1 Try.underlying40 rfl Hs.out ?_)
                | (refine at_opG (.load 40 (.tmp 7)) (some (3, true)) ?_ rfl rfl; refine wpList_load_rowG rfl 40 (.tmp 7) rfl (w.heap.size + 1) rfl 40 _ (0, 0) _ h2 Try.underlying40 rfl Hs.out ?_))
               go_ret; exact ⟨rfl, Hg.out⟩)
            | (exfalso; contradiction)
            | (exfalso; omega)
      · rw [show nmOrd _ _ = 1 from by unfold nmOrd nmLt; simp [hp, hk]; omega]
        go_enter Try.func18, Try.ntmps18
        go_upto_region 3 with fail
        all_goals first
          | (go_wp2_with (first
              | (refine at_opG (.load 40 (.tmp 5)) (some (3, true)) ?_ rfl rfl; refine wpList_load_rowG rfl 40 (.tmp 5) rfl w.heap.size rfl 40 _ (0, 0) _ h1 Try.underlying40 rfl Hs.out ?_)
              | (refine at_opG (.load 40 (.tmp 7)) (some (3, true)) ?_ rfl rfl; refine wpList_load_rowG rfl 40 (.tmp 7) rfl (w.heap.size + 1) rfl 40 _ (0, 0) _ h2 Try.underlying40 rfl Hs.out ?_))
             go_ret; exact ⟨rfl, Hg.out⟩)
          | (exfalso; contradiction)
          | (exfalso; omega)
    · rw [show nmOrd _ _ = 1 from by unfold nmOrd nmLt; simp [hp, hk]]
      go_enter Try.func18, Try.ntmps18
      go_wp2_with fail
      all_goals first
        | (go_ret; exact ⟨rfl, Hg.out⟩)
        | (exfalso; contradiction)
        | (exfalso; omega)
theorem bl_irrefl : ∀ l : List UInt8, Op.bytesLess l l = false := by
  intro l
  induction l with
  | nil => rfl
  | cons a l ih => rw [Op.bytesLess, ih]; simp
theorem bl_trans : ∀ x y z : List UInt8, Op.bytesLess x y = true → Op.bytesLess y z = true → Op.bytesLess x z = true := by
  intro x
  induction x with
  | nil =>
    intro y z h1 h2
    cases z with
    | nil => cases y <;> cases h2
    | cons c z => rfl
  | cons a x ih =>
    intro y z h1 h2
    cases y with
    | nil => cases h1
    | cons b y =>
      cases z with
      | nil => cases h2
      | cons c z =>
        rw [Op.bytesLess] at h1 h2 ⊢
        simp only [Bool.or_eq_true, Bool.and_eq_true, decide_eq_true_eq, beq_iff_eq] at h1 h2 ⊢
        rcases h1 with h1 | ⟨rfl, h1⟩
        · rcases h2 with h2 | ⟨rfl, h2⟩
          · exact .inl (UInt8.lt_trans h1 h2)
          · exact .inl h1
        · rcases h2 with h2 | ⟨rfl, h2⟩
          · exact .inl h2
          · exact .inr ⟨rfl, ih y z h1 h2⟩
theorem bl_total : ∀ x y : List UInt8, Op.bytesLess x y = true ∨ x = y ∨ Op.bytesLess y x = true := by
  intro x
  induction x with
  | nil =>
    intro y
    cases y with
    | nil => exact .inr (.inl rfl)
    | cons b y => exact .inl rfl
  | cons a x ih =>
    intro y
    cases y with
    | nil => exact .inr (.inr rfl)
    | cons b y =>
      simp only [Op.bytesLess, Bool.or_eq_true, Bool.and_eq_true, decide_eq_true_eq, beq_iff_eq]
      rcases Nat.lt_trichotomy a.toNat b.toNat with h | h | h
      · exact .inl (.inl (UInt8.lt_iff_toNat_lt.2 h))
      · have hab : a = b := UInt8.toNat_inj.1 h
        subst hab
        rcases ih y with h1 | rfl | h1
        · exact .inl (.inr ⟨rfl, h1⟩)
        · exact .inr (.inl rfl)
        · exact .inr (.inr (.inr ⟨rfl, h1⟩))
      · exact .inr (.inr (.inl (UInt8.lt_iff_toNat_lt.2 h)))
theorem nmLt_iff (x y : Nm) : nmLt x y = true ↔ Op.bytesLess x.key.toList y.key.toList = true ∨ (x.key.toList = y.key.toList ∧ (x.s < y.s ∨ (x.s = y.s ∧ x.e < y.e))) := by
  unfold nmLt
  simp only [Bool.or_eq_true, Bool.and_eq_true, decide_eq_true_eq]
theorem nmLt_irrefl (x : Nm) : nmLt x x = false := by
  rw [Bool.eq_false_iff]
  intro h
  rcases (nmLt_iff x x).1 h with h | ⟨_, h⟩
  · rw [bl_irrefl] at h; cases h
  · omega
theorem nmLt_trans {x y z : Nm} (h1 : nmLt x y = true) (h2 : nmLt y z = true) : nmLt x z = true := by
  rw [nmLt_iff] at *
  rcases h1 with h1 | ⟨e1, h1⟩
  · rcases h2 with h2 | ⟨e2, h2⟩
    · exact .inl (bl_trans _ _ _ h1 h2)
    · rw [e2] at h1; exact .inl h1
  · rcases h2 with h2 | ⟨e2, h2⟩
    · rw [← e1] at h2; exact .inl h2
    · exact .inr ⟨e1.trans e2, by omega⟩
theorem nmLt_total (x y : Nm) : nmLt x y = true ∨ (x.key.toList = y.key.toList ∧ x.s = y.s ∧ x.e = y.e) ∨ nmLt y x = true := by
  rw [nmLt_iff, nmLt_iff]
  rcases bl_total x.key.toList y.key.toList with h | h | h
  · exact .inl (.inl h)
  · by_cases h1 : x.s < y.s ∨ (x.s = y.s ∧ x.e < y.e)
    · exact .inl (.inr ⟨h, h1⟩)
    · by_cases h2 : x.s = y.s ∧ x.e = y.e
      · exact .inr (.inl ⟨h, h2⟩)
      · exact .inr (.inr (.inr ⟨h.symm, by omega⟩))
  · exact .inr (.inr (.inl h))
theorem nmOrd_neg (x y : Nm) : decide (nmOrd x y < 0) = nmLt x y := by
  unfold nmOrd
  cases nmLt x y with
  | true => rfl
  | false =>
    simp only [Bool.false_eq_true, if_false]
    split <;> rfl
theorem nmLt_eqv {x y z : Nm} (h : x.key.toList = y.key.toList ∧ x.s = y.s ∧ x.e = y.e) : nmLt y z = nmLt x z ∧ nmLt z y = nmLt z x := by
  unfold nmLt
  rw [h.1, h.2.1, h.2.2]
  exact ⟨rfl, rfl⟩
theorem nmLt_ntrans {x y z : Nm} (h1 : nmLt x y = false) (h2 : nmLt y z = false) : nmLt x z = false := by
  rcases nmLt_total x y with h | h | h
  · rw [h] at h1; cases h1
  · rw [← (nmLt_eqv h).1]; exact h2
  · cases hc : nmLt x z with
    | false => rfl
    | true => rw [nmLt_trans h hc] at h2; cases h2
set_option maxRecDepth 100000 in
set_option maxHeartbeats 4000000 in
theorem nmBefore_any (x y : Nm) (w : World) :
    Calls Try.prog 25 #[.string x.key, .agg #[.int .i64 x.s, .int .i64 x.e], .string y.key, .agg #[.int .i64 y.s, .int .i64 y.e]] w fun e w' => e = .returned (.bool (nmLt x y)) ∧ Grew w w' := by
  obtain ⟨k1, a, b⟩ := x
  obtain ⟨k2, c, d⟩ := y
  have h1 := heap_alloc2_old w (.cells #[.int .i64 a, .int .i64 b] 40) (.cells #[.int .i64 c, .int .i64 d] 40)
  have h2 := heap_alloc2_new w (.cells #[.int .i64 a, .int .i64 b] 40) (.cells #[.int .i64 c, .int .i64 d] 40)
  have a0 := (cell_of_row _ _ 0 _ _ _ h1).trans (show (#[.int .i64 a, .int .i64 b] : Array Value)[0]? = some (.int .i64 a) from rfl)
  have a1 := (cell_of_row _ _ 1 _ _ _ h1).trans (show (#[.int .i64 a, .int .i64 b] : Array Value)[1]? = some (.int .i64 b) from rfl)
  have b0 := (cell_of_row _ _ 0 _ _ _ h2).trans (show (#[.int .i64 c, .int .i64 d] : Array Value)[0]? = some (.int .i64 c) from rfl)
  have b1 := (cell_of_row _ _ 1 _ _ _ h2).trans (show (#[.int .i64 c, .int .i64 d] : Array Value)[1]? = some (.int .i64 d) from rfl)
  have Hg := Lib.hid (((Grew.refl w).alloc (.cells #[.int .i64 a, .int .i64 b] 40)).alloc (.cells #[.int .i64 c, .int .i64 d] 40))
  by_cases hk : k1.toList = k2.toList
  · by_cases h5 : a = c
    · rw [show nmLt ⟨k1, a, b⟩ ⟨k2, c, d⟩ = decide (b < d) from by unfold nmLt; simp [hk, bl_irrefl, h5]]
      have hkb : (!k1.toList == k2.toList) = false := by rw [hk]; simp
      have h5' : (a != c) = false := by rw [h5]; simp
      clear hk h5
      go_enter Try.func25, Try.ntmps25
      go_wp2_with fail
      all_goals first
        | (go_ret; exact ⟨rfl, Hg.out⟩)
        | (exfalso; contradiction)
        | (exfalso; omega)
    · rw [show nmLt ⟨k1, a, b⟩ ⟨k2, c, d⟩ = decide (a < c) from by unfold nmLt; simp [hk, bl_irrefl, h5]]
      have hkb : (!k1.toList == k2.toList) = false := by rw [hk]; simp
      have h5' : (a != c) = true := by simpa using h5
      clear hk h5
      go_enter Try.func25, Try.ntmps25
      go_wp2_with fail
      all_goals first
        | (go_ret; exact ⟨rfl, Hg.out⟩)
        | (exfalso; contradiction)
        | (exfalso; omega)
  · rw [show nmLt ⟨k1, a, b⟩ ⟨k2, c, d⟩ = Op.bytesLess k1.toList k2.toList from by unfold nmLt; simp [hk]]
    have hkb : (!k1.toList == k2.toList) = true := by simpa using hk
    clear hk
    go_enter Try.func25, Try.ntmps25
    go_wp2_with fail
    all_goals first
      | (go_ret; exact ⟨rfl, Hg.out⟩)
      | (exfalso; contradiction)
      | (exfalso; omega)
end Go.Proofs.Ythplelglifnhoaa
