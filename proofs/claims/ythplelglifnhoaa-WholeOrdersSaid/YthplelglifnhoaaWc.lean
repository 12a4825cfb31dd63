import Derived.Test.YthplelglifnhoaaWb
import Derived.Great.BuildSlice
import Derived.Deep.DeepCutAuto
import Derived.Deep.CutBlock
import Derived.Deep.QuietTactic
/-! The windows of a time; windows that meet. -/
namespace Go.Proofs.Ythplelglifnhoaa
open Go.Shelf Go.RowKit Go.Lib Go.Sort
set_option linter.unusedVariables false
set_option linter.unusedSimpArgs false
attribute [-simp] Try.isAgg40 Try.sizeOf40 Try.typeInfo40 Try.type40
attribute [-simp] Try.isAgg28 Try.sizeOf28 Try.typeInfo28 Try.type28

/-- A configuration. -/
structure Cg where
  cf : Cf
  late : Int
  skew : Int
  parts : Int
  cut : Int
def cgC (c : Cg) : Array Value := #[.int .u8 (c.cf.kd : Int), .int .i64 c.cf.size, .int .i64 c.cf.step, .int .i64 c.late, .int .i64 c.skew, .int .i64 c.parts, .int .u64 c.cut]
structure Cg.ok (c : Cg) : Prop where
  cf : c.cf.ok
  big : c.cf.size ≤ 1073741824
set_option maxRecDepth 100000 in
theorem sizeCg : (Try.prog.info? 28).map (·.size) = some 7 := by kernel_rfl
def winL (p : Int × Int) : List Value := [.int .i64 p.1, .int .i64 p.2]
set_option maxRecDepth 100000 in
theorem encWin : Enc Try.prog 40 winL 2 16 where
  pos := by decide
  len := fun _ => rfl
  one := fun p v hv => by
    simp only [winL, List.mem_cons, List.mem_nil_iff, or_false] at hv
    rcases hv with rfl | rfl <;> rfl
  info := ⟨_, _, rfl, rfl, rfl, rfl, rfl⟩
set_option maxRecDepth 100000 in
theorem built_win (a b : Int) : Try.prog.built 40 [(0, .int .i64 a), (1, .int .i64 b)] = some (winL (a, b)).toArray := by
  rw [built_of 40 Try.t40 #[.int .i64 0, .int .i64 0] _ [(0, 1), (1, 1)] (by kernel_rfl) (by kernel_rfl) Try.underlying40 (by kernel_rfl)]
  rfl
theorem winA_one (a b : Int) : (#[.int .i64 a, .int .i64 b] : Array Value).all (·.oneCell') = true := by simp [Value.oneCell']
set_option maxRecDepth 100000 in
theorem meet_any (a b : Int × Int) (w : World) : Calls Try.prog 23 #[.agg (winL a).toArray, .agg (winL b).toArray] w fun e w' => e = .returned (.bool (meetB a.1 a.2 b.1 b.2)) ∧ Grew w w' := by
  obtain ⟨s1, e1⟩ := a
  obtain ⟨s2, e2⟩ := b
  simp only [winL, meetB]
  have Hg := Lib.hid (((Grew.refl w).alloc (.cells #[.int .i64 s1, .int .i64 e1] 40)).alloc (.cells #[.int .i64 s2, .int .i64 e2] 40))
  have h1 := heap_alloc2_old w (.cells #[.int .i64 s1, .int .i64 e1] 40) (.cells #[.int .i64 s2, .int .i64 e2] 40)
  have h2 := heap_alloc2_new w (.cells #[.int .i64 s1, .int .i64 e1] 40) (.cells #[.int .i64 s2, .int .i64 e2] 40)
  have a0 := (cell_of_row _ _ 0 _ _ _ h1).trans (show (#[.int .i64 s1, .int .i64 e1] : Array Value)[0]? = some (.int .i64 s1) from rfl)
  have a1 := (cell_of_row _ _ 1 _ _ _ h1).trans (show (#[.int .i64 s1, .int .i64 e1] : Array Value)[1]? = some (.int .i64 e1) from rfl)
  have b0 := (cell_of_row _ _ 0 _ _ _ h2).trans (show (#[.int .i64 s2, .int .i64 e2] : Array Value)[0]? = some (.int .i64 s2) from rfl)
  have b1 := (cell_of_row _ _ 1 _ _ _ h2).trans (show (#[.int .i64 s2, .int .i64 e2] : Array Value)[1]? = some (.int .i64 e2) from rfl)
  by_cases c : s1 < e2
  · rw [show (decide (s1 < e2) && decide (s2 < e1)) = decide (s2 < e1) from by simp [c]]
    go_enter Try.func23, Try.ntmps23
    go_wp2_with fail
    all_goals first
      | (go_ret; exact ⟨rfl, Hg.out⟩)
      | (exfalso; omega)
  · rw [show (decide (s1 < e2) && decide (s2 < e1)) = false from by simp [c]]
    go_enter Try.func23, Try.ntmps23
    go_wp2_with fail
    all_goals first
      | (go_ret; exact ⟨rfl, Hg.out⟩)
      | (exfalso; omega)
set_option maxRecDepth 100000 in
theorem join_win (a b : Int × Int) (w : World) : Calls Try.prog 41 #[.agg (winL a).toArray, .agg (winL b).toArray] w fun e w' => e = .returned (.agg (winL (min a.1 b.1, max a.2 b.2)).toArray) ∧ Below w.heap.size w w' := by
  have Hs := Lib.hid sizeWin
  have zw : ∀ w, (zeroValue 40).run Try.prog w = .ok (.agg #[.int .i64 0, .int .i64 0]) w := (zero_of_info (P := Try.prog) (v := .agg #[.int .i64 0, .int .i64 0]) (n := 2) (by kernel_rfl)).1
  obtain ⟨s1, e1⟩ := a
  obtain ⟨s2, e2⟩ := b
  have hb := built_win (min s1 s2) (max e1 e2)
  simp only [winL] at hb ⊢
  have h1 := heap_alloc2_old w (.cells #[.int .i64 s1, .int .i64 e1] 40) (.cells #[.int .i64 s2, .int .i64 e2] 40)
  have h2 := heap_alloc2_new w (.cells #[.int .i64 s1, .int .i64 e1] 40) (.cells #[.int .i64 s2, .int .i64 e2] 40)
  have hba := below_alloc (below_alloc (Below.refl w.heap.size w) (.cells #[.int .i64 s1, .int .i64 e1] 40)) (.cells #[.int .i64 s2, .int .i64 e2] 40)
  have g1 := (heap_alloc_old ((w.alloc (.cells #[.int .i64 s1, .int .i64 e1] 40)).alloc (.cells #[.int .i64 s2, .int .i64 e2] 40)) (.cells #[.int .i64 0, .int .i64 0] 40) (heap_lt h1)).trans h1
  have g2 := (heap_alloc_old ((w.alloc (.cells #[.int .i64 s1, .int .i64 e1] 40)).alloc (.cells #[.int .i64 s2, .int .i64 e2] 40)) (.cells #[.int .i64 0, .int .i64 0] 40) (heap_lt h2)).trans h2
  have g3 := (heap_alloc_new ((w.alloc (.cells #[.int .i64 s1, .int .i64 e1] 40)).alloc (.cells #[.int .i64 s2, .int .i64 e2] 40)) (.cells #[.int .i64 0, .int .i64 0] 40))
  rw [show ((w.alloc (.cells #[.int .i64 s1, .int .i64 e1] 40)).alloc (.cells #[.int .i64 s2, .int .i64 e2] 40)).heap.size = w.heap.size + 2 from by simp] at g3
  have hb3 := below_alloc hba (.cells #[.int .i64 0, .int .i64 0] 40)
  have a0 := (cell_of_row _ _ 0 _ _ _ g1).trans (show (#[.int .i64 s1, .int .i64 e1] : Array Value)[0]? = some (.int .i64 s1) from rfl)
  have a1 := (cell_of_row _ _ 1 _ _ _ g1).trans (show (#[.int .i64 s1, .int .i64 e1] : Array Value)[1]? = some (.int .i64 e1) from rfl)
  have b0 := (cell_of_row _ _ 0 _ _ _ g2).trans (show (#[.int .i64 s2, .int .i64 e2] : Array Value)[0]? = some (.int .i64 s2) from rfl)
  have b1 := (cell_of_row _ _ 1 _ _ _ g2).trans (show (#[.int .i64 s2, .int .i64 e2] : Array Value)[1]? = some (.int .i64 e2) from rfl)
  clear h1 h2 g1 g2
  go_enter Try.func41, Try.ntmps41
  go_wp2_with (first
    | (refine at_op (.alloc 40) ?_ rfl; refine wpList_alloc_row rfl _ 40 rfl (some 4) rfl (w.heap.size + 2) (by simp) _ zw ?_; generalize ((w.alloc (.cells #[.int .i64 s1, .int .i64 e1] 40)).alloc (.cells #[.int .i64 s2, .int .i64 e2] 40)).alloc (.cells #[.int .i64 0, .int .i64 0] 40) = w3 at *)
    | (refine at_op (.build 40 #[(0, .tmp 9), (1, .tmp 14)]) ?_ rfl; refine run_builtK rfl 40 _ rfl #[.int .i64 (min s1 s2), .int .i64 (max e1 e2)] (by simp only [List.map_toArray, List.map_cons, List.map_nil, Act.eval]; exact hb) ?_)
    | (refine at_op (.store 40 (.tmp 4) (.tmp 15)) ?_ rfl; refine wpList_store_row rfl 40 (.tmp 4) (.tmp 15) rfl (w.heap.size + 2) #[.int .i64 (min s1 s2), .int .i64 (max e1 e2)] rfl rfl 40 _ g3 Hs.out rfl (winA_one _ _) ?_; have g4 := setRow_heap w3 (w.heap.size + 2) _ #[.int .i64 (min s1 s2), .int .i64 (max e1 e2)] _ _ g3; have b8 := below_setRow hb3 (show w.heap.size ≤ w.heap.size + 2 by omega) #[.int .i64 (min s1 s2), .int .i64 (max e1 e2)]; generalize w3.setRow (w.heap.size + 2) #[.int .i64 (min s1 s2), .int .i64 (max e1 e2)] = w4 at *))
  exact bodyPost_ret (results_cell_row rfl _ _ (w.heap.size + 2) 40 _ (0, 0) _ rfl g4 Try.underlying40 rfl Hs.out) rfl ⟨rfl, b8⟩
theorem OwnE.single {α : Type} {P : Program} {enc : α → List Value} {k bytes : Nat} {e : TypeId} (E : Enc P e enc k bytes) {w : World} {base g : Nat} {y : α} (h : w.heap[g]? = some (.cells (enc y).toArray e (0, 0))) (hb : base ≤ g) : OwnE w base e k enc (.slice (some ⟨g, 0, none⟩) 1 1) [y] := by
  refine ⟨by rw [E.flat], .inr ⟨g, 1, (enc y).toArray, rfl, hb, h, Nat.le_refl _, by decide, ?_, ?_⟩⟩
  · rw [List.size_toArray, E.len, Nat.one_mul]
  · rw [List.length_singleton, Nat.one_mul, List.flatMap_cons, List.flatMap_nil, List.append_nil, List.take_of_length_le (by rw [E.len]; exact Nat.le_refl _)]
theorem ofS_take {size step t : Int} {k : Nat} (h : k < (t / step - (t - size) / step).toNat) : (ofS size step t).take (k + 1) = (ofS size step t).take k ++ [(step * ((t - size) / step + 1 + (k : Nat)), step * ((t - size) / step + 1 + (k : Nat)) + size)] := by
  have hl : k < (ofS size step t).length := by unfold ofS; rw [List.length_map, List.length_range]; exact h
  rw [List.take_succ_eq_append_getElem hl]
  have e : (ofS size step t)[k]? = some (step * ((t - size) / step + 1 + (k : Nat)), step * ((t - size) / step + 1 + (k : Nat)) + size) := by
    unfold ofS
    rw [List.getElem?_map, List.getElem?_range h]
    rfl
  rw [(List.getElem?_eq_some_iff.1 e).2]
theorem ofS_len (size step t : Int) : (ofS size step t).length = (t / step - (t - size) / step).toNat := by unfold ofS; rw [List.length_map, List.length_range]
theorem ofS_one {size t : Int} (h : 1 ≤ size) : ofS size size t = [(size * (t / size), size * (t / size) + size)] := by
  have := div_one (t := t) h
  unfold ofS
  rw [this, show (t / size - (t / size - 1)).toNat = 1 by omega, show List.range 1 = [0] from rfl]
  simp only [List.map_cons, List.map_nil]
  rw [show t / size - 1 + 1 + ((0 : Nat) : Int) = t / size by omega]
set_option maxRecDepth 100000 in
set_option maxHeartbeats 4000000 in
theorem of_any (c : Cg) (hc : c.ok) (t : Int) (w : World) (ht : -2199023255552 ≤ t) (ht2 : t ≤ 2199023255552) :
    Calls Try.prog 15 #[.agg (cgC c), .int .i64 t] w fun e w' => ∃ v, e = .returned v ∧ OwnE w' w.heap.size 40 2 winL v (wsC c.cf t) ∧ Below w.heap.size w w' := by
  have hs1 := hc.cf.size
  have hs2 := hc.big
  have hk := hc.cf.kd
  obtain ⟨⟨kd, size, step⟩, la, sk, pa, cu⟩ := c
  have hsl := hc.cf.slide
  simp only [cgC] at hs1 hs2 hk hsl ⊢
  have h1 := heap_alloc_new w (.cells #[.int .u8 (kd : Int), .int .i64 size, .int .i64 step, .int .i64 la, .int .i64 sk, .int .i64 pa, .int .u64 cu] 28)
  have c0 := (cell_of_row _ _ 0 _ _ _ h1).trans (show (#[.int .u8 (kd : Int), .int .i64 size, .int .i64 step, .int .i64 la, .int .i64 sk, .int .i64 pa, .int .u64 cu] : Array Value)[0]? = some (.int .u8 (kd : Int)) from rfl)
  have c1 := (cell_of_row _ _ 1 _ _ _ h1).trans (show (#[.int .u8 (kd : Int), .int .i64 size, .int .i64 step, .int .i64 la, .int .i64 sk, .int .i64 pa, .int .u64 cu] : Array Value)[1]? = some (.int .i64 size) from rfl)
  have c2 := (cell_of_row _ _ 2 _ _ _ h1).trans (show (#[.int .u8 (kd : Int), .int .i64 size, .int .i64 step, .int .i64 la, .int .i64 sk, .int .i64 pa, .int .u64 cu] : Array Value)[2]? = some (.int .i64 step) from rfl)
  have hb1 := below_alloc (Below.refl w.heap.size w) (.cells #[.int .u8 (kd : Int), .int .i64 size, .int .i64 step, .int .i64 la, .int .i64 sk, .int .i64 pa, .int .u64 cu] 28)
  have HW := Lib.hid hb1
  clear h1 hb1
  have h012 : kd = 0 ∨ kd = 2 ∨ kd = 1 := by omega
  rcases h012 with rfl | rfl | rfl
  · have hfl := fun w => floor_any t size w hs1 (by omega) (by omega) (by omega)
    have hq1 := Int.mul_ediv_self_le (x := t) (k := size) (by omega)
    have hq2 := Int.lt_mul_ediv_self_add (x := t) (k := size) (by omega)
    rw [show wsC ⟨0, size, step⟩ t = [(size * (t / size), size * (t / size) + size)] from by unfold wsC; rw [if_neg (show ¬ (0 : Nat) = 2 by decide)]; exact ofS_one hs1]
    obtain ⟨s, hs⟩ : ∃ s, s = size * (t / size) := ⟨_, rfl⟩
    rw [← hs] at hfl hq1 hq2 ⊢
    have ws : IntKind.i64.wrap (s + size) = s + size := by rw [IntKind.wrap_i64]; omega
    have hbw := built_win s (s + size)
    clear hs hsl hq1 hq2 hs1 hs2 ht ht2 hc
    go_enter Try.func15, Try.ntmps15
    go_wp2_with (first
      | (go_at_call 28; (with_reducible refine (hfl _).mono ?_); rintro e w1 ⟨rfl, rfl⟩)
      | (refine at_op (.build 40 #[(0, .tmp 17), (1, .tmp 21)]) ?_ rfl; refine run_builtK rfl 40 _ rfl (winL (s, s + size)).toArray (by simp only [List.map_toArray, List.map_cons, List.map_nil, Act.eval]; exact hbw) ?_)
      | (refine at_op (.buildSlice 32 1 #[(0, .tmp 22)]) ?_ rfl; refine wpList_buildOne encWin (by decide) rfl _ 32 (.tmp 22) rfl (some 23) rfl (w.heap.size + 1) (by simp) rfl (s, s + size) rfl ?_))
    go_ret
    refine ⟨_, rfl, OwnE.single encWin ?_ (by omega), below_alloc HW.out _⟩
    have := heap_alloc_new (w.alloc (.cells #[.int .u8 0, .int .i64 size, .int .i64 step, .int .i64 la, .int .i64 sk, .int .i64 pa, .int .u64 cu] 28)) (.cells (winL (s, s + size)).toArray 40)
    rwa [show (w.alloc (.cells #[.int .u8 0, .int .i64 size, .int .i64 step, .int .i64 la, .int .i64 sk, .int .i64 pa, .int .u64 cu] 28)).heap.size = w.heap.size + 1 from by simp] at this
  · rw [show wsC ⟨2, size, step⟩ t = [(t, t + size)] from by unfold wsC; rw [if_pos (show (2 : Nat) = 2 by decide)]]
    have ws : IntKind.i64.wrap (t + size) = t + size := by rw [IntKind.wrap_i64]; omega
    have hbw := built_win t (t + size)
    clear hsl hs1 hs2 ht ht2 hc
    go_enter Try.func15, Try.ntmps15
    go_wp2_with (first
      | (refine at_op (.build 40 #[(0, .tmp 26), (1, .tmp 30)]) ?_ rfl; refine run_builtK rfl 40 _ rfl (winL (t, t + size)).toArray (by simp only [List.map_toArray, List.map_cons, List.map_nil, Act.eval]; exact hbw) ?_)
      | (refine at_op (.buildSlice 32 1 #[(0, .tmp 31)]) ?_ rfl; refine wpList_buildOne encWin (by decide) rfl _ 32 (.tmp 31) rfl (some 32) rfl (w.heap.size + 1) (by simp) rfl (t, t + size) rfl ?_))
    go_ret
    refine ⟨_, rfl, OwnE.single encWin ?_ (by omega), below_alloc HW.out _⟩
    have := heap_alloc_new (w.alloc (.cells #[.int .u8 2, .int .i64 size, .int .i64 step, .int .i64 la, .int .i64 sk, .int .i64 pa, .int .u64 cu] 28)) (.cells (winL (t, t + size)).toArray 40)
    rwa [show (w.alloc (.cells #[.int .u8 2, .int .i64 size, .int .i64 step, .int .i64 la, .int .i64 sk, .int .i64 pa, .int .u64 cu] 28)).heap.size = w.heap.size + 1 from by simp] at this
  · obtain ⟨hp1, hp2, hp3⟩ := hsl rfl
    rw [show wsC ⟨1, size, step⟩ t = ofS size step t from by unfold wsC Cf.st; rw [if_neg (show ¬ (1 : Nat) = 2 by decide), if_neg (show ¬ (1 : Nat) = 0 by decide)]]
    have hfl1 := fun w => floor_any t step w hp1 (by omega) (by omega) (by omega)
    have hfl2 := fun w => floor_any (t - size) step w hp1 (by omega) (by omega) (by omega)
    have hq1 := Int.mul_ediv_self_le (x := t) (k := step) (by omega)
    have hq2 := Int.lt_mul_ediv_self_add (x := t) (k := step) (by omega)
    have hq3 := Int.mul_ediv_self_le (x := t - size) (k := step) (by omega)
    have hq4 := Int.lt_mul_ediv_self_add (x := t - size) (k := step) (by omega)
    have hlow := div_low (t := t) hp1 hp3
    have hmon := div_mono (step := step) (a := t - size) (b := t) hp1 (by omega)
    obtain ⟨n, hn⟩ : ∃ n : Nat, n = (t / step - (t - size) / step).toNat := ⟨_, rfl⟩
    have TK : Aside (∀ k, k < n → (ofS size step t).take (k + 1) = (ofS size step t).take k ++ [(step * ((t - size) / step + 1 + (k : Nat)), step * ((t - size) / step + 1 + (k : Nat)) + size)]) := fun k hk => ofS_take (by omega)
    have HN : Aside ((ofS size step t).length = n) := (ofS_len size step t).trans hn.symm
    have hn16 : n ≤ 16 := by omega
    have SV : Aside (∀ k : Nat, k ≤ n → ∃ s : Int, s = step * ((t - size) / step + 1 + (k : Nat)) ∧ t - size - step < s ∧ s ≤ t + step ∧ (s ≤ step * (t / step) ↔ k < n) ∧ s + step = step * ((t - size) / step + 1 + ((k + 1 : Nat) : Int))) := fun k hk => by
      refine ⟨_, rfl, ?_, ?_, ?_, ?_⟩
      · have := (mul_lt (step := step) (a := (t - size) / step) (b := (t - size) / step + 1 + (k : Nat)) hp1).2 (by omega)
        omega
      · have : ¬ step * (t / step + 1) < step * ((t - size) / step + 1 + (k : Nat)) := fun c => by have := (mul_lt hp1).1 c; omega
        rw [Int.mul_add, Int.mul_one] at this
        omega
      · constructor
        · intro c
          have : ¬ step * (t / step) < step * ((t - size) / step + 1 + (k : Nat)) := by omega
          have : ¬ t / step < (t - size) / step + 1 + (k : Nat) := fun d => this ((mul_lt hp1).2 d)
          omega
        · intro c
          have : ¬ step * (t / step) < step * ((t - size) / step + 1 + (k : Nat)) := fun d => by have := (mul_lt hp1).1 d; omega
          omega
      · rw [show (t - size) / step + 1 + ((k + 1 : Nat) : Int) = ((t - size) / step + 1 + (k : Nat)) + 1 by omega]
        generalize (t - size) / step + 1 + (k : Int) = q
        rw [Int.mul_add, Int.mul_one]
    obtain ⟨z0, hz0⟩ : ∃ z, z = step * ((t - size) / step) := ⟨_, rfl⟩
    obtain ⟨z1, hz1⟩ : ∃ z, z = step * (t / step) := ⟨_, rfl⟩
    have hz2 : Aside (z0 + step = step * ((t - size) / step + 1 + ((0 : Nat) : Int))) := by show _ = _; rw [hz0, show (t - size) / step + 1 + ((0 : Nat) : Int) = (t - size) / step + 1 by omega, Int.mul_add, Int.mul_one]
    rw [← hz1] at SV hfl1 hq1 hq2
    rw [← hz0] at hfl2 hq3 hq4
    have wt : IntKind.i64.wrap (t - size) = t - size := by rw [IntKind.wrap_i64]; omega
    have wz : IntKind.i64.wrap (z0 + step) = z0 + step := by rw [IntKind.wrap_i64]; omega
    generalize ofS size step t = L at *
    clear hn hz0 hz1 hsl hlow hmon hc
    have C1 := Lib.hid c1
    have C2 := Lib.hid c2
    have Hbox := Lib.hid (heap_alloc_new w (.cells #[.int .u8 1, .int .i64 size, .int .i64 step, .int .i64 la, .int .i64 sk, .int .i64 pa, .int .u64 cu] 28))
    go_enter Try.func15, Try.ntmps15
    go_upto_region 9 with (go_at_call 28; (with_reducible refine (hfl1 _).mono ?_); rintro e w1 ⟨rfl, rfl⟩)
    go_quiet ((go_at_call 28; with_reducible exact quiet_of_left (hfl2 _)))
    have hb0 : Below w.heap.size w ((w.alloc (.cells #[.int .u8 1, .int .i64 size, .int .i64 step, .int .i64 la, .int .i64 sk, .int .i64 pa, .int .u64 cu] 28)).drewN nq) := below_drewN HW.out nq
    have hbox : ((w.alloc (.cells #[.int .u8 1, .int .i64 size, .int .i64 step, .int .i64 la, .int .i64 sk, .int .i64 pa, .int .u64 cu] 28)).drewN nq).heap[w.heap.size]? = some (.cells #[.int .u8 1, .int .i64 size, .int .i64 step, .int .i64 la, .int .i64 sk, .int .i64 pa, .int .u64 cu] 28 (0, 0)) := Hbox.out
    clear HW Hbox c0 c1 c2 C1 C2 hfl1 hfl2 wt wz
    generalize (w.alloc (.cells #[.int .u8 1, .int .i64 size, .int .i64 step, .int .i64 la, .int .i64 sk, .int .i64 pa, .int .u64 cu] 28)).drewN nq = w1 at *
    have HB0 := Lib.hid hb0
    have HX0 := Lib.hid hbox
    clear hb0 hbox
    go_wp2_with fail
    go_loopg [6, 8] n (fun kx vo vs wr => ∃ (k : Nat) (s : Int), vs = .int .i64 s ∧ k ≤ n ∧ n - k ≤ kx ∧ Aside (s = step * ((t - size) / step + 1 + (k : Nat))) ∧ Aside (OwnE wr (w.heap.size + 1) 40 2 winL vo (L.take k)) ∧ Hid (Below w.heap.size w wr) ∧ Hid (wr.heap[w.heap.size]? = some (.cells #[.int .u8 1, .int .i64 size, .int .i64 step, .int .i64 la, .int .i64 sk, .int .i64 pa, .int .u64 cu] 28 (0, 0))))
    case atStart => exact ⟨0, z0 + step, rfl, Nat.zero_le _, Nat.le_refl _, hz2.out, OwnE.nil _ _, HB0, HX0⟩
    case round =>
      clear HB0 HX0
      obtain ⟨k, s, rfl, hkn, hkx, HS, HO, HB, HX⟩ := hrel
      obtain ⟨s', hs', b1, b2, b3, b4⟩ := SV.out k hkn
      have e : s' = s := hs'.trans HS.out.symm
      subst e
      have HN2 := Lib.hid b4
      have hlen : (L.take k).length = k := by rw [List.length_take, HN.out]; omega
      generalize hw4 : wr = w4 at *
      clear hw4 hs' b4
      by_cases hlt : k < n
      · have hle : s' ≤ z1 := b3.2 hlt
        have w59 : IntKind.i64.wrap (s' + size) = s' + size := by rw [IntKind.wrap_i64]; omega
        have w53 : IntKind.i64.wrap (s' + step) = s' + step := by rw [IntKind.wrap_i64]; omega
        have hbw := built_win s' (s' + size)
        have ba := below_alloc (Below.refl w4.heap.size w4) (.cells (winL (s', s' + size)).toArray 40)
        have hrow := RowsAt.one (enc := winL) (y := (s', s' + size)) (heap_alloc_new w4 (.cells (winL (s', s' + size)).toArray 40))
        have hoa := HO.out.below ba
        have bwa := below_trans HB.out ba
        have c1 := (cell_of_row _ _ 1 _ _ _ HX.out).trans (show (#[.int .u8 1, .int .i64 size, .int .i64 step, .int .i64 la, .int .i64 sk, .int .i64 pa, .int .u64 cu] : Array Value)[1]? = some (.int .i64 size) from rfl)
        have hlt4 := heap_lt HX.out
        have hxa := (ba.block _ hlt4).trans HX.out
        have HXA := Lib.hid hxa
        have HBA := Lib.hid bwa
        have hszb : w.heap.size + 1 ≤ (w4.alloc (.cells (winL (s', s' + size)).toArray 40)).heap.size := Nat.le_trans hlt4 ba.size
        have hTK := Lib.hid (TK.out k hlt)
        have hl1 : (L.take k).length + 1 ≤ maxLen := by rw [hlen]; exact Nat.le_trans (show k + 1 ≤ 17 by omega) (by decide)
        have hl2 : ((L.take k).length + 1) * 16 ≤ 140737488355328 := by rw [hlen]; omega
        clear ba hxa bwa HO HB HX b3
        go_wp2_with (first
          | (refine at_op (.build 40 #[(0, .tmp 55), (1, .tmp 59)]) ?_ rfl; refine run_builtK rfl 40 _ rfl (winL (s', s' + size)).toArray (by simp only [List.map_toArray, List.map_cons, List.map_nil, Act.eval]; exact hbw) ?_)
          | (refine at_op (.buildSlice 32 1 #[(0, .tmp 60)]) ?_ rfl; refine wpList_buildOne encWin (by decide) rfl w4 32 (.tmp 60) rfl (some 61) rfl w4.heap.size rfl rfl (s', s' + size) rfl ?_)
          | (refine at_op (.call { callee := .builtin .append, args := #[.tmp 54, .tmp 61], argTypes := #[32, 32] }) ?_ rfl; refine wpList_appendE encWin rfl _ (.tmp 54) (.tmp 61) 32 rfl (w.heap.size + 1) rfl _ (L.take k) rfl hoa (some ⟨w4.heap.size, 0, none⟩) 1 [(s', s' + size)] rfl hrow hl1 hl2 hszb ?_; intro u9 w11 hO11 hG11 hB11; have hx11 := (hG11.block w.heap.size (heap_lt HXA.out) (fun e => by have := (hoa.lt _ e.symm).1; omega)).trans HXA.out; have HX11 := Lib.hid hx11; have HB11 := Lib.hid (below_grown2 HBA.out hG11 (fun g q => by have := (hoa.lt g q).1; omega)); have HO11 := Lib.hid hO11; have c2 := (cell_of_row _ _ 2 _ _ _ hx11).trans (show (#[.int .u8 1, .int .i64 size, .int .i64 step, .int .i64 la, .int .i64 sk, .int .i64 pa, .int .u64 cu] : Array Value)[2]? = some (.int .i64 step) from rfl); clear hO11 hG11 hx11 hoa hrow c1))
        go_roundg (n - (k + 1))
        case measure => omega
        case rel => exact ⟨k + 1, s' + step, rfl, hlt, Nat.le_refl _, HN2.out, by rw [hTK.out, ← HS.out]; exact HO11.out, HB11, HX11⟩
      · have hle : ¬ s' ≤ z1 := fun c => hlt (b3.1 c)
        have hkn2 : k = n := by omega
        clear b3
        go_wp2
        go_ret
        refine ⟨_, rfl, ?_, HB.out⟩
        have := HO.out
        rw [hkn2, ← HN.out, List.take_length] at this
        exact this.mono (by omega)
end Go.Proofs.Ythplelglifnhoaa
