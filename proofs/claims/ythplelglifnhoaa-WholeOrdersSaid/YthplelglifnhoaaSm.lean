import Derived.Sort.LotA
import Derived.Shelf.SlSortCmp.KitK
import Derived.Test.YthplelglifnhoaaProg
/-! The plain law of merging in place: ranges turned about, and what the merge of two sorted ranges comes to. -/
namespace Go.Proofs.Ythplelglifnhoaa
open Go.Sort
set_option linter.unusedVariables false
set_option linter.unusedSectionVars false
section
variable {α : Type} [Inhabited α] {lt : α → α → Bool}

/-- Every place of the later row holds what a place of the earlier one held. -/
def Moved (f : Nat → Nat) (d d' : Array α) : Prop := d'.size = d.size ∧ ∀ x : Nat, d'[x]! = d[f x]!
theorem Moved.id (d : Array α) {f : Nat → Nat} (h : ∀ x, f x = x) : Moved f d d := ⟨rfl, fun x => by rw [h]⟩
theorem Moved.comp {f g k : Nat → Nat} {d d1 d2 : Array α} (h1 : Moved f d d1) (h2 : Moved g d1 d2) (hk : ∀ x, f (g x) = k x) : Moved k d d2 :=
  ⟨h2.1.trans h1.1, fun x => by rw [h2.2, h1.2, hk]⟩
theorem Moved.eq {f g : Nat → Nat} {d d1 : Array α} (h1 : Moved f d d1) (hk : ∀ x, f x = g x) : Moved g d d1 := ⟨h1.1, fun x => by rw [h1.2, hk]⟩
def swpF (i j x : Nat) : Nat := if x = i then j else if x = j then i else x
def rotF (a m b x : Nat) : Nat := if a ≤ x ∧ x < b then (if x < a + (b - m) then x + (m - a) else x - (b - m)) else x
def swapF (a b n x : Nat) : Nat := if a ≤ x ∧ x < a + n then x + (b - a) else if b ≤ x ∧ x < b + n then x - (b - a) else x
theorem moved_swp (d : Array α) (i j : Nat) (hi : i < d.size) (hj : j < d.size) : Moved (swpF i j) d (swp d i j) := ⟨swp_size d i j, fun x => by
  unfold swpF
  by_cases h1 : x = i
  · subst h1
    rw [if_pos rfl]
    by_cases h2 : x = j
    · subst h2; exact swp_right d x x hj
    · exact swp_left d x j hi h2
  · rw [if_neg h1]
    by_cases h2 : x = j
    · subst h2; rw [if_pos rfl]; exact swp_right d i x hj
    · rw [if_neg h2]; exact swp_other d i j x h1 h2⟩
theorem swapF_none (a b : Nat) (x : Nat) : swapF a b 0 x = x := by unfold swapF; (repeat' split) <;> omega
theorem swapF_next (a b n x : Nat) (h : a + n < b) : swapF a b n (swpF (a + n) (b + n) x) = swapF a b (n + 1) x := by unfold swapF swpF; (repeat' split) <;> omega
theorem rotF_none (a m b x : Nat) (h : a = m ∨ m = b) (h2 : a ≤ m) (h3 : m ≤ b) : rotF a m b x = x := by unfold rotF; (repeat' split) <;> omega
theorem rotF_up (a k x : Nat) (h : a ≤ k) : rotF a (a + 1) (k + 1) (swpF k (k + 1) x) = rotF a (a + 1) (k + 2) x := by unfold rotF swpF; (repeat' split) <;> omega
theorem rotF_down (k m x : Nat) (h : k < m) : rotF (k + 1) m (m + 1) (swpF (k + 1) k x) = rotF k m (m + 1) x := by unfold rotF swpF; (repeat' split) <;> omega
theorem rotF_left (m i j x : Nat) (hi : i ≤ m) (hj : j < i) : swapF (m - i) m j (rotF (m - (i - j)) m (m + j) x) = rotF (m - i) m (m + j) x := by unfold rotF swapF; (repeat' split) <;> omega
theorem rotF_right (m i j x : Nat) (hi : i ≤ m) (hj : i < j) : swapF (m - i) (m + j - i) i (rotF (m - i) m (m + (j - i)) x) = rotF (m - i) m (m + j) x := by unfold rotF swapF; (repeat' split) <;> omega
theorem rotF_same (m i x : Nat) (hi : i ≤ m) : swapF (m - i) m i x = rotF (m - i) m (m + i) x := by unfold rotF swapF; (repeat' split) <;> omega

/-- A range turned about is the same elements. -/
theorem Moved.perm {a m b : Nat} {d d' : Array α} (h : Moved (rotF a m b) d d') (h1 : a ≤ m) (h2 : m ≤ b) (h3 : b ≤ d.size) : PermIn a b d d' := by
  refine ⟨h.1, fun i hi => by rw [h.2]; congr 1; unfold rotF; rw [if_neg (by omega)], ?_⟩
  rw [extract_toList d' a b (by rw [h.1]; exact h3), extract_toList d a b h3]
  have e1 : List.range' a (b - a) = List.range' a (m - a) ++ List.range' m (b - m) := by
    rw [show b - a = (m - a) + (b - m) by omega, ← List.range'_append_1, show a + (m - a) = m by omega]
  have e2 : List.range' a (b - a) = List.range' a (b - m) ++ List.range' (a + (b - m)) (m - a) := by
    rw [show b - a = (b - m) + (m - a) by omega, ← List.range'_append_1]
  conv => lhs; rw [e2, List.map_append]
  conv => rhs; rw [e1, List.map_append]
  have q1 : (List.range' a (b - m)).map (fun i => d'[i]!) = (List.range' m (b - m)).map (fun i => d[i]!) := by
    apply List.ext_getElem (by simp)
    intro t ht1 ht2
    simp only [List.length_map, List.length_range'] at ht1 ht2
    simp only [List.getElem_map, List.getElem_range']
    rw [h.2]; congr 1; unfold rotF
    rw [if_pos (by omega), if_pos (by omega)]; omega
  have q2 : (List.range' (a + (b - m)) (m - a)).map (fun i => d'[i]!) = (List.range' a (m - a)).map (fun i => d[i]!) := by
    apply List.ext_getElem (by simp)
    intro t ht1 ht2
    simp only [List.length_map, List.length_range'] at ht1 ht2
    simp only [List.getElem_map, List.getElem_range']
    rw [h.2]; congr 1; unfold rotF
    rw [if_pos (by omega), if_neg (by omega)]; omega
  rw [q1, q2]
  exact List.perm_append_comm

theorem sortedIn_le (hS : SWO lt) {a b : Nat} {d : Array α} (h : SortedIn lt a b d) {i j : Nat} (h1 : a ≤ i) (h2 : i ≤ j) (h3 : j < b) : lt d[j]! d[i]! = false := by
  by_cases e : i = j
  · subst e; exact hS.irrefl _
  · exact h i j h1 (by omega) h3

/-- One element put into a sorted range behind it. -/
theorem merge_first (hS : SWO lt) {a b i : Nat} {d d' : Array α} (h : SortedIn lt (a + 1) b d) (hb : b ≤ d.size) (h1 : a + 1 ≤ i) (h2 : i ≤ b)
    (hlo : ∀ x, a + 1 ≤ x → x < i → lt d[x]! d[a]! = true) (hhi : ∀ x, i ≤ x → x < b → lt d[x]! d[a]! = false) (hm : Moved (rotF a (a + 1) i) d d') : PermIn a b d d' ∧ SortedIn lt a b d' := by
  refine ⟨permIn_mono d d' a i a b (Nat.le_refl _) h2 hb (hm.perm (by omega) h1 (by omega)), fun x y hx hxy hy => ?_⟩
  rw [hm.2, hm.2]
  unfold rotF
  by_cases c1 : y < i - 1
  · rw [if_pos (by omega), if_pos (by omega), if_pos (by omega), if_pos (by omega)]
    exact h _ _ (by omega) (by omega) (by omega)
  · by_cases c2 : y = i - 1
    · subst c2
      rw [if_pos (by omega), if_neg (by omega), if_pos (by omega), if_pos (by omega), show i - 1 - (i - (a + 1)) = a by omega]
      exact hS.asymmA (hlo _ (by omega) (by omega))
    · rw [if_neg (show ¬ (a ≤ y ∧ y < i) by omega)]
      by_cases c3 : x < i - 1
      · rw [if_pos (by omega), if_pos (by omega)]
        exact h _ _ (by omega) (by omega) (by omega)
      · by_cases c4 : x = i - 1
        · rw [if_pos (by omega), if_neg (by omega), show x - (i - (a + 1)) = a by omega]
          exact hhi _ (by omega) (by omega)
        · rw [if_neg (by omega)]
          exact h _ _ (by omega) (by omega) (by omega)

/-- One element put into a sorted range ahead of it. -/
theorem merge_last (hS : SWO lt) {a m i : Nat} {d d' : Array α} (h : SortedIn lt a m d) (hb : m < d.size) (h1 : a ≤ i) (h2 : i ≤ m)
    (hlo : ∀ x, a ≤ x → x < i → lt d[m]! d[x]! = false) (hhi : ∀ x, i ≤ x → x < m → lt d[m]! d[x]! = true) (hm : Moved (rotF i m (m + 1)) d d') : PermIn a (m + 1) d d' ∧ SortedIn lt a (m + 1) d' := by
  refine ⟨permIn_mono d d' i (m + 1) a (m + 1) h1 (Nat.le_refl _) (by omega) (hm.perm h2 (by omega) (by omega)), fun x y hx hxy hy => ?_⟩
  rw [hm.2, hm.2]
  unfold rotF
  by_cases c1 : y < i
  · rw [if_neg (by omega), if_neg (by omega)]
    exact h _ _ (by omega) (by omega) (by omega)
  · by_cases c2 : y = i
    · subst c2
      rw [if_pos (by omega), if_pos (by omega), if_neg (by omega), show y + (m - y) = m by omega]
      exact hlo _ (by omega) (by omega)
    · rw [if_pos (show i ≤ y ∧ y < m + 1 by omega), if_neg (show ¬ y < i + (m + 1 - m) by omega), show y - (m + 1 - m) = y - 1 by omega]
      by_cases c3 : x < i
      · rw [if_neg (by omega)]
        exact h _ _ (by omega) (by omega) (by omega)
      · by_cases c4 : x = i
        · subst c4
          rw [if_pos (by omega), if_pos (by omega), show x + (m - x) = m by omega]
          exact hS.asymmA (hhi _ (by omega) (by omega))
        · rw [if_pos (by omega), if_neg (by omega)]
          exact h _ _ (by omega) (by omega) (by omega)

/-- What stands behind the turn of the middle: four sorted ranges, and no element of the lower half behind one of the upper. -/
theorem merge_split (hS : SWO lt) {a m b mid s e lo hi : Nat} {d d' : Array α} (hX : SortedIn lt a m d) (hY : SortedIn lt m b d) (hb : b ≤ d.size) (ham : a < m) (hmb : m < b)
    (hmid : mid = (a + b) / 2) (he : e + s = mid + m) (hs1 : lo ≤ s) (hs2 : s ≤ hi) (hse : (mid < m ∧ lo + b = mid + m ∧ hi = mid) ∨ (m ≤ mid ∧ lo = a ∧ hi = m))
    (hlo : s = lo ∨ lt d[e]! d[s - 1]! = false) (hhi : s = hi ∨ lt d[e - 1]! d[s]! = true) (hm : Moved (rotF s m e) d d') :
    a ≤ s ∧ s ≤ mid ∧ s ≤ m ∧ m ≤ e ∧ mid ≤ e ∧ e ≤ b ∧ a < mid ∧ mid < b ∧ SortedIn lt a s d' ∧ SortedIn lt s mid d' ∧ SortedIn lt mid e d' ∧ SortedIn lt e b d' ∧ ∀ x y, a ≤ x → x < mid → mid ≤ y → y < b → lt d'[y]! d'[x]! = false := by
  have b1 : a ≤ s := by omega
  have b2 : s ≤ mid := by omega
  have b3 : s ≤ m := by omega
  have b4 : m ≤ e := by omega
  have b5 : mid ≤ e := by omega
  have b6 : e ≤ b := by omega
  have b7 : a < mid := by omega
  have b8 : mid < b := by omega
  have g1 : ∀ x, x < s → d'[x]! = d[x]! := fun x hx => by rw [hm.2]; unfold rotF; rw [if_neg (by omega)]
  have g2 : ∀ x, s ≤ x → x < mid → d'[x]! = d[x + (m - s)]! := fun x h1 h2 => by rw [hm.2]; unfold rotF; rw [if_pos (by omega), if_pos (by omega)]
  have g3 : ∀ x, mid ≤ x → x < e → d'[x]! = d[x - (e - m)]! := fun x h1 h2 => by rw [hm.2]; unfold rotF; rw [if_pos (by omega), if_neg (by omega)]
  have g4 : ∀ x, e ≤ x → d'[x]! = d[x]! := fun x hx => by rw [hm.2]; unfold rotF; rw [if_neg (by omega)]
  refine ⟨b1, b2, b3, b4, b5, b6, b7, b8, ?_, ?_, ?_, ?_, ?_⟩
  · intro i j h1 h2 h3
    rw [g1 _ (by omega), g1 _ (by omega)]; exact hX _ _ (by omega) (by omega) (by omega)
  · intro i j h1 h2 h3
    rw [g2 _ (by omega) (by omega), g2 _ (by omega) (by omega)]; exact hY _ _ (by omega) (by omega) (by omega)
  · intro i j h1 h2 h3
    rw [g3 _ (by omega) (by omega), g3 _ (by omega) (by omega)]; exact hX _ _ (by omega) (by omega) (by omega)
  · intro i j h1 h2 h3
    rw [g4 _ (by omega), g4 _ (by omega)]; exact hY _ _ (by omega) (by omega) (by omega)
  · intro x y hx1 hx2 hy1 hy2
    by_cases cx : x < s
    · rw [g1 x cx]
      by_cases cy : y < e
      · rw [g3 y hy1 cy]; exact sortedIn_le hS hX (by omega) (by omega) (by omega)
      · rw [g4 y (by omega)]
        rcases hlo with hlo | hlo
        · exfalso; omega
        · have k1 : lt d[s - 1]! d[x]! = false := sortedIn_le hS hX (by omega) (by omega) (by omega)
          have k2 : lt d[y]! d[e]! = false := sortedIn_le hS hY (by omega) (by omega) (by omega)
          exact hS.ntrans _ _ _ (hS.ntrans _ _ _ k2 hlo) k1
    · rw [g2 x (by omega) hx2]
      by_cases cy : y < e
      · rw [g3 y hy1 cy]
        rcases hhi with hhi | hhi
        · exfalso; omega
        · have k1 : lt d[e - 1]! d[x + (m - s)]! = false := sortedIn_le hS hY (by omega) (by omega) (by omega)
          have k2 : lt d[y - (e - m)]! d[s]! = false := sortedIn_le hS hX (by omega) (by omega) (by omega)
          exact hS.ntrans _ _ _ (hS.ntrans _ _ _ k2 (hS.asymmA hhi)) k1
      · rw [g4 y (by omega)]; exact sortedIn_le hS hY (by omega) (by omega) (by omega)

theorem sortedIn_congr {a b : Nat} {d d' : Array α} (h : SortedIn lt a b d) (he : ∀ x, a ≤ x → x < b → d'[x]! = d[x]!) : SortedIn lt a b d' := fun i j h1 h2 h3 => by
  rw [he i (by omega) (by omega), he j (by omega) h3]; exact h i j h1 h2 h3
/-- Both halves put in order. -/
theorem merge_join {a mid b : Nat} {d1 d2 d3 : Array α} (hb : b ≤ d1.size) (h1 : a ≤ mid) (h2 : mid ≤ b) (hlr : ∀ x y, a ≤ x → x < mid → mid ≤ y → y < b → lt d1[y]! d1[x]! = false)
    (p1 : PermIn a mid d1 d2) (s1 : SortedIn lt a mid d2) (p2 : PermIn mid b d2 d3) (s2 : SortedIn lt mid b d3) : PermIn a b d1 d3 ∧ SortedIn lt a b d3 := by
  have hs2 : d2.size = d1.size := p1.1
  refine ⟨permIn_trans d1 d2 d3 a b (permIn_mono d1 d2 a mid a b (Nat.le_refl _) h2 hb p1) (permIn_mono d2 d3 mid b a b h1 (Nat.le_refl _) (by omega) p2), fun x y hx hxy hy => ?_⟩
  by_cases c1 : mid ≤ x
  · exact s2 x y c1 hxy hy
  · by_cases c2 : y < mid
    · rw [p2.2.1 x (Or.inl (by omega)), p2.2.1 y (Or.inl c2)]; exact s1 x y hx hxy c2
    · rw [p2.2.1 x (Or.inl (by omega))]
      have k1 : ∀ y, mid ≤ y → y < b → ∀ x, a ≤ x → x < mid → lt d2[y]! d2[x]! = false := fun y y1 y2 => by
        rw [p1.2.1 y (Or.inr y1)]
        exact permIn_all d1 d2 a mid (fun v => lt d1[y]! v = false) (by omega) p1 (fun x x1 x2 => hlr x y x1 x2 y1 y2)
      exact permIn_all d2 d3 mid b (fun v => lt v d2[x]! = false) (by omega) p2 (fun y y1 y2 => k1 y y1 y2 x hx (by omega)) y (by omega) hy
end
end Go.Proofs.Ythplelglifnhoaa
