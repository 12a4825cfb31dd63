import Derived.Deep.RegionLaw
import Derived.Deep.DeepCutAuto
import Derived.Deep.CutBlock
import Derived.Test.YtgpfoamhcoipgaaDoorRw
import Derived.Test.YtgpfoamhcoipgaaDoorRp
/-! Tellings laid and read: the law. -/
namespace Go.Proofs.YtgpfoamhcoipgaaDoor
open Go.RowKit
set_option linter.unusedVariables false
theorem rdSt_new {w : World} {A : Option Addr} {n c B : Nat} {ys : List Int} (hn : ys.length = n) (hc : n ≤ c) (hr : Reads w .u8 A ys) (hB : ys ≠ [] → ∀ a, A = some a → a.block < B) (hBw : B ≤ w.heap.size) (o : Obj) :
    RdSt ((w.alloc o).alloc (.cells #[.slice A n c] 79)) (w.heap.size + 1) B ys := by
  subst hn
  have h2 := heap_alloc_new (w.alloc o) (.cells #[.slice A ys.length c] 79)
  rw [show (w.alloc o).heap.size = w.heap.size + 1 from by simp] at h2
  refine ⟨⟨A, c, cell_of_row _ _ 0 _ _ _ h2, hc, (hr.below (below_alloc (Below.refl w.heap.size w) o)).below (below_alloc (Below.refl _ _) _), ?_⟩, frozen_of_row h2 0⟩
  intro hne a ea
  have := hB hne a ea
  exact ⟨by omega, this⟩
theorem reads_lt {w : World} {A : Option Addr} {ys : List Int} (hr : Reads w .u8 A ys) (hne : ys ≠ []) (a : Addr) (ea : A = some a) : a.block < w.heap.size := by
  obtain ⟨b, eb, hb⟩ := hr 0 (by cases ys with | nil => exact absurd rfl hne | cons y ys => simp)
  rw [ea] at eb
  injection eb with eb
  subst eb
  have := cell_lt hb
  rwa [add_block] at this
end Go.Proofs.YtgpfoamhcoipgaaDoor
/-! Changes read: the function Read. -/
namespace Go.Proofs.YtgpfoamhcoipgaaDoor
open Go.RowKit Go.Sort Go.ChangeMaps
set_option linter.unusedVariables false
set_option linter.unusedSectionVars false
attribute [-simp] Tryd.isAgg40 Tryd.sizeOf40 Tryd.typeInfo40 Tryd.type40
attribute [-simp] Tryd.isAgg38 Tryd.sizeOf38 Tryd.typeInfo38 Tryd.type38
attribute [-simp] Tryd.isAgg43 Tryd.sizeOf43 Tryd.typeInfo43 Tryd.type43

set_option maxRecDepth 100000 in
theorem hcf_rd (a : Array Value) (w : World) : (callFunc 12 a).run Tryd.prog w = .ok (.enter 12 a) w := by kernel_rfl
theorem Two.low {g gl B : Nat} {w0 w w' : World} (h : Two g gl w w') (hb : Below B w0 w) (hB : B ≤ w.heap.size) (h1 : B ≤ g) (h2 : B ≤ gl) : Below B w0 w' :=
  ⟨h.os.trans hb.os, h.tape.trans hb.tape, h.output.trans hb.output, Nat.le_trans hb.size h.size, fun i hi => (h.block i (by omega) (by omega) (by omega)).trans (hb.block i hi)⟩
def TryPost (gl : Nat) (R : Option (List Ch × List Int)) (w : World) (e : Ending) (w' : World) : Prop :=
  Below gl w w' ∧ ((R = none ∧ e = .returned (.bool false)) ∨ ∃ L rest v, R = some (L, rest) ∧ e = .returned (.bool ((rest.length : Int) == 0)) ∧ w'.heap[gl]? = some (.cells #[v] 24 (0, 0)) ∧ OwnE w' gl 43 10 chL v L)
set_option maxRecDepth 100000 in
theorem try_rd (A : Option Addr) (n c gl : Nat) (ys : List Int) (w : World) (hn : ys.length = n) (hc : n ≤ c) (hl : ys.length ≤ 3000) (hr : Reads w .u8 A ys) (h8 : Bytes8 ys) (hB : ys ≠ [] → ∀ a, A = some a → a.block < gl) (hkw : gl < w.heap.size)
    (hgl : w.heap[gl]? = some (.cells #[.slice none 0 0] 24 (0, 0))) :
    Calls Tryd.prog 11 #[.slice A n c, .func (.func 12) #[] #[.pointer (some ⟨gl, 0, none⟩)]] w (TryPost gl ((rdU 1099511627776 10 0 0 ys).bind fun p => rdCs p.1 [] p.2) w) := by
  have hs := rdSt_new hn hc hr hB (Nat.le_of_lt hkw) (.cells #[.bool false] 4)
  subst hn
  have hg0 := heap_alloc_new w (.cells #[.bool false] 4)
  have hsz : ((w.alloc (.cells #[.bool false] 4)).alloc (.cells #[.slice A ys.length c] 79)).heap.size = w.heap.size + 2 := by simp
  have hg1 := ((below_alloc (Below.refl (w.alloc (.cells #[.bool false] 4)).heap.size (w.alloc (.cells #[.bool false] 4))) (.cells #[.slice A ys.length c] 79)).block w.heap.size (by simp)).trans hg0
  have hbb := below_alloc (below_alloc (Below.refl w.heap.size w) (.cells #[.bool false] 4)) (.cells #[.slice A ys.length c] 79)
  have hgl2 := (hbb.block gl hkw).trans hgl
  have S : LdS (w.heap.size + 1) gl gl ((w.alloc (.cells #[.bool false] 4)).alloc (.cells #[.slice A ys.length c] 79)) := ⟨by omega, Nat.le_refl _, by rw [hsz]; omega, by rw [hsz]; omega⟩
  have ht := cs_any (w.heap.size + 1) gl gl ys _ S hs h8 hl hgl2
  have hlow : ∀ w2, Two (w.heap.size + 1) gl ((w.alloc (.cells #[.bool false] 4)).alloc (.cells #[.slice A ys.length c] 79)) w2 → Below gl w w2 := fun w2 h => h.low (hbb.mono (Nat.le_of_lt hkw)) (by rw [hsz]; omega) (by omega) (Nat.le_refl _)
  have hcell : ∀ w2, Two (w.heap.size + 1) gl ((w.alloc (.cells #[.bool false] 4)).alloc (.cells #[.slice A ys.length c] 79)) w2 → w2.cell? ⟨w.heap.size, 0, none⟩ = some (.bool false) ∧ w2.frozen? ⟨w.heap.size, 0, none⟩ = false := fun w2 h => by
    have hrow := (h.block w.heap.size (by rw [hsz]; omega) (by omega) (by omega)).trans hg1
    exact ⟨cell_of_row _ _ 0 _ _ _ hrow, frozen_of_row hrow 0⟩
  generalize hW : (w.alloc (.cells #[.bool false] 4)).alloc (.cells #[.slice A ys.length c] 79) = W2 at *
  cases hR : (rdU 1099511627776 10 0 0 ys).bind fun p => rdCs p.1 [] p.2 with
  | none =>
    rw [hR] at ht
    refine (try_bad 12 #[.pointer (some ⟨gl, 0, none⟩)] A c ys w (fun w2 => Two (w.heap.size + 1) gl W2 w2) hcf_rd hcell (by
      rw [hW]
      refine ht.mono ?_
      rintro e w2 ⟨h2, ⟨_, h3⟩ | ⟨L, rest, v, h3, _⟩⟩
      · exact ⟨h3, h2⟩
      · cases h3)).mono ?_
    rintro e w' ⟨w2, h2, rfl, rfl⟩
    have hb2 := hlow w2 h2
    exact ⟨(hb2.trans ((below_alloc (Below.refl w2.heap.size w2) _).mono (Nat.le_trans (Nat.le_of_lt hkw) hb2.size))).setCell (p := ⟨w.heap.size, 0, none⟩) (Nat.le_of_lt hkw) _, .inl ⟨rfl, rfl⟩⟩
  | some q =>
    obtain ⟨L, rest⟩ := q
    rw [hR] at ht
    refine (try_good 12 #[.pointer (some ⟨gl, 0, none⟩)] A c ys w gl rest (fun w2 => Two (w.heap.size + 1) gl W2 w2 ∧ ∃ v, w2.heap[gl]? = some (.cells #[v] 24 (0, 0)) ∧ OwnE w2 W2.heap.size 43 10 chL v L) hcf_rd (fun w2 h => hcell w2 h.1) (by
      rw [hW]
      refine ht.mono ?_
      rintro e w2 ⟨h2, ⟨h3, _⟩ | ⟨L2, rest2, v, h3, h4, h5⟩⟩
      · cases h3
      · injection h3 with h3
        injection h3 with h3 h6
        subst h3 h6
        exact ⟨h4, h5.rd, h2, v, h5.cell, h5.own⟩)).mono ?_
    rintro e w' ⟨w2, ⟨h2, v, h3, h4⟩, rfl, rfl⟩
    have hb2 := hlow w2 h2
    exact ⟨hb2.setCell (p := ⟨w.heap.size, 0, none⟩) (Nat.le_of_lt hkw) _, .inr ⟨L, rest, v, rfl, rfl, (Below.heap_setCell w2 ⟨w.heap.size, 0, none⟩ _ gl (by show gl ≠ w.heap.size; omega)).trans h3, (h4.setCell (fun e => by have := (h4.lt _ e).1; omega) 0 _).mono (by omega)⟩⟩
/-- What a page of changes reads as. -/
def rdAll (xs : List Int) : List Ch × Int :=
  if (pgOne xs 108).2 = 0 then (match rdBody (pgOne xs 108).1 with | some L => (L, 0) | none => ([], 3)) else ([], (pgOne xs 108).2)
/-- A page that reads as changes was laid from them. -/
theorem rdAll_inv {xs : List Int} (h8 : Bytes8 xs) (h : (rdAll xs).2 = 0) : xs = pageOf 108 (layBody (rdAll xs).1) ∧ ∀ c ∈ (rdAll xs).1, GoodC c := by
  unfold rdAll at h ⊢
  split at h
  · rename_i h0
    rw [if_pos h0]
    obtain ⟨h1, h2, h3⟩ := pgOne_inv h8 h0
    split at h
    · rename_i L hL
      obtain ⟨e1, e2⟩ := rdBody_inv h2 hL
      refine ⟨?_, e2⟩
      show xs = pageOf 108 (layBody L)
      rw [← e1]
      exact h1
    · exact absurd h (by decide)
  · rename_i h0; exact absurd h h0
def RdPost (xs : List Int) (w : World) (e : Ending) (w' : World) : Prop :=
  Below w.heap.size w w' ∧ ∃ v, e = .returned (.tuple #[v, .int .i64 (rdAll xs).2]) ∧ OwnE w' w.heap.size 43 10 chL v (rdAll xs).1
set_option maxRecDepth 100000 in
set_option maxHeartbeats 4000000 in
theorem read_all (A : Option Addr) (cap : Nat) (xs : List Int) (w : World) (hl : xs.length ≤ 3000) (hc : xs.length ≤ cap) (h8 : Bytes8 xs) (hx : Reads w .u8 A xs) (ht : HasTab w) :
    Calls Tryd.prog 5 #[.slice A xs.length cap] w (RdPost xs w) := by
  have hone := one_any A cap xs 108 w (Nat.le_trans hl (by decide)) hc h8 hx ht
  have hmf : ∀ (fn : Fn) (first cap : Array Value) (w : World), (Instr.makeFunc fn first cap).run Tryd.prog w = .ok (.func fn first cap) w := fun _ _ _ _ => rfl
  have hk1 := fun v w => check_ok v w
  have hinv : (pgOne xs 108).2 = 0 → Bytes8 (pgOne xs 108).1 ∧ (pgOne xs 108).1.length ≤ 3000 := fun h => by
    obtain ⟨_, h2, h3⟩ := pgOne_inv h8 h
    exact ⟨h2, by omega⟩
  have hall : ∀ e w', Below w.heap.size w w' → (∃ v, e = .returned (.tuple #[v, .int .i64 (rdAll xs).2]) ∧ OwnE w' w.heap.size 43 10 chL v (rdAll xs).1) → RdPost xs w e w' := fun _ _ h1 h2 => ⟨h1, h2⟩
  unfold rdAll at hall
  unfold OnePost at hone
  generalize hp : pgOne xs 108 = p at *
  obtain ⟨body, E⟩ := p
  simp only at hone hall hinv
  have Hinv := Lib.hid hinv
  have Hall := Lib.hid hall
  clear hinv hall hp h8 hx ht hl hc
  by_cases hE : E = 0
  · subst hE
    obtain ⟨h8b, hlb⟩ := Hinv.out rfl
    have hall := Hall.out
    clear Hall Hinv
    rw [if_pos rfl] at hall
    have hrb : rdBody body = ((rdU 1099511627776 10 0 0 body).bind fun p => rdCs p.1 [] p.2).bind fun q => if q.2 = [] then some q.1 else none := by
      unfold rdBody
      cases rdU 1099511627776 10 0 0 body <;> rfl
    have htry : ∀ w1 A' c', body.length ≤ c' → Reads w1 .u8 A' body → Below w.heap.size w w1 → Calls Tryd.prog 11 #[.slice A' body.length c', .func (.func 12) #[] #[.pointer (some ⟨w1.heap.size, 0, none⟩)]] (w1.alloc (.cells #[.slice none 0 0] 24)) fun e w' => Below w.heap.size w w' ∧ TryPost w1.heap.size ((rdU 1099511627776 10 0 0 body).bind fun p => rdCs p.1 [] p.2) (w1.alloc (.cells #[.slice none 0 0] 24)) e w' := fun w1 A' c' h1 h2 h3 => by
      refine (try_rd A' body.length c' w1.heap.size body _ rfl h1 hlb (h2.below (below_alloc (Below.refl _ _) _)) h8b (fun hne a ea => reads_lt h2 hne a ea) (by simp) (heap_alloc_new w1 _)).mono ?_
      rintro e w' h
      exact ⟨h3.trans (((below_alloc (Below.refl w1.heap.size w1) _).trans h.1).mono h3.size), h⟩
    generalize hR : ((rdU 1099511627776 10 0 0 body).bind fun p => rdCs p.1 [] p.2) = R at *
    have Htry := Lib.hid htry
    clear htry hR hlb
    rw [hrb] at hall
    clear hrb
    have hcase : (∃ L, R = some (L, [])) ∨ ((R.bind fun q => if q.2 = [] then some q.1 else none) = none ∧ ∀ L rest, R = some (L, rest) → ((rest.length : Int) == 0) = false) := by
      cases R with
      | none => exact .inr ⟨rfl, fun _ _ h => by cases h⟩
      | some q =>
        obtain ⟨L, rest⟩ := q
        cases rest with
        | nil => exact .inl ⟨L, rfl⟩
        | cons b rest => exact .inr ⟨rfl, fun _ _ h => by injection h with h; injection h with h1 h2; subst h2; simp; omega⟩
    rcases hcase with ⟨L, rfl⟩ | ⟨hnone, hrest⟩
    · have Hall := Lib.hid hall
      clear hall
      go_enter Tryd.func5, Tryd.ntmps5
      go_wp2_with (first | (go_at_call 10; (with_reducible refine hone.mono ?_); rintro e w1 ⟨A', c', rfl, hc1, hr1, hb1⟩; have ht1 := Htry.out w1 A' c' hc1 hr1 hb1) | (go_at_call 11; (with_reducible refine ht1.mono ?_); rintro e w2 ⟨hb2, hb3, hh⟩; obtain ⟨L2, rest, v, h3, rfl, h4, h5⟩ := hh.resolve_left (fun h => by cases h.1); injection h3 with h3; injection h3 with h3 h6; subst h3 h6; have hcv := cell_of_row _ _ 0 _ _ _ h4; have hfv := frozen_of_row h4 0))
      go_ret2
      exact Hall.out _ _ hb2 ⟨_, rfl, h5.mono hb1.size⟩
    · have hfalse : ∀ {gl w e w'}, TryPost gl R w e w' → e = .returned (.bool false) := by
        rintro gl w e w' ⟨_, ⟨_, h⟩ | ⟨L, rest, v, h1, h2, _⟩⟩
        · exact h
        · rw [h2, hrest L rest h1]
      have Hfalse := Lib.hid (fun gl w e w' => @hfalse gl w e w')
      rw [hnone] at hall
      have Hall := Lib.hid hall
      clear hall
      clear hfalse hrest hnone
      go_enter Tryd.func5, Tryd.ntmps5
      go_wp2_with (first | (go_at_call 10; (with_reducible refine hone.mono ?_); rintro e w1 ⟨A', c', rfl, hc1, hr1, hb1⟩; have ht1 := Htry.out w1 A' c' hc1 hr1 hb1) | (go_at_call 11; (with_reducible refine ht1.mono ?_); rintro e w2 ⟨hb2, hh⟩; have hh := Hfalse.out _ _ _ _ hh; subst hh))
      go_ret2
      exact Hall.out _ _ hb2 ⟨_, rfl, OwnE.nil _ _⟩
  · have e0 : (E != 0) = true := by simpa using hE
    go_enter Tryd.func5, Tryd.ntmps5
    go_wp2_with (go_at_call 10; (with_reducible refine hone.mono ?_); rintro e w1 ⟨A', c', rfl, hc1, hr1, hb1⟩)
    rw [if_neg hE] at Hall
    go_ret2
    exact Hall.out _ _ hb1 ⟨_, rfl, OwnE.nil _ _⟩
end Go.Proofs.YtgpfoamhcoipgaaDoor
