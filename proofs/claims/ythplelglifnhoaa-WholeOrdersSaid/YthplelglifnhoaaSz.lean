import Derived.Test.YthplelglifnhoaaSy
import Derived.Test.YthplelglifnhoaaSp
import Derived.Shelf.SlSortCmp.PdqK
/-! Rows put in order, by blocks that are merged in place. -/
namespace Go.Proofs.Ythplelglifnhoaa
open Go.Shelf Go.RowKit Go.Lib Go.Sort
set_option linter.unusedVariables false
set_option linter.unusedSimpArgs false
attribute [-simp] Try.isAgg36 Try.sizeOf36 Try.typeInfo36 Try.type36
section
variable {α : Type} [Inhabited α]
def BlkTo (lt : α → α → Bool) (B q : Nat) (d : Array α) : Prop := ∀ i, i < q → SortedIn lt (B * i) (B * i + B) d
def BlkFrom (lt : α → α → Bool) (bs a n : Nat) (d : Array α) : Prop := ∀ i, SortedIn lt (a + bs * i) (min (a + bs * i + bs) n) d
variable {lt : α → α → Bool}
theorem BlkTo.none (B : Nat) (d : Array α) : BlkTo lt B 0 d := fun i h => by omega
theorem BlkTo.next {B q : Nat} {d d' : Array α} (h : BlkTo lt B q d) (hp : PermIn (B * q) (B * q + B) d d') (hs : SortedIn lt (B * q) (B * q + B) d') : BlkTo lt B (q + 1) d' := fun i hi => by
  by_cases c : i = q
  · subst c; exact hs
  · have hlt : i + 1 ≤ q := by omega
    have := Nat.mul_le_mul_left B hlt
    rw [Nat.mul_add, Nat.mul_one] at this
    exact sortedIn_congr (h i (by omega)) fun x x1 x2 => hp.2.1 x (.inl (by omega))
theorem BlkFrom.next {bs a n m : Nat} {d d' : Array α} (h : BlkFrom lt bs a n d) (hm : m = a + 2 * bs) (hp : PermIn a m d d') : BlkFrom lt bs m n d' := fun i => by
  have := h (i + 2)
  rw [Nat.mul_add, Nat.mul_comm bs 2] at this
  subst hm
  rw [show a + 2 * bs + bs * i = a + (bs * i + 2 * bs) by omega]
  exact sortedIn_congr this fun x x1 x2 => hp.2.1 x (.inr (by omega))
theorem BlkTo.end_ {B q n : Nat} {d d' : Array α} (h : BlkTo lt B q d) (h1 : B * q ≤ n) (h2 : n ≤ B * q + B) (hp : PermIn (B * q) n d d') (hs : SortedIn lt (B * q) n d') : BlkFrom lt B 0 n d' := fun i => by
  rw [Nat.zero_add]
  by_cases c : i = q
  · subst c; rw [Nat.min_eq_right h2]; exact hs
  · by_cases c2 : i < q
    · have hlt : i + 1 ≤ q := by omega
      have := Nat.mul_le_mul_left B hlt
      rw [Nat.mul_add, Nat.mul_one] at this
      rw [Nat.min_eq_left (by omega)]
      exact sortedIn_congr (h i c2) fun x x1 x2 => hp.2.1 x (.inl (by omega))
    · have hlt : q + 1 ≤ i := by omega
      have := Nat.mul_le_mul_left B hlt
      rw [Nat.mul_add, Nat.mul_one] at this
      intro x y x1 x2 x3
      omega
theorem BlkFrom.whole {bs n : Nat} {d : Array α} (h : BlkFrom lt bs 0 n d) (hn : n ≤ bs) : SortedIn lt 0 n d := by
  have := h 0
  rwa [Nat.mul_zero, Nat.zero_add, Nat.zero_add, Nat.min_eq_right hn] at this

theorem BlkFrom.at0 {bs a n : Nat} {d : Array α} (h : BlkFrom lt bs a n d) : SortedIn lt a (min (a + bs) n) d := by
  have := h 0
  rwa [Nat.mul_zero, Nat.add_zero] at this
theorem BlkFrom.at1 {bs a n : Nat} {d : Array α} (h : BlkFrom lt bs a n d) : SortedIn lt (a + bs) (min (a + bs + bs) n) d := by
  have := h 1
  rwa [Nat.mul_one] at this
set_option maxHeartbeats 16000000 in
set_option maxRecDepth 1000000 in
theorem stable_any (k : Nat) (aE : ∀ w, (isAgg 36).run Try.prog w = .ok true w) (zE : ∀ w, (Go.sizeOf 36).run Try.prog w = .ok k w) (enc : α → List Value) (cf : α → α → Int) (hO : SWO (ltOf cf)) (g : Nat) (cb : Array Value) (blk off cap : Nat) (d0 : Array α) (w0 : World)
    (eg : ∀ args w, (callFunc g args).run Try.prog w = .ok (.enter g args) w) (hcmp : CmpLays Try.prog g cb enc k cf blk off d0.size w0) (R : RowK enc k w0 blk off d0) (hsz : d0.size ≤ 1000000) :
    Calls Try.prog 55 #[.slice (some ⟨blk, off, none⟩) d0.size cap, .int .i64 d0.size, .func (.func g) #[] cb] w0 fun e w' => e = .returned (.tuple #[]) ∧ ∃ d', PermIn 0 d0.size d0 d' ∧ SortedIn (ltOf cf) 0 d0.size d' ∧ SWK enc k w0 blk off d' w' := by
  have INS : Aside (∀ (a b : Nat) (d2 : Array α) (w : World), d2.size = d0.size → SWK enc k w0 blk off d2 w → a ≤ b → b ≤ d0.size → Calls Try.prog 84 #[.slice (some ⟨blk, off, none⟩) d0.size cap, .int .i64 a, .int .i64 b, .func (.func g) #[] cb] w fun e w' => e = .returned (.tuple #[]) ∧ ∃ d', PermIn a b d2 d' ∧ SortedIn (ltOf cf) a b d' ∧ SWK enc k w0 blk off d' w') :=
    fun a b d2 w q1 q2 q3 q4 => by
      have := AnyQ.insertionSortCmpFunc_w (P := Try.prog) Try.insEv k aE zE enc cf g cb blk off cap a b d0 d2 w0 w eg hcmp R q1.symm q2 hO q3 (by omega) (by omega)
      rw [q1] at this
      refine this.mono ?_
      rintro e w' ⟨rfl, S⟩
      have h := insertionSort_holds hO d2 a b q3 (by omega)
      exact ⟨rfl, _, h.1, h.2, S⟩
  have SYM : Aside (∀ (a m b : Nat) (d2 : Array α) (w : World), d2.size = d0.size → SWK enc k w0 blk off d2 w → a < m → m < b → b ≤ d0.size → SortedIn (ltOf cf) a m d2 → SortedIn (ltOf cf) m b d2 → Calls Try.prog 85 #[.slice (some ⟨blk, off, none⟩) d0.size cap, .int .i64 a, .int .i64 m, .int .i64 b, .func (.func g) #[] cb] w fun e w' => e = .returned (.tuple #[]) ∧ ∃ d', PermIn a b d2 d' ∧ SortedIn (ltOf cf) a b d' ∧ SWK enc k w0 blk off d' w') :=
    fun a m b d2 w q1 q2 q3 q4 q5 q6 q7 => by
      have := symMerge_any k aE zE enc cf hO g cb blk off cap d0 w0 eg hcmp R (b - a + 1) a m b d2 w (by omega) q1.symm q2 q3 q4 (by omega) (by omega) q6 q7
      rwa [q1] at this
  have S0 : Aside (SWK enc k w0 blk off d0 w0) := SWK.start R.hH
  obtain ⟨n, hn⟩ : ∃ n, n = d0.size := ⟨_, rfl⟩
  have HN : Aside (n = d0.size) := hn
  have MONO : Aside (∀ (a b : Nat) (d1 d2 : Array α), b ≤ n → PermIn 0 n d0 d1 → PermIn a b d1 d2 → PermIn 0 n d0 d2) := fun a b d1 d2 hb p q => permIn_trans d0 d1 d2 0 n p (permIn_mono d1 d2 a b 0 n (Nat.zero_le _) hb (by rw [p.1, HN.out]; omega) q)
  clear hcmp R aE zE eg
  rw [← hn] at INS SYM hsz ⊢
  clear hn
  go_enter Try.func55, Try.ntmps55
  go_wp2
  go_loopg [7, 8] (n + 20) (fun kx s7 s8 wr => ∃ (q : Nat) (dk : Array α), s7 = .int .i64 ((20 * q : Nat) : Int) ∧ s8 = .int .i64 (((20 * q : Nat) : Int) + 20) ∧ 20 * q ≤ n ∧ n + 20 - 20 * q ≤ kx ∧ Aside (SWK enc k w0 blk off dk wr) ∧ Aside (PermIn 0 n d0 dk ∧ BlkTo (ltOf cf) 20 q dk))
  case atStart => exact ⟨0, d0, rfl, rfl, by omega, by omega, S0, permIn_refl d0 0 n, BlkTo.none 20 d0⟩
  case round =>
    clear S0
    obtain ⟨q, dk, rfl, rfl, hqn, hkx, S1, P1⟩ := hrel
    obtain ⟨a, ha⟩ : ∃ a, a = 20 * q := ⟨_, rfl⟩
    have HA : Aside (a = 20 * q) := ha
    rw [← ha] at hqn hkx ⊢
    clear ha
    have hdk : Aside (dk.size = n) := P1.out.1.1.trans HN.out.symm
    by_cases hlt : a + 20 ≤ n
    · as_aux_lemma =>
      have hltz : (a : Int) + 20 ≤ (n : Int) := by omega
      have w1 : IntKind.i64.wrap ((a : Int) + 20 + 20) = (a : Int) + 20 + 20 := by rw [IntKind.wrap_i64]; omega
      have hc := INS.out a (a + 20) dk wr hdk.out S1.out (by omega) hlt
      have hn1 : ((20 * (q + 1) : Nat) : Int) = (a : Int) + 20 := by have := HA.out; omega
      rw [show ((a + 20 : Nat) : Int) = (a : Int) + 20 by omega] at hc
      go_wp2_with (go_at_call 84; (with_reducible refine hc.mono ?_); rintro e' w3 ⟨rfl, d3, M3, M4, S3⟩; have S3 : Aside _ := S3; have M3 : Aside (_ ∧ _) := ⟨M3, M4⟩; clear M4)
      go_roundg (n - a)
      case measure => omega
      case rel => exact ⟨q + 1, d3, by rw [hn1], by rw [hn1], by have := HA.out; omega, by have := HA.out; omega, S3, MONO.out _ _ _ _ hlt P1.out.1 M3.out.1, by have h1 := M3.out.1; have h2 := M3.out.2; rw [HA.out] at h1 h2; exact P1.out.2.next h1 h2⟩
    · have hltz : ¬ (a : Int) + 20 ≤ (n : Int) := by omega
      have hc := INS.out a n dk wr hdk.out S1.out hqn (Nat.le_refl _)
      go_wp2_with (go_at_call 84; (with_reducible refine hc.mono ?_); rintro e' w3 ⟨rfl, d3, M3, M4, S3⟩; have S3 : Aside _ := S3; have M3 : Aside (_ ∧ _) := ⟨M3, M4⟩; clear M4)
      have B3 : Aside (PermIn 0 n d0 d3 ∧ BlkFrom (ltOf cf) 20 0 n d3) := ⟨MONO.out _ _ _ _ (Nat.le_refl _) P1.out.1 M3.out.1, by have h1 := M3.out.1; have h2 := M3.out.2; rw [HA.out] at h1 h2; exact P1.out.2.end_ (by have := HA.out; omega) (by have := HA.out; omega) h1 h2⟩
      clear M3 P1 S1 hc hdk hltz hlt HA hqn hkx INS
      generalize hw5 : wr = wo at *
      clear hw5
      go_loopg [6, 7, 8, 9] n (fun kx s6 s7 s8 s9 wr => ∃ (bs : Nat) (dk : Array α), s6 = .int .i64 bs ∧ 20 ≤ bs ∧ bs ≤ 2000000 ∧ n - bs ≤ kx ∧ Aside (SWK enc k w0 blk off dk wr) ∧ Aside (PermIn 0 n d0 dk ∧ BlkFrom (ltOf cf) bs 0 n dk))
      case atStart => exact ⟨20, d3, rfl, Nat.le_refl _, by omega, by omega, S3, B3⟩
      case round =>
        clear S3 B3
        obtain ⟨bs, db, rfl, hb1, hb2, hkx, S1, P1⟩ := hrel
        by_cases hlt : bs < n
        · have hltz : (bs : Int) < (n : Int) := by omega
          obtain ⟨B, hB⟩ : ∃ B, B = 2 * bs := ⟨_, rfl⟩
          have HB : Aside (B = 2 * bs) := hB
          have w1 : (2 : Int) * (bs : Int) = (B : Int) := by omega
          have w2 : (bs : Int) * 2 = (B : Int) := by omega
          have wB : IntKind.i64.wrap (B : Int) = (B : Int) := by rw [IntKind.wrap_i64]; omega
          have hB1 : B ≤ 2 * n := by omega
          have hB2 : bs + 20 ≤ B := by omega
          clear hB
          go_wp2
          generalize hw6 : wr = wo2 at *
          clear hw6
          go_loopg [7, 8] (n + B) (fun kx s7 s8 wr => ∃ (q : Nat) (dk : Array α), s7 = .int .i64 ((B * q : Nat) : Int) ∧ s8 = .int .i64 (((B * q : Nat) : Int) + (B : Int)) ∧ B * q ≤ n ∧ n + B - B * q ≤ kx ∧ Aside (SWK enc k w0 blk off dk wr) ∧ Aside (PermIn 0 n d0 dk ∧ BlkTo (ltOf cf) B q dk ∧ BlkFrom (ltOf cf) bs (B * q) n dk))
          case atStart => exact ⟨0, db, by first | rfl | simp, by first | rfl | simp, by omega, by omega, S1, P1.out.1, BlkTo.none B db, P1.out.2⟩
          case round =>
            clear S1 P1
            obtain ⟨q, dk, rfl, rfl, hqn, hky, S1, P1⟩ := hrel
            obtain ⟨a, ha⟩ : ∃ a, a = B * q := ⟨_, rfl⟩
            have HA : Aside (a = B * q) := ha
            rw [← ha] at hqn hky ⊢
            clear ha
            have hdk : Aside (dk.size = n) := P1.out.1.1.trans HN.out.symm
            have wab : IntKind.i64.wrap ((a : Int) + (bs : Int)) = (a : Int) + (bs : Int) := by rw [IntKind.wrap_i64]; omega
            by_cases hle : a + B ≤ n
            · as_aux_lemma =>
              have hlez : (a : Int) + (B : Int) ≤ (n : Int) := by omega
              have w3 : IntKind.i64.wrap ((a : Int) + (B : Int) + (B : Int)) = (a : Int) + (B : Int) + (B : Int) := by rw [IntKind.wrap_i64]; omega
              have hc := SYM.out a (a + bs) (a + B) dk wr hdk.out S1.out (by omega) (by omega) hle (by have := P1.out.2.2; rw [← HA.out] at this; have := this.at0; rwa [Nat.min_eq_left (by omega)] at this) (by have := P1.out.2.2; rw [← HA.out] at this; have := this.at1; rwa [Nat.min_eq_left (by have := HB.out; omega), show a + bs + bs = a + B by have := HB.out; omega] at this)
              have hn1 : B * (q + 1) = a + B := by rw [HA.out, Nat.mul_succ]
              have hn2 : ((B * (q + 1) : Nat) : Int) = (a : Int) + (B : Int) := by rw [hn1]; omega
              rw [show ((a + B : Nat) : Int) = (a : Int) + (B : Int) by omega, show ((a + bs : Nat) : Int) = (a : Int) + (bs : Int) by omega] at hc
              have HN1 : Aside _ := hn1
              have HN2 : Aside _ := hn2
              clear hn1 hn2
              go_wp2_with (go_at_call 85; (with_reducible refine hc.mono ?_); rintro e' w3 ⟨rfl, d3, M3, M4, S3⟩; have S3 : Aside _ := S3; have M3 : Aside (_ ∧ _) := ⟨M3, M4⟩; clear M4)
              go_roundg (n - a)
              case measure => omega
              case rel =>
                have h1 := M3.out.1
                have h2 := M3.out.2
                refine ⟨q + 1, d3, by rw [HN2.out], by rw [HN2.out], by rw [HN1.out]; exact hle, by rw [HN1.out]; omega, S3, MONO.out _ _ _ _ hle P1.out.1 h1, ?_, ?_⟩
                · rw [HA.out] at h1 h2; exact P1.out.2.1.next h1 h2
                · rw [HN1.out]
                  have := P1.out.2.2
                  rw [← HA.out] at this
                  exact this.next (by have := HB.out; omega) h1
            · have hlez : ¬ (a : Int) + (B : Int) ≤ (n : Int) := by omega
              by_cases hm : a + bs < n
              · as_aux_lemma =>
                have hmz : (a : Int) + (bs : Int) < (n : Int) := by omega
                have hc := SYM.out a (a + bs) n dk wr hdk.out S1.out (by omega) hm (Nat.le_refl _) (by have := P1.out.2.2; rw [← HA.out] at this; have := this.at0; rwa [Nat.min_eq_left (by omega)] at this) (by have := P1.out.2.2; rw [← HA.out] at this; have := this.at1; rwa [Nat.min_eq_right (by have := HB.out; omega)] at this)
                rw [show ((a + bs : Nat) : Int) = (a : Int) + (bs : Int) by omega] at hc
                go_wp2_with (go_at_call 85; (with_reducible refine hc.mono ?_); rintro e' w3 ⟨rfl, d3, M3, M4, S3⟩; have S3 : Aside _ := S3; have M3 : Aside (_ ∧ _) := ⟨M3, M4⟩; clear M4)
                go_roundg (n - B)
                case measure => omega
                case rel =>
                  have h1 := M3.out.1
                  have h2 := M3.out.2
                  refine ⟨B, d3, rfl, by omega, by omega, Nat.le_refl _, S3, MONO.out _ _ _ _ (Nat.le_refl _) P1.out.1 h1, ?_⟩
                  rw [HA.out] at h1 h2 hqn
                  exact P1.out.2.1.end_ hqn (by have := HA.out; omega) h1 h2
              · as_aux_lemma =>
                have hmz : ¬ (a : Int) + (bs : Int) < (n : Int) := by omega
                go_wp2
                go_roundg (n - B)
                case measure => omega
                case rel =>
                  have h2 : SortedIn (ltOf cf) (B * q) n dk := by have := P1.out.2.2.at0; rwa [Nat.min_eq_right (by have := HA.out; omega)] at this
                  refine ⟨B, dk, rfl, by omega, by omega, Nat.le_refl _, S1, P1.out.1, ?_⟩
                  exact P1.out.2.1.end_ (by have := HA.out; omega) (by have := HA.out; omega) (permIn_refl dk _ _) h2
        · as_aux_lemma =>
          have hltz : ¬ (bs : Int) < (n : Int) := by omega
          go_wp2
          go_end0
          exact ⟨rfl, db, P1.out.1, P1.out.2.whole (by omega), S1.out⟩
end
end Go.Proofs.Ythplelglifnhoaa
