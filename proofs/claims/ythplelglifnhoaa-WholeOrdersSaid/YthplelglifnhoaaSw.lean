import Derived.Test.YthplelglifnhoaaSm
import Derived.Test.YthplelglifnhoaaBase
import Derived.Shelf.SlSortCmp.KitK
import Derived.Sort.WalkB2
import Derived.Sort.WalkB12
import Derived.Deep.LoopGhost
/-! Ranges exchanged and turned about in place. -/
namespace Go.Proofs.Ythplelglifnhoaa
open Go.Shelf Go.RowKit Go.Lib Go.Sort
set_option linter.unusedVariables false
set_option linter.unusedSimpArgs false
attribute [-simp] Try.isAgg36 Try.sizeOf36 Try.typeInfo36 Try.type36
section
variable {α : Type} [Inhabited α]
set_option maxHeartbeats 4000000 in
set_option maxRecDepth 1000000 in
theorem swapRange_any (k : Nat) (aE : ∀ w, (isAgg 36).run Try.prog w = .ok true w) (zE : ∀ w, (Go.sizeOf 36).run Try.prog w = .ok k w) (enc : α → List Value) (fv : Value) (blk off cap a b n : Nat) (d0 d : Array α) (w0 w : World)
    (R : RowK enc k w0 blk off d0) (hs : d0.size = d.size) (S : SWK enc k w0 blk off d w) (hab : a + n ≤ b) (hb : b + n ≤ d.size) (hsz : d.size < 4611686018427387904) :
    Calls Try.prog 104 #[.slice (some ⟨blk, off, none⟩) d.size cap, .int .i64 a, .int .i64 b, .int .i64 n, fv] w fun e w' => e = .returned (.tuple #[]) ∧ ∃ d', Moved (swapF a b n) d d' ∧ SWK enc k w0 blk off d' w' := by
  have mixed : Try.prog.follows .mixedOrders = true := by kernel_rfl
  have S0 : Aside (SWK enc k w0 blk off d w) := S
  clear S
  go_enter Try.func104, Try.ntmps104
  go_wp2
  go_loopg [10] n (fun kx s10 wr => ∃ (i : Nat) (dk : Array α), s10 = .int .i64 i ∧ i ≤ n ∧ n - i ≤ kx ∧ dk.size = d.size ∧ Aside (SWK enc k w0 blk off dk wr) ∧ Aside (Moved (swapF a b i) d dk))
  case atStart => exact ⟨0, d, rfl, Nat.zero_le _, by omega, rfl, S0, Moved.id d (swapF_none a b)⟩
  case round =>
    clear S0
    obtain ⟨i, dk, rfl, hin, hkx, hds, S1, M1⟩ := hrel
    by_cases hlt : i < n
    · have hltz : (i : Int) < (n : Int) := by omega
      have ea44 : ((a : Int) + (i : Int)).toNat = a + i := by omega
      have pa44 : (0 : Int) ≤ (a : Int) + (i : Int) := by omega
      have ba44 : (a : Int) + (i : Int) < (d.size : Int) := by omega
      have ra44 : IntKind.i64.wrap ((a : Int) + (i : Int)) = (a : Int) + (i : Int) := by rw [IntKind.wrap_i64]; omega
      have ec44 : ((b : Int) + (i : Int)).toNat = b + i := by omega
      have pc44 : (0 : Int) ≤ (b : Int) + (i : Int) := by omega
      have bc44 : (b : Int) + (i : Int) < (d.size : Int) := by omega
      have rc44 : IntKind.i64.wrap ((b : Int) + (i : Int)) = (b : Int) + (i : Int) := by rw [IntKind.wrap_i64]; omega
      have ri44 : IntKind.i64.wrap ((i : Int) + 1) = (i : Int) + 1 := by rw [IntKind.wrap_i64]; omega
      have S2 : Aside (SWK enc k w0 blk off (swp dk (a + i) (b + i)) ((wr.drew.setCells blk (off + (a + i) * k) (enc dk[b + i]!)).setCells blk (off + (b + i) * k) (enc dk[a + i]!))) := S1.out.swapped R (a + i) (b + i) (by omega) (by omega)
      have M2 : Aside (Moved (swapF a b (i + 1)) d (swp dk (a + i) (b + i))) := M1.out.comp (moved_swp dk (a + i) (b + i) (by omega) (by omega)) (fun x => swapF_next a b i x (by omega))
      have l44a := S1.out.ld1 R (by omega) Try.prog (a + i) (by omega)
      have l44b := S1.out.ld1 R (by omega) Try.prog (b + i) (by omega)
      have s44a := S1.out.st1 R (by omega) Try.prog (a + i) (by omega) dk[b + i]!
      have s44b := S1.out.st2 R (by omega) Try.prog (a + i) (b + i) (by omega) (by omega) dk[b + i]! dk[a + i]!
      have n44a : (enc dk[a + i]!).length = k := R.hk _
      have n44b : (enc dk[b + i]!).length = k := R.hk _
      generalize enc dk[a + i]! = cI44 at S2 l44a s44b n44a
      generalize enc dk[b + i]! = cJ44 at S2 l44b s44a s44b n44b
      clear S1 M1
      go_wp2_with fail
      go_big_region_o
      clear l44a l44b s44a s44b
      generalize (wr.drew.setCells blk (off + (a + i) * k) cJ44).setCells blk (off + (b + i) * k) cI44 = w2 at S2 ⊢
      go_wp2
      go_roundg (n - (i + 1))
      case measure => omega
      case rel => exact ⟨i + 1, swp dk (a + i) (b + i), by simp, by omega, Nat.le_refl _, by rw [size_swp]; exact hds, S2, M2⟩
    · have hnot : ¬ (i : Int) < (n : Int) := by omega
      have : i = n := by omega
      subst this
      go_wp2
      go_end0
      exact ⟨rfl, dk, M1.out, S1.out⟩

set_option maxHeartbeats 4000000 in
set_option maxRecDepth 1000000 in
theorem rotate_any (k : Nat) (aE : ∀ w, (isAgg 36).run Try.prog w = .ok true w) (zE : ∀ w, (Go.sizeOf 36).run Try.prog w = .ok k w) (enc : α → List Value) (fv : Value) (blk off cap a m b : Nat) (d0 d : Array α) (w0 w : World)
    (R : RowK enc k w0 blk off d0) (hs : d0.size = d.size) (S : SWK enc k w0 blk off d w) (ham : a < m) (hmb : m < b) (hb : b ≤ d.size) (hsz : d.size < 4611686018427387904) :
    Calls Try.prog 98 #[.slice (some ⟨blk, off, none⟩) d.size cap, .int .i64 a, .int .i64 m, .int .i64 b, fv] w fun e w' => e = .returned (.tuple #[]) ∧ ∃ d', Moved (rotF a m b) d d' ∧ SWK enc k w0 blk off d' w' := by
  have S0 : Aside (SWK enc k w0 blk off d w) := S
  clear S
  have R0 : Aside (RowK enc k w0 blk off d0) := R
  clear R
  have hsw : Aside (∀ (x y n : Nat) (dk : Array α) (wk : World), dk.size = d.size → SWK enc k w0 blk off dk wk → x + n ≤ y → y + n ≤ d.size → Calls Try.prog 104 #[.slice (some ⟨blk, off, none⟩) d.size cap, .int .i64 x, .int .i64 y, .int .i64 n, fv] wk fun e w' => e = .returned (.tuple #[]) ∧ ∃ d', Moved (swapF x y n) dk d' ∧ SWK enc k w0 blk off d' w') :=
    fun x y n dk wk h1 h2 h3 h4 => by rw [← h1]; exact swapRange_any k aE zE enc fv blk off cap x y n d0 dk w0 wk R0.out (by omega) h2 h3 (by omega) (by omega)
  have w1 : IntKind.i64.wrap ((m : Int) - (a : Int)) = ((m - a : Nat) : Int) := by rw [IntKind.wrap_i64]; omega
  have w2 : IntKind.i64.wrap ((b : Int) - (m : Int)) = ((b - m : Nat) : Int) := by rw [IntKind.wrap_i64]; omega
  go_enter Try.func98, Try.ntmps98
  go_wp2
  clear w1 w2
  go_loopg [10, 11] (b - a) (fun kx s10 s11 wr => ∃ (i j : Nat) (dk : Array α), s10 = .int .i64 i ∧ s11 = .int .i64 j ∧ 0 < i ∧ 0 < j ∧ i ≤ m ∧ m + j ≤ d.size ∧ i + j ≤ kx ∧ dk.size = d.size ∧ Aside (SWK enc k w0 blk off dk wr) ∧ Aside (∀ d', Moved (rotF (m - i) m (m + j)) dk d' → Moved (rotF a m b) d d'))
  case atStart => exact ⟨m - a, b - m, d, rfl, rfl, by omega, by omega, by omega, by omega, by omega, rfl, S0, fun d' h => by rwa [show m - (m - a) = a by omega, show m + (b - m) = b by omega] at h⟩
  case round =>
    clear S0
    obtain ⟨i, j, dk, rfl, rfl, hi0, hj0, hi, hj, hkx, hds, S1, M1⟩ := hrel
    have wmi : IntKind.i64.wrap ((m : Int) - (i : Int)) = ((m - i : Nat) : Int) := by rw [IntKind.wrap_i64]; omega
    by_cases heq : i = j
    · subst heq
      have hc := hsw.out (m - i) m i dk wr hds S1.out (by omega) (by omega)
      go_wp2_with (go_at_call 104; (with_reducible refine hc.mono ?_); rintro e w3 ⟨rfl, d3, M3, S3⟩)
      go_end0
      exact ⟨rfl, d3, M1.out d3 (M3.eq fun x => rotF_same m i x hi), S3⟩
    · have hneq : ((i : Int) != (j : Int)) = true := by simp; omega
      by_cases hgt : j < i
      · have hgtz : (j : Int) < (i : Int) := by omega
        have wij : IntKind.i64.wrap ((i : Int) - (j : Int)) = ((i - j : Nat) : Int) := by rw [IntKind.wrap_i64]; omega
        have hc := hsw.out (m - i) m j dk wr hds S1.out (by omega) (by omega)
        go_wp2_with (go_at_call 104; (with_reducible refine hc.mono ?_); rintro e w3 ⟨rfl, d3, M3, S3⟩; have S3 : Aside _ := S3; have M3 : Aside _ := M3)
        go_roundg (i - j + j)
        case measure => omega
        case rel => exact ⟨i - j, j, d3, rfl, rfl, by omega, hj0, by omega, hj, Nat.le_refl _, M3.out.1.trans hds, S3, fun d' h => M1.out d' (Moved.comp M3.out h fun x => rotF_left m i j x hi hgt)⟩
      · have hgtz : ¬ (j : Int) < (i : Int) := by omega
        have wij : IntKind.i64.wrap ((j : Int) - (i : Int)) = ((j - i : Nat) : Int) := by rw [IntKind.wrap_i64]; omega
        have wmj : IntKind.i64.wrap ((m : Int) + (j : Int)) = (m : Int) + (j : Int) := by rw [IntKind.wrap_i64]; omega
        have wmji : IntKind.i64.wrap ((m : Int) + (j : Int) - (i : Int)) = ((m + j - i : Nat) : Int) := by rw [IntKind.wrap_i64]; omega
        have hc := hsw.out (m - i) (m + j - i) i dk wr hds S1.out (by omega) (by omega)
        go_wp2_with (go_at_call 104; (with_reducible refine hc.mono ?_); rintro e w3 ⟨rfl, d3, M3, S3⟩; have S3 : Aside _ := S3; have M3 : Aside _ := M3)
        go_roundg (i + (j - i))
        case measure => omega
        case rel => exact ⟨i, j - i, d3, rfl, rfl, hi0, by omega, hi, by omega, Nat.le_refl _, M3.out.1.trans hds, S3, fun d' h => M1.out d' (Moved.comp M3.out h fun x => rotF_right m i j x hi (by omega))⟩
end
end Go.Proofs.Ythplelglifnhoaa
