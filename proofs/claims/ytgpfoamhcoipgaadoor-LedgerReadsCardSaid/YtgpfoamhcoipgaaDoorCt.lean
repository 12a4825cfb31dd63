import Derived.Test.YtgpfoamhcoipgaaDoorCr
import Derived.Defers
import Derived.Recover
import Derived.Tactics2
import Derived.Laws.Pointers
/-! column.Try: the deferred closure, and Try itself. -/
namespace Go.Proofs.YtgpfoamhcoipgaaDoor
open Go.RowKit
set_option linter.unusedVariables false

theorem catch_idle (p : Addr) (w : World) :
    CallsD Tryd.prog 29 #[.pointer (some p)] .returning w fun e u' w' => e = .returned (.tuple #[]) ∧ u' = .returning ∧ w' = w := by
  refine callsD_of_wpS Tryd.func29 rfl fun c₀ cs hu => ?_
  apply wpS_seq
  apply wpS_region
  simp [wpOpsS, go_sem, recoverD, hu, Tryd.ntmps29, Exit.thenS]
  apply wpS_seq
  apply wpS_region
  simp [wpOpsS, go_sem, Exit.thenS]
  refine wpS_cond (t := false) (by simp [Act.eval, Array.replicate]) ?_
  simp only [Bool.false_eq_true, if_false]
  refine wpS_of_wp (wp_skip ?_)
  cases c₀
  simp_all [bodyPostS, results, Tryd.results29]
set_option maxRecDepth 100000 in
set_option maxHeartbeats 4000000 in
theorem catch_bad (p : Addr) (x : Bool) (older : List PanicEntry) (w : World) (hc : w.cell? p = some (.bool x)) (hz : w.frozen? p = false) :
    CallsD Tryd.prog 29 #[.pointer (some p)] (.panicking ({ v := .iface 76 (.agg #[]), recovered := false } :: older)) w fun e u' w' =>
      e = .returned (.tuple #[]) ∧ u' = .panicking ({ v := .iface 76 (.agg #[]), recovered := true } :: older) ∧ w' = (w.alloc (.cells #[] 76)).setCell p (.bool false) := by
  refine callsD_of_wpS Tryd.func29 rfl fun c₀ cs hu => ?_
  apply wpS_seq
  apply wpS_region
  simp [wpOpsS, go_sem, recoverD, hu, Tryd.ntmps29, Exit.thenS]
  apply wpS_seq
  apply wpS_region
  simp [wpOpsS, go_sem, Exit.thenS]
  refine wpS_cond (t := true) (by simp [Act.eval, Array.replicate]) ?_
  simp only [if_true]
  refine wpS_of_wp ?_
  generalize ht : (#[Value.pointer (some p)] ++ _ : Array Value) = T
  obtain rfl : T = #[.pointer (some p), .iface 76 (.agg #[]), undef, undef, .iface 76 (.agg #[]), .iface 76 (.agg #[]), .bool true, undef, undef, undef, undef, undef, undef, undef, undef] := by rw [← ht]; rfl
  clear ht
  have hta : ∀ w, (Instr.typeAssert (.iface 76 (.agg #[])) 20 76 true).run Tryd.prog w = .ok (.tuple #[.agg #[], .bool true]) w := fun w => by kernel_rfl
  have hc' : (w.alloc (.cells #[] 76)).cell? p = some (.bool x) := cell_below (below_alloc (Below.refl w.heap.size w) _) hc
  have hz' : (w.alloc (.cells #[] 76)).frozen? p = false := by
    have hl := cell_lt hc
    unfold World.frozen? at hz ⊢
    rw [(below_alloc (Below.refl w.heap.size w) (.cells #[] 76)).block _ hl]
    exact hz
  go_wp2
  simp [bodyPostS, results, Tryd.results29]
set_option maxRecDepth 100000 in
set_option maxHeartbeats 4000000 in
theorem try_bad (F : FuncId) (E : Array Value) (A : Option Addr) (cap : Nat) (xs : List Int) (w : World) (Bad : World → Prop)
    (hcf : ∀ (a : Array Value) (w : World), (callFunc F a).run Tryd.prog w = .ok (.enter F a) w)
    (hb : ∀ w2, Bad w2 → w2.cell? ⟨w.heap.size, 0, none⟩ = some (.bool false) ∧ w2.frozen? ⟨w.heap.size, 0, none⟩ = false)
    (hc : Calls Tryd.prog F (#[.pointer (some ⟨w.heap.size + 1, 0, none⟩)] ++ E) ((w.alloc (.cells #[.bool false] 4)).alloc (.cells #[.slice A xs.length cap] 79)) fun e w' => e = badP ∧ Bad w') :
    Calls Tryd.prog 11 #[.slice A xs.length cap, .func (.func F) #[] E] w fun e w' => ∃ w2, Bad w2 ∧ e = .returned (.bool false) ∧ w' = (w2.alloc (.cells #[] 76)).setCell ⟨w.heap.size, 0, none⟩ (.bool false) := by
  have hmf : ∀ (fn : Fn) (first cap : Array Value) (w : World), (Instr.makeFunc fn first cap).run Tryd.prog w = .ok (.func fn first cap) w := fun _ _ _ _ => rfl
  go_enter_defers Tryd.func11, Tryd.ntmps11
  go_wp2_with ((with_reducible refine hc.mono ?_); rintro e w2 ⟨rfl, h2⟩)
  refine leaves_cons (f := 29) (args := #[.pointer (some ⟨w.heap.size, 0, none⟩)]) (by simp) (by simp [go_sem]) ?_
  refine (catch_bad ⟨w.heap.size, 0, none⟩ false [] w2 (hb w2 h2).1 (hb w2 h2).2).mono ?_
  rintro e u' w'' ⟨rfl, rfl, rfl⟩
  have hl := cell_lt (hb w2 h2).1
  have hcc : ((w2.alloc (.cells #[] 76)).setCell ⟨w.heap.size, 0, none⟩ (.bool false)).cell? ⟨w.heap.size, 0, none⟩ = some (.bool false) :=
    World.cell?_setCell_same' _ _ _ (by rw [cell_below (below_alloc (Below.refl w2.heap.size w2) _) (hb w2 h2).1]; rfl)
  simp [Leaves, settle, results, Tryd.results11, go_sem, hcc]
  exact ⟨w2, h2, rfl⟩
set_option maxRecDepth 100000 in
set_option maxHeartbeats 4000000 in
theorem try_good (F : FuncId) (E : Array Value) (A : Option Addr) (cap : Nat) (xs : List Int) (w : World) (B : Nat) (rest : List Int) (Good : World → Prop)
    (hcf : ∀ (a : Array Value) (w : World), (callFunc F a).run Tryd.prog w = .ok (.enter F a) w)
    (hb : ∀ w2, Good w2 → w2.cell? ⟨w.heap.size, 0, none⟩ = some (.bool false) ∧ w2.frozen? ⟨w.heap.size, 0, none⟩ = false)
    (hc : Calls Tryd.prog F (#[.pointer (some ⟨w.heap.size + 1, 0, none⟩)] ++ E) ((w.alloc (.cells #[.bool false] 4)).alloc (.cells #[.slice A xs.length cap] 79)) fun e w' => e = .returned (.tuple #[]) ∧ RdSt w' (w.heap.size + 1) B rest ∧ Good w') :
    Calls Tryd.prog 11 #[.slice A xs.length cap, .func (.func F) #[] E] w fun e w' => ∃ w2, Good w2 ∧ e = .returned (.bool ((rest.length : Int) == 0)) ∧ w' = w2.setCell ⟨w.heap.size, 0, none⟩ (.bool ((rest.length : Int) == 0)) := by
  have hmf : ∀ (fn : Fn) (first cap : Array Value) (w : World), (Instr.makeFunc fn first cap).run Tryd.prog w = .ok (.func fn first cap) w := fun _ _ _ _ => rfl
  go_enter_defers Tryd.func11, Tryd.ntmps11
  go_wp2_with ((with_reducible refine hc.mono ?_); rintro e w2 ⟨rfl, hs, h2⟩; obtain ⟨A2, cap2, hcr, -, -, -⟩ := hs.cell; have hcb := (hb w2 h2).1; have hfb := (hb w2 h2).2)
  refine leaves_cons (f := 29) (args := #[.pointer (some ⟨w.heap.size, 0, none⟩)]) (by simp) (by simp [go_sem]) ?_
  refine (catch_idle ⟨w.heap.size, 0, none⟩ _).mono ?_
  rintro e u' w'' ⟨rfl, rfl, rfl⟩
  have hcc : (w2.setCell ⟨w.heap.size, 0, none⟩ (.bool ((rest.length : Int) == 0))).cell? ⟨w.heap.size, 0, none⟩ = some (.bool ((rest.length : Int) == 0)) :=
    World.cell?_setCell_same' _ _ _ (by rw [hcb]; rfl)
  generalize ((rest.length : Int) == 0) = bq at *
  simp [Leaves, settle, results, Tryd.results11, go_sem, hcc]
  exact ⟨w2, h2, rfl⟩
end Go.Proofs.YtgpfoamhcoipgaaDoor
