import Derived.Test.YthplelglifnhoaaDr
import Derived.Deep.MidRow
import Derived.Test.YthplelglifnhoaaJb
import Derived.Test.YthplelglifnhoaaRl
import Derived.Test.YthplelglifnhoaaPl
import Derived.Deep.DeepCutAuto
import Derived.Deep.CutBlock
/-! Regions that draw their order and end in a store of a whole row; structs that are built of structs. -/
namespace Go.Proofs.Ythplelglifnhoaa
open Go.RowKit
set_option linter.unusedVariables false

theorem unlisted {ops : Array Oper} {listed : Array Bool} {n i : Nat} (hcl : Closed .any ops listed) (hu : listed.getD i false = false) (hw : Region.waitsFor .any ops n i = true) : listed.getD n false = false := by
  cases hq : listed.getD n false with
  | false => rfl
  | true => have := hcl n i hw hq; rw [hu] at this; cases this
/-- As RegI; the last operation stores a row. -/
structure RegL (w0 : World) (n : Nat) (g : Nat) (D : Array Value) (isO : Nat → Bool) (BL : Nat → List Int) (CV : Nat → Value) (listed : Array Bool) (vals : Nat → Value) (w' : World) : Prop where
  pre : listed.getD n false = false → RegI w0 isO BL CV listed vals w'
  fin : listed.getD n false = true → ∃ w'', Below w0.heap.size w0 w'' ∧ w' = w''.setRow g D
section
variable {w0 w1 w2 : World} {n g : Nat} {D : Array Value} {isO : Nat → Bool} {BL : Nat → List Int} {CV vals : Nat → Value} {listed : Array Bool}
theorem RegL.start (w0 : World) (n m g : Nat) (D : Array Value) : RegL w0 n g D isO BL CV (Array.replicate m false) (fun _ => undef) w0.drew :=
  ⟨fun _ => RegI.start w0 m, fun h => absurd h (by rw [getD_replicate_false]; decide)⟩
theorem RegL.of {i : Nat} {w : World} {v : Nat → Value} (h : RegI w0 isO BL CV (listed.setIfInBounds i true) v w) (hn : listed.getD n false = false) (hi : i ≠ n) : RegL w0 n g D isO BL CV (listed.setIfInBounds i true) v w :=
  ⟨fun _ => h, fun hl => by rw [getD_set_ne false hi, hn] at hl; cases hl⟩
theorem RegL.done {v : Nat → Value} (h : Below w0.heap.size w0 w1) (hs : n < listed.size) : RegL w0 n g D isO BL CV (listed.setIfInBounds n true) v (w1.setRow g D) :=
  ⟨fun hl => (by rw [getD_set_self _ _ _ hs] at hl; cases hl), fun _ => ⟨w1, h, rfl⟩⟩
theorem RegL.end_ {w' : World} (h : RegL w0 n g D isO BL CV listed vals w') (hn : listed.getD n false = true) : ∃ w'', Below w0.heap.size w0 w'' ∧ w' = w''.setRow g D := h.fin hn
end
/-- As RegI; the last two operations make a row and store into it. -/
structure RegA (w0 : World) (n : Nat) (Z D : Array Value) (ty : TypeId) (CV : Nat → Value) (listed : Array Bool) (vals : Nat → Value) (w' : World) : Prop where
  b : Below w0.heap.size w0 w'
  val : ∀ j, (j ≠ n ∧ j ≠ n + 1) → listed.getD j false = true → vals j = CV j
  al : listed.getD n false = true → ∃ g, vals n = .pointer (some ⟨g, 0, none⟩) ∧ w0.heap.size ≤ g ∧ w'.heap[g]? = some (.cells (if listed.getD (n + 1) false = true then D else Z) ty (0, 0))
section
variable {w0 w1 w2 : World} {n : Nat} {Z D : Array Value} {ty : TypeId} {CV vals : Nat → Value} {listed : Array Bool}
theorem RegA.start (w0 : World) (m : Nat) : RegA w0 n Z D ty CV (Array.replicate m false) (fun _ => undef) w0.drew :=
  ⟨(Below.refl _ _).drew, fun j _ h => absurd h (by rw [getD_replicate_false]; decide), fun h => absurd h (by rw [getD_replicate_false]; decide)⟩
theorem RegA.keep (h : RegA w0 n Z D ty CV listed vals w1) (b : Below w1.heap.size w1 w2) (i : Nat) (hi : i ≠ n ∧ i ≠ n + 1) : RegA w0 n Z D ty CV (listed.setIfInBounds i true) (upd vals i (CV i)) w2 := by
  refine ⟨below_trans h.b b, fun j hj hl => ?_, fun hl => ?_⟩
  · by_cases e : i = j
    · subst e; simp [upd]
    · rw [getD_set_ne false e] at hl
      simp [upd, Ne.symm e, h.val j hj hl]
  · rw [getD_set_ne false hi.1] at hl
    obtain ⟨g, e, hg, hh⟩ := h.al hl
    refine ⟨g, by simp [upd, Ne.symm hi.1, e], hg, ?_⟩
    rw [getD_set_ne false hi.2]
    exact (b.block g (heap_lt hh)).trans hh
theorem RegA.keepV (h : RegA w0 n Z D ty CV listed vals w1) (b : Below w1.heap.size w1 w2) (i : Nat) (hi : i ≠ n ∧ i ≠ n + 1) {v : Value} (hv : CV i = v) : RegA w0 n Z D ty CV (listed.setIfInBounds i true) (upd vals i v) w2 := by
  subst hv; exact h.keep b i hi
theorem RegA.alloc (h : RegA w0 n Z D ty CV listed vals w1) (hs : n < listed.size) (hn : listed.getD (n + 1) false = false) :
    RegA w0 n Z D ty CV (listed.setIfInBounds n true) (upd vals n (.pointer (some ⟨w1.heap.size, 0, none⟩))) (w1.alloc (.cells Z ty)) := by
  refine ⟨below_alloc h.b _, fun j hj hl => ?_, fun _ => ⟨w1.heap.size, by simp [upd], h.b.size, ?_⟩⟩
  · rw [getD_set_ne false (Ne.symm hj.1)] at hl
    simp [upd, hj.1, h.val j hj hl]
  · rw [getD_set_ne false (by omega), hn]
    exact heap_alloc_new w1 _
theorem RegA.store (h : RegA w0 n Z D ty CV listed vals w1) (hs : n + 1 < listed.size) {g : Nat} (hg : w0.heap.size ≤ g) (e : vals n = .pointer (some ⟨g, 0, none⟩)) {C : Array Value} (hh : w1.heap[g]? = some (.cells C ty (0, 0))) :
    RegA w0 n Z D ty CV (listed.setIfInBounds (n + 1) true) (upd vals (n + 1) undef) (w1.setRow g D) := by
  refine ⟨below_setRow h.b hg D, fun j hj hl => ?_, fun hl => ⟨g, ?_, hg, ?_⟩⟩
  · rw [getD_set_ne false (Ne.symm hj.2)] at hl
    simp [upd, hj.2, h.val j hj hl]
  · simp [upd, e]
  · rw [getD_set_self _ _ _ hs, if_pos rfl]
    exact setRow_heap _ _ _ _ _ _ hh
theorem RegA.get (h : RegA w0 n Z D ty CV listed vals w1) {ops : Array Oper} {a0 a : Act} (hR : InRun ops a0 listed vals a) {i : Nat} (hr : i ∈ Region.ready .any ops listed) (j : Nat) (k1 : j ≠ n ∧ j ≠ n + 1) (hw : Region.waitsFor .any ops i j = true) {d : Tmp} (hj : j < ops.size) (hd : dstAt ops j = some d) {v : Value} (hv : CV j = v) : a.tmps[d]? = some v := by
  rw [hR.dep hr j hw hj hd, h.val j k1 (dep_of hr hw), hv]
theorem wpOp_alloc {P : Program} {ops : Array Oper} {Q : Exit → Act → World → Prop} {i : Nat} {o : Oper} {K : Act → World → Prop} {a : Act} {w : World} (hi : ops[i]? = some o) (hw : Region.wanted o (yielded ops a.tmps) = true) (t : TypeId) (ho : o.op = .alloc t) (z : Array Value) (hz : ∀ w, (zeroValue t).run P w = .ok (.agg z) w) (h : K (a.put o.dst (.pointer (some ⟨w.heap.size, 0, none⟩))) (w.alloc (.cells z t))) : wpOp P ops Q i K a w := by
  refine wpOp_of_wp hi hw ?_
  unfold Oper.wp execOp
  simp only [ho, Instr.alloc, Sem.run_bind, hz, Result.andThen_ok]
  exact h
end
/-- Cells laid into others, from a place on. -/
def lay (C cs : Array Value) (off : Nat) : Array Value := C.zipIdx.foldl (fun ds (c, j) => ds.setIfInBounds (off + j) c) cs
theorem lay_list : ∀ (l : List Value) (k off : Nat) (cs : Array Value) (i : Nat), off + k + l.length ≤ cs.size →
    ((l.zipIdx k).foldl (fun ds (c, j) => ds.setIfInBounds (off + j) c) cs)[i]? = if off + k ≤ i ∧ i < off + k + l.length then l[i - (off + k)]? else cs[i]? := by
  intro l
  induction l with
  | nil => intro k off cs i h; simp; omega
  | cons c l ih =>
    intro k off cs i h
    rw [List.length_cons] at h
    rw [List.zipIdx_cons, List.foldl_cons, ih (k + 1) off _ i (by rw [Array.size_setIfInBounds]; omega)]
    by_cases h1 : off + (k + 1) ≤ i ∧ i < off + (k + 1) + l.length
    · rw [if_pos h1, if_pos (by rw [List.length_cons]; omega), show i - (off + k) = (i - (off + (k + 1))) + 1 by omega, List.getElem?_cons_succ]
    · rw [if_neg h1, List.length_cons]
      by_cases h2 : i = off + k
      · subst h2
        rw [if_pos (by omega), Array.getElem?_setIfInBounds_self_of_lt (by omega), Nat.sub_self]
        rfl
      · rw [if_neg (by omega), Array.getElem?_setIfInBounds_ne (by omega)]
theorem lay_at (C cs : Array Value) (off i : Nat) (h : off + C.size ≤ cs.size) : (lay C cs off)[i]? = if off ≤ i ∧ i < off + C.size then C[i - off]? else cs[i]? := by
  have := lay_list C.toList 0 off cs i (by simpa using h)
  unfold lay
  rw [← Array.foldl_toList, Array.toList_zipIdx]
  simpa using this
theorem lay_size (C cs : Array Value) (off : Nat) (h : off + C.size ≤ cs.size) : (lay C cs off).size = cs.size := by
  have key : ∀ (l : List (Value × Nat)) (ds : Array Value), (l.foldl (fun ds (c, j) => ds.setIfInBounds (off + j) c) ds).size = ds.size := by
    intro l
    induction l with
    | nil => intro ds; rfl
    | cons c l ih => intro ds; rw [List.foldl_cons, ih, Array.size_setIfInBounds]
  unfold lay
  rw [← Array.foldl_toList]
  exact key _ _
section
variable {P : Program} {ops : Array Oper} {Q : Exit → Act → World → Prop} {i : Nat} {o : Oper} {K : Act → World → Prop} {a : Act} {w : World}
theorem wpOp_build (hi : ops[i]? = some o) (hw : Region.wanted o (yielded ops a.tmps) = true) (t : TypeId) (parts : Array (Nat × Operand)) (ho : o.op = .build t parts) (cells : Array Value) (hf : P.built t (parts.map fun (i, x) => (i, a.eval x)).toList = some cells)
    (h : K (a.put o.dst (.agg cells)) w) : wpOp P ops Q i K a w :=
  wpOp_of_wp hi hw (wp_build t parts ho (by rw [hf]; rfl) (by rw [hf]; exact h))
theorem wpOp_mid (hi : ops[i]? = some o) (hw : Region.wanted o (yielded ops a.tmps) = true) (ty : TypeId) (x : Operand) (ho : o.op = .load ty x)
    (b off : Nat) (hx : a.eval x = .pointer (some ⟨b, off, none⟩)) (C : Array Value) (d : TypeDesc) (hc : w.rangeAt b off C.toList)
    (hu : P.underlying ty = some d) (hd : d.isRow = true) (hs : (P.info? ty).map (·.size) = some C.size)
    (h : K (a.put o.dst (.agg C)) w) : wpOp P ops Q i K a w :=
  wpOp_of_wp hi hw (wp_load_mid ty x ho b off hx C.toList d hc hu hd (by rw [hs, Array.length_toList]) h)
end
theorem range_below {w w1 : World} (h : Below w.heap.size w w1) {b o : Nat} {cs : List Value} (hc : w.rangeAt b o cs) : w1.rangeAt b o cs := fun j v hv => cell_below h (hc j v hv)
theorem range_of {w : World} {b : Nat} {C : Array Value} {t : TypeId} {fr : Nat × Nat} (h : w.heap[b]? = some (.cells C t fr)) (o : Nat) (cs : List Value) (hcs : ∀ j v, cs[j]? = some v → C[o + j]? = some v) : w.rangeAt b o cs := fun j v hv => (cell_of_row _ _ _ _ _ _ h).trans (hcs j v hv)
end Go.Proofs.Ythplelglifnhoaa
/-! Values' states: with one more value, of two, what is told. -/
namespace Go.Proofs.Ythplelglifnhoaa
open Go.RowKit
set_option linter.unusedVariables false
attribute [-simp] Try.isAgg43 Try.sizeOf43 Try.typeInfo43 Try.type43
attribute [-simp] Try.isAgg45 Try.sizeOf45 Try.typeInfo45 Try.type45
attribute [-simp] Try.isAgg61 Try.sizeOf61 Try.typeInfo61 Try.type61

/-- A state of values: how many, their exact sum, the least and the greatest. -/
structure AS where
  n : Nat
  s : St
  lo : Nat
  hi : Nat
def asC (a : AS) : Array Value := #[.int .u64 (a.n : Int)] ++ sumC a.s ++ #[.float .f64 a.lo, .float .f64 a.hi]
structure AS.ok (a : AS) : Prop where
  n : a.n < 18446744073709551616
  lo : a.lo < 18446744073709551616
  hi : a.hi < 18446744073709551616
def noAS : AS := ⟨0, noSt, 0, 0⟩
theorem noAS_ok : noAS.ok := ⟨by decide, by decide, by decide⟩
def joinAS (a b : AS) : AS := if a.n = 0 then b else if b.n = 0 then a else ⟨(a.n + b.n) % 18446744073709551616, joinSt a.s b.s, minOf a.lo b.lo, maxOf a.hi b.hi⟩
def oneAS (x : Nat) : AS := ⟨1, addSt noSt x, canon x, canon x⟩
def addAS (a : AS) (x : Nat) : AS := joinAS a (oneAS x)
theorem oneAS_ok {x : Nat} (hx : x < 18446744073709551616) : (oneAS x).ok := ⟨show 1 < 18446744073709551616 by decide, canon_lt hx, canon_lt hx⟩
theorem joinAS_ok {a b : AS} (ha : a.ok) (hb : b.ok) : (joinAS a b).ok := by
  unfold joinAS
  split
  · exact hb
  · split
    · exact ha
    · exact ⟨Nat.mod_lt _ (by decide), minOf_lt ha.lo hb.lo, maxOf_lt ha.hi hb.hi⟩
theorem addAS_ok {a : AS} {x : Nat} (ha : a.ok) (hx : x < 18446744073709551616) : (addAS a x).ok := joinAS_ok ha (oneAS_ok hx)
theorem asC_size (a : AS) : (asC a).size = 43 := by unfold asC; simp [sumC_size]
theorem asC_n (a : AS) : (asC a)[0]? = some (.int .u64 (a.n : Int)) := by
  unfold asC
  rw [Array.getElem?_append_left (by simp [sumC_size]), Array.getElem?_append_left (by simp)]; rfl
theorem asC_s (a : AS) (i : Nat) (h : i < 40) : (asC a)[1 + i]? = (sumC a.s)[i]? := by
  unfold asC
  rw [Array.getElem?_append_left (by simp [sumC_size]; omega), Array.getElem?_append_right (by simp)]
  congr 1
  show 1 + i - 1 = i
  omega
theorem asC_lo (a : AS) : (asC a)[41]? = some (.float .f64 a.lo) := by
  unfold asC
  rw [Array.getElem?_append_right (by simp [sumC_size])]
  simp [sumC_size]
theorem asC_hi (a : AS) : (asC a)[42]? = some (.float .f64 a.hi) := by
  unfold asC
  rw [Array.getElem?_append_right (by simp [sumC_size])]
  simp [sumC_size]
theorem asC_one (a : AS) : (asC a).all (·.oneCell') = true := by
  unfold asC
  rw [Array.all_append, Array.all_append, sumC_one]; simp [Value.oneCell']
theorem asC_sum (a : AS) : ∀ j v, (sumC a.s).toList[j]? = some v → (asC a)[1 + j]? = some v := fun j v h => by
  have hj : j < 40 := by
    rcases Nat.lt_or_ge j 40 with h1 | h1
    · exact h1
    · rw [List.getElem?_eq_none (by rw [Array.length_toList, sumC_size]; exact h1)] at h; cases h
  rw [asC_s a j hj, ← Array.getElem?_toList]; exact h
set_option maxRecDepth 100000 in
theorem zeroState : ∀ w, (zeroValue 45).run Try.prog w = .ok (.agg (asC noAS)) w := (zero_of_info (P := Try.prog) (v := .agg (asC noAS)) (n := 43) (by kernel_rfl)).1
set_option maxRecDepth 100000 in
theorem sizeState : (Try.prog.info? 45).map (·.size) = some 43 := by kernel_rfl
/-- A telling. -/
structure AV where
  n : Nat
  x : Nat
  ov : Bool
  lo : Nat
  hi : Nat
def avC (v : AV) : Array Value := #[.int .u64 (v.n : Int), .float .f64 v.x, .bool v.ov, .float .f64 v.lo, .float .f64 v.hi]
def noAV : AV := ⟨0, 0, false, 0, 0⟩
set_option maxRecDepth 100000 in
theorem zeroAgg : ∀ w, (zeroValue 61).run Try.prog w = .ok (.agg (avC noAV)) w := (zero_of_info (P := Try.prog) (v := .agg (avC noAV)) (n := 5) (by kernel_rfl)).1
set_option maxRecDepth 100000 in
theorem sizeAgg : (Try.prog.info? 61).map (·.size) = some 5 := by kernel_rfl
theorem avC_one (v : AV) : (avC v).all (·.oneCell') = true := by simp [avC, Value.oneCell']
/-- What a state tells. -/
def tellAS (a : AS) : AV := ⟨a.n, canon (valSt a.s).1, (valSt a.s).2, a.lo, a.hi⟩

/-! Structs built of structs. -/
theorem fill_step (place : Nat → Option (Nat × Nat)) (cs : Array Value) (i : Nat) (v : Value) (rest : List (Nat × Value)) (off size : Nat) (hp : place i = some (off, size)) (h1 : v.cells.size = size) (h2 : off + v.cells.size ≤ cs.size) :
    Instr.fill place cs ((i, v) :: rest) = Instr.fill place (lay v.cells cs off) rest := by
  subst h1
  rw [Instr.fill]
  simp only [hp]
  rw [if_neg (by simp; omega)]
  rfl
theorem built_of (t : TypeId) (it : TypeInfo) (z : Array Value) (fs : Array Field) (places : List (Nat × Nat)) (hi : Try.prog.info? t = some it) (hz : it.zero = some (.agg z)) (hu : Try.prog.underlying t = some (.struct fs))
    (hp : fs.toList.mapM (fun f => (Try.prog.info? f.type).map fun i => (f.offset, i.size)) = some places) (parts : List (Nat × Value)) : Try.prog.built t parts = Instr.fill (places.toArray[·]?) z parts := by
  unfold Program.built
  simp only [hi, hu, hz, hp]
  rfl
theorem layD (z : Array Value) (hz : z.size = 43) (n : Value) (C : Array Value) (hC : C.size = 40) (lo hi : Value) (i : Nat) :
    (lay #[hi] (lay #[lo] (lay C (lay #[n] z 0) 1) 41) 42)[i]? = (#[n] ++ C ++ #[lo, hi])[i]? := by
  have s1 : (lay #[n] z 0).size = 43 := by rw [lay_size _ _ _ (by rw [hz]; exact of_decide_eq_true rfl), hz]
  have s2 : (lay C (lay #[n] z 0) 1).size = 43 := by rw [lay_size _ _ _ (by rw [s1, hC]; decide), s1]
  have s3 : (lay #[lo] (lay C (lay #[n] z 0) 1) 41).size = 43 := by rw [lay_size _ _ _ (by rw [s2]; exact of_decide_eq_true rfl), s2]
  rw [lay_at _ _ _ _ (by rw [s3]; exact of_decide_eq_true rfl), lay_at _ _ _ _ (by rw [s2]; exact of_decide_eq_true rfl), lay_at _ _ _ _ (by rw [s1, hC]; decide), lay_at _ _ _ _ (by rw [hz]; exact of_decide_eq_true rfl)]
  have e1 : (#[n] : Array Value).size = 1 := rfl
  have e2 : (#[lo] : Array Value).size = 1 := rfl
  have e3 : (#[hi] : Array Value).size = 1 := rfl
  rw [e1, e2, e3, hC]
  by_cases h0 : i = 0
  · subst h0
    rw [if_neg (by omega), if_neg (by omega), if_neg (by omega), if_pos (by omega), Array.getElem?_append_left (by simp [hC]), Array.getElem?_append_left (by simp)]
  by_cases h1 : i < 41
  · rw [if_neg (by omega), if_neg (by omega), if_pos (by omega), Array.getElem?_append_left (by simp [hC]; omega), Array.getElem?_append_right (by simp; omega)]
    rfl
  by_cases h2 : i = 41
  · subst h2
    rw [if_neg (by omega), if_pos (by omega), Array.getElem?_append_right (by simp [hC])]
    simp [hC]
  by_cases h3 : i = 42
  · subst h3
    rw [if_pos (by omega), Array.getElem?_append_right (by simp [hC])]
    simp [hC]
  · rw [if_neg (by omega), if_neg (by omega), if_neg (by omega), if_neg (by omega), Array.getElem?_eq_none (by omega), Array.getElem?_eq_none (by simp [hC]; omega)]
set_option maxRecDepth 100000 in
theorem built_state (n : Int) (C : Array Value) (hC : C.size = 40) (lo hi : Nat) :
    Try.prog.built 45 [(0, .int .u64 n), (1, .agg C), (2, .float .f64 lo), (3, .float .f64 hi)] = some (#[.int .u64 n] ++ C ++ #[.float .f64 lo, .float .f64 hi]) := by
  rw [built_of 45 Try.t45 (asC noAS) _ [(0, 1), (1, 40), (41, 1), (42, 1)] (by kernel_rfl) (by kernel_rfl) Try.underlying45 (by kernel_rfl)]
  have hz := asC_size noAS
  generalize asC noAS = z at *
  have s1 : (lay #[Value.int .u64 n] z 0).size = 43 := by rw [lay_size _ _ _ (by rw [hz]; exact of_decide_eq_true rfl), hz]
  have s2 : (lay C (lay #[Value.int .u64 n] z 0) 1).size = 43 := by rw [lay_size _ _ _ (by rw [s1, hC]; decide), s1]
  have s3 : (lay #[Value.float .f64 lo] (lay C (lay #[Value.int .u64 n] z 0) 1) 41).size = 43 := by rw [lay_size _ _ _ (by rw [s2]; exact of_decide_eq_true rfl), s2]
  rw [fill_step _ _ _ _ _ 0 1 rfl rfl (by rw [hz]; exact of_decide_eq_true rfl), fill_step _ _ _ (.agg C) _ 1 40 rfl hC (by show 1 + C.size ≤ (lay #[Value.int .u64 n] z 0).size; rw [s1, hC]; decide),
    fill_step _ _ _ _ _ 41 1 rfl rfl (by show 41 + 1 ≤ (lay C (lay #[Value.int .u64 n] z 0) 1).size; rw [s2]; decide), fill_step _ _ _ _ _ 42 1 rfl rfl (by show 42 + 1 ≤ (lay #[Value.float .f64 lo] (lay C (lay #[Value.int .u64 n] z 0) 1) 41).size; rw [s3]; decide), Instr.fill]
  congr 1
  exact Array.ext_getElem? (layD z hz _ C hC _ _)
set_option maxRecDepth 100000 in
theorem built_noSum : Try.prog.built 43 [] = some (sumC noSt) := by kernel_rfl
set_option maxRecDepth 100000 in
theorem built_agg (n : Int) (x : Nat) (ov : Bool) (lo hi : Nat) : Try.prog.built 61 [(0, .int .u64 n), (1, .float .f64 x), (2, .bool ov), (3, .float .f64 lo), (4, .float .f64 hi)] = some #[.int .u64 n, .float .f64 x, .bool ov, .float .f64 lo, .float .f64 hi] := by
  rw [built_of 61 Try.t61 (avC noAV) _ [(0, 1), (1, 1), (2, 1), (3, 1), (4, 1)] (by kernel_rfl) (by kernel_rfl) Try.underlying61 (by kernel_rfl)]
  rfl

set_option maxRecDepth 100000 in
set_option maxHeartbeats 8000000 in
theorem join_as (a b : AS) (w : World) (ha : a.ok) (hb : b.ok) : Calls Try.prog 56 #[.agg (asC a), .agg (asC b)] w fun e w' => e = .returned (.agg (asC (joinAS a b))) ∧ Below w.heap.size w w' := by
  have Hs := Lib.hid sizeState
  have Hs30 := Lib.hid size30
  obtain ⟨Z, hZ, zz⟩ : ∃ Z : Array Value, Z.size = 43 ∧ ∀ w, (zeroValue 45).run Try.prog w = .ok (.agg Z) w := ⟨_, asC_size _, zeroState⟩
  obtain ⟨D, hD⟩ : ∃ D, D = asC (joinAS a b) := ⟨_, rfl⟩
  have hDs : D.size = 43 := by rw [hD]; exact asC_size _
  have hD1 : D.all (·.oneCell') = true := by rw [hD]; exact asC_one _
  have HD := Lib.hid hDs
  have HD1 := Lib.hid hD1
  obtain ⟨A, hA⟩ : ∃ A, A = asC a := ⟨_, rfl⟩
  obtain ⟨B, hB⟩ : ∃ B, B = asC b := ⟨_, rfl⟩
  have hAs : A.size = 43 := by rw [hA]; exact asC_size _
  have hBs : B.size = 43 := by rw [hB]; exact asC_size _
  have hA1 : A.all (·.oneCell') = true := by rw [hA]; exact asC_one _
  have hB1 : B.all (·.oneCell') = true := by rw [hB]; exact asC_one _
  have an : A[0]? = some (.int .u64 (a.n : Int)) := by rw [hA]; exact asC_n a
  have bn : B[0]? = some (.int .u64 (b.n : Int)) := by rw [hB]; exact asC_n b
  have asum : ∀ j v, (sumC a.s).toList[j]? = some v → A[1 + j]? = some v := by rw [hA]; exact asC_sum a
  have bsum : ∀ j v, (sumC b.s).toList[j]? = some v → B[1 + j]? = some v := by rw [hB]; exact asC_sum b
  have alo : A[41]? = some (.float .f64 a.lo) := by rw [hA]; exact asC_lo a
  have blo : B[41]? = some (.float .f64 b.lo) := by rw [hB]; exact asC_lo b
  have ahi : A[42]? = some (.float .f64 a.hi) := by rw [hA]; exact asC_hi a
  have bhi : B[42]? = some (.float .f64 b.hi) := by rw [hB]; exact asC_hi b
  rw [← hA, ← hB, ← hD]
  have hDu : D = if a.n = 0 then B else if b.n = 0 then A else #[.int .u64 (((a.n + b.n) % 18446744073709551616 : Nat) : Int)] ++ sumC (joinSt a.s b.s) ++ #[.float .f64 (minOf a.lo b.lo), .float .f64 (maxOf a.hi b.hi)] := by
    rw [hD, hA, hB]
    unfold joinAS
    split
    · rfl
    · split <;> rfl
  clear hA hB hD hDs hD1
  have h2 := (below_alloc (Below.refl _ (w.alloc (.cells A 45))) (.cells B 45)).block w.heap.size (heap_lt (heap_alloc_new w (.cells A 45)))
  have h2 := h2.trans (heap_alloc_new w (.cells A 45))
  have h3 := heap_alloc2_new w (.cells A 45) (.cells B 45)
  have hb2 := below_alloc (below_alloc (Below.refl w.heap.size w) (.cells A 45)) (.cells B 45)
  have hsz : ((w.alloc (.cells A 45)).alloc (.cells B 45)).heap.size = w.heap.size + 2 := by simp
  obtain ⟨w2, hw2⟩ : ∃ w2, w2 = (w.alloc (.cells A 45)).alloc (.cells B 45) := ⟨_, rfl⟩
  rw [← hw2] at h2 h3 hb2 hsz
  have hz3 := heap_alloc_new w2 (.cells Z 45)
  have hb3 := below_alloc hb2 (.cells Z 45)
  have h2' := ((below_alloc (Below.refl w2.heap.size w2) (.cells Z 45)).block _ (heap_lt h2)).trans h2
  have h3' := ((below_alloc (Below.refl w2.heap.size w2) (.cells Z 45)).block _ (heap_lt h3)).trans h3
  rw [hsz] at hz3
  obtain ⟨w3, hw3⟩ : ∃ w3, w3 = w2.alloc (.cells Z 45) := ⟨_, rfl⟩
  rw [← hw3] at hz3 hb3 h2' h3'
  have Hw2 := Lib.hid hw2
  have Hw3 := Lib.hid hw3
  clear hw2 hw3
  have ca0 := Lib.hid ((cell_of_row _ _ 0 _ _ _ h2').trans an)
  have cb0 := Lib.hid ((cell_of_row _ _ 0 _ _ _ h3').trans bn)
  have hfin : ∀ wz, Below w3.heap.size w3 wz → Below w.heap.size w (wz.setRow (w.heap.size + 2) D) := fun wz b => below_setRow (below_trans hb3 b) (by omega) D
  have hrow : ∀ wz, Below w3.heap.size w3 wz → (wz.setRow (w.heap.size + 2) D).heap[w.heap.size + 2]? = some (.cells D 45 (0, 0)) := fun wz b => setRow_heap _ _ _ _ _ _ ((b.block _ (heap_lt hz3)).trans hz3)
  by_cases h0 : a.n = 0
  · rw [if_pos h0] at hDu
    have e0 : ((a.n : Int) == 0) = true := by rw [h0]; rfl
    have c0 := ca0.out
    rw [h0] at c0
    subst hDu
    clear h0 e0
    go_enter Try.func56, Try.ntmps56
    go_wp2_with (first
      | (refine at_op (.alloc 45) ?_ rfl; rw [← Hw2.out]; refine wpList_alloc_row rfl _ 45 rfl (some 4) rfl (w.heap.size + 2) hsz Z zz ?_; rw [← Hw3.out])
      | (refine at_op (.load 45 (.tmp 3)) ?_ rfl; refine wpList_load_row rfl 45 (.tmp 3) rfl (w.heap.size + 1) rfl 45 _ (0, 0) _ h3' Try.underlying45 rfl (by rw [hBs]; exact Hs.out) ?_)
      | (refine at_op (.store 45 (.tmp 4) (.tmp 9)) ?_ rfl; refine wpList_store_row rfl 45 (.tmp 4) (.tmp 9) rfl (w.heap.size + 2) _ rfl rfl 45 Z hz3 (by rw [hBs]; exact Hs.out) (by rw [hZ, hBs]) hB1 ?_))
    exact bodyPost_ret (results_cell_row rfl _ _ (w.heap.size + 2) 45 _ (0, 0) _ rfl (hrow _ (Below.refl _ _)) Try.underlying45 rfl (by rw [hBs]; exact Hs.out)) rfl ⟨rfl, hfin _ (Below.refl _ _)⟩
  · rw [if_neg h0] at hDu
    have e0 : ((a.n : Int) == 0) = false := by rw [beq_eq_false_iff_ne]; omega
    by_cases h1 : b.n = 0
    · rw [if_pos h1] at hDu
      have c1 := cb0.out
      have c0 := ca0.out
      rw [h1] at c1
      subst hDu
      clear h0 h1
      go_enter Try.func56, Try.ntmps56
      go_wp2_with (first
        | (refine at_op (.alloc 45) ?_ rfl; rw [← Hw2.out]; refine wpList_alloc_row rfl _ 45 rfl (some 4) rfl (w.heap.size + 2) hsz Z zz ?_; rw [← Hw3.out])
        | (refine at_op (.load 45 (.tmp 2)) ?_ rfl; refine wpList_load_row rfl 45 (.tmp 2) rfl w.heap.size rfl 45 _ (0, 0) _ h2' Try.underlying45 rfl (by rw [hAs]; exact Hs.out) ?_)
        | (refine at_op (.store 45 (.tmp 4) (.tmp 14)) ?_ rfl; refine wpList_store_row rfl 45 (.tmp 4) (.tmp 14) rfl (w.heap.size + 2) _ rfl rfl 45 Z hz3 (by rw [hAs]; exact Hs.out) (by rw [hZ, hAs]) hA1 ?_))
      exact bodyPost_ret (results_cell_row rfl _ _ (w.heap.size + 2) 45 _ (0, 0) _ rfl (hrow _ (Below.refl _ _)) Try.underlying45 rfl (by rw [hAs]; exact Hs.out)) rfl ⟨rfl, hfin _ (Below.refl _ _)⟩
    · rw [if_neg h1] at hDu
      have e1 : ((b.n : Int) == 0) = false := by rw [beq_eq_false_iff_ne]; omega
      have c0 := ca0.out
      have c1 := cb0.out
      have hj := fun w => join_any a.s b.s w
      have hmin := fun w => min_any a.lo b.lo w ha.lo hb.lo
      have hmax := fun w => max_any a.hi b.hi w ha.hi hb.hi
      obtain ⟨nn, hnn⟩ : ∃ nn : Int, nn = (((a.n + b.n) % 18446744073709551616 : Nat) : Int) := ⟨_, rfl⟩
      have HN := Lib.hid (show IntKind.u64.wrap ((a.n : Int) + (b.n : Int)) = nn by rw [hnn, IntKind.wrap_u64]; omega)
      have HB := Lib.hid (show Try.prog.built 45 [(0, .int .u64 nn), (1, .agg (sumC (joinSt a.s b.s))), (2, .float .f64 (minOf a.lo b.lo)), (3, .float .f64 (maxOf a.hi b.hi))] = some D by rw [hDu, hnn]; exact built_state _ _ (sumC_size _) _ _)
      have ra := Lib.hid (range_of h2' 1 _ asum)
      have rb := Lib.hid (range_of h3' 1 _ bsum)
      have ca1 := Lib.hid ((cell_of_row _ _ 41 _ _ _ h2').trans alo)
      have cb1 := Lib.hid ((cell_of_row _ _ 41 _ _ _ h3').trans blo)
      have ca2 := Lib.hid ((cell_of_row _ _ 42 _ _ _ h2').trans ahi)
      have cb2 := Lib.hid ((cell_of_row _ _ 42 _ _ _ h3').trans bhi)
      clear hDu hnn an bn asum bsum alo blo ahi bhi h0 h1 h2 h3 h2' h3' hA1 hB1 hAs hBs hb2
      go_enter Try.func56, Try.ntmps56
      go_upto_region 5 with (first
        | (refine at_op (.alloc 45) ?_ rfl; rw [← Hw2.out]; refine wpList_alloc_row rfl _ 45 rfl (some 4) rfl (w.heap.size + 2) hsz Z zz ?_; rw [← Hw3.out]))
      clear Hw2 Hw3 c0 c1 e0 e1 hsz zz
      have hz3 := Lib.hid hz3
      obtain ⟨CV, hCV⟩ : ∃ CV : Nat → Value, CV = fun j => match j with
        | 0 => .pointer (some ⟨w.heap.size, 0, none⟩)
        | 1 => .int .u64 a.n
        | 2 => .pointer (some ⟨(w.heap.size + 1), 0, none⟩)
        | 3 => .int .u64 b.n
        | 4 => .int .u64 nn
        | 5 => .pointer (some ⟨w.heap.size, 1, none⟩)
        | 6 => .agg (sumC a.s)
        | 7 => .pointer (some ⟨(w.heap.size + 1), 1, none⟩)
        | 8 => .agg (sumC b.s)
        | 9 => .agg (sumC (joinSt a.s b.s))
        | 10 => .pointer (some ⟨w.heap.size, 41, none⟩)
        | 11 => .float .f64 a.lo
        | 12 => .pointer (some ⟨(w.heap.size + 1), 41, none⟩)
        | 13 => .float .f64 b.lo
        | 14 => .float .f64 (minOf a.lo b.lo)
        | 15 => .pointer (some ⟨w.heap.size, 42, none⟩)
        | 16 => .float .f64 a.hi
        | 17 => .pointer (some ⟨(w.heap.size + 1), 42, none⟩)
        | 18 => .float .f64 b.hi
        | 19 => .float .f64 (maxOf a.hi b.hi)
        | 20 => .agg D
        | 21 => undef
        | _ => undef := ⟨_, rfl⟩
      obtain ⟨isO, hO⟩ : ∃ isO : Nat → Bool, isO = fun j => match j with
        | _ => false := ⟨_, rfl⟩
      obtain ⟨BL, hBL⟩ : ∃ BL : Nat → List Int, BL = fun j => match j with
        | _ => [] := ⟨_, rfl⟩
      have v0 : CV 0 = .pointer (some ⟨w.heap.size, 0, none⟩) := congrFun hCV 0
      have o0 : isO 0 = false := congrFun hO 0
      have v1 : CV 1 = .int .u64 a.n := congrFun hCV 1
      have o1 : isO 1 = false := congrFun hO 1
      have v2 : CV 2 = .pointer (some ⟨(w.heap.size + 1), 0, none⟩) := congrFun hCV 2
      have o2 : isO 2 = false := congrFun hO 2
      have v3 : CV 3 = .int .u64 b.n := congrFun hCV 3
      have o3 : isO 3 = false := congrFun hO 3
      have v4 : CV 4 = .int .u64 nn := congrFun hCV 4
      have o4 : isO 4 = false := congrFun hO 4
      have v5 : CV 5 = .pointer (some ⟨w.heap.size, 1, none⟩) := congrFun hCV 5
      have o5 : isO 5 = false := congrFun hO 5
      have v6 : CV 6 = .agg (sumC a.s) := congrFun hCV 6
      have o6 : isO 6 = false := congrFun hO 6
      have v7 : CV 7 = .pointer (some ⟨(w.heap.size + 1), 1, none⟩) := congrFun hCV 7
      have o7 : isO 7 = false := congrFun hO 7
      have v8 : CV 8 = .agg (sumC b.s) := congrFun hCV 8
      have o8 : isO 8 = false := congrFun hO 8
      have v9 : CV 9 = .agg (sumC (joinSt a.s b.s)) := congrFun hCV 9
      have o9 : isO 9 = false := congrFun hO 9
      have v10 : CV 10 = .pointer (some ⟨w.heap.size, 41, none⟩) := congrFun hCV 10
      have o10 : isO 10 = false := congrFun hO 10
      have v11 : CV 11 = .float .f64 a.lo := congrFun hCV 11
      have o11 : isO 11 = false := congrFun hO 11
      have v12 : CV 12 = .pointer (some ⟨(w.heap.size + 1), 41, none⟩) := congrFun hCV 12
      have o12 : isO 12 = false := congrFun hO 12
      have v13 : CV 13 = .float .f64 b.lo := congrFun hCV 13
      have o13 : isO 13 = false := congrFun hO 13
      have v14 : CV 14 = .float .f64 (minOf a.lo b.lo) := congrFun hCV 14
      have o14 : isO 14 = false := congrFun hO 14
      have v15 : CV 15 = .pointer (some ⟨w.heap.size, 42, none⟩) := congrFun hCV 15
      have o15 : isO 15 = false := congrFun hO 15
      have v16 : CV 16 = .float .f64 a.hi := congrFun hCV 16
      have o16 : isO 16 = false := congrFun hO 16
      have v17 : CV 17 = .pointer (some ⟨(w.heap.size + 1), 42, none⟩) := congrFun hCV 17
      have o17 : isO 17 = false := congrFun hO 17
      have v18 : CV 18 = .float .f64 b.hi := congrFun hCV 18
      have o18 : isO 18 = false := congrFun hO 18
      have v19 : CV 19 = .float .f64 (maxOf a.hi b.hi) := congrFun hCV 19
      have o19 : isO 19 = false := congrFun hO 19
      have v20 : CV 20 = .agg D := congrFun hCV 20
      have o20 : isO 20 = false := congrFun hO 20
      have v21 : CV 21 = undef := congrFun hCV 21
      have o21 : isO 21 = false := congrFun hO 21
      clear hCV hO hBL
      have V0 := Lib.hid v0
      have V1 := Lib.hid v1
      have V2 := Lib.hid v2
      have V3 := Lib.hid v3
      have V4 := Lib.hid v4
      have V5 := Lib.hid v5
      have V6 := Lib.hid v6
      have V7 := Lib.hid v7
      have V8 := Lib.hid v8
      have V9 := Lib.hid v9
      have V10 := Lib.hid v10
      have V11 := Lib.hid v11
      have V12 := Lib.hid v12
      have V13 := Lib.hid v13
      have V14 := Lib.hid v14
      have V15 := Lib.hid v15
      have V16 := Lib.hid v16
      have V17 := Lib.hid v17
      have V18 := Lib.hid v18
      have V19 := Lib.hid v19
      have V20 := Lib.hid v20
      have V21 := Lib.hid v21
      clear v0 v1 v2 v3 v4 v5 v6 v7 v8 v9 v10 v11 v12 v13 v14 v15 v16 v17 v18 v19 v20 v21
      refine region_run (RegL w3 21 (w.heap.size + 2) (D) isO BL CV) (by kernel_rfl) (by kernel_rfl) (by kernel_rfl) (by kernel_rfl) (RegL.start w3 21 22 _ _) ?_ ?_
      · intro listed vals a1 wq i hs hcl hP hR hi hu hr1
        replace hi : i < 22 := hi
        replace hs : listed.size = 22 := hs
        obtain rfl | hi1 : i = 0 ∨ 1 ≤ i := by omega
        · have hn := unlisted (n := 21) hcl hu (by kernel_rfl)
          have hI := hP.pre hn
          have t2 := hR.fixed 2 (by kernel_rfl) rfl
          clear hj hmin hmax
          exact wpOp_val rfl rfl (by rw [V0.out]; go_simp) ⟨_, rfl, RegL.of (hI.keep (Below.refl _ _) 0 o0) hn (by decide)⟩
        obtain rfl | hi1 : i = 1 ∨ 2 ≤ i := by omega
        · have hn := unlisted (n := 21) hcl hu (by kernel_rfl)
          have hI := hP.pre hn
          have t15 : a1.tmps[15]? = some (.pointer (some ⟨w.heap.size, 0, none⟩)) := hI.get hR hr1 0 o0 (by kernel_rfl) (by decide) rfl V0.out
          have cc := cell_below hI.b ca0.out
          clear hj hmin hmax
          exact wpOp_val rfl rfl (by rw [V1.out]; go_simp) ⟨_, rfl, RegL.of (hI.keep (Below.refl _ _) 1 o1) hn (by decide)⟩
        obtain rfl | hi1 : i = 2 ∨ 3 ≤ i := by omega
        · have hn := unlisted (n := 21) hcl hu (by kernel_rfl)
          have hI := hP.pre hn
          have t3 := hR.fixed 3 (by kernel_rfl) rfl
          clear hj hmin hmax
          exact wpOp_val rfl rfl (by rw [V2.out]; go_simp) ⟨_, rfl, RegL.of (hI.keep (Below.refl _ _) 2 o2) hn (by decide)⟩
        obtain rfl | hi1 : i = 3 ∨ 4 ≤ i := by omega
        · have hn := unlisted (n := 21) hcl hu (by kernel_rfl)
          have hI := hP.pre hn
          have t17 : a1.tmps[17]? = some (.pointer (some ⟨(w.heap.size + 1), 0, none⟩)) := hI.get hR hr1 2 o2 (by kernel_rfl) (by decide) rfl V2.out
          have cc := cell_below hI.b cb0.out
          clear hj hmin hmax
          exact wpOp_val rfl rfl (by rw [V3.out]; go_simp) ⟨_, rfl, RegL.of (hI.keep (Below.refl _ _) 3 o3) hn (by decide)⟩
        obtain rfl | hi1 : i = 4 ∨ 5 ≤ i := by omega
        · have hn := unlisted (n := 21) hcl hu (by kernel_rfl)
          have hI := hP.pre hn
          have t16 : a1.tmps[16]? = some (.int .u64 a.n) := hI.get hR hr1 1 o1 (by kernel_rfl) (by decide) rfl V1.out
          have t18 : a1.tmps[18]? = some (.int .u64 b.n) := hI.get hR hr1 3 o3 (by kernel_rfl) (by decide) rfl V3.out
          have hnn := HN.out
          clear hj hmin hmax
          exact wpOp_val rfl rfl (by rw [V4.out]; go_simp) ⟨_, rfl, RegL.of (hI.keep (Below.refl _ _) 4 o4) hn (by decide)⟩
        obtain rfl | hi1 : i = 5 ∨ 6 ≤ i := by omega
        · have hn := unlisted (n := 21) hcl hu (by kernel_rfl)
          have hI := hP.pre hn
          have t2 := hR.fixed 2 (by kernel_rfl) rfl
          have hso := run_sizeOf_info (P := Try.prog) Hs30.out wq
          clear hj hmin hmax
          exact wpOp_val rfl rfl (by rw [V5.out]; go_simp) ⟨_, rfl, RegL.of (hI.keep (Below.refl _ _) 5 o5) hn (by decide)⟩
        obtain rfl | hi1 : i = 6 ∨ 7 ≤ i := by omega
        · have hn := unlisted (n := 21) hcl hu (by kernel_rfl)
          have hI := hP.pre hn
          have t20 : a1.tmps[20]? = some (.pointer (some ⟨w.heap.size, 1, none⟩)) := hI.get hR hr1 5 o5 (by kernel_rfl) (by decide) rfl V5.out
          exact wpOp_mid rfl rfl 43 (.tmp 20) rfl w.heap.size 1 (getD_is t20) (sumC a.s) _ (range_below hI.b ra.out) Try.underlying43 rfl (by rw [sumC_size]; exact Hs30.out) ⟨_, rfl, RegL.of (hI.keepV (Below.refl _ _) 6 o6 V6.out) hn (by decide)⟩
        obtain rfl | hi1 : i = 7 ∨ 8 ≤ i := by omega
        · have hn := unlisted (n := 21) hcl hu (by kernel_rfl)
          have hI := hP.pre hn
          have t3 := hR.fixed 3 (by kernel_rfl) rfl
          have hso := run_sizeOf_info (P := Try.prog) Hs30.out wq
          clear hj hmin hmax
          exact wpOp_val rfl rfl (by rw [V7.out]; go_simp) ⟨_, rfl, RegL.of (hI.keep (Below.refl _ _) 7 o7) hn (by decide)⟩
        obtain rfl | hi1 : i = 8 ∨ 9 ≤ i := by omega
        · have hn := unlisted (n := 21) hcl hu (by kernel_rfl)
          have hI := hP.pre hn
          have t22 : a1.tmps[22]? = some (.pointer (some ⟨(w.heap.size + 1), 1, none⟩)) := hI.get hR hr1 7 o7 (by kernel_rfl) (by decide) rfl V7.out
          exact wpOp_mid rfl rfl 43 (.tmp 22) rfl (w.heap.size + 1) 1 (getD_is t22) (sumC b.s) _ (range_below hI.b rb.out) Try.underlying43 rfl (by rw [sumC_size]; exact Hs30.out) ⟨_, rfl, RegL.of (hI.keepV (Below.refl _ _) 8 o8 V8.out) hn (by decide)⟩
        obtain rfl | hi1 : i = 9 ∨ 10 ≤ i := by omega
        · have hn := unlisted (n := 21) hcl hu (by kernel_rfl)
          have hI := hP.pre hn
          have t21 : a1.tmps[21]? = some (.agg (sumC a.s)) := hI.get hR hr1 6 o6 (by kernel_rfl) (by decide) rfl V6.out
          have t23 : a1.tmps[23]? = some (.agg (sumC b.s)) := hI.get hR hr1 8 o8 (by kernel_rfl) (by decide) rfl V8.out
          have hc1 := hj wq
          clear hj hmin hmax
          refine wpOp_calls (f := 86) (args := #[.agg (sumC a.s), .agg (sumC b.s)]) rfl rfl (by go_simp) (hc1.mono ?_)
          rintro e wz ⟨rfl, b⟩
          exact ⟨_, rfl, _, rfl, RegL.of (hI.keepV b 9 o9 V9.out) hn (by decide)⟩
        obtain rfl | hi1 : i = 10 ∨ 11 ≤ i := by omega
        · have hn := unlisted (n := 21) hcl hu (by kernel_rfl)
          have hI := hP.pre hn
          have t2 := hR.fixed 2 (by kernel_rfl) rfl
          clear hj hmin hmax
          exact wpOp_val rfl rfl (by rw [V10.out]; go_simp) ⟨_, rfl, RegL.of (hI.keep (Below.refl _ _) 10 o10) hn (by decide)⟩
        obtain rfl | hi1 : i = 11 ∨ 12 ≤ i := by omega
        · have hn := unlisted (n := 21) hcl hu (by kernel_rfl)
          have hI := hP.pre hn
          have t25 : a1.tmps[25]? = some (.pointer (some ⟨w.heap.size, 41, none⟩)) := hI.get hR hr1 10 o10 (by kernel_rfl) (by decide) rfl V10.out
          have cc := cell_below hI.b ca1.out
          clear hj hmin hmax
          exact wpOp_val rfl rfl (by rw [V11.out]; go_simp) ⟨_, rfl, RegL.of (hI.keep (Below.refl _ _) 11 o11) hn (by decide)⟩
        obtain rfl | hi1 : i = 12 ∨ 13 ≤ i := by omega
        · have hn := unlisted (n := 21) hcl hu (by kernel_rfl)
          have hI := hP.pre hn
          have t3 := hR.fixed 3 (by kernel_rfl) rfl
          clear hj hmin hmax
          exact wpOp_val rfl rfl (by rw [V12.out]; go_simp) ⟨_, rfl, RegL.of (hI.keep (Below.refl _ _) 12 o12) hn (by decide)⟩
        obtain rfl | hi1 : i = 13 ∨ 14 ≤ i := by omega
        · have hn := unlisted (n := 21) hcl hu (by kernel_rfl)
          have hI := hP.pre hn
          have t27 : a1.tmps[27]? = some (.pointer (some ⟨(w.heap.size + 1), 41, none⟩)) := hI.get hR hr1 12 o12 (by kernel_rfl) (by decide) rfl V12.out
          have cc := cell_below hI.b cb1.out
          clear hj hmin hmax
          exact wpOp_val rfl rfl (by rw [V13.out]; go_simp) ⟨_, rfl, RegL.of (hI.keep (Below.refl _ _) 13 o13) hn (by decide)⟩
        obtain rfl | hi1 : i = 14 ∨ 15 ≤ i := by omega
        · have hn := unlisted (n := 21) hcl hu (by kernel_rfl)
          have hI := hP.pre hn
          have t26 : a1.tmps[26]? = some (.float .f64 a.lo) := hI.get hR hr1 11 o11 (by kernel_rfl) (by decide) rfl V11.out
          have t28 : a1.tmps[28]? = some (.float .f64 b.lo) := hI.get hR hr1 13 o13 (by kernel_rfl) (by decide) rfl V13.out
          have hc1 := hmin wq
          clear hj hmin hmax
          refine wpOp_calls (f := 87) (args := #[.float .f64 a.lo, .float .f64 b.lo]) rfl rfl (by go_simp) (hc1.mono ?_)
          rintro e wz ⟨rfl, rfl⟩
          exact ⟨_, rfl, _, rfl, RegL.of (hI.keepV (Below.refl _ _) 14 o14 V14.out) hn (by decide)⟩
        obtain rfl | hi1 : i = 15 ∨ 16 ≤ i := by omega
        · have hn := unlisted (n := 21) hcl hu (by kernel_rfl)
          have hI := hP.pre hn
          have t2 := hR.fixed 2 (by kernel_rfl) rfl
          clear hj hmin hmax
          exact wpOp_val rfl rfl (by rw [V15.out]; go_simp) ⟨_, rfl, RegL.of (hI.keep (Below.refl _ _) 15 o15) hn (by decide)⟩
        obtain rfl | hi1 : i = 16 ∨ 17 ≤ i := by omega
        · have hn := unlisted (n := 21) hcl hu (by kernel_rfl)
          have hI := hP.pre hn
          have t30 : a1.tmps[30]? = some (.pointer (some ⟨w.heap.size, 42, none⟩)) := hI.get hR hr1 15 o15 (by kernel_rfl) (by decide) rfl V15.out
          have cc := cell_below hI.b ca2.out
          clear hj hmin hmax
          exact wpOp_val rfl rfl (by rw [V16.out]; go_simp) ⟨_, rfl, RegL.of (hI.keep (Below.refl _ _) 16 o16) hn (by decide)⟩
        obtain rfl | hi1 : i = 17 ∨ 18 ≤ i := by omega
        · have hn := unlisted (n := 21) hcl hu (by kernel_rfl)
          have hI := hP.pre hn
          have t3 := hR.fixed 3 (by kernel_rfl) rfl
          clear hj hmin hmax
          exact wpOp_val rfl rfl (by rw [V17.out]; go_simp) ⟨_, rfl, RegL.of (hI.keep (Below.refl _ _) 17 o17) hn (by decide)⟩
        obtain rfl | hi1 : i = 18 ∨ 19 ≤ i := by omega
        · have hn := unlisted (n := 21) hcl hu (by kernel_rfl)
          have hI := hP.pre hn
          have t32 : a1.tmps[32]? = some (.pointer (some ⟨(w.heap.size + 1), 42, none⟩)) := hI.get hR hr1 17 o17 (by kernel_rfl) (by decide) rfl V17.out
          have cc := cell_below hI.b cb2.out
          clear hj hmin hmax
          exact wpOp_val rfl rfl (by rw [V18.out]; go_simp) ⟨_, rfl, RegL.of (hI.keep (Below.refl _ _) 18 o18) hn (by decide)⟩
        obtain rfl | hi1 : i = 19 ∨ 20 ≤ i := by omega
        · have hn := unlisted (n := 21) hcl hu (by kernel_rfl)
          have hI := hP.pre hn
          have t31 : a1.tmps[31]? = some (.float .f64 a.hi) := hI.get hR hr1 16 o16 (by kernel_rfl) (by decide) rfl V16.out
          have t33 : a1.tmps[33]? = some (.float .f64 b.hi) := hI.get hR hr1 18 o18 (by kernel_rfl) (by decide) rfl V18.out
          have hc1 := hmax wq
          clear hj hmin hmax
          refine wpOp_calls (f := 88) (args := #[.float .f64 a.hi, .float .f64 b.hi]) rfl rfl (by go_simp) (hc1.mono ?_)
          rintro e wz ⟨rfl, rfl⟩
          exact ⟨_, rfl, _, rfl, RegL.of (hI.keepV (Below.refl _ _) 19 o19 V19.out) hn (by decide)⟩
        obtain rfl | hi1 : i = 20 ∨ 21 ≤ i := by omega
        · have hn := unlisted (n := 21) hcl hu (by kernel_rfl)
          have hI := hP.pre hn
          have t19 : a1.tmps[19]? = some (.int .u64 nn) := hI.get hR hr1 4 o4 (by kernel_rfl) (by decide) rfl V4.out
          have t24 : a1.tmps[24]? = some (.agg (sumC (joinSt a.s b.s))) := hI.get hR hr1 9 o9 (by kernel_rfl) (by decide) rfl V9.out
          have t29 : a1.tmps[29]? = some (.float .f64 (minOf a.lo b.lo)) := hI.get hR hr1 14 o14 (by kernel_rfl) (by decide) rfl V14.out
          have t34 : a1.tmps[34]? = some (.float .f64 (maxOf a.hi b.hi)) := hI.get hR hr1 19 o19 (by kernel_rfl) (by decide) rfl V19.out
          clear hj hmin hmax
          have hbd := HB.out
          refine wpOp_build rfl rfl 45 _ rfl (D) ?_ ⟨_, rfl, RegL.of (hI.keepV (Below.refl _ _) 20 o20 V20.out) hn (by decide)⟩
          simp only [List.map_toArray, List.map_cons, List.map_nil, Act.eval, getD_is t19, getD_is t24, getD_is t29, getD_is t34]; exact hbd
        obtain rfl : i = 21 := by omega
        have hI := hP.pre hu
        have t4 := hR.fixed 4 (by kernel_rfl) rfl
        have t35 : a1.tmps[35]? = some (.agg D) := hI.get hR hr1 20 o20 (by kernel_rfl) (by decide) rfl V20.out
        have kk := (hI.b.block _ (heap_lt hz3.out)).trans hz3.out
        exact wpOp_of_wp rfl rfl (wp_store_row 45 (.tmp 4) (.tmp 35) rfl (w.heap.size + 2) (D) (getD_is t4) (getD_is t35) 45 _ kk (by rw [HD.out]; exact Hs.out) (by rw [hZ, HD.out]) HD1.out ⟨undef, rfl, RegL.done hI.b (by omega)⟩)
      · intro listed vals wq FF hP hall hFF
        obtain ⟨wz, bfin, rfl⟩ := hP.fin (hall 21 (by decide))
        have hF2 : FF = (((((((((((((((((((((Act.put _ (some 15) (vals 0)).put (some 16) (vals 1)).put (some 17) (vals 2)).put (some 18) (vals 3)).put (some 19) (vals 4)).put (some 20) (vals 5)).put (some 21) (vals 6)).put (some 22) (vals 7)).put (some 23) (vals 8)).put (some 24) (vals 9)).put (some 25) (vals 10)).put (some 26) (vals 11)).put (some 27) (vals 12)).put (some 28) (vals 13)).put (some 29) (vals 14)).put (some 30) (vals 15)).put (some 31) (vals 16)).put (some 32) (vals 17)).put (some 33) (vals 18)).put (some 34) (vals 19)).put (some 35) (vals 20)).put none (vals 21) := hFF
        simp only [putAll] at hF2
        rw [hF2]
        clear hF2 hFF hP hall
        go_frame
        go_wp2_with fail
        exact bodyPost_ret (results_cell_row rfl _ _ (w.heap.size + 2) 45 _ (0, 0) _ rfl (hrow _ bfin) Try.underlying45 rfl (by rw [HD.out]; exact Hs.out)) rfl ⟨rfl, hfin _ bfin⟩
set_option maxRecDepth 100000 in
set_option maxHeartbeats 8000000 in
theorem add_as (b : AS) (x : Nat) (w : World) (hb : b.ok) (hx : x < 18446744073709551616) : Calls Try.prog 42 #[.agg (asC b), .float .f64 x] w fun e w' => e = .returned (.agg (asC (addAS b x))) ∧ Below w.heap.size w w' := by
  have Hs := Lib.hid sizeState
  obtain ⟨Z, hZ, zz⟩ : ∃ Z : Array Value, Z.size = 43 ∧ ∀ w, (zeroValue 45).run Try.prog w = .ok (.agg Z) w := ⟨_, asC_size _, zeroState⟩
  obtain ⟨D, hD⟩ : ∃ D, D = asC (addAS b x) := ⟨_, rfl⟩
  have hDs : D.size = 43 := by rw [hD]; exact asC_size _
  have hD1 : D.all (·.oneCell') = true := by rw [hD]; exact asC_one _
  have HD := Lib.hid hDs
  have HD1 := Lib.hid hD1
  obtain ⟨B, hBB⟩ : ∃ B, B = asC b := ⟨_, rfl⟩
  have hB : B.size = 43 := by rw [hBB]; exact asC_size _
  obtain ⟨E, hE⟩ : ∃ E, E = asC (oneAS x) := ⟨_, rfl⟩
  have HE := Lib.hid (show Try.prog.built 45 [(0, .int .u64 1), (1, .agg (sumC (addSt noSt x))), (2, .float .f64 (canon x)), (3, .float .f64 (canon x))] = some E by rw [hE]; exact built_state _ _ (sumC_size _) _ _)
  have hadd := fun w => add_any noSt x w hx
  have hcan := fun w => canon_any x w
  have hjn := fun w => join_as b (oneAS x) w hb (oneAS_ok hx)
  rw [← hBB, ← hE, show joinAS b (oneAS x) = addAS b x from rfl, ← hD] at hjn
  rw [← hBB, ← hD]
  have h2 := heap_alloc_new w (.cells B 45)
  have hb2 := below_alloc (Below.refl w.heap.size w) (.cells B 45)
  have hsz : (w.alloc (.cells B 45)).heap.size = w.heap.size + 1 := by simp
  obtain ⟨w2, hw2⟩ : ∃ w2, w2 = w.alloc (.cells B 45) := ⟨_, rfl⟩
  rw [← hw2] at h2 hb2 hsz
  have hz3 := heap_alloc_new w2 (.cells Z 45)
  have hb3 := below_alloc hb2 (.cells Z 45)
  have h2' := ((below_alloc (Below.refl w2.heap.size w2) (.cells Z 45)).block _ (heap_lt h2)).trans h2
  rw [hsz] at hz3
  obtain ⟨w3, hw3⟩ : ∃ w3, w3 = w2.alloc (.cells Z 45) := ⟨_, rfl⟩
  rw [← hw3] at hz3 hb3 h2'
  have Hw2 := Lib.hid hw2
  have Hw3 := Lib.hid hw3
  have k2 := Lib.hid h2'
  have hfin : ∀ wz, Below w3.heap.size w3 wz → Below w.heap.size w (wz.setRow (w.heap.size + 1) D) := fun wz b => below_setRow (below_trans hb3 b) (by omega) D
  have hrow : ∀ wz, Below w3.heap.size w3 wz → (wz.setRow (w.heap.size + 1) D).heap[w.heap.size + 1]? = some (.cells D 45 (0, 0)) := fun wz b => setRow_heap _ _ _ _ _ _ ((b.block _ (heap_lt hz3)).trans hz3)
  clear hw2 hw3 hD hE hBB hDs hD1 h2 h2' hb2
  go_enter Try.func42, Try.ntmps42
  go_upto_region 1 with (first
    | (refine at_op (.alloc 45) ?_ rfl; rw [← Hw2.out]; refine wpList_alloc_row rfl _ 45 rfl (some 4) rfl (w.heap.size + 1) hsz Z zz ?_; rw [← Hw3.out]))
  clear Hw2 Hw3 hsz zz
  have hz3 := Lib.hid hz3
  obtain ⟨CV, hCV⟩ : ∃ CV : Nat → Value, CV = fun j => match j with
    | 0 => .agg B
    | 1 => .agg (sumC noSt)
    | 2 => .float .f64 x
    | 3 => .agg (sumC (addSt noSt x))
    | 4 => .float .f64 x
    | 5 => .float .f64 (canon x)
    | 6 => .float .f64 x
    | 7 => .float .f64 (canon x)
    | 8 => .agg E
    | 9 => .agg D
    | 10 => undef
    | _ => undef := ⟨_, rfl⟩
  obtain ⟨isO, hO⟩ : ∃ isO : Nat → Bool, isO = fun j => match j with
    | _ => false := ⟨_, rfl⟩
  obtain ⟨BL, hBL⟩ : ∃ BL : Nat → List Int, BL = fun j => match j with
    | _ => [] := ⟨_, rfl⟩
  have v0 : CV 0 = .agg B := congrFun hCV 0
  have o0 : isO 0 = false := congrFun hO 0
  have v1 : CV 1 = .agg (sumC noSt) := congrFun hCV 1
  have o1 : isO 1 = false := congrFun hO 1
  have v2 : CV 2 = .float .f64 x := congrFun hCV 2
  have o2 : isO 2 = false := congrFun hO 2
  have v3 : CV 3 = .agg (sumC (addSt noSt x)) := congrFun hCV 3
  have o3 : isO 3 = false := congrFun hO 3
  have v4 : CV 4 = .float .f64 x := congrFun hCV 4
  have o4 : isO 4 = false := congrFun hO 4
  have v5 : CV 5 = .float .f64 (canon x) := congrFun hCV 5
  have o5 : isO 5 = false := congrFun hO 5
  have v6 : CV 6 = .float .f64 x := congrFun hCV 6
  have o6 : isO 6 = false := congrFun hO 6
  have v7 : CV 7 = .float .f64 (canon x) := congrFun hCV 7
  have o7 : isO 7 = false := congrFun hO 7
  have v8 : CV 8 = .agg E := congrFun hCV 8
  have o8 : isO 8 = false := congrFun hO 8
  have v9 : CV 9 = .agg D := congrFun hCV 9
  have o9 : isO 9 = false := congrFun hO 9
  have v10 : CV 10 = undef := congrFun hCV 10
  have o10 : isO 10 = false := congrFun hO 10
  clear hCV hO hBL
  have V0 := Lib.hid v0
  have V1 := Lib.hid v1
  have V2 := Lib.hid v2
  have V3 := Lib.hid v3
  have V4 := Lib.hid v4
  have V5 := Lib.hid v5
  have V6 := Lib.hid v6
  have V7 := Lib.hid v7
  have V8 := Lib.hid v8
  have V9 := Lib.hid v9
  have V10 := Lib.hid v10
  clear v0 v1 v2 v3 v4 v5 v6 v7 v8 v9 v10
  refine region_run (RegL w3 10 (w.heap.size + 1) (D) isO BL CV) (by kernel_rfl) (by kernel_rfl) (by kernel_rfl) (by kernel_rfl) (RegL.start w3 10 11 _ _) ?_ ?_
  · intro listed vals a1 wq i hs hcl hP hR hi hu hr1
    replace hi : i < 11 := hi
    replace hs : listed.size = 11 := hs
    obtain rfl | hi1 : i = 0 ∨ 1 ≤ i := by omega
    · have hn := unlisted (n := 10) hcl hu (by kernel_rfl)
      have hI := hP.pre hn
      have t2 := hR.fixed 2 (by kernel_rfl) rfl
      have kk := (hI.b.block _ (heap_lt k2.out)).trans k2.out
      exact wpOp_of_wp rfl rfl (wp_load_row 45 (.tmp 2) rfl w.heap.size (getD_is t2) 45 B (0, 0) _ kk Try.underlying45 rfl (by rw [hB]; exact Hs.out) ⟨_, rfl, RegL.of (hI.keepV (Below.refl _ _) 0 o0 V0.out) hn (by decide)⟩)
    obtain rfl | hi1 : i = 1 ∨ 2 ≤ i := by omega
    · have hn := unlisted (n := 10) hcl hu (by kernel_rfl)
      have hI := hP.pre hn
      clear hadd hcan hjn
      have hbd := built_noSum
      refine wpOp_build rfl rfl 43 _ rfl ((sumC noSt)) ?_ ⟨_, rfl, RegL.of (hI.keepV (Below.refl _ _) 1 o1 V1.out) hn (by decide)⟩
      simp only [List.map_toArray, List.map_nil]; exact hbd
    obtain rfl | hi1 : i = 2 ∨ 3 ≤ i := by omega
    · have hn := unlisted (n := 10) hcl hu (by kernel_rfl)
      have hI := hP.pre hn
      have t1 := hR.fixed 1 (by kernel_rfl) rfl
      clear hadd hcan hjn
      exact wpOp_val rfl rfl (by rw [V2.out]; go_simp) ⟨_, rfl, RegL.of (hI.keep (Below.refl _ _) 2 o2) hn (by decide)⟩
    obtain rfl | hi1 : i = 3 ∨ 4 ≤ i := by omega
    · have hn := unlisted (n := 10) hcl hu (by kernel_rfl)
      have hI := hP.pre hn
      have t6 : a1.tmps[6]? = some (.agg (sumC noSt)) := hI.get hR hr1 1 o1 (by kernel_rfl) (by decide) rfl V1.out
      have t7 : a1.tmps[7]? = some (.float .f64 x) := hI.get hR hr1 2 o2 (by kernel_rfl) (by decide) rfl V2.out
      have hc1 := hadd wq
      clear hadd hcan hjn
      refine wpOp_calls (f := 57) (args := #[.agg (sumC noSt), .float .f64 x]) rfl rfl (by go_simp) (hc1.mono ?_)
      rintro e wz ⟨rfl, b⟩
      exact ⟨_, rfl, _, rfl, RegL.of (hI.keepV b 3 o3 V3.out) hn (by decide)⟩
    obtain rfl | hi1 : i = 4 ∨ 5 ≤ i := by omega
    · have hn := unlisted (n := 10) hcl hu (by kernel_rfl)
      have hI := hP.pre hn
      have t1 := hR.fixed 1 (by kernel_rfl) rfl
      clear hadd hcan hjn
      exact wpOp_val rfl rfl (by rw [V4.out]; go_simp) ⟨_, rfl, RegL.of (hI.keep (Below.refl _ _) 4 o4) hn (by decide)⟩
    obtain rfl | hi1 : i = 5 ∨ 6 ≤ i := by omega
    · have hn := unlisted (n := 10) hcl hu (by kernel_rfl)
      have hI := hP.pre hn
      have t9 : a1.tmps[9]? = some (.float .f64 x) := hI.get hR hr1 4 o4 (by kernel_rfl) (by decide) rfl V4.out
      have hc1 := hcan wq
      clear hadd hcan hjn
      refine wpOp_calls (f := 44) (args := #[.float .f64 x]) rfl rfl (by go_simp) (hc1.mono ?_)
      rintro e wz ⟨rfl, rfl⟩
      exact ⟨_, rfl, _, rfl, RegL.of (hI.keepV (Below.refl _ _) 5 o5 V5.out) hn (by decide)⟩
    obtain rfl | hi1 : i = 6 ∨ 7 ≤ i := by omega
    · have hn := unlisted (n := 10) hcl hu (by kernel_rfl)
      have hI := hP.pre hn
      have t1 := hR.fixed 1 (by kernel_rfl) rfl
      clear hadd hcan hjn
      exact wpOp_val rfl rfl (by rw [V6.out]; go_simp) ⟨_, rfl, RegL.of (hI.keep (Below.refl _ _) 6 o6) hn (by decide)⟩
    obtain rfl | hi1 : i = 7 ∨ 8 ≤ i := by omega
    · have hn := unlisted (n := 10) hcl hu (by kernel_rfl)
      have hI := hP.pre hn
      have t11 : a1.tmps[11]? = some (.float .f64 x) := hI.get hR hr1 6 o6 (by kernel_rfl) (by decide) rfl V6.out
      have hc1 := hcan wq
      clear hadd hcan hjn
      refine wpOp_calls (f := 44) (args := #[.float .f64 x]) rfl rfl (by go_simp) (hc1.mono ?_)
      rintro e wz ⟨rfl, rfl⟩
      exact ⟨_, rfl, _, rfl, RegL.of (hI.keepV (Below.refl _ _) 7 o7 V7.out) hn (by decide)⟩
    obtain rfl | hi1 : i = 8 ∨ 9 ≤ i := by omega
    · have hn := unlisted (n := 10) hcl hu (by kernel_rfl)
      have hI := hP.pre hn
      have t8 : a1.tmps[8]? = some (.agg (sumC (addSt noSt x))) := hI.get hR hr1 3 o3 (by kernel_rfl) (by decide) rfl V3.out
      have t10 : a1.tmps[10]? = some (.float .f64 (canon x)) := hI.get hR hr1 5 o5 (by kernel_rfl) (by decide) rfl V5.out
      have t12 : a1.tmps[12]? = some (.float .f64 (canon x)) := hI.get hR hr1 7 o7 (by kernel_rfl) (by decide) rfl V7.out
      clear hadd hcan hjn
      have hbd := HE.out
      refine wpOp_build rfl rfl 45 _ rfl (E) ?_ ⟨_, rfl, RegL.of (hI.keepV (Below.refl _ _) 8 o8 V8.out) hn (by decide)⟩
      simp only [List.map_toArray, List.map_cons, List.map_nil, Act.eval, getD_is t8, getD_is t10, getD_is t12]; exact hbd
    obtain rfl | hi1 : i = 9 ∨ 10 ≤ i := by omega
    · have hn := unlisted (n := 10) hcl hu (by kernel_rfl)
      have hI := hP.pre hn
      have t5 : a1.tmps[5]? = some (.agg B) := hI.get hR hr1 0 o0 (by kernel_rfl) (by decide) rfl V0.out
      have t13 : a1.tmps[13]? = some (.agg E) := hI.get hR hr1 8 o8 (by kernel_rfl) (by decide) rfl V8.out
      have hc1 := hjn wq
      clear hadd hcan hjn
      refine wpOp_calls (f := 56) (args := #[.agg B, .agg E]) rfl rfl (by go_simp) (hc1.mono ?_)
      rintro e wz ⟨rfl, b⟩
      exact ⟨_, rfl, _, rfl, RegL.of (hI.keepV b 9 o9 V9.out) hn (by decide)⟩
    obtain rfl : i = 10 := by omega
    have hI := hP.pre hu
    have t4 := hR.fixed 4 (by kernel_rfl) rfl
    have t14 : a1.tmps[14]? = some (.agg D) := hI.get hR hr1 9 o9 (by kernel_rfl) (by decide) rfl V9.out
    have kk := (hI.b.block _ (heap_lt hz3.out)).trans hz3.out
    exact wpOp_of_wp rfl rfl (wp_store_row 45 (.tmp 4) (.tmp 14) rfl (w.heap.size + 1) (D) (getD_is t4) (getD_is t14) 45 _ kk (by rw [HD.out]; exact Hs.out) (by rw [hZ, HD.out]) HD1.out ⟨undef, rfl, RegL.done hI.b (by omega)⟩)
  · intro listed vals wq FF hP hall hFF
    obtain ⟨wz, bfin, rfl⟩ := hP.fin (hall 10 (by decide))
    have hF2 : FF = ((((((((((Act.put _ (some 5) (vals 0)).put (some 6) (vals 1)).put (some 7) (vals 2)).put (some 8) (vals 3)).put (some 9) (vals 4)).put (some 10) (vals 5)).put (some 11) (vals 6)).put (some 12) (vals 7)).put (some 13) (vals 8)).put (some 14) (vals 9)).put none (vals 10) := hFF
    simp only [putAll] at hF2
    rw [hF2]
    clear hF2 hFF hP hall
    go_frame
    go_wp2_with fail
    exact bodyPost_ret (results_cell_row rfl _ _ (w.heap.size + 1) 45 _ (0, 0) _ rfl (hrow _ bfin) Try.underlying45 rfl (by rw [HD.out]; exact Hs.out)) rfl ⟨rfl, hfin _ bfin⟩
theorem valSt_low (s : St) : (valSt s).1 < 18446744073709551616 := by
  unfold valSt
  split
  · cases s.nan <;> cases s.pos <;> cases s.neg <;> decide
  · exact (valOf_low _ _ _ _).2
set_option maxRecDepth 100000 in
set_option maxHeartbeats 8000000 in
theorem tell_as (a : AS) (w : World) (ha : a.ok) : Calls Try.prog 31 #[.agg (asC a)] w fun e w' => e = .returned (.agg (avC (tellAS a))) ∧ Below w.heap.size w w' := by
  have Hs := Lib.hid sizeState
  have Hsg := Lib.hid sizeAgg
  have Hs30 := Lib.hid size30
  obtain ⟨Z, hZ, zz⟩ : ∃ Z : Array Value, Z.size = 5 ∧ ∀ w, (zeroValue 61).run Try.prog w = .ok (.agg Z) w := ⟨_, rfl, zeroAgg⟩
  have hval := fun w => value_any a.s w
  have hvl := valSt_low a.s
  have hDD : avC (tellAS a) = #[.int .u64 (a.n : Int), .float .f64 (canon (valSt a.s).1), .bool (valSt a.s).2, .float .f64 a.lo, .float .f64 a.hi] := rfl
  rw [hDD]
  clear hDD
  generalize (valSt a.s).1 = x at *
  generalize (valSt a.s).2 = ov at *
  have hcan := fun w => canon_any x w
  obtain ⟨A, hA⟩ : ∃ A, A = asC a := ⟨_, rfl⟩
  obtain ⟨D, hDD⟩ : ∃ D : Array Value, D = #[.int .u64 (a.n : Int), .float .f64 (canon x), .bool ov, .float .f64 a.lo, .float .f64 a.hi] := ⟨_, rfl⟩
  have HD := Lib.hid (show D.size = 5 by rw [hDD]; rfl)
  have HD1 := Lib.hid (show D.all (·.oneCell') = true by rw [hDD]; simp [Value.oneCell'])
  have HB := Lib.hid (show Try.prog.built 61 [(0, .int .u64 (a.n : Int)), (1, .float .f64 (canon x)), (2, .bool ov), (3, .float .f64 a.lo), (4, .float .f64 a.hi)] = some D by rw [hDD]; exact built_agg _ _ _ _ _)
  rw [← hDD]
  have an : A[0]? = some (.int .u64 (a.n : Int)) := by rw [hA]; exact asC_n a
  have asum : ∀ j v, (sumC a.s).toList[j]? = some v → A[1 + j]? = some v := by rw [hA]; exact asC_sum a
  have alo : A[41]? = some (.float .f64 a.lo) := by rw [hA]; exact asC_lo a
  have ahi : A[42]? = some (.float .f64 a.hi) := by rw [hA]; exact asC_hi a
  rw [← hA]
  have h2 := heap_alloc_new w (.cells A 45)
  have hb2 := below_alloc (Below.refl w.heap.size w) (.cells A 45)
  have hsz : (w.alloc (.cells A 45)).heap.size = w.heap.size + 1 := by simp
  obtain ⟨w1, hw1⟩ : ∃ w1, w1 = w.alloc (.cells A 45) := ⟨_, rfl⟩
  rw [← hw1] at h2 hb2 hsz
  have hz3 := heap_alloc_new w1 (.cells Z 61)
  have hb3 := below_alloc hb2 (.cells Z 61)
  have h2' := ((below_alloc (Below.refl w1.heap.size w1) (.cells Z 61)).block _ (heap_lt h2)).trans h2
  rw [hsz] at hz3
  obtain ⟨w2, hw2⟩ : ∃ w2, w2 = w1.alloc (.cells Z 61) := ⟨_, rfl⟩
  rw [← hw2] at hz3 hb3 h2'
  have Hw1 := Lib.hid hw1
  have Hw2 := Lib.hid hw2
  have hra := range_of h2' 1 _ asum
  have Ha0 := (cell_of_row _ _ 0 _ _ _ h2').trans an
  have Ha1 := (cell_of_row _ _ 41 _ _ _ h2').trans alo
  have Ha2 := (cell_of_row _ _ 42 _ _ _ h2').trans ahi
  have ra := Lib.hid hra
  have Ha0 := Lib.hid Ha0
  have Ha1 := Lib.hid Ha1
  have Ha2 := Lib.hid Ha2
  have Hz := Lib.hid hz3
  have hso := run_sizeOf_info (P := Try.prog) Hs30.out
  clear hw1 hw2 hA hDD h2 h2' hb2 an asum alo ahi hz3 hra
  go_enter Try.func31, Try.ntmps31
  go_upto_region 2 with (first
    | (refine at_op (.alloc 61) ?_ rfl; rw [← Hw1.out]; refine wpList_alloc_row rfl _ 61 rfl (some 2) rfl (w.heap.size + 1) hsz Z zz ?_; rw [← Hw2.out])
    | (refine at_op (.load 43 (.tmp 6)) ?_ rfl; refine wpList_load_mid rfl 43 (.tmp 6) rfl w.heap.size 1 rfl (sumC a.s).toList _ ra.out Try.underlying43 rfl (by rw [Array.length_toList, sumC_size]; exact Hs30.out) ?_)
    | (go_at_call 43; (with_reducible refine (hval _).mono ?_); rintro e w3 ⟨rfl, b3⟩))
  have ca0 := Lib.hid (cell_below b3 Ha0.out)
  have ca1 := Lib.hid (cell_below b3 Ha1.out)
  have ca2 := Lib.hid (cell_below b3 Ha2.out)
  have hz3 := Lib.hid ((b3.block _ (heap_lt Hz.out)).trans Hz.out)
  have bb3 := below_trans hb3 b3
  have hfin : ∀ wz, Below w3.heap.size w3 wz → Below w.heap.size w (wz.setRow (w.heap.size + 1) D) := fun wz b => below_setRow (below_trans bb3 b) (by omega) D
  have hrow : ∀ wz, Below w3.heap.size w3 wz → (wz.setRow (w.heap.size + 1) D).heap[w.heap.size + 1]? = some (.cells D 61 (0, 0)) := fun wz b => setRow_heap _ _ _ _ _ _ ((b.block _ (heap_lt hz3.out)).trans hz3.out)
  clear Hw1 Hw2 hsz zz hval Ha0 Ha1 Ha2 Hz ra b3 hso
  obtain ⟨CV, hCV⟩ : ∃ CV : Nat → Value, CV = fun j => match j with
    | 0 => .pointer (some ⟨w.heap.size, 0, none⟩)
    | 1 => .int .u64 a.n
    | 2 => .float .f64 x
    | 3 => .float .f64 (canon x)
    | 4 => .bool ov
    | 5 => .pointer (some ⟨w.heap.size, 41, none⟩)
    | 6 => .float .f64 a.lo
    | 7 => .pointer (some ⟨w.heap.size, 42, none⟩)
    | 8 => .float .f64 a.hi
    | 9 => .agg D
    | 10 => undef
    | _ => undef := ⟨_, rfl⟩
  obtain ⟨isO, hO⟩ : ∃ isO : Nat → Bool, isO = fun j => match j with
    | _ => false := ⟨_, rfl⟩
  obtain ⟨BL, hBL⟩ : ∃ BL : Nat → List Int, BL = fun j => match j with
    | _ => [] := ⟨_, rfl⟩
  have v0 : CV 0 = .pointer (some ⟨w.heap.size, 0, none⟩) := congrFun hCV 0
  have o0 : isO 0 = false := congrFun hO 0
  have v1 : CV 1 = .int .u64 a.n := congrFun hCV 1
  have o1 : isO 1 = false := congrFun hO 1
  have v2 : CV 2 = .float .f64 x := congrFun hCV 2
  have o2 : isO 2 = false := congrFun hO 2
  have v3 : CV 3 = .float .f64 (canon x) := congrFun hCV 3
  have o3 : isO 3 = false := congrFun hO 3
  have v4 : CV 4 = .bool ov := congrFun hCV 4
  have o4 : isO 4 = false := congrFun hO 4
  have v5 : CV 5 = .pointer (some ⟨w.heap.size, 41, none⟩) := congrFun hCV 5
  have o5 : isO 5 = false := congrFun hO 5
  have v6 : CV 6 = .float .f64 a.lo := congrFun hCV 6
  have o6 : isO 6 = false := congrFun hO 6
  have v7 : CV 7 = .pointer (some ⟨w.heap.size, 42, none⟩) := congrFun hCV 7
  have o7 : isO 7 = false := congrFun hO 7
  have v8 : CV 8 = .float .f64 a.hi := congrFun hCV 8
  have o8 : isO 8 = false := congrFun hO 8
  have v9 : CV 9 = .agg D := congrFun hCV 9
  have o9 : isO 9 = false := congrFun hO 9
  have v10 : CV 10 = undef := congrFun hCV 10
  have o10 : isO 10 = false := congrFun hO 10
  clear hCV hO hBL
  have V0 := Lib.hid v0
  have V1 := Lib.hid v1
  have V2 := Lib.hid v2
  have V3 := Lib.hid v3
  have V4 := Lib.hid v4
  have V5 := Lib.hid v5
  have V6 := Lib.hid v6
  have V7 := Lib.hid v7
  have V8 := Lib.hid v8
  have V9 := Lib.hid v9
  have V10 := Lib.hid v10
  clear v0 v1 v2 v3 v4 v5 v6 v7 v8 v9 v10
  refine region_run (RegL w3 10 (w.heap.size + 1) (D) isO BL CV) (by kernel_rfl) (by kernel_rfl) (by kernel_rfl) (by kernel_rfl) (RegL.start w3 10 11 _ _) ?_ ?_
  · intro listed vals a1 wq i hs hcl hP hR hi hu hr1
    replace hi : i < 11 := hi
    replace hs : listed.size = 11 := hs
    obtain rfl | hi1 : i = 0 ∨ 1 ≤ i := by omega
    · have hn := unlisted (n := 10) hcl hu (by kernel_rfl)
      have hI := hP.pre hn
      have t1 := hR.fixed 1 (by kernel_rfl) rfl
      clear hcan
      exact wpOp_val rfl rfl (by rw [V0.out]; go_simp) ⟨_, rfl, RegL.of (hI.keep (Below.refl _ _) 0 o0) hn (by decide)⟩
    obtain rfl | hi1 : i = 1 ∨ 2 ≤ i := by omega
    · have hn := unlisted (n := 10) hcl hu (by kernel_rfl)
      have hI := hP.pre hn
      have t11 : a1.tmps[11]? = some (.pointer (some ⟨w.heap.size, 0, none⟩)) := hI.get hR hr1 0 o0 (by kernel_rfl) (by decide) rfl V0.out
      have cc := cell_below hI.b ca0.out
      clear hcan
      exact wpOp_val rfl rfl (by rw [V1.out]; go_simp) ⟨_, rfl, RegL.of (hI.keep (Below.refl _ _) 1 o1) hn (by decide)⟩
    obtain rfl | hi1 : i = 2 ∨ 3 ≤ i := by omega
    · have hn := unlisted (n := 10) hcl hu (by kernel_rfl)
      have hI := hP.pre hn
      have t3 := hR.fixed 3 (by kernel_rfl) rfl
      clear hcan
      exact wpOp_val rfl rfl (by rw [V2.out]; go_simp) ⟨_, rfl, RegL.of (hI.keep (Below.refl _ _) 2 o2) hn (by decide)⟩
    obtain rfl | hi1 : i = 3 ∨ 4 ≤ i := by omega
    · have hn := unlisted (n := 10) hcl hu (by kernel_rfl)
      have hI := hP.pre hn
      have t13 : a1.tmps[13]? = some (.float .f64 x) := hI.get hR hr1 2 o2 (by kernel_rfl) (by decide) rfl V2.out
      have hc1 := hcan wq
      clear hcan
      refine wpOp_calls (f := 44) (args := #[.float .f64 x]) rfl rfl (by go_simp) (hc1.mono ?_)
      rintro e wz ⟨rfl, rfl⟩
      exact ⟨_, rfl, _, rfl, RegL.of (hI.keepV (Below.refl _ _) 3 o3 V3.out) hn (by decide)⟩
    obtain rfl | hi1 : i = 4 ∨ 5 ≤ i := by omega
    · have hn := unlisted (n := 10) hcl hu (by kernel_rfl)
      have hI := hP.pre hn
      have t4 := hR.fixed 4 (by kernel_rfl) rfl
      clear hcan
      exact wpOp_val rfl rfl (by rw [V4.out]; go_simp) ⟨_, rfl, RegL.of (hI.keep (Below.refl _ _) 4 o4) hn (by decide)⟩
    obtain rfl | hi1 : i = 5 ∨ 6 ≤ i := by omega
    · have hn := unlisted (n := 10) hcl hu (by kernel_rfl)
      have hI := hP.pre hn
      have t1 := hR.fixed 1 (by kernel_rfl) rfl
      clear hcan
      exact wpOp_val rfl rfl (by rw [V5.out]; go_simp) ⟨_, rfl, RegL.of (hI.keep (Below.refl _ _) 5 o5) hn (by decide)⟩
    obtain rfl | hi1 : i = 6 ∨ 7 ≤ i := by omega
    · have hn := unlisted (n := 10) hcl hu (by kernel_rfl)
      have hI := hP.pre hn
      have t16 : a1.tmps[16]? = some (.pointer (some ⟨w.heap.size, 41, none⟩)) := hI.get hR hr1 5 o5 (by kernel_rfl) (by decide) rfl V5.out
      have cc := cell_below hI.b ca1.out
      clear hcan
      exact wpOp_val rfl rfl (by rw [V6.out]; go_simp) ⟨_, rfl, RegL.of (hI.keep (Below.refl _ _) 6 o6) hn (by decide)⟩
    obtain rfl | hi1 : i = 7 ∨ 8 ≤ i := by omega
    · have hn := unlisted (n := 10) hcl hu (by kernel_rfl)
      have hI := hP.pre hn
      have t1 := hR.fixed 1 (by kernel_rfl) rfl
      clear hcan
      exact wpOp_val rfl rfl (by rw [V7.out]; go_simp) ⟨_, rfl, RegL.of (hI.keep (Below.refl _ _) 7 o7) hn (by decide)⟩
    obtain rfl | hi1 : i = 8 ∨ 9 ≤ i := by omega
    · have hn := unlisted (n := 10) hcl hu (by kernel_rfl)
      have hI := hP.pre hn
      have t18 : a1.tmps[18]? = some (.pointer (some ⟨w.heap.size, 42, none⟩)) := hI.get hR hr1 7 o7 (by kernel_rfl) (by decide) rfl V7.out
      have cc := cell_below hI.b ca2.out
      clear hcan
      exact wpOp_val rfl rfl (by rw [V8.out]; go_simp) ⟨_, rfl, RegL.of (hI.keep (Below.refl _ _) 8 o8) hn (by decide)⟩
    obtain rfl | hi1 : i = 9 ∨ 10 ≤ i := by omega
    · have hn := unlisted (n := 10) hcl hu (by kernel_rfl)
      have hI := hP.pre hn
      have t12 : a1.tmps[12]? = some (.int .u64 a.n) := hI.get hR hr1 1 o1 (by kernel_rfl) (by decide) rfl V1.out
      have t14 : a1.tmps[14]? = some (.float .f64 (canon x)) := hI.get hR hr1 3 o3 (by kernel_rfl) (by decide) rfl V3.out
      have t15 : a1.tmps[15]? = some (.bool ov) := hI.get hR hr1 4 o4 (by kernel_rfl) (by decide) rfl V4.out
      have t17 : a1.tmps[17]? = some (.float .f64 a.lo) := hI.get hR hr1 6 o6 (by kernel_rfl) (by decide) rfl V6.out
      have t19 : a1.tmps[19]? = some (.float .f64 a.hi) := hI.get hR hr1 8 o8 (by kernel_rfl) (by decide) rfl V8.out
      clear hcan
      have hbd := HB.out
      refine wpOp_build rfl rfl 61 _ rfl (D) ?_ ⟨_, rfl, RegL.of (hI.keepV (Below.refl _ _) 9 o9 V9.out) hn (by decide)⟩
      simp only [List.map_toArray, List.map_cons, List.map_nil, Act.eval, getD_is t12, getD_is t14, getD_is t15, getD_is t17, getD_is t19]; exact hbd
    obtain rfl : i = 10 := by omega
    have hI := hP.pre hu
    have t2 := hR.fixed 2 (by kernel_rfl) rfl
    have t20 : a1.tmps[20]? = some (.agg D) := hI.get hR hr1 9 o9 (by kernel_rfl) (by decide) rfl V9.out
    have kk := (hI.b.block _ (heap_lt hz3.out)).trans hz3.out
    exact wpOp_of_wp rfl rfl (wp_store_row 61 (.tmp 2) (.tmp 20) rfl (w.heap.size + 1) (D) (getD_is t2) (getD_is t20) 61 _ kk (by rw [HD.out]; exact Hsg.out) (by rw [hZ, HD.out]) HD1.out ⟨undef, rfl, RegL.done hI.b (by omega)⟩)
  · intro listed vals wq FF hP hall hFF
    obtain ⟨wz, bfin, rfl⟩ := hP.fin (hall 10 (by decide))
    have hF2 : FF = ((((((((((Act.put _ (some 11) (vals 0)).put (some 12) (vals 1)).put (some 13) (vals 2)).put (some 14) (vals 3)).put (some 15) (vals 4)).put (some 16) (vals 5)).put (some 17) (vals 6)).put (some 18) (vals 7)).put (some 19) (vals 8)).put (some 20) (vals 9)).put none (vals 10) := hFF
    simp only [putAll] at hF2
    rw [hF2]
    clear hF2 hFF hP hall
    go_frame
    go_wp2_with fail
    exact bodyPost_ret (results_cell_row rfl _ _ (w.heap.size + 1) 61 _ (0, 0) _ rfl (hrow _ bfin) Try.underlying61 rfl (by rw [HD.out]; exact Hsg.out)) rfl ⟨rfl, hfin _ bfin⟩
set_option maxRecDepth 100000 in
theorem len_as (a : AS) (w : World) : Calls Try.prog 17 #[.agg (asC a)] w fun e w' => e = .returned (.int .u64 (a.n : Int)) ∧ Below w.heap.size w w' := by
  have an := asC_n a
  have hA := asC_size a
  generalize asC a = A at *
  have h0 := at_of (by omega) an
  have hb1 : ∀ (o1 : Obj), Below w.heap.size w (w.alloc o1) := fun o1 => below_alloc (Below.refl _ _) _
  go_enter Try.func17, Try.ntmps17
  go_wp2
  go_ret
  exact ⟨rfl, hb1 _⟩
end Go.Proofs.Ythplelglifnhoaa
