import Derived.Test.YtgpfoamhcoipgaaDoorLf
/-! A ledger as the statements have it; the document's example. -/
namespace Go.Proofs.YtgpfoamhcoipgaaDoor
open Go.RowKit Go.Sort Go.ChangeMaps
set_option linter.unusedVariables false
attribute [-simp] Tryd.isAgg34 Tryd.sizeOf34 Tryd.typeInfo34 Tryd.type34
attribute [-simp] Tryd.isAgg40 Tryd.sizeOf40 Tryd.typeInfo40 Tryd.type40
attribute [-simp] Tryd.isAgg38 Tryd.sizeOf38 Tryd.typeInfo38 Tryd.type38
attribute [-simp] Tryd.isAgg43 Tryd.sizeOf43 Tryd.typeInfo43 Tryd.type43
attribute [-simp] Tryd.isAgg65 Tryd.sizeOf65 Tryd.typeInfo65 Tryd.type65
attribute [-simp] Tryd.isAgg67 Tryd.sizeOf67 Tryd.typeInfo67 Tryd.type67

section
variable {P : Program} {α : Type} {enc : α → List Value} {k bytes : Nat} {e : TypeId}
theorem fill_enc (hlen : ∀ x, (enc x).length = k) : ∀ (ys : List α) (j : Nat) (cs : Array Value), (j + ys.length) * k ≤ cs.size →
    ∃ r, Instr.fill (fun i => some (i * k, k)) cs ((ys.zipIdx j).map fun p => (p.2, Value.agg (enc p.1).toArray)) = some r ∧ r.size = cs.size ∧ ∀ i, r[i]? = if j * k ≤ i ∧ i < (j + ys.length) * k then (ys.flatMap enc)[i - j * k]? else cs[i]?
  | [], j, cs, _ => ⟨cs, rfl, rfl, fun i => by rw [if_neg (by rw [List.length_nil, Nat.add_zero]; omega)]⟩
  | y :: ys, j, cs, h => by
    rw [List.length_cons] at h
    have hk : (j + (ys.length + 1)) * k = j * k + k + ys.length * k := by rw [Nat.add_mul, Nat.add_mul, Nat.one_mul]; omega
    have hsz : j * k + (enc y).toArray.size ≤ cs.size := by rw [List.size_toArray, hlen]; omega
    obtain ⟨r, h1, h2, h3⟩ := fill_enc hlen ys (j + 1) (lay (enc y).toArray cs (j * k)) (by rw [lay_size _ _ _ hsz, show j + 1 + ys.length = j + (ys.length + 1) by omega]; exact h)
    refine ⟨r, ?_, by rw [h2, lay_size _ _ _ hsz], fun i => ?_⟩
    · rw [List.zipIdx_cons, List.map_cons, fill_step _ _ _ (.agg (enc y).toArray) _ (j * k) k rfl (by show (enc y).toArray.size = k; rw [List.size_toArray, hlen]) hsz]
      exact h1
    · rw [h3 i, lay_at _ _ _ _ hsz, List.size_toArray, hlen, List.flatMap_cons, List.length_cons, hk]
      have e1 : (j + 1) * k = j * k + k := by rw [Nat.add_mul, Nat.one_mul]
      have e2 : (j + 1 + ys.length) * k = j * k + k + ys.length * k := by rw [Nat.add_mul, Nat.add_mul, Nat.one_mul]
      rw [e1, e2]
      by_cases c1 : j * k + k ≤ i ∧ i < j * k + k + ys.length * k
      · rw [if_pos c1, if_pos (by omega), List.getElem?_append_right (by rw [hlen]; omega), hlen]
        congr 1; omega
      · rw [if_neg c1]
        by_cases c2 : j * k ≤ i ∧ i < j * k + k
        · rw [if_pos c2, if_pos (by omega), List.getElem?_append_left (by rw [hlen]; omega)]
          simp
        · rw [if_neg c2, if_neg (by omega)]
theorem wpList_buildAll {ops : Array Oper} {rest : List Oper} {o : Oper} {a : Act} {Q : Exit → Act → World → Prop} (E : Enc P e enc k bytes) (hgd : o.guard = none) (w : World) (t : TypeId) (len : Nat) (parts : Array (Nat × Operand)) (ho : o.op = .buildSlice t len parts) (dst : Option Tmp) (hdst : o.dst = dst) (N : Nat) (hN : w.heap.size = N)
    (ht : P.underlying t = some (.slice e)) (ys : List α) (hl : ys.length = len) (h0 : 0 < len) (hk : len * k ≤ 2 ^ 24) (hx : (parts.map fun (i, x) => (i, a.eval x)).toList = (ys.zipIdx 0).map fun p => (p.2, Value.agg (enc p.1).toArray))
    (h : wpList P ops Q rest (a.put dst (.slice (some ⟨N, 0, none⟩) len len)) (w.alloc (.cells (ys.flatMap enc).toArray e))) : wpList P ops Q (o :: rest) a w := by
  subst hdst hN hl
  obtain ⟨i, z, hi, hz, hs, hb, hzs⟩ := E.info
  have hp := E.pos
  have hpos : 0 < ys.length * k := Nat.mul_pos h0 hp
  refine wpList_buildSlice hgd t e ys.length parts ho (ys.flatMap enc).toArray i z ht hi hz (by rw [hs]; omega) (by rw [hs]; omega) ?_ h
  rw [hs, hx]
  obtain ⟨r, h1, h2, h3⟩ := fill_enc E.len ys 0 ((Array.range (ys.length * k)).map (z.cells[· % z.cells.size]!)) (by simp)
  rw [h1]
  congr 1
  apply Array.ext_getElem?
  intro t
  rw [h3 t]
  simp only [Nat.zero_mul, Nat.zero_add, Nat.zero_le, true_and, Nat.sub_zero, List.getElem?_toArray]
  by_cases ht2 : t < ys.length * k
  · rw [if_pos ht2]
  · rw [if_neg ht2, List.getElem?_eq_none (by rw [E.flat]; omega), Array.getElem?_eq_none (by simp; omega)]
theorem OwnE.newAll (E : Enc P e enc k bytes) (w : World) (base : Nat) (ys : List α) (hb : base ≤ w.heap.size) (hm : ys.length ≤ maxLen) (n : Nat) (hn : ys.length = n) : OwnE (w.alloc (.cells (ys.flatMap enc).toArray e)) base e k enc (.slice (some ⟨w.heap.size, 0, none⟩) n n) ys := by
  subst hn
  refine ⟨E.flat ys, .inr ⟨w.heap.size, ys.length, (ys.flatMap enc).toArray, rfl, hb, heap_alloc_new w _, Nat.le_refl _, hm, by rw [List.size_toArray, E.flat], ?_⟩⟩
  rw [List.take_of_length_le (by simp [E.flat])]
end
/-- A ledger: its changes, how panes stand. -/
def LedAt (w : World) (gb base : Nat) (L : List Ch) (f : Nm → Std) : Prop := ∃ v m, w.heap[gb]? = some (.cells #[v, m] 32 (0, 0)) ∧ OwnE w base 43 10 chL v L ∧ AtIs w m f ∧ ∀ i, m = .map (some i) → base ≤ i
/-- What a ledger's standing asks. -/
structure StdOk (L : List Ch) (f : Nm → Std) : Prop where
  ok : ∀ n, (f n).a.ok ∧ (f n).next < 18446744073709551616
  live : ∀ n, (f n).live = true → n ∈ L.map (·.p.nm)
/-- All but a ledger is as it was. -/
structure Fr (gb base : Nat) (w w' : World) : Prop where
  os : w'.os = w.os
  tape : w'.tape = w.tape
  output : w'.output = w.output
  size : w.heap.size ≤ w'.heap.size
  block : ∀ i, i < base → i ≠ gb → w'.heap[i]? = w.heap[i]?
theorem Fr.refl (gb base : Nat) (w : World) : Fr gb base w w := ⟨rfl, rfl, rfl, Nat.le_refl _, fun _ _ _ => rfl⟩
theorem Fr.of_below {gb base : Nat} {w w' : World} (b : Below w.heap.size w w') (hb : base ≤ w.heap.size) : Fr gb base w w' := ⟨b.os, b.tape, b.output, b.size, fun i hi _ => b.block i (by omega)⟩
theorem Fr.trans {gb base : Nat} {w w1 w2 : World} (h : Fr gb base w w1) (k : Fr gb base w1 w2) : Fr gb base w w2 := ⟨k.os.trans h.os, k.tape.trans h.tape, k.output.trans h.output, Nat.le_trans h.size k.size, fun i hi hn => (k.block i hi hn).trans (h.block i hi hn)⟩
theorem AtIs.same {w w' : World} {m : Value} {f : Nm → Std} (h : AtIs w m f) (e : ∀ i, m = .map (some i) → i < w.heap.size → w'.heap[i]? = w.heap[i]?) : AtIs w' m f := by
  rcases h with ⟨rfl, hz⟩ | ⟨b, mp, rfl, hM, hl⟩
  · exact .inl ⟨rfl, hz⟩
  · exact .inr ⟨b, mp, rfl, hM.same (e b rfl hM.lt), hl⟩
theorem AtIs.lt {w : World} {m : Value} {f : Nm → Std} (h : AtIs w m f) {i : Nat} (e : m = .map (some i)) : i < w.heap.size := by
  rcases h with ⟨rfl, hz⟩ | ⟨b, mp, rfl, hM, hl⟩
  · cases e
  · injection e with e; injection e with e; subst e; exact hM.lt
theorem LedAt.lt {w : World} {gb base : Nat} {L : List Ch} {f : Nm → Std} (h : LedAt w gb base L f) : gb < w.heap.size := by
  obtain ⟨v, m, hg, _⟩ := h
  exact heap_lt hg
theorem LedAt.below {w w' : World} {gb base : Nat} {L : List Ch} {f : Nm → Std} (h : LedAt w gb base L f) (b : Below w.heap.size w w') : LedAt w' gb base L f := by
  obtain ⟨v, m, hg, ho, hm, hb⟩ := h
  exact ⟨v, m, (b.block _ (heap_lt hg)).trans hg, ho.below b, hm.same (fun i _ hi => b.block i hi), hb⟩
theorem stepS_ok {s t : Std} {c : Ch} (h : stepS s c = some t) (hs : s.a.ok ∧ s.next < 18446744073709551616) (hc : c.ok) : t.a.ok ∧ t.next < 18446744073709551616 := by
  unfold stepS at h
  split at h
  · injection h with h; subst h; exact ⟨hc.a, hs.2⟩
  · split at h
    · injection h with h; subst h; exact ⟨noAV_okK, Nat.mod_lt _ (by decide)⟩
    · cases h
theorem StdOk.add : ∀ {more : List Ch} {L : List Ch} {f f' : Nm → Std}, StdOk L f → (∀ c ∈ more, c.ok) → addF f more = some f' → StdOk (L ++ more) f'
  | [], L, f, f', h, _, e => by
    injection e with e
    subst e
    rw [List.append_nil]; exact h
  | c :: more, L, f, f', h, ho, e => by
    rw [addF] at e
    cases hs : stepS (f c.p.nm) c with
    | none => rw [hs] at e; cases e
    | some s =>
      rw [hs] at e
      have h1 : StdOk (L ++ [c]) (putF f c.p.nm s) := by
        constructor
        · intro n
          unfold putF
          split
          · exact stepS_ok hs (h.ok _) (ho c List.mem_cons_self)
          · exact h.ok n
        · intro n hn
          rw [List.map_append, List.mem_append]
          unfold putF at hn
          by_cases hq : n = c.p.nm
          · exact .inr (by rw [hq]; simp)
          · rw [if_neg hq] at hn; exact .inl (h.live n hn)
      have := h1.add (more := more) (fun x hx => ho x (List.mem_cons_of_mem _ hx)) e
      rwa [List.append_assoc, List.singleton_append] at this
/-- A ledger, its cells told. -/
structure LedIs (w : World) (gb base : Nat) (v m : Value) (L : List Ch) (f : Nm → Std) : Prop where
  at_ : w.heap[gb]? = some (.cells #[v, m] 32 (0, 0))
  own : OwnE w base 43 10 chL v L
  map : AtIs w m f
  mb : ∀ i, m = .map (some i) → base ≤ i
theorem LedIs.led {w : World} {gb base : Nat} {v m : Value} {L : List Ch} {f : Nm → Std} (h : LedIs w gb base v m L f) : LedAt w gb base L f := ⟨v, m, h.at_, h.own, h.map, h.mb⟩
theorem LedIs.below {w w' : World} {gb base : Nat} {v m : Value} {L : List Ch} {f : Nm → Std} (h : LedIs w gb base v m L f) (b : Below w.heap.size w w') : LedIs w' gb base v m L f :=
  ⟨(b.block _ (heap_lt h.at_)).trans h.at_, h.own.below b, h.map.same (fun i _ hi => b.block i hi), h.mb⟩
/-- What Add leaves of a ledger, its cells told. -/
def LedPostI (gb base : Nat) (v m : Value) (L more : List Ch) (w : World) : Option (Nm → Std) → Ending → World → Prop
  | none, e, w' => e = .returned (.int .i64 7) ∧ Below w.heap.size w w'
  | some f, e, w' => e = .returned (.int .i64 0) ∧ ∃ v' m', LedIs w' gb base v' m' (L ++ more) f ∧ StdOk (L ++ more) f ∧ Oth gb m v w w' ∧ (∀ i, m' = .map (some i) → w.heap.size ≤ i ∨ m = .map (some i)) ∧ ∀ i, v'.ownBlock = some i → w.heap.size ≤ i ∨ v.ownBlock = some i
theorem LedIs.add {gb base : Nat} {v m : Value} {L more : List Ch} {f : Nm → Std} {A : Option Addr} {cap : Nat} {w : World} (h : LedIs w gb base v m L f) (S : StdOk L f) (hr : RowsAt w chL A more) (ho : ∀ c ∈ more, c.ok) (hl : L.length + more.length ≤ 1000) (hb : base ≤ w.heap.size) :
    Calls Tryd.prog 7 #[.pointer (some ⟨gb, 0, none⟩), .slice A more.length cap] w (LedPostI gb base v m L more w (addF f more)) := by
  refine (add_led gb base m v L more f A cap w h.at_ h.own h.map S.ok hr ho hl hb).mono ?_
  intro e w' hh
  cases hR : addF f more with
  | none => rw [hR] at hh; exact hh
  | some f' =>
    rw [hR] at hh
    obtain ⟨rfl, v', m', k1, k2, k3, k4, k5, k6, k7, k8, k9, k10⟩ := hh
    refine ⟨rfl, v', m', ⟨k1, k2, k3, fun i e => ?_⟩, S.add ho hR, ⟨k4, k5, k6, k7, fun i hi h1 h2 h3 => k8 i hi h1 h2 h3⟩, k9, k10⟩
    rcases k9 i e with q | q
    · omega
    · exact h.mb i q
/-- What Add leaves of a ledger. -/
def LedPost (gb base : Nat) (L more : List Ch) (w : World) : Option (Nm → Std) → Ending → World → Prop
  | none, e, w' => e = .returned (.int .i64 7) ∧ Below w.heap.size w w'
  | some f, e, w' => e = .returned (.int .i64 0) ∧ LedAt w' gb base (L ++ more) f ∧ StdOk (L ++ more) f ∧ Fr gb base w w'
theorem LedAt.add {gb base : Nat} {L more : List Ch} {f : Nm → Std} {A : Option Addr} {cap : Nat} {w : World} (h : LedAt w gb base L f) (S : StdOk L f) (hr : RowsAt w chL A more) (ho : ∀ c ∈ more, c.ok) (hl : L.length + more.length ≤ 1000) (hb : base ≤ w.heap.size) :
    Calls Tryd.prog 7 #[.pointer (some ⟨gb, 0, none⟩), .slice A more.length cap] w (LedPost gb base L more w (addF f more)) := by
  obtain ⟨v, m, hg, hv, hm, hbm⟩ := h
  refine (add_led gb base m v L more f A cap w hg hv hm S.ok hr ho hl hb).mono ?_
  intro e w' h
  cases hR : addF f more with
  | none => rw [hR] at h; exact h
  | some f' =>
    rw [hR] at h
    obtain ⟨rfl, v', m', k1, k2, k3, k4, k5, k6, k7, k8, k9, k10⟩ := h
    refine ⟨rfl, ⟨v', m', k1, k2, k3, fun i e => ?_⟩, S.add ho hR, ⟨k4, k5, k6, k7, fun i hi hn => k8 i (by omega) hn (fun e => by have := hbm i e; omega) (fun e => by have := (hv.lt i e).1; omega)⟩⟩
    rcases k9 i e with q | q
    · omega
    · exact hbm i q
set_option maxRecDepth 100000 in
theorem add_nil (x : Value) (w : World) : Calls Tryd.prog 7 #[.pointer none, x] w fun e w' => e = .returned (.int .i64 5) ∧ w' = w := by
  go_enter Tryd.func7, Tryd.ntmps7
  go_wp2_with fail
  go_ret
  exact ⟨rfl, rfl⟩
set_option maxRecDepth 100000 in
theorem zeroLed : ∀ w, (zeroValue 32).run Tryd.prog w = .ok (.agg #[.slice none 0 0, .map none]) w := (zero_of_info (P := Tryd.prog) (v := .agg #[.slice none 0 0, .map none]) (n := 2) (by kernel_rfl)).1
theorem LedAt.new {w : World} {gb : Nat} (base : Nat) (h : w.heap[gb]? = some (.cells #[.slice none 0 0, .map none] 32 (0, 0))) : LedAt w gb base [] (fun _ => st0) :=
  ⟨_, _, h, OwnE.nil _ _, .inl ⟨rfl, fun _ => rfl⟩, fun i e => by cases e⟩
theorem StdOk.new : StdOk [] (fun _ => st0) := ⟨fun _ => ⟨noAV_okK, show 0 < 18446744073709551616 by decide⟩, fun n h => by cases h⟩
theorem LedAt.len {gb base : Nat} {L : List Ch} {f : Nm → Std} {w : World} (h : LedAt w gb base L f) : Calls Tryd.prog 9 #[.pointer (some ⟨gb, 0, none⟩)] w fun e w' => e = .returned (.int .i64 L.length) ∧ w' = w := by
  obtain ⟨v, m, hg, hv, hm, hbm⟩ := h
  exact len_led gb base m v L w hg hv
theorem LedAt.view {gb base : Nat} {L : List Ch} {f : Nm → Std} {w : World} (h : LedAt w gb base L f) (S : StdOk L f) (hl : L.length ≤ 1000) : Calls Tryd.prog 8 #[.pointer (some ⟨gb, 0, none⟩)] w fun e w' => ∃ u vs, e = .returned u ∧ OwnE w' w.heap.size 40 8 paneL u vs ∧ ViewIs f vs ∧ Below w.heap.size w w' := by
  obtain ⟨v, m, hg, hv, hm, hbm⟩ := h
  exact view_led gb m v f (L.map (·.p.nm)) w hg hm S.live (by rw [List.length_map]; exact hl)
/-- The example's pane and changes. -/
def exP : Pn := ⟨⟨⟨#[97]⟩, 0, 5⟩, ⟨1, 0, false, 0, 0⟩⟩
def exL : List Ch := [⟨true, 0, exP⟩, ⟨false, 0, exP⟩, ⟨true, 1, exP⟩]
def exF : Nm → Std := putF (putF (putF (fun _ => st0) exP.nm ⟨true, exP.a, 0⟩) exP.nm ⟨false, noAV, 1⟩) exP.nm ⟨true, exP.a, 1⟩
theorem sameAV_refl (a : AV) : sameAV a a = true := by simp [sameAV]
theorem exAdd : addF (fun _ => st0) exL = some exF := by
  have e1 : stepS ((fun _ => st0) exP.nm) ⟨true, 0, exP⟩ = some ⟨true, exP.a, 0⟩ := rfl
  have e2 : stepS ((putF (fun _ => st0) exP.nm ⟨true, exP.a, 0⟩) exP.nm) ⟨false, 0, exP⟩ = some ⟨false, noAV, 1⟩ := by
    unfold putF
    rw [if_pos rfl]
    unfold stepS
    rw [if_neg (fun h => by cases h.1), if_pos ⟨rfl, rfl, rfl, sameAV_refl _⟩]; rfl
  have e3 : stepS ((putF (putF (fun _ => st0) exP.nm ⟨true, exP.a, 0⟩) exP.nm ⟨false, noAV, 1⟩) exP.nm) ⟨true, 1, exP⟩ = some ⟨true, exP.a, 1⟩ := by
    unfold putF
    rw [if_pos rfl]; rfl
  unfold exL
  rw [addF]
  show (stepS ((fun _ => st0) exP.nm) ⟨true, 0, exP⟩).bind _ = _
  rw [e1, Option.bind_some, addF]
  show (stepS ((putF (fun _ => st0) exP.nm ⟨true, exP.a, 0⟩) exP.nm) ⟨false, 0, exP⟩).bind _ = _
  rw [e2, Option.bind_some, addF]
  show (stepS ((putF (putF (fun _ => st0) exP.nm ⟨true, exP.a, 0⟩) exP.nm ⟨false, noAV, 1⟩) exP.nm) ⟨true, 1, exP⟩).bind _ = _
  rw [e3, Option.bind_some, addF]
  rfl
theorem exView : ViewIs exF [exP] := by
  have hF : ∀ n, exF n = if n = exP.nm then ⟨true, exP.a, 1⟩ else st0 := fun n => by
    unfold exF putF
    by_cases h : n = exP.nm
    · rw [if_pos h, if_pos h]
    · rw [if_neg h, if_neg h, if_neg h, if_neg h]
  constructor
  · intro x
    rw [hF, List.mem_singleton]
    constructor
    · rintro rfl
      rw [if_pos rfl]; exact ⟨rfl, rfl⟩
    · rintro ⟨h1, h2⟩
      by_cases h : x.nm = exP.nm
      · rw [if_pos h] at h2
        obtain ⟨nm, a⟩ := x
        simp only at h h2
        subst h h2
        rfl
      · rw [if_neg h] at h1; cases h1
  · exact List.pairwise_singleton _ _
theorem paneA_one (p : Pn) : (paneL p).toArray.all (·.oneCell') = true := by simp [paneL, Value.oneCell']
theorem exOk : ∀ c ∈ exL, c.ok := fun c hc => by
  have ha : (⟨1, 0, false, 0, 0⟩ : AV).ok := ⟨by decide, by decide, by decide, by decide⟩
  simp only [exL, List.mem_cons, List.not_mem_nil, or_false] at hc
  rcases hc with rfl | rfl | rfl
  · exact ⟨show 0 < 18446744073709551616 by decide, ha⟩
  · exact ⟨show 0 < 18446744073709551616 by decide, ha⟩
  · exact ⟨show 1 < 18446744073709551616 by decide, ha⟩
def exC (k : Nat) : Array Value := chA (exL.getD k ⟨false, 0, default⟩)
end Go.Proofs.YtgpfoamhcoipgaaDoor
