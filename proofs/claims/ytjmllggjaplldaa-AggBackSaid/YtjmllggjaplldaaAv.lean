import Derived.Test.YtjmllggjaplldaaAu
import Derived.Test.YtjmllggjaplldaaAk
import Derived.Deep.RegionLaw
import Derived.Deep.DeepCutAuto
import Derived.Deep.CutBlock
/-! Tellings laid and read: the law. -/
namespace Go.Proofs.Ytjmllggjaplldaa
open Go.RowKit
set_option linter.unusedVariables false
attribute [-simp] Try.isAgg30 Try.sizeOf30 Try.typeInfo30 Try.type30
attribute [-simp] Try.isAgg32 Try.sizeOf32 Try.typeInfo32 Try.type32
attribute [-simp] Try.isAgg27 Try.sizeOf27 Try.typeInfo27 Try.type27

theorem step_append {P : Program} {ops : Array Oper} {o : Oper} {a : Act} {w : World} {K : Act → World → Prop} {Q : Exit → Act → World → Prop} {E : Prop} (hgd : o.guard = none) (s x : Operand) (t : TypeId) (ho : o.op = .call { callee := .builtin .append, args := #[s, x], argTypes := #[t, t] })
    (base : Nat) (e : TypeId) (k : IntKind) (bytes : Nat) (ht : P.underlying t = some (.slice e)) (hinfo : (P.info? e).map (fun i => (i.zero, i.size, i.bytes)) = some (some (.int k 0), 1, bytes))
    (v : Value) (xs : List Int) (hs : a.eval s = v) (hown : Own w base e k v xs) (A : Option Addr) (c : Nat) (ys : List Int) (hx : a.eval x = .slice A ys.length c) (hy : Reads w k A ys)
    (h63 : xs.length + ys.length ≤ maxLen) (hbytes : (xs.length + ys.length) * bytes ≤ 140737488355328) (hbase : base ≤ w.heap.size)
    (h : ∀ v' w', Own w' base e k v' (xs ++ ys) → w.grownBy w' v.ownBlock → (v'.ownBlock = v.ownBlock ∨ v'.ownBlock = some w.heap.size) → K (a.put o.dst v') w') :
    if Region.wanted o (yielded ops a.tmps) = true then Oper.wp P o a w K Q else E := by
  have hw : Region.wanted o (yielded ops a.tmps) = true := by simp [Region.wanted, hgd]
  rw [if_pos hw]
  exact wp_append w s x t ho base e k bytes ht hinfo v xs hs hown A c ys hx hy h63 hbytes hbase h
theorem layVL_len (a : AV) : (layVL a).length ≤ 50 := by
  unfold layVL
  have := (uintL_len a.n).2
  have := (uintL_len (canon a.x)).2
  have := (uintL_len (ovN a.ov)).2
  have := (uintL_len (canon a.lo)).2
  have := (uintL_len (canon a.hi)).2
  simp only [List.length_append]
  omega
theorem strOfNums_app (xs ys : List Int) : strOfNums (xs ++ ys) = strOfNums xs ++ strOfNums ys := by
  apply ByteArray.ext
  simp [strOfNums, ByteArray.data_append]
theorem rdSt_new {w : World} {A : Option Addr} {n c B : Nat} {ys : List Int} (hn : ys.length = n) (hc : n ≤ c) (hr : Reads w .u8 A ys) (hB : ys ≠ [] → ∀ a, A = some a → a.block < B) (hBw : B ≤ w.heap.size) (o : Obj) :
    RdSt ((w.alloc o).alloc (.cells #[.slice A n c] 80)) (w.heap.size + 1) B ys := by
  subst hn
  have h2 := heap_alloc_new (w.alloc o) (.cells #[.slice A ys.length c] 80)
  rw [show (w.alloc o).heap.size = w.heap.size + 1 from by simp] at h2
  refine ⟨⟨A, c, cell_of_row _ _ 0 _ _ _ h2, hc, (hr.below (below_alloc (Below.refl w.heap.size w) o)).below (below_alloc (Below.refl _ _) _), ?_⟩, frozen_of_row h2 0⟩
  intro hne a ea
  have := hB hne a ea
  exact ⟨by omega, this⟩
theorem reads_lt {w : World} {A : Option Addr} {ys : List Int} (hr : Reads w .u8 A ys) (hne : ys ≠ []) (a : Addr) (ea : A = some a) : a.block < w.heap.size := by
  obtain ⟨b, eb, hb⟩ := hr 0 (by cases ys with | nil => exact absurd rfl hne | cons y ys => simp)
  rw [ea] at eb
  injection eb with eb
  subst eb
  have := cell_lt hb
  rwa [add_block] at this
set_option maxRecDepth 100000 in
theorem hcf_tell (a : Array Value) (w : World) : (callFunc 27 a).run Try.prog w = .ok (.enter 27 a) w := by kernel_rfl
set_option maxRecDepth 100000 in
theorem try_tell_bad (A : Option Addr) (n c k : Nat) (ys : List Int) (Z : Array Value) (w : World) (hn : ys.length = n) (hc : n ≤ c) (hr : Reads w .u8 A ys) (h8 : Bytes8 ys) (hB : ys ≠ [] → ∀ a, A = some a → a.block < k) (hkw : k < w.heap.size)
    (hv : rdVal ys = none) :
    Calls Try.prog 26 #[.slice A n c, .func (.func 27) #[] #[.pointer (some ⟨k, 0, none⟩)]] w fun e w' => e = .returned (.bool false) ∧ Below w.heap.size w w' := by
  have hs := rdSt_new hn hc hr hB (Nat.le_of_lt hkw) (.cells #[.bool false] 4)
  subst hn
  have hg0 := heap_alloc_new w (.cells #[.bool false] 4)
  have hsz : ((w.alloc (.cells #[.bool false] 4)).alloc (.cells #[.slice A ys.length c] 80)).heap.size = w.heap.size + 2 := by simp
  have hg1 := ((below_alloc (Below.refl (w.alloc (.cells #[.bool false] 4)).heap.size (w.alloc (.cells #[.bool false] 4))) (.cells #[.slice A ys.length c] 80)).block w.heap.size (by simp)).trans hg0
  have hbb := below_alloc (below_alloc (Below.refl w.heap.size w) (.cells #[.bool false] 4)) (.cells #[.slice A ys.length c] 80)
  have ht := tell_bad (w.heap.size + 1) k k ys _ hs h8 (by omega) hv
  refine (try_bad 27 #[.pointer (some ⟨k, 0, none⟩)] A c ys w (fun w2 => ((w.alloc (.cells #[.bool false] 4)).alloc (.cells #[.slice A ys.length c] 80)).grownBy w2 (some (w.heap.size + 1))) hcf_tell ?_ ht).mono ?_
  · intro w2 hg
    have hrow := RdSt.row hg hg1 (by omega)
    exact ⟨cell_of_row _ _ 0 _ _ _ hrow, frozen_of_row hrow 0⟩
  · rintro e w' ⟨w2, hg, rfl, rfl⟩
    have hb2 : Below w.heap.size w w2 := hbb.grown hg hbb.size (fun g e => by injection e with e; omega)
    exact ⟨rfl, (below_alloc hb2 _).setCell (p := ⟨w.heap.size, 0, none⟩) (Nat.le_refl _) _⟩
set_option maxRecDepth 100000 in
theorem try_tell_good (A : Option Addr) (n c k : Nat) (ys : List Int) (v : AV) (Z : Array Value) (w : World) (hn : ys.length = n) (hc : n ≤ c) (hr : Reads w .u8 A ys) (h8 : Bytes8 ys) (hB : ys ≠ [] → ∀ a, A = some a → a.block < k) (hkw : k < w.heap.size)
    (hk : w.heap[k]? = some (.cells Z 27)) (hZ : Z.size = 5) (hv : rdVal ys = some (v, [])) :
    Calls Try.prog 26 #[.slice A n c, .func (.func 27) #[] #[.pointer (some ⟨k, 0, none⟩)]] w fun e w' => e = .returned (.bool true) ∧ Below k w w' ∧ w'.heap[k]? = some (.cells (avC v) 27) := by
  have hs := rdSt_new hn hc hr hB (Nat.le_of_lt hkw) (.cells #[.bool false] 4)
  subst hn
  have hg0 := heap_alloc_new w (.cells #[.bool false] 4)
  have hsz : ((w.alloc (.cells #[.bool false] 4)).alloc (.cells #[.slice A ys.length c] 80)).heap.size = w.heap.size + 2 := by simp
  have hg1 := ((below_alloc (Below.refl (w.alloc (.cells #[.bool false] 4)).heap.size (w.alloc (.cells #[.bool false] 4))) (.cells #[.slice A ys.length c] 80)).block w.heap.size (by simp)).trans hg0
  have hbb := below_alloc (below_alloc (Below.refl w.heap.size w) (.cells #[.bool false] 4)) (.cells #[.slice A ys.length c] 80)
  have hk1 := (hbb.block k hkw).trans hk
  have ht := tell_good (w.heap.size + 1) k k ys [] v Z _ hs h8 (by omega) hk1 hZ (by omega) (Nat.le_refl _) hv
  refine (try_good 27 #[.pointer (some ⟨k, 0, none⟩)] A c ys w k [] (fun w2 => ∃ w1, ((w.alloc (.cells #[.bool false] 4)).alloc (.cells #[.slice A ys.length c] 80)).grownBy w1 (some (w.heap.size + 1)) ∧ w2 = w1.setRow k (avC v)) hcf_tell ?_ ht).mono ?_
  · rintro w2 ⟨w1, hg, rfl⟩
    have hrow := (setRow_other w1 k w.heap.size (avC v) (by omega)).trans (RdSt.row hg hg1 (by omega))
    exact ⟨cell_of_row _ _ 0 _ _ _ hrow, frozen_of_row hrow 0⟩
  · rintro e w' ⟨w2, ⟨w1, hg, rfl⟩, rfl, rfl⟩
    have hb1 : Below w.heap.size w w1 := hbb.grown hg hbb.size (fun g e => by injection e with e; omega)
    have hb2 : Below k w w1 := hb1.mono (Nat.le_of_lt hkw)
    have hrow := setRow_heap w1 k Z (avC v) _ _ ((hb1.block k hkw).trans hk)
    exact ⟨rfl, (below_setRow hb2 (Nat.le_refl k) _).setCell (p := ⟨w.heap.size, 0, none⟩) (Nat.le_of_lt hkw) _, (Below.heap_setCell _ ⟨w.heap.size, 0, none⟩ _ k (by simp; omega)).trans hrow⟩
theorem step_row {P : Program} {ops : Array Oper} {o : Oper} {a : Act} {w : World} {K : Act → World → Prop} {Q : Exit → Act → World → Prop} {E : Prop} (hgd : o.guard = none) (ty : TypeId) (x : Operand) (ho : o.op = .load ty x)
    (g : Nat) (hx : a.eval x = .pointer (some ⟨g, 0, none⟩)) (t : TypeId) (cs : Array Value) (fr : Nat × Nat) (d : TypeDesc) (hg : w.heap[g]? = some (.cells cs t fr))
    (hu : P.underlying ty = some d) (hd : (match d with | .struct _ | .array _ _ => true | _ => false) = true) (hi : (P.info? ty).map (·.size) = some cs.size)
    (h : K (a.put o.dst (.agg cs)) w) : if Region.wanted o (yielded ops a.tmps) = true then Oper.wp P o a w K Q else E := by
  have hw : Region.wanted o (yielded ops a.tmps) = true := by simp [Region.wanted, hgd]
  rw [if_pos hw]
  exact wp_load_row ty x ho g hx t cs fr d hg hu hd hi h
theorem step_calls {P : Program} {ops : Array Oper} {o : Oper} {a : Act} {w : World} {K : Act → World → Prop} {Q : Exit → Act → World → Prop} {E : Prop} (hgd : o.guard = none) {f : FuncId} {args : Array Value} (hx : (execOp a.eval o).run P w = .ok (.enter f args) w)
    (hc : Calls P f args w fun e w' => ∃ v, e = .returned v ∧ K (a.put o.dst v) w') : if Region.wanted o (yielded ops a.tmps) = true then Oper.wp P o a w K Q else E := by
  have hw : Region.wanted o (yielded ops a.tmps) = true := by simp [Region.wanted, hgd]
  rw [if_pos hw]
  unfold Oper.wp
  rw [hx]
  exact hc.mono fun e w' ⟨v, he, hk⟩ => by subst he; exact hk
set_option maxRecDepth 100000 in
set_option maxHeartbeats 16000000 in
theorem aggTellings_any (P : Option Addr) (cap : Nat) (xs : List Int) (a : AV) (w : World) (hr : Reads w .u8 P xs) (h8 : Bytes8 xs) (hxl : xs.length ≤ 9223372036854775807) (hcx : xs.length ≤ cap) (hok : a.ok) :
    Calls Try.prog 8 #[.slice P xs.length cap, .agg (avC a)] w fun e w' => e = .returned (.bool true) ∧ Below w.heap.size w w' := by
  have Hs := Lib.hid sizeAgg
  have aw := awake12_any
  by_cases h3 : 300 < xs.length
  · have hi : (300 : Int) < (xs.length : Int) := by omega
    generalize avC a = C
    go_enter Try.func8, Try.ntmps8
    go_wp2_with (go_at_call 10; first
      | ((with_reducible refine (aw _).mono ?_); rintro e w1 ⟨rfl, b1⟩))
    go_ret
    exact ⟨rfl, below_trans (below_trans (below_alloc (Below.refl w.heap.size w) (.cells C 27)) (by assumption)) b1⟩
  · have hi : (xs.length : Int) ≤ 300 := by omega
    obtain ⟨C, hC⟩ : ∃ C, C = avC a := ⟨_, rfl⟩
    have hC1 : C.size = 5 := by rw [hC]; rfl
    have hla := fun v w2 (ho : Own w2 (w.heap.size + 1) 5 .u8 v xs) (hb : w.heap.size + 1 ≤ w2.heap.size) => layValue_any (w.heap.size + 1) v xs a w2 hb ho hok (by omega)
    have hla : ∀ v w2, Own w2 (w.heap.size + 1) 5 .u8 v xs → w.heap.size + 1 ≤ w2.heap.size → Calls Try.prog 21 #[v, .agg #[.int .u64 (a.n : Int), .float .f64 a.x, .bool a.ov, .float .f64 a.lo, .float .f64 a.hi]] w2 fun e w' => ∃ v', e = .returned v' ∧ LayW (w.heap.size + 1) w2 v (xs ++ layVL a) w' v' := hla
    obtain ⟨a0, a1, a2, a3, a4⟩ := avC_cells a
    rw [← hC] at a0 a1 a2 a3 a4
    rw [← hC]
    have HC := Lib.hid hC
    clear hC
    go_enter Try.func8, Try.ntmps8
    go_upto_region 3 with (go_at_call 10; ((with_reducible refine (aw _).mono ?_); rintro e w1 ⟨rfl, b1⟩))
    have hk1 := (b1.block w.heap.size (by simp)).trans (heap_alloc_new w (.cells C 27))
    have hb1 := below_trans (below_alloc (Below.refl w.heap.size w) (.cells C 27)) b1
    have hs1 : w.heap.size + 1 ≤ w1.drew.heap.size := by
      have := b1.size
      simp only [World.size_alloc] at this
      exact this
    have hr1 : Reads w1.drew .u8 P xs := hr.below hb1.drew
    have l63 : ([] : List Int).length + xs.length ≤ maxLen := by show 0 + _ ≤ _; unfold maxLen; omega
    have l47 : (([] : List Int).length + xs.length) * 1 ≤ 140737488355328 := by show (0 + _) * 1 ≤ _; omega
    have hk1d : w1.drew.heap[w.heap.size]? = some (.cells C 27) := hk1
    have Hk1 := Lib.hid hk1
    have nil0 := Own.nil w1.drew (w.heap.size + 1) 5 .u8
    clear aw b1 hk1
    have d0 := (cell_of_row _ _ 0 _ _ _ hk1d).trans a0
    have d1 := (cell_of_row _ _ 1 _ _ _ hk1d).trans a1
    have d2 := (cell_of_row _ _ 2 _ _ _ hk1d).trans a2
    have d3 := (cell_of_row _ _ 3 _ _ _ hk1d).trans a3
    have d4 := (cell_of_row _ _ 4 _ _ _ hk1d).trans a4
    clear a0 a1 a2 a3 a4
    have hag : ∀ w, (isAgg 27).run Try.prog w = .ok true w := fun w => by rw [Try.isAgg27]
    have hsz : ∀ w, (sizeOf 27).run Try.prog w = .ok 5 w := run_sizeOf_info Hs.out
    go_cut [5] (fun q wx => Own wx (w.heap.size + 1) 5 .u8 q (xs ++ layVL a) ∧ Below w.heap.size w wx ∧ wx.heap[w.heap.size]? = some (.cells C 27))
    case first =>
      go_region_law (first
        | (refine step_append rfl _ (.tmp 16) 37 rfl (w.heap.size + 1) 5 .u8 1 Try.underlying37 infoU8 (.slice none 0 0) [] rfl nil0 P cap xs rfl hr1 l63 l47 hs1 ?_; intro v3 w3 o3 g3 n3; have g3 := below_of_grown g3 (fun k e => by cases e); have hk3 := Lib.hid ((g3.block w.heap.size hs1).trans hk1d); have e0 := cell_below g3 d0; have e1 := cell_below g3 d1; have e2 := cell_below g3 d2; have e3 := cell_below g3 d3; have e4 := cell_below g3 d4)
        | (refine step_calls (f := 21) (args := #[v3, .agg #[.int .u64 (a.n : Int), .float .f64 a.x, .bool a.ov, .float .f64 a.lo, .float .f64 a.hi]]) rfl (by go_simp) ((hla v3 w3 o3 (Nat.le_trans hs1 g3.size)).mono ?_); rintro e w5 ⟨q, rfl, l5⟩; refine ⟨q, rfl, ?_⟩))
      all_goals
        go_wp2_with fail
        go_meet
        exact ⟨l5.own, (below_trans hb1.drew g3).grown l5.grown (Nat.le_trans hb1.size g3.size) (fun g hg => by have := (o3.lt g hg).1; omega), (l5.grown.block _ (by have := g3.size; omega) (fun e => by have := (o3.lt _ e.symm).1; omega)).trans hk3.out⟩
    case rest =>
      obtain ⟨o5, hb5, hk5⟩ := hcut
      clear hla nil0 hk1d d0 d1 d2 d3 d4 hr1 hs1 hb1
      have hrl := fun w => refLayValue_any a w hok
      rw [← HC.out] at hrl
      obtain ⟨A5, c5, rfl, hc5, r5⟩ := o5.form
      have HSQ : ∀ wq : World, Below wc.heap.size wc wq → (convert 37 9 (.slice A5 (xs ++ layVL a).length c5)).run Try.prog wq = .ok (.string (strOfNums (xs ++ layVL a))) wq := fun wq b => run_string_reads wq _ _ 5 Try.underlying37 Try.underlying5 Try.underlying9 A5 c5 _ (r5.below b)
      have hrc := hr.below hb5
      have HSP : ∀ wq : World, Below wc.heap.size wc wq → (convert 37 9 (.slice P xs.length cap)).run Try.prog wq = .ok (.string (strOfNums xs)) wq := fun wq b => run_string_reads wq _ _ 5 Try.underlying37 Try.underlying5 Try.underlying9 P cap _ (hrc.below b)
      have HL := Lib.hid (rdVal_lay a hok)
      have h8l := layVL_bytes hok
      obtain ⟨sp, hsp⟩ : ∃ sp, sp = strOfNums xs := ⟨_, rfl⟩
      obtain ⟨ss, hss⟩ : ∃ ss, ss = strOfNums (layVL a) := ⟨_, rfl⟩
      have HS1 : Hid (∀ w, (Op.stringOp .add sp ss).run Try.prog w = .ok (.string (sp ++ ss)) w) := Lib.hid fun w => run_string_add w _ _ (by rw [hsp, len_string]; omega) (by rw [hss, len_string]; have := layVL_len a; omega)
      have Hadd : Hid (strOfNums (xs ++ layVL a) = sp ++ ss) := Lib.hid (by rw [strOfNums_app, hsp, hss])
      rw [Hadd.out] at HSQ
      rw [← hsp] at HSP
      have Hss := Lib.hid hss
      have HK5 := Lib.hid hk5
      obtain ⟨sq, hsq⟩ : ∃ sq, sq = sp ++ ss := ⟨_, rfl⟩
      rw [← hsq] at HSQ HS1
      have HSE : Hid ((sq.toList == sq.toList) = true) := Lib.hid (beq_self_eq_true _)
      have Hsq := Lib.hid hsq
      clear hsq hss hsp hk5 o5 hrc hla
      generalize hn5 : (xs ++ layVL a).length = n5 at *
      have HN := Lib.hid hn5
      clear hn5
      generalize hLL : layVL a = LL at *
      have HLL := Lib.hid hLL
      clear hLL
      go_upto_region 4 with fail
      obtain ⟨CV, hCV⟩ : ∃ CV : Nat → Value, CV = fun j => match j with
        | 0 => .slice A5 n5 c5
        | 1 => .string sq
        | 2 => .slice P xs.length cap
        | 3 => .string sp
        | 4 => .agg C
        | 6 => .string ss
        | 7 => .string sq
        | 8 => .bool false
        | _ => undef := ⟨_, rfl⟩
      obtain ⟨isO, hO⟩ : ∃ isO : Nat → Bool, isO = fun j => match j with
        | 5 => true
        | _ => false := ⟨_, rfl⟩
      obtain ⟨BL, hBL⟩ : ∃ BL : Nat → List Int, BL = fun j => match j with
        | 5 => LL
        | _ => [] := ⟨_, rfl⟩
      have v0 : CV 0 = .slice A5 n5 c5 := congrFun hCV 0
      have o0 : isO 0 = false := congrFun hO 0
      have v1 : CV 1 = .string sq := congrFun hCV 1
      have o1 : isO 1 = false := congrFun hO 1
      have v2 : CV 2 = .slice P xs.length cap := congrFun hCV 2
      have o2 : isO 2 = false := congrFun hO 2
      have v3 : CV 3 = .string sp := congrFun hCV 3
      have o3 : isO 3 = false := congrFun hO 3
      have v4 : CV 4 = .agg C := congrFun hCV 4
      have o4 : isO 4 = false := congrFun hO 4
      have o5 : isO 5 = true := congrFun hO 5
      have l5 : BL 5 = LL := congrFun hBL 5
      have v6 : CV 6 = .string ss := congrFun hCV 6
      have o6 : isO 6 = false := congrFun hO 6
      have v7 : CV 7 = .string sq := congrFun hCV 7
      have o7 : isO 7 = false := congrFun hO 7
      have v8 : CV 8 = .bool false := congrFun hCV 8
      have o8 : isO 8 = false := congrFun hO 8
      clear hCV hO hBL
      have V0 := Lib.hid v0
      have V1 := Lib.hid v1
      have V2 := Lib.hid v2
      have V3 := Lib.hid v3
      have V4 := Lib.hid v4
      have LL5 := Lib.hid l5
      have V6 := Lib.hid v6
      have V7 := Lib.hid v7
      have V8 := Lib.hid v8
      clear v0 v1 v2 v3 v4 l5 v6 v7 v8
      refine region_run (RegI wc isO BL CV) (by kernel_rfl) (by kernel_rfl) (by kernel_rfl) (by kernel_rfl) (RegI.start wc 9) ?_ ?_
      · intro listed vals a1 wq i hs hcl hI hR hi hu hr1
        replace hi : i < 9 := hi
        obtain rfl | hi1 : i = 0 ∨ 1 ≤ i := by omega
        · have t5 := hR.fixed 5 (by kernel_rfl) rfl
          clear hrl HSQ HSP
          exact wpOp_val rfl rfl (by rw [V0.out]; go_simp) ⟨_, rfl, hI.keep (Below.refl _ _) 0 o0⟩
        obtain rfl | hi1 : i = 1 ∨ 2 ≤ i := by omega
        · have t20 : a1.tmps[20]? = some (.slice A5 n5 c5) := hI.get hR hr1 0 o0 (by kernel_rfl) (by decide) rfl V0.out
          have hcv := HSQ wq hI.b
          clear hrl HSQ HSP
          exact wpOp_val rfl rfl (by rw [V1.out]; go_simp) ⟨_, rfl, hI.keep (Below.refl _ _) 1 o1⟩
        obtain rfl | hi1 : i = 2 ∨ 3 ≤ i := by omega
        · have t0 := hR.fixed 0 (by kernel_rfl) rfl
          clear hrl HSQ HSP
          exact wpOp_val rfl rfl (by rw [V2.out]; go_simp) ⟨_, rfl, hI.keep (Below.refl _ _) 2 o2⟩
        obtain rfl | hi1 : i = 3 ∨ 4 ≤ i := by omega
        · have t22 : a1.tmps[22]? = some (.slice P xs.length cap) := hI.get hR hr1 2 o2 (by kernel_rfl) (by decide) rfl V2.out
          have hcv := HSP wq hI.b
          clear hrl HSQ HSP
          exact wpOp_val rfl rfl (by rw [V3.out]; go_simp) ⟨_, rfl, hI.keep (Below.refl _ _) 3 o3⟩
        obtain rfl | hi1 : i = 4 ∨ 5 ≤ i := by omega
        · have t3 := hR.fixed 3 (by kernel_rfl) rfl
          have kk := (hI.b.block _ (heap_lt HK5.out)).trans HK5.out
          exact wpOp_of_wp rfl rfl (wp_load_row 27 (.tmp 3) rfl w.heap.size (getD_is t3) 27 C (0, 0) _ kk Try.underlying27 rfl (by rw [hC1]; exact Hs.out) ⟨_, rfl, hI.keepV (Below.refl _ _) 4 o4 V4.out⟩)
        obtain rfl | hi1 : i = 5 ∨ 6 ≤ i := by omega
        · have t24 : a1.tmps[24]? = some (.agg C) := hI.get hR hr1 4 o4 (by kernel_rfl) (by decide) rfl V4.out
          have hc1 := hrl wq
          clear hrl HSQ HSP
          refine wpOp_calls (f := 25) (args := #[.agg C]) rfl rfl (by go_simp) (hc1.mono ?_)
          rintro e wz ⟨v, rfl, ho, b⟩
          exact ⟨_, rfl, _, rfl, hI.keepB b 5 o5 v (by rw [LL5.out]; exact ho)⟩
        obtain rfl | hi1 : i = 6 ∨ 7 ≤ i := by omega
        · have tv : a1.tmps[25]? = some (vals 5) := hR.dep hr1 5 (by kernel_rfl) (by decide) rfl
          have ho := hI.own 5 o5 (dep_of hr1 (by kernel_rfl))
          rw [LL5.out] at ho
          obtain ⟨A9, c9, e9, _, r9⟩ := ho.form
          rw [e9] at tv
          have hcv := run_string_reads (P := Try.prog) wq 37 9 5 Try.underlying37 Try.underlying5 Try.underlying9 A9 c9 _ r9
          rw [← Hss.out] at hcv
          generalize List.length (LL) = n9 at *
          clear e9 ho r9
          clear hrl HSQ HSP
          exact wpOp_val rfl rfl (by rw [V6.out]; go_simp) ⟨_, rfl, hI.keep (Below.refl _ _) 6 o6⟩
        obtain rfl | hi1 : i = 7 ∨ 8 ≤ i := by omega
        · have t23 : a1.tmps[23]? = some (.string sp) := hI.get hR hr1 3 o3 (by kernel_rfl) (by decide) rfl V3.out
          have t26 : a1.tmps[26]? = some (.string ss) := hI.get hR hr1 6 o6 (by kernel_rfl) (by decide) rfl V6.out
          have h1 := HS1.out
          clear hrl HSQ HSP
          exact wpOp_val rfl rfl (by rw [V7.out]; go_simp) ⟨_, rfl, hI.keep (Below.refl _ _) 7 o7⟩
        obtain rfl : i = 8 := by omega
        have t21 : a1.tmps[21]? = some (.string sq) := hI.get hR hr1 1 o1 (by kernel_rfl) (by decide) rfl V1.out
        have t27 : a1.tmps[27]? = some (.string sq) := hI.get hR hr1 7 o7 (by kernel_rfl) (by decide) rfl V7.out
        have h1 := HSE.out
        clear hrl HSQ HSP
        exact wpOp_val rfl rfl (by rw [V8.out]; go_simp) ⟨_, rfl, hI.keep (Below.refl _ _) 8 o8⟩
      · intro listed vals wq FF hI hall hFF
        have hF2 : FF = ((((((((Act.put _ (some 20) (vals 0)).put (some 21) (vals 1)).put (some 22) (vals 2)).put (some 23) (vals 3)).put (some 24) (vals 4)).put (some 25) (vals 5)).put (some 26) (vals 6)).put (some 27) (vals 7)).put (some 28) (vals 8) := hFF
        simp only [putAll] at hF2
        rw [hF2]
        have e8 := hI.val 8 o8 (hall 8 (by decide))
        rw [V8.out] at e8
        have bfin := hI.b
        clear hF2 hFF hI hall
        rw [e8]
        go_frame
        have hbq := below_trans hb5 bfin
        have HKq := Lib.hid ((bfin.block _ (heap_lt HK5.out)).trans HK5.out)
        have r5q := r5.below bfin
        clear hag hsz l63 l47 Hk1
        obtain ⟨Z, hZ, zz⟩ : ∃ Z : Array Value, Z.size = 5 ∧ ∀ w, (zeroValue 27).run Try.prog w = .ok (.agg Z) w := ⟨avC noAV, rfl, zeroAgg⟩
        have hmf : ∀ (fn : Fn) (first cap : Array Value) (w : World), (Instr.makeFunc fn first cap).run Try.prog w = .ok (.func fn first cap) w := fun _ _ _ _ => rfl
        have hn5 : xs.length < n5 := by rw [← HN.out, List.length_append, ← HLL.out]; have := (uintL_len a.n).1; unfold layVL; simp only [List.length_append]; omega
        have hc5' : xs.length < c5 := by omega
        go_upto_region 7 with (refine at_op (.alloc 27) ?_ rfl; refine wpList_alloc_row rfl _ 27 rfl (some 6) rfl wq.heap.size rfl Z zz ?_)
        have hk6 := heap_alloc_new wq (.cells Z 27)
        have hb6 := below_alloc hbq (.cells Z 27)
        have hrA : Reads (wq.alloc (.cells Z 27)) .u8 (A5.map (·.add xs.length)) LL := by
          have h := (r5q.below (below_alloc (Below.refl wq.heap.size wq) (.cells Z 27))).cut c5 xs.length (by rw [HN.out]; exact hc5)
          rw [List.drop_left] at h
          unfold cutAt at h
          rw [if_neg (by omega)] at h
          exact h
        have hfl : LL.length = n5 - xs.length := by rw [← HN.out, List.length_append]; omega
        have hBA : LL ≠ [] → ∀ b, A5.map (·.add xs.length) = some b → b.block < wq.heap.size := fun hne b e => by
          cases hA : A5 with
          | none => rw [hA] at e; cases e
          | some b0 =>
            rw [hA] at e
            injection e with e
            rw [← e, add_block]
            exact reads_lt r5q (by intro h; exact hne (List.append_eq_nil_iff.1 h).2) b0 hA
        obtain ⟨a0, a1, a2, a3, a4⟩ := avC_cells a
        rw [← HC.out] at a0
        clear a1 a2 a3 a4
        have hkw : (wq.alloc (.cells Z 27)).heap[w.heap.size]? = some (.cells C 27) := ((below_alloc (Below.refl wq.heap.size wq) (.cells Z 27)).block _ (heap_lt HKq.out)).trans HKq.out
        have hlw := heap_lt HKq.out
        have c0 : (wq.alloc (.cells Z 27)).cell? ⟨w.heap.size, 0, none⟩ = some (.int .u64 (a.n : Int)) := (cell_of_row _ _ 0 _ _ _ hkw).trans a0
        by_cases hle : a.n ≤ 1099511627776
        · have ht := try_tell_good (A5.map (·.add xs.length)) (n5 - xs.length) (c5 - xs.length) wq.heap.size LL ⟨a.n, canon a.x, a.ov, canon a.lo, canon a.hi⟩ Z _ hfl (by omega) hrA h8l hBA (by simp) hk6 hZ (by rw [HL.out, if_pos hle])
          have hli : (a.n : Int) ≤ 1099511627776 := by omega
          have hsame := fun w => refAggSame_any a ⟨a.n, canon a.x, a.ov, canon a.lo, canon a.hi⟩ w hok ⟨hok.n, canon_lt hok.x, canon_lt hok.lo, canon_lt hok.hi⟩
          rw [show sameAV a ⟨a.n, canon a.x, a.ov, canon a.lo, canon a.hi⟩ = true from by simp [sameAV, canon_canon], ← HC.out] at hsame
          have hDs : (avC ⟨a.n, canon a.x, a.ov, canon a.lo, canon a.hi⟩).size = 5 := rfl
          generalize avC ⟨a.n, canon a.x, a.ov, canon a.lo, canon a.hi⟩ = D at *
          clear hBA hrA HSQ HSP hrl
          go_wp2_with (first
            | (go_at_call 26; (with_reducible refine ht.mono ?_); rintro e w8 ⟨rfl, b8, k8⟩; have kw8 := (b8.block w.heap.size hlw).trans hkw; have c0 := (cell_of_row _ _ 0 _ _ _ kw8).trans a0)
            | (refine at_opG (.load 27 (.tmp 3)) (some (8, false)) ?_ rfl rfl; refine wpList_load_rowG rfl 27 (.tmp 3) rfl w.heap.size rfl 27 C (0, 0) _ kw8 Try.underlying27 rfl (by rw [hC1]; exact Hs.out) ?_)
            | (refine at_opG (.load 27 (.tmp 6)) (some (8, false)) ?_ rfl rfl; refine wpList_load_rowG rfl 27 (.tmp 6) rfl wq.heap.size rfl 27 D (0, 0) _ k8 Try.underlying27 rfl (by rw [hDs]; exact Hs.out) ?_)
            | (go_at_call 17; (with_reducible refine (hsame _).mono ?_); rintro e w9 ⟨rfl, b9⟩))
          go_ret
          exact ⟨rfl, below_trans (show Below w.heap.size w w8 from ⟨b8.os.trans hb6.os, b8.tape.trans hb6.tape, b8.output.trans hb6.output, Nat.le_trans hb6.size b8.size, fun k hk => (b8.block k (Nat.lt_of_lt_of_le hk hbq.size)).trans (hb6.block k hk)⟩) b9⟩
        · have ht := try_tell_bad (A5.map (·.add xs.length)) (n5 - xs.length) (c5 - xs.length) wq.heap.size LL Z _ hfl (by omega) hrA h8l hBA (by simp) (by rw [HL.out, if_neg hle])
          have hli : (1099511627776 : Int) < (a.n : Int) := by omega
          clear hBA hrA HSQ HSP hrl
          go_wp2_with (go_at_call 26; (with_reducible refine ht.mono ?_); rintro e w8 ⟨rfl, b8⟩; have c0 := cell_below b8 c0)
          have hd : decide ((a.n : Int) ≤ 1099511627776) = false := decide_eq_false (by omega)
          rw [hd]
          go_ret
          exact ⟨rfl, below_trans hb6 b8⟩
set_option maxRecDepth 100000 in
theorem aggTellings_walk {H : Type} {enc : TypeId × Value → H} (W : World) {base : Nat} {sp : Nat → Bool} {hd : Bool} {r : Reach} {b0 : Nat} {v1 : Value} {d1 : DataW H} {p1 : List MemPlace} {ts : List TypeId} {ds : List (DataW H)}
    (B : Option Addr) (capb : Nat) (bs : List Int) (hcb : bs.length ≤ capb) (hlb : bs.length * 1 ≤ 140737488351232) (hrb : Reads W .u8 B bs) (hwb : ∀ i, i < bs.length → (Lit.int .u8 (rd bs i)).wf = true)
    (k1 : Value.okWide Try.prog W r b0 27 v1) (h1 : DataW.Trod enc Try.prog W base sp hd 27 v1 d1 p1) (hz1 : (DataW.weightsEach Try.prog ts ds).all (· ≤ reachBytes) = true) :
    Calls Try.prog 8 #[.slice B bs.length capb, v1] W fun e w' => e = .returned (.bool true) ∧ Below W.heap.size W w' := by
  obtain ⟨a, ha, rfl⟩ := open_agg k1 h1
  exact aggTellings_any B capb bs a W hrb (wf_bytes hwb) (by omega) hcb ha
end Go.Proofs.Ytjmllggjaplldaa
