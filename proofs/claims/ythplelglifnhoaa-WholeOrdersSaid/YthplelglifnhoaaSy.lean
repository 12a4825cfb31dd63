import Derived.Test.YthplelglifnhoaaSx
import Derived.Deep.DeepCutAuto
import Derived.Deep.CutBlock
/-! Two sorted ranges merged in place, whole. -/
namespace Go.Proofs.Ythplelglifnhoaa
open Go.Shelf Go.RowKit Go.Lib Go.Sort
set_option linter.unusedVariables false
set_option linter.unusedSimpArgs false
attribute [-simp] Try.isAgg36 Try.sizeOf36 Try.typeInfo36 Try.type36
section
variable {α : Type} [Inhabited α]
theorem moved_none (s m e : Nat) (h : s = m ∨ m = e) (h2 : s ≤ m) (h3 : m ≤ e) (d : Array α) : Moved (rotF s m e) d d := Moved.id d fun x => rotF_none s m e x h h2 h3
set_option maxHeartbeats 16000000 in
set_option maxRecDepth 1000000 in
theorem symMerge_any (k : Nat) (aE : ∀ w, (isAgg 36).run Try.prog w = .ok true w) (zE : ∀ w, (Go.sizeOf 36).run Try.prog w = .ok k w) (enc : α → List Value) (cf : α → α → Int) (hO : SWO (ltOf cf)) (g : Nat) (cb : Array Value) (blk off cap : Nat) (d0 : Array α) (w0 : World)
    (eg : ∀ args w, (callFunc g args).run Try.prog w = .ok (.enter g args) w) (hcmp : CmpLays Try.prog g cb enc k cf blk off d0.size w0) (R : RowK enc k w0 blk off d0) :
    ∀ (N a m b : Nat) (d : Array α) (w : World), b - a < N → d0.size = d.size → SWK enc k w0 blk off d w → a < m → m < b → b ≤ d.size → d.size < 4611686018427387904 → SortedIn (ltOf cf) a m d → SortedIn (ltOf cf) m b d →
    Calls Try.prog 85 #[.slice (some ⟨blk, off, none⟩) d.size cap, .int .i64 a, .int .i64 m, .int .i64 b, .func (.func g) #[] cb] w fun e w' => e = .returned (.tuple #[]) ∧ ∃ d', PermIn a b d d' ∧ SortedIn (ltOf cf) a b d' ∧ SWK enc k w0 blk off d' w' := by
  intro N
  induction N with
  | zero => intro a m b d w h; omega
  | succ N ih =>
  intro a m b d w hN hs S ham hmb hb hsz h1 h2
  by_cases c1 : m = a + 1
  · exact symMerge_first k aE zE enc cf hO g cb blk off cap d0 w0 eg hcmp R a m b d w hs S c1 hmb hb hsz h1 h2
  by_cases c2 : b = m + 1
  · exact symMerge_last k aE zE enc cf hO g cb blk off cap d0 w0 eg hcmp R a m b d w hs S (by omega) c2 hb hsz h1 h2
  have IH : Aside (∀ (a m b : Nat) (d2 : Array α) (w : World), b - a < N → d2.size = d.size → SWK enc k w0 blk off d2 w → a < m → m < b → b ≤ d.size → SortedIn (ltOf cf) a m d2 → SortedIn (ltOf cf) m b d2 →
      Calls Try.prog 85 #[.slice (some ⟨blk, off, none⟩) d.size cap, .int .i64 a, .int .i64 m, .int .i64 b, .func (.func g) #[] cb] w fun e w' => e = .returned (.tuple #[]) ∧ ∃ d', PermIn a b d2 d' ∧ SortedIn (ltOf cf) a b d' ∧ SWK enc k w0 blk off d' w') :=
    fun a m b d2 w q1 q2 q3 q4 q5 q6 q7 q8 => by rw [← q2]; exact ih a m b d2 w q1 (by omega) q3 q4 q5 (by omega) (by omega) q7 q8
  have ROT : Aside (∀ (s m e : Nat) (d2 : Array α) (w : World), d2.size = d.size → SWK enc k w0 blk off d2 w → s < m → m < e → e ≤ d.size → Calls Try.prog 98 #[.slice (some ⟨blk, off, none⟩) d.size cap, .int .i64 s, .int .i64 m, .int .i64 e, .func (.func g) #[] cb] w fun e' w' => e' = .returned (.tuple #[]) ∧ ∃ d', Moved (rotF s m e) d2 d' ∧ SWK enc k w0 blk off d' w') :=
    fun s m e d2 w q2 q3 q4 q5 q6 => by rw [← q2]; exact rotate_any k aE zE enc _ blk off cap s m e d0 d2 w0 w R (by omega) q3 q4 q5 (by omega) (by omega)
  clear ih
  have mixed : Try.prog.follows .mixedOrders = true := by kernel_rfl
  have HC : Aside _ := hcmp
  have S0 : Aside (SWK enc k w0 blk off d w) := S
  have Q1 : Aside (SortedIn (ltOf cf) a m d) := h1
  have Q2 : Aside (SortedIn (ltOf cf) m b d) := h2
  clear S hcmp h1 h2
  have c1' : a + 1 < m := by omega
  have c2' : m + 1 < b := by omega
  clear c1 c2
  have wma : IntKind.i64.wrap ((m : Int) - (a : Int)) = (m : Int) - (a : Int) := by rw [IntKind.wrap_i64]; omega
  have wma1 : ((m : Int) - (a : Int) == 1) = false := by simp; omega
  have wbm : IntKind.i64.wrap ((b : Int) - (m : Int)) = (b : Int) - (m : Int) := by rw [IntKind.wrap_i64]; omega
  have wbm1 : ((b : Int) - (m : Int) == 1) = false := by simp; omega
  obtain ⟨mid, hmid⟩ : ∃ mid : Nat, mid = (a + b) / 2 := ⟨_, rfl⟩
  have HM : Aside (mid = (a + b) / 2) := hmid
  have wij : IntKind.i64.wrap ((a : Int) + (b : Int)) = (a : Int) + (b : Int) := by rw [IntKind.wrap_i64]; omega
  have wuj : IntKind.u64.wrap ((a : Int) + (b : Int)) = (a : Int) + (b : Int) := by rw [IntKind.wrap_u64]; omega
  have wsh2 : ((a : Int) + (b : Int)) / 2 = (mid : Int) := by omega
  have mid1 : a < mid := by omega
  have mid2 : mid < b := by omega
  have wuh : IntKind.u64.wrap (mid : Int) = (mid : Int) := by rw [IntKind.wrap_u64]; omega
  have wih : IntKind.i64.wrap (mid : Int) = (mid : Int) := by rw [IntKind.wrap_i64]; omega
  have wn : IntKind.i64.wrap ((mid : Int) + (m : Int)) = (mid : Int) + (m : Int) := by rw [IntKind.wrap_i64]; omega
  have wn1 : IntKind.i64.wrap ((mid : Int) + (m : Int) - 1) = (mid : Int) + (m : Int) - 1 := by rw [IntKind.wrap_i64]; omega
  clear hmid
  obtain ⟨lo, hi, hlh, hloz, hwz⟩ : ∃ lo hi : Nat, ((mid < m ∧ lo + b = mid + m ∧ hi = mid) ∨ (m ≤ mid ∧ lo = a ∧ hi = m)) ∧ (mid < m → (mid : Int) + (m : Int) - (b : Int) = (lo : Int) ∧ IntKind.i64.wrap ((mid : Int) + (m : Int) - (b : Int)) = (lo : Int)) ∧ lo ≤ hi := by
    have hm := HM.out
    by_cases c : mid < m
    · exact ⟨mid + m - b, mid, .inl ⟨c, by omega, rfl⟩, fun _ => ⟨by omega, by rw [IntKind.wrap_i64]; omega⟩, by omega⟩
    · exact ⟨a, m, .inr ⟨by omega, rfl, rfl⟩, fun q => absurd q c, by omega⟩
  have HLH : Aside _ := hlh
  go_enter Try.func85, Try.ntmps85
  go_upto_if 140 with fail
  go_cut [20, 21] (fun s r wx => s = .int .i64 lo ∧ r = .int .i64 hi ∧ w = wx)
  case first => as_aux_lemma =>
    by_cases c3 : mid < m
    · have c3z : (mid : Int) < (m : Int) := by omega
      obtain ⟨_, hlo2⟩ := hloz c3
      obtain rfl : mid = hi := by omega
      clear hloz hlh HLH
      go_wp2_with fail
      go_meet
      exact ⟨rfl, rfl, rfl⟩
    · have c3z : ¬ (mid : Int) < (m : Int) := by omega
      obtain rfl : lo = a := by omega
      obtain rfl : hi = m := by omega
      clear hloz hlh HLH
      go_wp2_with fail
      go_meet
      exact ⟨rfl, rfl, rfl⟩
  case rest =>
    obtain ⟨rfl, rfl, rfl⟩ := hcut
    clear hloz hlh
    clear wma wma1 wbm wbm1 wij wuj wsh2 wuh wih
    have bnd : lo ≤ a ∧ hi ≤ m ∨ lo ≤ m ∧ hi ≤ mid := by have := HLH.out; omega
    have bnd2 : hi ≤ mid ∧ hi ≤ m ∧ a ≤ lo := by have := HLH.out; have := HM.out; omega
    have bnd3 : mid + m ≤ b + lo := by have := HLH.out; have := HM.out; omega
    obtain ⟨hb1, hb2, hb3⟩ := bnd2
    clear bnd
    go_wp2_with fail
    go_loopg [20, 21] (hi - lo) (fun kx s10 s11 wr => ∃ (i j : Nat), s10 = .int .i64 i ∧ s11 = .int .i64 j ∧ lo ≤ i ∧ i ≤ j ∧ j ≤ hi ∧ j - i ≤ kx ∧ Aside (SWK enc k w0 blk off d wr) ∧ Aside ((i = lo ∨ ltOf cf d[mid + m - i]! d[i - 1]! = false) ∧ (j = hi ∨ ltOf cf d[mid + m - j - 1]! d[j]! = true)))
    case atStart => exact ⟨lo, hi, rfl, rfl, Nat.le_refl _, hwz, Nat.le_refl _, Nat.le_refl _, S0, .inl rfl, .inl rfl⟩
    case round =>
      clear S0
      obtain ⟨i, j, rfl, rfl, hmi, hij, hjb, hkx, S1, B1⟩ := hrel
      by_cases hlt : i < j
      · have hltz : (i : Int) < (j : Int) := by omega
        obtain ⟨h, hh⟩ : ∃ h : Nat, h = (i + j) / 2 := ⟨_, rfl⟩
        have wij : IntKind.i64.wrap ((i : Int) + (j : Int)) = (i : Int) + (j : Int) := by rw [IntKind.wrap_i64]; omega
        have wuj : IntKind.u64.wrap ((i : Int) + (j : Int)) = (i : Int) + (j : Int) := by rw [IntKind.wrap_u64]; omega
        have wsh : ((i : Int) + (j : Int)).fdiv (2 ^ min (Int.toNat 1) IntKind.u64.bits) = (h : Int) := by show ((i : Int) + (j : Int)).fdiv 2 = _; rw [Int.fdiv_eq_ediv_of_nonneg _ (by omega)]; omega
        have wsh2 : ((i : Int) + (j : Int)) / 2 = (h : Int) := by omega
        have hh1 : 2 * h ≤ i + j := by omega
        have hh2 : i + j ≤ 2 * h + 1 := by omega
        clear hh
        have wuh : IntKind.u64.wrap (h : Int) = (h : Int) := by rw [IntKind.wrap_u64]; omega
        have wih : IntKind.i64.wrap (h : Int) = (h : Int) := by rw [IntKind.wrap_i64]; omega
        have wih1 : IntKind.i64.wrap ((h : Int) + 1) = (h : Int) + 1 := by rw [IntKind.wrap_i64]; omega
        obtain ⟨pc, hpc⟩ : ∃ pc : Nat, pc = mid + m - h - 1 := ⟨_, rfl⟩
        have wpc : (mid : Int) + (m : Int) - 1 - (h : Int) = (pc : Int) := by omega
        have hpc1 : pc + h + 1 ≤ mid + m := by omega
        have hpc2 : mid + m ≤ pc + h + 1 := by omega
        have HPC : Aside (pc = mid + m - h - 1) := hpc
        clear hpc
        cases hlv : ltOf cf d[pc]! d[h]! with
        | true => as_aux_lemma =>
          have ea12 : ((pc : Int)).toNat = pc := by omega
          have pa12 : (0 : Int) ≤ (pc : Int) := by omega
          have ba12 : (pc : Int) < (d.size : Int) := by omega
          have ra12 : IntKind.i64.wrap ((pc : Int)) = (pc : Int) := by rw [IntKind.wrap_i64]; omega
          have ec12 : ((h : Int)).toNat = h := by omega
          have pc12 : (0 : Int) ≤ (h : Int) := by omega
          have bc12 : (h : Int) < (d.size : Int) := by omega
          have rc12 : IntKind.i64.wrap ((h : Int)) = (h : Int) := by rw [IntKind.wrap_i64]; omega
          obtain ⟨x12, hx12⟩ : ∃ x, x = d[pc]! := ⟨_, rfl⟩
          obtain ⟨y12, hy12⟩ : ∃ x, x = d[h]! := ⟨_, rfl⟩
          have l12a := S1.out.ld R (by omega) Try.prog (pc) (by omega)
          have l12b := S1.out.ld R (by omega) Try.prog (h) (by omega)
          rw [← hx12] at l12a
          rw [← hy12] at l12b
          have hc12 := S1.out.cmp HC.out (by omega) x12 y12
          have hv12 : cf x12 y12 < 0 := by rw [hx12, hy12]; exact of_decide_eq_true hlv
          have hd12 : decide (cf x12 y12 < 0) = true := decide_eq_true hv12
          clear hx12 hy12
          go_wp2_with fail
          go_quiet_grown (first | (go_at_fn g; refine Calls.grown_of (hc12 _ _)))
          have S2 : Aside (SWK enc k w0 blk off d (grow (wr.drewN nq) osq)) := S1.out.grown nq osq
          clear l12a l12b hc12 S1
          generalize grow (wr.drewN nq) osq = wu2 at S2 ⊢
          clear nq osq
          go_wp2
          go_roundg (h - i)
          case measure => omega
          case rel => exact ⟨i, h, rfl, rfl, hmi, by omega, by omega, Nat.le_refl _, S2, B1.out.1, .inr (by rw [← HPC.out]; exact hlv)⟩
        | false => as_aux_lemma =>
          have ea13 : ((pc : Int)).toNat = pc := by omega
          have pa13 : (0 : Int) ≤ (pc : Int) := by omega
          have ba13 : (pc : Int) < (d.size : Int) := by omega
          have ra13 : IntKind.i64.wrap ((pc : Int)) = (pc : Int) := by rw [IntKind.wrap_i64]; omega
          have ec13 : ((h : Int)).toNat = h := by omega
          have pc13 : (0 : Int) ≤ (h : Int) := by omega
          have bc13 : (h : Int) < (d.size : Int) := by omega
          have rc13 : IntKind.i64.wrap ((h : Int)) = (h : Int) := by rw [IntKind.wrap_i64]; omega
          obtain ⟨x13, hx13⟩ : ∃ x, x = d[pc]! := ⟨_, rfl⟩
          obtain ⟨y13, hy13⟩ : ∃ x, x = d[h]! := ⟨_, rfl⟩
          have l13a := S1.out.ld R (by omega) Try.prog (pc) (by omega)
          have l13b := S1.out.ld R (by omega) Try.prog (h) (by omega)
          rw [← hx13] at l13a
          rw [← hy13] at l13b
          have hc13 := S1.out.cmp HC.out (by omega) x13 y13
          have hv13 : ¬ cf x13 y13 < 0 := by rw [hx13, hy13]; exact of_decide_eq_false hlv
          have hd13 : decide (cf x13 y13 < 0) = false := decide_eq_false hv13
          clear hx13 hy13
          go_wp2_with fail
          go_quiet_grown (first | (go_at_fn g; refine Calls.grown_of (hc13 _ _)))
          have S2 : Aside (SWK enc k w0 blk off d (grow (wr.drewN nq) osq)) := S1.out.grown nq osq
          clear l13a l13b hc13 S1
          generalize grow (wr.drewN nq) osq = wu2 at S2 ⊢
          clear nq osq
          go_wp2
          go_roundg (j - (h + 1))
          case measure => omega
          case rel => exact ⟨h + 1, j, by go_num, rfl, by omega, by omega, hjb, Nat.le_refl _, S2, .inr (by rw [Nat.add_sub_cancel, show mid + m - (h + 1) = mid + m - h - 1 by omega, ← HPC.out]; exact hlv), B1.out.2⟩
      · have hnlt : ¬ (i : Int) < (j : Int) := by omega
        obtain rfl : i = j := by omega
        obtain ⟨e, he⟩ : ∃ e : Nat, e + i = mid + m := ⟨mid + m - i, by omega⟩
        have wen : (mid : Int) + (m : Int) - (i : Int) = (e : Int) := by omega
        have wei : IntKind.i64.wrap (e : Int) = (e : Int) := by rw [IntKind.wrap_i64]; omega
        have hme : m ≤ e := by omega
        have him : i ≤ m := by omega
        have hai : a ≤ i := by omega
        have heb : e ≤ b := by omega
        have SPL : Aside (∀ d', Moved (rotF i m e) d d' → SortedIn (ltOf cf) a i d' ∧ SortedIn (ltOf cf) i mid d' ∧ SortedIn (ltOf cf) mid e d' ∧ SortedIn (ltOf cf) e b d' ∧ ∀ x y, a ≤ x → x < mid → mid ≤ y → y < b → ltOf cf d'[y]! d'[x]! = false) := fun d' hm => by
          have := merge_split hO (s := i) (e := e) (lo := lo) (hi := hi) Q1.out Q2.out hb ham hmb HM.out he hmi hjb HLH.out (by
            rcases B1.out.1 with c | c
            · exact .inl c
            · exact .inr (by rwa [show mid + m - i = e by omega] at c)) (by
            rcases B1.out.2 with c | c
            · exact .inl c
            · exact .inr (by rwa [show mid + m - i - 1 = e - 1 by omega] at c)) hm
          exact this.2.2.2.2.2.2.2.2
        have FIN : Aside (∀ d1 d2 d3 : Array α, Moved (rotF i m e) d d1 → PermIn a mid d1 d2 → SortedIn (ltOf cf) a mid d2 → PermIn mid b d2 d3 → SortedIn (ltOf cf) mid b d3 → PermIn a b d d3 ∧ SortedIn (ltOf cf) a b d3) := fun d1 d2 d3 hm p1 q1 p2 q2 => by
          obtain ⟨_, _, _, _, hlr⟩ := SPL.out d1 hm
          have := merge_join (by rw [hm.1]; exact hb) (by omega) (by omega) hlr p1 q1 p2 q2
          exact ⟨permIn_trans d d1 d3 a b (permIn_mono d d1 i e a b hai heb hb (hm.perm him hme (by omega))) this.1, this.2⟩
        clear Q1 Q2 B1 HLH
        have RIGHT : Aside (∀ d1 d2 : Array α, Moved (rotF i m e) d d1 → PermIn a mid d1 d2 → SortedIn (ltOf cf) mid e d2 ∧ SortedIn (ltOf cf) e b d2) := fun d1 d2 hm p1 => by
          obtain ⟨_, _, q3, q4, _⟩ := SPL.out d1 hm
          exact ⟨sortedIn_congr q3 fun x x1 x2 => p1.2.1 x (.inr x1), sortedIn_congr q4 fun x x1 x2 => p1.2.1 x (.inr (by omega))⟩
        generalize hwr : wr = wo at *
        clear hwr
        clear hij hkx hlt hnlt
        obtain ⟨bb, hbb⟩ : ∃ bb : Bool, bb = decide (i < m ∧ m < e) := ⟨_, rfl⟩
        have HB : Aside (bb = decide (i < m ∧ m < e)) := hbb
        clear hbb
        go_upto_region 39 with fail
        go_cut [185] (fun b wx => b = .bool bb ∧ wo = wx)
        case first => as_aux_lemma =>
          by_cases p1 : i < m
          · have p1z : (i : Int) < (m : Int) := by omega
            have p2z : (m : Int) < (e : Int) ∨ ¬ (m : Int) < (e : Int) := by omega
            rcases p2z with p2z | p2z
            · obtain rfl : bb = true := by rw [HB.out]; exact decide_eq_true ⟨p1, by omega⟩
              go_wp2_with fail
              go_meet
              exact ⟨rfl, rfl⟩
            · obtain rfl : bb = false := by rw [HB.out]; exact decide_eq_false (by omega)
              go_wp2_with fail
              go_meet
              exact ⟨rfl, rfl⟩
          · have p1z : ¬ (i : Int) < (m : Int) := by omega
            obtain rfl : bb = false := by rw [HB.out]; exact decide_eq_false (by omega)
            go_wp2_with fail
            go_meet
            exact ⟨rfl, rfl⟩
        case rest =>
        obtain ⟨rfl, rfl⟩ := hcut
        go_upto_if 185 with fail
        go_cut [20] (fun s wx => s = .int .i64 i ∧ ∃ d1, Aside (Moved (rotF i m e) d d1) ∧ Aside (SWK enc k w0 blk off d1 wx))
        case first => as_aux_lemma =>
          cases bb
          · have p : ¬ (i < m ∧ m < e) := of_decide_eq_false HB.out.symm
            go_wp2_with fail
            go_meet
            exact ⟨rfl, d, moved_none i m e (by omega) him hme d, S1⟩
          · have p : i < m ∧ m < e := of_decide_eq_true HB.out.symm
            have hr := ROT.out i m e d wo rfl S1.out p.1 p.2 (by omega)
            go_wp2_with (go_at_call 98; (with_reducible refine hr.mono ?_); rintro e' w3 ⟨rfl, d3, M3, S3⟩; have S3 : Aside _ := S3; have M3 : Aside _ := M3)
            go_meet
            exact ⟨rfl, d3, M3, S3⟩
        case rest =>
          clear S1
          obtain ⟨rfl, d1, M1, S1⟩ := hcut
          have hd1 : d1.size = d.size := M1.out.1
          clear HB
          generalize hwp : wc = wp at *
          clear hwp
          obtain ⟨bb, hbb⟩ : ∃ bb : Bool, bb = decide (a < i ∧ i < mid) := ⟨_, rfl⟩
          have HB : Aside (bb = decide (a < i ∧ i < mid)) := hbb
          clear hbb
          go_upto_region 41 with fail
          go_cut [199] (fun b wx => b = .bool bb ∧ wp = wx)
          case first => as_aux_lemma =>
            by_cases p1 : a < i
            · have p1z : (a : Int) < (i : Int) := by omega
              have p2z : (i : Int) < (mid : Int) ∨ ¬ (i : Int) < (mid : Int) := by omega
              rcases p2z with p2z | p2z
              · obtain rfl : bb = true := by rw [HB.out]; exact decide_eq_true ⟨p1, by omega⟩
                go_wp2_with fail
                go_meet
                exact ⟨rfl, rfl⟩
              · obtain rfl : bb = false := by rw [HB.out]; exact decide_eq_false (by omega)
                go_wp2_with fail
                go_meet
                exact ⟨rfl, rfl⟩
            · have p1z : ¬ (a : Int) < (i : Int) := by omega
              obtain rfl : bb = false := by rw [HB.out]; exact decide_eq_false (by omega)
              go_wp2_with fail
              go_meet
              exact ⟨rfl, rfl⟩
          case rest =>
          obtain ⟨rfl, rfl⟩ := hcut
          go_upto_if 199 with fail
          go_cut [20] (fun s wx => s = .int .i64 i ∧ ∃ d2, Aside (PermIn a mid d1 d2 ∧ SortedIn (ltOf cf) a mid d2) ∧ Aside (SWK enc k w0 blk off d2 wx))
          case first => as_aux_lemma =>
            obtain ⟨q1, q2, _, _, _⟩ := SPL.out d1 M1.out
            have q1 : Aside _ := q1
            have q2 : Aside _ := q2
            cases bb
            · have p : ¬ (a < i ∧ i < mid) := of_decide_eq_false HB.out.symm
              go_wp2_with fail
              go_meet
              refine ⟨rfl, d1, ⟨permIn_refl d1 a mid, ?_⟩, S1⟩
              by_cases hie : i = mid
              · have := q1.out; rwa [hie] at this
              · have := q2.out; rwa [show i = a by omega] at this
            · have p : a < i ∧ i < mid := of_decide_eq_true HB.out.symm
              have hr := IH.out a i mid d1 wp (by omega) hd1 S1.out p.1 p.2 (by omega) q1.out q2.out
              go_wp2_with (go_at_call 85; (with_reducible refine hr.mono ?_); rintro e' w3 ⟨rfl, d3, M3, M4, S3⟩; have S3 : Aside _ := S3; have M3 : Aside (_ ∧ _) := ⟨M3, M4⟩; clear M4)
              go_meet
              exact ⟨rfl, d3, M3, S3⟩
          case rest =>
            clear S1
            obtain ⟨rfl, d2, M2, S2⟩ := hcut
            have hd2 : d2.size = d.size := M2.out.1.1.trans hd1
            obtain ⟨q1, q2⟩ := RIGHT.out d1 d2 M1.out M2.out.1
            have q1 : Aside _ := q1
            have q2 : Aside _ := q2
            clear HB
            generalize hwp : wc = wp2 at *
            clear hwp
            by_cases p1 : mid < e
            · have p1z : (mid : Int) < (e : Int) := by omega
              have p2z : (e : Int) < (b : Int) ∨ ¬ (e : Int) < (b : Int) := by omega
              rcases p2z with p2z | p2z
              · have hr := IH.out mid e b d2 wp2 (by omega) hd2 S2.out p1 (by omega) (by omega) q1.out q2.out
                go_wp2_with (go_at_call 85; (with_reducible refine hr.mono ?_); rintro e' w3 ⟨rfl, d3, M3, M4, S3⟩; have S3 : Aside _ := S3; have M3 : Aside (_ ∧ _) := ⟨M3, M4⟩; clear M4)
                go_end0
                have := FIN.out d1 d2 d3 M1.out M2.out.1 M2.out.2 M3.out.1 M3.out.2
                exact ⟨rfl, d3, this.1, this.2, S3.out⟩
              · have hie : e = b := by omega
                go_wp2_with fail
                go_end0
                have := FIN.out d1 d2 d2 M1.out M2.out.1 M2.out.2 (permIn_refl d2 mid b) (by have := q1.out; rwa [hie] at this)
                exact ⟨rfl, d2, this.1, this.2, S2.out⟩
            · have p1z : ¬ (mid : Int) < (e : Int) := by omega
              have hie : e = mid := by omega
              go_wp2_with fail
              go_end0
              have := FIN.out d1 d2 d2 M1.out M2.out.1 M2.out.2 (permIn_refl d2 mid b) (by have := q2.out; rwa [hie] at this)
              exact ⟨rfl, d2, this.1, this.2, S2.out⟩
end
end Go.Proofs.Ythplelglifnhoaa
