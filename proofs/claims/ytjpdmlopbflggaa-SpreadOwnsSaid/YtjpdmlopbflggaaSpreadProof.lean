/-
  PROVED HERE: streamwrightlaw11.SpreadOwns returns true for every number of tasks. No conditions.
-/
import Derived.Test.YtjpdmlopbflggaaRows
import Derived.WalkKit
import Derived.ProofKit
import Derived.OpenShut
import Derived.Deep.QuietTactic
import Derived.BigQuiet
namespace Go.Proofs.Ytjpdmlopbflggaa.spreadOwns
open Go.ChangeShapes Go.WideShapes Go.ChangeAt Go.RowKit
set_option linter.unusedVariables false      -- a walk need not use every 'w<i>' (that an integer argument fits its kind)

theorem own : ownKnob Try.prog.godebug = none := by kernel_rfl


theorem ret_int {k : IntKind} {a b : Int} (h : a = b) : Ending.returned (.int k a) = .returned (.int k b) := by rw [h]
theorem grown_trans {a b c : World} (h : Grown a b) (k : Grown b c) : Grown a c :=
  ⟨World.keptBut_trans h.1 k.1, fun x => (k.2.1 x).trans (h.2.1 x), Nat.le_trans h.2.2 k.2.2⟩

theorem range_any (t p lo hi : Int) (w : World) (h0 : 0 ≤ t) (h1 : t < p) (h2 : p ≤ 4) (hlo : (t * 32 + p - 1) / p = lo) (hhi : ((t + 1) * 32 + p - 1) / p = hi) :
    Calls Try.prog 9 #[.int .i64 t, .int .i64 p] w fun e w' => e = .returned (.tuple #[.int .i64 lo, .int .i64 hi]) ∧ Grown w w' := by
  have hp : p = 1 ∨ p = 2 ∨ p = 3 ∨ p = 4 := by omega
  have ht : t = 0 ∨ t = 1 ∨ t = 2 ∨ t = 3 := by omega
  rcases hp with rfl | rfl | rfl | rfl <;> rcases ht with rfl | rfl | rfl | rfl <;> first | (exfalso; omega) | skip
  all_goals
    subst hlo hhi
    clear h0 h1 h2
    go_enter Try.func9, Try.ntmps9
    go_wp2
    go_quiet (fail)
    go_wp2
    go_ret2
    exact ⟨rfl, by repeat (first | exact Grown.refl _ | apply Grown.drew | apply Grown.alloc | apply grown_drewN)⟩

theorem owner_any (g p : Int) (w : World) (h0 : 0 ≤ g) (h1 : g ≤ 32) (h2 : 0 ≤ p) (h3 : p ≤ 4) :
    Calls Try.prog 10 #[.int .i64 g, .int .i64 p] w fun e w' => e = .returned (.int .i64 (g * p / 32)) ∧ w = w' := by
  have hp : p = 0 ∨ p = 1 ∨ p = 2 ∨ p = 3 ∨ p = 4 := by omega
  rcases hp with rfl | rfl | rfl | rfl | rfl <;> clear h2 h3
  all_goals
    go_enter Try.func10, Try.ntmps10
    go_wp2
    go_ret
    exact ⟨ret_int (by omega), rfl⟩

theorem law_1 (a0 : Int) (w : World) (h : a0 = 1) :
    Calls Try.prog 4 #[.int .i64 a0] w fun e w' => e = .returned (.bool true) ∧ Grown w w' := by
  subst h
  all_goals
    go_enter Try.func4, Try.ntmps4
    go_wp2
    go_loopw [6, 3, 4, 5] (fun t a l m wr => ((t = .int .i64 0 ∧ a = .int .i64 0 ∧ l = .int .i64 32 ∧ m = .int .i64 0) ∨ (t = .int .i64 1 ∧ a = .int .i64 32 ∧ l = .int .i64 32 ∧ m = .int .i64 32)) ∧ Grown w wr) (fun t _ _ _ _ => 1 - (intOf t).toNat)
    case atStart => exact ⟨by simp, Grown.refl _⟩
    case round =>
      obtain ⟨hrel, hg⟩ := hrel
      rcases hrel with ⟨rfl, rfl, rfl, rfl⟩ | ⟨rfl, rfl, rfl, rfl⟩
      · go_wp2_with (go_at_call 9; refine (range_any 0 1 0 32 _ (by omega) (by omega) (by omega) (by omega) (by omega)).mono ?_; rintro e w1 ⟨rfl, hg1⟩)
        go_loop [9] (fun g => ∃ n : Int, 0 ≤ n ∧ n ≤ 32 ∧ g = .int .i64 n) (fun g => 32 - (intOf g).toNat)
        case atStart => exact ⟨_, by omega, by omega, rfl⟩
        case round =>
          obtain ⟨n, hn1, hn2, rfl⟩ := hrel
          by_cases hlt : n < 32
          · go_wp2_with (go_at_call 10; refine (owner_any n 1 _ (by omega) (by omega) (by omega) (by omega)).mono ?_; rintro e w2 ⟨rfl, rfl⟩)
            go_round
            case rel => exact ⟨n + 1, by omega, by omega, rfl⟩
            case measure => simp [intOf]; omega
          · obtain rfl : n = 32 := by omega
            go_wp2
            go_roundw
            case rel => exact ⟨by simp, grown_trans hg hg1⟩
            case measure => simp [intOf]
      · go_wp2
        go_ret
        exact ⟨rfl, hg⟩

theorem law_2 (a0 : Int) (w : World) (h : a0 = 2) :
    Calls Try.prog 4 #[.int .i64 a0] w fun e w' => e = .returned (.bool true) ∧ Grown w w' := by
  subst h
  all_goals
    go_enter Try.func4, Try.ntmps4
    go_wp2
    go_loopw [6, 3, 4, 5] (fun t a l m wr => ((t = .int .i64 0 ∧ a = .int .i64 0 ∧ l = .int .i64 32 ∧ m = .int .i64 0) ∨ (t = .int .i64 1 ∧ a = .int .i64 16 ∧ l = .int .i64 16 ∧ m = .int .i64 16) ∨ (t = .int .i64 2 ∧ a = .int .i64 32 ∧ l = .int .i64 16 ∧ m = .int .i64 16)) ∧ Grown w wr) (fun t _ _ _ _ => 2 - (intOf t).toNat)
    case atStart => exact ⟨by simp, Grown.refl _⟩
    case round =>
      obtain ⟨hrel, hg⟩ := hrel
      rcases hrel with ⟨rfl, rfl, rfl, rfl⟩ | ⟨rfl, rfl, rfl, rfl⟩ | ⟨rfl, rfl, rfl, rfl⟩
      · go_wp2_with (go_at_call 9; refine (range_any 0 2 0 16 _ (by omega) (by omega) (by omega) (by omega) (by omega)).mono ?_; rintro e w1 ⟨rfl, hg1⟩)
        go_loop [9] (fun g => ∃ n : Int, 0 ≤ n ∧ n ≤ 16 ∧ g = .int .i64 n) (fun g => 16 - (intOf g).toNat)
        case atStart => exact ⟨_, by omega, by omega, rfl⟩
        case round =>
          obtain ⟨n, hn1, hn2, rfl⟩ := hrel
          by_cases hlt : n < 16
          · go_wp2_with (go_at_call 10; refine (owner_any n 2 _ (by omega) (by omega) (by omega) (by omega)).mono ?_; rintro e w2 ⟨rfl, rfl⟩)
            go_round
            case rel => exact ⟨n + 1, by omega, by omega, rfl⟩
            case measure => simp [intOf]; omega
          · obtain rfl : n = 16 := by omega
            go_wp2
            go_roundw
            case rel => exact ⟨by simp, grown_trans hg hg1⟩
            case measure => simp [intOf]
      · go_wp2_with (go_at_call 9; refine (range_any 1 2 16 32 _ (by omega) (by omega) (by omega) (by omega) (by omega)).mono ?_; rintro e w1 ⟨rfl, hg1⟩)
        go_loop [9] (fun g => ∃ n : Int, 16 ≤ n ∧ n ≤ 32 ∧ g = .int .i64 n) (fun g => 32 - (intOf g).toNat)
        case atStart => exact ⟨_, by omega, by omega, rfl⟩
        case round =>
          obtain ⟨n, hn1, hn2, rfl⟩ := hrel
          by_cases hlt : n < 32
          · go_wp2_with (go_at_call 10; refine (owner_any n 2 _ (by omega) (by omega) (by omega) (by omega)).mono ?_; rintro e w2 ⟨rfl, rfl⟩)
            go_round
            case rel => exact ⟨n + 1, by omega, by omega, rfl⟩
            case measure => simp [intOf]; omega
          · obtain rfl : n = 32 := by omega
            go_wp2
            go_roundw
            case rel => exact ⟨by simp, grown_trans hg hg1⟩
            case measure => simp [intOf]
      · go_wp2
        go_ret
        exact ⟨rfl, hg⟩

theorem law_3 (a0 : Int) (w : World) (h : a0 = 3 ∨ a0 < 1 ∨ 4 < a0) :
    Calls Try.prog 4 #[.int .i64 a0] w fun e w' => e = .returned (.bool true) ∧ Grown w w' := by
  rcases h with rfl | h | h
  all_goals
    go_enter Try.func4, Try.ntmps4
    go_wp2
    go_loopw [6, 3, 4, 5] (fun t a l m wr => ((t = .int .i64 0 ∧ a = .int .i64 0 ∧ l = .int .i64 32 ∧ m = .int .i64 0) ∨ (t = .int .i64 1 ∧ a = .int .i64 11 ∧ l = .int .i64 11 ∧ m = .int .i64 11) ∨ (t = .int .i64 2 ∧ a = .int .i64 22 ∧ l = .int .i64 11 ∧ m = .int .i64 11) ∨ (t = .int .i64 3 ∧ a = .int .i64 32 ∧ l = .int .i64 10 ∧ m = .int .i64 11)) ∧ Grown w wr) (fun t _ _ _ _ => 3 - (intOf t).toNat)
    case atStart => exact ⟨by simp, Grown.refl _⟩
    case round =>
      obtain ⟨hrel, hg⟩ := hrel
      rcases hrel with ⟨rfl, rfl, rfl, rfl⟩ | ⟨rfl, rfl, rfl, rfl⟩ | ⟨rfl, rfl, rfl, rfl⟩ | ⟨rfl, rfl, rfl, rfl⟩
      · go_wp2_with (go_at_call 9; refine (range_any 0 3 0 11 _ (by omega) (by omega) (by omega) (by omega) (by omega)).mono ?_; rintro e w1 ⟨rfl, hg1⟩)
        go_loop [9] (fun g => ∃ n : Int, 0 ≤ n ∧ n ≤ 11 ∧ g = .int .i64 n) (fun g => 11 - (intOf g).toNat)
        case atStart => exact ⟨_, by omega, by omega, rfl⟩
        case round =>
          obtain ⟨n, hn1, hn2, rfl⟩ := hrel
          by_cases hlt : n < 11
          · go_wp2_with (go_at_call 10; refine (owner_any n 3 _ (by omega) (by omega) (by omega) (by omega)).mono ?_; rintro e w2 ⟨rfl, rfl⟩)
            go_round
            case rel => exact ⟨n + 1, by omega, by omega, rfl⟩
            case measure => simp [intOf]; omega
          · obtain rfl : n = 11 := by omega
            go_wp2
            go_roundw
            case rel => exact ⟨by simp, grown_trans hg hg1⟩
            case measure => simp [intOf]
      · go_wp2_with (go_at_call 9; refine (range_any 1 3 11 22 _ (by omega) (by omega) (by omega) (by omega) (by omega)).mono ?_; rintro e w1 ⟨rfl, hg1⟩)
        go_loop [9] (fun g => ∃ n : Int, 11 ≤ n ∧ n ≤ 22 ∧ g = .int .i64 n) (fun g => 22 - (intOf g).toNat)
        case atStart => exact ⟨_, by omega, by omega, rfl⟩
        case round =>
          obtain ⟨n, hn1, hn2, rfl⟩ := hrel
          by_cases hlt : n < 22
          · go_wp2_with (go_at_call 10; refine (owner_any n 3 _ (by omega) (by omega) (by omega) (by omega)).mono ?_; rintro e w2 ⟨rfl, rfl⟩)
            go_round
            case rel => exact ⟨n + 1, by omega, by omega, rfl⟩
            case measure => simp [intOf]; omega
          · obtain rfl : n = 22 := by omega
            go_wp2
            go_roundw
            case rel => exact ⟨by simp, grown_trans hg hg1⟩
            case measure => simp [intOf]
      · go_wp2_with (go_at_call 9; refine (range_any 2 3 22 32 _ (by omega) (by omega) (by omega) (by omega) (by omega)).mono ?_; rintro e w1 ⟨rfl, hg1⟩)
        go_loop [9] (fun g => ∃ n : Int, 22 ≤ n ∧ n ≤ 32 ∧ g = .int .i64 n) (fun g => 32 - (intOf g).toNat)
        case atStart => exact ⟨_, by omega, by omega, rfl⟩
        case round =>
          obtain ⟨n, hn1, hn2, rfl⟩ := hrel
          by_cases hlt : n < 32
          · go_wp2_with (go_at_call 10; refine (owner_any n 3 _ (by omega) (by omega) (by omega) (by omega)).mono ?_; rintro e w2 ⟨rfl, rfl⟩)
            go_round
            case rel => exact ⟨n + 1, by omega, by omega, rfl⟩
            case measure => simp [intOf]; omega
          · obtain rfl : n = 32 := by omega
            go_wp2
            go_roundw
            case rel => exact ⟨by simp, grown_trans hg hg1⟩
            case measure => simp [intOf]
      · go_wp2
        go_ret
        exact ⟨rfl, hg⟩

theorem law_4 (a0 : Int) (w : World) (h : a0 = 4) :
    Calls Try.prog 4 #[.int .i64 a0] w fun e w' => e = .returned (.bool true) ∧ Grown w w' := by
  subst h
  all_goals
    go_enter Try.func4, Try.ntmps4
    go_wp2
    go_loopw [6, 3, 4, 5] (fun t a l m wr => ((t = .int .i64 0 ∧ a = .int .i64 0 ∧ l = .int .i64 32 ∧ m = .int .i64 0) ∨ (t = .int .i64 1 ∧ a = .int .i64 8 ∧ l = .int .i64 8 ∧ m = .int .i64 8) ∨ (t = .int .i64 2 ∧ a = .int .i64 16 ∧ l = .int .i64 8 ∧ m = .int .i64 8) ∨ (t = .int .i64 3 ∧ a = .int .i64 24 ∧ l = .int .i64 8 ∧ m = .int .i64 8) ∨ (t = .int .i64 4 ∧ a = .int .i64 32 ∧ l = .int .i64 8 ∧ m = .int .i64 8)) ∧ Grown w wr) (fun t _ _ _ _ => 4 - (intOf t).toNat)
    case atStart => exact ⟨by simp, Grown.refl _⟩
    case round =>
      obtain ⟨hrel, hg⟩ := hrel
      rcases hrel with ⟨rfl, rfl, rfl, rfl⟩ | ⟨rfl, rfl, rfl, rfl⟩ | ⟨rfl, rfl, rfl, rfl⟩ | ⟨rfl, rfl, rfl, rfl⟩ | ⟨rfl, rfl, rfl, rfl⟩
      · go_wp2_with (go_at_call 9; refine (range_any 0 4 0 8 _ (by omega) (by omega) (by omega) (by omega) (by omega)).mono ?_; rintro e w1 ⟨rfl, hg1⟩)
        go_loop [9] (fun g => ∃ n : Int, 0 ≤ n ∧ n ≤ 8 ∧ g = .int .i64 n) (fun g => 8 - (intOf g).toNat)
        case atStart => exact ⟨_, by omega, by omega, rfl⟩
        case round =>
          obtain ⟨n, hn1, hn2, rfl⟩ := hrel
          by_cases hlt : n < 8
          · go_wp2_with (go_at_call 10; refine (owner_any n 4 _ (by omega) (by omega) (by omega) (by omega)).mono ?_; rintro e w2 ⟨rfl, rfl⟩)
            go_round
            case rel => exact ⟨n + 1, by omega, by omega, rfl⟩
            case measure => simp [intOf]; omega
          · obtain rfl : n = 8 := by omega
            go_wp2
            go_roundw
            case rel => exact ⟨by simp, grown_trans hg hg1⟩
            case measure => simp [intOf]
      · go_wp2_with (go_at_call 9; refine (range_any 1 4 8 16 _ (by omega) (by omega) (by omega) (by omega) (by omega)).mono ?_; rintro e w1 ⟨rfl, hg1⟩)
        go_loop [9] (fun g => ∃ n : Int, 8 ≤ n ∧ n ≤ 16 ∧ g = .int .i64 n) (fun g => 16 - (intOf g).toNat)
        case atStart => exact ⟨_, by omega, by omega, rfl⟩
        case round =>
          obtain ⟨n, hn1, hn2, rfl⟩ := hrel
          by_cases hlt : n < 16
          · go_wp2_with (go_at_call 10; refine (owner_any n 4 _ (by omega) (by omega) (by omega) (by omega)).mono ?_; rintro e w2 ⟨rfl, rfl⟩)
            go_round
            case rel => exact ⟨n + 1, by omega, by omega, rfl⟩
            case measure => simp [intOf]; omega
          · obtain rfl : n = 16 := by omega
            go_wp2
            go_roundw
            case rel => exact ⟨by simp, grown_trans hg hg1⟩
            case measure => simp [intOf]
      · go_wp2_with (go_at_call 9; refine (range_any 2 4 16 24 _ (by omega) (by omega) (by omega) (by omega) (by omega)).mono ?_; rintro e w1 ⟨rfl, hg1⟩)
        go_loop [9] (fun g => ∃ n : Int, 16 ≤ n ∧ n ≤ 24 ∧ g = .int .i64 n) (fun g => 24 - (intOf g).toNat)
        case atStart => exact ⟨_, by omega, by omega, rfl⟩
        case round =>
          obtain ⟨n, hn1, hn2, rfl⟩ := hrel
          by_cases hlt : n < 24
          · go_wp2_with (go_at_call 10; refine (owner_any n 4 _ (by omega) (by omega) (by omega) (by omega)).mono ?_; rintro e w2 ⟨rfl, rfl⟩)
            go_round
            case rel => exact ⟨n + 1, by omega, by omega, rfl⟩
            case measure => simp [intOf]; omega
          · obtain rfl : n = 24 := by omega
            go_wp2
            go_roundw
            case rel => exact ⟨by simp, grown_trans hg hg1⟩
            case measure => simp [intOf]
      · go_wp2_with (go_at_call 9; refine (range_any 3 4 24 32 _ (by omega) (by omega) (by omega) (by omega) (by omega)).mono ?_; rintro e w1 ⟨rfl, hg1⟩)
        go_loop [9] (fun g => ∃ n : Int, 24 ≤ n ∧ n ≤ 32 ∧ g = .int .i64 n) (fun g => 32 - (intOf g).toNat)
        case atStart => exact ⟨_, by omega, by omega, rfl⟩
        case round =>
          obtain ⟨n, hn1, hn2, rfl⟩ := hrel
          by_cases hlt : n < 32
          · go_wp2_with (go_at_call 10; refine (owner_any n 4 _ (by omega) (by omega) (by omega) (by omega)).mono ?_; rintro e w2 ⟨rfl, rfl⟩)
            go_round
            case rel => exact ⟨n + 1, by omega, by omega, rfl⟩
            case measure => simp [intOf]; omega
          · obtain rfl : n = 32 := by omega
            go_wp2
            go_roundw
            case rel => exact ⟨by simp, grown_trans hg hg1⟩
            case measure => simp [intOf]
      · go_wp2
        go_ret
        exact ⟨rfl, hg⟩

theorem walk (a0 : Int) (w0 : (Lit.int .i64 a0).wf = true) (w : World) :
    Calls Try.prog 4 #[.int .i64 a0] w fun e w' => e = .returned (.bool true) ∧ Grown w w' := by
  by_cases h1 : a0 = 1
  · exact law_1 a0 w h1
  by_cases h2 : a0 = 2
  · exact law_2 a0 w h2
  by_cases h4 : a0 = 4
  · exact law_4 a0 w h4
  exact law_3 a0 w (by omega)

/-! ### THE ROW's STEP: WRITTEN OUT: LEAVE IT -/
set_option maxRecDepth 100000 in
theorem lifted (os : Os) (started : os.Started) (H : Type) (enc : TypeId × Value → H) :
    ReturnsInHanded {} Try.checked os 4 .any (Rows.spreadOwnsSpec.pre6 enc Try.prog Try.f4 Rows.spreadOwnsRow.domain false) (Rows.spreadOwnsSpec.post enc Try.prog Try.f4 false true false false) := by
  refine returnsInHanded_of_change (C := Try.checked) own started (by kernel_rfl) Try.func4
    (ChangeSpec.witness6 (enc := enc) (C := Try.checked) false ⟨#[], #[.int .i64 0], []⟩ 8 (by kernel_rfl) (by kernel_rfl) (by kernel_rfl) (by kernel_rfl)) ?_
  intro W base args ds gs before hval0 hW hcnd _
  have hval : ∀ (j : Nat) t v, Try.f4.params[j]? = some t → args[j]? = some v → Value.okWide Try.prog W .any base t v := hval0
  have hW' := hW
  obtain ⟨p, q, hA0, hV, rfl, hfz, hnd⟩ := hW
  have hA : DataW.TrodAll enc Try.prog W 0 (fun _ => true) true Try.f4.params.toList args.toList ds p := hA0
  rw [Try.params4] at hA hval
  obtain ⟨v0, vs0, d0, ds0, p0, q0, hargs, rfl, rfl, h0, r0⟩ := trodAll_cons hA
  obtain ⟨rfl, rfl, rfl⟩ := trodAll_nil r0
  obtain rfl : args = #[v0] := by cases args; simp_all
  obtain ⟨rfl, rfl⟩ := trodVars_none hV
  obtain ⟨a0, rfl, rfl, rfl, w0⟩ := open_int Try.underlying3 (hval 0 3 v0 rfl rfl) h0
  clear hA0 hval0
  simp only [List.append_nil] at hW'
  refine (walk a0 w0 W).mono fun e W' ⟨he, hg⟩ => ?_
  subst he
  exact ⟨_, rfl, post_of_same (pa := []) (pv := []) hW' (fun _ _ _ => (trodAll_cons_mk (shut_bool Try.underlying4 _) trodAll_mk0)) (fun sp _ => (trodAll_cons_mk (shut_int Try.underlying3 w0) trodAll_mk0)) (fun _ _ => rfl) rfl
    (hg.frame _) hg.2.1 (ok_one (by kernel_rfl) rfl (okWide_bool_mk Try.underlying4 _))⟩

theorem over : Rows.spreadOwnsRow.holds Try.pinned (OpenSpec.ofChange Rows.spreadOwnsSpec) :=
  OpenClaim.holds_of_wide 4 Try.f4 rfl rfl rfl rfl rfl rfl rfl ⟨rfl, rfl, rfl, rfl, rfl⟩ rfl rfl rfl rfl rfl (by kernel_rfl) Try.func4 (by kernel_rfl)
    (of_decide_eq_true (by kernel_rfl)) (by unfold Func.isWrapper; first | (rw [if_pos (by decide +kernel)]; kernel_rfl) | (rw [if_neg (by decide +kernel)]; exact ⟨rfl, rfl⟩))
    (fun os started H enc _ => lifted os started H enc)

/-- ████ THE STATEMENT ████ -/
theorem proved : Rows.SpreadOwnsSaid :=
  over
#print axioms proved
end Go.Proofs.Ytjpdmlopbflggaa.spreadOwns
