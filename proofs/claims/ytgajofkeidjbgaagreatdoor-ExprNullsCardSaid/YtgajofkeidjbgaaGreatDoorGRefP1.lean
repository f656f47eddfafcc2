/-
  PROVED HERE: the document's reading of tokens: fail, sign.
  PROVED HERE: the document's reading of tokens: in, close, power, Word.
  PROVED HERE: the document's tokens, its small parts: letter, digit, signs.
-/
import Derived.Test.YtgajofkeidjbgaaGreatDoorGRefE
import Derived.Deep.RegionHeld
namespace Go.Proofs.YtgajofkeidjbgaaGreatDoor
set_option linter.unusedSimpArgs false
set_option linter.unusedVariables false
open Go.RowKit

theorem byte_d (t : Tok) (n : Nat) (hn : n < 256) (h0 : UInt8.ofNat n ≠ 0) (h1 : UInt8.ofNat n ≠ 101) : ((t.d.k.toNat : Int) == (n : Int)) = decide (t.k = UInt8.ofNat n) := by
  rw [byte_eq _ n hn, decide_eq_decide]
  show (if t.k = 0 then 101 else t.k) = _ ↔ _
  by_cases hk : t.k = 0
  · rw [if_pos hk, hk]
    exact ⟨fun h => absurd h.symm h1, fun h => absurd h.symm h0⟩
  · rw [if_neg hk]
/-- a variable of a token, written. -/
theorem tokvar_set {w w1 w2 : World} {T : Nat} {t : Tok} {a b c : Value} (hL : Later w w1) (h : w1.heap[T]? = some (.cells #[a, b, c] 71 (0, 0))) (hT : w.heap.size ≤ T)
    (h2 : w2 = ((w1.setCell ⟨T, 0, none⟩ (.int .u8 (t.k.toNat : Int))).setCell ⟨T, 1, none⟩ (.string (strB t.t))).setCell ⟨T, 2, none⟩ (.int .i64 (t.p : Int))) :
    Later w w2 ∧ w2.heap[T]? = some (.cells #[.int .u8 (t.k.toNat : Int), .string (strB t.t), .int .i64 (t.p : Int)] 71 (0, 0)) := by
  subst h2
  exact ⟨((hL.new (p := ⟨T, 0, none⟩) hT _).new (p := ⟨T, 1, none⟩) hT _).new (p := ⟨T, 2, none⟩) hT _, obj_setCell (i := 2) (obj_setCell (i := 1) (obj_setCell (i := 0) h _) _) _⟩
/-- 'fail' of the document: the first fault stays. -/
theorem rfail_any (R : Nat) (K : Row3) (L : List Tok) (i d bad : Nat) (e c : Int) (p : Nat) (w : World) (h : RAt w R K L i d e bad) (hc : c ≠ 0) : Calls Tryz.prog 23 #[.pointer (some ⟨R, 0, none⟩), .int .i64 c, .int .i64 (p : Int)] w fun en w' =>
    en = .returned (.tuple #[]) ∧ Keeps (fun b => b ≠ R) w w' ∧ (if e = 0 then RAt w' R K L i d c p else w' = w) := by
  have HR := hid h
  obtain ⟨-, -, -, c3, c4, hz, hlt⟩ := h.cells
  have z3 := hz 3
  clear h hz
  by_cases he : e = 0
  · have HE := hid he
    subst he
    have h1 := HR.out.set.2.2.1 c
    have q4 := (h1.cells).2.2.2.2.1
    have z4 := (h1.cells).2.2.2.2.2.1 4
    have q4l := (h1.cells).2.2.2.2.2.2
    have H1 := hid h1
    clear h1
    go_enter Tryz.func23, Tryz.ntmps23
    go_wp2_with fail
    refine bodyPost_end (results_none rfl _ _ _) rfl ⟨rfl, ((HR.out.set).2.2.2.2 3 _).trans ((H1.out.set).2.2.2.2 4 _), ?_⟩
    exact H1.out.set.2.2.2.1 p
  · have he' : (e == 0) = false := by simpa using he
    have HE := hid he
    clear he
    go_enter Tryz.func23, Tryz.ntmps23
    go_wp2_with fail
    refine bodyPost_end (results_none rfl _ _ _) rfl ⟨rfl, Keeps.refl _ _, rfl⟩
set_option maxRecDepth 100000 in
set_option maxHeartbeats 2000000 in
theorem sign_any (R : Nat) (K : Row3) (L : List Tok) (i d bad : Nat) (e : Int) (x : List UInt8) (w : World) (h : RAt w R K L i d e bad) (hi : i < L.length) : Calls Tryz.prog 44 #[.pointer (some ⟨R, 0, none⟩), .string (strB x)] w fun en w' =>
    en = .returned (.bool (decide (e = 0) && isW L[i] x)) ∧ Later w w' := by
  have HR := hid h
  obtain ⟨t0, t1, t2⟩ := h.2.2 i hi
  obtain ⟨c0, c1, -, c3, -, hz, hlt⟩ := h.cells
  obtain ⟨g, o, c⟩ := K
  simp only at c0 t0 t1 t2
  obtain ⟨t, ht⟩ : ∃ t, t = L[i] := ⟨_, rfl⟩
  rw [← ht] at t0 t1 t2
  have HT := hid ht
  have hii : (i : Int) < (L.length : Int) := by omega
  clear h hz ht
  go_enter Tryz.func44, Tryz.ntmps44
  go_upto_region 1 with (fail)
  refine wp_region_held_drew (S := fun w => w.cell? ⟨R, 0, none⟩ = some (.slice (some ⟨g, o, none⟩) L.length c) ∧ w.cell? ⟨R, 1, none⟩ = some (.int .i64 (i : Int)) ∧ w.cell? ⟨R, 3, none⟩ = some (.int .i64 e) ∧ TokAt w g (o + i * 3) t.d)
    (by kernel_rfl) ⟨(Later.drew w).cell c0, (Later.drew w).cell c1, (Later.drew w).cell c3, (Later.drew w).cell t0, (Later.drew w).cell t1, (Later.drew w).cell t2⟩ (fun hS => ?_)
  refine wpAnyH_take (i := 0) (v := .pointer (some ⟨R, 0, none⟩)) rfl (by kernel_rfl) (by kernel_rfl) (by kernel_rfl) (fun _ _ _ h => h) (Or.inl ⟨by rfl, ?_⟩) hS ?_
  · intro w hS
    clear hS
    go_simp
  try simp only [Act.put, List.setIfInBounds_toArray, List.set]
  refine wpAnyH_take (i := 4) (v := .pointer (some ⟨R, 0, none⟩)) rfl (by kernel_rfl) (by kernel_rfl) (by kernel_rfl) (fun _ _ _ h => h) (Or.inl ⟨by rfl, ?_⟩) hS ?_
  · intro w hS
    clear hS
    go_simp
  try simp only [Act.put, List.setIfInBounds_toArray, List.set]
  refine wpAnyH_take (i := 1) (v := .pointer (some ⟨R, 0, none⟩)) rfl (by kernel_rfl) (by kernel_rfl) (by kernel_rfl) (fun _ _ _ h => h) (Or.inl ⟨by rfl, ?_⟩) hS ?_
  · rintro w ⟨h0, -⟩
    try (have := cell_lt h0)
    go_simp
  try simp only [Act.put, List.setIfInBounds_toArray, List.set]
  refine wpAnyH_take (i := 5) (v := .pointer (some ⟨R, 0, none⟩)) rfl (by kernel_rfl) (by kernel_rfl) (by kernel_rfl) (fun _ _ _ h => h) (Or.inl ⟨by rfl, ?_⟩) hS ?_
  · rintro w ⟨h0, -⟩
    try (have := cell_lt h0)
    go_simp
  try simp only [Act.put, List.setIfInBounds_toArray, List.set]
  refine wpAnyH_take (i := 2) (v := .pointer (some ⟨R, 0, none⟩)) rfl (by kernel_rfl) (by kernel_rfl) (by kernel_rfl) (fun _ _ _ h => h) (Or.inl ⟨by rfl, ?_⟩) hS ?_
  · rintro w ⟨h0, -⟩
    try (have := cell_lt h0)
    go_simp
  try simp only [Act.put, List.setIfInBounds_toArray, List.set]
  refine wpAnyH_take (i := 6) (v := .pointer (some ⟨R, 1, none⟩)) rfl (by kernel_rfl) (by kernel_rfl) (by kernel_rfl) (fun _ _ _ h => h) (Or.inl ⟨by rfl, ?_⟩) hS ?_
  · rintro w ⟨h0, -⟩
    try (have := cell_lt h0)
    go_simp
  try simp only [Act.put, List.setIfInBounds_toArray, List.set]
  refine wpAnyH_take (i := 3) (v := .slice (some ⟨g, o, none⟩) L.length c) rfl (by kernel_rfl) (by kernel_rfl) (by kernel_rfl) (fun _ _ _ h => h) (Or.inl ⟨by rfl, ?_⟩) hS ?_
  · rintro w ⟨h0, -⟩
    try (have := cell_lt h0)
    go_simp
  try simp only [Act.put, List.setIfInBounds_toArray, List.set]
  refine wpAnyH_take (i := 7) (v := .int .i64 (i : Int)) rfl (by kernel_rfl) (by kernel_rfl) (by kernel_rfl) (fun _ _ _ h => h) (Or.inl ⟨by rfl, ?_⟩) hS ?_
  · rintro w ⟨-, h0, -⟩
    try (have := cell_lt h0)
    go_simp
  try simp only [Act.put, List.setIfInBounds_toArray, List.set]
  refine wpAnyH_take (i := 8) (v := .pointer (some ⟨g, o + i * 3, none⟩)) rfl (by kernel_rfl) (by kernel_rfl) (by kernel_rfl) (fun _ _ _ h => h) (Or.inl ⟨by rfl, ?_⟩) hS ?_
  · intro w hS
    clear hS
    go_simp
  try simp only [Act.put, List.setIfInBounds_toArray, List.set]
  refine wpAnyH_take (i := 9) (v := .agg #[.int .u8 (t.d.k.toNat : Int), .string (strB t.d.t), .int .i64 (t.d.p : Int)]) rfl (by kernel_rfl) (by kernel_rfl) (by kernel_rfl) (fun _ _ _ h => h) (Or.inl ⟨by rfl, ?_⟩) hS ?_
  · rintro w ⟨-, -, -, h0, h1, h2⟩
    try (have := cell_lt h0)
    go_simp
  try simp only [Act.put, List.setIfInBounds_toArray, List.set]
  refine wpAnyH_ready (rs := [10]) (by kernel_rfl) (by simp) (AllReadyH.cons rfl (fun K hK => ?_) AllReadyH.nil)
  go_simp
  obtain ⟨w1, hw1⟩ : ∃ w1, w1 = (w.alloc (.cells #[.int .u8 0, .string ⟨#[]⟩, .int .i64 0] 71)).drew := ⟨_, rfl⟩
  have hL1 : Later w w1 := by rw [hw1]; exact Later.trans _ _ _ (Later.alloc _ _) (Later.drew _)
  have hN1 : w1.heap[w.heap.size]? = some (.cells #[.int .u8 0, .string ⟨#[]⟩, .int .i64 0] 71 (0, 0)) := by rw [hw1]; exact obj_new _ _
  obtain ⟨T, hT⟩ : ∃ T, T = w.heap.size := ⟨_, rfl⟩
  have hTw : w.heap.size ≤ T := by omega
  rw [← hw1, ← hT]
  rw [← hT] at hN1
  have k0 : w1.cell? ⟨T, 0, none⟩ = some (.int .u8 0) := cell_obj (i := 0) hN1 rfl
  have k1 : w1.cell? ⟨T, 1, none⟩ = some (.string ⟨#[]⟩) := cell_obj (i := 1) hN1 rfl
  have k2 : w1.cell? ⟨T, 2, none⟩ = some (.int .i64 0) := cell_obj (i := 2) hN1 rfl
  have z0 := free_obj (i := 0) hN1
  have z1 := free_obj (i := 1) hN1
  have z2 := free_obj (i := 2) hN1
  have kl := cell_lt k0
  have hS1 : w1.cell? ⟨R, 0, none⟩ = some (.slice (some ⟨g, o, none⟩) L.length c) ∧ w1.cell? ⟨R, 1, none⟩ = some (.int .i64 (i : Int)) ∧ w1.cell? ⟨R, 3, none⟩ = some (.int .i64 e) ∧ TokAt w1 g (o + i * 3) t.d := ⟨hL1.cell c0, hL1.cell c1, hL1.cell c3, hL1.cell t0, hL1.cell t1, hL1.cell t2⟩
  clear hw1 hT hS
  refine hK.out _ _ hS1 (fun hS => ?_)
  clear hK K
  try simp only [Act.put, List.setIfInBounds_toArray, List.set]
  clear hS1
  refine wpAnyH_ready (rs := [11]) (by kernel_rfl) (by simp) (AllReadyH.cons rfl (fun K hK => ?_) AllReadyH.nil)
  go_simp
  obtain ⟨w2, hw2⟩ : ∃ w2, w2 = ((w1.setCell ⟨T, 0, none⟩ (.int .u8 (t.d.k.toNat : Int))).setCell ⟨T, 1, none⟩ (.string (strB t.d.t))).setCell ⟨T, 2, none⟩ (.int .i64 (t.d.p : Int)) := ⟨_, rfl⟩
  obtain ⟨hL2, hT2⟩ := tokvar_set hL1 hN1 hTw hw2
  rw [← hw2]
  have hS2 : w2.cell? ⟨R, 0, none⟩ = some (.slice (some ⟨g, o, none⟩) L.length c) ∧ w2.cell? ⟨R, 1, none⟩ = some (.int .i64 (i : Int)) ∧ w2.cell? ⟨R, 3, none⟩ = some (.int .i64 e) ∧ TokAt w2 g (o + i * 3) t.d := ⟨hL2.cell c0, hL2.cell c1, hL2.cell c3, hL2.cell t0, hL2.cell t1, hL2.cell t2⟩
  clear hw2 k0 k1 k2 z0 z1 z2 kl hL1 hN1 hS hTw
  refine hK.out _ _ hS2 (fun hS => ?_)
  clear hK K
  try simp only [Act.put, List.setIfInBounds_toArray, List.set]
  refine wpAnyH_done (by kernel_rfl) ?_ _
  have e3 := hS.2.2.1
  have m0 : w2.cell? ⟨T, 0, none⟩ = some (.int .u8 (t.d.k.toNat : Int)) := cell_obj (i := 0) hT2 rfl
  have m1 : w2.cell? ⟨T, 1, none⟩ = some (.string (strB t.t)) := cell_obj (i := 1) hT2 rfl
  have ml := cell_lt m0
  have rl := cell_lt e3
  have HL2 := hid hL2
  obtain ⟨b0, h0⟩ : ∃ b, (e == 0) = b := ⟨_, rfl⟩
  obtain ⟨b1, h1⟩ : ∃ b, decide (t.t = x) = b := ⟨_, rfl⟩
  obtain ⟨b2, h2⟩ : ∃ b, decide (t.k = 111) = b := ⟨_, rfl⟩
  obtain ⟨b3, h3⟩ : ∃ b, decide (t.k = 110) = b := ⟨_, rfl⟩
  have e1 : ((strB t.t).toList == (strB x).toList) = b1 := (strs_eq _ _).trans h1
  have e2 : ((t.d.k.toNat : Int) == 111) = b2 := (byte_d t 111 (by omega) (by decide) (by decide)).trans h2
  have e4 : ((t.d.k.toNat : Int) == 110) = b3 := (byte_d t 110 (by omega) (by decide) (by decide)).trans h3
  have HV : Hid ((decide (e = 0) && isW L[i] x) = (b0 && (b1 && (b2 || b3)))) := hid (by
    rw [← HT.out, ← h0, ← h1, ← h2, ← h3]
    unfold isW
    rw [Bool.eq_iff_iff]
    simp)
  clear hL2 hT2 c0 c1 c3 t0 t1 t2 hS hlt h1 h2 h3 hS2
  cases b0 with
  | false =>
    go_wp2_with fail
    exact bodyPost_ret (results_tmp rfl _ _ _) rfl ⟨by rw [HV.out]; rfl, HL2.out⟩
  | true =>
    cases b1 with
    | false =>
      go_wp2_with fail
      exact bodyPost_ret (results_tmp rfl _ _ _) rfl ⟨by rw [HV.out]; rfl, HL2.out⟩
    | true =>
      cases b2 with
      | true =>
        go_wp2_with fail
        exact bodyPost_ret (results_tmp rfl _ _ _) rfl ⟨by rw [HV.out]; rfl, HL2.out⟩
      | false =>
        go_wp2_with fail
        refine bodyPost_ret (results_tmp rfl _ _ _) rfl ⟨?_, HL2.out⟩
        rw [HV.out]
        cases b3 <;> rfl
end Go.Proofs.YtgajofkeidjbgaaGreatDoor
namespace Go.Proofs.YtgajofkeidjbgaaGreatDoor
set_option linter.unusedSimpArgs false
set_option linter.unusedVariables false
open Go.RowKit

theorem ite_or' {α : Type} (p q : Prop) [Decidable p] [Decidable q] (x y : α) : (if p ∨ q then x else y) = if p then x else if q then x else y := by
  by_cases hp : p <;> by_cases hq : q <;> simp [hp, hq]

set_option maxRecDepth 100000 in
set_option maxHeartbeats 2000000 in
theorem power_any (s : List UInt8) (w : World) : Calls Tryz.prog 26 #[.string (strB s)] w fun e w' => e = .returned (.int .i64 (powS s : Int)) ∧ w' = w := by
  obtain ⟨b0, h0⟩ : ∃ b, decide (s = [111, 114]) = b := ⟨_, rfl⟩
  have e0 : ((strB s).toList == [111, 114]) = b0 := by rw [strB_toL', ← h0, Bool.eq_iff_iff]; simp
  obtain ⟨b1, h1⟩ : ∃ b, decide (s = [97, 110, 100]) = b := ⟨_, rfl⟩
  have e1 : ((strB s).toList == [97, 110, 100]) = b1 := by rw [strB_toL', ← h1, Bool.eq_iff_iff]; simp
  obtain ⟨b2, h2⟩ : ∃ b, decide (s = [61]) = b := ⟨_, rfl⟩
  have e2 : ((strB s).toList == [61]) = b2 := by rw [strB_toL', ← h2, Bool.eq_iff_iff]; simp
  obtain ⟨b3, h3⟩ : ∃ b, decide (s = [60, 62]) = b := ⟨_, rfl⟩
  have e3 : ((strB s).toList == [60, 62]) = b3 := by rw [strB_toL', ← h3, Bool.eq_iff_iff]; simp
  obtain ⟨b4, h4⟩ : ∃ b, decide (s = [60]) = b := ⟨_, rfl⟩
  have e4 : ((strB s).toList == [60]) = b4 := by rw [strB_toL', ← h4, Bool.eq_iff_iff]; simp
  obtain ⟨b5, h5⟩ : ∃ b, decide (s = [60, 61]) = b := ⟨_, rfl⟩
  have e5 : ((strB s).toList == [60, 61]) = b5 := by rw [strB_toL', ← h5, Bool.eq_iff_iff]; simp
  obtain ⟨b6, h6⟩ : ∃ b, decide (s = [62]) = b := ⟨_, rfl⟩
  have e6 : ((strB s).toList == [62]) = b6 := by rw [strB_toL', ← h6, Bool.eq_iff_iff]; simp
  obtain ⟨b7, h7⟩ : ∃ b, decide (s = [62, 61]) = b := ⟨_, rfl⟩
  have e7 : ((strB s).toList == [62, 61]) = b7 := by rw [strB_toL', ← h7, Bool.eq_iff_iff]; simp
  obtain ⟨b8, h8⟩ : ∃ b, decide (s = [43]) = b := ⟨_, rfl⟩
  have e8 : ((strB s).toList == [43]) = b8 := by rw [strB_toL', ← h8, Bool.eq_iff_iff]; simp
  obtain ⟨b9, h9⟩ : ∃ b, decide (s = [45]) = b := ⟨_, rfl⟩
  have e9 : ((strB s).toList == [45]) = b9 := by rw [strB_toL', ← h9, Bool.eq_iff_iff]; simp
  obtain ⟨b10, h10⟩ : ∃ b, decide (s = [43, 43]) = b := ⟨_, rfl⟩
  have e10 : ((strB s).toList == [43, 43]) = b10 := by rw [strB_toL', ← h10, Bool.eq_iff_iff]; simp
  obtain ⟨b11, h11⟩ : ∃ b, decide (s = [42]) = b := ⟨_, rfl⟩
  have e11 : ((strB s).toList == [42]) = b11 := by rw [strB_toL', ← h11, Bool.eq_iff_iff]; simp
  obtain ⟨b12, h12⟩ : ∃ b, decide (s = [47]) = b := ⟨_, rfl⟩
  have e12 : ((strB s).toList == [47]) = b12 := by rw [strB_toL', ← h12, Bool.eq_iff_iff]; simp
  obtain ⟨b13, h13⟩ : ∃ b, decide (s = [37]) = b := ⟨_, rfl⟩
  have e13 : ((strB s).toList == [37]) = b13 := by rw [strB_toL', ← h13, Bool.eq_iff_iff]; simp
  have HV : Hid (powS s = if b0 = true then 1 else if b1 = true then 2 else if b2 = true then 4 else if b3 = true then 4 else if b4 = true then 4 else if b5 = true then 4 else if b6 = true then 4 else if b7 = true then 4 else if b8 = true then 5 else if b9 = true then 5 else if b10 = true then 5 else if b11 = true then 6 else if b12 = true then 6 else if b13 = true then 6 else (0 : Nat)) := hid (by
    rw [← h0, ← h1, ← h2, ← h3, ← h4, ← h5, ← h6, ← h7, ← h8, ← h9, ← h10, ← h11, ← h12, ← h13]
    unfold powS
    simp only [lvlOps, List.mem_cons, List.not_mem_nil, or_false, decide_eq_true_eq, ite_or'])
  clear h0 h1 h2 h3 h4 h5 h6 h7 h8 h9 h10 h11 h12 h13
  go_enter Tryz.func26, Tryz.ntmps26
  cases b0 with
  | true =>
    go_wp2_with fail
    exact bodyPost_ret (results_tmp rfl _ _ _) rfl ⟨by rw [HV.out]; rfl, rfl⟩
  | false =>
    cases b1 with
    | true =>
      go_wp2_with fail
      exact bodyPost_ret (results_tmp rfl _ _ _) rfl ⟨by rw [HV.out]; rfl, rfl⟩
    | false =>
      cases b2 with
      | true =>
        go_wp2_with fail
        exact bodyPost_ret (results_tmp rfl _ _ _) rfl ⟨by rw [HV.out]; rfl, rfl⟩
      | false =>
        cases b3 with
        | true =>
          go_wp2_with fail
          exact bodyPost_ret (results_tmp rfl _ _ _) rfl ⟨by rw [HV.out]; rfl, rfl⟩
        | false =>
          cases b4 with
          | true =>
            go_wp2_with fail
            exact bodyPost_ret (results_tmp rfl _ _ _) rfl ⟨by rw [HV.out]; rfl, rfl⟩
          | false =>
            cases b5 with
            | true =>
              go_wp2_with fail
              exact bodyPost_ret (results_tmp rfl _ _ _) rfl ⟨by rw [HV.out]; rfl, rfl⟩
            | false =>
              cases b6 with
              | true =>
                go_wp2_with fail
                exact bodyPost_ret (results_tmp rfl _ _ _) rfl ⟨by rw [HV.out]; rfl, rfl⟩
              | false =>
                cases b7 with
                | true =>
                  go_wp2_with fail
                  exact bodyPost_ret (results_tmp rfl _ _ _) rfl ⟨by rw [HV.out]; rfl, rfl⟩
                | false =>
                  cases b8 with
                  | true =>
                    go_wp2_with fail
                    exact bodyPost_ret (results_tmp rfl _ _ _) rfl ⟨by rw [HV.out]; rfl, rfl⟩
                  | false =>
                    cases b9 with
                    | true =>
                      go_wp2_with fail
                      exact bodyPost_ret (results_tmp rfl _ _ _) rfl ⟨by rw [HV.out]; rfl, rfl⟩
                    | false =>
                      cases b10 with
                      | true =>
                        go_wp2_with fail
                        exact bodyPost_ret (results_tmp rfl _ _ _) rfl ⟨by rw [HV.out]; rfl, rfl⟩
                      | false =>
                        cases b11 with
                        | true =>
                          go_wp2_with fail
                          exact bodyPost_ret (results_tmp rfl _ _ _) rfl ⟨by rw [HV.out]; rfl, rfl⟩
                        | false =>
                          cases b12 with
                          | true =>
                            go_wp2_with fail
                            exact bodyPost_ret (results_tmp rfl _ _ _) rfl ⟨by rw [HV.out]; rfl, rfl⟩
                          | false =>
                            cases b13 with
                            | true =>
                              go_wp2_with fail
                              exact bodyPost_ret (results_tmp rfl _ _ _) rfl ⟨by rw [HV.out]; rfl, rfl⟩
                            | false =>
                              go_wp2_with fail
                              exact bodyPost_ret (results_tmp rfl _ _ _) rfl ⟨by rw [HV.out]; rfl, rfl⟩
set_option maxRecDepth 100000 in
set_option maxHeartbeats 2000000 in
theorem word_any (s : List UInt8) (w : World) : Calls Tryz.prog 78 #[.string (strB s)] w fun e w' => e = .returned (.bool (decide (s ∈ wordsW))) ∧ w' = w := by
  obtain ⟨b0, h0⟩ : ∃ b, decide (s = [97, 110, 100]) = b := ⟨_, rfl⟩
  have e0 : ((strB s).toList == [97, 110, 100]) = b0 := by rw [strB_toL', ← h0, Bool.eq_iff_iff]; simp
  obtain ⟨b1, h1⟩ : ∃ b, decide (s = [111, 114]) = b := ⟨_, rfl⟩
  have e1 : ((strB s).toList == [111, 114]) = b1 := by rw [strB_toL', ← h1, Bool.eq_iff_iff]; simp
  obtain ⟨b2, h2⟩ : ∃ b, decide (s = [110, 111, 116]) = b := ⟨_, rfl⟩
  have e2 : ((strB s).toList == [110, 111, 116]) = b2 := by rw [strB_toL', ← h2, Bool.eq_iff_iff]; simp
  obtain ⟨b3, h3⟩ : ∃ b, decide (s = [116, 114, 117, 101]) = b := ⟨_, rfl⟩
  have e3 : ((strB s).toList == [116, 114, 117, 101]) = b3 := by rw [strB_toL', ← h3, Bool.eq_iff_iff]; simp
  obtain ⟨b4, h4⟩ : ∃ b, decide (s = [102, 97, 108, 115, 101]) = b := ⟨_, rfl⟩
  have e4 : ((strB s).toList == [102, 97, 108, 115, 101]) = b4 := by rw [strB_toL', ← h4, Bool.eq_iff_iff]; simp
  obtain ⟨b5, h5⟩ : ∃ b, decide (s = [97, 115]) = b := ⟨_, rfl⟩
  have e5 : ((strB s).toList == [97, 115]) = b5 := by rw [strB_toL', ← h5, Bool.eq_iff_iff]; simp
  have HV : Hid (decide (s ∈ wordsW) = (b0 || b1 || b2 || b3 || b4 || b5)) := hid (by
    rw [← h0, ← h1, ← h2, ← h3, ← h4, ← h5]
    unfold wordsW
    rw [Bool.eq_iff_iff]
    simp [or_assoc])
  clear h0 h1 h2 h3 h4 h5
  go_enter Tryz.func78, Tryz.ntmps78
  cases b0 with
  | true =>
    go_wp2_with fail
    exact bodyPost_ret (results_tmp rfl _ _ _) rfl ⟨by rw [HV.out]; rfl, rfl⟩
  | false =>
    cases b1 with
    | true =>
      go_wp2_with fail
      exact bodyPost_ret (results_tmp rfl _ _ _) rfl ⟨by rw [HV.out]; rfl, rfl⟩
    | false =>
      cases b2 with
      | true =>
        go_wp2_with fail
        exact bodyPost_ret (results_tmp rfl _ _ _) rfl ⟨by rw [HV.out]; rfl, rfl⟩
      | false =>
        cases b3 with
        | true =>
          go_wp2_with fail
          exact bodyPost_ret (results_tmp rfl _ _ _) rfl ⟨by rw [HV.out]; rfl, rfl⟩
        | false =>
          cases b4 with
          | true =>
            go_wp2_with fail
            exact bodyPost_ret (results_tmp rfl _ _ _) rfl ⟨by rw [HV.out]; rfl, rfl⟩
          | false =>
            cases b5 with
            | true =>
              go_wp2_with fail
              exact bodyPost_ret (results_tmp rfl _ _ _) rfl ⟨by rw [HV.out]; rfl, rfl⟩
            | false =>
              go_wp2_with fail
              exact bodyPost_ret (results_tmp rfl _ _ _) rfl ⟨by rw [HV.out]; rfl, rfl⟩
end Go.Proofs.YtgajofkeidjbgaaGreatDoor
namespace Go.Proofs.YtgajofkeidjbgaaGreatDoor
set_option linter.unusedSimpArgs false
set_option linter.unusedVariables false
open Go.RowKit

theorem rletter_any (c : UInt8) (w : World) : Calls Tryz.prog 41 #[.int .u8 (c.toNat : Int)] w fun e w' => e = .returned (.bool (letterB c)) ∧ w' = w := by
  go_enter Tryz.func41, Tryz.ntmps41
  unfold letterB
  generalize c.toNat = n
  by_cases h2 : 97 ≤ n
  · have h2' : (97 : Int) ≤ n := by omega
    by_cases h3 : n ≤ 122
    · have h3' : (n : Int) ≤ 122 := by omega
      go_wp2_with fail
      go_ret
      exact ⟨ret_bool (by simp [h2, h3]), rfl⟩
    · have h3' : ¬ (n : Int) ≤ 122 := by omega
      have h4' : (65 : Int) ≤ n := by omega
      have h5' : ¬ (n : Int) ≤ 90 := by omega
      have h1' : ((n : Int) == 95) = false := by simp; omega
      have h1b : (n == 95) = false := by simp; omega
      go_wp2_with fail
      go_ret
      exact ⟨ret_bool (by simp [h1b, h2, h3]; omega), rfl⟩
  · have h2' : ¬ (97 : Int) ≤ n := by omega
    by_cases h3 : 65 ≤ n
    · have h3' : (65 : Int) ≤ n := by omega
      by_cases h4 : n ≤ 90
      · have h4' : (n : Int) ≤ 90 := by omega
        go_wp2_with fail
        go_ret
        exact ⟨ret_bool (by simp [h2, h3, h4]), rfl⟩
      · have h4' : ¬ (n : Int) ≤ 90 := by omega
        obtain ⟨b, hb⟩ : ∃ b, ((n : Int) == 95) = b := ⟨_, rfl⟩
        have hbb : (n == 95) = b := by rw [← hb, Bool.eq_iff_iff]; simp; omega
        go_wp2_with fail
        go_ret
        exact ⟨ret_bool (by simp [h2, h3, h4, hbb]), rfl⟩
    · have h3' : ¬ (65 : Int) ≤ n := by omega
      have h1' : ((n : Int) == 95) = false := by simp; omega
      have h1b : (n == 95) = false := by simp; omega
      go_wp2_with fail
      go_ret
      exact ⟨ret_bool (by simp [h1b, h2, h3]), rfl⟩
theorem rdigit_any (c : UInt8) (w : World) : Calls Tryz.prog 42 #[.int .u8 (c.toNat : Int)] w fun e w' => e = .returned (.bool (digitB c)) ∧ w' = w := by
  go_enter Tryz.func42, Tryz.ntmps42
  unfold digitB
  generalize c.toNat = n
  by_cases h1 : 48 ≤ n
  · have h1' : (48 : Int) ≤ n := by omega
    by_cases h2 : n ≤ 57
    · have h2' : (n : Int) ≤ 57 := by omega
      go_wp2_with fail
      go_ret
      exact ⟨by simp [h1, h2], rfl⟩
    · have h2' : ¬ (n : Int) ≤ 57 := by omega
      go_wp2_with fail
      go_ret
      exact ⟨by simp [h1, h2], rfl⟩
  · have h1' : ¬ (48 : Int) ≤ n := by omega
    go_wp2_with fail
    go_ret
    exact ⟨by simp [h1], rfl⟩
theorem rsigns_any (w : World) : Calls Tryz.prog 43 #[] w fun e w' => ∃ b, e = .returned (.slice (some ⟨b, 0, none⟩) 15 15) ∧ StrsAt w' b 0 signsW ∧ Later w w' := by
  go_enter Tryz.func43, Tryz.ntmps43
  go_wp2_with fail
  refine bodyPost_ret (results_tmp rfl _ _ _) rfl ⟨w.heap.size, rfl, strs_new w signsW _ _ rfl, Later.alloc _ _⟩
/-- the document's token in a variable. -/
def RTokObj (w : World) (K : Nat) (k : UInt8) (t : List UInt8) (j : Nat) : Prop := w.heap[K]? = some (.cells #[.int .u8 (k.toNat : Int), .string (strB t), .int .i64 (j : Int)] 71 (0, 0))
theorem rtokElem : ElemInfo Tryz.prog 71 3 32 := ElemInfo.of (z := .agg #[.int .u8 0, .string ⟨#[]⟩, .int .i64 0]) (by kernel_rfl) rfl (by decide)
/-- what Tokens answers. -/
def RLexTo (w : World) (s : List UInt8) (e : Ending) (w' : World) : Prop :=
  Later w w' ∧ match lexX s.length 0 s with
    | .error p => e = .returned (.tuple #[.slice none 0 0, .int .i64 (p : Int)])
    | .ok l => ∃ v, e = .returned (.tuple #[v, .int .i64 (-1)]) ∧ w'.ownsRow w.heap.size 71 3 v l.length (tokCells (l.map Tok.d))
end Go.Proofs.YtgajofkeidjbgaaGreatDoor
