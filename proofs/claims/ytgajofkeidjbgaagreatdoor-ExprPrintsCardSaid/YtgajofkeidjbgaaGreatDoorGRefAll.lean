/-
  PROVED HERE: the contract of the document's Parse: every text is read as the plain parser (the document's) reads it.
  PROVED HERE: the document's tokens, its small parts: letter, digit, signs.
-/
import Derived.Test.YtgajofkeidjbgaaGreatDoorRefP6
import Derived.Test.YtgajofkeidjbgaaGreatDoorGParText
import Derived.Test.YtgajofkeidjbgaaGreatDoorRefP2
namespace Go.Proofs.YtgajofkeidjbgaaGreatDoor
set_option linter.unusedSimpArgs false
set_option linter.unusedVariables false
open Go.RowKit

theorem reading_all (R : Nat) (K : Row3) (L : List Tok) (hL : L.length ≤ 1048576) : ∀ (n i : Nat), L.length - i ≤ n → EndL (L.drop i) → ∀ (d : Nat) (w : World), RAt w R K L i d 0 0 → d ≤ 12 →
    Calls Tryz.prog 46 #[.pointer (some ⟨R, 0, none⟩)] w (ROut w R K L i d (Par false .un d (L.drop i))) ∧
    ∀ q : Nat, q ≤ 10 → Calls Tryz.prog 22 #[.pointer (some ⟨R, 0, none⟩), .int .i64 (q : Int)] w (ROut w R K L i d (Par false (.climb q) d (L.drop i)))
  | 0, i, hn, hE => absurd (List.drop_eq_nil_of_le (by omega)) hE.2.1
  | n + 1, i, hn, hE => by
    have ih := reading_all R K L hL n
    have hi : i < L.length := by
      rcases Nat.lt_or_ge i L.length with h | h
      · exact h
      · exact absurd (List.drop_eq_nil_of_le h) hE.2.1
    have hF : ∀ (d : Nat) (w : World), RAt w R K L i d 0 0 → d ≤ 12 → Calls Tryz.prog 46 #[.pointer (some ⟨R, 0, none⟩)] w (ROut w R K L i d (Par false .un d (L.drop i))) := fun d w h hd =>
      rfirst_any R K L i d w h hE hd hL (fun i' d' w1 _ hlt h1 hE1 hd1 => (ih i' (by omega) hE1 d' w1 h1 hd1).1) (fun q' i' d' w1 hq _ hlt h1 hE1 hd1 => (ih i' (by omega) hE1 d' w1 h1 hd1).2 q' hq)
    intro d w h hd
    exact ⟨hF d w h hd, fun q hq => rclimb_any R K L i d q w h hE hd hL hq (fun w1 _ h1 => hF d w1 h1 hd) (fun q' i' d' w1 hq' _ hlt h1 hE1 hd1 => (ih i' (by omega) hE1 d' w1 h1 hd1).2 q' hq')⟩
/-- a row of tokens of one's own, as the reading has it. -/
theorem rtoks_own {w : World} {B : Nat} {v : Value} {l : List Tok} (h : w.ownsRow B 71 3 v l.length (tokCells (l.map Tok.d))) (hl : l ≠ []) : ∃ g c, v = .slice (some ⟨g, 0, none⟩) l.length c ∧ g < w.heap.size ∧ ∀ j (hj : j < l.length), TokAt w g (0 + j * 3) l[j].d := by
  rcases h.2 with ⟨hv, h0⟩ | ⟨g, cap, cur, hv, hb, hg, hnc, hcm, hcs, htake⟩
  · exact absurd (List.eq_nil_of_length_eq_zero h0) hl
  · have hc := h.cells (g := g) (by rw [hv]; rfl)
    refine ⟨g, cap, hv, obj_lt hg, fun i hi => ?_⟩
    have hi' : i < (l.map Tok.d).length := by rw [List.length_map]; exact hi
    have hgi : (l.map Tok.d)[i] = l[i].d := by rw [List.getElem_map]
    have at_ : ∀ c u, c < 3 → (l[i].d.cells)[c]? = some u → w.cell? ⟨g, 0 + i * 3 + c, none⟩ = some u := fun c u h3 hu => by
      have := hc (i * 3 + c) u (by rw [tokCells_at (l.map Tok.d) i hi' c h3, hgi]; exact hu)
      rw [add_none rfl] at this
      rw [Nat.zero_add]
      simpa using this
    exact ⟨at_ 0 _ (by omega) rfl, at_ 1 _ (by omega) rfl, at_ 2 _ (by omega) rfl⟩
end Go.Proofs.YtgajofkeidjbgaaGreatDoor
namespace Go.Proofs.YtgajofkeidjbgaaGreatDoor
set_option linter.unusedSimpArgs false
set_option linter.unusedVariables false
open Go.RowKit

theorem rletter_any (c : UInt8) (w : World) : Calls Tryz.prog 41 #[.int .u8 (c.toNat : Int)] w fun e w' => e = .returned (.bool (letterB c)) ∧ w' = w := by
  go_enter Tryz.func41, Tryz.ntmps41
  unfold letterB
  generalize c.toNat = n
  by_cases h2 : 97 ≤ n
  · have h2' : (97 : Int) ≤ n := by omega
    by_cases h3 : n ≤ 122
    · have h3' : (n : Int) ≤ 122 := by omega
      go_wp2_with fail
      go_ret
      exact ⟨ret_bool (by simp [h2, h3]), rfl⟩
    · have h3' : ¬ (n : Int) ≤ 122 := by omega
      have h4' : (65 : Int) ≤ n := by omega
      have h5' : ¬ (n : Int) ≤ 90 := by omega
      have h1' : ((n : Int) == 95) = false := by simp; omega
      have h1b : (n == 95) = false := by simp; omega
      go_wp2_with fail
      go_ret
      exact ⟨ret_bool (by simp [h1b, h2, h3]; omega), rfl⟩
  · have h2' : ¬ (97 : Int) ≤ n := by omega
    by_cases h3 : 65 ≤ n
    · have h3' : (65 : Int) ≤ n := by omega
      by_cases h4 : n ≤ 90
      · have h4' : (n : Int) ≤ 90 := by omega
        go_wp2_with fail
        go_ret
        exact ⟨ret_bool (by simp [h2, h3, h4]), rfl⟩
      · have h4' : ¬ (n : Int) ≤ 90 := by omega
        obtain ⟨b, hb⟩ : ∃ b, ((n : Int) == 95) = b := ⟨_, rfl⟩
        have hbb : (n == 95) = b := by rw [← hb, Bool.eq_iff_iff]; simp; omega
        go_wp2_with fail
        go_ret
        exact ⟨ret_bool (by simp [h2, h3, h4, hbb]), rfl⟩
    · have h3' : ¬ (65 : Int) ≤ n := by omega
      have h1' : ((n : Int) == 95) = false := by simp; omega
      have h1b : (n == 95) = false := by simp; omega
      go_wp2_with fail
      go_ret
      exact ⟨ret_bool (by simp [h1b, h2, h3]), rfl⟩
theorem rdigit_any (c : UInt8) (w : World) : Calls Tryz.prog 42 #[.int .u8 (c.toNat : Int)] w fun e w' => e = .returned (.bool (digitB c)) ∧ w' = w := by
  go_enter Tryz.func42, Tryz.ntmps42
  unfold digitB
  generalize c.toNat = n
  by_cases h1 : 48 ≤ n
  · have h1' : (48 : Int) ≤ n := by omega
    by_cases h2 : n ≤ 57
    · have h2' : (n : Int) ≤ 57 := by omega
      go_wp2_with fail
      go_ret
      exact ⟨by simp [h1, h2], rfl⟩
    · have h2' : ¬ (n : Int) ≤ 57 := by omega
      go_wp2_with fail
      go_ret
      exact ⟨by simp [h1, h2], rfl⟩
  · have h1' : ¬ (48 : Int) ≤ n := by omega
    go_wp2_with fail
    go_ret
    exact ⟨by simp [h1], rfl⟩
theorem rsigns_any (w : World) : Calls Tryz.prog 43 #[] w fun e w' => ∃ b, e = .returned (.slice (some ⟨b, 0, none⟩) 15 15) ∧ StrsAt w' b 0 signsW ∧ Later w w' := by
  go_enter Tryz.func43, Tryz.ntmps43
  go_wp2_with fail
  refine bodyPost_ret (results_tmp rfl _ _ _) rfl ⟨w.heap.size, rfl, strs_new w signsW _ _ rfl, Later.alloc _ _⟩
/-- the document's token in a variable. -/
def RTokObj (w : World) (K : Nat) (k : UInt8) (t : List UInt8) (j : Nat) : Prop := w.heap[K]? = some (.cells #[.int .u8 (k.toNat : Int), .string (strB t), .int .i64 (j : Int)] 71 (0, 0))
theorem rtokElem : ElemInfo Tryz.prog 71 3 32 := ElemInfo.of (z := .agg #[.int .u8 0, .string ⟨#[]⟩, .int .i64 0]) (by kernel_rfl) rfl (by decide)
/-- what Tokens answers. -/
def RLexTo (w : World) (s : List UInt8) (e : Ending) (w' : World) : Prop :=
  Later w w' ∧ match lexX s.length 0 s with
    | .error p => e = .returned (.tuple #[.slice none 0 0, .int .i64 (p : Int)])
    | .ok l => ∃ v, e = .returned (.tuple #[v, .int .i64 (-1)]) ∧ w'.ownsRow w.heap.size 71 3 v l.length (tokCells (l.map Tok.d))
end Go.Proofs.YtgajofkeidjbgaaGreatDoor
