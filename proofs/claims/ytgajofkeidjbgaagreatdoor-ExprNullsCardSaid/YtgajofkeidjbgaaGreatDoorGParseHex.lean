/-
  PROVED HERE: the contract of strconv.ParseUint at base 16, 8 bits, of at most two bytes.
  PROVED HERE: the contracts of strconv.ParseUint at base 16, 8 bits, of at most two bytes, and of value.Unquote.
-/
import Derived.Test.YtgajofkeidjbgaaGreatDoorGShow
import Derived.Test.YtgajofkeidjbgaaGreatDoorShelf2
import Derived.Test.YtgajofkeidjbgaaGreatDoorGLexS
namespace Go.Proofs.YtgajofkeidjbgaaGreatDoor
set_option linter.unusedSimpArgs false
set_option linter.unusedVariables false
open Go.RowKit

def hexN (a : Nat) : List UInt8 → Option Nat
  | [] => some a
  | c :: r => match hexP c with
    | some d => hexN (16 * a + d) r
    | none => none
def hexW (l : List UInt8) : Option Nat := if l = [] then none else hexN 0 l
theorem low_cases : ∀ m : Fin 256, ¬ (48 ≤ m.1 ∧ m.1 ≤ 57) → (97 ≤ bits BinOp.or IntKind.u8 ((m.1 : Nat) : Int) 32 ∧ bits BinOp.or IntKind.u8 ((m.1 : Nat) : Int) 32 ≤ 102 ∧ hexP (UInt8.ofNat m.1) = some ((bits BinOp.or IntKind.u8 ((m.1 : Nat) : Int) 32).toNat - 87)) ∨ (103 ≤ bits BinOp.or IntKind.u8 ((m.1 : Nat) : Int) 32 ∧ bits BinOp.or IntKind.u8 ((m.1 : Nat) : Int) 32 ≤ 122 ∧ hexP (UInt8.ofNat m.1) = none) ∨ (bits BinOp.or IntKind.u8 ((m.1 : Nat) : Int) 32 < 97 ∧ hexP (UInt8.ofNat m.1) = none) ∨ (97 ≤ bits BinOp.or IntKind.u8 ((m.1 : Nat) : Int) 32 ∧ 122 < bits BinOp.or IntKind.u8 ((m.1 : Nat) : Int) 32 ∧ hexP (UInt8.ofNat m.1) = none) := by decide +kernel
theorem hexP_lt {c : UInt8} {d : Nat} (h : hexP c = some d) : d < 16 := by
  unfold hexP at h
  split at h
  · injection h; omega
  split at h
  · injection h; omega
  split at h
  · injection h; omega
  · cases h
def synE : Value := .iface 231 (.int .i64 2)
def HexTo (w : World) (l : List UInt8) (e : Ending) (w' : World) : Prop := e = .returned (.tuple #[.int .u64 (((hexW l).getD 0 : Nat) : Int), if (hexW l).isSome = true then .nilIface else synE]) ∧ Later w w'
theorem hex_none {w w' : World} {l : List UInt8} (h : hexW l = none) (hL : Later w w') : HexTo w l (.returned (.tuple #[.int .u64 0, synE])) w' := ⟨by rw [h]; rfl, hL⟩
theorem hex_some {w w' : World} {l : List UInt8} {n : Nat} (h : hexW l = some n) (hL : Later w w') : HexTo w l (.returned (.tuple #[.int .u64 (n : Int), .nilIface])) w' := ⟨by rw [h]; rfl, hL⟩
theorem lower_m {m v : Int} (w : World) (h : v = bits BinOp.or IntKind.u8 m 32) : Calls Tryz.prog 152 #[.int .u8 m] w fun e w' => e = .returned (.int .u8 v) ∧ w' = w := by rw [h]; exact Tryz.internal_strconv_lower m w
set_option maxRecDepth 100000 in
set_option maxHeartbeats 4000000 in
theorem parse_hex_in (s : ByteArray) (w : World) (hs : s.size ≤ 2) : Calls Tryz.prog 145 #[.string s, .int .i64 16, .int .i64 8] w (HexTo w s.data.toList) := by
  obtain ⟨l, hl⟩ : ∃ l, l = s.data.toList := ⟨_, rfl⟩
  have hsl : l.length = s.size := by rw [hl]; rfl
  rw [← hl]
  have HLD := hid hl
  by_cases h0 : s.size = 0
  · have hl0 : l = [] := List.eq_nil_of_length_eq_zero (by omega)
    have hs0 : s = ByteArray.empty := by
      cases s
      rename_i d
      congr 1
      exact Array.toList_eq_nil_iff.1 (by rw [← hl0, hl])
    clear hl hsl h0 hs HLD
    subst hl0 hs0
    go_enter Tryz.func145, Tryz.ntmps145
    go_wp2_with fail
    go_ret2
    exact hex_none rfl (Later.refl _)
  have hemp : s.toList.isEmpty = false := by
    rw [← decide_eq_emptyBytes]
    exact decide_eq_false (fun h => h0 (by rw [h]; rfl))
  clear hl
  go_enter Tryz.func145, Tryz.ntmps145
  go_wp2_with (refine wpList_bytes_of rfl _ 9 55 5 rfl Tryz.underlying9 Tryz.underlying55 Tryz.underlying5 s rfl ?_)
  intro c w2 hL2 hz2 hcell
  obtain ⟨B, hB⟩ : ∃ B, B = w.heap.size := ⟨_, rfl⟩
  rw [← hB] at hcell ⊢
  have HC : Hid (∀ k (hk : k < l.length), w2.cell? ⟨B, k, none⟩ = some (.int .u8 ((l[k]).toNat : Int))) := hid (by have h := HLD.out; subst h; exact hcell)
  have HL2 := hid hL2
  clear hcell hL2 hz2 hB
  obtain ⟨z, hz⟩ : ∃ z, z = s.size := ⟨_, rfl⟩
  rw [← hz] at hs h0 hsl ⊢
  clear hz
  have HSL := hid hsl
  clear hsl hemp
  go_wp2_with fail
  obtain ⟨R1, hR1⟩ : ∃ RR_ : (Nat → Value) → World → Prop, RR_ = (fun us wx => ∃ (k a : Nat) (i : Int), k ≤ l.length ∧ us 101 = .int .i64 k ∧ us 12 = .bool false ∧ us 13 = .int .u64 i ∧ wx = w2 ∧ Hid (i = (a : Int) ∧ a < 16 ^ k ∧ hexW l = hexN a (l.drop k))) := ⟨_, rfl⟩
  obtain ⟨mu1, hmu1⟩ : ∃ mu : (Nat → Value) → World → Nat, mu = (fun us _ => l.length - (intOf (us 101)).toNat) := ⟨_, rfl⟩
  have HR1 := hid hR1; have Hmu1 := hid hmu1; clear hR1 hmu1
  refine wp_loop_frame' [false, false, false, false, false, false, true, true, false, false, false, false, true, true, false, true, true, true, false, false, false, false, false, false, false, false, false, false, false, false, false, false, false, false, false, false, false, false, false, false, false, false, false, false, false, false, false, false, false, false, false, false, false, false, false, false, false, false, false, false, false, false, false, false, false, false, false, false, false, false, false, false, false, false, false, false, false, false, false, false, false, false, false, false, false, false, false, false, false, false, false, false, false, false, false, false, false, false, false, false, false, true, true, true, true, true, true, true, true, true, true, true, true, true, true, true, true, true, true, true, true, true, true, true, true, true, true, true, true, true, true, true, true, true, true, true, true, true, true, true, true, true, true, true, true, true, true, true, true, true, true, true, true, true, true, true, true, true, true, true, true, true, true, true] R1 _ mu1 HR1.out ?_ ?_
  · exact ⟨0, 0, 0, Nat.zero_le _, rfl, rfl, rfl, rfl, hid ⟨rfl, by decide, by unfold hexW; rw [if_neg (fun e => h0 (by rw [← HSL.out, e]; rfl))]; rfl⟩⟩
  intro us1 wx hrel
  obtain ⟨k, a, i, hk, h101, h12, h13, rfl, hI⟩ := hrel
  simp only [frameOf, Nat.reduceAdd, h101, h12, h13]
  have Hh101 := hid h101; clear h101
  have Hh12 := hid h12; clear h12
  have Hh13 := hid h13; clear h13
  have HI := hid hI.out
  by_cases hlt : k < z
  · have q0 := HC.out k (by have := HSL.out; omega)
    have hin : k < l.length := by have := HSL.out; omega
    have HX : Hid (hexN a (l.drop k) = match hexP (l[k]'hin) with | some d => hexN (16 * a + d) (l.drop (k + 1)) | none => none) := hid (by rw [List.drop_eq_getElem_cons hin]; rfl)
    generalize l[k]'hin = ch at *
    obtain ⟨m, hm⟩ : ∃ m, m = ch.toNat := ⟨_, rfl⟩
    have hm8 : m < 256 := by rw [hm]; exact ch.toNat_lt
    have HM := hid hm
    rw [← hm] at q0
    clear hm
    have hi0 : 0 ≤ i := by have := hI.out.1; omega
    have hi1 : i ≤ 15 := by
      have h1 := hI.out.1
      have h2 := hI.out.2.1
      have h3 : (16 : Nat) ^ k ≤ 16 ^ 1 := Nat.pow_le_pow_right (by omega) (by omega)
      omega
    clear hI
    have hkk : (0 : Int) ≤ k := by omega
    have HK : Hid (16 ^ (k + 1) = 16 ^ k * 16) := hid (Nat.pow_succ _ _)
    have hch : ch = UInt8.ofNat m := by rw [HM.out]; exact (UInt8.ofNat_toNat).symm
    have HCH := hid hch
    clear hch
    by_cases hd : 48 ≤ m ∧ m ≤ 57
    · have HP : Hid (hexP ch = some (m - 48)) := hid (by unfold hexP; rw [← HM.out, if_pos hd])
      obtain ⟨hd0, hd1⟩ := hd
      go_wp2_with fail
      refine Round.mk' HR1.out Hmu1.out rfl ?_ ?_
      · refine ⟨k + 1, 16 * a + (m - 48), i * 16 + ((m : Int) - 48), by omega, by go_num, rfl, rfl, rfl, hid ⟨?_, ?_, ?_⟩⟩
        · have := HI.out.1; omega
        · have := HI.out.2.1; have := HK.out; omega
        · rw [HI.out.2.2, HX.out, HP.out]
      · rw [Hh101.out]; simp [intOf, slots]; omega
    · obtain ⟨v, hv⟩ : ∃ v, v = bits BinOp.or IntKind.u8 (m : Int) 32 := ⟨_, rfl⟩
      have HV := hid hv
      have hcs := low_cases ⟨m, hm8⟩ hd
      simp only [← hv] at hcs
      clear hv
      by_cases h95 : (m : Int) = 95
      · have h95' : m = 95 := by omega
        have HP : Hid (hexW l = none) := hid (by rw [HI.out.2.2, HX.out, HCH.out, h95']; rfl)
        subst h95'
        have HV1 : Hid ((127 : Int) = bits BinOp.or IntKind.u8 ((95 : Nat) : Int) 32) := hid (by decide)
        clear hcs h95 HV HM
        go_wp2_with fail
        refine (lower_m _ HV1.out).mono ?_
        rintro e w3 ⟨rfl, rfl⟩
        go_wp2_with fail
        refine (lower_m _ HV1.out).mono ?_
        rintro e w3 ⟨rfl, rfl⟩
        go_wp2_with fail
        go_ret2
        exact hex_none HP.out HL2.out
      rcases hcs with ⟨hv0, hv1, hp⟩ | ⟨hv0, hv1, hp⟩ | ⟨hv0, hp⟩ | ⟨hv0, hv1, hp⟩
      · have HP : Hid (hexP ch = some (v.toNat - 87)) := hid (by rw [HCH.out]; exact hp)
        clear hp
        rcases (show (m : Int) < 48 ∨ 57 < (m : Int) by omega) with h4 | h4
        all_goals
          go_wp2_with fail
          refine (lower_m _ HV.out).mono ?_
          rintro e w3 ⟨rfl, rfl⟩
          go_wp2_with fail
          refine (lower_m _ HV.out).mono ?_
          rintro e w3 ⟨rfl, rfl⟩
          go_wp2_with fail
          refine (lower_m _ HV.out).mono ?_
          rintro e w3 ⟨rfl, rfl⟩
          go_wp2_with fail
          refine Round.mk' HR1.out Hmu1.out rfl ?_ ?_
          · refine ⟨k + 1, 16 * a + (v.toNat - 87), i * 16 + (v - 97 + 10), by omega, by go_num, rfl, rfl, rfl, hid ⟨?_, ?_, ?_⟩⟩
            · have := HI.out.1; omega
            · have := HI.out.2.1; have := HK.out; omega
            · rw [HI.out.2.2, HX.out, HP.out]
          · rw [Hh101.out]; simp [intOf, slots]; omega
      · have HP : Hid (hexW l = none) := hid (by rw [HI.out.2.2, HX.out, HCH.out, hp])
        clear hp
        rcases (show (m : Int) < 48 ∨ 57 < (m : Int) by omega) with h4 | h4
        all_goals
          go_wp2_with fail
          refine (lower_m _ HV.out).mono ?_
          rintro e w3 ⟨rfl, rfl⟩
          go_wp2_with fail
          refine (lower_m _ HV.out).mono ?_
          rintro e w3 ⟨rfl, rfl⟩
          go_wp2_with fail
          refine (lower_m _ HV.out).mono ?_
          rintro e w3 ⟨rfl, rfl⟩
          go_wp2_with fail
          go_ret2
          exact hex_none HP.out HL2.out
      · have HP : Hid (hexW l = none) := hid (by rw [HI.out.2.2, HX.out, HCH.out, hp])
        clear hp
        rcases (show (m : Int) < 48 ∨ 57 < (m : Int) by omega) with h4 | h4
        all_goals
          go_wp2_with fail
          refine (lower_m _ HV.out).mono ?_
          rintro e w3 ⟨rfl, rfl⟩
          go_wp2_with fail
          go_ret2
          exact hex_none HP.out HL2.out
      · have HP : Hid (hexW l = none) := hid (by rw [HI.out.2.2, HX.out, HCH.out, hp])
        clear hp
        rcases (show (m : Int) < 48 ∨ 57 < (m : Int) by omega) with h4 | h4
        all_goals
          go_wp2_with fail
          refine (lower_m _ HV.out).mono ?_
          rintro e w3 ⟨rfl, rfl⟩
          go_wp2_with fail
          refine (lower_m _ HV.out).mono ?_
          rintro e w3 ⟨rfl, rfl⟩
          go_wp2_with fail
          go_ret2
          exact hex_none HP.out HL2.out
  · obtain rfl : k = z := by have := HSL.out; omega
    have HL : Hid (l.drop k = []) := hid (List.drop_eq_nil_of_le (Nat.le_of_eq HSL.out))
    go_wp2_with fail
    go_ret2
    obtain ⟨rfl, h2, h3⟩ := HI.out
    exact hex_some (by rw [h3, HL.out]; rfl) HL2.out
end Go.Proofs.YtgajofkeidjbgaaGreatDoor
namespace Go.Proofs.YtgajofkeidjbgaaGreatDoor
set_option linter.unusedSimpArgs false
set_option linter.unusedVariables false
open Go.RowKit

/-- the library's two errors lie in their variables. -/
def ErrVars (w : World) : Prop := (∃ t p, w.cell? ⟨4, 0, none⟩ = some (.iface t p)) ∧ ∃ t p, w.cell? ⟨5, 0, none⟩ = some (.iface t p)
theorem ErrVars.later {w w' : World} (h : ErrVars w) (k : Later w w') : ErrVars w' := by
  obtain ⟨⟨t, p, h1⟩, t', p', h2⟩ := h
  exact ⟨⟨t, p, k.cell h1⟩, t', p', k.cell h2⟩
def numE (N : Nat) : Value := .iface 232 (.pointer (some ⟨N, 0, none⟩))
def PuTo (w : World) (l : List UInt8) (e : Ending) (w' : World) : Prop :=
  Later w w' ∧ ((∃ k, hexW l = some k ∧ e = .returned (.tuple #[.int .u64 (k : Int), .nilIface])) ∨ (hexW l = none ∧ ∃ N, e = .returned (.tuple #[.int .u64 0, numE N])))
set_option maxRecDepth 100000 in
theorem parse_hex (s : ByteArray) (w : World) (hs : s.size ≤ 2) (hE : ErrVars w) : Calls Tryz.prog 140 #[.string s, .int .i64 16, .int .i64 8] w (PuTo w s.data.toList) := by
  have HS := hid hs; have HE := hid hE
  clear hs hE
  go_enter Tryz.func140, Tryz.ntmps140
  go_wp2_with fail
  refine (parse_hex_in s _ HS.out).mono ?_
  rintro e w1 ⟨rfl, hL1⟩
  have HL1 := hid hL1
  clear hL1
  cases hx : hexW s.data.toList with
  | some k =>
    have HX := hid hx
    clear hx
    simp only [Option.getD_some, Option.isSome_some, if_true]
    go_wp2_with fail
    go_ret2
    exact ⟨HL1.out, .inl ⟨k, HX.out, rfl⟩⟩
  | none =>
    have HX := hid hx
    clear hx
    simp only [Option.getD_none, Option.isSome_none, Bool.false_eq_true, if_false]
    unfold synE
    obtain ⟨⟨t, p, hv⟩, -⟩ := HE.out.later HL1.out
    have HV := hid hv
    clear hv
    go_wp2_with fail
    refine (Tryz.strconv_toError_syntax _ s 16 8 (.iface t p) _ (by have := HS.out; omega) HV.out (.inr ⟨t, p, rfl⟩)).mono ?_
    rintro e w2 ⟨N, rfl, -, -, hB⟩
    have HL2 := hid (Later.trans _ _ _ HL1.out (show Later w1 w2 from hB))
    clear hB
    go_wp2_with fail
    go_ret2
    exact ⟨HL2.out, .inr ⟨HX.out, N, rfl⟩⟩

def strLen : Value → Nat
  | .string s => s.size
  | _ => 0
theorem strB_cut (l : List UInt8) (a b : Nat) : (strB l).extract a b = strB ((l.drop a).take (b - a)) := by
  apply ByteArray.ext
  rw [ByteArray.data_extract]
  unfold strB
  simp [List.extract_toArray, List.extract_eq_take_drop]
theorem run_idx0 (w : World) (c : UInt8) (r : List UInt8) : (Go.Instr.index 9 (.string (strB (c :: r))) (.int .i64 0)).run Tryz.prog w = .ok (.int .u8 (c.toNat : Int)) w := by
  rw [run_index_string _ _ _ _ _ Tryz.underlying9, dif_pos ⟨by omega, by rw [strB_size]; simp only [List.length_cons]; omega⟩]
  rfl
theorem run_cut (w : World) (l : List UInt8) (a b : Nat) (h1 : a ≤ b) (h2 : b ≤ l.length) : (Go.Instr.slice 9 (.string (strB l)) (some (.int .i64 (a : Int))) (some (.int .i64 (b : Int))) none).run Tryz.prog w = .ok (.string (strB ((l.drop a).take (b - a)))) w := by
  rw [run_slice_string_if _ _ _ _ _ _ _ Tryz.underlying9, if_pos ⟨by omega, by rw [strB_size]; omega⟩, if_pos ⟨by omega, by omega⟩]
  rw [Int.toNat_natCast, Int.toNat_natCast, strB_cut]
theorem run_rest (w : World) (l : List UInt8) (a : Nat) (h : a ≤ l.length) : (Go.Instr.slice 9 (.string (strB l)) (some (.int .i64 (a : Int))) none none).run Tryz.prog w = .ok (.string (strB (l.drop a))) w := by
  rw [run_slice_string_l w 9 (strB l) Tryz.underlying9 .i64 a (by omega) (by rw [strB_size]; omega), Int.toNat_natCast, strB_cut, strB_size]
  rw [List.take_of_length_le (by simp)]
theorem unqG_len (hv : UInt8 → Option Nat) : ∀ l : List UInt8, (unqG hv l).length ≤ l.length := by
  intro l
  induction h : l.length using Nat.strongRecOn generalizing l with
  | ind n ih =>
    match l with
    | [] => simp [unqG]
    | [c] => simp [unqG] at h ⊢; omega
    | [c, a] => simp [unqG] at h ⊢; omega
    | c :: a :: b :: r =>
      simp only [List.length_cons] at h
      have h1 := ih (a :: b :: r).length (by simp only [List.length_cons]; omega) _ rfl
      have h2 := ih r.length (by omega) _ rfl
      rw [unqG]
      split
      · split
        · simp only [List.length_cons]; omega
        · simp only [List.length_cons] at h1 ⊢; omega
      · simp only [List.length_cons] at h1 ⊢; omega

theorem hex_two {a b : UInt8} {k : Nat} (h : hexW [a, b] = some k) : ∃ x y, hexP a = some x ∧ hexP b = some y ∧ k = 16 * x + y ∧ k < 256 := by
  unfold hexW at h
  rw [if_neg (by simp)] at h
  simp only [hexN] at h
  cases hx : hexP a with
  | none => rw [hx] at h; cases h
  | some x =>
    rw [hx] at h
    cases hy : hexP b with
    | none => rw [hy] at h; cases h
    | some y =>
      rw [hy] at h
      have h1 := hexP_lt hx
      have h2 := hexP_lt hy
      simp only [Option.some.injEq] at h
      exact ⟨x, y, rfl, rfl, by omega, by omega⟩
theorem hex_two_none {a b : UInt8} (h : hexW [a, b] = none) : hexP a = none ∨ hexP b = none := by
  unfold hexW at h
  rw [if_neg (by simp)] at h
  simp only [hexN] at h
  cases hx : hexP a with
  | none => exact .inl rfl
  | some x =>
    rw [hx] at h
    cases hy : hexP b with
    | none => exact .inr rfl
    | some y => rw [hy] at h; cases h
theorem unq_hex {c : UInt8} {r1 : List UInt8} {k : Nat} (hc : c = 92) (h3 : 2 ≤ r1.length) (h : hexW (r1.take 2) = some k) : k < 256 ∧ unqG hexP (c :: r1) = UInt8.ofNat k :: unqG hexP ((c :: r1).drop 3) := by
  match r1 with
  | [] => simp at h3
  | [_] => simp at h3
  | a :: b :: r =>
    obtain ⟨x, y, hx, hy, hk, hl⟩ := hex_two (show hexW [a, b] = some k from h)
    subst hc hk
    exact ⟨hl, unqG_hex hexP a b r hx hy⟩
theorem unq_one {c : UInt8} {r1 : List UInt8} (h : c ≠ 92 ∨ r1.length < 2 ∨ hexW (r1.take 2) = none) : unqG hexP (c :: r1) = c :: unqG hexP ((c :: r1).drop 1) := by
  by_cases hc : c = 92
  · match r1 with
    | [] => simp [unqG]
    | [a] => simp [unqG]
    | a :: b :: r =>
      rcases h with h | h | h
      · exact absurd hc h
      · simp only [List.length_cons] at h; omega
      · rw [unqG, if_pos hc]
        rcases hex_two_none (show hexW [a, b] = none from h) with h1 | h1
        · rw [h1]; rfl
        · rw [h1]; cases hexP a <;> rfl
  · exact unqG_plain hexP c r1 hc

set_option maxRecDepth 100000 in
set_option maxHeartbeats 4000000 in
theorem unquote_any (l : List UInt8) (w : World) (hs : l.length ≤ 140737488351232) (hE : ErrVars w) : Calls Tryz.prog 132 #[.string (strB l)] w (StrTo w (unqG hexP l)) := by
  have HS := hid hs; have HE := hid hE
  have HS0 := hid (strB_size l)
  clear hs hE
  go_enter Tryz.func132, Tryz.ntmps132
  go_wp2_with fail
  obtain ⟨R1, hR1⟩ : ∃ RR_ : (Nat → Value) → World → Prop, RR_ = (fun us wx => ∃ (r done : List UInt8) (v : Value), us 0 = .string (strB r) ∧ us 3 = v ∧ Put 5 w w.heap.size (.slice none 0 0) done v wx ∧ done ++ unqG hexP r = unqG hexP l ∧ done.length + r.length ≤ l.length) := ⟨_, rfl⟩
  obtain ⟨mu1, hmu1⟩ : ∃ mu : (Nat → Value) → World → Nat, mu = (fun us _ => strLen (us 0)) := ⟨_, rfl⟩
  have HR1 := hid hR1; have Hmu1 := hid hmu1; clear hR1 hmu1
  refine wp_loop_frame' [true, false, false, true, true, true, true, true, true, true, true, true, true, true, true, true, true, true, true, true, true, true, true, true, true, true, true, true, true, true, true, true, true, true, true, true, true, true, true, true, true, true, true, true, true] R1 _ mu1 HR1.out ?_ ?_
  · exact ⟨l, [], _, rfl, rfl, Put.refl ⟨rfl, .inl ⟨rfl, rfl⟩⟩, rfl, by simp⟩
  intro us1 wx hrel
  obtain ⟨r, done, v, h0, h3, hP, hd, hl⟩ := hrel
  simp only [frameOf, Nat.reduceAdd, h0, h3]
  have Hh0 := hid h0; clear h0
  have Hh3 := hid h3; clear h3
  have HP := hid hP; have HD := hid hd; have HL := hid hl
  clear hP hd hl
  match r with
  | [] =>
    have hz : (strB []).size = 0 := rfl
    have hstr := (owned_bytes HP.out.own).string (src := 55) (dst := 9) Tryz.underlying55 Tryz.underlying5 Tryz.underlying9
    obtain ⟨a7, c7, rfl⟩ := ownsRow_slice HP.out.own
    have HLW := hid (HP.out.later rfl)
    go_wp2_with fail
    go_ret
    exact ⟨ret_str (by rw [← HD.out]; simp [unqG]), HLW.out⟩
  | c :: r1 =>
    have hz : (strB (c :: r1)).size = r1.length + 1 := strB_size _
    have hix := fun w => run_idx0 w c r1
    have HLW := hid (HP.out.later rfl)
    obtain ⟨m, hm⟩ : ∃ m, m = c.toNat := ⟨_, rfl⟩
    have HM := hid hm
    rw [← hm] at hix
    clear hm
    go_upto_region 4 with (fail)
    obtain ⟨q, hq⟩ : ∃ q : Nat, q = min 3 (r1.length + 1) := ⟨_, rfl⟩
    have hm1 : min (1 : Int) ((r1.length : Int) + 1) = 1 := by omega
    have hm3 : min (3 : Int) ((r1.length : Int) + 1) = (q : Int) := by omega
    have hq1 : (1 : Int) ≤ q := by omega
    have hq2 : (q : Int) ≤ (r1.length : Int) + 1 := by omega
    have hex : (strB (c :: r1)).extract 1 q = strB (r1.take (q - 1)) := by rw [strB_cut]; rfl
    have HQ := hid hq
    clear hq
    have HT : Hid (2 ≤ r1.length → r1.take (q - 1) = r1.take 2) := hid fun h => by have := HQ.out; rw [show q - 1 = 2 by omega]
    go_wp2_with fail
    refine (parse_hex (strB (r1.take (q - 1))) _ (by rw [strB_size, List.length_take]; have := HQ.out; omega) (HE.out.later HLW.out)).mono ?_
    rintro e w2 ⟨hL, ⟨k, hk, rfl⟩ | ⟨hk, N, rfl⟩⟩
    · have HK : Hid (hexW (r1.take (q - 1)) = some k) := hid hk
      have HP2 := hid (HP.out.behind hL)
      clear hk hL hm1 hm3 hex
      by_cases h92 : m = 92
      · subst h92
        have hc : c = 92 := UInt8.toNat_inj.1 (by rw [← HM.out]; rfl)
        by_cases h3 : 2 ≤ r1.length
        · obtain ⟨hk8, hu⟩ := unq_hex hc h3 (by rw [← HT.out h3]; exact HK.out)
          have HU := hid hu
          have hk9 : (3 : Int) ≤ (r1.length : Int) + 1 := by omega
          clear hu hc
          have hre : (strB (c :: r1)).extract 3 (r1.length + 1) = strB ((c :: r1).drop 3) := by rw [strB_cut, List.take_of_length_le (by simp)]
          go_wp2_with (at_builtin; refine wpList_append_obj rfl _ _ 55 rfl 5 1 1 Tryz.underlying55 infoB rfl (owns_later HP2.out.own (Later.alloc _ _)) (news := [.int .u8 (k : Int)]) rfl (obj_at (by simp)) rfl ?c0 ?c1 ?c2 ?c3 ?_)
          case c0 => intro u hu; simp only [List.mem_cons, List.not_mem_nil, or_false] at hu; subst hu; rfl
          case c1 => have := HL.out; have := HS.out; omega
          case c2 => have := HL.out; have := HS.out; unfold maxLen; omega
          case c3 => have := HP2.out.keep.size; simp only [World.size_alloc]; omega
          intro v7 w7 hA7
          have hp7 : Put 5 _ w.heap.size v (done ++ [UInt8.ofNat k]) v7 w7 := Put.of_appended hA7 (by simp) (by simp [byteCells]; omega)
          have HP7 := hid (HP2.out.trans (Put.ahead (Later.alloc _ _) hp7))
          clear hA7 hp7
          go_wp2_with fail
          refine Round.mk' HR1.out Hmu1.out rfl ?_ ?_
          · refine ⟨(c :: r1).drop 3, done ++ [UInt8.ofNat k], v7, rfl, rfl, HP7.out, ?_, ?_⟩
            · rw [List.append_assoc]; exact (congrArg (done ++ ·) HU.out).symm.trans HD.out
            · have := HL.out; simp only [List.length_append, List.length_drop, List.length_cons, List.length_nil] at this ⊢; omega
          · rw [Hh0.out]; simp [strLen, slots, strB_size] <;> omega
        · have HU := hid (unq_one (c := c) (r1 := r1) (.inr (.inl (by omega))))
          have hk9 : ¬ (3 : Int) ≤ (r1.length : Int) + 1 := by omega
          clear hc
          have hre : (strB (c :: r1)).extract 1 (r1.length + 1) = strB ((c :: r1).drop 1) := by rw [strB_cut, List.take_of_length_le (by simp)]
          go_wp2_with (at_builtin; refine wpList_append_obj rfl _ _ 55 rfl 5 1 1 Tryz.underlying55 infoB rfl (owns_later HP2.out.own (Later.alloc _ _)) (news := [.int .u8 92]) rfl (obj_at (by simp)) rfl ?c0 ?c1 ?c2 ?c3 ?_)
          case c0 => intro u hu; simp only [List.mem_cons, List.not_mem_nil, or_false] at hu; subst hu; rfl
          case c1 => have := HL.out; have := HS.out; omega
          case c2 => have := HL.out; have := HS.out; unfold maxLen; omega
          case c3 => have := HP2.out.keep.size; simp only [World.size_alloc]; omega
          intro v7 w7 hA7
          have hp7 : Put 5 _ w.heap.size v (done ++ [c]) v7 w7 := Put.of_appended hA7 (by simp) (by have h := HM.out; simp [byteCells, ← h])
          have HP7 := hid (HP2.out.trans (Put.ahead (Later.alloc _ _) hp7))
          clear hA7 hp7
          go_wp2_with fail
          refine Round.mk' HR1.out Hmu1.out rfl ?_ ?_
          · refine ⟨(c :: r1).drop 1, done ++ [c], v7, rfl, rfl, HP7.out, ?_, ?_⟩
            · rw [List.append_assoc]; exact (congrArg (done ++ ·) HU.out).symm.trans HD.out
            · have := HL.out; simp only [List.length_append, List.length_drop, List.length_cons, List.length_nil] at this ⊢; omega
          · rw [Hh0.out]; simp [strLen, slots, strB_size] <;> omega
      · have HU := hid (unq_one (c := c) (r1 := r1) (.inl (by rintro rfl; exact h92 (by rw [HM.out]; rfl))))
        have h92' : ¬ (m : Int) = 92 := by omega
        have hre : (strB (c :: r1)).extract 1 (r1.length + 1) = strB ((c :: r1).drop 1) := by rw [strB_cut, List.take_of_length_le (by simp)]
        go_wp2_with (at_builtin; refine wpList_append_obj rfl _ _ 55 rfl 5 1 1 Tryz.underlying55 infoB rfl (owns_later HP2.out.own (Later.alloc _ _)) (news := [.int .u8 (m : Int)]) rfl (obj_at (by simp)) rfl ?c0 ?c1 ?c2 ?c3 ?_)
        case c0 => intro u hu; simp only [List.mem_cons, List.not_mem_nil, or_false] at hu; subst hu; rfl
        case c1 => have := HL.out; have := HS.out; omega
        case c2 => have := HL.out; have := HS.out; unfold maxLen; omega
        case c3 => have := HP2.out.keep.size; simp only [World.size_alloc]; omega
        intro v7 w7 hA7
        have hp7 : Put 5 _ w.heap.size v (done ++ [c]) v7 w7 := Put.of_appended hA7 (by simp) (by simp [byteCells, HM.out])
        have HP7 := hid (HP2.out.trans (Put.ahead (Later.alloc _ _) hp7))
        clear hA7 hp7
        go_wp2_with fail
        refine Round.mk' HR1.out Hmu1.out rfl ?_ ?_
        · refine ⟨(c :: r1).drop 1, done ++ [c], v7, rfl, rfl, HP7.out, ?_, ?_⟩
          · rw [List.append_assoc]; exact (congrArg (done ++ ·) HU.out).symm.trans HD.out
          · have := HL.out; simp only [List.length_append, List.length_drop, List.length_cons, List.length_nil] at this ⊢; omega
        · rw [Hh0.out]; simp [strLen, slots, strB_size] <;> omega
    · have HU : Hid (unqG hexP (c :: r1) = c :: unqG hexP ((c :: r1).drop 1)) := hid (by
        by_cases h3 : 2 ≤ r1.length
        · exact unq_one (.inr (.inr (by rw [← HT.out h3]; exact hk)))
        · exact unq_one (.inr (.inl (by omega))))
      have HP2 := hid (HP.out.behind hL)
      unfold numE
      clear hk hL hm1 hm3 hex
      by_cases h92 : m = 92
      · subst h92
        have hre : (strB (c :: r1)).extract 1 (r1.length + 1) = strB ((c :: r1).drop 1) := by rw [strB_cut, List.take_of_length_le (by simp)]
        go_wp2_with (at_builtin; refine wpList_append_obj rfl _ _ 55 rfl 5 1 1 Tryz.underlying55 infoB rfl (owns_later HP2.out.own (Later.alloc _ _)) (news := [.int .u8 92]) rfl (obj_at (by simp)) rfl ?c0 ?c1 ?c2 ?c3 ?_)
        case c0 => intro u hu; simp only [List.mem_cons, List.not_mem_nil, or_false] at hu; subst hu; rfl
        case c1 => have := HL.out; have := HS.out; omega
        case c2 => have := HL.out; have := HS.out; unfold maxLen; omega
        case c3 => have := HP2.out.keep.size; simp only [World.size_alloc]; omega
        intro v7 w7 hA7
        have hp7 : Put 5 _ w.heap.size v (done ++ [c]) v7 w7 := Put.of_appended hA7 (by simp) (by have h := HM.out; simp [byteCells, ← h])
        have HP7 := hid (HP2.out.trans (Put.ahead (Later.alloc _ _) hp7))
        clear hA7 hp7
        go_wp2_with fail
        refine Round.mk' HR1.out Hmu1.out rfl ?_ ?_
        · refine ⟨(c :: r1).drop 1, done ++ [c], v7, rfl, rfl, HP7.out, ?_, ?_⟩
          · rw [List.append_assoc]; exact (congrArg (done ++ ·) HU.out).symm.trans HD.out
          · have := HL.out; simp only [List.length_append, List.length_drop, List.length_cons, List.length_nil] at this ⊢; omega
        · rw [Hh0.out]; simp [strLen, slots, strB_size] <;> omega
      · have h92' : ¬ (m : Int) = 92 := by omega
        have hre : (strB (c :: r1)).extract 1 (r1.length + 1) = strB ((c :: r1).drop 1) := by rw [strB_cut, List.take_of_length_le (by simp)]
        go_wp2_with (at_builtin; refine wpList_append_obj rfl _ _ 55 rfl 5 1 1 Tryz.underlying55 infoB rfl (owns_later HP2.out.own (Later.alloc _ _)) (news := [.int .u8 (m : Int)]) rfl (obj_at (by simp)) rfl ?c0 ?c1 ?c2 ?c3 ?_)
        case c0 => intro u hu; simp only [List.mem_cons, List.not_mem_nil, or_false] at hu; subst hu; rfl
        case c1 => have := HL.out; have := HS.out; omega
        case c2 => have := HL.out; have := HS.out; unfold maxLen; omega
        case c3 => have := HP2.out.keep.size; simp only [World.size_alloc]; omega
        intro v7 w7 hA7
        have hp7 : Put 5 _ w.heap.size v (done ++ [c]) v7 w7 := Put.of_appended hA7 (by simp) (by simp [byteCells, HM.out])
        have HP7 := hid (HP2.out.trans (Put.ahead (Later.alloc _ _) hp7))
        clear hA7 hp7
        go_wp2_with fail
        refine Round.mk' HR1.out Hmu1.out rfl ?_ ?_
        · refine ⟨(c :: r1).drop 1, done ++ [c], v7, rfl, rfl, HP7.out, ?_, ?_⟩
          · rw [List.append_assoc]; exact (congrArg (done ++ ·) HU.out).symm.trans HD.out
          · have := HL.out; simp only [List.length_append, List.length_drop, List.length_cons, List.length_nil] at this ⊢; omega
        · rw [Hh0.out]; simp [strLen, slots, strB_size] <;> omega
end Go.Proofs.YtgajofkeidjbgaaGreatDoor
