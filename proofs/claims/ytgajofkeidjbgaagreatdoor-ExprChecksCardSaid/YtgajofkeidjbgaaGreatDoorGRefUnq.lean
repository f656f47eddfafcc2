/-
  PROVED HERE: the contracts of the document's hex and unquoted.
  PROVED HERE: the contract of the document's whole.
-/
import Derived.Test.YtgajofkeidjbgaaGreatDoorGRefCall
namespace Go.Proofs.YtgajofkeidjbgaaGreatDoor
set_option linter.unusedSimpArgs false
set_option linter.unusedVariables false
open Go.RowKit

theorem len_less {v u : Value} {n k j : Nat} (h : v = .int .i64 (j : Int)) (h' : u = .int .i64 (k : Int)) (hj : k < j) (hk : k < n) : n - (intOf v).toNat < n - (intOf u).toNat := by rw [h, h']; simp [intOf]; omega
theorem wrap_k (k : Nat) (h : k ≤ 140737488351232) : wrap64 ((k : Int) + 1) = (k : Int) + 1 ∧ wrap64 ((k : Int) + 2) = (k : Int) + 2 ∧ wrap64 ((k : Int) + 2 + 1) = (k : Int) + 2 + 1 ∧ wrap64 ((k : Int) + 3) = (k : Int) + 3 := by unfold wrap64; omega
theorem wrap_k3 (k : Nat) (h : k ≤ 140737488351232) : wrap64 ((k : Int) + 2 + 1) = ((k + 3 : Nat) : Int) := by unfold wrap64; omega
theorem wrap_ki (k : Nat) (h : k ≤ 140737488351232) : IntKind.i64.wrap ((k : Int) + 1) = (k : Int) + 1 ∧ IntKind.i64.wrap ((k : Int) + 2) = (k : Int) + 2 := ⟨IntWalk.i64_in _ (by omega), IntWalk.i64_in _ (by omega)⟩
theorem xy_in (x y : Nat) (hx : x < 16) (hy : y < 16) : 0 ≤ 16 * (x : Int) + y ∧ 16 * (x : Int) + y < 256 ∧ 16 * (x : Int) + y ≤ 255 := by omega
theorem wrap_xy (x y : Nat) (hx : x < 16) (hy : y < 16) : wrap64 (16 * (x : Int)) = 16 * (x : Int) ∧ wrap64 (16 * (x : Int) + y) = 16 * (x : Int) + y := by unfold wrap64; omega
def hexI (c : UInt8) : Int := match hexR c with
  | some d => (d : Int)
  | none => -1
theorem rhex_any (c : UInt8) (m : Int) (hm : m = (c.toNat : Int)) (w : World) : Calls Tryz.prog 120 #[.int .u8 m] w fun e w' => e = .returned (.int .i64 (hexI c)) ∧ w' = w := by
  have hc := c.toNat_lt
  have h0 : 0 ≤ m := by omega
  have h1 : m ≤ 255 := by omega
  have HM := hid hm
  clear hm hc
  go_enter Tryz.func120, Tryz.ntmps120
  by_cases d0 : 48 ≤ m
  · by_cases d1 : m ≤ 57
    · have HX : Hid (hexI c = m - 48) := hid (by
        have h := HM.out
        unfold hexI hexR
        rw [if_pos (by omega)]
        show ((c.toNat - 48 : Nat) : Int) = m - 48
        omega)
      go_wp2_with fail
      go_ret
      exact ⟨congrArg (fun x => Ending.returned (Value.int .i64 x)) HX.out.symm, rfl⟩
    · by_cases d2 : 97 ≤ m
      · by_cases d3 : m ≤ 102
        · have HX : Hid (hexI c = m - 97 + 10) := hid (by
            have h := HM.out
            unfold hexI hexR
            rw [if_neg (by omega), if_pos (by omega)]
            show ((c.toNat - 87 : Nat) : Int) = m - 97 + 10
            omega)
          go_wp2_with fail
          go_ret
          exact ⟨congrArg (fun x => Ending.returned (Value.int .i64 x)) HX.out.symm, rfl⟩
        · have HX : Hid (hexI c = -1) := hid (by
            have h := HM.out
            unfold hexI hexR
            rw [if_neg (by omega), if_neg (by omega)])
          go_wp2_with fail
          go_ret
          exact ⟨congrArg (fun x => Ending.returned (Value.int .i64 x)) HX.out.symm, rfl⟩
      · have HX : Hid (hexI c = -1) := hid (by
          have h := HM.out
          unfold hexI hexR
          rw [if_neg (by omega), if_neg (by omega)])
        go_wp2_with fail
        go_ret
        exact ⟨congrArg (fun x => Ending.returned (Value.int .i64 x)) HX.out.symm, rfl⟩
  · have HX : Hid (hexI c = -1) := hid (by
      have h := HM.out
      unfold hexI hexR
      rw [if_neg (by omega), if_neg (by omega)])
    go_wp2_with fail
    go_ret
    exact ⟨congrArg (fun x => Ending.returned (Value.int .i64 x)) HX.out.symm, rfl⟩
theorem hexI_some {c : UInt8} (h : 0 ≤ hexI c) : ∃ d : Nat, hexR c = some d ∧ hexI c = d ∧ d < 16 := by
  unfold hexI at h ⊢
  cases hx : hexR c with
  | none => rw [hx] at h; simp at h
  | some d =>
    refine ⟨d, rfl, rfl, ?_⟩
    unfold hexR at hx
    split at hx
    · injection hx; omega
    split at hx
    · injection hx; omega
    · cases hx
theorem hexI_none {c : UInt8} (h : ¬ 0 ≤ hexI c) : hexR c = none := by
  unfold hexI at h
  cases hx : hexR c with
  | none => rfl
  | some d => rw [hx] at h; simp at h
theorem run_idx (w : World) (l : List UInt8) (k : Nat) (j : Int) (hj : j = (k : Int)) (x : UInt8) (hx : l[k]? = some x) : (Go.Instr.index 9 (.string (strB l)) (.int .i64 j)).run Tryz.prog w = .ok (.int .u8 (x.toNat : Int)) w := by
  obtain ⟨hk, hx⟩ := List.getElem?_eq_some_iff.1 hx
  subst hj
  rw [run_index_string _ _ _ _ _ Tryz.underlying9, dif_pos ⟨by omega, by rw [strB_size]; omega⟩, ← hx]
  rfl
/-- what is read at place k, and how far. -/
theorem unqR_hex {l : List UInt8} {k x y : Nat} {a b : UInt8} (h0 : l[k]? = some 92) (h1 : l[k + 1]? = some a) (h2 : l[k + 2]? = some b) (hx : hexR a = some x) (hy : hexR b = some y) : unqG hexR (l.drop k) = UInt8.ofNat (16 * x + y) :: unqG hexR (l.drop (k + 3)) := by
  have e : l.drop k = 92 :: a :: b :: l.drop (k + 3) := by
    obtain ⟨q0, r0⟩ := List.getElem?_eq_some_iff.1 h0
    obtain ⟨q1, r1⟩ := List.getElem?_eq_some_iff.1 h1
    obtain ⟨q2, r2⟩ := List.getElem?_eq_some_iff.1 h2
    rw [List.drop_eq_getElem_cons q0, r0, List.drop_eq_getElem_cons q1, r1, List.drop_eq_getElem_cons q2, r2]
  rw [e, unqG_hex hexR a b _ hx hy]
theorem unqR_one {l : List UInt8} {k : Nat} {c : UInt8} (h0 : l[k]? = some c) (h : c ≠ 92 ∨ l.length ≤ k + 2 ∨ (∃ a, l[k + 1]? = some a ∧ hexR a = none) ∨ ∃ b, l[k + 2]? = some b ∧ hexR b = none) : unqG hexR (l.drop k) = c :: unqG hexR (l.drop (k + 1)) := by
  obtain ⟨q0, r0⟩ := List.getElem?_eq_some_iff.1 h0
  rw [List.drop_eq_getElem_cons q0, r0]
  by_cases hc : c = 92
  · match hr : l.drop (k + 1) with
    | [] => simp [unqG]
    | [a] => simp [unqG]
    | a :: b :: r =>
      have ga : l[k + 1]? = some a := by have := congrArg (fun z => z[0]?) hr; simpa using this
      have gb : l[k + 2]? = some b := by have := congrArg (fun z => z[1]?) hr; simpa using this
      have hlen := (List.getElem?_eq_some_iff.1 gb).1
      rw [unqG, if_pos hc]
      rcases h with h | h | ⟨a', h, h'⟩ | ⟨b', h, h'⟩
      · exact absurd hc h
      · omega
      · rw [ga] at h
        injection h with h
        rw [h, h']
      · rw [gb] at h
        injection h with h
        rw [h, h']
        cases hexR a <;> rfl
  · exact unqG_plain hexR c _ hc

set_option maxRecDepth 100000 in
set_option maxHeartbeats 4000000 in
theorem runq_any (l : List UInt8) (w : World) (hs : l.length ≤ 140737488351232) : Calls Tryz.prog 99 #[.string (strB l)] w (StrTo w (unqG hexR l)) := by
  have HS := hid hs
  have hz := strB_size l
  clear hs
  go_enter Tryz.func99, Tryz.ntmps99
  go_wp2_with fail
  obtain ⟨R1, hR1⟩ : ∃ RR_ : (Nat → Value) → World → Prop, RR_ = (fun us wx => ∃ (k : Nat) (done : List UInt8) (v : Value), us 4 = .int .i64 k ∧ us 3 = v ∧ Put 5 w w.heap.size (.slice none 0 0) done v wx ∧ done ++ unqG hexR (l.drop k) = unqG hexR l ∧ done.length ≤ k ∧ k ≤ l.length) := ⟨_, rfl⟩
  obtain ⟨mu1, hmu1⟩ : ∃ mu : (Nat → Value) → World → Nat, mu = (fun us _ => l.length - (intOf (us 4)).toNat) := ⟨_, rfl⟩
  have HR1 := hid hR1; have Hmu1 := hid hmu1; clear hR1 hmu1
  refine wp_loop_frame' [false, false, false, true, true, true, true, true, true, true, true, true, true, true, true, true, true, true, true, true, true, true, true, true, true, true, true, true, true, true, true, true, true, true, true, true, true, true, true, true, true, true, true, true, true, true, true, true, true, true, true, true, true, true, true, true] R1 _ mu1 HR1.out ?_ ?_
  · exact ⟨0, [], _, rfl, rfl, Put.refl ⟨rfl, .inl ⟨rfl, rfl⟩⟩, rfl, Nat.le_refl _, Nat.zero_le _⟩
  intro us1 wx hrel
  obtain ⟨k, done, v, h4, h3, hP, hd, hl, hk⟩ := hrel
  simp only [frameOf, Nat.reduceAdd, h4, h3]
  have Hh4 := hid h4; clear h4
  have Hh3 := hid h3; clear h3
  have HP := hid hP; have HD := hid hd; have HL := hid hl
  clear hP hd hl
  by_cases hlt : k < l.length
  · have HK := hid hk
    obtain ⟨c, hc⟩ : ∃ c, l[k]? = some c := ⟨_, List.getElem?_eq_getElem hlt⟩
    have hix := fun w => run_idx w l k k rfl c hc
    have HC := hid hc
    obtain ⟨m, hm⟩ : ∃ m, m = c.toNat := ⟨_, rfl⟩
    have HM := hid hm
    have hm8 : m < 256 := by rw [hm]; exact c.toNat_lt
    rw [← hm] at hix
    have HWK := hid (wrap_k k (Nat.le_trans hk HS.out))
    have HW3 := hid (wrap_k3 k (Nat.le_trans hk HS.out))
    have HWI := hid (wrap_ki k (Nat.le_trans hk HS.out))
    have hk0 : (0 : Int) ≤ k := by omega
    have hkl : (k : Int) < l.length := by omega
    clear hm hc hk
    by_cases h92 : m = 92
    · subst h92
      have hc92 : c = 92 := UInt8.toNat_inj.1 (by rw [← HM.out]; rfl)
      by_cases h2 : k + 2 < l.length
      · have h2' : (k : Int) + 2 < l.length := by omega
        obtain ⟨a, ha⟩ : ∃ a, l[k + 1]? = some a := ⟨_, List.getElem?_eq_getElem (by omega)⟩
        obtain ⟨b, hb⟩ : ∃ b, l[k + 2]? = some b := ⟨_, List.getElem?_eq_getElem h2⟩
        have hia := fun w => run_idx w l (k + 1) ((k : Int) + 1) (by omega) a ha
        have hib := fun w => run_idx w l (k + 2) ((k : Int) + 2) (by omega) b hb
        have hk1 : (0 : Int) ≤ (k : Int) + 1 := by omega
        have hk2 : (0 : Int) ≤ (k : Int) + 2 := by omega
        have hkl1 : (k : Int) + 1 < l.length := by omega
        have HA := hid ha; have HB := hid hb
        clear ha hb
        obtain ⟨hv1, hv2, hv6, hv7⟩ := HWK.out; obtain ⟨hw1, hw2⟩ := HWI.out
        go_wp2_with fail
        refine (rhex_any a _ rfl _).mono ?_
        rintro e w3 ⟨rfl, rfl⟩
        go_wp2_with fail
        refine (rhex_any b _ rfl _).mono ?_
        rintro e w4 ⟨rfl, rfl⟩
        clear hia hib hv1 hv2 hv6 hv7 hw1 hw2
        by_cases hx : 0 ≤ hexI a
        · obtain ⟨x, hxa, hxi, hx16⟩ := hexI_some hx
          rw [hxi] at hx ⊢
          by_cases hy : 0 ≤ hexI b
          · obtain ⟨y, hyb, hyi, hy16⟩ := hexI_some hy
            rw [hyi] at hy ⊢
            have hu := unqR_hex (k := k) (by rw [HC.out, hc92]) HA.out HB.out hxa hyb
            obtain ⟨hv4, hv5⟩ := wrap_xy x y hx16 hy16
            obtain ⟨hxy0, hxy1, hxy2⟩ := xy_in x y hx16 hy16
            have HXY := hid (show x < 16 ∧ y < 16 from ⟨hx16, hy16⟩)
            clear hxi hyi hxa hyb hc92 hx16 hy16
            have HU := hid hu
            clear hu
            obtain ⟨hv1, hv2, hv6, hv7⟩ := HWK.out; obtain ⟨hw1, hw2⟩ := HWI.out
            go_wp2_with (at_builtin; refine wpList_append_obj rfl _ _ 55 rfl 5 1 1 Tryz.underlying55 infoB rfl (owns_later HP.out.own (Later.alloc _ _)) (news := [.int .u8 (16 * (x : Int) + (y : Int))]) rfl (obj_at (by simp)) rfl ?c0 ?c1 ?c2 ?c3 ?_)
            case c0 => first | rfl | (intro u hu; simp only [List.mem_cons, List.not_mem_nil, or_false] at hu; subst hu; rfl)
            case c1 => clear hv1 hv2 hv6 hv7 hw1 hw2 hv4 hv5; have := HL.out; have := HS.out; omega
            case c2 => clear hv1 hv2 hv6 hv7 hw1 hw2 hv4 hv5; have := HL.out; have := HS.out; unfold maxLen; omega
            case c3 => clear hv1 hv2 hv6 hv7 hw1 hw2 hv4 hv5; have := HP.out.keep.size; first | (simp only [World.size_alloc]; omega) | omega
            intro v7 w7 hA7
            clear hv1 hv2 hv6 hv7 hw1 hw2 hv4 hv5
            have hp7 : Put 5 _ w.heap.size v (done ++ [UInt8.ofNat (16 * x + y)]) v7 w7 := Put.of_appended hA7 (by simp) (by have := HXY.out; simp [byteCells]; omega)
            have HP7 := hid (HP.out.trans (Put.ahead (Later.alloc _ _) hp7))
            clear hA7 hp7
            obtain ⟨hv1, hv2, hv6, hv7⟩ := HWK.out; obtain ⟨hw1, hw2⟩ := HWI.out
            go_wp2_with fail
            clear hv1 hv2 hv6 hv7 hw1 hw2
            refine Round.mk' HR1.out Hmu1.out rfl ?_ ?_
            · refine ⟨k + 3, done ++ [UInt8.ofNat (16 * x + y)], v7, congrArg (Value.int .i64) HW3.out, rfl, HP7.out, ?_, ?_, ?_⟩
              · rw [List.append_assoc]; exact (congrArg (done ++ ·) HU.out).symm.trans HD.out
              · have := HL.out; simp only [List.length_append, List.length_cons, List.length_nil] at this ⊢; omega
              · omega
            · exact len_less (congrArg (Value.int .i64) HW3.out) Hh4.out (Nat.lt_add_of_pos_right (by decide)) hlt
          · have hu := unqR_one (k := k) HC.out (.inr (.inr (.inr ⟨b, HB.out, hexI_none hy⟩)))
            have hy' : hexI b < 0 := by omega
            clear hxi hxa hc92 hy
            have HU := hid hu
            clear hu
            obtain ⟨hv1, hv2, hv6, hv7⟩ := HWK.out; obtain ⟨hw1, hw2⟩ := HWI.out
            go_wp2_with (at_builtin; refine wpList_append_obj rfl _ _ 55 rfl 5 1 1 Tryz.underlying55 infoB rfl (owns_later HP.out.own (Later.alloc _ _)) (news := [.int .u8 (92)]) rfl (obj_at (by simp)) rfl ?c0 ?c1 ?c2 ?c3 ?_)
            case c0 => first | rfl | (intro u hu; simp only [List.mem_cons, List.not_mem_nil, or_false] at hu; subst hu; rfl)
            case c1 => clear hv1 hv2 hv6 hv7 hw1 hw2; have := HL.out; have := HS.out; omega
            case c2 => clear hv1 hv2 hv6 hv7 hw1 hw2; have := HL.out; have := HS.out; unfold maxLen; omega
            case c3 => clear hv1 hv2 hv6 hv7 hw1 hw2; have := HP.out.keep.size; first | (simp only [World.size_alloc]; omega) | omega
            intro v7 w7 hA7
            clear hv1 hv2 hv6 hv7 hw1 hw2
            have hp7 : Put 5 _ w.heap.size v (done ++ [c]) v7 w7 := Put.of_appended hA7 (by simp) (by have h := HM.out; simp [byteCells, ← h])
            have HP7 := hid (HP.out.trans (Put.ahead (Later.alloc _ _) hp7))
            clear hA7 hp7
            obtain ⟨hv1, hv2, hv6, hv7⟩ := HWK.out; obtain ⟨hw1, hw2⟩ := HWI.out
            go_wp2_with fail
            clear hv1 hv2 hv6 hv7 hw1 hw2
            refine Round.mk' HR1.out Hmu1.out rfl ?_ ?_
            · refine ⟨k + 1, done ++ [c], v7, by go_num, rfl, HP7.out, ?_, ?_, ?_⟩
              · rw [List.append_assoc]; exact (congrArg (done ++ ·) HU.out).symm.trans HD.out
              · have := HL.out; simp only [List.length_append, List.length_cons, List.length_nil] at this ⊢; omega
              · omega
            · exact len_less (j := k + 1) (by go_num) Hh4.out (Nat.lt_succ_self k) hlt
        · have hu := unqR_one (k := k) HC.out (.inr (.inr (.inl ⟨a, HA.out, hexI_none hx⟩)))
          have hx' : hexI a < 0 := by omega
          clear hc92 hx
          have HU := hid hu
          clear hu
          obtain ⟨hv1, hv2, hv6, hv7⟩ := HWK.out; obtain ⟨hw1, hw2⟩ := HWI.out
          go_wp2_with (at_builtin; refine wpList_append_obj rfl _ _ 55 rfl 5 1 1 Tryz.underlying55 infoB rfl (owns_later HP.out.own (Later.alloc _ _)) (news := [.int .u8 (92)]) rfl (obj_at (by simp)) rfl ?c0 ?c1 ?c2 ?c3 ?_)
          case c0 => first | rfl | (intro u hu; simp only [List.mem_cons, List.not_mem_nil, or_false] at hu; subst hu; rfl)
          case c1 => clear hv1 hv2 hv6 hv7 hw1 hw2; have := HL.out; have := HS.out; omega
          case c2 => clear hv1 hv2 hv6 hv7 hw1 hw2; have := HL.out; have := HS.out; unfold maxLen; omega
          case c3 => clear hv1 hv2 hv6 hv7 hw1 hw2; have := HP.out.keep.size; first | (simp only [World.size_alloc]; omega) | omega
          intro v7 w7 hA7
          clear hv1 hv2 hv6 hv7 hw1 hw2
          have hp7 : Put 5 _ w.heap.size v (done ++ [c]) v7 w7 := Put.of_appended hA7 (by simp) (by have h := HM.out; simp [byteCells, ← h])
          have HP7 := hid (HP.out.trans (Put.ahead (Later.alloc _ _) hp7))
          clear hA7 hp7
          obtain ⟨hv1, hv2, hv6, hv7⟩ := HWK.out; obtain ⟨hw1, hw2⟩ := HWI.out
          go_wp2_with fail
          clear hv1 hv2 hv6 hv7 hw1 hw2
          refine Round.mk' HR1.out Hmu1.out rfl ?_ ?_
          · refine ⟨k + 1, done ++ [c], v7, by go_num, rfl, HP7.out, ?_, ?_, ?_⟩
            · rw [List.append_assoc]; exact (congrArg (done ++ ·) HU.out).symm.trans HD.out
            · have := HL.out; simp only [List.length_append, List.length_cons, List.length_nil] at this ⊢; omega
            · omega
          · exact len_less (j := k + 1) (by go_num) Hh4.out (Nat.lt_succ_self k) hlt
      · have hu := unqR_one (k := k) HC.out (.inr (.inl (by omega)))
        have h2' : ¬ (k : Int) + 2 < l.length := by omega
        clear hc92
        have HU := hid hu
        clear hu
        obtain ⟨hv1, hv2, hv6, hv7⟩ := HWK.out; obtain ⟨hw1, hw2⟩ := HWI.out
        go_wp2_with (at_builtin; refine wpList_append_obj rfl _ _ 55 rfl 5 1 1 Tryz.underlying55 infoB rfl (owns_later HP.out.own (Later.alloc _ _)) (news := [.int .u8 (92)]) rfl (obj_at (by simp)) rfl ?c0 ?c1 ?c2 ?c3 ?_)
        case c0 => first | rfl | (intro u hu; simp only [List.mem_cons, List.not_mem_nil, or_false] at hu; subst hu; rfl)
        case c1 => clear hv1 hv2 hv6 hv7 hw1 hw2; have := HL.out; have := HS.out; omega
        case c2 => clear hv1 hv2 hv6 hv7 hw1 hw2; have := HL.out; have := HS.out; unfold maxLen; omega
        case c3 => clear hv1 hv2 hv6 hv7 hw1 hw2; have := HP.out.keep.size; first | (simp only [World.size_alloc]; omega) | omega
        intro v7 w7 hA7
        clear hv1 hv2 hv6 hv7 hw1 hw2
        have hp7 : Put 5 _ w.heap.size v (done ++ [c]) v7 w7 := Put.of_appended hA7 (by simp) (by have h := HM.out; simp [byteCells, ← h])
        have HP7 := hid (HP.out.trans (Put.ahead (Later.alloc _ _) hp7))
        clear hA7 hp7
        obtain ⟨hv1, hv2, hv6, hv7⟩ := HWK.out; obtain ⟨hw1, hw2⟩ := HWI.out
        go_wp2_with fail
        clear hv1 hv2 hv6 hv7 hw1 hw2
        refine Round.mk' HR1.out Hmu1.out rfl ?_ ?_
        · refine ⟨k + 1, done ++ [c], v7, by go_num, rfl, HP7.out, ?_, ?_, ?_⟩
          · rw [List.append_assoc]; exact (congrArg (done ++ ·) HU.out).symm.trans HD.out
          · have := HL.out; simp only [List.length_append, List.length_cons, List.length_nil] at this ⊢; omega
          · omega
        · exact len_less (j := k + 1) (by go_num) Hh4.out (Nat.lt_succ_self k) hlt
    · have hu := unqR_one (k := k) HC.out (.inl (by rintro rfl; exact h92 (by rw [HM.out]; rfl)))
      have h92' : ¬ (m : Int) = 92 := by omega
      clear h92
      have HU := hid hu
      clear hu
      obtain ⟨hv1, hv2, hv6, hv7⟩ := HWK.out; obtain ⟨hw1, hw2⟩ := HWI.out
      go_wp2_with (at_builtin; refine wpList_append_obj rfl _ _ 55 rfl 5 1 1 Tryz.underlying55 infoB rfl (owns_later HP.out.own (Later.alloc _ _)) (news := [.int .u8 ((m : Int))]) rfl (obj_at (by simp)) rfl ?c0 ?c1 ?c2 ?c3 ?_)
      case c0 => first | rfl | (intro u hu; simp only [List.mem_cons, List.not_mem_nil, or_false] at hu; subst hu; rfl)
      case c1 => clear hv1 hv2 hv6 hv7 hw1 hw2; have := HL.out; have := HS.out; omega
      case c2 => clear hv1 hv2 hv6 hv7 hw1 hw2; have := HL.out; have := HS.out; unfold maxLen; omega
      case c3 => clear hv1 hv2 hv6 hv7 hw1 hw2; have := HP.out.keep.size; first | (simp only [World.size_alloc]; omega) | omega
      intro v7 w7 hA7
      clear hv1 hv2 hv6 hv7 hw1 hw2
      have hp7 : Put 5 _ w.heap.size v (done ++ [c]) v7 w7 := Put.of_appended hA7 (by simp) (by simp [byteCells, HM.out])
      have HP7 := hid (HP.out.trans (Put.ahead (Later.alloc _ _) hp7))
      clear hA7 hp7
      obtain ⟨hv1, hv2, hv6, hv7⟩ := HWK.out; obtain ⟨hw1, hw2⟩ := HWI.out
      go_wp2_with fail
      clear hv1 hv2 hv6 hv7 hw1 hw2
      refine Round.mk' HR1.out Hmu1.out rfl ?_ ?_
      · refine ⟨k + 1, done ++ [c], v7, by go_num, rfl, HP7.out, ?_, ?_, ?_⟩
        · rw [List.append_assoc]; exact (congrArg (done ++ ·) HU.out).symm.trans HD.out
        · have := HL.out; simp only [List.length_append, List.length_cons, List.length_nil] at this ⊢; omega
        · omega
      · exact len_less (j := k + 1) (by go_num) Hh4.out (Nat.lt_succ_self k) hlt
  · have hk' : k = l.length := by omega
    have HE : Hid (unqG hexR l = done) := hid (by rw [← HD.out, hk', List.drop_length]; simp [unqG])
    have hn : ¬ (k : Int) < l.length := by omega
    have hstr := (owned_bytes HP.out.own).string (src := 55) (dst := 9) Tryz.underlying55 Tryz.underlying5 Tryz.underlying9
    obtain ⟨a7, c7, rfl⟩ := ownsRow_slice HP.out.own
    have HLW := hid (HP.out.later rfl)
    clear hk'
    go_wp2_with fail
    go_ret
    exact ⟨ret_str HE.out.symm, HLW.out⟩
end Go.Proofs.YtgajofkeidjbgaaGreatDoor
namespace Go.Proofs.YtgajofkeidjbgaaGreatDoor
set_option linter.unusedSimpArgs false
set_option linter.unusedVariables false
open Go.RowKit

theorem wholeF_snoc {l : List UInt8} {k : Nat} {c : UInt8} (h : l[k]? = some c) : wholeF 0 (l.take (k + 1)) = if 48 ≤ c.toNat ∧ c.toNat ≤ 57 then wrap64 (wrap64 (wholeF 0 (l.take k) * 10) + ((c.toNat : Int) - 48)) else wholeF 0 (l.take k) := by
  obtain ⟨q, r⟩ := List.getElem?_eq_some_iff.1 h
  rw [List.take_succ_eq_append_getElem q, r]
  unfold wholeF
  rw [List.foldl_append]
  rfl
set_option maxRecDepth 100000 in
set_option maxHeartbeats 4000000 in
theorem rwhole_any (l : List UInt8) (w : World) (hs : l.length ≤ 140737488351232) : Calls Tryz.prog 98 #[.string (strB l)] w fun e w' => e = .returned (.int .i64 (wholeR l)) ∧ w' = w := by
  have HS := hid hs
  have hz := strB_size l
  clear hs
  go_enter Tryz.func98, Tryz.ntmps98
  go_wp2_with fail
  obtain ⟨R1, hR1⟩ : ∃ RR_ : (Nat → Value) → World → Prop, RR_ = (fun us wx => ∃ (k : Nat) (n : Int), us 4 = .int .i64 k ∧ us 3 = .int .i64 n ∧ wx = w ∧ Hid (n = wholeF 0 (l.take k)) ∧ k ≤ l.length) := ⟨_, rfl⟩
  obtain ⟨mu1, hmu1⟩ : ∃ mu : (Nat → Value) → World → Nat, mu = (fun us _ => l.length - (intOf (us 4)).toNat) := ⟨_, rfl⟩
  have HR1 := hid hR1; have Hmu1 := hid hmu1; clear hR1 hmu1
  refine wp_loop_frame' [false, false, false, true, true, true, true, true, true, true, true, true, true, true, true, true, true, true, true, true, true, true, true, true, true, true, true, true, true] R1 _ mu1 HR1.out ?_ ?_
  · exact ⟨0, 0, rfl, rfl, rfl, hid rfl, Nat.zero_le _⟩
  intro us1 wx hrel
  obtain ⟨k, n, h4, h3, rfl, hn, hk⟩ := hrel
  simp only [frameOf, Nat.reduceAdd, h4, h3]
  have Hh4 := hid h4; clear h4
  have Hh3 := hid h3; clear h3
  by_cases hlt : k < l.length
  · have HK := hid hk
    obtain ⟨c, hc⟩ : ∃ c, l[k]? = some c := ⟨_, List.getElem?_eq_getElem hlt⟩
    have hix := fun w => run_idx w l k k rfl c hc
    have HU := hid (wholeF_snoc hc)
    obtain ⟨m, hm⟩ : ∃ m, m = c.toNat := ⟨_, rfl⟩
    have hm8 : m < 256 := by rw [hm]; exact c.toNat_lt
    rw [← hm] at hix HU
    have hk0 : (0 : Int) ≤ k := by omega
    have hkl : (k : Int) < l.length := by omega
    have HWN : Hid (wrap64 ((k : Int) + 1) = ((k + 1 : Nat) : Int)) := hid (by rw [(wrap_k k (Nat.le_trans hk HS.out)).1]; rfl)
    have HW1 := hid (wrap_k k (Nat.le_trans hk HS.out)).1
    clear hm hc hk
    by_cases d0 : 48 ≤ m
    · have d0' : (48 : Int) ≤ m := by omega
      by_cases d1 : m ≤ 57
      · have d1' : (m : Int) ≤ 57 := by omega
        have HN : Hid (wrap64 (wrap64 (n * 10) + ((m : Int) - 48)) = wholeF 0 (l.take (k + 1))) := hid (by rw [HU.out, if_pos ⟨d0, d1⟩, hn.out])
        have hw := HW1.out
        go_wp2_with fail
        clear hw
        refine Round.mk' HR1.out Hmu1.out rfl ?_ ?_
        · exact ⟨k + 1, _, congrArg (Value.int .i64) HWN.out, rfl, rfl, HN, by omega⟩
        · exact len_less (j := k + 1) (congrArg (Value.int .i64) HWN.out) Hh4.out (Nat.lt_succ_self k) hlt
      · have d1' : ¬ (m : Int) ≤ 57 := by omega
        have HN : Hid (n = wholeF 0 (l.take (k + 1))) := hid (by rw [HU.out, if_neg (fun h => d1 h.2), hn.out])
        have hw := HW1.out
        go_wp2_with fail
        clear hw
        refine Round.mk' HR1.out Hmu1.out rfl ?_ ?_
        · exact ⟨k + 1, _, by go_num, rfl, rfl, HN, by omega⟩
        · exact len_less (j := k + 1) (by go_num) Hh4.out (Nat.lt_succ_self k) hlt
    · have d0' : ¬ (48 : Int) ≤ m := by omega
      have HN : Hid (n = wholeF 0 (l.take (k + 1))) := hid (by rw [HU.out, if_neg (fun h => d0 h.1), hn.out])
      have hw := HW1.out
      go_wp2_with fail
      clear hw
      refine Round.mk' HR1.out Hmu1.out rfl ?_ ?_
      · exact ⟨k + 1, _, by go_num, rfl, rfl, HN, by omega⟩
      · exact len_less (j := k + 1) (by go_num) Hh4.out (Nat.lt_succ_self k) hlt
  · have hk' : k = l.length := by omega
    have HN : Hid (n = wholeF 0 l) := hid (by rw [hn.out, hk', List.take_length])
    have hnl : ¬ (k : Int) < l.length := by omega
    clear hn hk
    cases l with
    | nil =>
      have HR : Hid (wholeR [] = n) := hid (by rw [HN.out]; rfl)
      clear hk'
      go_wp2_with fail
      go_ret
      exact ⟨congrArg (fun x => Ending.returned (Value.int .i64 x)) HR.out.symm, rfl⟩
    | cons c r =>
      have hix := fun w => run_idx w (c :: r) 0 0 rfl c rfl
      obtain ⟨m, hm⟩ : ∃ m, m = c.toNat := ⟨_, rfl⟩
      have HM := hid hm
      rw [← hm] at hix
      have hl0 : (0 : Int) < ((c :: r).length : Int) := by simp only [List.length_cons]; omega
      clear hm hk'
      by_cases h45 : m = 45
      · have HR : Hid (wholeR (c :: r) = wrap64 (-n)) := hid (by
          have hc : c = 45 := UInt8.toNat_inj.1 (by rw [← HM.out, h45]; rfl)
          unfold wholeR
          rw [if_pos (by rw [hc]; rfl), HN.out])
        subst h45
        go_wp2_with fail
        go_ret
        exact ⟨congrArg (fun x => Ending.returned (Value.int .i64 x)) HR.out.symm, rfl⟩
      · have HR : Hid (wholeR (c :: r) = n) := hid (by
          unfold wholeR
          rw [if_neg (fun h => h45 (by rw [HM.out]; simp only [List.head?_cons, Option.some.injEq] at h; rw [h]; rfl)), HN.out])
        have h45' : ¬ (m : Int) = 45 := by omega
        go_wp2_with fail
        go_ret
        exact ⟨congrArg (fun x => Ending.returned (Value.int .i64 x)) HR.out.symm, rfl⟩
end Go.Proofs.YtgajofkeidjbgaaGreatDoor
