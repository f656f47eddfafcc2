/-
  PROVED HERE: in plain Lean: what Load comes to over the pieces of a store, and over pieces that are not as they were. No program of its own.
  PROVED HERE: the contract of Store.Ripe.
  PROVED HERE: a script of a store's steps in memory; pieces that were saved, as pieces that are loaded; what the laws' walks keep of a store.
-/
import Derived.Test.YtgcnchmnciihnaaGreatDoorGStBack
import Derived.Test.YtgcnchmnciihnaaGreatDoorGRefStTwice
import Derived.Test.YtgcnchmnciihnaaGreatDoorGPutAt
import Derived.Test.YtgcnchmnciihnaaGreatDoorGAppX
namespace Go.Proofs.YtgcnchmnciihnaaGreatDoor
set_option linter.unusedSimpArgs false
set_option linter.unusedVariables false
open Go Go.RowKit

section
variable {lo hi g : Int} {L : List CellP} {p : CellP → Bool}
/-- groups of a store that have a piece. -/
def GrpsOk (L : List CellP) (gs : List Int) : Prop := gs.Nodup ∧ ∀ g ∈ gs, 0 ≤ g ∧ g < 32 ∧ (L.filter (inGroup g)).length ≠ 0
theorem seenR (h : Fine L) {seen : List Int} {c : CellP} (hg : (groupK c.key : Int) = g) (hn : g ∉ seen) : (inS seen c && inR lo hi c) = false := by
  unfold inS
  rw [hg, decide_eq_false hn, Bool.false_and]
theorem loadN_pcs (h : Fine L) : ∀ (gs seen : List Int) (qs : List (Int × List UInt8)), GrpsOk L gs → (∀ g ∈ gs, g ∉ seen) →
    loadN lo hi (gs.map (pc L) ++ qs) seen (L.filter fun c => inS seen c && inR lo hi c) = loadN lo hi qs (gs.reverse ++ seen) (L.filter fun c => inS (gs.reverse ++ seen) c && inR lo hi c)
  | [], seen, qs, _, _ => rfl
  | g :: gs, seen, qs, hgs, hn => by
    have hnd := List.nodup_cons.1 hgs.1
    obtain ⟨h1, h2, h3⟩ := hgs.2 g List.mem_cons_self
    have hng := hn g List.mem_cons_self
    have hrec := fun (e : (L.filter fun c => inS (g :: seen) c && inR lo hi c) = (L.filter fun c => inS (g :: seen) c && inR lo hi c)) => loadN_pcs h gs (g :: seen) qs ⟨hnd.2, fun x hx => hgs.2 x (List.mem_cons_of_mem _ hx)⟩ fun x hx hs => by
      rcases List.mem_cons.1 hs with rfl | hs
      · exact hnd.1 hx
      · exact hn x (List.mem_cons_of_mem _ hx) hs
    have hrec := hrec rfl
    rw [List.map_cons, List.cons_append, List.reverse_cons, List.append_assoc, List.singleton_append]
    rw [← hrec]
    by_cases hr : g < lo ∨ hi ≤ g
    · rw [loadN_pass (x := pc L g) (by show ¬ (g < 0 ∨ 32 ≤ g); omega) hng hr]
      congr 1
      refine List.filter_congr fun c hc => ?_
      unfold inS inR
      by_cases hcg : (groupK c.key : Int) = g
      · have : (decide (lo ≤ (groupK c.key : Int)) && decide ((groupK c.key : Int) < hi)) = false := by
          rcases hr with hr | hr
          · rw [decide_eq_false (show ¬ lo ≤ (groupK c.key : Int) by omega), Bool.false_and]
          · rw [decide_eq_false (show ¬ (groupK c.key : Int) < hi by omega), Bool.and_false]
        rw [this, Bool.and_false, Bool.and_false]
      · congr 1
        simp [hcg]
    · have hre := readE_pc (lo := lo) (hi := hi) (g := g) (p := fun c => inS seen c && inR lo hi c) h h3 (by omega) fun c _ hcg => seenR h hcg hng
      rw [loadN_read (x := pc L g) (by show ¬ (g < 0 ∨ 32 ≤ g); omega) hng hr (by rw [show (pc L g).1 = g from rfl, hre])]
      rw [show (pc L g).1 = g from rfl, hre]
      congr 1
      refine List.filter_congr fun c hc => ?_
      unfold inS inR inGroup
      by_cases hcg : (groupK c.key : Int) = g
      · rw [decide_eq_true hcg, Bool.or_true, decide_eq_true (show (groupK c.key : Int) ∈ g :: seen by rw [hcg]; exact List.mem_cons_self), decide_eq_true (show lo ≤ (groupK c.key : Int) by omega), decide_eq_true (show (groupK c.key : Int) < hi by omega)]
        rfl
      · rw [decide_eq_false hcg, Bool.or_false]
        congr 1
        simp [hcg]
theorem loadN_all (h : Fine L) {gs : List Int} (hg : GrpsOk L gs) (qs : List (Int × List UInt8)) : loadN lo hi (gs.map (pc L) ++ qs) [] [] = loadN lo hi qs gs.reverse (L.filter fun c => inS gs.reverse c && inR lo hi c) := by
  have := loadN_pcs (lo := lo) (hi := hi) h gs [] qs hg (fun _ _ h => by cases h)
  rw [List.append_nil] at this
  rw [← this]
  congr 1
  refine (List.filter_eq_nil_iff.2 fun c _ => ?_).symm
  simp [inS]
/-- a piece that is not read: the code. -/
theorem loadN_err (h : Fine L) {gs : List Int} (hg : GrpsOk L gs) {x : Int × List UInt8} (qs : List (Int × List UInt8)) {k : Int} (h1 : 0 ≤ x.1 ∧ x.1 < 32) (h2 : x.1 ∉ gs) (h3 : ¬ (x.1 < lo ∨ hi ≤ x.1)) (hk : k ≠ 0)
    (he : ∀ M : List CellP, (readE lo hi x.1 M x.2).1 = k) : (loadN lo hi (gs.map (pc L) ++ x :: qs) [] []).1 = k := by
  rw [loadN_all h hg, loadN_bad (by omega) (by rw [List.mem_reverse]; exact h2) h3 (by rw [he]; exact hk)]
  exact he _
theorem loadN_err_at (h : Fine L) {gs : List Int} (hg : GrpsOk L gs) {x : Int × List UInt8} (qs : List (Int × List UInt8)) {k : Int} (h1 : 0 ≤ x.1 ∧ x.1 < 32) (h2 : x.1 ∉ gs) (h3 : ¬ (x.1 < lo ∨ hi ≤ x.1)) (hk : k ≠ 0)
    (he : (readE lo hi x.1 (L.filter fun c => inS gs.reverse c && inR lo hi c) x.2).1 = k) : (loadN lo hi (gs.map (pc L) ++ x :: qs) [] []).1 = k := by
  rw [loadN_all h hg, loadN_bad (by omega) (by rw [List.mem_reverse]; exact h2) h3 (by rw [he]; exact hk)]
  exact he
theorem loadN_err4 (h : Fine L) {gs : List Int} (hg : GrpsOk L gs) {x : Int × List UInt8} (qs : List (Int × List UInt8)) (h1 : x.1 < 0 ∨ 32 ≤ x.1) : (loadN lo hi (gs.map (pc L) ++ x :: qs) [] []).1 = 4 := by
  rw [loadN_all h hg, loadN_range h1]
theorem loadN_err6 (h : Fine L) {gs : List Int} (hg : GrpsOk L gs) {x : Int × List UInt8} (qs : List (Int × List UInt8)) (h1 : 0 ≤ x.1 ∧ x.1 < 32) (h2 : x.1 ∈ gs) : (loadN lo hi (gs.map (pc L) ++ x :: qs) [] []).1 = 6 := by
  rw [loadN_all h hg, loadN_twice (by omega) (by rw [List.mem_reverse]; exact h2)]
/-- cut. -/
theorem openB_cut (h : Fine L) (h0 : (L.filter (inGroup g)).length ≠ 0) {n : Nat} (hn : n < (pc L g).2.length) : (openB ((pc L g).2.take n) 0).2.2 = 7 := by
  obtain ⟨e, he⟩ : ∃ e, e = encCells (L.filter (inGroup g)) := ⟨_, rfl⟩
  have hl := pc_len h h0
  unfold pc at hn ⊢
  simp only at hn ⊢
  rw [← he] at hn hl ⊢
  rw [sealed_length] at hn
  have hlen : ((sealed e).take n).length = n := by rw [List.length_take, sealed_length]; omega
  by_cases h8 : n < 8
  · unfold openB
    rw [if_pos (by rw [hlen]; omega)]
  · have h4 : be4 (((sealed e).take n).drop 0) = e.length := by
      rw [List.drop_zero]
      have : (sealed e).take n = w4 e.length ++ ((w4 (crc e) ++ e).take (n - 4)) := by
        unfold sealed
        rw [List.take_append]
        have hw : (w4 e.length).length = 4 := rfl
        rw [hw, List.take_of_length_le (by rw [hw]; omega)]
      rw [this, be4_append rfl, be4_w4 (by omega)]
    unfold openB
    rw [if_neg (by rw [hlen]; omega)]
    rw [show ((0 : Int).toNat) = 0 from rfl, h4, if_pos (.inr (by rw [hlen]; omega))]
theorem readE_cut (h : Fine L) (h0 : (L.filter (inGroup g)).length ≠ 0) {n : Nat} (hn : n < (pc L g).2.length) (g' : Int) (M : List CellP) : (readE lo hi g' M ((pc L g).2.take n)).1 = 7 := by
  have := openB_cut h h0 hn
  rw [readE_open (by rw [this]; decide), this]
theorem readE_turn (h : Fine L) (h0 : (L.filter (inGroup g)).length ≠ 0) {k : Nat} {y : UInt8} (h4 : 4 ≤ k) (hk : k < (pc L g).2.length) (hy : y ≠ (pc L g).2[k]) (g' : Int) (M : List CellP) : (readE lo hi g' M ((pc L g).2.set k y)).1 = 8 := by
  have := open_turned (encCells (L.filter (inGroup g))) k y (pc_len h h0) h4 hk hy
  have e : openB ((pc L g).2.set k y) 0 = ([], 0, 8) := this
  rw [readE_open (by rw [e]; decide), e]
theorem readE_more (h : Fine L) (h0 : (L.filter (inGroup g)).length ≠ 0) (y : UInt8) (g' : Int) (M : List CellP) : (readE lo hi g' M ((pc L g).2 ++ [y])).1 = 7 := by
  have := open_sealed [] (encCells (L.filter (inGroup g))) [y] (pc_len h h0)
  simp only [List.nil_append, List.length_nil] at this
  have e : openB ((pc L g).2 ++ [y]) 0 = (encCells (L.filter (inGroup g)), ((0 : Nat) : Int) + 8 + (encCells (L.filter (inGroup g))).length, 0) := this
  cases hp : readP lo hi g' M (encCells (L.filter (inGroup g))) with
  | none => exact readE_none (by rw [e]) (by rw [e]; exact hp)
  | some L' => exact readE_long (L' := L') (by rw [e]) (by rw [e]; exact hp) (by
      rw [e, List.length_append]
      have : (pc L g).2.length = (encCells (L.filter (inGroup g))).length + 8 := sealed_length _
      rw [this]
      simp only [List.length_cons, List.length_nil]
      omega)
/-- of another group. -/
theorem readE_group (h : Fine L) (h0 : (L.filter (inGroup g)).length ≠ 0) {g' : Int} (hg : g' ≠ g) (M : List CellP) : (readE lo hi g' M (pc L g).2).1 = 7 := by
  have e := open_pc h h0
  refine readE_none (by rw [e]) ?_
  rw [e]
  cases hl : L.filter (inGroup g) with
  | nil => rw [hl] at h0; simp at h0
  | cons c l =>
    have hlen : (L.filter (inGroup g)).length ≤ 2097152 := by
      have h1 := List.length_filter_le (inGroup g) L
      have h2 := weightL_length L
      have h3 := h.st.full
      omega
    rw [hl] at hlen
    have hc : c ∈ L.filter (inGroup g) := by rw [hl]; exact List.mem_cons_self
    obtain ⟨h1, h2⟩ := List.mem_filter.1 hc
    have h3 : (groupK c.key : Int) = g := of_decide_eq_true h2
    refine readP_none (j := 0) (Lx := M) (last := none) (rest := (c :: l).flatMap encCell) (dInt_enc (by omega) (by omega) _) (fun m => by rw [Nat.zero_add]) (fun _ => by rw [List.length_cons]; omega) fun m => ?_
    rw [List.flatMap_cons]
    exact readN_bad (dCell_enc (h.cell h1) _) (okC_group (by rw [h3]; exact Ne.symm hg))
theorem openB_big {e : List UInt8} (h1 : 134217728 < e.length) (h2 : e.length < 2 ^ 32) : openB (sealed e) 0 = ([], 0, 7) := by
  have hb : be4 (sealed e) = e.length := by unfold sealed; rw [be4_append rfl, be4_w4 h2]
  unfold openB
  rw [if_neg (by rw [sealed_length]; omega)]
  rw [show ((0 : Int).toNat) = 0 from rfl, List.drop_zero, hb, if_pos (.inl h1)]
/-- with a cell twice. -/
theorem readE_twice (h : Fine L) (h0 : (L.filter (inGroup g)).length ≠ 0) (hg : lo ≤ g ∧ g < hi) (hp : ∀ c ∈ L, (groupK c.key : Int) = g → p c = false) : (readE lo hi g (L.filter p) (sealed (encCells (twiceL g L)))).1 = 7 := by
  obtain ⟨d, hd⟩ : ∃ d, (L.filter (inGroup g)).getLast? = some d := by
    cases hl : (L.filter (inGroup g)).getLast? with
    | none => rw [List.getLast?_eq_none_iff] at hl; rw [hl] at h0; simp at h0
    | some d => exact ⟨d, rfl⟩
  have hdm := List.mem_of_getLast? hd
  have hdL := (List.mem_filter.1 hdm).1
  have hlen : (L.filter (inGroup g)).length ≤ 2097152 := by
    have h1 := List.length_filter_le (inGroup g) L
    have h2 := weightL_length L
    have h3 := h.st.full
    omega
  have htw : twiceL g L = L.filter (inGroup g) ++ [d] := by unfold twiceL; rw [hd]; rfl
  have hsz : (encCells (twiceL g L)).length < 2 ^ 32 := by
    have hmem : ∀ c ∈ twiceL g L, c ∈ L := fun c hc => by
      rw [htw] at hc
      rcases List.mem_append.1 hc with hc | hc
      · exact (List.mem_filter.1 hc).1
      · obtain rfl := List.mem_singleton.1 hc; exact hdL
    have h1 := encInt_length ((twiceL g L).length : Int)
    have h2 := encList_len (l := twiceL g L) fun c hc => h.st.valid c (hmem c hc)
    have h3 : weightL (twiceL g L) ≤ 134217728 := by
      rw [htw, weightL_app]
      have h4 := weightL_filter_le (inGroup g) L
      have h5 := weightL_mem hdL
      have h6 := h.st.full
      have h7 : weightL [d] = d.weight := by simp [weightL]
      omega
    unfold encCells
    rw [List.length_append]; omega
  by_cases hbig : 134217728 < (encCells (twiceL g L)).length
  · have e := openB_big hbig hsz
    rw [readE_open (by rw [e]; decide), e]
  · have e := open_sealed [] (encCells (twiceL g L)) [] (by omega)
    simp only [List.nil_append, List.append_nil, List.length_nil] at e
    rw [show ((0 : Nat) : Int) = 0 from rfl] at e
    refine readE_none (by rw [e]) ?_
    rw [e]
    simp only
    have hbody : encCells (twiceL g L) = encInt ((L.filter (inGroup g)).length + 1 : Nat) ++ ((L.filter (inGroup g)).flatMap encCell ++ encCell d) := by
      unfold encCells
      rw [htw, List.length_append, List.flatMap_append]
      simp
    rw [hbody]
    refine readP_none (j := (L.filter (inGroup g)).length) (Lx := L.filter fun x => p x || inL (L.filter (inGroup g)) x) (last := some d) (rest := encCell d) (dInt_enc (by omega) (by omega) _) (fun m => ?_) (fun _ => by omega) fun m => ?_
    · have := readN_enc h.st.sorted h.st.full (L.filter (inGroup g)) p none m (encCell d) (h.read hg hp) (h.st.sorted.filter _) (fun d e => by cases e)
      rw [hd] at this
      exact this
    · refine readN_bad (c := d) (r := []) (by have := dCell_enc (h.cell hdL) []; rwa [List.append_nil] at this) (okC_after ?_)
      unfold afterC
      exact decide_eq_false (by have := (cmpC_zero (a := d) (b := d)).2 rfl; omega)
end
/-- the groups of a store's pieces. -/
def grpsN (lo : Int) (L : List CellP) : Nat → List Int
  | 0 => []
  | n + 1 => grpsN lo L n ++ (if (L.filter (inGroup (lo + n))).length = 0 then [] else [lo + n])
theorem piecesN_map (lo : Int) (L : List CellP) : ∀ n, piecesN lo L n = (grpsN lo L n).map (pc L)
  | 0 => rfl
  | n + 1 => by
    unfold piecesN grpsN
    rw [piecesN_map lo L n, List.map_append]
    congr 1
    split <;> rfl
theorem grpsN_mem {lo : Int} {L : List CellP} : ∀ {n : Nat} {g : Int}, g ∈ grpsN lo L n → lo ≤ g ∧ g < lo + n ∧ (L.filter (inGroup g)).length ≠ 0
  | n + 1, g, h => by
    unfold grpsN at h
    rcases List.mem_append.1 h with h | h
    · obtain ⟨h1, h2, h3⟩ := grpsN_mem h; exact ⟨h1, by omega, h3⟩
    · split at h
      · cases h
      · rename_i hne
        obtain rfl := List.mem_singleton.1 h
        exact ⟨by omega, by omega, hne⟩
theorem grpsN_nodup (lo : Int) (L : List CellP) : ∀ n, (grpsN lo L n).Nodup
  | 0 => List.nodup_nil
  | n + 1 => by
    unfold grpsN
    refine List.nodup_append.2 ⟨grpsN_nodup lo L n, by split <;> simp, fun a ha b hb e => ?_⟩
    subst e
    have := (grpsN_mem ha).2.1
    split at hb
    · cases hb
    · obtain rfl := List.mem_singleton.1 hb
      omega
theorem grpsN_all {lo : Int} {L : List CellP} : ∀ {n : Nat} {g : Int}, lo ≤ g → g < lo + n → (L.filter (inGroup g)).length ≠ 0 → g ∈ grpsN lo L n
  | 0, g, h1, h2, _ => by omega
  | n + 1, g, h1, h2, h3 => by
    unfold grpsN
    by_cases h : g < lo + n
    · exact List.mem_append_left _ (grpsN_all h1 h h3)
    · obtain rfl : g = lo + n := by omega
      rw [if_neg h3]; exact List.mem_append_right _ List.mem_cons_self
theorem grps_ok {lo hi : Int} {L : List CellP} (h : 0 ≤ lo ∧ hi ≤ 32) : GrpsOk L (grpsN lo L (hi - lo).toNat) := ⟨grpsN_nodup _ _ _, fun g hg => by
  obtain ⟨h1, h2, h3⟩ := grpsN_mem hg
  exact ⟨by omega, by omega, h3⟩⟩
/-- all of a store's pieces, loaded into a store of some groups. -/
theorem load_pieces {lo hi : Int} {L : List CellP} (h : Fine L) : loadN lo hi (pieces 0 32 L) [] [] = (0, L.filter (inR lo hi)) := by
  obtain ⟨N, hN⟩ : ∃ N, N = ((32 : Int) - 0).toNat := ⟨_, rfl⟩
  have hok := grps_ok (lo := 0) (hi := 32) (L := L) ⟨by omega, by omega⟩
  unfold pieces
  rw [← hN] at hok ⊢
  have := loadN_all (lo := lo) (hi := hi) h hok []
  rw [piecesN_map]
  rw [List.append_nil] at this
  rw [this]
  show (0, _) = (0, _)
  congr 1
  refine List.filter_congr fun c hc => ?_
  have hg32 := groupK_lt c.key
  have : inS (grpsN 0 L N).reverse c = true := by
    unfold inS
    refine decide_eq_true (List.mem_reverse.2 (grpsN_all (by omega) (by omega) fun h0 => ?_))
    have hm : c ∈ L.filter (inGroup (groupK c.key)) := List.mem_filter.2 ⟨hc, decide_eq_true rfl⟩
    rw [List.eq_nil_of_length_eq_zero h0] at hm
    cases hm
  rw [this, Bool.true_and]
theorem piecesN_congr {lo : Int} {L M : List CellP} : ∀ {n : Nat}, (∀ g, lo ≤ g → g < lo + n → L.filter (inGroup g) = M.filter (inGroup g)) → piecesN lo L n = piecesN lo M n
  | 0, _ => rfl
  | n + 1, h => by
    unfold piecesN
    rw [piecesN_congr (n := n) fun g h1 h2 => h g h1 (by omega), h (lo + n) (by omega) (by omega)]
theorem piecesN_add (lo : Int) (L : List CellP) (n : Nat) : ∀ m, piecesN lo L (n + m) = piecesN lo L n ++ piecesN (lo + n) L m
  | 0 => by simp [piecesN]
  | m + 1 => by
    have e1 : piecesN lo L (n + (m + 1)) = piecesN lo L (n + m) ++ (if (L.filter (inGroup (lo + ((n + m : Nat) : Int)))).length = 0 then [] else [(lo + ((n + m : Nat) : Int), sealed (encCells (L.filter (inGroup (lo + ((n + m : Nat) : Int))))))]) := rfl
    have e2 : piecesN (lo + n) L (m + 1) = piecesN (lo + n) L m ++ (if (L.filter (inGroup (lo + n + (m : Int)))).length = 0 then [] else [(lo + n + (m : Int), sealed (encCells (L.filter (inGroup (lo + n + (m : Int))))))]) := rfl
    rw [e1, e2, piecesN_add lo L n m, List.append_assoc, show lo + ((n + m : Nat) : Int) = lo + n + m by omega]
/-- what two stores that share the groups save is what the one saved. -/
theorem pieces_both {L : List CellP} {cut : Int} (h : 0 ≤ cut ∧ cut ≤ 32) : pieces 0 cut (L.filter (inR 0 cut)) ++ pieces cut 32 (L.filter (inR cut 32)) = pieces 0 32 L := by
  have hf : ∀ {a b g : Int}, a ≤ g → g < b → (L.filter (inR a b)).filter (inGroup g) = L.filter (inGroup g) := fun {a b g} h1 h2 => by
    rw [List.filter_filter]
    refine List.filter_congr fun c _ => ?_
    unfold inGroup inR
    by_cases e : (groupK c.key : Int) = g
    · rw [decide_eq_true e, decide_eq_true (show a ≤ (groupK c.key : Int) by omega), decide_eq_true (show (groupK c.key : Int) < b by omega)]; rfl
    · rw [decide_eq_false e, Bool.false_and]
  unfold pieces
  rw [piecesN_congr (M := L) fun g h1 h2 => hf h1 (by omega), piecesN_congr (lo := cut) (M := L) fun g h1 h2 => hf h1 (by omega)]
  have := piecesN_add 0 L (cut - 0).toNat (32 - cut).toNat
  rw [show (cut - 0).toNat + (32 - cut).toNat = ((32 : Int) - 0).toNat by omega, show (0 : Int) + ((cut - 0).toNat : Nat) = cut by omega] at this
  exact this.symm
theorem len_filter (p : CellP → Bool) (L : List CellP) : (L.filter p).length + (L.filter fun c => !p c).length = L.length := by
  induction L with
  | nil => rfl
  | cons c l ih =>
    cases hp : p c
    · rw [List.filter_cons_of_neg (by simp [hp]), List.filter_cons_of_pos (by simp [hp]), List.length_cons, List.length_cons]; omega
    · rw [List.filter_cons_of_pos (by simp [hp]), List.filter_cons_of_neg (by simp [hp]), List.length_cons, List.length_cons]; omega
theorem split_len {L : List CellP} (h : Fine L) {cut : Int} (hc : 0 ≤ cut ∧ cut ≤ 32) : (L.filter (inR 0 cut)).length + (L.filter (inR cut 32)).length = L.length := by
  have e : ∀ c ∈ L, inR cut 32 c = !(inR 0 cut c) := fun c _ => by
    have hg32 := groupK_lt c.key
    unfold inR
    by_cases h1 : (groupK c.key : Int) < cut
    · rw [decide_eq_true h1, decide_eq_false (show ¬ cut ≤ (groupK c.key : Int) by omega), decide_eq_true (show (0 : Int) ≤ (groupK c.key : Int) by omega)]; rfl
    · rw [decide_eq_false h1, decide_eq_true (show cut ≤ (groupK c.key : Int) by omega), decide_eq_true (show (groupK c.key : Int) < 32 by omega)]; simp
  rw [List.filter_congr e]
  exact len_filter _ L
end Go.Proofs.YtgcnchmnciihnaaGreatDoor
namespace Go.Proofs.YtgcnchmnciihnaaGreatDoor
set_option linter.unusedSimpArgs false
set_option linter.unusedVariables false
open Go Go.RowKit

theorem pick_ripe {V : Nat → Prop} (t : Int) (G : Nat) (c : CellP) (u : Value) (w : World) (hu : CellV V w u c) (hG : Boxed w G 2 (.int .i64 t)) :
    Calls Tryz.prog 33 #[u, .pointer (some ⟨G, 0, none⟩)] w (TruthTo w (decide (c.win.2 ≤ t))) := by
  obtain ⟨a, d, b, e, rfl, hk, -⟩ := cell_val hu
  have c0 := hG.cell
  clear hu hk hG
  go_enter Tryz.func33, Tryz.ntmps33
  go_upto_region 1 with (fail)
  obtain ⟨w1, hw1⟩ : ∃ W, W = w.alloc (.cells #[.slice a c.key.length d, .int .i64 c.win.1, .int .i64 c.win.2, .slice b c.data.length e] 57) := ⟨_, rfl⟩
  have hL : Later w w1 := by rw [hw1]; exact Later.alloc _ _
  have c1 : w1.cell? ⟨G, 0, none⟩ = some (.int .i64 t) := hL.cell c0
  have c2 : w1.heap[w.heap.size]? = some (.cells #[.slice a c.key.length d, .int .i64 c.win.1, .int .i64 c.win.2, .slice b c.data.length e] 57 (0, 0)) := by rw [hw1]; exact obj_new _ _
  have c3 := cell_obj (i := 2) c2 (v := .int .i64 c.win.2) rfl
  rw [← hw1]
  clear hw1 c0 c2
  go_wp2_with fail
  go_ret
  exact ⟨rfl, hL⟩
set_option maxHeartbeats 1000000 in
theorem ripe_any {V : Nat → Prop} {S M : Nat} {lo hi : Int} {L : List CellP} (t : Int) (w : World) (h : StAt V w S M lo hi L) :
    Calls Tryz.prog 13 #[.pointer (some ⟨S, 0, none⟩), .int .i64 t] w (SomeTo w (L.filter fun c => decide (c.win.2 ≤ t))) := by
  have HH := hid h
  clear h
  go_enter Tryz.func13, Tryz.ntmps13
  obtain ⟨w1, hw1⟩ : ∃ W, W = w.alloc (.cells #[.int .i64 t] 2) := ⟨_, rfl⟩
  have HL1 : Hid (Later w w1) := hid (by rw [hw1]; exact Later.alloc _ _)
  have HG1 : Hid (Boxed w1 w.heap.size 2 (.int .i64 t)) := hid (by rw [hw1]; exact obj_new _ _)
  go_upto_region 1 with (fail)
  rw [← hw1]
  clear hw1
  go_wp2_with fail
  refine (some_any w1 (HH.out.later HL1.out) 33 #[.pointer (some ⟨w.heap.size, 0, none⟩)] (fun c => decide (c.win.2 ≤ t)) (enters_of Tryz.func33 (by kernel_rfl) rfl) (fun W c u hL hc hu => pick_ripe t w.heap.size c u W hu (hL.obj HG1.out))).mono ?_
  rintro e w2 ⟨sv, rfl, ⟨ks, h1, h2, h3⟩, hL2⟩
  go_wp2_with fail
  go_ret
  exact ⟨_, rfl, ⟨ks, h1, own_base h2 HL1.out.size, fun x hx => (h3 x hx).mono fun b hb _ => ⟨Nat.le_trans HL1.out.size hb.1, hb.2⟩⟩, Later.trans _ _ _ HL1.out hL2⟩
end Go.Proofs.YtgcnchmnciihnaaGreatDoor
namespace Go.Proofs.YtgcnchmnciihnaaGreatDoor
set_option linter.unusedSimpArgs false
set_option linter.unusedVariables false
open Go Go.RowKit

/-- a step of a script: its numbers and its slices. -/
structure OpS where
  kind : Int
  cell : CellP
  time : Int
  kv : Value
  dv : Value
def OpSAt (w : World) (b o : Nat) (x : OpS) : Prop := w.cell? ⟨b, o, none⟩ = some (.int .i64 x.kind) ∧ w.cell? ⟨b, o + 1, none⟩ = some x.kv ∧ w.cell? ⟨b, o + 2, none⟩ = some (.int .i64 x.cell.win.1) ∧ w.cell? ⟨b, o + 3, none⟩ = some (.int .i64 x.cell.win.2) ∧ w.cell? ⟨b, o + 4, none⟩ = some x.dv ∧ w.cell? ⟨b, o + 5, none⟩ = some (.int .i64 x.time)
abbrev IsOpsS (w : World) (v : Value) (l : List OpS) : Prop := SliceOf All OpSAt 6 w v l
structure GoodS (w : World) (x : OpS) : Prop where
  key : IsVals w x.kv x.cell.key
  ok : ∀ y ∈ x.cell.key, ValOk y
  data : IsBytes w x.dv x.cell.data
  len : x.cell.data.length ≤ 140737488355328
theorem OpSAt.later {w w' : World} {b o : Nat} {x : OpS} (h : OpSAt w b o x) (k : Later w w') : OpSAt w' b o x := ⟨k.cell h.1, k.cell h.2.1, k.cell h.2.2.1, k.cell h.2.2.2.1, k.cell h.2.2.2.2.1, k.cell h.2.2.2.2.2⟩
/-- pieces of one's own, read. -/
theorem OwnPc.cells {B n c : Nat} {w : World} {a : Option Addr} {l : List PX} (h : OwnPc B w (.slice a n c) l) {i : Nat} (hi : i < l.length) :
    ∃ g, a = some ⟨g, 0, none⟩ ∧ B ≤ g ∧ w.cell? ⟨g, i * 2, none⟩ = some (.int .i64 l[i].g) ∧ w.cell? ⟨g, i * 2 + 1, none⟩ = some l[i].v ∧ ∀ j, w.frozen? ⟨g, j, none⟩ = false := by
  rcases h.2 with ⟨e, h0⟩ | ⟨g, cap, cur, e, hb, hg, h1, h2, h3, h4⟩
  · omega
  · simp only [Value.slice.injEq] at e
    obtain ⟨rfl, rfl, rfl⟩ := e
    obtain ⟨q0, q1⟩ := pxCells_at l i hi
    have key : ∀ j v, (pxCells l)[j]? = some v → w.cell? ⟨g, j, none⟩ = some v := fun j v hv => by
      refine cell_obj hg ?_
      rw [← h4, List.getElem?_take] at hv
      split at hv
      · rwa [Array.getElem?_toList] at hv
      · cases hv
    exact ⟨g, rfl, hb, key _ _ q0, key _ _ q1, fun j => free_obj hg⟩
theorem own_slice {B s n : Nat} {w : World} {e : TypeId} {v : Value} {xs : List Value} (h : w.ownsRow B e s v n xs) : ∃ a c, v = .slice a n c ∧ n ≤ c ∧ c ≤ maxLen ∧ (a = none → c = 0) := by
  rcases h.2 with ⟨rfl, h0⟩ | ⟨g, cap, cur, rfl, hb, hg, h1, h2, h3, h4⟩
  · exact ⟨none, 0, by rw [h0], by omega, by unfold maxLen; omega, fun _ => rfl⟩
  · exact ⟨_, cap, rfl, h1, h2, fun h => by cases h⟩
theorem pcs_in {B : Nat} {w : World} {v : Value} {xs : List PX} (h1 : OwnPc B w v xs) (h2 : ∀ x ∈ xs, IsBytes w x.v x.bytes) : PcsIn All w v (xs.map PX.pair) := by
  obtain ⟨a, c, rfl, hl, hc, hn⟩ := own_slice h1
  refine ⟨a, c, by rw [List.length_map], by rw [List.length_map]; exact hl, hc, hn, fun i hi => ?_⟩
  rw [List.length_map] at hi
  obtain ⟨g, rfl, -, q0, q1, -⟩ := OwnPc.cells h1 hi
  rw [List.getElem_map]
  exact ⟨g, 0, rfl, trivial, by rw [Nat.zero_add]; exact q0, xs[i].v, by rw [Nat.zero_add]; exact q1, h2 _ (List.getElem_mem hi)⟩
theorem DeepPc.bytes {B : Nat} {w : World} {xs : List PX} (h : DeepPc B w xs) : ∀ x ∈ xs, IsBytes w x.v x.bytes := fun x hx => (owned_bytes (h.own x hx)).all
theorem PiecesOwn.later {B : Nat} {w w' : World} {v : Value} {l : List (Int × List UInt8)} (h : PiecesOwn B w v l) (k : Later w w') : PiecesOwn B w' v l := let ⟨xs, h1, h2, h3⟩ := h; ⟨xs, h1, owns_at h2 k, h3.later k⟩
theorem PiecesOwn.in {B : Nat} {w : World} {v : Value} {l : List (Int × List UInt8)} (h : PiecesOwn B w v l) : PcsIn All w v l := let ⟨xs, h1, h2, h3⟩ := h; h1 ▸ pcs_in h2 h3.bytes
theorem grpsN_len (lo : Int) (L : List CellP) : ∀ n, (grpsN lo L n).length ≤ n
  | 0 => Nat.le_refl _
  | n + 1 => by
    unfold grpsN
    rw [List.length_append]
    have := grpsN_len lo L n
    split <;> simp <;> omega
theorem pieces_len (L : List CellP) {lo hi : Int} (h : 0 ≤ lo ∧ hi ≤ 32) : (pieces lo hi L).length ≤ 32 := by
  unfold pieces
  rw [piecesN_map, List.length_map]
  have := grpsN_len lo L (hi - lo).toNat
  omega
theorem wf_int {n : Int} (h1 : -1000000 ≤ n) (h2 : n ≤ 1000000) : (Lit.int .i64 n).wf = true := wf64 (by omega) (by omega)
theorem pieces_fine {L : List CellP} (h : Fine L) {lo hi : Int} (hr : 0 ≤ lo ∧ hi ≤ 32) : ∀ x ∈ pieces lo hi L, (Lit.int .i64 x.1).wf = true ∧ x.2.length ≤ 1099511627776 := fun x hx => by
  unfold pieces at hx
  rw [piecesN_map] at hx
  obtain ⟨g, hg, rfl⟩ := List.mem_map.1 hx
  obtain ⟨h1, h2, h3⟩ := grpsN_mem hg
  refine ⟨wf_int (by show -1000000 ≤ g; omega) (by show g ≤ 1000000; omega), ?_⟩
  have := pc_len h h3
  show (sealed _).length ≤ _
  rw [sealed_length]; omega
theorem pieces_ne {L : List CellP} (h : Fine L) (hL : L ≠ []) : (pieces 0 32 L).length ≠ 0 := by
  obtain ⟨c, l, rfl⟩ := List.exists_cons_of_ne_nil hL
  unfold pieces
  obtain ⟨N, hN⟩ : ∃ N, N = ((32 : Int) - 0).toNat := ⟨_, rfl⟩
  rw [← hN, piecesN_map, List.length_map]
  have hg32 := groupK_lt c.key
  have := grpsN_all (lo := 0) (L := c :: l) (n := N) (g := groupK c.key) (by omega) (by omega) (fun h0 => by
    have hm : c ∈ (c :: l).filter (inGroup (groupK c.key)) := List.mem_filter.2 ⟨List.mem_cons_self, decide_eq_true rfl⟩
    rw [List.eq_nil_of_length_eq_zero h0] at hm
    cases hm)
  intro h0
  rw [List.eq_nil_of_length_eq_zero h0] at this
  cases this
theorem insC_ne (c : CellP) (L : List CellP) : insC c L ≠ [] := by
  cases L with
  | nil => simp [insC]
  | cons d l => unfold insC; split; simp; split <;> simp
theorem StAt.fine {V : Nat → Prop} {w : World} {S M : Nat} {L : List CellP} (h : StAt V w S M 0 32 L) : Fine L := ⟨h.st, h.ok⟩
/-- a store of which the rest of the heap's blocks hold the cells. -/
def VB (S M B b : Nat) : Prop := b ≠ S ∧ b ≠ M ∧ b < B
/-- pieces behind pieces. -/
theorem wpList_append_pcs {w : World} {ops : Array Oper} {rest : List Oper} {o : Oper} {a : Act} {Q : Exit → Act → World → Prop} (hgd : o.guard = none) (s x : Operand)
    (ho : o.op = .call { callee := .builtin .append, args := #[s, x], argTypes := #[42, 42] })
    (B B2 : Nat) (v u : Value) (xs ys : List PX) (hs : a.eval s = v) (hown : OwnPc B w v xs) (hx : a.eval x = u) (hu : OwnPc B2 w u ys) (hb : (xs.length + ys.length) ≤ 1000) (hB : B ≤ w.heap.size) (hok : ∀ y ∈ ys, y.v.oneCell' = true)
    (h : ∀ v' w', OwnPc B w' v' (xs ++ ys) → Keeps (fun b => some b ≠ v.ownBlock) w w' → (v'.ownBlock = v.ownBlock ∨ ∃ g, v'.ownBlock = some g ∧ w.heap.size ≤ g) → wpList Tryz.prog ops Q rest (a.put o.dst v') w') : wpList Tryz.prog ops Q (o :: rest) a w := by
  obtain ⟨i0, hi, hz0, hz1, hz2⟩ := info_parts pieceInfo
  rcases hu.2 with ⟨rfl, h0⟩ | ⟨g, cap, cur, rfl, hbg, hg, h1, h2, h3, h4⟩
  · have hys : ys = [] := List.eq_nil_of_length_eq_zero h0
    subst hys
    refine wpList_append_nil w hgd s x _ ho B 47 i0 2 Tryz.underlying42 hi v _ _ hs hown hx (h v w ?_ (Keeps.refl _ _) (.inl rfl))
    rw [List.append_nil]; exact hown
  · refine wpList_append w hgd s x _ ho B 47 i0 _ 2 32 Tryz.underlying42 hi hz0 hz1 hz2 rfl (by decide) v _ _ hs hown ⟨g, 0, none⟩ ys.length cap (pxCells ys) hx (pxCells_length ys) (fun j u hu => ?_) (fun u hu => ?_) (by unfold maxLen; omega) (by omega) hB fun v' w' hA => h v' w' ?_ (Keeps.of_grown hA.grown |>.mono fun b _ hb e => hb e) hA.block
    · rw [add_none rfl, Nat.zero_add]
      refine cell_obj hg ?_
      rw [← h4, List.getElem?_take] at hu
      split at hu
      · rwa [Array.getElem?_toList] at hu
      · cases hu
    · unfold pxCells at hu
      obtain ⟨y, hy, hu⟩ := List.mem_flatMap.1 hu
      rcases List.mem_cons.1 hu with rfl | hu
      · rfl
      · obtain rfl := List.mem_singleton.1 hu; exact hok y hy
    · have := hA.own
      unfold OwnPc
      rw [List.length_append, pxCells_app]
      exact this
end Go.Proofs.YtgcnchmnciihnaaGreatDoor
