/-
  PROVED HERE: expr's writing of binary trees.
-/
import Derived.Test.YtgajofkeidjbgaaGreatDoorPrint2
namespace Go.Proofs.YtgajofkeidjbgaaGreatDoor
set_option linter.unusedSimpArgs false
set_option linter.unusedVariables false
open Go.RowKit

/-- one of the two parts of a binary tree is written: the contract for a world behind the draw. -/
theorem sub_print {x : Ex} (hx : PrC x) {N' B b L : Nat} {l : List UInt8} {w : World} (hL : L ≤ 6) (hok : ExOk x) (hn : NodeIn (fun g => g ≠ b) w (.iface (nodeT x) (.pointer (some ⟨N', 0, none⟩))) x) (hb : BdAt w B b l) (hlen : l.length + costP x ≤ 1099511627776) (hE : EnvB B w) :
    Calls Tryz.prog (printF x) #[.pointer (some ⟨N', 0, none⟩), .pointer (some ⟨b, 0, none⟩), .int .i64 (L : Int)] w.drew (PrTo B b l (printP x L) w) := by
  have hbB := hb.base
  have hf : Fr B b w w.drew := Fr.later (Later.drew w) (by omega)
  refine (hx L N' B b l w.drew hL (NodeIn.fr hf _ _ hn) hok (hb.later (Later.drew w)) hlen (hE.fr hf)).mono ?_
  rintro e w' ⟨rfl, hw⟩
  exact ⟨rfl, hw.before hf⟩
theorem cat3 (o : List UInt8) : (⟨#[32]⟩ : ByteArray) ++ strB o ++ ⟨#[32]⟩ = strB (32 :: (o ++ [32])) := by
  rw [show (⟨#[32]⟩ : ByteArray) = strB [32] from rfl, strB_append, strB_append]
  rfl
set_option maxRecDepth 100000 in
set_option maxHeartbeats 4000000 in
theorem bin1_any (x y : Ex) (hx : PrC x) (hy : PrC y) (A1 A2 A3 A4 N N1 N2 B b own left : Nat) (op l : List UInt8) (p : Value) (w : World) (ho : own ≤ 5) (hlf : left ≤ 6) (hokx : ExOk x) (hoky : ExOk y)
    (h1 : w.heap[A1]? = some (.cells #[.pointer (some ⟨N, 0, none⟩)] 140 (0, 0))) (h2 : w.heap[A2]? = some (.cells #[.pointer (some ⟨b, 0, none⟩)] 54 (0, 0)))
    (h3 : w.heap[A3]? = some (.cells #[.int .i64 (left : Int)] 3 (0, 0))) (h4 : w.heap[A4]? = some (.cells #[.int .i64 (own : Int)] 3 (0, 0))) (hne : A1 ≠ b ∧ A2 ≠ b ∧ A3 ≠ b ∧ A4 ≠ b ∧ N ≠ b)
    (hN : w.heap[N]? = some (.cells #[.string (strB op), p, .iface (nodeT x) (.pointer (some ⟨N1, 0, none⟩)), .iface (nodeT y) (.pointer (some ⟨N2, 0, none⟩))] 142 (0, 0)))
    (hn1 : NodeIn (fun g => g ≠ b) w (.iface (nodeT x) (.pointer (some ⟨N1, 0, none⟩))) x) (hn2 : NodeIn (fun g => g ≠ b) w (.iface (nodeT y) (.pointer (some ⟨N2, 0, none⟩))) y)
    (hb : BdAt w B b l) (hlen : l.length + op.length + 2 + costP x + costP y ≤ 1099511627776) (hE : EnvB B w) :
    Calls Tryz.prog 198 #[.pointer (some ⟨A1, 0, none⟩), .pointer (some ⟨A2, 0, none⟩), .pointer (some ⟨A3, 0, none⟩), .pointer (some ⟨A4, 0, none⟩)] w (PrTo B b l (printP x left ++ (32 :: (op ++ [32]) ++ printP y (own + 1))) w) := by
  have HX := hid hx; have HY := hid hy; have HOWN := hid ho; have HLF := hid hlf; have HNE := hid hne; have HN := hid hN; have HN1 := hid hn1; have HN2 := hid hn2; have HB := hid hb; have HL := hid hlen; have HE := hid hE; have H1 := hid h1; have H3 := hid h3; have H2 := hid h2; have H4 := hid h4; have HOKX := hid hokx; have HOKY := hid hoky
  have hbB := hb.base
  have HBB := hid hbB
  have facts : ∀ w', Fr B b w w' → w'.cell? ⟨A1, 0, none⟩ = some (.pointer (some ⟨N, 0, none⟩)) ∧ w'.cell? ⟨A2, 0, none⟩ = some (.pointer (some ⟨b, 0, none⟩)) ∧ w'.cell? ⟨A3, 0, none⟩ = some (.int .i64 (left : Int)) ∧ w'.cell? ⟨A4, 0, none⟩ = some (.int .i64 (own : Int)) ∧
      w'.cell? ⟨N, 0, none⟩ = some (.string (strB op)) ∧ w'.cell? ⟨N, 2, none⟩ = some (.iface (nodeT x) (.pointer (some ⟨N1, 0, none⟩))) ∧ w'.cell? ⟨N, 3, none⟩ = some (.iface (nodeT y) (.pointer (some ⟨N2, 0, none⟩))) := fun w' h =>
    have hNb := h.obj HN.out HNE.out.2.2.2.2 (by decide)
    ⟨cell_obj (i := 0) (h.obj H1.out HNE.out.1 (by decide)) rfl, cell_obj (i := 0) (h.obj H2.out HNE.out.2.1 (by decide)) rfl, cell_obj (i := 0) (h.obj H3.out HNE.out.2.2.1 (by decide)) rfl, cell_obj (i := 0) (h.obj H4.out HNE.out.2.2.2.1 (by decide)) rfl,
      cell_obj (i := 0) hNb rfl, cell_obj (i := 2) hNb rfl, cell_obj (i := 3) hNb rfl⟩
  have HF := hid facts
  have hlx := print_len x left
  have HLX := hid hlx
  clear hx hy ho hlf hne hN hn1 hn2 hb hlen hE h1 h2 h3 h4 hbB hokx hoky facts hlx
  have hfD : Fr B b w w.drew := Fr.later (Later.drew w) (by have := HBB.out; omega)
  have HFD := hid hfD
  clear hfD
  go_enter Tryz.func198, Tryz.ntmps198
  go_upto_region 0 with (fail)
  refine wp_region_held_drew (S := fun w => w.cell? ⟨A1, 0, none⟩ = some (.pointer (some ⟨N, 0, none⟩)) ∧ w.cell? ⟨A2, 0, none⟩ = some (.pointer (some ⟨b, 0, none⟩)) ∧ w.cell? ⟨A3, 0, none⟩ = some (.int .i64 (left : Int)) ∧ w.cell? ⟨N, 2, none⟩ = some (.iface (nodeT x) (.pointer (some ⟨N1, 0, none⟩))))
    (by kernel_rfl) (by have h := HF.out _ HFD.out; exact ⟨h.1, h.2.1, h.2.2.1, h.2.2.2.2.2.1⟩) (fun hS => ?_)
  refine wpAnyH_take (i := 0) (v := .pointer (some ⟨N, 0, none⟩)) rfl (by kernel_rfl) (by kernel_rfl) (by kernel_rfl) (fun _ _ _ h => h) (Or.inl ⟨by rfl, ?_⟩) hS ?_
  · rintro w ⟨h0, -, -, -⟩
    go_simp
  refine wpAnyH_take (i := 4) (v := .pointer (some ⟨b, 0, none⟩)) rfl (by kernel_rfl) (by kernel_rfl) (by kernel_rfl) (fun _ _ _ h => h) (Or.inl ⟨by rfl, ?_⟩) hS ?_
  · rintro w ⟨-, h0, -, -⟩
    go_simp
  refine wpAnyH_take (i := 5) (v := .int .i64 (left : Int)) rfl (by kernel_rfl) (by kernel_rfl) (by kernel_rfl) (fun _ _ _ h => h) (Or.inl ⟨by rfl, ?_⟩) hS ?_
  · rintro w ⟨-, -, h0, -⟩
    go_simp
  try simp only [Act.put, List.setIfInBounds_toArray, List.set]
  refine wpAnyH_take (i := 1) (v := .pointer (some ⟨N, 0, none⟩)) rfl (by kernel_rfl) (by kernel_rfl) (by kernel_rfl) (fun _ _ _ h => h) (Or.inl ⟨by rfl, ?_⟩) hS ?_
  · rintro w ⟨-, -, -, h0⟩
    have := cell_lt h0
    go_simp
  try simp only [Act.put, List.setIfInBounds_toArray, List.set]
  refine wpAnyH_take (i := 2) (v := .pointer (some ⟨N, 2, none⟩)) rfl (by kernel_rfl) (by kernel_rfl) (by kernel_rfl) (fun _ _ _ h => h) (Or.inl ⟨by rfl, ?_⟩) hS ?_
  · rintro w ⟨-, -, -, h0⟩
    have := cell_lt h0
    go_simp
  try simp only [Act.put, List.setIfInBounds_toArray, List.set]
  refine wpAnyH_take (i := 3) (v := .iface (nodeT x) (.pointer (some ⟨N1, 0, none⟩))) rfl (by kernel_rfl) (by kernel_rfl) (by kernel_rfl) (fun _ _ _ h => h) (Or.inl ⟨by rfl, ?_⟩) hS ?_
  · rintro w ⟨-, -, -, h0⟩
    go_simp
  try simp only [Act.put, List.setIfInBounds_toArray, List.set]
  refine wpAnyH_ready (rs := [6]) (by kernel_rfl) (by simp) (AllReadyH.cons rfl (fun K hK => ?_) AllReadyH.nil)
  rw [if_pos (by rfl)]
  refine oper_print _ _ _ rfl (x := x) (N := N1) rfl rfl rfl ?_
  refine (sub_print HX.out HLF.out HOKX.out HN1.out HB.out (by have := HL.out; omega) HE.out).mono ?_
  rintro e w1 ⟨rfl, hw⟩
  have HW1 := hid hw
  clear hw hS
  refine ⟨rfl, hK.out _ _ (by have h := HF.out _ HW1.out.fr; exact ⟨h.1, h.2.1, h.2.2.1, h.2.2.2.2.2.1⟩) (fun hS => ?_)⟩
  clear hK K hS
  refine wpAnyH_done (by kernel_rfl) ?_ _
  try simp only [Act.put, List.setIfInBounds_toArray, List.set]
  have HFD1 : Hid (Fr B b w w1.drew) := hid (HW1.out.fr.trans (Fr.later (Later.drew w1) (by have := HBB.out; have := HW1.out.fr.size; omega)))
  go_upto_region 1 with (fail)
  refine wp_region_held_drew (S := fun w => w.cell? ⟨A1, 0, none⟩ = some (.pointer (some ⟨N, 0, none⟩)) ∧ w.cell? ⟨A2, 0, none⟩ = some (.pointer (some ⟨b, 0, none⟩)) ∧ w.cell? ⟨N, 0, none⟩ = some (.string (strB op)))
    (by kernel_rfl) (by have h := HF.out _ HFD1.out; exact ⟨h.1, h.2.1, h.2.2.2.2.1⟩) (fun hS => ?_)
  refine wpAnyH_take (i := 0) (v := .pointer (some ⟨b, 0, none⟩)) rfl (by kernel_rfl) (by kernel_rfl) (by kernel_rfl) (fun _ _ _ h => h) (Or.inl ⟨by rfl, ?_⟩) hS ?_
  · rintro w ⟨-, h0, -⟩
    go_simp
  refine wpAnyH_take (i := 1) (v := .pointer (some ⟨N, 0, none⟩)) rfl (by kernel_rfl) (by kernel_rfl) (by kernel_rfl) (fun _ _ _ h => h) (Or.inl ⟨by rfl, ?_⟩) hS ?_
  · rintro w ⟨h0, -, -⟩
    go_simp
  try simp only [Act.put, List.setIfInBounds_toArray, List.set]
  refine wpAnyH_take (i := 2) (v := .pointer (some ⟨N, 0, none⟩)) rfl (by kernel_rfl) (by kernel_rfl) (by kernel_rfl) (fun _ _ _ h => h) (Or.inl ⟨by rfl, ?_⟩) hS ?_
  · rintro w ⟨-, -, h0⟩
    have := cell_lt h0
    go_simp
  try simp only [Act.put, List.setIfInBounds_toArray, List.set]
  refine wpAnyH_take (i := 3) (v := .pointer (some ⟨N, 0, none⟩)) rfl (by kernel_rfl) (by kernel_rfl) (by kernel_rfl) (fun _ _ _ h => h) (Or.inl ⟨by rfl, ?_⟩) hS ?_
  · rintro w ⟨-, -, h0⟩
    have := cell_lt h0
    go_simp
  try simp only [Act.put, List.setIfInBounds_toArray, List.set]
  refine wpAnyH_take (i := 4) (v := .string (strB op)) rfl (by kernel_rfl) (by kernel_rfl) (by kernel_rfl) (fun _ _ _ h => h) (Or.inl ⟨by rfl, ?_⟩) hS ?_
  · rintro w ⟨-, -, h0⟩
    go_simp
  try simp only [Act.put, List.setIfInBounds_toArray, List.set]
  refine wpAnyH_take (i := 5) (v := .string (⟨#[32]⟩ ++ strB op)) rfl (by kernel_rfl) (by kernel_rfl) (by kernel_rfl) (fun _ _ _ h => h) (Or.inl ⟨by rfl, ?_⟩) hS ?_
  · intro w hS
    clear hS
    have hsz : 1 + (strB op).size ≤ 9223372036854775807 := by have := HL.out; rw [strB_size]; omega
    go_simp
  try simp only [Act.put, List.setIfInBounds_toArray, List.set]
  refine wpAnyH_take (i := 6) (v := .string (strB (32 :: (op ++ [32])))) rfl (by kernel_rfl) (by kernel_rfl) (by kernel_rfl) (fun _ _ _ h => h) (Or.inl ⟨by rfl, ?_⟩) hS ?_
  · intro w hS
    clear hS
    have hsz : 1 + (strB op).size + 1 ≤ 9223372036854775807 := by have := HL.out; rw [strB_size]; omega
    have hc := cat3 op
    go_simp
  try simp only [Act.put, List.setIfInBounds_toArray, List.set]
  refine wpAnyH_ready (rs := [7]) (by kernel_rfl) (by simp) (AllReadyH.cons rfl (fun K hK => ?_) AllReadyH.nil)
  go_simp
  refine (write_any B b (l ++ printP x left) (32 :: (op ++ [32])) w1.drew (HW1.out.at_.later (Later.drew w1)) (by have := HL.out; have := HLX.out; simp only [List.length_append, List.length_cons, List.length_nil]; omega) (by have := HBB.out; have h := HFD1.out.size; omega)).mono ?_
  rintro e w2 ⟨rfl, hw⟩
  have HW2 := hid (hw.before (Fr.later (Later.drew w1) (by have := HBB.out; have := HW1.out.fr.size; omega)))
  clear hw hS
  refine hK.out _ _ (by have h := HF.out _ (HW1.out.fr.trans HW2.out.fr); exact ⟨h.1, h.2.1, h.2.2.2.2.1⟩) (fun hS => ?_)
  clear hK K hS
  refine wpAnyH_done (by kernel_rfl) ?_ _
  try simp only [Act.put, List.setIfInBounds_toArray, List.set]
  have HFD2 : Hid (Fr B b w w2.drew) := hid ((HW1.out.fr.trans HW2.out.fr).trans (Fr.later (Later.drew w2) (by have := HBB.out; have := HW1.out.fr.size; have := HW2.out.fr.size; omega)))
  go_upto_region 2 with (fail)
  refine wp_region_held_drew (S := fun w => w.cell? ⟨A1, 0, none⟩ = some (.pointer (some ⟨N, 0, none⟩)) ∧ w.cell? ⟨A2, 0, none⟩ = some (.pointer (some ⟨b, 0, none⟩)) ∧ w.cell? ⟨A4, 0, none⟩ = some (.int .i64 (own : Int)) ∧ w.cell? ⟨N, 3, none⟩ = some (.iface (nodeT y) (.pointer (some ⟨N2, 0, none⟩))))
    (by kernel_rfl) (by have h := HF.out _ HFD2.out; exact ⟨h.1, h.2.1, h.2.2.2.1, h.2.2.2.2.2.2⟩) (fun hS => ?_)
  refine wpAnyH_take (i := 0) (v := .pointer (some ⟨N, 0, none⟩)) rfl (by kernel_rfl) (by kernel_rfl) (by kernel_rfl) (fun _ _ _ h => h) (Or.inl ⟨by rfl, ?_⟩) hS ?_
  · rintro w ⟨h0, -, -, -⟩
    go_simp
  refine wpAnyH_take (i := 4) (v := .pointer (some ⟨b, 0, none⟩)) rfl (by kernel_rfl) (by kernel_rfl) (by kernel_rfl) (fun _ _ _ h => h) (Or.inl ⟨by rfl, ?_⟩) hS ?_
  · rintro w ⟨-, h0, -, -⟩
    go_simp
  refine wpAnyH_take (i := 5) (v := .int .i64 (own : Int)) rfl (by kernel_rfl) (by kernel_rfl) (by kernel_rfl) (fun _ _ _ h => h) (Or.inl ⟨by rfl, ?_⟩) hS ?_
  · rintro w ⟨-, -, h0, -⟩
    go_simp
  try simp only [Act.put, List.setIfInBounds_toArray, List.set]
  refine wpAnyH_take (i := 1) (v := .pointer (some ⟨N, 0, none⟩)) rfl (by kernel_rfl) (by kernel_rfl) (by kernel_rfl) (fun _ _ _ h => h) (Or.inl ⟨by rfl, ?_⟩) hS ?_
  · rintro w ⟨-, -, -, h0⟩
    have := cell_lt h0
    go_simp
  try simp only [Act.put, List.setIfInBounds_toArray, List.set]
  refine wpAnyH_take (i := 2) (v := .pointer (some ⟨N, 3, none⟩)) rfl (by kernel_rfl) (by kernel_rfl) (by kernel_rfl) (fun _ _ _ h => h) (Or.inl ⟨by rfl, ?_⟩) hS ?_
  · rintro w ⟨-, -, -, h0⟩
    have := cell_lt h0
    go_simp
  try simp only [Act.put, List.setIfInBounds_toArray, List.set]
  refine wpAnyH_take (i := 3) (v := .iface (nodeT y) (.pointer (some ⟨N2, 0, none⟩))) rfl (by kernel_rfl) (by kernel_rfl) (by kernel_rfl) (fun _ _ _ h => h) (Or.inl ⟨by rfl, ?_⟩) hS ?_
  · rintro w ⟨-, -, -, h0⟩
    go_simp
  try simp only [Act.put, List.setIfInBounds_toArray, List.set]
  refine wpAnyH_take (i := 6) (v := .int .i64 ((own + 1 : Nat) : Int)) rfl (by kernel_rfl) (by kernel_rfl) (by kernel_rfl) (fun _ _ _ h => h) (Or.inl ⟨by rfl, ?_⟩) hS ?_
  · intro w hS
    clear hS
    have hwr : IntKind.i64.wrap ((own : Int) + 1) = ((own + 1 : Nat) : Int) := by have := HOWN.out; rw [IntKind.wrap_i64]; omega
    go_simp
  try simp only [Act.put, List.setIfInBounds_toArray, List.set]
  refine wpAnyH_ready (rs := [7]) (by kernel_rfl) (by simp) (AllReadyH.cons rfl (fun K hK => ?_) AllReadyH.nil)
  rw [if_pos (by rfl)]
  refine oper_print _ _ _ rfl (x := y) (N := N2) rfl rfl rfl ?_
  have hwr2 := HW1.out.of HW2.out
  refine (sub_print HY.out (by have := HOWN.out; omega) HOKY.out (NodeIn.fr hwr2.fr _ _ HN2.out) hwr2.at_ (by have := HL.out; have := HLX.out; simp only [List.length_append, List.length_cons, List.length_nil]; omega) (HE.out.fr hwr2.fr)).mono ?_
  rintro e w3 ⟨rfl, hw⟩
  have HW3 := hid (hwr2.of hw)
  clear hw hS hwr2
  refine ⟨rfl, hK.out _ _ (by have h := HF.out _ HW3.out.fr; exact ⟨h.1, h.2.1, h.2.2.2.1, h.2.2.2.2.2.2⟩) (fun hS => ?_)⟩
  clear hK K hS
  refine wpAnyH_done (by kernel_rfl) ?_ _
  try simp only [Act.put, List.setIfInBounds_toArray, List.set]
  go_wp2_with fail
  refine bodyPost_end (results_none rfl _ _ _) rfl ⟨rfl, ?_⟩
  have h := HW3.out
  rw [List.append_assoc] at h
  simpa using h
end Go.Proofs.YtgajofkeidjbgaaGreatDoor
