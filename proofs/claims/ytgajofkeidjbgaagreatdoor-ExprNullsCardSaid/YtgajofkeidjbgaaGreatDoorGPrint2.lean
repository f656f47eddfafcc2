/-
  PROVED HERE: expr's writing of literals, names, unary and binary trees.
  PROVED HERE: expr's writing of binary trees.
-/
import Derived.Test.YtgajofkeidjbgaaGreatDoorGRoundEval
import Derived.Test.YtgajofkeidjbgaaGreatDoorGCompV
import Derived.Test.YtgajofkeidjbgaaGreatDoorGRegionK
import Derived.Deep.RegionHeld
namespace Go.Proofs.YtgajofkeidjbgaaGreatDoor
set_option linter.unusedSimpArgs false
set_option linter.unusedVariables false
open Go.RowKit

/-- the contract of a tree's print. -/
def PrC (x : Ex) : Prop := ∀ (L N B b : Nat) (l : List UInt8) (w : World), L ≤ 6 → NodeIn (fun g => g ≠ b) w (.iface (nodeT x) (.pointer (some ⟨N, 0, none⟩))) x → ExOk x → BdAt w B b l → l.length + costP x ≤ 1099511627776 → EnvB B w →
    Calls Tryz.prog (printF x) #[.pointer (some ⟨N, 0, none⟩), .pointer (some ⟨b, 0, none⟩), .int .i64 (L : Int)] w (PrTo B b l (printP x L) w)
theorem alloc4 {w w4 : World} {o1 o2 o3 o4 : Obj} (h : w4 = (((w.alloc o1).alloc o2).alloc o3).alloc o4) :
    Later w w4 ∧ w4.heap[w.heap.size]? = some o1 ∧ w4.heap[w.heap.size + 1]? = some o2 ∧ w4.heap[w.heap.size + 1 + 1]? = some o3 ∧ w4.heap[w.heap.size + 1 + 1 + 1]? = some o4 := by
  subst h
  have l1 := Later.alloc w o1
  have l2 := Later.alloc (w.alloc o1) o2
  have l3 := Later.alloc ((w.alloc o1).alloc o2) o3
  have l4 := Later.alloc (((w.alloc o1).alloc o2).alloc o3) o4
  exact ⟨Later.trans _ _ _ l1 (Later.trans _ _ _ l2 (Later.trans _ _ _ l3 l4)), l4.obj (l3.obj (l2.obj (obj_new w o1))), l4.obj (l3.obj (obj_at (by simp))), l4.obj (obj_at (by simp)), obj_at (by simp)⟩
theorem iface_inj {T T' : TypeId} {N N' : Nat} (h : Value.iface T (.pointer (some ⟨N, 0, none⟩)) = .iface T' (.pointer (some ⟨N', 0, none⟩))) : N = N' := by
  simp only [Value.iface.injEq, Value.pointer.injEq, Option.some.injEq, Addr.mk.injEq] at h
  exact h.2.1
set_option maxRecDepth 100000 in
set_option maxHeartbeats 1000000 in
theorem prc_lit (v : Val) : PrC (.lit v) := by
  intro L N B b l w hL hn ho hb hlen hE
  unfold NodeIn at hn
  obtain ⟨N', hNb, hN', hobj⟩ := hn
  obtain rfl := iface_inj hN'
  unfold ExOk at ho
  have hlen2 : l.length + (showV v).length ≤ 1099511627776 := by unfold costP at hlen; exact hlen
  have HO := hid ho; have HB := hid hb; have HL := hid hlen2; have HE := hid hE
  have hbB := hb.base
  have HBB := hid hbB
  have c0 : w.cell? ⟨N, 0, none⟩ = some (.int .i64 v.k) := cell_obj (i := 0) hobj rfl
  have c1 : w.cell? ⟨N, 1, none⟩ = some (.int .i64 v.n) := cell_obj (i := 1) hobj rfl
  have c2 : w.cell? ⟨N, 2, none⟩ = some (.string v.t) := cell_obj (i := 2) hobj rfl
  have hlt := cell_lt c0
  clear hlen hlen2 hL hb ho hE hobj hbB hN'
  show Calls Tryz.prog 210 _ w _
  go_enter Tryz.func210, Tryz.ntmps210
  go_wp2_with fail
  refine (show_any v w (lit_ok HO.out.2.1) HE.out.pow).mono ?_
  rintro e w1 ⟨rfl, hL1⟩
  have HL1 := hid hL1
  clear hL1 c0 c1 c2 hlt
  go_wp2_with fail
  refine (write_any B b l (showV v) w1 (HB.out.later HL1.out) (by have := HL.out; omega) (by have := HBB.out; have := HL1.out.size; omega)).mono ?_
  rintro e w2 ⟨rfl, hw⟩
  have HW := hid hw
  clear hw
  go_wp2_with fail
  refine bodyPost_end (results_none rfl _ _ _) rfl ⟨rfl, ?_⟩
  unfold printP
  exact HW.out.before (Fr.later HL1.out (by have := HBB.out; omega))
set_option maxRecDepth 100000 in
set_option maxHeartbeats 1000000 in
theorem prc_name (s : List UInt8) (p : Nat) : PrC (.name s p) := by
  intro L N B b l w hL hn ho hb hlen hE
  unfold NodeIn at hn
  obtain ⟨N', hNb, hN', hobj⟩ := hn
  obtain rfl := iface_inj hN'
  have hlen2 : l.length + s.length ≤ 1099511627776 := by unfold costP at hlen; exact hlen
  have HB := hid hb; have HL := hid hlen2
  have hbB := hb.base
  have HBB := hid hbB
  have c0 : w.cell? ⟨N, 0, none⟩ = some (.string (strB s)) := cell_obj (i := 0) hobj rfl
  have hlt := cell_lt c0
  clear hlen hlen2 hL hb ho hE hobj hbB hN'
  show Calls Tryz.prog 211 _ w _
  go_enter Tryz.func211, Tryz.ntmps211
  go_wp2_with fail
  refine (write_any B b l s w HB.out (by have := HL.out; omega) (by have := HBB.out; omega)).mono ?_
  rintro e w2 ⟨rfl, hw⟩
  have HW := hid hw
  clear hw
  go_wp2_with fail
  refine bodyPost_end (results_none rfl _ _ _) rfl ⟨rfl, ?_⟩
  unfold printP
  exact HW.out
set_option maxRecDepth 100000 in
set_option maxHeartbeats 2000000 in
/-- the closure of a unary tree's print. -/
theorem un1_any (x : Ex) (hx : PrC x) (A1 A2 A3 A4 N N' B b own : Nat) (op word l : List UInt8) (p : Value) (w : World) (ho : own ≤ 6) (hok : ExOk x)
    (h1 : w.heap[A1]? = some (.cells #[.pointer (some ⟨N, 0, none⟩)] 137 (0, 0))) (h2 : w.heap[A2]? = some (.cells #[.pointer (some ⟨b, 0, none⟩)] 54 (0, 0)))
    (h3 : w.heap[A3]? = some (.cells #[.int .i64 (own : Int)] 3 (0, 0))) (h4 : w.heap[A4]? = some (.cells #[.string (strB word)] 9 (0, 0))) (hne : A1 ≠ b ∧ A2 ≠ b ∧ A3 ≠ b ∧ A4 ≠ b ∧ N ≠ b)
    (hN : w.heap[N]? = some (.cells #[.string (strB op), p, .iface (nodeT x) (.pointer (some ⟨N', 0, none⟩))] 139 (0, 0))) (hn : NodeIn (fun g => g ≠ b) w (.iface (nodeT x) (.pointer (some ⟨N', 0, none⟩))) x)
    (hb : BdAt w B b l) (hlen : l.length + word.length + costP x ≤ 1099511627776) (hE : EnvB B w) :
    Calls Tryz.prog 193 #[.pointer (some ⟨A2, 0, none⟩), .pointer (some ⟨A4, 0, none⟩), .pointer (some ⟨A1, 0, none⟩), .pointer (some ⟨A3, 0, none⟩)] w (PrTo B b l (word ++ printP x own) w) := by
  have HX := hid hx; have HOWN := hid ho; have HNE := hid hne; have HN := hid hN; have HNO := hid hn; have HB := hid hb; have HL := hid hlen; have HE := hid hE; have H1 := hid h1; have H3 := hid h3; have H2 := hid h2; have HOK := hid hok
  have hbB := hb.base
  have HBB := hid hbB
  have c2 : w.cell? ⟨A2, 0, none⟩ = some (.pointer (some ⟨b, 0, none⟩)) := cell_obj (i := 0) h2 rfl
  have c4 : w.cell? ⟨A4, 0, none⟩ = some (.string (strB word)) := cell_obj (i := 0) h4 rfl
  clear hx ho hne hN hn hb hlen hE h1 h2 h3 h4 hbB hok
  go_enter Tryz.func193, Tryz.ntmps193
  go_wp2_with fail
  refine (write_any B b l word w HB.out (by have := HL.out; omega) (by have := HBB.out; omega)).mono ?_
  rintro e w1 ⟨rfl, hw⟩
  have HW := hid hw
  have hfr := hw.fr
  have k1 : w1.cell? ⟨A1, 0, none⟩ = some (.pointer (some ⟨N, 0, none⟩)) := cell_obj (i := 0) (hfr.obj H1.out HNE.out.1 (by decide)) rfl
  have k2 : w1.cell? ⟨A2, 0, none⟩ = some (.pointer (some ⟨b, 0, none⟩)) := cell_obj (i := 0) (hfr.obj H2.out HNE.out.2.1 (by decide)) rfl
  have k3 : w1.cell? ⟨A3, 0, none⟩ = some (.int .i64 (own : Int)) := cell_obj (i := 0) (hfr.obj H3.out HNE.out.2.2.1 (by decide)) rfl
  have kN : w1.cell? ⟨N, 2, none⟩ = some (.iface (nodeT x) (.pointer (some ⟨N', 0, none⟩))) := cell_obj (i := 2) (hfr.obj HN.out HNE.out.2.2.2.2 (by decide)) rfl
  have HNO1 := hid (NodeIn.fr hfr _ _ HNO.out)
  have HE1 := hid (HE.out.fr hfr)
  clear hw hfr c2 c4
  go_upto_region 1 with (fail)
  refine wp_region_held_drew (S := fun w => w.cell? ⟨A1, 0, none⟩ = some (.pointer (some ⟨N, 0, none⟩)) ∧ w.cell? ⟨A2, 0, none⟩ = some (.pointer (some ⟨b, 0, none⟩)) ∧ w.cell? ⟨A3, 0, none⟩ = some (.int .i64 (own : Int)) ∧ w.cell? ⟨N, 2, none⟩ = some (.iface (nodeT x) (.pointer (some ⟨N', 0, none⟩))))
    (by kernel_rfl) ⟨(Later.drew w1).cell k1, (Later.drew w1).cell k2, (Later.drew w1).cell k3, (Later.drew w1).cell kN⟩ (fun hS => ?_)
  clear k1 k2 k3 kN
  refine wpAnyH_take (i := 0) (v := .pointer (some ⟨N, 0, none⟩)) rfl (by kernel_rfl) (by kernel_rfl) (by kernel_rfl) (fun _ _ _ h => h) (Or.inl ⟨by rfl, ?_⟩) hS ?_
  · rintro w ⟨h0, -, -, -⟩
    go_simp
  refine wpAnyH_take (i := 4) (v := .pointer (some ⟨b, 0, none⟩)) rfl (by kernel_rfl) (by kernel_rfl) (by kernel_rfl) (fun _ _ _ h => h) (Or.inl ⟨by rfl, ?_⟩) hS ?_
  · rintro w ⟨-, h0, -, -⟩
    go_simp
  refine wpAnyH_take (i := 5) (v := .int .i64 (own : Int)) rfl (by kernel_rfl) (by kernel_rfl) (by kernel_rfl) (fun _ _ _ h => h) (Or.inl ⟨by rfl, ?_⟩) hS ?_
  · rintro w ⟨-, -, h0, -⟩
    go_simp
  try simp only [Act.put, List.setIfInBounds_toArray, List.set]
  refine wpAnyH_take (i := 1) (v := .pointer (some ⟨N, 0, none⟩)) rfl (by kernel_rfl) (by kernel_rfl) (by kernel_rfl) (fun _ _ _ h => h) (Or.inl ⟨by rfl, ?_⟩) hS ?_
  · rintro w ⟨-, -, -, h0⟩
    have := cell_lt h0
    go_simp
  try simp only [Act.put, List.setIfInBounds_toArray, List.set]
  refine wpAnyH_take (i := 2) (v := .pointer (some ⟨N, 2, none⟩)) rfl (by kernel_rfl) (by kernel_rfl) (by kernel_rfl) (fun _ _ _ h => h) (Or.inl ⟨by rfl, ?_⟩) hS ?_
  · rintro w ⟨-, -, -, h0⟩
    have := cell_lt h0
    go_simp
  try simp only [Act.put, List.setIfInBounds_toArray, List.set]
  refine wpAnyH_take (i := 3) (v := .iface (nodeT x) (.pointer (some ⟨N', 0, none⟩))) rfl (by kernel_rfl) (by kernel_rfl) (by kernel_rfl) (fun _ _ _ h => h) (Or.inl ⟨by rfl, ?_⟩) hS ?_
  · rintro w ⟨-, -, -, h0⟩
    go_simp
  try simp only [Act.put, List.setIfInBounds_toArray, List.set]
  refine wpAnyH_ready (rs := [6]) (by kernel_rfl) (by simp) (AllReadyH.cons rfl (fun K hK => ?_) AllReadyH.nil)
  rw [if_pos (by rfl)]
  refine oper_print _ _ _ rfl (x := x) (N := N') rfl rfl rfl ?_
  have hLD : Later w1 w1.drew := Later.drew w1
  refine (HX.out own N' B b (l ++ word) w1.drew HOWN.out (NodeIn.fr (Fr.later hLD (by have := HBB.out; have := HW.out.fr.size; omega)) _ _ HNO1.out) HOK.out (HW.out.at_.later hLD) (by have := HL.out; simp only [List.length_append]; omega) (HE1.out.fr (b := b) (Fr.later hLD (by have := HBB.out; have := HW.out.fr.size; omega)))).mono ?_
  rintro e w2 ⟨rfl, hw⟩
  have HW2 := hid (hw.before (Fr.later hLD (by have := HBB.out; have := HW.out.fr.size; omega)))
  have hS2 : True := trivial
  refine ⟨rfl, hK.out _ _ ?_ (fun hS => ?_)⟩
  · have hfr := HW2.out.fr
    have h := HW.out.fr.trans hfr
    exact ⟨cell_obj (i := 0) (h.obj H1.out HNE.out.1 (by decide)) rfl, cell_obj (i := 0) (h.obj H2.out HNE.out.2.1 (by decide)) rfl, cell_obj (i := 0) (h.obj H3.out HNE.out.2.2.1 (by decide)) rfl, cell_obj (i := 2) (h.obj HN.out HNE.out.2.2.2.2 (by decide)) rfl⟩
  clear hK K hw
  refine wpAnyH_done (by kernel_rfl) ?_ _
  try simp only [Act.put, List.setIfInBounds_toArray, List.set]
  go_wp2_with fail
  exact bodyPost_end (results_none rfl _ _ _) rfl ⟨rfl, HW.out.of HW2.out⟩
set_option maxRecDepth 100000 in
set_option maxHeartbeats 2000000 in
theorem prc_un (neg : Bool) (p : Nat) (x : Ex) (hx : PrC x) : PrC (.un neg p x) := by
  intro L N B b l w hL hn ho hb hlen hE
  unfold NodeIn at hn
  obtain ⟨N1, u, hNb, hN', hobj, hsub⟩ := hn
  obtain rfl := iface_inj hN'
  obtain ⟨N', rfl⟩ := hsub.ptr
  unfold ExOk at ho
  have hlen2 : l.length + (6 + costP x) ≤ 1099511627776 := by unfold costP at hlen; exact hlen
  have HX := hid hx; have HB := hid hb; have HL := hid hlen2; have HE := hid hE; have HO := hid ho; have HSUB := hid hsub; have HOBJ := hid hobj; have HNB := hid hNb
  have hbB := hb.base
  have HBB := hid hbB
  have c0 : w.cell? ⟨N, 0, none⟩ = some (.string (strB (opW neg))) := cell_obj (i := 0) hobj rfl
  have hlt := cell_lt c0
  clear hlen hlen2 hb ho hE hobj hbB hN' hsub hx hNb
  show Calls Tryz.prog 191 _ w _
  cases neg with
  | true =>
    rw [show opW true = [45] from rfl] at c0
    go_enter Tryz.func191, Tryz.ntmps191
    go_upto_region 2 with (fail)
    obtain ⟨w4, hw4⟩ : ∃ w4, w4 = ((((w.alloc (.cells #[.pointer (some ⟨N, 0, none⟩)] 137)).alloc (.cells #[.pointer (some ⟨b, 0, none⟩)] 54)).alloc (.cells #[.int .i64 5] 3)).alloc (.cells #[.string (strB [45])] 9)) := ⟨_, rfl⟩
    obtain ⟨hL4, o1, o2, o3, o4⟩ := alloc4 hw4
    rw [show ((((w.alloc (.cells #[.pointer (some ⟨N, 0, none⟩)] 137)).alloc (.cells #[.pointer (some ⟨b, 0, none⟩)] 54)).alloc (.cells #[.int .i64 5] 3)).alloc (.cells #[.string ⟨#[45]⟩] 9)) = w4 from hw4.symm]
    have HL4 := hid hL4
    have O1 := hid o1; have O2 := hid o2; have O3 := hid o3; have O4 := hid o4
    have HOBJ4 := hid (hL4.obj HOBJ.out)
    have k0 : w4.cell? ⟨N, 0, none⟩ = some (.string ⟨#[45]⟩) := hL4.cell c0
    have k1 : w4.cell? ⟨w.heap.size, 0, none⟩ = some (.pointer (some ⟨N, 0, none⟩)) := cell_obj (i := 0) o1 rfl
    have k2 : w4.cell? ⟨w.heap.size + 1, 0, none⟩ = some (.pointer (some ⟨b, 0, none⟩)) := cell_obj (i := 0) o2 rfl
    have k3 : w4.cell? ⟨w.heap.size + 1 + 1, 0, none⟩ = some (.int .i64 5) := cell_obj (i := 0) o3 rfl
    have hlt4 := cell_lt k0
    have HFR : Hid (Fr B b w w4) := hid (Fr.later hL4 (by have := HBB.out; omega))
    have hbr : ∀ nd, Calls Tryz.prog 192 #[.pointer (some ⟨b, 0, none⟩), .bool nd, .func (.func 193) #[] #[.pointer (some ⟨w.heap.size + 1, 0, none⟩), .pointer (some ⟨w.heap.size + 1 + 1 + 1, 0, none⟩), .pointer (some ⟨w.heap.size, 0, none⟩), .pointer (some ⟨w.heap.size + 1 + 1, 0, none⟩)]] w4 (PrTo B b l (brk nd ([45] ++ printP x 5)) w4) := by
      intro nd
      have hpl := print_len x 5
      refine bracket_any _ (enters_of Tryz.func193 (by kernel_rfl) rfl) _ nd B b l _ w4 (HB.out.later HL4.out) (by have := HBB.out; have := HL4.out.size; omega) (by have := HL.out; simp only [List.length_append, List.length_cons, List.length_nil]; omega) (fun w5 hf5 hb5 => ?_)
      have hb : b < w.heap.size := HBB.out.2
      refine un1_any x HX.out w.heap.size (w.heap.size + 1) (w.heap.size + 1 + 1) (w.heap.size + 1 + 1 + 1) N N' B b 5 (opW true) [45] _ _ w5 (by omega) HO.out (hf5.obj O1.out (by omega) (by decide)) (hf5.obj O2.out (by omega) (by decide)) (hf5.obj O3.out (by omega) (by decide)) (hf5.obj O4.out (by omega) (by decide)) ⟨by omega, by omega, by omega, by omega, HNB.out⟩
        (hf5.obj HOBJ4.out HNB.out (by decide)) (NodeIn.fr (HFR.out.trans hf5) _ _ HSUB.out) hb5 ?_ (HE.out.fr (HFR.out.trans hf5))
      have := HL.out
      have hbo : (brkO nd).length ≤ 1 := by cases nd <;> decide
      simp only [List.length_append, List.length_cons, List.length_nil]
      omega
    have HBR := hid hbr
    clear hbr hw4 hL4 o1 o2 o3 o4 c0 hlt
    go_wp2_with fail
    refine (HBR.out _).mono ?_
    rintro e w6 ⟨rfl, hw⟩
    have HW := hid hw
    clear hw
    go_wp2_with fail
    refine bodyPost_end (results_none rfl _ _ _) rfl ⟨rfl, ?_⟩
    have h := HW.out.before HFR.out
    unfold printP
    have e : decide ((5 : Int) < L) = decide ((if true = true then 5 else 2) < L) := by
      rw [decide_eq_decide]
      simp
      omega
    rw [← e]
    exact h
  | false =>
    rw [show opW false = [110, 111, 116] from rfl] at c0
    go_enter Tryz.func191, Tryz.ntmps191
    go_upto_region 2 with (fail)
    obtain ⟨w4, hw4⟩ : ∃ w4, w4 = ((((w.alloc (.cells #[.pointer (some ⟨N, 0, none⟩)] 137)).alloc (.cells #[.pointer (some ⟨b, 0, none⟩)] 54)).alloc (.cells #[.int .i64 5] 3)).alloc (.cells #[.string (strB [45])] 9)) := ⟨_, rfl⟩
    obtain ⟨hL4, o1, o2, o3, o4⟩ := alloc4 hw4
    rw [show ((((w.alloc (.cells #[.pointer (some ⟨N, 0, none⟩)] 137)).alloc (.cells #[.pointer (some ⟨b, 0, none⟩)] 54)).alloc (.cells #[.int .i64 5] 3)).alloc (.cells #[.string ⟨#[45]⟩] 9)) = w4 from hw4.symm]
    obtain ⟨w5, hw5⟩ : ∃ w5, w5 = (w4.setCell ⟨w.heap.size + 1 + 1, 0, none⟩ (.int .i64 2)).setCell ⟨w.heap.size + 1 + 1 + 1, 0, none⟩ (.string (strB [110, 111, 116, 32])) := ⟨_, rfl⟩
    have hk5 : Keeps (fun g => g < w.heap.size + 1 + 1) w4 w5 := by
      rw [hw5]
      exact (((Keeps.refl _ w4).setCell (p := ⟨w.heap.size + 1 + 1, 0, none⟩) (.inl (by simp)) _).setCell (p := ⟨w.heap.size + 1 + 1 + 1, 0, none⟩) (.inl (by simp)) _)
    have o3' : w5.heap[w.heap.size + 1 + 1]? = some (.cells #[.int .i64 ((2 : Nat) : Int)] 3 (0, 0)) := by
      rw [hw5]
      exact ((Keeps.refl (fun g => g ≠ w.heap.size + 1 + 1 + 1) _).setCell (p := ⟨w.heap.size + 1 + 1 + 1, 0, none⟩) (.inl fun h => h rfl) _).obj (by omega) (obj_setCell (i := 0) o3 _)
    have o4' : w5.heap[w.heap.size + 1 + 1 + 1]? = some (.cells #[.string (strB [110, 111, 116, 32])] 9 (0, 0)) := by
      rw [hw5]
      exact obj_setCell (i := 0) (((Keeps.refl (fun g => g ≠ w.heap.size + 1 + 1) w4).setCell (p := ⟨w.heap.size + 1 + 1, 0, none⟩) (.inl fun h => h rfl) _).obj (by omega) o4) _
    have hfr5 : Fr B b w w5 := Fr.later (((hL4.keeps (fun _ => True)).under (hk5.mono fun g _ hg => by omega)).later) (by have := HBB.out; omega)
    have hL5 : Later w w5 := ((hL4.keeps (fun _ => True)).under (hk5.mono fun g _ hg => by omega)).later
    have HL5 := hid hL5
    have O1 := hid (hk5.obj (by omega) o1); have O2 := hid (hk5.obj (by omega) o2); have O3 := hid o3'; have O4 := hid o4'
    have HOBJ4 := hid (hL5.obj HOBJ.out)
    have k0 : w4.cell? ⟨N, 0, none⟩ = some (.string ⟨#[110, 111, 116]⟩) := hL4.cell c0
    have k1 : w4.cell? ⟨w.heap.size, 0, none⟩ = some (.pointer (some ⟨N, 0, none⟩)) := cell_obj (i := 0) o1 rfl
    have k3 : w4.cell? ⟨w.heap.size + 1 + 1, 0, none⟩ = some (.int .i64 5) := cell_obj (i := 0) o3 rfl
    have k4 : w4.cell? ⟨w.heap.size + 1 + 1 + 1, 0, none⟩ = some (.string (strB [45])) := cell_obj (i := 0) o4 rfl
    have z3 := free_obj (i := 0) o3
    have z4 := free_obj (i := 0) o4
    have j2 : w5.cell? ⟨w.heap.size + 1, 0, none⟩ = some (.pointer (some ⟨b, 0, none⟩)) := cell_obj (i := 0) O2.out rfl
    have j3 : w5.cell? ⟨w.heap.size + 1 + 1, 0, none⟩ = some (.int .i64 2) := cell_obj (i := 0) O3.out rfl
    have hlt4 := cell_lt k0
    have hlt3 := cell_lt k3
    have hlt5 := cell_lt k4
    have HFR := hid hfr5
    have hbr : ∀ nd, Calls Tryz.prog 192 #[.pointer (some ⟨b, 0, none⟩), .bool nd, .func (.func 193) #[] #[.pointer (some ⟨w.heap.size + 1, 0, none⟩), .pointer (some ⟨w.heap.size + 1 + 1 + 1, 0, none⟩), .pointer (some ⟨w.heap.size, 0, none⟩), .pointer (some ⟨w.heap.size + 1 + 1, 0, none⟩)]] w5 (PrTo B b l (brk nd ([110, 111, 116, 32] ++ printP x 2)) w5) := by
      intro nd
      have hpl := print_len x 2
      refine bracket_any _ (enters_of Tryz.func193 (by kernel_rfl) rfl) _ nd B b l _ w5 (HB.out.later HL5.out) (by have := HBB.out; have := HL5.out.size; omega) (by have := HL.out; simp only [List.length_append, List.length_cons, List.length_nil]; omega) (fun w6 hf5 hb5 => ?_)
      have hb : b < w.heap.size := HBB.out.2
      refine un1_any x HX.out w.heap.size (w.heap.size + 1) (w.heap.size + 1 + 1) (w.heap.size + 1 + 1 + 1) N N' B b 2 (opW false) [110, 111, 116, 32] _ _ w6 (by omega) HO.out (hf5.obj O1.out (by omega) (by decide)) (hf5.obj O2.out (by omega) (by decide)) (hf5.obj O3.out (by omega) (by decide)) (hf5.obj O4.out (by omega) (by decide)) ⟨by omega, by omega, by omega, by omega, HNB.out⟩
        (hf5.obj HOBJ4.out HNB.out (by decide)) (NodeIn.fr (HFR.out.trans hf5) _ _ HSUB.out) hb5 ?_ (HE.out.fr (HFR.out.trans hf5))
      have := HL.out
      have hbo : (brkO nd).length ≤ 1 := by cases nd <;> decide
      simp only [List.length_append, List.length_cons, List.length_nil]
      omega
    have HBR := hid hbr
    have HW5 := hid hw5
    clear hbr hw4 hL4 o1 o2 o3 o4 c0 hlt hw5 hk5 o3' o4' hfr5 hL5
    go_upto_region 4 with (fail)
    rw [show (w4.setCell ⟨w.heap.size + 1 + 1, 0, none⟩ (.int .i64 2)).setCell ⟨w.heap.size + 1 + 1 + 1, 0, none⟩ (.string ⟨#[110, 111, 116, 32]⟩) = w5 from HW5.out.symm]
    go_wp2_with fail
    refine (HBR.out _).mono ?_
    rintro e w6 ⟨rfl, hw⟩
    have HW := hid hw
    clear hw
    go_wp2_with fail
    refine bodyPost_end (results_none rfl _ _ _) rfl ⟨rfl, ?_⟩
    have h := HW.out.before HFR.out
    unfold printP
    have e : decide ((2 : Int) < L) = decide ((if false = true then 5 else 2) < L) := by
      rw [decide_eq_decide]
      simp
      omega
    rw [← e]
    exact h
end Go.Proofs.YtgajofkeidjbgaaGreatDoor
namespace Go.Proofs.YtgajofkeidjbgaaGreatDoor
set_option linter.unusedSimpArgs false
set_option linter.unusedVariables false
open Go.RowKit

/-- one of the two parts of a binary tree is written: the contract for a world behind the draw. -/
theorem sub_print {x : Ex} (hx : PrC x) {N' B b L : Nat} {l : List UInt8} {w : World} (hL : L ≤ 6) (hok : ExOk x) (hn : NodeIn (fun g => g ≠ b) w (.iface (nodeT x) (.pointer (some ⟨N', 0, none⟩))) x) (hb : BdAt w B b l) (hlen : l.length + costP x ≤ 1099511627776) (hE : EnvB B w) :
    Calls Tryz.prog (printF x) #[.pointer (some ⟨N', 0, none⟩), .pointer (some ⟨b, 0, none⟩), .int .i64 (L : Int)] w.drew (PrTo B b l (printP x L) w) := by
  have hbB := hb.base
  have hf : Fr B b w w.drew := Fr.later (Later.drew w) (by omega)
  refine (hx L N' B b l w.drew hL (NodeIn.fr hf _ _ hn) hok (hb.later (Later.drew w)) hlen (hE.fr hf)).mono ?_
  rintro e w' ⟨rfl, hw⟩
  exact ⟨rfl, hw.before hf⟩
theorem cat3 (o : List UInt8) : (⟨#[32]⟩ : ByteArray) ++ strB o ++ ⟨#[32]⟩ = strB (32 :: (o ++ [32])) := by
  rw [show (⟨#[32]⟩ : ByteArray) = strB [32] from rfl, strB_append, strB_append]
  rfl
set_option maxRecDepth 100000 in
set_option maxHeartbeats 4000000 in
theorem bin1_any (x y : Ex) (hx : PrC x) (hy : PrC y) (A1 A2 A3 A4 N N1 N2 B b own left : Nat) (op l : List UInt8) (p : Value) (w : World) (ho : own ≤ 5) (hlf : left ≤ 6) (hokx : ExOk x) (hoky : ExOk y)
    (h1 : w.heap[A1]? = some (.cells #[.pointer (some ⟨N, 0, none⟩)] 140 (0, 0))) (h2 : w.heap[A2]? = some (.cells #[.pointer (some ⟨b, 0, none⟩)] 54 (0, 0)))
    (h3 : w.heap[A3]? = some (.cells #[.int .i64 (left : Int)] 3 (0, 0))) (h4 : w.heap[A4]? = some (.cells #[.int .i64 (own : Int)] 3 (0, 0))) (hne : A1 ≠ b ∧ A2 ≠ b ∧ A3 ≠ b ∧ A4 ≠ b ∧ N ≠ b)
    (hN : w.heap[N]? = some (.cells #[.string (strB op), p, .iface (nodeT x) (.pointer (some ⟨N1, 0, none⟩)), .iface (nodeT y) (.pointer (some ⟨N2, 0, none⟩))] 142 (0, 0)))
    (hn1 : NodeIn (fun g => g ≠ b) w (.iface (nodeT x) (.pointer (some ⟨N1, 0, none⟩))) x) (hn2 : NodeIn (fun g => g ≠ b) w (.iface (nodeT y) (.pointer (some ⟨N2, 0, none⟩))) y)
    (hb : BdAt w B b l) (hlen : l.length + op.length + 2 + costP x + costP y ≤ 1099511627776) (hE : EnvB B w) :
    Calls Tryz.prog 198 #[.pointer (some ⟨A1, 0, none⟩), .pointer (some ⟨A2, 0, none⟩), .pointer (some ⟨A3, 0, none⟩), .pointer (some ⟨A4, 0, none⟩)] w (PrTo B b l (printP x left ++ (32 :: (op ++ [32]) ++ printP y (own + 1))) w) := by
  have HX := hid hx; have HY := hid hy; have HOWN := hid ho; have HLF := hid hlf; have HNE := hid hne; have HN := hid hN; have HN1 := hid hn1; have HN2 := hid hn2; have HB := hid hb; have HL := hid hlen; have HE := hid hE; have H1 := hid h1; have H3 := hid h3; have H2 := hid h2; have H4 := hid h4; have HOKX := hid hokx; have HOKY := hid hoky
  have hbB := hb.base
  have HBB := hid hbB
  have facts : ∀ w', Fr B b w w' → w'.cell? ⟨A1, 0, none⟩ = some (.pointer (some ⟨N, 0, none⟩)) ∧ w'.cell? ⟨A2, 0, none⟩ = some (.pointer (some ⟨b, 0, none⟩)) ∧ w'.cell? ⟨A3, 0, none⟩ = some (.int .i64 (left : Int)) ∧ w'.cell? ⟨A4, 0, none⟩ = some (.int .i64 (own : Int)) ∧
      w'.cell? ⟨N, 0, none⟩ = some (.string (strB op)) ∧ w'.cell? ⟨N, 2, none⟩ = some (.iface (nodeT x) (.pointer (some ⟨N1, 0, none⟩))) ∧ w'.cell? ⟨N, 3, none⟩ = some (.iface (nodeT y) (.pointer (some ⟨N2, 0, none⟩))) := fun w' h =>
    have hNb := h.obj HN.out HNE.out.2.2.2.2 (by decide)
    ⟨cell_obj (i := 0) (h.obj H1.out HNE.out.1 (by decide)) rfl, cell_obj (i := 0) (h.obj H2.out HNE.out.2.1 (by decide)) rfl, cell_obj (i := 0) (h.obj H3.out HNE.out.2.2.1 (by decide)) rfl, cell_obj (i := 0) (h.obj H4.out HNE.out.2.2.2.1 (by decide)) rfl,
      cell_obj (i := 0) hNb rfl, cell_obj (i := 2) hNb rfl, cell_obj (i := 3) hNb rfl⟩
  have HF := hid facts
  have hlx := print_len x left
  have HLX := hid hlx
  clear hx hy ho hlf hne hN hn1 hn2 hb hlen hE h1 h2 h3 h4 hbB hokx hoky facts hlx
  have hfD : Fr B b w w.drew := Fr.later (Later.drew w) (by have := HBB.out; omega)
  have HFD := hid hfD
  clear hfD
  go_enter Tryz.func198, Tryz.ntmps198
  go_upto_region 0 with (fail)
  refine wp_region_held_drew (S := fun w => w.cell? ⟨A1, 0, none⟩ = some (.pointer (some ⟨N, 0, none⟩)) ∧ w.cell? ⟨A2, 0, none⟩ = some (.pointer (some ⟨b, 0, none⟩)) ∧ w.cell? ⟨A3, 0, none⟩ = some (.int .i64 (left : Int)) ∧ w.cell? ⟨N, 2, none⟩ = some (.iface (nodeT x) (.pointer (some ⟨N1, 0, none⟩))))
    (by kernel_rfl) (by have h := HF.out _ HFD.out; exact ⟨h.1, h.2.1, h.2.2.1, h.2.2.2.2.2.1⟩) (fun hS => ?_)
  refine wpAnyH_take (i := 0) (v := .pointer (some ⟨N, 0, none⟩)) rfl (by kernel_rfl) (by kernel_rfl) (by kernel_rfl) (fun _ _ _ h => h) (Or.inl ⟨by rfl, ?_⟩) hS ?_
  · rintro w ⟨h0, -, -, -⟩
    go_simp
  refine wpAnyH_take (i := 4) (v := .pointer (some ⟨b, 0, none⟩)) rfl (by kernel_rfl) (by kernel_rfl) (by kernel_rfl) (fun _ _ _ h => h) (Or.inl ⟨by rfl, ?_⟩) hS ?_
  · rintro w ⟨-, h0, -, -⟩
    go_simp
  refine wpAnyH_take (i := 5) (v := .int .i64 (left : Int)) rfl (by kernel_rfl) (by kernel_rfl) (by kernel_rfl) (fun _ _ _ h => h) (Or.inl ⟨by rfl, ?_⟩) hS ?_
  · rintro w ⟨-, -, h0, -⟩
    go_simp
  try simp only [Act.put, List.setIfInBounds_toArray, List.set]
  refine wpAnyH_take (i := 1) (v := .pointer (some ⟨N, 0, none⟩)) rfl (by kernel_rfl) (by kernel_rfl) (by kernel_rfl) (fun _ _ _ h => h) (Or.inl ⟨by rfl, ?_⟩) hS ?_
  · rintro w ⟨-, -, -, h0⟩
    have := cell_lt h0
    go_simp
  try simp only [Act.put, List.setIfInBounds_toArray, List.set]
  refine wpAnyH_take (i := 2) (v := .pointer (some ⟨N, 2, none⟩)) rfl (by kernel_rfl) (by kernel_rfl) (by kernel_rfl) (fun _ _ _ h => h) (Or.inl ⟨by rfl, ?_⟩) hS ?_
  · rintro w ⟨-, -, -, h0⟩
    have := cell_lt h0
    go_simp
  try simp only [Act.put, List.setIfInBounds_toArray, List.set]
  refine wpAnyH_take (i := 3) (v := .iface (nodeT x) (.pointer (some ⟨N1, 0, none⟩))) rfl (by kernel_rfl) (by kernel_rfl) (by kernel_rfl) (fun _ _ _ h => h) (Or.inl ⟨by rfl, ?_⟩) hS ?_
  · rintro w ⟨-, -, -, h0⟩
    go_simp
  try simp only [Act.put, List.setIfInBounds_toArray, List.set]
  refine wpAnyH_ready (rs := [6]) (by kernel_rfl) (by simp) (AllReadyH.cons rfl (fun K hK => ?_) AllReadyH.nil)
  rw [if_pos (by rfl)]
  refine oper_print _ _ _ rfl (x := x) (N := N1) rfl rfl rfl ?_
  refine (sub_print HX.out HLF.out HOKX.out HN1.out HB.out (by have := HL.out; omega) HE.out).mono ?_
  rintro e w1 ⟨rfl, hw⟩
  have HW1 := hid hw
  clear hw hS
  refine ⟨rfl, hK.out _ _ (by have h := HF.out _ HW1.out.fr; exact ⟨h.1, h.2.1, h.2.2.1, h.2.2.2.2.2.1⟩) (fun hS => ?_)⟩
  clear hK K hS
  refine wpAnyH_done (by kernel_rfl) ?_ _
  try simp only [Act.put, List.setIfInBounds_toArray, List.set]
  have HFD1 : Hid (Fr B b w w1.drew) := hid (HW1.out.fr.trans (Fr.later (Later.drew w1) (by have := HBB.out; have := HW1.out.fr.size; omega)))
  go_upto_region 1 with (fail)
  refine wp_region_held_drew (S := fun w => w.cell? ⟨A1, 0, none⟩ = some (.pointer (some ⟨N, 0, none⟩)) ∧ w.cell? ⟨A2, 0, none⟩ = some (.pointer (some ⟨b, 0, none⟩)) ∧ w.cell? ⟨N, 0, none⟩ = some (.string (strB op)))
    (by kernel_rfl) (by have h := HF.out _ HFD1.out; exact ⟨h.1, h.2.1, h.2.2.2.2.1⟩) (fun hS => ?_)
  refine wpAnyH_take (i := 0) (v := .pointer (some ⟨b, 0, none⟩)) rfl (by kernel_rfl) (by kernel_rfl) (by kernel_rfl) (fun _ _ _ h => h) (Or.inl ⟨by rfl, ?_⟩) hS ?_
  · rintro w ⟨-, h0, -⟩
    go_simp
  refine wpAnyH_take (i := 1) (v := .pointer (some ⟨N, 0, none⟩)) rfl (by kernel_rfl) (by kernel_rfl) (by kernel_rfl) (fun _ _ _ h => h) (Or.inl ⟨by rfl, ?_⟩) hS ?_
  · rintro w ⟨h0, -, -⟩
    go_simp
  try simp only [Act.put, List.setIfInBounds_toArray, List.set]
  refine wpAnyH_take (i := 2) (v := .pointer (some ⟨N, 0, none⟩)) rfl (by kernel_rfl) (by kernel_rfl) (by kernel_rfl) (fun _ _ _ h => h) (Or.inl ⟨by rfl, ?_⟩) hS ?_
  · rintro w ⟨-, -, h0⟩
    have := cell_lt h0
    go_simp
  try simp only [Act.put, List.setIfInBounds_toArray, List.set]
  refine wpAnyH_take (i := 3) (v := .pointer (some ⟨N, 0, none⟩)) rfl (by kernel_rfl) (by kernel_rfl) (by kernel_rfl) (fun _ _ _ h => h) (Or.inl ⟨by rfl, ?_⟩) hS ?_
  · rintro w ⟨-, -, h0⟩
    have := cell_lt h0
    go_simp
  try simp only [Act.put, List.setIfInBounds_toArray, List.set]
  refine wpAnyH_take (i := 4) (v := .string (strB op)) rfl (by kernel_rfl) (by kernel_rfl) (by kernel_rfl) (fun _ _ _ h => h) (Or.inl ⟨by rfl, ?_⟩) hS ?_
  · rintro w ⟨-, -, h0⟩
    go_simp
  try simp only [Act.put, List.setIfInBounds_toArray, List.set]
  refine wpAnyH_take (i := 5) (v := .string (⟨#[32]⟩ ++ strB op)) rfl (by kernel_rfl) (by kernel_rfl) (by kernel_rfl) (fun _ _ _ h => h) (Or.inl ⟨by rfl, ?_⟩) hS ?_
  · intro w hS
    clear hS
    have hsz : 1 + (strB op).size ≤ 9223372036854775807 := by have := HL.out; rw [strB_size]; omega
    go_simp
  try simp only [Act.put, List.setIfInBounds_toArray, List.set]
  refine wpAnyH_take (i := 6) (v := .string (strB (32 :: (op ++ [32])))) rfl (by kernel_rfl) (by kernel_rfl) (by kernel_rfl) (fun _ _ _ h => h) (Or.inl ⟨by rfl, ?_⟩) hS ?_
  · intro w hS
    clear hS
    have hsz : 1 + (strB op).size + 1 ≤ 9223372036854775807 := by have := HL.out; rw [strB_size]; omega
    have hc := cat3 op
    go_simp
  try simp only [Act.put, List.setIfInBounds_toArray, List.set]
  refine wpAnyH_ready (rs := [7]) (by kernel_rfl) (by simp) (AllReadyH.cons rfl (fun K hK => ?_) AllReadyH.nil)
  go_simp
  refine (write_any B b (l ++ printP x left) (32 :: (op ++ [32])) w1.drew (HW1.out.at_.later (Later.drew w1)) (by have := HL.out; have := HLX.out; simp only [List.length_append, List.length_cons, List.length_nil]; omega) (by have := HBB.out; have h := HFD1.out.size; omega)).mono ?_
  rintro e w2 ⟨rfl, hw⟩
  have HW2 := hid (hw.before (Fr.later (Later.drew w1) (by have := HBB.out; have := HW1.out.fr.size; omega)))
  clear hw hS
  refine hK.out _ _ (by have h := HF.out _ (HW1.out.fr.trans HW2.out.fr); exact ⟨h.1, h.2.1, h.2.2.2.2.1⟩) (fun hS => ?_)
  clear hK K hS
  refine wpAnyH_done (by kernel_rfl) ?_ _
  try simp only [Act.put, List.setIfInBounds_toArray, List.set]
  have HFD2 : Hid (Fr B b w w2.drew) := hid ((HW1.out.fr.trans HW2.out.fr).trans (Fr.later (Later.drew w2) (by have := HBB.out; have := HW1.out.fr.size; have := HW2.out.fr.size; omega)))
  go_upto_region 2 with (fail)
  refine wp_region_held_drew (S := fun w => w.cell? ⟨A1, 0, none⟩ = some (.pointer (some ⟨N, 0, none⟩)) ∧ w.cell? ⟨A2, 0, none⟩ = some (.pointer (some ⟨b, 0, none⟩)) ∧ w.cell? ⟨A4, 0, none⟩ = some (.int .i64 (own : Int)) ∧ w.cell? ⟨N, 3, none⟩ = some (.iface (nodeT y) (.pointer (some ⟨N2, 0, none⟩))))
    (by kernel_rfl) (by have h := HF.out _ HFD2.out; exact ⟨h.1, h.2.1, h.2.2.2.1, h.2.2.2.2.2.2⟩) (fun hS => ?_)
  refine wpAnyH_take (i := 0) (v := .pointer (some ⟨N, 0, none⟩)) rfl (by kernel_rfl) (by kernel_rfl) (by kernel_rfl) (fun _ _ _ h => h) (Or.inl ⟨by rfl, ?_⟩) hS ?_
  · rintro w ⟨h0, -, -, -⟩
    go_simp
  refine wpAnyH_take (i := 4) (v := .pointer (some ⟨b, 0, none⟩)) rfl (by kernel_rfl) (by kernel_rfl) (by kernel_rfl) (fun _ _ _ h => h) (Or.inl ⟨by rfl, ?_⟩) hS ?_
  · rintro w ⟨-, h0, -, -⟩
    go_simp
  refine wpAnyH_take (i := 5) (v := .int .i64 (own : Int)) rfl (by kernel_rfl) (by kernel_rfl) (by kernel_rfl) (fun _ _ _ h => h) (Or.inl ⟨by rfl, ?_⟩) hS ?_
  · rintro w ⟨-, -, h0, -⟩
    go_simp
  try simp only [Act.put, List.setIfInBounds_toArray, List.set]
  refine wpAnyH_take (i := 1) (v := .pointer (some ⟨N, 0, none⟩)) rfl (by kernel_rfl) (by kernel_rfl) (by kernel_rfl) (fun _ _ _ h => h) (Or.inl ⟨by rfl, ?_⟩) hS ?_
  · rintro w ⟨-, -, -, h0⟩
    have := cell_lt h0
    go_simp
  try simp only [Act.put, List.setIfInBounds_toArray, List.set]
  refine wpAnyH_take (i := 2) (v := .pointer (some ⟨N, 3, none⟩)) rfl (by kernel_rfl) (by kernel_rfl) (by kernel_rfl) (fun _ _ _ h => h) (Or.inl ⟨by rfl, ?_⟩) hS ?_
  · rintro w ⟨-, -, -, h0⟩
    have := cell_lt h0
    go_simp
  try simp only [Act.put, List.setIfInBounds_toArray, List.set]
  refine wpAnyH_take (i := 3) (v := .iface (nodeT y) (.pointer (some ⟨N2, 0, none⟩))) rfl (by kernel_rfl) (by kernel_rfl) (by kernel_rfl) (fun _ _ _ h => h) (Or.inl ⟨by rfl, ?_⟩) hS ?_
  · rintro w ⟨-, -, -, h0⟩
    go_simp
  try simp only [Act.put, List.setIfInBounds_toArray, List.set]
  refine wpAnyH_take (i := 6) (v := .int .i64 ((own + 1 : Nat) : Int)) rfl (by kernel_rfl) (by kernel_rfl) (by kernel_rfl) (fun _ _ _ h => h) (Or.inl ⟨by rfl, ?_⟩) hS ?_
  · intro w hS
    clear hS
    have hwr : IntKind.i64.wrap ((own : Int) + 1) = ((own + 1 : Nat) : Int) := by have := HOWN.out; rw [IntKind.wrap_i64]; omega
    go_simp
  try simp only [Act.put, List.setIfInBounds_toArray, List.set]
  refine wpAnyH_ready (rs := [7]) (by kernel_rfl) (by simp) (AllReadyH.cons rfl (fun K hK => ?_) AllReadyH.nil)
  rw [if_pos (by rfl)]
  refine oper_print _ _ _ rfl (x := y) (N := N2) rfl rfl rfl ?_
  have hwr2 := HW1.out.of HW2.out
  refine (sub_print HY.out (by have := HOWN.out; omega) HOKY.out (NodeIn.fr hwr2.fr _ _ HN2.out) hwr2.at_ (by have := HL.out; have := HLX.out; simp only [List.length_append, List.length_cons, List.length_nil]; omega) (HE.out.fr hwr2.fr)).mono ?_
  rintro e w3 ⟨rfl, hw⟩
  have HW3 := hid (hwr2.of hw)
  clear hw hS hwr2
  refine ⟨rfl, hK.out _ _ (by have h := HF.out _ HW3.out.fr; exact ⟨h.1, h.2.1, h.2.2.2.1, h.2.2.2.2.2.2⟩) (fun hS => ?_)⟩
  clear hK K hS
  refine wpAnyH_done (by kernel_rfl) ?_ _
  try simp only [Act.put, List.setIfInBounds_toArray, List.set]
  go_wp2_with fail
  refine bodyPost_end (results_none rfl _ _ _) rfl ⟨rfl, ?_⟩
  have h := HW3.out
  rw [List.append_assoc] at h
  simpa using h
end Go.Proofs.YtgajofkeidjbgaaGreatDoor
