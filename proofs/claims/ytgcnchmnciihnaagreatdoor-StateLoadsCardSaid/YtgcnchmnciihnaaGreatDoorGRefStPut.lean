/-
  PROVED HERE: the contract of the document's Put.
-/
import Derived.Test.YtgcnchmnciihnaaGreatDoorGRefValid
import Derived.Test.YtgcnchmnciihnaaGreatDoorGPutLaws
import Derived.Test.YtgcnchmnciihnaaGreatDoorGWinPlain
import Derived.Test.YtgcnchmnciihnaaGreatDoorGAppX
import Derived.Test.YtgcnchmnciihnaaGreatDoorGReadNew
import Derived.Test.YtgcnchmnciihnaaGreatDoorGStPut
namespace Go.Proofs.YtgcnchmnciihnaaGreatDoor
set_option linter.unusedSimpArgs false
set_option linter.unusedVariables false
open Go Go.RowKit

section
variable {w : World} {ops : Array Oper} {rest : List Oper} {o : Oper} {a : Act} {Q : Exit → Act → World → Prop}
theorem wpList_append_vals0 (hgd : o.guard = none) (s x : Operand) (ho : o.op = .call { callee := .builtin .append, args := #[s, x], argTypes := #[32, 32] })
    (u : Value) (m : List Val) (hs : a.eval s = .slice none 0 0) (hx : a.eval x = u) (hu : IsVals w u m) (hb : m.length * 32 ≤ 140737488355328)
    (h : ∀ v' w', w'.ownsRow w.heap.size 52 3 v' m.length (valCells m) → Later w w' → wpList Tryz.prog ops Q rest (a.put o.dst v') w') : wpList Tryz.prog ops Q (o :: rest) a w := by
  obtain ⟨i0, hi, hz0, hz1, hz2⟩ := info_parts infoVal
  obtain ⟨p, c, rfl, hlc, hcm, hnil, he⟩ := hu
  have hown : w.ownsRow w.heap.size 52 3 (.slice none 0 0) 0 [] := ⟨rfl, .inl ⟨rfl, rfl⟩⟩
  cases p with
  | none =>
    obtain rfl : c = 0 := hnil rfl
    obtain rfl : m = [] := List.eq_nil_of_length_eq_zero (by omega)
    exact wpList_append_nil w hgd s x _ ho w.heap.size 52 i0 3 Tryz.underlying32 hi _ _ _ hs hown hx (h _ w hown (Later.refl _))
  | some ad =>
    refine wpList_append w hgd s x _ ho w.heap.size 52 i0 _ 3 32 Tryz.underlying32 hi hz0 hz1 hz2 rfl (by decide) _ _ _ hs hown ad m.length c (valCells m) hx (valCells_length m) (valCells_at he) (valCells_one m) (by unfold maxLen; omega) (by omega) (Nat.le_refl _) fun v' w' hA => h v' w' ?_ ?_
    · have := hA.own
      rw [Nat.zero_add, List.nil_append] at this
      exact this
    · exact hA.later hown (Later.refl _) (Nat.le_refl _)
theorem wpList_append_bytes0 (hgd : o.guard = none) (s x : Operand) (ho : o.op = .call { callee := .builtin .append, args := #[s, x], argTypes := #[35, 35] })
    (u : Value) (m : List UInt8) (hs : a.eval s = .slice none 0 0) (hx : a.eval x = u) (hu : IsBytes w u m) (hb : m.length ≤ 140737488355328)
    (h : ∀ v' w', w'.ownsRow w.heap.size 5 1 v' m.length (byteCells m) → Later w w' → wpList Tryz.prog ops Q rest (a.put o.dst v') w') : wpList Tryz.prog ops Q (o :: rest) a w := by
  obtain ⟨i0, hi, hz0, hz1, hz2⟩ := info_parts infoU8
  have hnw := fun {a : Option Addr} {n c : Nat} (h : u = .slice a n c) {ad : Addr} (ha : a = some ad) => SliceOf.news hu h ha
  obtain ⟨p, c, rfl, hlc, hcm, hnil, he⟩ := hu
  have hown : w.ownsRow w.heap.size 5 1 (.slice none 0 0) 0 [] := ⟨rfl, .inl ⟨rfl, rfl⟩⟩
  cases p with
  | none =>
    obtain rfl : c = 0 := hnil rfl
    obtain rfl : m = [] := List.eq_nil_of_length_eq_zero (by omega)
    exact wpList_append_nil w hgd s x _ ho w.heap.size 5 i0 1 Tryz.underlying35 hi _ _ _ hs hown hx (h _ w hown (Later.refl _))
  | some ad =>
    refine wpList_append w hgd s x _ ho w.heap.size 5 i0 _ 1 1 Tryz.underlying35 hi hz0 hz1 hz2 rfl (by decide) _ _ _ hs hown ad m.length c (byteCells m) hx (by rw [byteCells_length, Nat.mul_one]) (hnw rfl rfl) (byteCells_one m) (by unfold maxLen; omega) (by omega) (Nat.le_refl _) fun v' w' hA => h v' w' ?_ ?_
    · have := hA.own
      rw [Nat.zero_add, List.nil_append] at this
      exact this
    · exact hA.later hown (Later.refl _) (Nat.le_refl _)
end
/-- the cells of a list of cells and their slices. -/
abbrev cellsOf (ks : List KX) : List CellP := ks.map (·.cell)
/-- a place of the document's cells, when it is written. -/
theorem kxCells_set : ∀ (l : List KX) (i : Nat) (x : KX), i < l.length → ((((kxCells l).set (i * 4) x.kv).set (i * 4 + 1) (.int .i64 x.cell.win.1)).set (i * 4 + 2) (.int .i64 x.cell.win.2)).set (i * 4 + 3) x.dv = kxCells (l.set i x)
  | y :: l, 0, x, _ => by rw [kxCells_cons]; rfl
  | y :: l, i + 1, x, h => by
    have ih := kxCells_set l i x (by simpa using h)
    rw [kxCells_cons, show (i + 1) * 4 = i * 4 + 1 + 1 + 1 + 1 by omega]
    simp only [List.set_cons_succ, show i * 4 + 1 + 1 + 1 + 1 + 1 = (i * 4 + 1) + 1 + 1 + 1 + 1 by omega, show i * 4 + 1 + 1 + 1 + 1 + 2 = (i * 4 + 2) + 1 + 1 + 1 + 1 by omega, show i * 4 + 1 + 1 + 1 + 1 + 3 = (i * 4 + 3) + 1 + 1 + 1 + 1 by omega]
    rw [ih]
    rfl
def put4 (w : World) (g i : Nat) (x : KX) : World := (((w.setCell ⟨g, i * 4, none⟩ x.kv).setCell ⟨g, i * 4 + 1, none⟩ (.int .i64 x.cell.win.1)).setCell ⟨g, i * 4 + 2, none⟩ (.int .i64 x.cell.win.2)).setCell ⟨g, i * 4 + 3, none⟩ x.dv
theorem OwnC.set {B c g i : Nat} {w : World} {l : List KX} (h : OwnC B w (.slice (some ⟨g, 0, none⟩) l.length c) l) (hi : i < l.length) (x : KX) : OwnC B (put4 w g i x) (.slice (some ⟨g, 0, none⟩) l.length c) (l.set i x) := by
  have := owns_put (i := i * 4 + 3) (owns_put (i := i * 4 + 2) (owns_put (i := i * 4 + 1) (owns_put (i := i * 4) h x.kv) (.int .i64 x.cell.win.1)) (.int .i64 x.cell.win.2)) x.dv
  rw [kxCells_set l i x hi] at this
  unfold OwnC
  rwa [List.length_set]
theorem put4_keeps (w : World) (g i : Nat) (x : KX) : Keeps (fun b => b ≠ g) w (put4 w g i x) :=
  ((((Keeps.refl (fun b => b ≠ g) w).setCell (p := ⟨g, i * 4, none⟩) (.inl fun h => h rfl) _).setCell (p := ⟨g, i * 4 + 1, none⟩) (.inl fun h => h rfl) _).setCell (p := ⟨g, i * 4 + 2, none⟩) (.inl fun h => h rfl) _).setCell (p := ⟨g, i * 4 + 3, none⟩) (.inl fun h => h rfl) _

/-- the document's store in memory, whatever its cells are. -/
structure RefMem (B : Nat) (w : World) (D : Nat) (lo hi : Int) (v : Value) (ks : List KX) : Prop where
  obj : w.heap[D]? = some (.cells #[.int .i64 lo, .int .i64 hi, v] 31 (0, 0))
  own : OwnC B w v ks
  held : ∀ x ∈ ks, HeldIn (fun b => B ≤ b ∧ b ≠ D ∧ v.ownBlock ≠ some b) w x
  base : B ≤ D
section
variable {B D g i c : Nat} {w w' : World} {lo hi : Int} {v : Value} {ks : List KX}
theorem RefAt.mem (h : RefAt B w D lo hi v ks) : RefMem B w D lo hi v ks := ⟨h.obj, h.own, h.held, h.base⟩
theorem RefMem.at (h : RefMem B w D lo hi v ks) (hs : Store lo hi (cellsOf ks)) (hok : ∀ x ∈ ks, ∀ y ∈ x.cell.key, ValOk y) : RefAt B w D lo hi v ks := ⟨h.obj, h.own, h.held, h.base, hs, hok⟩
theorem RefMem.later (h : RefMem B w D lo hi v ks) (k : Later w w') : RefMem B w' D lo hi v ks := ⟨k.obj h.obj, owns_at h.own k, fun x hx => (h.held x hx).later k, h.base⟩
theorem RefMem.ne (h : RefMem B w D lo hi v ks) : v.ownBlock ≠ some D := own_ne h.own h.obj (by decide)
theorem RefMem.put (h : RefMem B w D lo hi (.slice (some ⟨g, 0, none⟩) ks.length c) ks) (hil : i < ks.length) (X : KX) (hX : HeldIn (fun b => B ≤ b ∧ b ≠ D ∧ (Value.slice (some ⟨g, 0, none⟩) ks.length c).ownBlock ≠ some b) w X) :
    RefMem B (put4 w g i X) D lo hi (.slice (some ⟨g, 0, none⟩) ks.length c) (ks.set i X) := by
  have hne : D ≠ g := fun e => h.ne (by rw [e]; rfl)
  refine ⟨(put4_keeps w g i X).obj hne h.obj, OwnC.set h.own hil X, fun x hx => ?_, h.base⟩
  have hx2 : HeldIn (fun b => B ≤ b ∧ b ≠ D ∧ (Value.slice (some ⟨g, 0, none⟩) ks.length c).ownBlock ≠ some b) w x := by
    rcases List.mem_or_eq_of_mem_set hx with h1 | rfl
    · exact h.held x h1
    · exact hX
  refine hx2.kept (put4_keeps w g i X) fun b hb _ e => hb.2.2 (by rw [e]; rfl)
end
def OneCell (x : KX) (S : Nat) (u : Value) (W : World) : Prop := ∃ b, u = .slice (some ⟨b, 0, none⟩) 1 1 ∧ W.heap[b]? = some (.cells #[x.kv, .int .i64 x.cell.win.1, .int .i64 x.cell.win.2, x.dv] 73 (0, 0)) ∧ S ≤ b
theorem OneCell.later {x : KX} {S : Nat} {u : Value} {w w' : World} (h : OneCell x S u w) (k : Later w w') : OneCell x S u w' := let ⟨b, h1, h2, h3⟩ := h; ⟨b, h1, k.obj h2, h3⟩
def RPutOk (B : Nat) (w : World) (D : Nat) (lo hi : Int) (v : Value) (ks : List KX) (c : CellP) (e : Ending) (w' : World) : Prop :=
  e = .returned (.int .i64 0) ∧ ∃ v' ks', RefAt B w' D lo hi v' ks' ∧ cellsOf ks' = insC c (cellsOf ks) ∧ Keeps (fun b => b ≠ D ∧ v.ownBlock ≠ some b) w w' ∧ (v'.ownBlock = v.ownBlock ∨ ∀ b, v'.ownBlock = some b → w.heap.size ≤ b)
def RPutTo (B : Nat) (w : World) (D : Nat) (lo hi : Int) (v : Value) (ks : List KX) (c : CellP) (e : Ending) (w' : World) : Prop :=
  if putErr lo hi (cellsOf ks) c = 0 then RPutOk B w D lo hi v ks c e w' else e = .returned (.int .i64 (putErr lo hi (cellsOf ks) c)) ∧ Later w w'
section
variable {B D : Nat} {w w' : World} {lo hi k : Int} {v : Value} {ks : List KX} {c : CellP} {e : Ending}
theorem rputTo_err (h : putErr lo hi (cellsOf ks) c = k) (hk : k ≠ 0) (he : e = .returned (.int .i64 k)) (hL : Later w w') : RPutTo B w D lo hi v ks c e w' := by unfold RPutTo; rw [h, if_neg hk]; exact ⟨he, hL⟩
theorem rputTo_ok (h : putErr lo hi (cellsOf ks) c = 0) (hp : RPutOk B w D lo hi v ks c e w') : RPutTo B w D lo hi v ks c e w' := by unfold RPutTo; rw [if_pos h]; exact hp
end
theorem insAt_shift' {α : Type} {l : List α} {m : Nat} {y : α} (hm : m < l.length) (hy : l[m] = y) : insAt l (m + 1) y = insAt l m y := by subst hy; exact insAt_shift hm l[m]
theorem insAt_self {α : Type} {l : List α} {k : Nat} (hk : k ≤ l.length) (z : α) : (insAt l k z)[k]'(by rw [insAt_length hk]; omega) = z := by
  unfold insAt
  rw [List.getElem_append_right (by rw [List.length_take]; omega)]
  simp [List.length_take, Nat.min_eq_left hk]
theorem rput_fin {B D m : Nat} {w w' : World} {lo hi : Int} {v v' : Value} {ks : List KX} {X : KX} {C : CellP} (h : RefAt B w D lo hi v ks) (hX : X.cell = C) (hok : ∀ y ∈ C.key, ValOk y) (hp : putErr lo hi (cellsOf ks) C = 0) (hm : m ≤ ks.length)
    (hlo : ∀ (_ : 0 < m) (h2 : m - 1 < ks.length), cmpC ks[m - 1].cell C < 0) (hhi : ∀ j (h : j < ks.length), m ≤ j → cmpC C ks[j].cell < 0) (hmem : RefMem B w' D lo hi v' (insAt ks m X))
    (hk : Keeps (fun b => b ≠ D ∧ v.ownBlock ≠ some b) w w') (hb : v'.ownBlock = v.ownBlock ∨ ∀ b, v'.ownBlock = some b → w.heap.size ≤ b) : RPutTo B w D lo hi v ks C (.returned (.int .i64 0)) w' := by
  have hc : cellsOf (insAt ks m X) = insC C (cellsOf ks) := by
    unfold cellsOf
    rw [insAt_map, hX]
    refine (insC_at h.st.sorted (by rw [List.length_map]; exact hm) (fun h0 h2 => ?_) (fun j hj hmj => ?_)).symm
    · rw [List.getElem_map]; exact hlo h0 (by rw [List.length_map] at h2; exact h2)
    · rw [List.getElem_map]; exact hhi j (by rw [List.length_map] at hj; exact hj) hmj
  refine rputTo_ok hp ⟨rfl, v', insAt ks m X, hmem.at (by rw [hc]; exact h.st.ins hp) (fun x hx => ?_), hc, hk, hb⟩
  rcases insAt_mem hx with h1 | rfl
  · exact h.ok x h1
  · rw [hX]; exact hok

set_option maxRecDepth 100000 in
set_option maxHeartbeats 4000000 in
theorem rput_any (c : CellP) (kv dv : Value) {B D : Nat} {lo hi : Int} {v : Value} {ks : List KX} (w : World) (h : RefAt B w D lo hi v ks) (hB : B ≤ w.heap.size) (hk : IsVals w kv c.key) (hd : IsBytes w dv c.data) (hg : ∀ x ∈ c.key, ValOk x) (hdl : c.data.length ≤ 140737488355328) :
    Calls Tryz.prog 8 #[.pointer (some ⟨D, 0, none⟩), kv, .agg #[.int .i64 c.win.1, .int .i64 c.win.2], dv] w (RPutTo B w D lo hi v ks c) := by
  obtain ⟨key, ⟨f, t⟩, data⟩ := c
  obtain ⟨C, hC⟩ : ∃ C : CellP, C = ⟨key, (f, t), data⟩ := ⟨_, rfl⟩
  simp only at hk hd hg hdl ⊢
  rw [← hC]
  have HC := hid hC
  have HH := hid h; have HBS := hid hB; have HKV := hid hk; have HDV := hid hd; have HG := hid hg; have HDL := hid hdl
  have HOWN := hid fun W (hL : Later w W) => rowns_any key kv W (h.later hL) (hk.later hL) hg
  have HP4 : Hid ((ownsK lo hi key && winOk (f, t)) = false → putErr lo hi (cellsOf ks) C = 4) := hid fun e => by rw [hC]; exact putErr_4 e
  obtain ⟨va, vc, rfl⟩ := h.slice
  obtain ⟨ka, kc, rfl, -⟩ := id hk
  obtain ⟨da, dc, rfl, -⟩ := id hd
  clear hC h hB hk hd hg hdl
  go_enter Tryz.func8, Tryz.ntmps8
  obtain ⟨w0, hw0⟩ : ∃ W, W = w.alloc (.cells #[.int .i64 f, .int .i64 t] 34) := ⟨_, rfl⟩
  obtain ⟨T, hT⟩ : ∃ T, T = w.heap.size := ⟨_, rfl⟩
  have HL0 : Hid (Later w w0) := hid (by rw [hw0]; exact Later.alloc _ _)
  have HT0 : Hid (w0.heap[T]? = some (.cells #[.int .i64 f, .int .i64 t] 34 (0, 0))) := hid (by rw [hw0, hT]; exact obj_new _ _)
  have HTT := hid hT
  go_upto_region 1 with (fail)
  rw [← hw0, ← hT]
  clear hw0 hT
  go_wp2_with fail
  refine (HOWN.out _ HL0.out).mono ?_
  rintro e w2 ⟨rfl, hL2⟩
  have HL2 := hid (Later.trans _ _ _ HL0.out hL2)
  have HT2 := hid (hL2.obj HT0.out)
  have x0 := cell_obj (i := 0) HT2.out (v := .int .i64 f) rfl
  have x1 := cell_obj (i := 1) HT2.out (v := .int .i64 t) rfl
  clear hL2 HL0 HT0 HOWN
  cases ho : ownsK lo hi key with
  | false =>
    have HP := hid (HP4.out (by rw [ho, Bool.false_and]))
    clear ho
    go_wp2_with fail
    go_ret
    exact rputTo_err HP.out (by decide) rfl HL2.out
  | true =>
    have HO := hid ho
    have HP : Hid (winOk (f, t) = false → putErr lo hi (cellsOf ks) C = 4) := hid fun e => HP4.out (by rw [HO.out, e]; rfl)
    have HWO : Hid (winOk (f, t) = (decide (-1048576 ≤ f) && (decide (f < t) && decide (t ≤ 1099512676353)))) := hid rfl
    clear ho HP4
    by_cases h1 : f < -1048576
    · have HQ := hid (HP.out (by rw [HWO.out, decide_eq_false (by omega), Bool.false_and]))
      go_wp2_with fail
      go_ret
      exact rputTo_err HQ.out (by decide) rfl HL2.out
    by_cases h2 : t ≤ f
    · have HQ := hid (HP.out (by rw [HWO.out, decide_eq_false (show ¬ f < t by omega), Bool.false_and, Bool.and_false]))
      go_wp2_with fail
      go_ret
      exact rputTo_err HQ.out (by decide) rfl HL2.out
    by_cases h3 : 1099512676353 < t
    · have HQ := hid (HP.out (by rw [HWO.out, decide_eq_false (show ¬ t ≤ 1099512676353 by omega), Bool.and_false, Bool.and_false]))
      go_wp2_with fail
      go_ret
      exact rputTo_err HQ.out (by decide) rfl HL2.out
    have HYES : Hid ((ownsK lo hi key && winOk (f, t)) = true) := hid (by rw [HO.out, HWO.out, decide_eq_true (show -1048576 ≤ f by omega), decide_eq_true (show f < t by omega), decide_eq_true (show t ≤ 1099512676353 by omega)]; rfl)
    clear HP HWO
    go_wp2_with fail
    refine (rat_any ((f, t), key) _ _ (HH.out.later HL2.out) (HKV.out.later HL2.out)).mono ?_
    rintro e w3 ⟨n, rfl, hL3, hf⟩
    have HF := hid hf
    have HL3 := hid (Later.trans _ _ _ HL2.out hL3)
    have HT3 := hid (hL3.obj HT2.out)
    have HKL : Hid (key.length ≤ 8) := hid (validR_key (ownsK_valid HO.out).1).1
    have hkl := HKL.out
    have hdl := HDL.out
    have hks := HH.out.len
    have HKS := hid hks
    clear hf hL3 HL2 HT2 h1 h2 h3 x0 x1
    obtain ⟨W0, hW0⟩ : ∃ W0 : Nat, W0 = data.length + 64 * key.length + 32 := ⟨_, rfl⟩
    go_upto_region 6 with (fail)
    have hWI : (data.length : Int) + 64 * (key.length : Int) + 32 = (W0 : Int) := by omega
    rw [hWI]
    have HWB : Hid (W0 ≤ 140737488356000) := hid (by omega)
    have HW0 := hid hW0
    clear hWI hW0 hkl hdl hks
    go_wp2_with fail
    obtain ⟨R1, hR1⟩ : ∃ RR_ : (Nat → Value) → World → Prop, RR_ = (fun us wx => ∃ i : Nat, us 12 = .int .i64 i ∧ us 11 = .int .i64 ((W0 + weightL (((cellsOf ks).take i).filter (notId ((f, t), key))) : Nat) : Int) ∧ i ≤ ks.length ∧ Later w3 wx) := ⟨_, rfl⟩
    obtain ⟨mu1, hmu1⟩ : ∃ mu : (Nat → Value) → World → Nat, mu = (fun us _ => ks.length - (intOf (us 12)).toNat) := ⟨_, rfl⟩
    have HR1 := hid hR1; have Hmu1 := hid hmu1; clear hR1 hmu1
    refine wp_loop_frame' [false, false, false, false, false, false, false, false, false, false, false, true, true, false, false, false, false, false, false, false, false, false, false, false, false, false, false, false, false, false, false, false, false, false, false, false, false, false, false, false, false, false, false, false, false, false, false, false, false, false, true, true, true, true, true, true, true, true, true, true, true, true, true, true, true, true, true, true, true, true, true, true, true, true, true, true, true, true, true, true, true, true, true, true, true] R1 _ mu1 HR1.out ?_ ?_
    · exact ⟨0, rfl, by simp [weightL, slots], Nat.zero_le _, Later.refl _⟩
    intro us1 wx hrel
    obtain ⟨i, h12, h11, hi, hL⟩ := hrel
    simp only [frameOf, Nat.reduceAdd, h12, h11]
    have Hh12 := hid h12; clear h12
    have Hh11 := hid h11; clear h11
    have HI := hid hi
    have HL := hid (Later.trans _ _ _ HL3.out hL)
    have HL9 := hid hL
    have c2 := cell_obj (i := 2) (HL.out.obj HH.out.obj) (v := .slice va ks.length vc) rfl
    clear hi hL
    have HWT : Hid (weightL (((cellsOf ks).take i).filter (notId ((f, t), key))) ≤ 67108864) := hid (by
      have h1 := weightL_filter_le (notId ((f, t), key)) ((cellsOf ks).take i)
      have h2 : weightL (cellsOf ks) ≤ 67108864 := HH.out.st.full
      have h3 : weightL ((cellsOf ks).take i) ≤ weightL (cellsOf ks) := by
        have := congrArg weightL (List.take_append_drop i (cellsOf ks))
        have e : weightL ((cellsOf ks).take i ++ (cellsOf ks).drop i) = weightL ((cellsOf ks).take i) + weightL ((cellsOf ks).drop i) := by unfold weightL; rw [List.map_append, List.sum_append]
        omega
      omega)
    by_cases hlt : i < ks.length
    case neg =>
      have hie : i = ks.length := by have := HI.out; omega
      subst hie
      have hWF : W0 + weightL (((cellsOf ks).take ks.length).filter (notId ((f, t), key))) = weightL (insC C (cellsOf ks)) := by
        rw [insC_weight HH.out.st.sorted, List.take_of_length_le (by rw [List.length_map]; exact Nat.le_refl _), HC.out]
        show W0 + _ = (data.length + 64 * key.length + 32) + _
        rw [HW0.out]
        rfl
      rw [hWF]
      have HFULL := hid (show weightL (insC C (cellsOf ks)) ≤ 67108864 ∨ ¬ weightL (insC C (cellsOf ks)) ≤ 67108864 from Classical.em _)
      have HY2 : Hid ((ownsK lo hi C.key && winOk C.win) = true) := hid (by rw [HC.out]; exact HYES.out)
      obtain ⟨Wn, hWn⟩ : ∃ Wn, Wn = weightL (insC C (cellsOf ks)) := ⟨_, rfl⟩
      rw [← hWn] at HFULL ⊢
      have HWN := hid hWn
      clear hWF hWn HWT HYES
      by_cases hfull : Wn ≤ 67108864
      case neg =>
        have HP := hid (putErr_5 (L := cellsOf ks) HY2.out (by rw [← HWN.out]; exact hfull))
        have hf2 : (67108864 : Int) < (Wn : Int) := by omega
        clear hfull HFULL
        go_wp2_with fail
        go_ret
        exact rputTo_err HP.out (by decide) rfl HL.out
      have HP := hid (putErr_0 (L := cellsOf ks) HY2.out (by rw [← HWN.out]; exact hfull))
      have HTX := hid (HL9.out.obj HT3.out)
      have x0 := cell_obj (i := 0) HTX.out (v := .int .i64 f) rfl
      have x1 := cell_obj (i := 1) HTX.out (v := .int .i64 t) rfl
      obtain ⟨E, hE⟩ : ∃ E, E = wx.heap.size := ⟨_, rfl⟩
      obtain ⟨wA, hwA⟩ : ∃ W, W = wx.alloc (.cells #[.slice none 0 0, .int .i64 f, .int .i64 t, .slice none 0 0] 73 (0, 0)) := ⟨_, rfl⟩
      have HLA : Hid (Later wx wA) := hid (by rw [hwA]; exact Later.alloc _ _)
      have HEA : Hid (wA.heap[E]? = some (.cells #[.slice none 0 0, .int .i64 f, .int .i64 t, .slice none 0 0] 73 (0, 0))) := hid (by rw [hwA, hE]; exact obj_new _ _)
      have HEW : Hid (w.heap.size ≤ E) := hid (by rw [hE]; exact HL.out.size)
      have hf2 : ¬ (67108864 : Int) < (Wn : Int) := by omega
      clear hfull HFULL
      go_upto_region 14 with (fail)
      rw [← hwA, ← hE]
      clear hwA hE x0 x1 c2 hf2
      have e0 := cell_obj (i := 0) HEA.out (v := .slice none 0 0) rfl
      have g0 := free_obj (i := 0) HEA.out
      go_wp2_with (at_builtin; refine wpList_append_vals0 rfl _ _ rfl _ key rfl rfl (HKV.out.later (Later.trans _ _ _ HL.out HLA.out)) (by have := HKL.out; omega) ?_)
      intro v1 w5 hv1 hL5
      obtain ⟨ma, mc, rfl⟩ := ownsRow_slice hv1
      have HV1 := hid hv1
      have HE5 := hid (hL5.obj HEA.out)
      have HL5 := hid (Later.trans _ _ _ (Later.trans _ _ _ HL.out HLA.out) hL5)
      clear e0 g0 hv1 hL5 HEA
      have e0 := cell_obj (i := 0) HE5.out (v := .slice none 0 0) rfl
      have g0 := free_obj (i := 0) HE5.out
      go_upto_region 15 with (fail)
      obtain ⟨w6, hw6⟩ : ∃ W, W = w5.setCell ⟨E, 0, none⟩ (.slice ma key.length mc) := ⟨_, rfl⟩
      have HE6 := hid (obj_setCell (i := 0) HE5.out (.slice ma key.length mc))
      have HL6 : Hid (Later w w6) := hid (by rw [hw6]; exact HL5.out.new HEW.out (.slice ma key.length mc))
      have HV6 : Hid (w6.ownsRow w.heap.size 52 3 (.slice ma key.length mc) key.length (valCells key)) := hid (by
        rw [hw6]; exact own_base (own_set HV1.out (p := ⟨E, 0, none⟩) (own_ne HV1.out HE5.out (by decide)) (.slice ma key.length mc)) (Nat.le_trans HL.out.size HLA.out.size))
      simp only [List.setIfInBounds_toArray, List.set] at HE6
      rw [← hw6] at HE6 ⊢
      clear hw6 e0 g0 HV1 HE5 HL5
      have e2 := cell_obj (i := 2) HE6.out (v := .int .i64 t) rfl
      have e3 := cell_obj (i := 3) HE6.out (v := .slice none 0 0) rfl
      have g3 := free_obj (i := 3) HE6.out
      go_wp2_with (at_builtin; refine wpList_append_bytes0 rfl _ _ rfl _ data rfl rfl (HDV.out.bytes_later HL6.out) HDL.out ?_)
      intro v2 w7 hv2 hL7
      obtain ⟨na, nc, rfl⟩ := ownsRow_slice hv2
      have HV2 := hid (own_base hv2 HL6.out.size)
      have HE7 := hid (hL7.obj HE6.out)
      have HV7 := hid (owns_at HV6.out hL7)
      have HL7 := hid (Later.trans _ _ _ HL6.out hL7)
      clear e2 e3 g3 hv2 hL7 HE6 HV6
      have e3 := cell_obj (i := 3) HE7.out (v := .slice none 0 0) rfl
      have g3 := free_obj (i := 3) HE7.out
      go_upto_region 16 with (fail)
      obtain ⟨w8, hw8⟩ : ∃ W, W = w7.setCell ⟨E, 3, none⟩ (.slice na data.length nc) := ⟨_, rfl⟩
      have HE8 := hid (obj_setCell (i := 3) HE7.out (.slice na data.length nc))
      have HL8 : Hid (Later w w8) := hid (by rw [hw8]; exact HL7.out.new HEW.out (.slice na data.length nc))
      have HV8 : Hid (w8.ownsRow w.heap.size 52 3 (.slice ma key.length mc) key.length (valCells key)) := hid (by
        rw [hw8]; exact own_set HV7.out (p := ⟨E, 3, none⟩) (own_ne HV7.out HE7.out (by decide)) (.slice na data.length nc))
      have HW8 : Hid (w8.ownsRow w.heap.size 5 1 (.slice na data.length nc) data.length (byteCells data)) := hid (by
        rw [hw8]; exact own_set HV2.out (p := ⟨E, 3, none⟩) (own_ne HV2.out HE7.out (by decide)) (.slice na data.length nc))
      simp only [List.setIfInBounds_toArray, List.set] at HE8
      rw [← hw8] at HE8 ⊢
      clear hw8 e3 g3 HV7 HV2 HE7 HL7
      obtain ⟨X, hX⟩ : ∃ X : KX, X = ⟨C, .slice ma key.length mc, .slice na data.length nc⟩ := ⟨_, rfl⟩
      have HXE := hid hX
      have HXH : Hid (HeldIn (fun b => w.heap.size ≤ b) w8 X) := hid (by
        rw [hX]
        refine ⟨?_, ?_⟩
        · have := owned_vals HV8.out; rw [HC.out]; exact this
        · have := owned_bytes HW8.out; rw [HC.out]; exact this)
      have HRM := hid (HH.out.mem.later HL8.out)
      have HDW := hid (Array.getElem?_eq_some_iff.1 HH.out.obj).1
      have HGW : Hid (∀ b, (Value.slice va ks.length vc).ownBlock = some b → b < w.heap.size) := hid fun b hb => (ownb HH.out.own b hb).2
      have HXH2 : Hid (HeldIn (fun b => B ≤ b ∧ b ≠ D ∧ (Value.slice va ks.length vc).ownBlock ≠ some b) w8 X) := hid (HXH.out.mono fun b hb _ => ⟨Nat.le_trans HBS.out hb, by have := HDW.out; omega, fun e => by have := HGW.out b e; omega⟩)
      have c2 := cell_obj (i := 2) HRM.out.obj (v := .slice va ks.length vc) rfl
      have e0 := cell_obj (i := 0) HE8.out (v := .slice ma key.length mc) rfl
      have e1 := cell_obj (i := 1) HE8.out (v := .int .i64 f) rfl
      have e2 := cell_obj (i := 2) HE8.out (v := .int .i64 t) rfl
      have e3 := cell_obj (i := 3) HE8.out (v := .slice na data.length nc) rfl
      have HXC : Hid (X.kv = .slice ma key.length mc ∧ X.cell.win.1 = f ∧ X.cell.win.2 = t ∧ X.dv = .slice na data.length nc ∧ X.cell = C) := hid (by rw [hX, HC.out]; exact ⟨rfl, rfl, rfl, rfl, rfl⟩)
      have HIDC : Hid (idC C = ((f, t), key)) := hid (by rw [HC.out]; rfl)
      have HOKX : Hid (∀ y ∈ C.key, ValOk y) := hid (by rw [HC.out]; exact HG.out)
      clear hX HV8 HW8
      rcases HF.out with ⟨hn, hno⟩ | ⟨k, hk, hn, hidk⟩
      · subst hn
        have HNO := hid hno
        clear hno
        go_upto_region 19 with (fail)
        refine wp_region_plan (by kernel_rfl) (by kernel_rfl) [0] [7, 8, 9, 10] (by kernel_rfl) (fun _ _ d _ _ h => by cases d <;> exact h) (Later) (Later.refl) (Later.trans) (kinds [(6, OneCell X w8.heap.size)]) (kinds_still (by simp only [List.mem_cons, List.not_mem_nil, or_false, forall_eq]; exact fun _ _ _ hR h => h.later hR)) ?_
        simp only [body, tail, numbered, Nat.reduceAdd, List.filter_cons, List.filter_nil, List.contains_cons, List.contains_nil, Nat.reduceBEq, Bool.or_false, Bool.or_true, Bool.false_or, Bool.true_or, Bool.not_true, Bool.not_false, Bool.and_true, Bool.and_false, Bool.true_and, Bool.false_and, if_true, if_false, reduceIte, Bool.false_eq_true, List.map_cons, List.map_nil]
        refine Pures.cons rfl ?_
        apply Exists.intro
        refine ⟨fun w => ?_, ?_⟩
        · go_simp
          first | done | rfl
        simp only [Act.put, List.setIfInBounds_toArray, List.set]
        simp only [Pures]
        refine LexS.out ?_
        iterate 5
          first
          | (refine LexS.skip rfl ?_; simp only [Act.put, List.setIfInBounds_toArray, List.set])
          | (refine LexS.one' rfl rfl ?_
             apply Exists.intro
             refine ⟨fun w hR hF => ?_, ?_⟩
             · have hP := hR
               repeat (first | replace hP := Later.of_drew hP | replace hP := Later.of_drewN hP | replace hP := Later.of_alloc hP)
               have hcs := hR.cells
               have zc2 := hP.cell c2
               have ze0 := hP.cell e0
               have ze1 := hP.cell e1
               have ze2 := hP.cell e2
               have ze3 := hP.cell e3
               clear hR hF hP
               go_simp
               first | done | rfl
             simp only [Act.put, List.setIfInBounds_toArray, List.set])
        refine LexS.any rfl rfl (fun w9 hR hF => ?_) ?_
        · have hP := hR
          repeat (first | replace hP := Later.of_drew hP | replace hP := Later.of_drewN hP | replace hP := Later.of_alloc hP)
          have hsz := hP.size
          clear hR hP hF c2 e0 e1 e2 e3
          unfold Runs
          go_simp
          exact yield_value (Later.alloc _ _) ⟨w9.heap.size, rfl, by rw [HXC.out.1, HXC.out.2.1, HXC.out.2.2.1, HXC.out.2.2.2.1]; exact obj_new _ _, hsz⟩
        rintro vk ⟨wk, hRk, hFk⟩
        obtain ⟨bk, rfl, -, -⟩ := hFk _ List.mem_cons_self _ rfl
        clear hFk hRk wk
        simp only [Act.put, List.setIfInBounds_toArray, List.set]
        refine LexS.nil ?_
        intro w9 hR9 hF9
        obtain ⟨bk', ek, hbk, hbs⟩ := hF9 _ List.mem_cons_self _ rfl
        simp only [Value.slice.injEq, Option.some.injEq, Addr.mk.injEq] at ek
        obtain ⟨⟨rfl, -, -⟩, -, -⟩ := ek
        clear hF9
        repeat (first | replace hR9 := Later.of_drew hR9 | replace hR9 := Later.of_drewN hR9 | replace hR9 := Later.of_alloc hR9)
        have HR9 := hid hR9
        have HBK := hid hbk
        have HM9 := hid (HRM.out.later hR9)
        have HX9 := hid (HXH2.out.later hR9)
        clear hR9 hbk hbs c2 e0 e1 e2 e3
        go_wp2_with (at_builtin; go_loud (refine wpList_append_obj rfl _ _ 29 rfl 73 4 64 Tryz.underlying29 rcellElem rfl HM9.out.own (news := X.cells) rfl HBK.out rfl (kx_ones HX9.out) ?c1 ?c2 ?c3 ?_))
        case c1 => have := HKS.out; omega
        case c2 => have := HKS.out; unfold maxLen; omega
        case c3 => have := HBS.out; have := HL8.out.size; have := HR9.out.size; omega
        intro v' w10 hA
        have hown : OwnC B w10 v' (ks ++ [X]) := by
          have := hA.own
          unfold OwnC
          rw [kxCells_app, List.length_append]
          exact this
        obtain ⟨pa, pc, rfl⟩ := ownsRow_slice hown
        have hlen : (ks ++ [X]).length = ks.length + 1 := by simp
        obtain ⟨n, hn⟩ : ∃ n, n = (ks ++ [X]).length := ⟨_, rfl⟩
        have HN : Hid (n = ks.length + 1) := hid (by rw [hn, hlen])
        have HNN := hid hn
        unfold OwnC at hown
        rw [← hn] at hown hA ⊢
        clear hn hlen
        have hD10 := hA.obj HM9.out.obj (fun e => HM9.out.ne e.symm)
        have HOW := hid hown
        have HBL := hid hA.block
        have HK10 := hid hA.keeps
        have d2 := cell_obj (i := 2) hD10 (v := .slice va ks.length vc) rfl
        have f2 := free_obj (i := 2) hD10
        have HD10 := hid hD10
        clear hA hown hD10
        go_upto_region 20 with (fail)
        obtain ⟨w11, hw11⟩ : ∃ W, W = w10.setCell ⟨D, 2, none⟩ (.slice pa n pc) := ⟨_, rfl⟩
        have HK11 : Hid (Keeps (fun b => b ≠ D) w10 w11) := hid (by rw [hw11]; exact (Keeps.refl (fun b => b ≠ D) w10).setCell (p := ⟨D, 2, none⟩) (.inl fun h => h rfl) _)
        have hD11 := obj_setCell (i := 2) HD10.out (.slice pa n pc)
        simp only [List.setIfInBounds_toArray, List.set] at hD11
        have hO11 := own_set HOW.out (p := ⟨D, 2, none⟩) (own_ne HOW.out HD10.out (by decide)) (.slice pa n pc)
        rw [← hw11] at hD11 hO11 ⊢
        clear hw11 d2 f2
        have hKA : Keeps (fun b => b ≠ D ∧ (Value.slice va ks.length vc).ownBlock ≠ some b) w9 w11 := (HK10.out.mono fun b _ hb => fun e => hb.2 e.symm).trans (HK11.out.mono fun b _ hb => hb.1)
        have HM11 : Hid (RefMem B w11 D lo hi (.slice pa n pc) (ks ++ [X])) := hid (by
          refine ⟨hD11, by unfold OwnC; rw [← HNN.out]; exact hO11, fun x hx => ?_, HRM.out.base⟩
          have hx9 : HeldIn (fun b => B ≤ b ∧ b ≠ D ∧ (Value.slice va ks.length vc).ownBlock ≠ some b) w9 x := by
            rcases List.mem_append.1 hx with h1 | h1
            · exact HM9.out.held x h1
            · obtain rfl := List.mem_singleton.1 h1; exact HX9.out
          have hnew : ∀ b, b < w9.heap.size → (Value.slice va ks.length vc).ownBlock ≠ some b → (Value.slice pa n pc).ownBlock ≠ some b := fun b hb h1 e => by
            rcases HBL.out with h2 | ⟨g, h2, h3⟩
            · exact h1 (h2 ▸ e)
            · rw [h2] at e; injection e with e; omega
          exact (hx9.mono (U' := fun b => B ≤ b ∧ b ≠ D ∧ (Value.slice va ks.length vc).ownBlock ≠ some b ∧ (Value.slice pa n pc).ownBlock ≠ some b) fun b hb hl => ⟨hb.1, hb.2.1, hb.2.2, hnew b hl hb.2.2⟩).kept hKA (fun b hb _ => ⟨hb.2.1, hb.2.2.1⟩) |>.mono fun b hb _ => ⟨hb.1, hb.2.1, hb.2.2.2⟩)
        have HKW : Hid (Keeps (fun b => b ≠ D ∧ (Value.slice va ks.length vc).ownBlock ≠ some b) w w11) := hid (((HL8.out.keeps _).trans (HR9.out.keeps _)).trans hKA)
        have HBN : Hid ((Value.slice pa n pc).ownBlock = (Value.slice va ks.length vc).ownBlock ∨ ∀ b, (Value.slice pa n pc).ownBlock = some b → w.heap.size ≤ b) := hid (by
          rcases HBL.out with h2 | ⟨g, h2, h3⟩
          · exact .inl h2
          · refine .inr fun b e => ?_
            rw [h2] at e; injection e with e
            have := HL8.out.size; have := HR9.out.size; omega)
        have HMS : Hid (RefMem B w11 D lo hi (.slice pa n pc) (insAt ks ks.length X)) := hid (by rw [insAt_end]; exact HM11.out)
        clear hKA hD11 hO11 HM11 HM9 HX9 HBL HK10 HK11 HD10 HOW
        have d2 := cell_obj (i := 2) HMS.out.obj (v := .slice pa n pc) rfl
        have hnn : (n : Int) = (ks.length : Int) + 1 := by have := HN.out; omega
        go_upto_region 21 with (fail)
        have hwn : (n : Int) - 1 = ks.length := by omega
        have hwk : wrap64 (ks.length : Int) = ks.length := by have := HKS.out; unfold wrap64; omega
        try simp only [hwn]
        try simp only [hwk]
        clear hnn hwn hwk d2
        obtain ⟨R2, hR2⟩ : ∃ RR_ : (Nat → Value) → World → Prop, RR_ = (fun us wy => ∃ m : Nat, us 14 = .int .i64 m ∧ m ≤ ks.length ∧ RefMem B wy D lo hi (.slice pa n pc) (insAt ks m X) ∧ Keeps (fun b => b ≠ D ∧ (Value.slice va ks.length vc).ownBlock ≠ some b) w wy ∧ ∀ j (h : j < ks.length), m ≤ j → cmpC C ks[j].cell < 0) := ⟨_, rfl⟩
        obtain ⟨mu2, hmu2⟩ : ∃ mu : (Nat → Value) → World → Nat, mu = (fun us _ => (intOf (us 14)).toNat) := ⟨_, rfl⟩
        have HR2 := hid hR2; have Hmu2 := hid hmu2; clear hR2 hmu2
        refine wp_loop_frame' [false, false, false, false, false, false, false, false, false, false, false, false, false, false, true, true, true, false, false, false, false, false, false, false, false, false, false, false, false, false, false, false, false, false, false, false, false, false, false, false, false, false, false, false, false, false, false, false, false, false, false, false, false, false, false, false, false, false, false, false, false, false, false, false, false, false, false, false, false, false, false, false, false, false, false, false, false, false, false, false, false, false, false, false, false, false, false, false, false, false, false, false, false, false, false, false, false, false, false, false, false, false, false, false, false, false, false, false, false, false, false, false, false, false, false, false, false, false, false, false, false, false, false, false, true, true, true, true, true, true, true, true, true, true, true, true, true, true, true, true, true, true, true, true, true, true, true, true, true, true, true, true, true, true, true, true, true, true, true, true, true, true, true, true, true, true, true, true, true, true, true, true, true, true, true] R2 _ mu2 HR2.out ?_ ?_
        · exact ⟨ks.length, rfl, Nat.le_refl _, HMS.out, HKW.out, fun j h hj => by omega⟩
        clear HMS HKW
        intro us2 wy hrel
        obtain ⟨m, h14, hm, hmem, hkp, hgt⟩ := hrel
        simp only [frameOf, Nat.reduceAdd, h14]
        have Hh14 := hid h14; clear h14
        have HM := hid hm; have HMEM := hid hmem; have HKP := hid hkp; have HGT := hid hgt
        clear hm hmem hkp hgt
        by_cases h0 : m = 0
        · subst h0
          go_wp2_with fail
          go_ret
          exact rput_fin HH.out HXC.out.2.2.2.2 HOKX.out HP.out HM.out (fun h => by omega) HGT.out HMEM.out HKP.out HBN.out
        obtain ⟨q, rfl⟩ : ∃ q, m = q + 1 := ⟨m - 1, by omega⟩
        clear h0
        have hq : q < ks.length := HM.out
        have HQL := hid hq
        have hil : (insAt ks (q + 1) X).length = n := by rw [insAt_length hq, HN.out]
        have hiq : q < (insAt ks (q + 1) X).length := by rw [hil, HN.out]; omega
        have hiq2 : q + 1 < (insAt ks (q + 1) X).length := by rw [hil, HN.out]; omega
        have hown := HMEM.out.own
        unfold OwnC at hown
        obtain ⟨g, hpa, -, y0, y1, y2, y3, -⟩ := OwnC.cells (a := pa) (n := (insAt ks (q + 1) X).length) (c := pc) (by unfold OwnC; rw [hil]; rw [hil] at hown; exact hown) hiq
        obtain ⟨g', hpa2, -, z0, z1, z2, z3, hfr⟩ := OwnC.cells (a := pa) (n := (insAt ks (q + 1) X).length) (c := pc) (by unfold OwnC; rw [hil]; rw [hil] at hown; exact hown) hiq2
        subst hpa
        simp only [Option.some.injEq, Addr.mk.injEq, and_true] at hpa2
        subst hpa2
        obtain ⟨Y, hY⟩ : ∃ Y, Y = ks[q]'hq := ⟨_, rfl⟩
        have hgy := (insAt_get hq X).trans hY.symm
        have hgz := insAt_self (l := ks) (k := q + 1) HM.out X
        have hHX := HMEM.out.held X (by unfold insAt; simp)
        have hmy := List.getElem_mem hiq
        rw [hgy] at hmy
        have hHY := HMEM.out.held _ hmy
        rw [hgy] at y0 y1 y2 y3
        rw [hgz, HXC.out.1] at z0
        rw [hgz, HXC.out.2.1] at z1
        rw [hgz, HXC.out.2.2.1] at z2
        rw [hgz, HXC.out.2.2.2.1] at z3
        have HP1 : Hid (∀ W, RefMem B W D lo hi (.slice (some ⟨g, 0, none⟩) n pc) (insAt ks (q + 1) X) → HeldIn (fun b => B ≤ b ∧ b ≠ D ∧ (Value.slice (some ⟨g, 0, none⟩) n pc).ownBlock ≠ some b) W Y → RefMem B (put4 W g (q + 1) Y) D lo hi (.slice (some ⟨g, 0, none⟩) n pc) (insAt ks q Y)) := hid fun W hW hHW => by
          have h1 := RefMem.put (c := pc) (g := g) (ks := insAt ks (q + 1) X) (by rw [hil]; exact hW) hiq2 Y (by rw [hil]; exact hHW)
          rw [hil, insAt_set HM.out, insAt_shift' hq hY.symm] at h1
          exact h1
        have hil3 : (insAt ks q Y).length = n := by rw [insAt_length (Nat.le_of_lt hq), HN.out]
        have HP2 : Hid (∀ W, RefMem B W D lo hi (.slice (some ⟨g, 0, none⟩) n pc) (insAt ks q Y) → HeldIn (fun b => B ≤ b ∧ b ≠ D ∧ (Value.slice (some ⟨g, 0, none⟩) n pc).ownBlock ≠ some b) W X → RefMem B (put4 W g q X) D lo hi (.slice (some ⟨g, 0, none⟩) n pc) (insAt ks q X)) := hid fun W hW hHW => by
          have h1 := RefMem.put (c := pc) (g := g) (ks := insAt ks q Y) (by rw [hil3]; exact hW) (i := q) (by rw [hil3, HN.out]; omega) X (by rw [hil3]; exact hHW)
          rw [hil3, insAt_set (Nat.le_of_lt hq)] at h1
          exact h1
        have HFR : Hid (∀ W, RefMem B W D lo hi (.slice (some ⟨g, 0, none⟩) n pc) (insAt ks q Y) → ∃ u0 u1 u2 u3, W.cell? ⟨g, q * 4, none⟩ = some u0 ∧ W.cell? ⟨g, q * 4 + 1, none⟩ = some u1 ∧ W.cell? ⟨g, q * 4 + 2, none⟩ = some u2 ∧ W.cell? ⟨g, q * 4 + 3, none⟩ = some u3 ∧ ∀ j, W.frozen? ⟨g, j, none⟩ = false) := hid fun W hW => by
          have hown := hW.own
          obtain ⟨g', hpa2, -, r0, r1, r2, r3, hfr⟩ := OwnC.cells (a := some ⟨g, 0, none⟩) (n := n) (c := pc) hown (i := q) (by rw [hil3, HN.out]; omega)
          simp only [Option.some.injEq, Addr.mk.injEq, and_true] at hpa2
          subst hpa2
          exact ⟨_, _, _, _, r0, r1, r2, r3, hfr⟩
        have HNY : Hid (idC Y.cell ≠ ((f, t), key)) := hid (by rw [hY]; exact HNO.out _ (List.getElem_mem hq))
        have HGQ : Hid (cmpC C Y.cell < 0 → ∀ j (h : j < ks.length), q ≤ j → cmpC C ks[j].cell < 0) := hid fun h j hj hqj => by
          rcases Nat.eq_or_lt_of_le hqj with rfl | hl
          · rw [hY] at h; exact h
          · exact HGT.out j hj hl
        have HLO : Hid (¬ cmpC C Y.cell < 0 → ∀ (_ : 0 < q + 1) (h2 : q + 1 - 1 < ks.length), cmpC ks[q + 1 - 1].cell C < 0) := hid fun h _ _ => by
          show cmpC (ks[q]'hq).cell C < 0
          rw [← hY]
          have h1 := cmpC_neg C Y.cell
          have h2 : cmpC C Y.cell ≠ 0 := fun e => HNY.out ((cmpC_zero.1 e).symm.trans HIDC.out)
          omega
        have HHX := hid hHX; have HHY := hid hHY
        clear hHX hHY hgy hgz hown hil hil3 hiq hiq2 hmy hq hY
        obtain ⟨ya, yc, yb, ym, hyv, hyw⟩ := KX.key HHY.out
        have f0 := hfr ((q + 1) * 4); have f1 := hfr ((q + 1) * 4 + 1); have f2 := hfr ((q + 1) * 4 + 2); have f3 := hfr ((q + 1) * 4 + 3)
        rw [hyv] at y0
        rw [hyw] at y3
        have c2 := cell_obj (i := 2) HMEM.out.obj (v := .slice (some ⟨g, 0, none⟩) n pc) rfl
        have HYV := hid (And.intro hyv hyw)
        have HYY := hid (And.intro y0 (And.intro y1 (And.intro y2 y3)))
        have HZZ := hid (And.intro z0 (And.intro z1 (And.intro z2 z3)))
        have hqn : (q : Int) < n := by have := HN.out; have := HQL.out; omega
        have hqn2 : (q : Int) + 1 < n := by have := HN.out; have := HQL.out; omega
        have HQN := hid (And.intro hqn hqn2)
        clear hfr hyv hyw
        have hwq : IntKind.i64.wrap (q : Int) = q := IntWalk.i64_in _ (by have := HQL.out; have := HKS.out; omega)
        obtain ⟨bb, hbb⟩ : ∃ bb, bb = decide (cmpC C Y.cell < 0) := ⟨_, rfl⟩
        have HBEF : Hid (∀ W, Later wy W → Calls Tryz.prog 24 #[.agg #[.slice ma key.length mc, .int .i64 f, .int .i64 t, .slice na data.length nc], .agg #[.slice ya Y.cell.key.length yc, .int .i64 Y.cell.win.1, .int .i64 Y.cell.win.2, .slice yb Y.cell.data.length ym]] W (TruthTo W bb)) := hid fun W hW => by
          have e1 : C.win.1 = f := by rw [HC.out]
          have e2 : C.win.2 = t := by rw [HC.out]
          have hx := HHX.out.1
          rw [HXC.out.1, HXC.out.2.2.2.2] at hx
          have hy := HHY.out.1
          rw [HYV.out.1] at hy
          have := rbefore_any C Y.cell (.slice ma key.length mc) (.slice na data.length nc) (.slice ya Y.cell.key.length yc) (.slice yb Y.cell.data.length ym) W ((hx.vals_mono fun _ _ => trivial).later hW) ((hy.vals_mono fun _ _ => trivial).later hW) ⟨_, _, _, rfl⟩ ⟨_, _, _, rfl⟩
          rw [e1, e2, ← hbb] at this
          exact this
        have HBB := hid hbb
        clear hbb
        go_upto_region 23 with (fail)
        refine wp_region_lex (by kernel_rfl) (by kernel_rfl) Later Later.refl Later.trans (kinds [(15, fun v _ => v = .bool bb)]) (kinds_still (by simp +contextual)) ?_
        simp only [numbered, Nat.reduceAdd]
        refine LexS.out ?_
        iterate 15
          first
          | (refine LexS.skip rfl ?_; simp only [Act.put, List.setIfInBounds_toArray, List.set])
          | (refine LexS.one' rfl rfl ?_
             apply Exists.intro
             refine ⟨fun w hR hF => ?_, ?_⟩
             · have hP := hR
               repeat (first | replace hP := Later.of_drew hP | replace hP := Later.of_drewN hP | replace hP := Later.of_alloc hP)
               have hcs := hR.cells
               have zc2 := hP.cell c2
               have zy0 := hP.cell y0
               have zy1 := hP.cell y1
               have zy2 := hP.cell y2
               have zy3 := hP.cell y3
               have zz0 := hP.cell z0
               have zz1 := hP.cell z1
               have zz2 := hP.cell z2
               have zz3 := hP.cell z3
               clear hR hF hP
               go_simp
               first | done | rfl
             simp only [Act.put, List.setIfInBounds_toArray, List.set])
        refine LexS.anyEq rfl rfl (fun w hR hF => ?_) ?_
        · have hP := hR
          repeat (first | replace hP := Later.of_drew hP | replace hP := Later.of_drewN hP | replace hP := Later.of_alloc hP)
          have hcs := hR.cells
          clear hF hR
          unfold Runs
          go_simp
          unfold Yield
          refine (HBEF.out _ hP).mono ?_
          rintro e w' ⟨rfl, hL⟩
          exact ⟨_, rfl, hL, rfl⟩
        simp only [Act.put, List.setIfInBounds_toArray, List.set]
        iterate 1
          first
          | (refine LexS.skip rfl ?_; simp only [Act.put, List.setIfInBounds_toArray, List.set])
          | (refine LexS.one' rfl rfl ?_
             apply Exists.intro
             refine ⟨fun w hR hF => ?_, ?_⟩
             · have hP := hR
               repeat (first | replace hP := Later.of_drew hP | replace hP := Later.of_drewN hP | replace hP := Later.of_alloc hP)
               have hcs := hR.cells
               clear hR hF hP
               go_simp
               first | done | rfl
             simp only [Act.put, List.setIfInBounds_toArray, List.set])
        refine LexS.nil ?_
        intro w12 hR12 hF9
        clear hF9
        repeat (first | replace hR12 := Later.of_drew hR12 | replace hR12 := Later.of_drewN hR12 | replace hR12 := Later.of_alloc hR12)
        cases bb with
        | false =>
          have HLQ := hid (HLO.out (by have := HBB.out; simpa using this.symm))
          have HM12 := hid (HMEM.out.later hR12)
          have HK12 := hid (HKP.out.more hR12)
          go_wp2_with fail
          go_ret
          exact rput_fin HH.out HXC.out.2.2.2.2 HOKX.out HP.out HM.out HLQ.out HGT.out HM12.out HK12.out HBN.out
        | true =>
          have HGQ2 := hid (HGQ.out (of_decide_eq_true HBB.out.symm))
          clear HBB HLO HGQ
          have HR12 := hid hR12
          clear y0 y1 y2 y3 z0 z1 z2 z3 f0 f1 f2 f3 c2
          have c2 := cell_obj (i := 2) ((HMEM.out.later hR12).obj) (v := .slice (some ⟨g, 0, none⟩) n pc) rfl
          have z0 := hR12.cell HZZ.out.1; have z1 := hR12.cell HZZ.out.2.1; have z2 := hR12.cell HZZ.out.2.2.1; have z3 := hR12.cell HZZ.out.2.2.2
          clear hR12
          obtain ⟨wS, hwS⟩ : ∃ W, W = w12.alloc (.cells #[.slice ma key.length mc, .int .i64 f, .int .i64 t, .slice na data.length nc] 73 (0, 0)) := ⟨_, rfl⟩
          obtain ⟨T2, hT2⟩ : ∃ T2, T2 = w12.heap.size := ⟨_, rfl⟩
          have HLS : Hid (Later wy wS) := hid (by rw [hwS]; exact Later.trans _ _ _ HR12.out (Later.alloc _ _))
          have HTS : Hid (wS.heap[T2]? = some (.cells #[.slice ma key.length mc, .int .i64 f, .int .i64 t, .slice na data.length nc] 73 (0, 0))) := hid (by rw [hwS, hT2]; exact obj_new _ _)
          have HTG : Hid (T2 ≠ g) := hid (by have h1 := cell_lt HZZ.out.1; have h2 := HR12.out.size; simp only at h1; omega)
          go_upto_region 26 with (fail)
          rw [← hwS, ← hT2]
          clear hwS hT2 c2 z0 z1 z2 z3
          have c2 := cell_obj (i := 2) ((HMEM.out.later HLS.out).obj) (v := .slice (some ⟨g, 0, none⟩) n pc) rfl
          have y0 := HLS.out.cell HYY.out.1; have y1 := HLS.out.cell HYY.out.2.1; have y2 := HLS.out.cell HYY.out.2.2.1; have y3 := HLS.out.cell HYY.out.2.2.2
          refine wp_region_plan (by kernel_rfl) (by kernel_rfl) [] [13, 14] (by kernel_rfl) (fun _ _ d _ _ h => by cases d <;> exact h) (Later) (Later.refl) (Later.trans) (fun _ => none) (fun _ _ _ _ _ h => by cases h) ?_
          simp only [body, tail, numbered, Nat.reduceAdd, List.filter_cons, List.filter_nil, List.contains_cons, List.contains_nil, Nat.reduceBEq, Bool.or_false, Bool.or_true, Bool.false_or, Bool.true_or, Bool.not_true, Bool.not_false, Bool.and_true, Bool.and_false, Bool.true_and, Bool.false_and, if_true, if_false, reduceIte, Bool.false_eq_true, List.map_cons, List.map_nil]
          simp only [Pures]
          refine LexS.out ?_
          iterate 13
            first
            | (refine LexS.skip rfl ?_; simp only [Act.put, List.setIfInBounds_toArray, List.set])
            | (refine LexS.one' rfl rfl ?_
               apply Exists.intro
               refine ⟨fun w hR hF => ?_, ?_⟩
               · have hP := hR
                 repeat (first | replace hP := Later.of_drew hP | replace hP := Later.of_drewN hP | replace hP := Later.of_alloc hP)
                 have hcs := hR.cells
                 have zc2 := hP.cell c2
                 have zy0 := hP.cell y0
                 have zy1 := hP.cell y1
                 have zy2 := hP.cell y2
                 have zy3 := hP.cell y3
                 clear hR hF hP
                 go_simp
                 first | done | rfl
               simp only [Act.put, List.setIfInBounds_toArray, List.set])
          refine LexS.nil ?_
          intro w13 hR13 hF9
          clear hF9
          repeat (first | replace hR13 := Later.of_drew hR13 | replace hR13 := Later.of_drewN hR13 | replace hR13 := Later.of_alloc hR13)
          have HL13 := hid (Later.trans _ _ _ HLS.out hR13)
          have HT13 := hid (hR13.obj HTS.out)
          clear c2 y0 y1 y2 y3 hR13
          have z0 := HL13.out.cell HZZ.out.1; have z1 := HL13.out.cell HZZ.out.2.1; have z2 := HL13.out.cell HZZ.out.2.2.1; have z3 := HL13.out.cell HZZ.out.2.2.2
          obtain ⟨f0, f1, f2, f3⟩ : w13.frozen? ⟨g, (q + 1) * 4, none⟩ = false ∧ w13.frozen? ⟨g, (q + 1) * 4 + 1, none⟩ = false ∧ w13.frozen? ⟨g, (q + 1) * 4 + 2, none⟩ = false ∧ w13.frozen? ⟨g, (q + 1) * 4 + 3, none⟩ = false := by
            have hown := (HMEM.out.later HL13.out).own
            obtain ⟨g', eg, -, -, -, -, -, hfr⟩ := OwnC.cells (a := some ⟨g, 0, none⟩) (n := n) (c := pc) hown (i := q) (by have h1 := insAt_length HM.out X; have h2 := HQL.out; rw [h1]; clear hwq; omega)
            simp only [Option.some.injEq, Addr.mk.injEq, and_true] at eg
            subst eg
            exact ⟨hfr _, hfr _, hfr _, hfr _⟩
          obtain ⟨w14, hw14⟩ : ∃ W, W = put4 w13 g (q + 1) Y := ⟨_, rfl⟩
          have HM14 : Hid (RefMem B w14 D lo hi (.slice (some ⟨g, 0, none⟩) n pc) (insAt ks q Y)) := hid (by rw [hw14]; exact HP1.out _ (HMEM.out.later HL13.out) (HHY.out.later HL13.out))
          have HK14 : Hid (Keeps (fun b => b ≠ g) w13 w14) := hid (by rw [hw14]; exact put4_keeps _ _ _ _)
          unfold put4 at hw14
          rw [HYV.out.1, HYV.out.2] at hw14
          go_upto_region 27 with (fail)
          rw [← hw14]
          clear hw14 z0 z1 z2 z3 f0 f1 f2 f3
          have HT14 := hid (HK14.out.obj HTG.out HT13.out)
          have HX14 := hid ((HHX.out.later HL13.out).kept HK14.out fun b hb _ e => hb.2.2 (by rw [e]; rfl))
          have c2 := cell_obj (i := 2) HM14.out.obj (v := .slice (some ⟨g, 0, none⟩) n pc) rfl
          have t0 := cell_obj (i := 0) HT14.out (v := .slice ma key.length mc) rfl
          have t1 := cell_obj (i := 1) HT14.out (v := .int .i64 f) rfl
          have t2 := cell_obj (i := 2) HT14.out (v := .int .i64 t) rfl
          have t3 := cell_obj (i := 3) HT14.out (v := .slice na data.length nc) rfl
          refine wp_region_plan (by kernel_rfl) (by kernel_rfl) [] [7, 8] (by kernel_rfl) (fun _ _ d _ _ h => by cases d <;> exact h) (Later) (Later.refl) (Later.trans) (fun _ => none) (fun _ _ _ _ _ h => by cases h) ?_
          simp only [body, tail, numbered, Nat.reduceAdd, List.filter_cons, List.filter_nil, List.contains_cons, List.contains_nil, Nat.reduceBEq, Bool.or_false, Bool.or_true, Bool.false_or, Bool.true_or, Bool.not_true, Bool.not_false, Bool.and_true, Bool.and_false, Bool.true_and, Bool.false_and, if_true, if_false, reduceIte, Bool.false_eq_true, List.map_cons, List.map_nil]
          simp only [Pures]
          refine LexS.out ?_
          iterate 7
            first
            | (refine LexS.skip rfl ?_; simp only [Act.put, List.setIfInBounds_toArray, List.set])
            | (refine LexS.one' rfl rfl ?_
               apply Exists.intro
               refine ⟨fun w hR hF => ?_, ?_⟩
               · have hP := hR
                 repeat (first | replace hP := Later.of_drew hP | replace hP := Later.of_drewN hP | replace hP := Later.of_alloc hP)
                 have hcs := hR.cells
                 have zc2 := hP.cell c2
                 have zt0 := hP.cell t0
                 have zt1 := hP.cell t1
                 have zt2 := hP.cell t2
                 have zt3 := hP.cell t3
                 clear hR hF hP
                 go_simp
                 first | done | rfl
               simp only [Act.put, List.setIfInBounds_toArray, List.set])
          refine LexS.nil ?_
          intro w15 hR15 hF9
          clear hF9
          repeat (first | replace hR15 := Later.of_drew hR15 | replace hR15 := Later.of_drewN hR15 | replace hR15 := Later.of_alloc hR15)
          have HL15 := hid hR15
          clear c2 t0 t1 t2 t3 hR15
          obtain ⟨u0, u1, u2, u3, z0, z1, z2, z3, hfr⟩ := HFR.out w15 (HM14.out.later HL15.out)
          have f0 := hfr (q * 4); have f1 := hfr (q * 4 + 1); have f2 := hfr (q * 4 + 2); have f3 := hfr (q * 4 + 3)
          obtain ⟨w16, hw16⟩ : ∃ W, W = put4 w15 g q X := ⟨_, rfl⟩
          have HM16 : Hid (RefMem B w16 D lo hi (.slice (some ⟨g, 0, none⟩) n pc) (insAt ks q X)) := hid (by rw [hw16]; exact HP2.out _ (HM14.out.later HL15.out) (HX14.out.later HL15.out))
          have HK16 : Hid (Keeps (fun b => b ≠ g) w15 w16) := hid (by rw [hw16]; exact put4_keeps _ _ _ _)
          unfold put4 at hw16
          rw [HXC.out.1, HXC.out.2.1, HXC.out.2.2.1, HXC.out.2.2.2.1] at hw16
          clear hfr
          go_upto_region 22 with (fail)
          rw [← hw16]
          clear hw16 z0 z1 z2 z3 f0 f1 f2 f3
          have HKF : Hid (Keeps (fun b => b ≠ D ∧ (Value.slice va ks.length vc).ownBlock ≠ some b) w w16) := hid (by
            have k1 := (HKP.out.more HL13.out)
            have hlt : ∀ b, b < w.heap.size → b ≠ D ∧ (Value.slice va ks.length vc).ownBlock ≠ some b → b ≠ g := fun b hb h e => by
              rcases HBN.out with h2 | h2
              · exact h.2 (by rw [← h2, e]; rfl)
              · have := h2 g rfl; omega
            have k2 : Keeps (fun b => b < w.heap.size ∧ b ≠ g) w13 w16 := ((HK14.out.mono fun b _ hb => hb.2).trans (HL15.out.keeps _)).trans (HK16.out.mono fun b _ hb => hb.2)
            exact ⟨k2.os.trans k1.os, k2.tape.trans k1.tape, k2.output.trans k1.output, Nat.le_trans k1.size k2.size, fun b hb hs => (k2.block b (Nat.lt_of_lt_of_le hb k1.size) ⟨hb, hlt b hb hs⟩).trans (k1.block b hb hs)⟩)
          go_wp2_with fail
          refine Round.mk' HR2.out Hmu2.out rfl ?_ ?_
          · exact ⟨q, rfl, Nat.le_of_lt HQL.out, HM16.out, HKF.out, HGQ2.out⟩
          · show (intOf (.int .i64 (q : Int))).toNat < (intOf (us2 14)).toNat
            rw [Hh14.out]
            simp only [intOf]
            omega
      · subst hn
        have HK := hid hk
        have hk0 : 0 ≤ (k : Int) := by omega
        have hkl : (k : Int) < ks.length := by omega
        have HCE : Hid (cellsOf (ks.set k X) = insC C (cellsOf ks)) := hid (by
          rw [insC_set (k := k) HH.out.st.sorted (by rw [List.length_map]; exact hk) (by rw [List.getElem_map]; exact hidk.trans HIDC.out.symm)]
          unfold cellsOf
          rw [List.map_set, HXC.out.2.2.2.2])
        obtain ⟨g, rfl, -, q0, q1, q2, q3, hfr⟩ := OwnC.cells HRM.out.own hk
        have HPUT := hid (HRM.out.put hk X HXH2.out)
        have f0 := hfr (k * 4); have f1 := hfr (k * 4 + 1); have f2 := hfr (k * 4 + 2); have f3 := hfr (k * 4 + 3)
        generalize ks[k] = y at q0 q1 q2 q3
        obtain ⟨⟨yk, ⟨y1, y2⟩, yd⟩, yv, yw⟩ := y
        simp only at q0 q1 q2 q3
        have HQ := hid (And.intro q0 (And.intro q1 (And.intro q2 q3)))
        have HFR := hid hfr
        clear q0 q1 q2 q3 hfr hidk hk
        go_upto_region 17 with (fail)
        refine wp_region_plan (by kernel_rfl) (by kernel_rfl) [] [6, 7] (by kernel_rfl) (fun _ _ d _ _ h => by cases d <;> exact h) (Later) (Later.refl) (Later.trans) (fun _ => none) (fun _ _ _ _ _ h => by cases h) ?_
        simp only [body, tail, numbered, Nat.reduceAdd, List.filter_cons, List.filter_nil, List.contains_cons, List.contains_nil, Nat.reduceBEq, Bool.or_false, Bool.or_true, Bool.false_or, Bool.true_or, Bool.not_true, Bool.not_false, Bool.and_true, Bool.and_false, Bool.true_and, Bool.false_and, if_true, if_false, reduceIte, Bool.false_eq_true, List.map_cons, List.map_nil]
        simp only [Pures]
        refine LexS.out ?_
        iterate 6
          first
          | (refine LexS.skip rfl ?_; simp only [Act.put, List.setIfInBounds_toArray, List.set])
          | (refine LexS.one' rfl rfl ?_
             apply Exists.intro
             refine ⟨fun w hR hF => ?_, ?_⟩
             · have hP := hR
               repeat (first | replace hP := Later.of_drew hP | replace hP := Later.of_drewN hP | replace hP := Later.of_alloc hP)
               have hcs := hR.cells
               have zc2 := hP.cell c2
               have ze0 := hP.cell e0
               have ze1 := hP.cell e1
               have ze2 := hP.cell e2
               have ze3 := hP.cell e3
               clear hR hF hP
               go_simp
               first | done | rfl
             simp only [Act.put, List.setIfInBounds_toArray, List.set])
        refine LexS.nil ?_
        intro w9 hR9 hF9
        clear hF9
        repeat (first | replace hR9 := Later.of_drew hR9 | replace hR9 := Later.of_drewN hR9 | replace hR9 := Later.of_alloc hR9)
        have HR9 := hid hR9
        have q0 := hR9.cell HQ.out.1
        have q1 := hR9.cell HQ.out.2.1
        have q2 := hR9.cell HQ.out.2.2.1
        have q3 := hR9.cell HQ.out.2.2.2
        have HPUT := hid ((HRM.out.later hR9).put HK.out X (HXH2.out.later hR9))
        clear hR9 c2 e0 e1 e2 e3 f0 f1 f2 f3
        obtain ⟨f0, f1, f2, f3⟩ : w9.frozen? ⟨g, k * 4, none⟩ = false ∧ w9.frozen? ⟨g, k * 4 + 1, none⟩ = false ∧ w9.frozen? ⟨g, k * 4 + 2, none⟩ = false ∧ w9.frozen? ⟨g, k * 4 + 3, none⟩ = false := by
          obtain ⟨g', eg, -, -, -, -, -, hfr⟩ := OwnC.cells (HRM.out.later HR9.out).own HK.out
          simp only [Option.some.injEq, Addr.mk.injEq, and_true] at eg
          subst eg
          exact ⟨hfr _, hfr _, hfr _, hfr _⟩
        go_upto_region 18 with (fail)
        obtain ⟨wB, hwB⟩ : ∃ W, W = put4 w9 g k X := ⟨_, rfl⟩
        have HPUT2 := HPUT
        rw [← hwB] at HPUT2
        have HKB : Hid (Keeps (fun b => b ≠ g) w9 wB) := hid (by rw [hwB]; exact put4_keeps _ _ _ _)
        unfold put4 at hwB
        rw [HXC.out.1, HXC.out.2.1, HXC.out.2.2.1, HXC.out.2.2.2.1] at hwB
        rw [← hwB]
        clear hwB q0 q1 q2 q3 f0 f1 f2 f3 HPUT
        go_wp2_with fail
        go_ret
        refine rputTo_ok HP.out ⟨rfl, _, _, HPUT2.out.at ?_ ?_, HCE.out, ((HL8.out.keeps _).trans (HR9.out.keeps _)).trans (HKB.out.mono fun b _ hb e => hb.2 (by rw [e]; rfl)), .inl rfl⟩
        · rw [HCE.out]; exact HH.out.st.ins HP.out
        · intro x hx
          rcases List.mem_or_eq_of_mem_set hx with h1 | rfl
          · exact HH.out.ok x h1
          · rw [HXC.out.2.2.2.2]; exact HOKX.out
    have HLT := hid hlt
    obtain ⟨g, rfl, -, q0, q1, q2, q3, -⟩ := OwnC.cells (HH.out.own) hlt
    have hheld := HH.out.held _ (List.getElem_mem hlt)
    have hstep := weight_take (id := ((f, t), key)) (L := cellsOf ks) (j := i) (by rw [List.length_map]; exact hlt)
    rw [List.getElem_map] at hstep
    have hin : (i : Int) ≠ n ↔ idC ks[i].cell ≠ ((f, t), key) := by
      have hiff : (i : Int) = n ↔ idC ks[i].cell = ((f, t), key) := by
        rcases HF.out with ⟨rfl, h0⟩ | ⟨k, hk, rfl, h0⟩
        · exact ⟨fun h => by omega, fun h => absurd h (h0 _ (List.getElem_mem hlt))⟩
        · constructor
          · intro h
            obtain rfl : i = k := by omega
            exact h0
          · intro h
            have := HH.out.st.sorted.at_inj (i := i) (j := k) (by rw [List.length_map]; exact hlt) (by rw [List.length_map]; exact hk) (by rw [List.getElem_map, List.getElem_map]; exact h.trans h0.symm)
            omega
      exact not_congr hiff
    generalize hx : ks[i] = x at q0 q1 q2 q3 hheld hstep hin
    obtain ⟨⟨xk, ⟨x1, x2⟩, xd⟩, xv, xw⟩ := x
    simp only at q0 q1 q2 q3 hstep hin
    obtain ⟨hv1, hv2⟩ := hheld
    simp only at hv1 hv2
    obtain ⟨xa, xc, rfl, -⟩ := hv1
    obtain ⟨ya, yc, rfl, -⟩ := hv2
    replace q0 := HL.out.cell q0
    replace q3 := HL.out.cell q3
    have HIN := hid hin
    have HSTEP := hid hstep
    clear hx q1 q2 hin hstep
    have hi2 : (i : Int) + 1 ≤ 9223372036854775807 := by have := HKS.out; omega
    by_cases hne : (i : Int) = n
    · have HSTEP2 := hid (HSTEP.out.trans (by rw [if_pos (Decidable.byContradiction fun h => HIN.out.2 h hne)]))
      subst hne
      clear HSTEP HIN
      go_wp2_with fail
      refine Round.mk' HR1.out Hmu1.out rfl ?_ ?_
      · exact ⟨i + 1, by show Value.int .i64 ((i : Int) + 1) = _; rw [Int.natCast_add]; rfl, by rw [HSTEP2.out, Nat.add_zero]; rfl, HLT.out, HL9.out⟩
      · show ks.length - (intOf (.int .i64 ((i : Int) + 1))).toNat < ks.length - (intOf (us1 12)).toNat
        rw [Hh12.out]
        have := HLT.out
        simp only [intOf]
        omega
    · have HSTEP2 := hid (HSTEP.out.trans (by rw [if_neg (HIN.out.1 hne)]))
      clear HSTEP HIN
      have hnx : weightL (((cellsOf ks).take i).filter (notId ((f, t), key))) + CellP.weight ⟨xk, (x1, x2), xd⟩ ≤ 67108864 := by
        have h1 := weightL_filter_le (notId ((f, t), key)) ((cellsOf ks).take (i + 1))
        have h2 : weightL (cellsOf ks) ≤ 67108864 := HH.out.st.full
        have h3 := congrArg weightL (List.take_append_drop (i + 1) (cellsOf ks))
        have e : weightL ((cellsOf ks).take (i + 1) ++ (cellsOf ks).drop (i + 1)) = weightL ((cellsOf ks).take (i + 1)) + weightL ((cellsOf ks).drop (i + 1)) := by unfold weightL; rw [List.map_append, List.sum_append]
        have h4 := HSTEP2.out
        omega
      have hcw : CellP.weight ⟨xk, (x1, x2), xd⟩ = xd.length + 64 * xk.length + 32 := rfl
      rw [hcw] at hnx HSTEP2
      clear hcw
      generalize hW1 : weightL (((cellsOf ks).take i).filter (notId ((f, t), key))) = W1 at hnx
      obtain ⟨W, hW⟩ : ∃ W : Nat, W = W0 + W1 := ⟨_, rfl⟩
      rw [← hW]
      rw [hW1] at HSTEP2
      have hwb := HWB.out
      obtain ⟨a1, ha1⟩ : ∃ a1 : Int, a1 = (W : Int) + xd.length := ⟨_, rfl⟩
      obtain ⟨a2, ha2⟩ : ∃ a2 : Int, a2 = 64 * (xk.length : Int) := ⟨_, rfl⟩
      obtain ⟨a3, ha3⟩ : ∃ a3 : Int, a3 = a1 + a2 := ⟨_, rfl⟩
      obtain ⟨a4, ha4⟩ : ∃ a4 : Int, a4 = a3 + 32 := ⟨_, rfl⟩
      have HS1 : Hid (IntKind.i64.wrap ((W : Int) + (xd.length : Int)) = a1) := hid ((IntWalk.i64_in _ (by omega)).trans ha1.symm)
      have HS2 : Hid (IntKind.i64.wrap (64 * (xk.length : Int)) = a2) := hid ((IntWalk.i64_in _ (by omega)).trans ha2.symm)
      have HS3 : Hid (IntKind.i64.wrap (a1 + a2) = a3) := hid ((IntWalk.i64_in _ (by omega)).trans ha3.symm)
      have HS4 : Hid (IntKind.i64.wrap (a3 + 32) = a4) := hid ((IntWalk.i64_in _ (by omega)).trans ha4.symm)
      have HA4 : Hid (a4 = ((W0 + weightL (((cellsOf ks).take (i + 1)).filter (notId ((f, t), key))) : Nat) : Int)) := hid (by rw [HSTEP2.out]; omega)
      clear hwb hnx hW1 hW ha1 ha2 ha3 ha4 HSTEP2 Hh11
      go_upto_region 9 with (fail)
      have hne3 : ((i : Int) != n) = true := by rw [bne_iff_ne]; exact hne
      clear hne
      go_upto_region 10 with (fail)
      have s1 := HS1.out
      have s2 := HS2.out
      have s3 := HS3.out
      have s4 := HS4.out
      clear hi2
      refine wp_region_lex (by kernel_rfl) (by kernel_rfl) Later Later.refl Later.trans (fun _ => none) (fun _ _ _ _ _ h => by cases h) ?_
      simp only [numbered, Nat.reduceAdd]
      refine LexS.out ?_
      iterate 24
        first
        | (refine LexS.skip rfl ?_; simp only [Act.put, List.setIfInBounds_toArray, List.set])
        | (refine LexS.one' rfl rfl ?_
           apply Exists.intro
           refine ⟨fun w hR hF => ?_, ?_⟩
           · have hP := hR
             repeat (first | replace hP := Later.of_drew hP | replace hP := Later.of_drewN hP | replace hP := Later.of_alloc hP)
             have hcs := hR.cells
             have zc2 := hP.cell c2
             have zq0 := hP.cell q0
             have zq3 := hP.cell q3
             clear hR hF hP
             go_simp
             first | done | rfl
           simp only [Act.put, List.setIfInBounds_toArray, List.set])
      refine LexS.nil ?_
      intro w4 hR4 hF9
      clear hF9
      repeat (first | replace hR4 := Later.of_drew hR4 | replace hR4 := Later.of_drewN hR4 | replace hR4 := Later.of_alloc hR4)
      clear s1 s2 s3 s4 c2 q0 q3
      have hi2 : (i : Int) + 1 ≤ 9223372036854775807 := by have := HKS.out; have := HLT.out; omega
      go_wp2_with fail
      refine Round.mk' HR1.out Hmu1.out rfl ?_ ?_
      · exact ⟨i + 1, by show Value.int .i64 ((i : Int) + 1) = _; rw [Int.natCast_add]; rfl, congrArg _ HA4.out, HLT.out, Later.trans _ _ _ HL9.out hR4⟩
      · show ks.length - (intOf (.int .i64 ((i : Int) + 1))).toNat < ks.length - (intOf (us1 12)).toNat
        rw [Hh12.out]
        have := HLT.out
        simp only [intOf]
        omega
end Go.Proofs.YtgcnchmnciihnaaGreatDoor
