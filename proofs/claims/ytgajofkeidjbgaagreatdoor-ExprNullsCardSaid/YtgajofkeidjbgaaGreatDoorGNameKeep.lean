/-
  PROVED HERE: worlds in which but the places of names became their columns' numbers; trees whose names hold such places.
  PROVED HERE: expr's levelOf.
  PROVED HERE: expr's caught: what it answers of a function that returns, and of one that panics with a fault.
-/
import Derived.Test.YtgajofkeidjbgaaGreatDoorGTabExpr
import Derived.Test.YtgajofkeidjbgaaGreatDoorGRegionK
import Derived.Test.YtgajofkeidjbgaaGreatDoorGParText
import Derived.Test.YtgajofkeidjbgaaGreatDoorShelf3
import Derived.Test.YtgajofkeidjbgaaGreatDoorGEval3
import Derived.Defers
import Derived.Recover
import Derived.Deep.RegionHeld
import Derived.Laws.Pointers
namespace Go.Proofs.YtgajofkeidjbgaaGreatDoor
set_option linter.unusedSimpArgs false
set_option linter.unusedVariables false
open Go.RowKit

def nameO (s : List UInt8) (p : Int) : Obj := .cells #[.string (strB s), .int .i64 p] 167 (0, 0)
theorem nameO_inj {s s' : List UInt8} {p p' : Int} (h : nameO s p = nameO s' p') : s = s' ∧ p = p' := by
  unfold nameO at h
  simp only [Obj.cells.injEq, Array.mk.injEq, List.cons.injEq, Value.string.injEq, Value.int.injEq, true_and, and_true] at h
  exact ⟨strB_inj h.1, h.2⟩
/-- each block is as it was, or, at 'B' or above, a name whose place became its column's number. -/
structure NmKeep (B : Nat) (cs : List Col) (w w' : World) : Prop where
  os : w'.os = w.os
  tape : w'.tape = w.tape
  output : w'.output = w.output
  size : w.heap.size ≤ w'.heap.size
  block : ∀ b, b < w.heap.size → w'.heap[b]? = w.heap[b]? ∨ (B ≤ b ∧ ∃ (s : List UInt8) (p : Int) (i : Nat), w.heap[b]? = some (nameO s p) ∧ colAt cs s = some i ∧ w'.heap[b]? = some (nameO s (i : Int)))
theorem NmKeep.refl (B : Nat) (cs : List Col) (w : World) : NmKeep B cs w w := ⟨rfl, rfl, rfl, Nat.le_refl _, fun _ _ => .inl rfl⟩
theorem NmKeep.trans {B : Nat} {cs : List Col} {a b c : World} (h : NmKeep B cs a b) (k : NmKeep B cs b c) : NmKeep B cs a c :=
  ⟨k.os.trans h.os, k.tape.trans h.tape, k.output.trans h.output, Nat.le_trans h.size k.size, fun x hx => by
    rcases h.block x hx with h1 | ⟨hB, s, p, i, h1, h2, h3⟩
    · rcases k.block x (Nat.lt_of_lt_of_le hx h.size) with k1 | ⟨hB, s, p, i, k1, k2, k3⟩
      · exact .inl (k1.trans h1)
      · exact .inr ⟨hB, s, p, i, h1 ▸ k1, k2, k3⟩
    · rcases k.block x (Nat.lt_of_lt_of_le hx h.size) with k1 | ⟨-, s', p', i', k1, k2, k3⟩
      · exact .inr ⟨hB, s, p, i, h1, h2, k1.trans h3⟩
      · rw [h3] at k1
        obtain ⟨rfl, -⟩ := nameO_inj (Option.some.inj k1)
        exact .inr ⟨hB, s, p, i', h1, k2, k3⟩⟩
theorem NmKeep.later {B : Nat} {cs : List Col} {w w' : World} (h : Later w w') : NmKeep B cs w w' := by
  have k := h.keeps (fun _ => True)
  exact ⟨k.os, k.tape, k.output, k.size, fun b hb => .inl (k.block b hb trivial)⟩
theorem NmKeep.below {B : Nat} {cs : List Col} {w w' : World} (h : NmKeep B cs w w') : Keeps (fun b => b < B) w w' :=
  ⟨h.os, h.tape, h.output, h.size, fun b hb hB => by
    rcases h.block b hb with h1 | ⟨h1, -⟩
    · exact h1
    · omega⟩
theorem NmKeep.obj {B b : Nat} {cs : List Col} {w w' : World} (h : NmKeep B cs w w') {xs : Array Value} {T : TypeId} {f : Nat × Nat} (hb : w.heap[b]? = some (.cells xs T f)) (hT : T ≠ 167) : w'.heap[b]? = some (.cells xs T f) := by
  rcases h.block b (obj_lt hb) with h1 | ⟨-, s, p, i, h1, -⟩
  · rw [h1]; exact hb
  · rw [hb] at h1
    injection h1 with h1
    unfold nameO at h1
    injection h1 with _ h1
    exact absurd h1 hT
/-- the place of a name is set. -/
theorem NmKeep.set {B N : Nat} {cs : List Col} {w : World} {s : List UInt8} {p : Int} {i : Nat} (hN : w.heap[N]? = some (nameO s p)) (hB : B ≤ N) (hi : colAt cs s = some i) : NmKeep B cs w (w.setCell ⟨N, 1, none⟩ (.int .i64 (i : Int))) ∧ (w.setCell ⟨N, 1, none⟩ (.int .i64 (i : Int))).heap[N]? = some (nameO s (i : Int)) := by
  have h2 : (w.setCell ⟨N, 1, none⟩ (.int .i64 (i : Int))).heap[N]? = some (nameO s (i : Int)) := obj_setCell (i := 1) hN _
  have k := (Keeps.refl (fun b => b ≠ N) w).setCell (p := ⟨N, 1, none⟩) (.inl fun h => h rfl) (.int .i64 (i : Int))
  refine ⟨⟨k.os, k.tape, k.output, k.size, fun b hb => ?_⟩, h2⟩
  by_cases hbN : b = N
  · subst hbN; exact .inr ⟨hB, s, p, i, hN, hi, h2⟩
  · exact .inl (k.block b hb hbN)
mutual
/-- the tree in memory, in blocks of 'S'; 'q' tells what place a name may hold. -/
def NodeG (q : List UInt8 → Nat → Int → Prop) (S : Nat → Prop) (w : World) : Value → Ex → Prop
  | v, .lit x => ∃ B, S B ∧ v = .iface 161 (.pointer (some ⟨B, 0, none⟩)) ∧ w.heap[B]? = some (.cells #[.int .i64 x.k, .int .i64 x.n, .string x.t] 163 (0, 0))
  | v, .name s p => ∃ B pos, S B ∧ v = .iface 164 (.pointer (some ⟨B, 0, none⟩)) ∧ w.heap[B]? = some (nameO s pos) ∧ q s p pos
  | v, .un neg p x => ∃ B u, S B ∧ v = .iface 137 (.pointer (some ⟨B, 0, none⟩)) ∧ w.heap[B]? = some (.cells #[.string (strB (opW neg)), .int .i64 (p : Int), u] 139 (0, 0)) ∧ NodeG q S w u x
  | v, .bin o p x y => ∃ B u1 u2, S B ∧ v = .iface 140 (.pointer (some ⟨B, 0, none⟩)) ∧ w.heap[B]? = some (.cells #[.string (strB o), .int .i64 (p : Int), u1, u2] 142 (0, 0)) ∧ NodeG q S w u1 x ∧ NodeG q S w u2 y
  | v, .call f p l => ∃ B vs a, S B ∧ v = .iface 168 (.pointer (some ⟨B, 0, none⟩)) ∧ w.heap[B]? = some (.cells #[.string (strB f), .int .i64 (p : Int), a] 174 (0, 0)) ∧
      ArgsIn S w a vs ∧ NodesG q S w vs l
def NodesG (q : List UInt8 → Nat → Int → Prop) (S : Nat → Prop) (w : World) : List Value → List Ex → Prop
  | [], [] => True
  | v :: vs, x :: l => NodeG q S w v x ∧ NodesG q S w vs l
  | _, _ => False
end
/-- before the kinds are found; behind that. -/
def qMay (cs : List Col) (s : List UInt8) (p : Nat) (pos : Int) : Prop := pos = (p : Int) ∨ ∃ i : Nat, colAt cs s = some i ∧ pos = (i : Int)
def qIdx (cs : List Col) (s : List UInt8) (_ : Nat) (pos : Int) : Prop := ∃ i : Nat, colAt cs s = some i ∧ pos = (i : Int)
theorem qMay_set {cs : List Col} {s : List UInt8} {p i : Nat} (h : colAt cs s = some i) : qMay cs s p (i : Int) := .inr ⟨i, h, rfl⟩
theorem qIdx_set {cs : List Col} {s : List UInt8} {p i : Nat} (h : colAt cs s = some i) : qIdx cs s p (i : Int) := ⟨i, h, rfl⟩
theorem args_named {B : Nat} {cs : List Col} {S : Nat → Prop} {w w' : World} {a : Value} {vs : List Value} (h : ArgsIn S w a vs) (k : NmKeep B cs w w') : ArgsIn S w' a vs := by
  obtain ⟨⟨h1, h2⟩, h3⟩ := h
  refine ⟨⟨h1, h2.imp id ?_⟩, h3⟩
  rintro ⟨g, cap, cur, hv, hb, hg, hr⟩
  exact ⟨g, cap, cur, hv, hb, k.obj hg (by decide), hr⟩
mutual
theorem NodeG.kept {q : List UInt8 → Nat → Int → Prop} {B : Nat} {cs : List Col} {S : Nat → Prop} {w w' : World} (hq : ∀ s p (i : Nat), colAt cs s = some i → q s p (i : Int)) (k : NmKeep B cs w w') : ∀ (v : Value) (x : Ex), NodeG q S w v x → NodeG q S w' v x
  | v, .lit x, h => by
    unfold NodeG at h ⊢
    obtain ⟨N, h1, h2, h3⟩ := h
    exact ⟨N, h1, h2, k.obj h3 (by decide)⟩
  | v, .name s p, h => by
    unfold NodeG at h ⊢
    obtain ⟨N, pos, h1, h2, h3, h4⟩ := h
    rcases k.block N (obj_lt h3) with e | ⟨-, s', p', i, e1, e2, e3⟩
    · exact ⟨N, pos, h1, h2, by rw [e]; exact h3, h4⟩
    · rw [h3] at e1
      obtain ⟨rfl, -⟩ := nameO_inj (Option.some.inj e1)
      exact ⟨N, _, h1, h2, e3, hq _ _ _ e2⟩
  | v, .un neg p x, h => by
    unfold NodeG at h ⊢
    obtain ⟨N, u, h1, h2, h3, h4⟩ := h
    exact ⟨N, u, h1, h2, k.obj h3 (by decide), NodeG.kept hq k u x h4⟩
  | v, .bin o p x y, h => by
    unfold NodeG at h ⊢
    obtain ⟨N, u1, u2, h1, h2, h3, h4, h5⟩ := h
    exact ⟨N, u1, u2, h1, h2, k.obj h3 (by decide), NodeG.kept hq k u1 x h4, NodeG.kept hq k u2 y h5⟩
  | v, .call f p l, h => by
    unfold NodeG at h ⊢
    obtain ⟨N, vs, a, h1, h2, h3, h4, h5⟩ := h
    exact ⟨N, vs, a, h1, h2, k.obj h3 (by decide), args_named h4 k, NodesG.kept hq k vs l h5⟩
theorem NodesG.kept {q : List UInt8 → Nat → Int → Prop} {B : Nat} {cs : List Col} {S : Nat → Prop} {w w' : World} (hq : ∀ s p (i : Nat), colAt cs s = some i → q s p (i : Int)) (k : NmKeep B cs w w') : ∀ (vs : List Value) (l : List Ex), NodesG q S w vs l → NodesG q S w' vs l
  | [], [], h => by unfold NodesG; trivial
  | v :: vs, x :: l, h => by
    unfold NodesG at h ⊢
    exact ⟨NodeG.kept hq k v x h.1, NodesG.kept hq k vs l h.2⟩
  | [], _ :: _, h => by unfold NodesG at h; exact h.elim
  | _ :: _, [], h => by unfold NodesG at h; exact h.elim
end
mutual
theorem NodeIn.may (cs : List Col) {S : Nat → Prop} {w : World} : ∀ (v : Value) (x : Ex), NodeIn S w v x → NodeG (qMay cs) S w v x
  | v, .lit x, h => by
    unfold NodeIn at h
    unfold NodeG
    exact h
  | v, .name s p, h => by
    unfold NodeIn at h
    unfold NodeG
    obtain ⟨N, h1, h2, h3⟩ := h
    exact ⟨N, _, h1, h2, h3, .inl rfl⟩
  | v, .un neg p x, h => by
    unfold NodeIn at h
    unfold NodeG
    obtain ⟨N, u, h1, h2, h3, h4⟩ := h
    exact ⟨N, u, h1, h2, h3, NodeIn.may cs u x h4⟩
  | v, .bin o p x y, h => by
    unfold NodeIn at h
    unfold NodeG
    obtain ⟨N, u1, u2, h1, h2, h3, h4, h5⟩ := h
    exact ⟨N, u1, u2, h1, h2, h3, NodeIn.may cs u1 x h4, NodeIn.may cs u2 y h5⟩
  | v, .call f p l, h => by
    unfold NodeIn at h
    unfold NodeG
    obtain ⟨N, vs, a, h1, h2, h3, h4, h5⟩ := h
    exact ⟨N, vs, a, h1, h2, h3, h4, NodesIn.may cs vs l h5⟩
theorem NodesIn.may (cs : List Col) {S : Nat → Prop} {w : World} : ∀ (vs : List Value) (l : List Ex), NodesIn S w vs l → NodesG (qMay cs) S w vs l
  | [], [], h => by unfold NodesG; trivial
  | v :: vs, x :: l, h => by
    unfold NodesIn at h
    unfold NodesG
    exact ⟨NodeIn.may cs v x h.1, NodesIn.may cs vs l h.2⟩
  | [], _ :: _, h => by unfold NodesIn at h; exact h.elim
  | _ :: _, [], h => by unfold NodesIn at h; exact h.elim
end
end Go.Proofs.YtgajofkeidjbgaaGreatDoor
namespace Go.Proofs.YtgajofkeidjbgaaGreatDoor
set_option linter.unusedSimpArgs false
set_option linter.unusedVariables false
open Go.RowKit

theorem list_has (xs : List (List UInt8)) (l : List UInt8) : Lib.containsS (xs.map strB) (strB l) = decide (l ∈ xs) := by
  rw [Bool.eq_iff_iff, Lib.containsS_iff, decide_eq_true_eq]
  constructor
  · intro h
    obtain ⟨x, hx, he⟩ := List.mem_map.1 h
    have : x = l := by rw [← strB_toL' x, he, strB_toL']
    rw [← this]; exact hx
  · exact fun h => List.mem_map.2 ⟨l, h, rfl⟩
theorem contains_any (b : Nat) (xs : List (List UInt8)) (l : List UInt8) (w : World) (hx : xs.length ≤ 1000) (h : StrsAt w b 0 xs) :
    Calls Tryz.prog 101 #[.slice (some ⟨b, 0, none⟩) xs.length xs.length, .string (strB l)] w fun e w' => e = .returned (.bool (decide (l ∈ xs))) ∧ w' = w := by
  refine (Tryz.slices_Contains_string b 0 xs.length xs.length (xs.map strB) (strB l) w (by simp) (by omega) (fun j hj => ?_)).mono ?_
  · have hj' : j < xs.length := by simpa using hj
    rw [h j hj', List.getD_eq_getElem?_getD, List.getElem?_map, List.getElem?_eq_getElem hj']
    rfl
  · rintro e w' ⟨rfl, rfl⟩
    rw [List.take_of_length_le (by simp), list_has]
    exact ⟨rfl, rfl⟩
theorem level1_any (X b : Nat) (xs : List (List UInt8)) (o : List UInt8) (w : World) (hx : xs.length ≤ 1000) (hX : w.cell? ⟨X, 0, none⟩ = some (.string (strB o))) (h : StrsAt w b 0 xs) :
    Calls Tryz.prog 103 #[.slice (some ⟨b, 0, none⟩) xs.length xs.length, .pointer (some ⟨X, 0, none⟩)] w fun e w' => e = .returned (.bool (decide (o ∈ xs))) ∧ w' = w := by
  have HS := hid h
  clear h
  go_enter Tryz.func103, Tryz.ntmps103
  go_wp2_with fail
  refine (contains_any b xs o w hx HS.out).mono ?_
  rintro e w' ⟨rfl, hw⟩
  subst hw
  obtain ⟨bb, hbb⟩ : ∃ b, decide (o ∈ xs) = b := ⟨_, rfl⟩
  rw [hbb]
  go_wp2_with fail
  exact bodyPost_ret (results_tmp rfl _ _ _) rfl ⟨by rw [hbb]; rfl, rfl⟩
theorem lvl_small : ∀ L, (lvlOps L).length ≤ 1000
  | 0 => by decide
  | 1 => by decide
  | 2 => by decide
  | 3 => by decide
  | 4 => by decide
  | _ + 5 => by show 0 ≤ _; omega
theorem level_first {o : List UInt8} (ho : o ∈ opsW) : levelO o < 5 ∧ o ∈ lvlOps (levelO o) ∧ ∀ j, j < levelO o → o ∉ lvlOps j := by
  rcases opsW_cases ho with rfl | rfl | rfl | rfl | rfl | rfl | rfl | rfl | rfl | rfl | rfl | rfl | rfl | rfl <;> decide
set_option maxRecDepth 100000 in
set_option maxHeartbeats 2000000 in
theorem idxl (X B : Nat) (o : List UInt8) (ho : o ∈ opsW) (w : World) (S : Nat → Prop) (hX : w.cell? ⟨X, 0, none⟩ = some (.string (strB o))) (hl : LevelsAt S w (.slice (some ⟨B, 0, none⟩) 5 5)) :
    Calls Tryz.prog 102 #[.slice (some ⟨B, 0, none⟩) 5 5, .func (.func 103) #[] #[.pointer (some ⟨X, 0, none⟩)]] w fun e w' => e = .returned (.int .i64 (levelO o : Int)) ∧ w' = w := by
  have HL := hid hl; have HX := hid hX; have HO := hid (level_first ho)
  have hent : ∀ args w, (callFunc 103 args).run Tryz.prog w = .ok (.enter 103 args) w := enters_of Tryz.func103 (by kernel_rfl) rfl
  clear hX hl ho
  go_enter Tryz.func102, Tryz.ntmps102
  go_wp2_with fail
  obtain ⟨R1, hR1⟩ : ∃ RR_ : (Nat → Value) → World → Prop, RR_ = (fun us wx => ∃ k : Nat, us 8 = .int .i64 k ∧ k ≤ levelO o ∧ wx = w) := ⟨_, rfl⟩
  obtain ⟨mu1, hmu1⟩ : ∃ mu : (Nat → Value) → World → Nat, mu = (fun us _ => 5 - (intOf (us 8)).toNat) := ⟨_, rfl⟩
  have HR1 := hid hR1; have Hmu1 := hid hmu1; clear hR1 hmu1
  refine wp_loop_frame' [false, false, false, false, true, true, false, false, true, true, true, true, true, true, true, true, true, true, true] R1 _ mu1 HR1.out ?_ ?_
  · exact ⟨0, rfl, Nat.zero_le _, rfl⟩
  intro us1 wx hrel
  obtain ⟨k, h8, hk, hw⟩ := hrel
  simp only [frameOf, Nat.reduceAdd, h8]
  have Hh8 := hid h8; clear h8
  subst hw
  have HK := hid hk
  have hk5 : (k : Int) < 5 := by have := HO.out.1; omega
  have HK5 : Hid (k < 5) := hid (by omega)
  clear hk
  obtain ⟨b, hb, hstr⟩ : ∃ b, wx.cell? ⟨B, k, none⟩ = some (.slice (some ⟨b, 0, none⟩) (lvlOps k).length (lvlOps k).length) ∧ StrsAt wx b 0 (lvlOps k) := by
    obtain ⟨B', hB', -, hk'⟩ := HL.out
    simp only [Value.slice.injEq, Option.some.injEq, Addr.mk.injEq, and_true] at hB'
    obtain rfl := hB'
    obtain ⟨b, -, h1, h2⟩ := hk' k HK5.out
    exact ⟨b, h1, h2⟩
  have HSTR := hid hstr
  have hg := cell_lt hb
  have HWK : Hid (wrap64 ((k : Int) + 1) = ((k + 1 : Nat) : Int)) := hid (by have := HK5.out; unfold wrap64; omega)
  clear hstr
  go_wp2_with fail
  refine (level1_any X b (lvlOps k) o _ (lvl_small k) HX.out HSTR.out).mono ?_
  rintro e w1 ⟨rfl, hw1⟩
  subst hw1
  by_cases hq : o ∈ lvlOps k
  · have hkl : k = levelO o := by
      have h1 := HK.out
      have h2 := HO.out.2.2 k
      rcases Nat.lt_or_ge k (levelO o) with h | h
      · exact absurd hq (h2 h)
      · omega
    have HKL := hid hkl
    rw [decide_eq_true hq]
    clear hq hkl hb
    go_wp2_with fail
    go_ret
    exact ⟨by rw [← HKL.out]; rfl, rfl⟩
  · have hkl : k < levelO o := by
      have h1 := HK.out
      rcases Nat.lt_or_ge k (levelO o) with h | h
      · exact h
      · have : k = levelO o := by omega
        exact absurd (this ▸ HO.out.2.1) hq
    have HKL := hid hkl
    rw [decide_eq_false hq]
    clear hq hkl hb
    go_wp2_with fail
    try simp only [HWK.out]
    refine Round.mk' HR1.out Hmu1.out rfl ?_ ?_
    · exact ⟨k + 1, rfl, HKL.out, rfl⟩
    · rw [Hh8.out]; have := HK5.out; simp [intOf, slots]; omega
set_option maxRecDepth 100000 in
theorem levelOf_any (o : List UInt8) (ho : o ∈ opsW) (w : World) : Calls Tryz.prog 87 #[.string (strB o)] w fun e w' => e = .returned (.int .i64 (levelO o : Int)) ∧ Later w w' := by
  have HO := hid ho
  clear ho
  go_enter Tryz.func87, Tryz.ntmps87
  go_wp2_with fail
  refine (levels_any _).mono ?_
  rintro e w1 ⟨v, rfl, hlv, hL1⟩
  have hX := hL1.cell (cell_obj (i := 0) (obj_new w (.cells #[.string (strB o)] 9)) rfl)
  have HLW := hid (Later.trans _ _ _ (Later.alloc w (.cells #[.string (strB o)] 9)) hL1)
  have HLV := hid hlv
  have HX := hid hX
  obtain ⟨B, rfl, -⟩ := id hlv
  clear hL1 hlv hX
  go_wp2_with fail
  refine (idxl w.heap.size B o HO.out w1 _ HX.out HLV.out).mono ?_
  rintro e w2 ⟨rfl, hw⟩
  subst hw
  go_wp2_with fail
  exact bodyPost_ret (results_tmp rfl _ _ _) rfl ⟨rfl, HLW.out⟩
end Go.Proofs.YtgajofkeidjbgaaGreatDoor
namespace Go.Proofs.YtgajofkeidjbgaaGreatDoor
set_option linter.unusedSimpArgs false
set_option linter.unusedVariables false
open Go.RowKit

def errV (c : Int) : Value := .iface 29 (.int .i64 c)
theorem assert_fault (c p : Int) (w : World) : (Instr.typeAssert (.iface 93 (.agg #[.int .i64 c, .int .i64 p])) 20 93 true).run Tryz.prog w = .ok (.tuple #[.agg #[.int .i64 c, .int .i64 p], .bool true]) w := by kernel_rfl
theorem assert_none (w : World) : (Instr.typeAssert .nilIface 20 93 true).run Tryz.prog w = .ok (.tuple #[.agg #[.int .i64 0, .int .i64 0], .bool false]) w := by kernel_rfl
attribute [local go_sem high] assert_fault assert_none
set_option maxRecDepth 100000 in
set_option maxHeartbeats 1000000 in
theorem caught1_panicking (A B : Nat) (x : Int) (y : Value) (c : Int) (p : Nat) (w : World) (hA : w.heap[A]? = some (.cells #[.int .i64 x] 3 (0, 0))) (hB : w.heap[B]? = some (.cells #[y] 23 (0, 0))) (hAB : A ≠ B) :
    CallsD Tryz.prog 36 #[.pointer (some ⟨A, 0, none⟩), .pointer (some ⟨B, 0, none⟩)] (.panicking [{ v := faultV c p, recovered := false }]) w fun e u' w' =>
      e = .returned (.tuple #[]) ∧ u' = .panicking [{ v := faultV c p, recovered := true }] ∧ Keeps (fun b => b ≠ A ∧ b ≠ B) w w' ∧ w'.heap[A]? = some (.cells #[.int .i64 (p : Int)] 3 (0, 0)) ∧ w'.heap[B]? = some (.cells #[errV c] 23 (0, 0)) := by
  refine callsD_of_wpS Tryz.func36 rfl fun c₀ cs hu => ?_
  apply wpS_seq
  apply wpS_region
  simp [wpOpsS, go_sem, recoverD, hu, Tryz.ntmps36, Exit.thenS]
  have hfr : ∀ v : Value, (#[.pointer (some ⟨A, 0, none⟩), .pointer (some ⟨B, 0, none⟩)] ++ (((Array.replicate 18 undef).setIfInBounds 3 v).setIfInBounds 0 v) : Array Value) = #[.pointer (some ⟨A, 0, none⟩), .pointer (some ⟨B, 0, none⟩), v, undef, undef, v, undef, undef, undef, undef, undef, undef, undef, undef, undef, undef, undef, undef, undef, undef] := fun v => by simp [Array.replicate, List.replicate]
  rw [hfr]
  clear hfr
  refine wpS_of_wp ?_
  unfold faultV
  have ha0 := cell_obj (i := 0) hA rfl
  have hb0 := cell_obj (i := 0) hB rfl
  have za := free_obj (i := 0) hA
  have zb := free_obj (i := 0) hB
  have hla := cell_lt ha0
  have hlb := cell_lt hb0
  go_wp2_with fail
  obtain ⟨w1, hw1⟩ : ∃ w1, w1 = w.alloc (.cells #[.int .i64 c, .int .i64 (p : Int)] 93 (0, 0)) := ⟨_, rfl⟩
  obtain ⟨F, hF⟩ : ∃ F, F = w.heap.size := ⟨_, rfl⟩
  have hL : Later w w1 := hw1 ▸ Later.alloc _ _
  have hF1 : w1.heap[F]? = some (.cells #[.int .i64 c, .int .i64 (p : Int)] 93 (0, 0)) := by rw [hw1, hF]; exact obj_new _ _
  have hFA : F ≠ A := by rw [hF]; omega
  have hFB : F ≠ B := by rw [hF]; omega
  rw [← hw1, ← hF]
  clear hw1 hF ha0 hb0 za zb
  have HA := hid (hL.obj hA); have HB := hid (hL.obj hB); have HL := hid hL; have HFA := hid hFA; have HFB := hid hFB; have HAB := hid hAB
  clear hL hA hB hFA hFB hAB hla hlb
  refine wp_region_held_drew (S := fun w => w.cell? ⟨F, 0, none⟩ = some (.int .i64 c) ∧ w.cell? ⟨F, 1, none⟩ = some (.int .i64 (p : Int))) (by kernel_rfl) ⟨(Later.drew w1).cell (cell_obj (i := 0) hF1 rfl), (Later.drew w1).cell (cell_obj (i := 1) hF1 rfl)⟩ (fun hS => ?_)
  refine wpAnyH_take (i := 0) (v := .pointer (some ⟨F, 1, none⟩)) rfl (by kernel_rfl) (by kernel_rfl) (by kernel_rfl) (fun _ _ _ h => h) (Or.inl ⟨by rfl, ?_⟩) hS ?_
  · intro w hS
    go_simp
  refine wpAnyH_take (i := 1) (v := .int .i64 (p : Int)) rfl (by kernel_rfl) (by kernel_rfl) (by kernel_rfl) (fun _ _ _ h => h) (Or.inl ⟨by rfl, ?_⟩) hS ?_
  · intro w hS
    obtain ⟨h0, h1⟩ := hS
    go_simp
  refine wpAnyH_take (i := 2) (v := .pointer (some ⟨F, 0, none⟩)) rfl (by kernel_rfl) (by kernel_rfl) (by kernel_rfl) (fun _ _ _ h => h) (Or.inl ⟨by rfl, ?_⟩) hS ?_
  · intro w hS
    go_simp
  refine wpAnyH_take (i := 3) (v := .int .i64 c) rfl (by kernel_rfl) (by kernel_rfl) (by kernel_rfl) (fun _ _ _ h => h) (Or.inl ⟨by rfl, ?_⟩) hS ?_
  · intro w hS
    obtain ⟨h0, h1⟩ := hS
    go_simp
  refine wpAnyH_take (i := 4) (v := errV c) rfl (by kernel_rfl) (by kernel_rfl) (by kernel_rfl) (fun _ _ _ h => h) (Or.inl ⟨by rfl, ?_⟩) hS ?_
  · intro w hS
    unfold errV
    go_simp
  try simp only [Act.put, List.setIfInBounds_toArray, List.set]
  refine wpAnyH_ready (rs := [5]) (by kernel_rfl) (by simp) (AllReadyH.cons rfl (fun K hK => ?_) AllReadyH.nil)
  have za := free_obj (i := 0) ((Later.drew w1).obj HA.out)
  have ha0 := cell_obj (i := 0) ((Later.drew w1).obj HA.out) rfl
  go_simp
  have hk : Keeps (fun b => b ≠ A) w1 (w1.setCell ⟨A, 0, none⟩ (.int .i64 (p : Int))).drew := ((Keeps.refl _ w1).setCell (p := ⟨A, 0, none⟩) (.inl fun h => h rfl) _).trans ((Later.drew _).keeps _)
  have HA2 : Hid ((w1.setCell ⟨A, 0, none⟩ (.int .i64 (p : Int))).drew.heap[A]? = some (.cells #[.int .i64 (p : Int)] 3 (0, 0))) := hid ((Later.drew _).obj (obj_setCell (i := 0) HA.out _))
  have HB2 := hid (hk.obj (Ne.symm HAB.out) HB.out)
  have hF2 := hk.obj HFA.out hF1
  have HK2 := hid hk
  obtain ⟨w2, hw2⟩ : ∃ w2, w2 = (w1.setCell ⟨A, 0, none⟩ (.int .i64 (p : Int))).drew := ⟨_, rfl⟩
  rw [← hw2] at HA2 HB2 hF2 HK2 ⊢
  clear hw2 hk za ha0 hS hF1
  refine hK.out _ _ ⟨cell_obj (i := 0) hF2 rfl, cell_obj (i := 1) hF2 rfl⟩ (fun hS => ?_)
  clear hK K
  try simp only [Act.put, List.setIfInBounds_toArray, List.set]
  refine wpAnyH_ready (rs := [6]) (by kernel_rfl) (by simp) (AllReadyH.cons rfl (fun K hK => ?_) AllReadyH.nil)
  have zb := free_obj (i := 0) HB2.out
  have hb0 := cell_obj (i := 0) HB2.out rfl
  unfold errV
  go_simp
  have hk : Keeps (fun b => b ≠ B) w2 (w2.setCell ⟨B, 0, none⟩ (.iface 29 (.int .i64 c))) := (Keeps.refl _ w2).setCell (p := ⟨B, 0, none⟩) (.inl fun h => h rfl) _
  have HA3 := hid (hk.obj HAB.out HA2.out)
  have HB3 := hid (obj_setCell (i := 0) HB2.out (.iface 29 (.int .i64 c)))
  have hF3 := hk.obj HFB.out hF2
  have HK3 := hid hk
  refine hK.out _ _ ⟨cell_obj (i := 0) hF3 rfl, cell_obj (i := 1) hF3 rfl⟩ (fun hS => ?_)
  clear hK K hk hS zb hb0 hF2 hF3
  refine wpAnyH_done (by kernel_rfl) ?_ _
  go_wp2_with fail
  have hkk : Keeps (fun b => ¬ b = A ∧ ¬ b = B) w (w2.setCell ⟨B, 0, none⟩ (.iface 29 (.int .i64 c))) := ((HL.out.keeps _).trans (HK2.out.mono fun b _ h => h.1)).trans (HK3.out.mono fun b _ h => h.2)
  have hA3 := HA3.out
  have hB3 := HB3.out
  simp [bodyPostS, results, Tryz.results36, go_sem, errV]
  exact ⟨hkk, hA3, hB3⟩
set_option maxRecDepth 100000 in
theorem caught1_idle (A B : Nat) (w : World) :
    CallsD Tryz.prog 36 #[.pointer (some ⟨A, 0, none⟩), .pointer (some ⟨B, 0, none⟩)] .returning w fun e u' w' => e = .returned (.tuple #[]) ∧ u' = .returning ∧ Later w w' := by
  refine callsD_of_wpS Tryz.func36 rfl fun c₀ cs hu => ?_
  apply wpS_seq
  apply wpS_region
  simp [wpOpsS, go_sem, recoverD, hu, Tryz.ntmps36, Exit.thenS]
  have hfr : ∀ v : Value, (#[.pointer (some ⟨A, 0, none⟩), .pointer (some ⟨B, 0, none⟩)] ++ (((Array.replicate 18 undef).setIfInBounds 3 v).setIfInBounds 0 v) : Array Value) = #[.pointer (some ⟨A, 0, none⟩), .pointer (some ⟨B, 0, none⟩), v, undef, undef, v, undef, undef, undef, undef, undef, undef, undef, undef, undef, undef, undef, undef, undef, undef] := fun v => by simp [Array.replicate, List.replicate]
  rw [hfr]
  clear hfr
  refine wpS_of_wp ?_
  go_wp2_with fail
  have hL := Later.alloc w (.cells #[.int .i64 0, .int .i64 0] 93 (0, 0))
  cases c₀
  simp_all [bodyPostS, results, Tryz.results36]
/-- what caught answers. -/
def CaughtTo (w : World) (G : World → Prop) (Bd : Int → Nat → World → Prop) (e : Ending) (w' : World) : Prop :=
  ∃ w2, Keeps (fun b => b ≠ w.heap.size ∧ b ≠ w.heap.size + 1) w2 w' ∧ ((e = .returned (.tuple #[.int .i64 0, .nilIface]) ∧ G w2) ∨ ∃ c p, e = .returned (.tuple #[.int .i64 ((p : Nat) : Int), errV c]) ∧ Bd c p w2)
set_option maxRecDepth 100000 in
set_option maxHeartbeats 1000000 in
theorem caught_any (F : FuncId) (hent : ∀ args w, (callFunc F args).run Tryz.prog w = .ok (.enter F args) w) (caps : Array Value) (w : World) (G : World → Prop) (Bd : Int → Nat → World → Prop)
    (hdo : ∀ w1, Later w w1 → w1.heap.size = w.heap.size + 2 → Calls Tryz.prog F caps w1 (fun e w2 => Keeps (fun b => b = w.heap.size ∨ b = w.heap.size + 1) w1 w2 ∧ ((e = .returned (.tuple #[]) ∧ G w2) ∨ ∃ c p, Fails c p e ∧ Bd c p w2))) :
    Calls Tryz.prog 17 #[.func (.func F) #[] caps] w (CaughtTo w G Bd) := by
  have hmf : ∀ (fn : Fn) (first cap : Array Value) (w : World), (Instr.makeFunc fn first cap).run Tryz.prog w = .ok (.func fn first cap) w := fun _ _ _ _ => rfl
  have HDO := hid hdo
  clear hdo
  go_enter_defers Tryz.func17, Tryz.ntmps17
  go_wp2_with fail
  obtain ⟨w1, hw1⟩ : ∃ w1, w1 = (w.alloc (.cells #[.int .i64 0] 3)).alloc (.cells #[.nilIface] 23) := ⟨_, rfl⟩
  have hA : w1.heap[w.heap.size]? = some (.cells #[.int .i64 0] 3 (0, 0)) := by rw [hw1]; exact (Later.alloc _ _).obj (obj_new w _)
  have hB : w1.heap[w.heap.size + 1]? = some (.cells #[.nilIface] 23 (0, 0)) := by rw [hw1]; exact obj_at (by simp)
  have hL : Later w w1 := by rw [hw1]; exact (Later.alloc w _).alloc' _
  have hS : w1.heap.size = w.heap.size + 2 := by rw [hw1]; simp
  rw [← hw1]
  clear hw1
  refine (HDO.out w1 hL hS).mono ?_
  rintro e w2 ⟨hk, hc⟩
  have HA2 := hid (hk.obj (.inl rfl) hA)
  have HB2 := hid (hk.obj (.inr rfl) hB)
  clear hk hA hB hL hS HDO
  rcases hc with ⟨rfl, hG⟩ | ⟨c, p, hf, hBd⟩
  · have HG := hid hG
    have za := free_obj (i := 0) HA2.out
    have zb := free_obj (i := 0) HB2.out
    have a0 := cell_obj (i := 0) HA2.out rfl
    have b0 := cell_obj (i := 0) HB2.out rfl
    clear hG
    go_wp2_with fail
    have hkA : Keeps (fun b => b ≠ w.heap.size) w2 (w2.setCell ⟨w.heap.size, 0, none⟩ (.int .i64 0)) := (Keeps.refl _ w2).setCell (p := ⟨w.heap.size, 0, none⟩) (.inl fun h => h rfl) _
    have hkB : Keeps (fun b => b ≠ w.heap.size + 1) (w2.setCell ⟨w.heap.size, 0, none⟩ (.int .i64 0)) ((w2.setCell ⟨w.heap.size, 0, none⟩ (.int .i64 0)).setCell ⟨w.heap.size + 1, 0, none⟩ .nilIface) := (Keeps.refl _ _).setCell (p := ⟨w.heap.size + 1, 0, none⟩) (.inl fun h => h rfl) _
    have hA3 := hkB.obj (by omega) (obj_setCell (i := 0) HA2.out (.int .i64 0))
    have hB3 := obj_setCell (i := 0) (hkA.obj (by omega) HB2.out) .nilIface
    have HK3 := hid ((hkA.mono (S' := fun b => b ≠ w.heap.size ∧ b ≠ w.heap.size + 1) fun b _ h => h.1).trans (hkB.mono fun b _ h => h.2))
    refine leaves_cons (f := 36) (args := #[.pointer (some ⟨w.heap.size, 0, none⟩), .pointer (some ⟨w.heap.size + 1, 0, none⟩)]) (by simp) (by simp [go_sem]) ?_
    refine (caught1_idle w.heap.size (w.heap.size + 1) _).mono ?_
    rintro e u' w3 ⟨rfl, rfl, hL3⟩
    have ya := cell_obj (i := 0) (hL3.obj hA3) rfl
    have yb := cell_obj (i := 0) (hL3.obj hB3) rfl
    have HC : Hid (CaughtTo w G Bd (.returned (.tuple #[.int .i64 0, .nilIface])) w3) := hid ⟨w2, HK3.out.trans (hL3.keeps _), .inl ⟨rfl, HG.out⟩⟩
    simp [Leaves, settle, results, Tryz.results17, go_sem, ya, yb]
    exact HC.out
  · unfold Fails at hf
    subst hf
    have HBD := hid hBd
    clear hBd
    refine leaves_cons (f := 36) (args := #[.pointer (some ⟨w.heap.size, 0, none⟩), .pointer (some ⟨w.heap.size + 1, 0, none⟩)]) (by simp) (by simp [go_sem]) ?_
    refine (caught1_panicking w.heap.size (w.heap.size + 1) 0 .nilIface c p w2 HA2.out HB2.out (by omega)).mono ?_
    rintro e u' w3 ⟨rfl, rfl, hk3, hA3, hB3⟩
    have ya := cell_obj (i := 0) hA3 rfl
    have yb := cell_obj (i := 0) hB3 rfl
    have HC : Hid (CaughtTo w G Bd (.returned (.tuple #[.int .i64 (p : Int), errV c])) w3) := hid ⟨w2, hk3, .inr ⟨c, p, rfl, HBD.out⟩⟩
    simp [Leaves, settle, results, Tryz.results17, go_sem, ya, yb]
    exact HC.out
end Go.Proofs.YtgajofkeidjbgaaGreatDoor
