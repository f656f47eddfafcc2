/-
  PROVED HERE: expr's levelOf.
  PROVED HERE: trees of expr in memory; what a parser's function answers; nested.
-/
import Derived.Test.YtgajofkeidjbgaaGreatDoorGParTok
import Derived.Test.YtgajofkeidjbgaaGreatDoorShelf3
import Derived.Test.YtgajofkeidjbgaaGreatDoorGOrdTotal
import Derived.Test.YtgajofkeidjbgaaGreatDoorGData
namespace Go.Proofs.YtgajofkeidjbgaaGreatDoor
set_option linter.unusedSimpArgs false
set_option linter.unusedVariables false
open Go.RowKit

theorem list_has (xs : List (List UInt8)) (l : List UInt8) : Lib.containsS (xs.map strB) (strB l) = decide (l ∈ xs) := by
  rw [Bool.eq_iff_iff, Lib.containsS_iff, decide_eq_true_eq]
  constructor
  · intro h
    obtain ⟨x, hx, he⟩ := List.mem_map.1 h
    have : x = l := by rw [← strB_toL' x, he, strB_toL']
    rw [← this]; exact hx
  · exact fun h => List.mem_map.2 ⟨l, h, rfl⟩
theorem contains_any (b : Nat) (xs : List (List UInt8)) (l : List UInt8) (w : World) (hx : xs.length ≤ 1000) (h : StrsAt w b 0 xs) :
    Calls Tryz.prog 101 #[.slice (some ⟨b, 0, none⟩) xs.length xs.length, .string (strB l)] w fun e w' => e = .returned (.bool (decide (l ∈ xs))) ∧ w' = w := by
  refine (Tryz.slices_Contains_string b 0 xs.length xs.length (xs.map strB) (strB l) w (by simp) (by omega) (fun j hj => ?_)).mono ?_
  · have hj' : j < xs.length := by simpa using hj
    rw [h j hj', List.getD_eq_getElem?_getD, List.getElem?_map, List.getElem?_eq_getElem hj']
    rfl
  · rintro e w' ⟨rfl, rfl⟩
    rw [List.take_of_length_le (by simp), list_has]
    exact ⟨rfl, rfl⟩
theorem level1_any (X b : Nat) (xs : List (List UInt8)) (o : List UInt8) (w : World) (hx : xs.length ≤ 1000) (hX : w.cell? ⟨X, 0, none⟩ = some (.string (strB o))) (h : StrsAt w b 0 xs) :
    Calls Tryz.prog 103 #[.slice (some ⟨b, 0, none⟩) xs.length xs.length, .pointer (some ⟨X, 0, none⟩)] w fun e w' => e = .returned (.bool (decide (o ∈ xs))) ∧ w' = w := by
  have HS := hid h
  clear h
  go_enter Tryz.func103, Tryz.ntmps103
  go_wp2_with fail
  refine (contains_any b xs o w hx HS.out).mono ?_
  rintro e w' ⟨rfl, hw⟩
  subst hw
  obtain ⟨bb, hbb⟩ : ∃ b, decide (o ∈ xs) = b := ⟨_, rfl⟩
  rw [hbb]
  go_wp2_with fail
  exact bodyPost_ret (results_tmp rfl _ _ _) rfl ⟨by rw [hbb]; rfl, rfl⟩
theorem lvl_small : ∀ L, (lvlOps L).length ≤ 1000
  | 0 => by decide
  | 1 => by decide
  | 2 => by decide
  | 3 => by decide
  | 4 => by decide
  | _ + 5 => by show 0 ≤ _; omega
theorem level_first {o : List UInt8} (ho : o ∈ opsW) : levelO o < 5 ∧ o ∈ lvlOps (levelO o) ∧ ∀ j, j < levelO o → o ∉ lvlOps j := by
  rcases opsW_cases ho with rfl | rfl | rfl | rfl | rfl | rfl | rfl | rfl | rfl | rfl | rfl | rfl | rfl | rfl <;> decide
set_option maxRecDepth 100000 in
set_option maxHeartbeats 2000000 in
theorem idxl (X B : Nat) (o : List UInt8) (ho : o ∈ opsW) (w : World) (S : Nat → Prop) (hX : w.cell? ⟨X, 0, none⟩ = some (.string (strB o))) (hl : LevelsAt S w (.slice (some ⟨B, 0, none⟩) 5 5)) :
    Calls Tryz.prog 102 #[.slice (some ⟨B, 0, none⟩) 5 5, .func (.func 103) #[] #[.pointer (some ⟨X, 0, none⟩)]] w fun e w' => e = .returned (.int .i64 (levelO o : Int)) ∧ w' = w := by
  have HL := hid hl; have HX := hid hX; have HO := hid (level_first ho)
  have hent : ∀ args w, (callFunc 103 args).run Tryz.prog w = .ok (.enter 103 args) w := enters_of Tryz.func103 (by kernel_rfl) rfl
  clear hX hl ho
  go_enter Tryz.func102, Tryz.ntmps102
  go_wp2_with fail
  obtain ⟨R1, hR1⟩ : ∃ RR_ : (Nat → Value) → World → Prop, RR_ = (fun us wx => ∃ k : Nat, us 8 = .int .i64 k ∧ k ≤ levelO o ∧ wx = w) := ⟨_, rfl⟩
  obtain ⟨mu1, hmu1⟩ : ∃ mu : (Nat → Value) → World → Nat, mu = (fun us _ => 5 - (intOf (us 8)).toNat) := ⟨_, rfl⟩
  have HR1 := hid hR1; have Hmu1 := hid hmu1; clear hR1 hmu1
  refine wp_loop_frame' [false, false, false, false, true, true, false, false, true, true, true, true, true, true, true, true, true, true, true] R1 _ mu1 HR1.out ?_ ?_
  · exact ⟨0, rfl, Nat.zero_le _, rfl⟩
  intro us1 wx hrel
  obtain ⟨k, h8, hk, hw⟩ := hrel
  simp only [frameOf, Nat.reduceAdd, h8]
  have Hh8 := hid h8; clear h8
  subst hw
  have HK := hid hk
  have hk5 : (k : Int) < 5 := by have := HO.out.1; omega
  have HK5 : Hid (k < 5) := hid (by omega)
  clear hk
  obtain ⟨b, hb, hstr⟩ : ∃ b, wx.cell? ⟨B, k, none⟩ = some (.slice (some ⟨b, 0, none⟩) (lvlOps k).length (lvlOps k).length) ∧ StrsAt wx b 0 (lvlOps k) := by
    obtain ⟨B', hB', -, hk'⟩ := HL.out
    simp only [Value.slice.injEq, Option.some.injEq, Addr.mk.injEq, and_true] at hB'
    obtain rfl := hB'
    obtain ⟨b, -, h1, h2⟩ := hk' k HK5.out
    exact ⟨b, h1, h2⟩
  have HSTR := hid hstr
  have hg := cell_lt hb
  have HWK : Hid (wrap64 ((k : Int) + 1) = ((k + 1 : Nat) : Int)) := hid (by have := HK5.out; unfold wrap64; omega)
  clear hstr
  go_wp2_with fail
  refine (level1_any X b (lvlOps k) o _ (lvl_small k) HX.out HSTR.out).mono ?_
  rintro e w1 ⟨rfl, hw1⟩
  subst hw1
  by_cases hq : o ∈ lvlOps k
  · have hkl : k = levelO o := by
      have h1 := HK.out
      have h2 := HO.out.2.2 k
      rcases Nat.lt_or_ge k (levelO o) with h | h
      · exact absurd hq (h2 h)
      · omega
    have HKL := hid hkl
    rw [decide_eq_true hq]
    clear hq hkl hb
    go_wp2_with fail
    go_ret
    exact ⟨by rw [← HKL.out]; rfl, rfl⟩
  · have hkl : k < levelO o := by
      have h1 := HK.out
      rcases Nat.lt_or_ge k (levelO o) with h | h
      · exact h
      · have : k = levelO o := by omega
        exact absurd (this ▸ HO.out.2.1) hq
    have HKL := hid hkl
    rw [decide_eq_false hq]
    clear hq hkl hb
    go_wp2_with fail
    try simp only [HWK.out]
    refine Round.mk' HR1.out Hmu1.out rfl ?_ ?_
    · exact ⟨k + 1, rfl, HKL.out, rfl⟩
    · rw [Hh8.out]; have := HK5.out; simp [intOf, slots]; omega
set_option maxRecDepth 100000 in
theorem levelOf_any (o : List UInt8) (ho : o ∈ opsW) (w : World) : Calls Tryz.prog 87 #[.string (strB o)] w fun e w' => e = .returned (.int .i64 (levelO o : Int)) ∧ Later w w' := by
  have HO := hid ho
  clear ho
  go_enter Tryz.func87, Tryz.ntmps87
  go_wp2_with fail
  refine (levels_any _).mono ?_
  rintro e w1 ⟨v, rfl, hlv, hL1⟩
  have hX := hL1.cell (cell_obj (i := 0) (obj_new w (.cells #[.string (strB o)] 9)) rfl)
  have HLW := hid (Later.trans _ _ _ (Later.alloc w (.cells #[.string (strB o)] 9)) hL1)
  have HLV := hid hlv
  have HX := hid hX
  obtain ⟨B, rfl, -⟩ := id hlv
  clear hL1 hlv hX
  go_wp2_with fail
  refine (idxl w.heap.size B o HO.out w1 _ HX.out HLV.out).mono ?_
  rintro e w2 ⟨rfl, hw⟩
  subst hw
  go_wp2_with fail
  exact bodyPost_ret (results_tmp rfl _ _ _) rfl ⟨rfl, HLW.out⟩
end Go.Proofs.YtgajofkeidjbgaaGreatDoor
namespace Go.Proofs.YtgajofkeidjbgaaGreatDoor
set_option linter.unusedSimpArgs false
set_option linter.unusedVariables false
open Go.RowKit

attribute [local go_sem high] tok_f0 tok_f1 tok_f2
def opW (neg : Bool) : List UInt8 := if neg = true then minusW else notW
/-- the arguments of a call, in a row of its own. -/
def ArgsIn (S : Nat → Prop) (w : World) (a : Value) (vs : List Value) : Prop := w.ownsRow 0 59 1 a vs.length vs ∧ ∀ g, a.ownBlock = some g → S g
theorem ArgsIn.kept {S S' : Nat → Prop} {w w' : World} {a : Value} {vs : List Value} (h : ArgsIn S w a vs) (k : Keeps S' w w') (hs : ∀ b, S b → S' b) : ArgsIn S w' a vs := by
  obtain ⟨⟨h1, h2⟩, h3⟩ := h
  refine ⟨⟨h1, h2.imp id ?_⟩, h3⟩
  rintro ⟨g, cap, cur, hv, hb, hg, hr⟩
  exact ⟨g, cap, cur, hv, hb, k.obj (hs _ (h3 g (by rw [hv]; rfl))) hg, hr⟩
theorem obj_lt {w : World} {b : Nat} {o : Obj} (h : w.heap[b]? = some o) : b < w.heap.size := (Array.getElem?_eq_some_iff.1 h).1
mutual
/-- the tree in memory, in blocks of 'S'. -/
def NodeIn (S : Nat → Prop) (w : World) : Value → Ex → Prop
  | v, .lit x => ∃ B, S B ∧ v = .iface 161 (.pointer (some ⟨B, 0, none⟩)) ∧ w.heap[B]? = some (.cells #[.int .i64 x.k, .int .i64 x.n, .string x.t] 163 (0, 0))
  | v, .name s p => ∃ B, S B ∧ v = .iface 164 (.pointer (some ⟨B, 0, none⟩)) ∧ w.heap[B]? = some (.cells #[.string (strB s), .int .i64 (p : Int)] 167 (0, 0))
  | v, .un neg p x => ∃ B u, S B ∧ v = .iface 137 (.pointer (some ⟨B, 0, none⟩)) ∧ w.heap[B]? = some (.cells #[.string (strB (opW neg)), .int .i64 (p : Int), u] 139 (0, 0)) ∧ NodeIn S w u x
  | v, .bin o p x y => ∃ B u1 u2, S B ∧ v = .iface 140 (.pointer (some ⟨B, 0, none⟩)) ∧ w.heap[B]? = some (.cells #[.string (strB o), .int .i64 (p : Int), u1, u2] 142 (0, 0)) ∧ NodeIn S w u1 x ∧ NodeIn S w u2 y
  | v, .call f p l => ∃ B vs a, S B ∧ v = .iface 168 (.pointer (some ⟨B, 0, none⟩)) ∧ w.heap[B]? = some (.cells #[.string (strB f), .int .i64 (p : Int), a] 174 (0, 0)) ∧
      ArgsIn S w a vs ∧ NodesIn S w vs l
def NodesIn (S : Nat → Prop) (w : World) : List Value → List Ex → Prop
  | [], [] => True
  | v :: vs, x :: l => NodeIn S w v x ∧ NodesIn S w vs l
  | _, _ => False
end
mutual
theorem NodeIn.kept {S S' : Nat → Prop} {w w' : World} (k : Keeps S' w w') (hs : ∀ b, S b → S' b) : ∀ (v : Value) (x : Ex), NodeIn S w v x → NodeIn S w' v x
  | v, .lit x, h => by
    unfold NodeIn at h ⊢
    obtain ⟨B, h1, h2, h3⟩ := h
    exact ⟨B, h1, h2, k.obj (hs _ h1) h3⟩
  | v, .name s p, h => by
    unfold NodeIn at h ⊢
    obtain ⟨B, h1, h2, h3⟩ := h
    exact ⟨B, h1, h2, k.obj (hs _ h1) h3⟩
  | v, .un neg p x, h => by
    unfold NodeIn at h ⊢
    obtain ⟨B, u, h1, h2, h3, h4⟩ := h
    exact ⟨B, u, h1, h2, k.obj (hs _ h1) h3, NodeIn.kept k hs u x h4⟩
  | v, .bin o p x y, h => by
    unfold NodeIn at h ⊢
    obtain ⟨B, u1, u2, h1, h2, h3, h4, h5⟩ := h
    exact ⟨B, u1, u2, h1, h2, k.obj (hs _ h1) h3, NodeIn.kept k hs u1 x h4, NodeIn.kept k hs u2 y h5⟩
  | v, .call f p l, h => by
    unfold NodeIn at h ⊢
    obtain ⟨B, vs, a, h1, h2, h3, h4, h5⟩ := h
    exact ⟨B, vs, a, h1, h2, k.obj (hs _ h1) h3, h4.kept k hs, NodesIn.kept k hs vs l h5⟩
theorem NodesIn.kept {S S' : Nat → Prop} {w w' : World} (k : Keeps S' w w') (hs : ∀ b, S b → S' b) : ∀ (vs : List Value) (l : List Ex), NodesIn S w vs l → NodesIn S w' vs l
  | [], [], h => by unfold NodesIn; trivial
  | v :: vs, x :: l, h => by
    unfold NodesIn at h ⊢
    exact ⟨NodeIn.kept k hs v x h.1, NodesIn.kept k hs vs l h.2⟩
  | [], _ :: _, h => by unfold NodesIn at h; exact h.elim
  | _ :: _, [], h => by unfold NodesIn at h; exact h.elim
end
/-- tokens that end as a text does. -/
def EndL (l : List Tok) : Prop := (∀ t ∈ l, TokOk t ∧ t.t.length ≤ 1048576) ∧ ∃ h : l ≠ [], (l.getLast h).k = 0
theorem EndL.cons {l : List Tok} (h : EndL l) : ∃ t r, l = t :: r ∧ TokOk t ∧ (t.k ≠ 0 → EndL r) := by
  obtain ⟨h1, h2, h3⟩ := h
  cases l with
  | nil => exact absurd rfl h2
  | cons t r =>
    refine ⟨t, r, rfl, (h1 t (by simp)).1, fun hk => ⟨fun x hx => h1 x (by simp [hx]), ?_⟩⟩
    cases r with
    | nil => exact absurd h3 hk
    | cons u r => exact ⟨by simp, by simpa using h3⟩
mutual
theorem NodeIn.mono {S S' : Nat → Prop} {w : World} (hs : ∀ b, b < w.heap.size → S b → S' b) : ∀ (v : Value) (x : Ex), NodeIn S w v x → NodeIn S' w v x
  | v, .lit x, h => by
    unfold NodeIn at h ⊢
    obtain ⟨B, h1, h2, h3⟩ := h
    exact ⟨B, hs _ (obj_lt h3) h1, h2, h3⟩
  | v, .name s p, h => by
    unfold NodeIn at h ⊢
    obtain ⟨B, h1, h2, h3⟩ := h
    exact ⟨B, hs _ (obj_lt h3) h1, h2, h3⟩
  | v, .un neg p x, h => by
    unfold NodeIn at h ⊢
    obtain ⟨B, u, h1, h2, h3, h4⟩ := h
    exact ⟨B, u, hs _ (obj_lt h3) h1, h2, h3, NodeIn.mono hs u x h4⟩
  | v, .bin o p x y, h => by
    unfold NodeIn at h ⊢
    obtain ⟨B, u1, u2, h1, h2, h3, h4, h5⟩ := h
    exact ⟨B, u1, u2, hs _ (obj_lt h3) h1, h2, h3, NodeIn.mono hs u1 x h4, NodeIn.mono hs u2 y h5⟩
  | v, .call f p l, h => by
    unfold NodeIn at h ⊢
    obtain ⟨B, vs, a, h1, h2, h3, h4, h5⟩ := h
    exact ⟨B, vs, a, hs _ (obj_lt h3) h1, h2, h3, ⟨h4.1, fun g hg => hs _ (h4.1.lt g hg).2 (h4.2 g hg)⟩, NodesIn.mono hs vs l h5⟩
theorem NodesIn.mono {S S' : Nat → Prop} {w : World} (hs : ∀ b, b < w.heap.size → S b → S' b) : ∀ (vs : List Value) (l : List Ex), NodesIn S w vs l → NodesIn S' w vs l
  | [], [], h => by unfold NodesIn; trivial
  | v :: vs, x :: l, h => by
    unfold NodesIn at h ⊢
    exact ⟨NodeIn.mono hs v x h.1, NodesIn.mono hs vs l h.2⟩
  | [], _ :: _, h => by unfold NodesIn at h; exact h.elim
  | _ :: _, [], h => by unfold NodesIn at h; exact h.elim
end
theorem EndL.short {l : List Tok} (h : EndL l) : ∀ t ∈ l, t.t.length ≤ 1048576 := fun t ht => (h.1 t ht).2
/-- what a function of the parser answers: a tree, fewer tokens, or a fault. -/
def POut (w : World) (P d : Nat) (l : List Tok) (R : Res → Prop) (e : Ending) (w' : World) : Prop :=
  Keeps (fun b => b ≠ P) w w' ∧ ∃ r : Res, R r ∧ match r with
    | .error f => Fails f.1 f.2 e
    | .ok x => ∃ v, e = .returned v ∧ NodeIn (fun b => b ≠ P ∧ w.heap.size ≤ b) w' v x.1 ∧ PAt w' P d x.2 ∧ EndL x.2 ∧ x.2.length < l.length
end Go.Proofs.YtgajofkeidjbgaaGreatDoor
