/-
  PROVED HERE: in plain Lean: what a store's pieces are loaded to, whole, cut, turned, with a cell twice, of another group. No program of its own.
  PROVED HERE: in plain Lean: a row laid in its place among rows in their order. No program of its own.
  PROVED HERE: in plain Lean: how the document's store finds, replaces and lays in its cells. No program of its own.
  PROVED HERE: the contracts of the document's Same and Copy.
-/
import Derived.Test.YtgcnchmnciihnaaGreatDoorGMapKey
import Derived.Test.YtgcnchmnciihnaaGreatDoorGOrdTotal
import Derived.Test.YtgcnchmnciihnaaGreatDoorGWinPlain
import Derived.Test.YtgcnchmnciihnaaGreatDoorGU8
namespace Go.Proofs.YtgcnchmnciihnaaGreatDoor
set_option linter.unusedSimpArgs false
set_option linter.unusedVariables false
open Go Go.RowKit

/-- a cell that is read as it was written. -/
structure CellFine (c : CellP) : Prop where
  val : ∀ x ∈ c.key, validV x = true ∧ ValOk x
  len : c.key.length ≤ 8
  lo : -9223372036854775808 ≤ c.win.1 ∧ c.win.1 ≤ 9223372036854775807
  hi : -9223372036854775808 ≤ c.win.2 ∧ c.win.2 ≤ 9223372036854775807
  data : c.data.length ≤ 9223372036854775807
theorem dCell_enc {c : CellP} (h : CellFine c) (r : List UInt8) : dCell (encCell c ++ r) = some (c, r) := by
  obtain ⟨key, ⟨f, t⟩, data⟩ := c
  have e : encCell ⟨key, (f, t), data⟩ ++ r = encInt key.length ++ (key.flatMap encVal ++ (encInt f ++ (encInt t ++ (encText (strB data) ++ r)))) := by
    unfold encCell encVals encText
    rw [strB_size]
    simp only [List.append_assoc]
    rfl
  rw [e]
  unfold dCell
  have hl := h.len
  simp only at hl
  rw [dInt_enc (by omega) (by omega)]
  simp only
  rw [if_neg (by omega), Int.toNat_natCast, dMany_enc key _ fun x hx r => dVal_enc (h.val x hx).1 (valOk_int (h.val x hx).2) (valOk_text (h.val x hx).2) r]
  simp only
  rw [dInt_enc h.lo.1 h.lo.2]
  simp only
  rw [dInt_enc h.hi.1 h.hi.2]
  simp only
  rw [dText_enc _ (by rw [strB_size]; exact h.data)]
  rfl
def inL (l : List CellP) (x : CellP) : Bool := l.any fun c => decide (idC c = idC x)
theorem inL_mem {l : List CellP} {x : CellP} : inL l x = true ↔ ∃ c ∈ l, idC c = idC x := by unfold inL; simp
theorem ins_filter {L : List CellP} (hS : SortedC L) {c : CellP} (hc : c ∈ L) {p : CellP → Bool} (hp : p c = false) : insC c (L.filter p) = L.filter (fun x => p x || decide (idC c = idC x)) := by
  have hs := hS.filter p
  refine (insC_unique hs (hS.filter _) ?_).symm
  have hnd : (c :: (L.filter p).filter (notId (idC c))).Nodup := by
    refine List.nodup_cons.2 ⟨fun h => ?_, (hs.filter _).nodup⟩
    have := (List.mem_filter.1 h).2
    unfold notId at this
    simp at this
  refine (List.perm_ext_iff_of_nodup (hS.filter _).nodup hnd).2 fun x => ?_
  rw [List.mem_filter, List.mem_cons, List.mem_filter, List.mem_filter]
  unfold notId
  simp only [Bool.or_eq_true, decide_eq_true_eq, Bool.not_eq_true', decide_eq_false_iff_not]
  constructor
  · rintro ⟨hx, h1 | h1⟩
    · by_cases e : idC x = idC c
      · exact .inl (hS.id_inj hx hc e)
      · exact .inr ⟨⟨hx, h1⟩, e⟩
    · exact .inl (hS.id_inj hx hc h1.symm)
  · rintro (rfl | ⟨⟨hx, h1⟩, -⟩)
    · exact ⟨hc, .inr rfl⟩
    · exact ⟨hx, .inl h1⟩
/-- what holds of cells that are read into a store. -/
structure ReadOk (lo hi g : Int) (L : List CellP) (p : CellP → Bool) (c : CellP) : Prop where
  mem : c ∈ L
  fine : CellFine c
  grp : (groupK c.key : Int) = g
  owns : ownsK lo hi c.key = true
  win : winOk c.win = true
  new : p c = false
theorem readN_enc {lo hi g : Int} {L : List CellP} (hS : SortedC L) (hW : weightL L ≤ 67108864) : ∀ (l : List CellP) (p : CellP → Bool) (last : Option CellP) (m : Nat) (r : List UInt8), (∀ c ∈ l, ReadOk lo hi g L p c) → SortedC l → (∀ d, last = some d → ∀ c ∈ l, cmpC d c < 0) →
    readN lo hi g (l.length + m) (L.filter p) last (l.flatMap encCell ++ r) = readN lo hi g m (L.filter fun x => p x || inL l x) (l.getLast?.or last) r
  | [], p, last, m, r, _, _, _ => by
    have : (fun x => p x || inL [] x) = p := by funext x; simp [inL]
    rw [this]
    simp
  | c :: l, p, last, m, r, hc, hs, hl => by
    have hp := List.pairwise_cons.1 hs
    have h := hc c List.mem_cons_self
    rw [List.length_cons, show l.length + 1 + m = (l.length + m) + 1 by omega, List.flatMap_cons, List.append_assoc]
    have hins := ins_filter hS h.mem h.new
    have hok : okC lo hi g (L.filter p) last c = true := by
      refine okC_yes h.grp ?_ (putErr_0 (by rw [h.owns, h.win]; rfl) ?_)
      · unfold afterC
        cases last with
        | none => rfl
        | some d => exact decide_eq_true (hl d rfl c List.mem_cons_self)
      · rw [hins]
        exact Nat.le_trans (weightL_filter_le _ _) hW
    rw [readN_ok (dCell_enc h.fine _) hok, hins]
    rw [readN_enc hS hW l _ (some c) m r (fun d hd => ?_) hp.2 (fun d e x hx => by injection e with e; subst e; exact hp.1 x hx)]
    · congr 1
      · congr 1
        funext x
        unfold inL
        rw [List.any_cons, Bool.or_assoc]
      · cases l with
        | nil => rfl
        | cons d l => rw [List.getLast?_cons_cons]; cases hg : (d :: l).getLast? with
          | none => simp at hg
          | some y => rfl
    · have h2 := hc d (List.mem_cons_of_mem _ hd)
      exact ⟨h2.mem, h2.fine, h2.grp, h2.owns, h2.win, by
        rw [h2.new, Bool.false_or]
        refine decide_eq_false fun e => ?_
        have := hp.1 d hd
        have := cmpC_zero.2 e
        omega⟩
/-- the piece of a group. -/
def pc (L : List CellP) (g : Int) : Int × List UInt8 := (g, sealed (encCells (L.filter (inGroup g))))
def inR (lo hi : Int) (c : CellP) : Bool := decide (lo ≤ groupK c.key) && decide ((groupK c.key : Int) < hi)
def inS (gs : List Int) (c : CellP) : Bool := decide ((groupK c.key : Int) ∈ gs)
/-- a store's cells, all of them of valid keys. -/
structure Fine (L : List CellP) : Prop where
  st : Store 0 32 L
  ok : ∀ c ∈ L, ∀ x ∈ c.key, ValOk x
section
variable {lo hi g : Int} {L : List CellP} {p : CellP → Bool}
theorem Fine.cell (h : Fine L) {c : CellP} (hc : c ∈ L) : CellFine c := by
  have hw := winOk_range (h.st.win c hc)
  have hwt := weightL_mem hc
  have hf := h.st.full
  unfold CellP.weight at hwt
  exact ⟨fun x hx => ⟨h.st.valid c hc x hx, h.ok c hc x hx⟩, (validR_key (ownsK_valid (h.st.owns c hc)).1).1, by omega, by omega, by omega⟩
theorem Fine.owns (h : Fine L) {c : CellP} (hc : c ∈ L) (h1 : lo ≤ groupK c.key) (h2 : (groupK c.key : Int) < hi) : ownsK lo hi c.key = true := by
  unfold ownsK
  rw [(ownsK_valid (h.st.owns c hc)).1, decide_eq_true h1, decide_eq_true h2]; rfl
theorem Fine.read (h : Fine L) (hg : lo ≤ g ∧ g < hi) (hp : ∀ c ∈ L, (groupK c.key : Int) = g → p c = false) : ∀ c ∈ L.filter (inGroup g), ReadOk lo hi g L p c := fun c hc => by
  obtain ⟨h1, h2⟩ := List.mem_filter.1 hc
  have h3 : (groupK c.key : Int) = g := of_decide_eq_true h2
  exact ⟨h1, h.cell h1, h3, h.owns h1 (by omega) (by omega), h.st.win c h1, hp c h1 h3⟩
theorem filter_grp (h : Fine L) : (L.filter fun x => p x || inL (L.filter (inGroup g)) x) = L.filter fun x => p x || inGroup g x := by
  refine List.filter_congr fun x hx => ?_
  congr 1
  cases hi : inGroup g x with
  | true => exact inL_mem.2 ⟨x, List.mem_filter.2 ⟨hx, hi⟩, rfl⟩
  | false =>
    rw [← Bool.not_eq_true]
    intro e
    obtain ⟨c, hc, he⟩ := inL_mem.1 e
    obtain ⟨h1, h2⟩ := List.mem_filter.1 hc
    rw [h.st.sorted.id_inj h1 hx he] at h2
    rw [h2] at hi; cases hi
theorem readP_pc (h : Fine L) (hg : lo ≤ g ∧ g < hi) (hp : ∀ c ∈ L, (groupK c.key : Int) = g → p c = false) : readP lo hi g (L.filter p) (encCells (L.filter (inGroup g))) = some (L.filter fun x => p x || inGroup g x) := by
  have hlen : (L.filter (inGroup g)).length ≤ 2097152 := by
    have h1 := List.length_filter_le (inGroup g) L
    have h2 := weightL_length L
    have h3 := h.st.full
    omega
  have hr := readP_some (lo := lo) (hi := hi) (g := g) (L := L.filter p) (body := encCells (L.filter (inGroup g))) (r0 := (L.filter (inGroup g)).flatMap encCell) (rest := []) (j := (L.filter (inGroup g)).length) (dInt_enc (by omega) (by omega) _) fun m => by
    have := readN_enc h.st.sorted h.st.full (L.filter (inGroup g)) p none m [] (h.read hg hp) (h.st.sorted.filter _) (fun d e => by cases e)
    rw [List.append_nil] at this
    exact this
  rw [hr, if_pos rfl, filter_grp h]
theorem pc_len (h : Fine L) (h0 : (L.filter (inGroup g)).length ≠ 0) : (encCells (L.filter (inGroup g))).length ≤ 134217728 := encCells_len h.st _ h0
theorem open_pc (h : Fine L) (h0 : (L.filter (inGroup g)).length ≠ 0) : openB (pc L g).2 0 = (encCells (L.filter (inGroup g)), ((pc L g).2.length : Int), 0) := by
  have := open_sealed [] (encCells (L.filter (inGroup g))) [] (pc_len h h0)
  simp only [List.nil_append, List.append_nil, List.length_nil] at this
  unfold pc
  simp only
  rw [sealed_length]
  rw [show ((0 : Nat) : Int) = 0 from rfl] at this
  rw [this]
  congr 2
  omega
theorem readE_pc (h : Fine L) (h0 : (L.filter (inGroup g)).length ≠ 0) (hg : lo ≤ g ∧ g < hi) (hp : ∀ c ∈ L, (groupK c.key : Int) = g → p c = false) : readE lo hi g (L.filter p) (pc L g).2 = (0, L.filter fun x => p x || inGroup g x) := by
  unfold readE
  rw [open_pc h h0]
  simp only
  rw [if_neg (by simp), readP_pc h hg hp]
  simp
end
end Go.Proofs.YtgcnchmnciihnaaGreatDoor
namespace Go.Proofs.YtgcnchmnciihnaaGreatDoor
set_option linter.unusedSimpArgs false
set_option linter.unusedVariables false

def insAt {α : Type} (l : List α) (k : Nat) (z : α) : List α := l.take k ++ z :: l.drop k
theorem insAt_length {α : Type} {l : List α} {k : Nat} (hk : k ≤ l.length) (z : α) : (insAt l k z).length = l.length + 1 := by unfold insAt; simp; omega
theorem insAt_end {α : Type} (l : List α) (z : α) : insAt l l.length z = l ++ [z] := by unfold insAt; simp
theorem insAt_get {α : Type} {l : List α} {m : Nat} (hm : m < l.length) (z : α) : (insAt l (m + 1) z)[m]'(by rw [insAt_length hm]; omega) = l[m] := by
  unfold insAt
  rw [List.getElem_append_left (by rw [List.length_take]; omega), List.getElem_take]
theorem insAt_set {α : Type} {l : List α} {k : Nat} (hk : k ≤ l.length) (z y : α) : (insAt l k z).set k y = insAt l k y := by
  unfold insAt
  rw [List.set_append_right _ _ (by rw [List.length_take]; omega), List.length_take, Nat.min_eq_left hk, Nat.sub_self]
  rfl
theorem insAt_shift {α : Type} {l : List α} {m : Nat} (hm : m < l.length) (z : α) : insAt l (m + 1) l[m] = insAt l m l[m] := by
  unfold insAt
  rw [List.take_succ_eq_append_getElem hm, List.append_assoc]
  congr 1
  rw [List.drop_eq_getElem_cons hm]
  rfl
theorem insAt_perm {α : Type} (l : List α) (k : Nat) (z : α) : (insAt l k z).Perm (l ++ [z]) := by
  unfold insAt
  refine List.perm_middle.trans ?_
  rw [List.take_append_drop]
  exact List.perm_append_comm (l₁ := [z]) (l₂ := l)
theorem insAt_map {α β : Type} (f : α → β) (l : List α) (k : Nat) (z : α) : (insAt l k z).map f = insAt (l.map f) k (f z) := by
  unfold insAt
  rw [List.map_append, List.map_cons, List.map_take, List.map_drop]
theorem insAt_mem {α : Type} {l : List α} {k : Nat} {z x : α} : x ∈ insAt l k z → x ∈ l ∨ x = z := by
  intro h
  rcases List.mem_append.1 ((insAt_perm l k z).mem_iff.1 h) with h | h
  · exact .inl h
  · exact .inr (List.mem_singleton.1 h)
theorem leR_trans {a b c : Row} (h : 0 ≤ compareR b a) (k : 0 ≤ compareR c b) : 0 ≤ compareR c a := by
  have t := compareR_total
  have n1 := t.neg a b; have n2 := t.neg b c; have n3 := t.neg a c
  by_cases e1 : compareR a b = 0
  · rw [(t.eq _ _).1 e1]; exact k
  · by_cases e2 : compareR b c = 0
    · rw [← (t.eq _ _).1 e2]; exact h
    · have := t.trans a b c (by omega) (by omega)
      omega
theorem sortedR_ins {ys : List Row} {x : Row} {k : Nat} (hs : SortedR ys) (hk : k ≤ ys.length) (h1 : ∀ (h : 0 < k), beforeR x (ys[k - 1]'(by omega)) = false) (h2 : ∀ j (h : j < ys.length), k ≤ j → beforeR x ys[j] = true) : SortedR (insAt ys k x) := by
  have hs' := List.pairwise_iff_getElem.1 hs
  unfold SortedR insAt
  refine List.pairwise_append.2 ⟨hs.sublist (List.take_sublist _ _), List.pairwise_cons.2 ⟨fun y hy => ?_, hs.sublist (List.drop_sublist _ _)⟩, fun a ha b hb => ?_⟩
  · obtain ⟨j, hj, rfl⟩ := List.getElem_of_mem hy
    rw [List.getElem_drop]
    rw [List.length_drop] at hj
    have := h2 (k + j) (by omega) (by omega)
    rw [beforeR_cmp] at this
    have := of_decide_eq_true this
    have := compareR_total.neg x (ys[k + j]'(by omega))
    omega
  · have hax : 0 ≤ compareR x a := by
      obtain ⟨j, hj, rfl⟩ := List.getElem_of_mem ha
      rw [List.length_take] at hj
      rw [List.getElem_take]
      have hl : 0 ≤ compareR x (ys[k - 1]'(by omega)) := by
        have := h1 (by omega)
        rw [beforeR_cmp] at this
        have := of_decide_eq_false this
        omega
      by_cases e : j = k - 1
      · subst e; exact hl
      · exact leR_trans (hs' j (k - 1) (by omega) (by omega) (by omega)) hl
    rcases List.mem_cons.1 hb with rfl | hb
    · exact hax
    · obtain ⟨i, hi, rfl⟩ := List.getElem_of_mem ha
      obtain ⟨j, hj, rfl⟩ := List.getElem_of_mem hb
      rw [List.length_take] at hi
      rw [List.length_drop] at hj
      rw [List.getElem_take, List.getElem_drop]
      exact hs' i (k + j) (by omega) (by omega) (by omega)
end Go.Proofs.YtgcnchmnciihnaaGreatDoor
namespace Go.Proofs.YtgcnchmnciihnaaGreatDoor
set_option linter.unusedSimpArgs false
set_option linter.unusedVariables false
open Go Go.RowKit

theorem valEq_iff {x y : Val} : eqV x y = true ↔ x = y := by
  cases x; cases y
  unfold eqV valEq str
  simp only [Bool.and_eq_true, beq_iff_eq, Val.mk.injEq]
  constructor
  · rintro ⟨h1, h2, h3⟩
    refine ⟨h1, h2, ?_⟩
    exact (Lib.bytes_beq_iff _ _).1 (beq_iff_eq.2 h3)
  · rintro ⟨rfl, rfl, rfl⟩
    exact ⟨rfl, rfl, rfl⟩
theorem beforeL_cmp (a b : List Val) : beforeL a b = decide (compareL a b < 0) := by
  rw [compareL_eq]
  unfold signI
  cases h1 : beforeL a b <;> cases h2 : beforeL b a <;> simp
def beforeC (a b : CellP) : Bool := if a.win = b.win then beforeL a.key b.key else decide (a.win.2 < b.win.2 ∨ a.win.2 = b.win.2 ∧ a.win.1 < b.win.1)
theorem cmpW_neg {a b : Win} : cmpW a b < 0 ↔ (a.2 < b.2 ∨ a.2 = b.2 ∧ a.1 < b.1) := by
  unfold cmpW
  rw [orL2]
  unfold cmpI
  split <;> split <;> (try split) <;> (try split) <;> omega
theorem beforeC_cmp (a b : CellP) : beforeC a b = decide (cmpC a b < 0) := by
  unfold beforeC cmpC cmpId idC
  rw [orL2]
  simp only
  by_cases h : a.win = b.win
  · rw [if_pos h, h, (cmpW_total.eq _ _).2 rfl, if_pos rfl, beforeL_cmp]
  · have h0 : cmpW a.win b.win ≠ 0 := fun e => h ((cmpW_total.eq _ _).1 e)
    rw [if_neg h, if_neg h0, decide_eq_decide]
    exact cmpW_neg.symm
/-- replaced. -/
theorem insC_set {c : CellP} : ∀ {l : List CellP} {k : Nat}, SortedC l → (h : k < l.length) → idC l[k] = idC c → insC c l = l.set k c
  | d :: l, 0, _, _, e => by
    have h0 : cmpC c d = 0 := cmpC_zero.2 e.symm
    unfold insC
    rw [if_neg (by omega), if_pos h0]
    rfl
  | d :: l, k + 1, h, hk, e => by
    have hp := List.pairwise_cons.1 h
    have hk' : k < l.length := by simpa using hk
    have e' : idC l[k] = idC c := e
    have h1 : cmpC d c < 0 := by
      have := hp.1 _ (List.getElem_mem hk')
      rwa [cmpC_right e'] at this
    have h2 := cmpC_neg d c
    unfold insC
    rw [if_neg (by omega), if_neg (by omega), insC_set hp.2 hk' e']
    rfl
/-- laid in. -/
theorem insC_at {c : CellP} : ∀ {l : List CellP} {m : Nat}, SortedC l → m ≤ l.length → (∀ (h : 0 < m) (h2 : m - 1 < l.length), cmpC l[m - 1] c < 0) → (∀ j (h : j < l.length), m ≤ j → cmpC c l[j] < 0) → insC c l = insAt l m c
  | [], m, _, hm, _, _ => by
    obtain rfl : m = 0 := by simpa using hm
    rfl
  | d :: l, 0, h, _, _, h2 => by
    have : cmpC c d < 0 := h2 0 (by simp) (Nat.le_refl _)
    unfold insC
    rw [if_pos this]
    rfl
  | d :: l, m + 1, h, hm, h1, h2 => by
    have hp := List.pairwise_cons.1 h
    have hm' : m ≤ l.length := by simpa using hm
    have hd : cmpC d c < 0 := by
      have := h1 (by omega) (by simp; omega)
      cases m with
      | zero => exact this
      | succ m => exact cmpC_trans (hp.1 _ (List.getElem_mem (by omega : m < l.length))) this
    have h4 := cmpC_neg d c
    unfold insC
    rw [if_neg (by omega), if_neg (by omega), insC_at hp.2 hm' (fun h0 h5 => ?_) (fun j hj hmj => ?_)]
    · rfl
    · have := h1 (by omega) (by simp; omega)
      cases m with
      | zero => omega
      | succ m => exact this
    · exact h2 (j + 1) (by simpa using hj) (by omega)
theorem weight_take {id : Idn} {L : List CellP} {j : Nat} (h : j < L.length) : weightL ((L.take (j + 1)).filter (notId id)) = weightL ((L.take j).filter (notId id)) + (if idC L[j] = id then 0 else L[j].weight) := by
  rw [List.take_succ_eq_append_getElem h, List.filter_append]
  by_cases e : idC L[j] = id
  · rw [if_pos e, List.filter_cons_of_neg (by unfold notId; simp [e])]
    simp
  · rw [if_neg e, List.filter_cons_of_pos (by unfold notId; simp [e])]
    rw [weightL_perm List.perm_append_comm]
    simp only [List.singleton_append, List.filter_nil, List.cons_append, List.nil_append, weightL_cons]
    omega
theorem SortedC.at_inj {L : List CellP} (h : SortedC L) {i j : Nat} (hi : i < L.length) (hj : j < L.length) (e : idC L[i] = idC L[j]) : i = j := by
  have hp := List.pairwise_iff_getElem.1 h
  rcases Nat.lt_trichotomy i j with hl | hl | hl
  · have := hp i j hi hj hl
    have := cmpC_zero.2 e; omega
  · exact hl
  · have := hp j i hj hi hl
    have := cmpC_zero.2 e.symm; omega
end Go.Proofs.YtgcnchmnciihnaaGreatDoor
namespace Go.Proofs.YtgcnchmnciihnaaGreatDoor
set_option linter.unusedSimpArgs false
set_option linter.unusedVariables false
open Go.RowKit

theorem run_neq_fields (w : World) (k n k' n' : Int) (t t' : ByteArray) : (binOp .neq 52 (.agg #[.int .i64 k, .int .i64 n, .string t]) (.agg #[.int .i64 k', .int .i64 n', .string t'])).run Tryz.prog w = .ok (.bool (!eqV ⟨k, n, t⟩ ⟨k', n', t'⟩)) w := by
  unfold eqV valEq str
  go_simp
  by_cases h1 : k = k' <;> by_cases h2 : n = n' <;> by_cases h3 : t.toList = t'.toList <;> simp [h1, h2, h3]
attribute [local go_sem high] run_neq_fields

/-- are two lists of values the same? -/
def sameV : List Val → List Val → Bool
  | [], [] => true
  | x :: a, y :: b => eqV x y && sameV a b
  | _, _ => false
theorem sameV_refl : ∀ a, sameV a a = true
  | [] => rfl
  | x :: a => by simp [sameV, sameV_refl a, eqV, valEq]
theorem sameV_len : ∀ a b, sameV a b = true → a.length = b.length
  | [], [], _ => rfl
  | x :: a, y :: b, h => by simp only [sameV, Bool.and_eq_true] at h; simp [sameV_len a b h.2]
  | [], _ :: _, h => by simp [sameV] at h
  | _ :: _, [], h => by simp [sameV] at h
def SameTo (w : World) (a b : List Val) (e : Ending) (w' : World) : Prop := e = .returned (.bool (sameV a b)) ∧ Later w w'

set_option maxRecDepth 100000 in
theorem same_vals (a b : List Val) (v u : Value) (w : World) (ha : IsVals w v a) (hb : IsVals w u b) :
    Calls Tryz.prog 41 #[v, u] w (SameTo w a b) := by
  obtain ⟨p, c, rfl, hac, hcm, -, hea⟩ := ha
  obtain ⟨q, d, rfl, hbd, hdm, -, heb⟩ := hb
  unfold maxLen at hcm hdm
  have HA := hid hea; have HB := hid heb; clear hea heb
  by_cases h0 : a.length = b.length
  · have HL := hid h0
    have hd0 : ((a.length : Int) != b.length) = false := by simp [h0]
    clear h0
    go_enter Tryz.func41, Tryz.ntmps41
    go_wp2
    go_loopw [5] (fun i wr => ∃ n : Nat, n ≤ a.length ∧ i = .int .i64 n ∧ Later w wr ∧ Hid (sameV a b = sameV (a.drop n) (b.drop n))) (fun i _ => a.length - (intOf i).toNat)
    case atStart => exact ⟨0, by omega, rfl, Later.refl _, rfl⟩
    case round =>
      obtain ⟨n, hn1, rfl, hL, hq⟩ := hrel
      have HL9 := hid hL
      clear hL
      by_cases h1 : n < a.length
      · have h2 : n < b.length := by have := HL.out; omega
        obtain ⟨b1, o1, rfl, -, e1⟩ := HA.out n h1
        obtain ⟨p1, p2, p3⟩ := e1.later HL9.out
        obtain ⟨b2, o2, rfl, -, e2⟩ := HB.out n h2
        obtain ⟨q1, q2, q3⟩ := e2.later HL9.out
        clear e1 e2
        have HD1 : Hid (a.drop n = a[n] :: a.drop (n + 1)) := hid (List.drop_eq_getElem_cons h1)
        have HD2 : Hid (b.drop n = b[n] :: b.drop (n + 1)) := hid (List.drop_eq_getElem_cons h2)
        have hnn : (0 : Int) ≤ n := by omega
        generalize hx : a[n] = x at *
        generalize hy : b[n] = y at *
        clear hx hy
        obtain ⟨k, m, t⟩ := x
        obtain ⟨k', m', t'⟩ := y
        simp only at p1 p2 p3 q1 q2 q3
        cases hc : eqV ⟨k, m, t⟩ ⟨k', m', t'⟩ with
        | true =>
          have HS : Hid (sameV a b = sameV (a.drop (n + 1)) (b.drop (n + 1))) := hid (hq.out.trans (by rw [HD1.out, HD2.out]; simp [sameV, hc]))
          clear hq
          go_wp2
          refine wp_region_lex (by kernel_rfl) (by kernel_rfl) Later Later.refl Later.trans (fun _ => none) (fun _ _ _ _ _ h => by cases h) ?_
          simp only [numbered, Nat.reduceAdd]
          iterate 9
            first
            | (refine Lex.skip rfl ?_; simp only [Act.put, List.setIfInBounds_toArray, List.set])
            | (refine Lex.one' rfl rfl ?_
               apply Exists.intro
               refine ⟨fun w hR hF => ?_, ?_⟩
               · have hP := hR
                 repeat (first | replace hP := Later.of_drew hP | replace hP := Later.of_drewN hP | replace hP := Later.of_alloc hP)
                 have hcs := hR.cells
                 have zp1 := hP.cell p1
                 have zp2 := hP.cell p2
                 have zp3 := hP.cell p3
                 have zq1 := hP.cell q1
                 have zq2 := hP.cell q2
                 have zq3 := hP.cell q3
                 clear hR hF hP
                 go_simp
                 first | done | rfl
               simp only [Act.put, List.setIfInBounds_toArray, List.set])
          intro w1 hR1 hF9
          clear hF9
          repeat (first | replace hR1 := Later.of_drew hR1 | replace hR1 := Later.of_drewN hR1 | replace hR1 := Later.of_alloc hR1)
          clear p1 p2 p3 q1 q2 q3
          go_wp2
          go_roundw
          case rel => exact ⟨n + 1, by omega, by go_num, Later.trans _ _ _ HL9.out hR1, HS⟩
          case measure => simp [intOf]; omega
        | false =>
          have HS : Hid (sameV a b = false) := hid (hq.out.trans (by rw [HD1.out, HD2.out]; simp [sameV, hc]))
          clear hq
          go_wp2
          refine wp_region_lex (by kernel_rfl) (by kernel_rfl) Later Later.refl Later.trans (fun _ => none) (fun _ _ _ _ _ h => by cases h) ?_
          simp only [numbered, Nat.reduceAdd]
          iterate 9
            first
            | (refine Lex.skip rfl ?_; simp only [Act.put, List.setIfInBounds_toArray, List.set])
            | (refine Lex.one' rfl rfl ?_
               apply Exists.intro
               refine ⟨fun w hR hF => ?_, ?_⟩
               · have hP := hR
                 repeat (first | replace hP := Later.of_drew hP | replace hP := Later.of_drewN hP | replace hP := Later.of_alloc hP)
                 have hcs := hR.cells
                 have zp1 := hP.cell p1
                 have zp2 := hP.cell p2
                 have zp3 := hP.cell p3
                 have zq1 := hP.cell q1
                 have zq2 := hP.cell q2
                 have zq3 := hP.cell q3
                 clear hR hF hP
                 go_simp
                 first | done | rfl
               simp only [Act.put, List.setIfInBounds_toArray, List.set])
          intro w1 hR1 hF9
          clear hF9
          repeat (first | replace hR1 := Later.of_drew hR1 | replace hR1 := Later.of_drewN hR1 | replace hR1 := Later.of_alloc hR1)
          clear p1 p2 p3 q1 q2 q3
          go_wp2
          go_ret
          exact ⟨ret_bool HS.out.symm, Later.trans _ _ _ HL9.out hR1⟩
      · have hn : n = a.length := by omega
        have HS : Hid (sameV a b = true) := hid (hq.out.trans (by have := HL.out; rw [List.drop_of_length_le (by omega), List.drop_of_length_le (by omega)]; rfl))
        clear hq
        go_wp2
        go_ret
        exact ⟨ret_bool HS.out.symm, HL9.out⟩
  · have HS : Hid (sameV a b = false) := hid (by
      cases h : sameV a b with
      | false => rfl
      | true => exact absurd (sameV_len a b h) h0)
    have hd0 : ((a.length : Int) != b.length) = true := by simp; omega
    clear h0
    go_enter Tryz.func41, Tryz.ntmps41
    go_wp2
    go_ret
    exact ⟨ret_bool HS.out.symm, Later.refl _⟩
end Go.Proofs.YtgcnchmnciihnaaGreatDoor
