/-
  PROVED HERE: windows in memory; in plain Lean: which windows a time is in.
  PROVED HERE: in plain Lean: a store's cells, their order, what Put makes of them. No program of its own.
  PROVED HERE: contracts of slices.Clone at values : what is handed back lies in new memory.
-/
import Derived.Test.YtgcnchmnciihnaaGreatDoorGPutLaws
import Derived.Test.YtgcnchmnciihnaaGreatDoorGU8
import Derived.Test.YtgcnchmnciihnaaGreatDoorGOrdTotal
import Derived.Test.YtgcnchmnciihnaaGreatDoorGPutVal
import Derived.WalkSpells
import Derived.Deep.RegionLaw
namespace Go.Proofs.YtgcnchmnciihnaaGreatDoor
set_option linter.unusedSimpArgs false
set_option linter.unusedVariables false
open Go Go.RowKit

abbrev Win := Int × Int
def WinAt (w : World) (b o : Nat) (x : Win) : Prop := w.cell? ⟨b, o, none⟩ = some (.int .i64 x.1) ∧ w.cell? ⟨b, o + 1, none⟩ = some (.int .i64 x.2)
abbrev WinsIn (S : Nat → Prop) (w : World) (v : Value) (l : List Win) : Prop := SliceOf S WinAt 2 w v l
theorem SliceOf.wins_later {S : Nat → Prop} {w w' : World} {v : Value} {l : List Win} (h : WinsIn S w v l) (k : Later w w') : WinsIn S w' v l := h.map fun _ _ _ hb hx => ⟨hb, k.cell hx.1, k.cell hx.2⟩
def winCells (l : List Win) : List Value := l.flatMap fun x => [.int .i64 x.1, .int .i64 x.2]
theorem winCells_snoc (l : List Win) (x : Win) : winCells (l ++ [x]) = winCells l ++ [.int .i64 x.1, .int .i64 x.2] := by simp [winCells]
theorem winCells_length (l : List Win) : (winCells l).length = l.length * 2 := by
  induction l with
  | nil => rfl
  | cons x l ih => simp only [winCells, List.flatMap_cons, List.length_append, List.length_cons, List.length_nil] at ih ⊢; omega
theorem winCells_at : ∀ (l : List Win) (i : Nat) (h : i < l.length), (winCells l)[i * 2]? = some (.int .i64 l[i].1) ∧ (winCells l)[i * 2 + 1]? = some (.int .i64 l[i].2)
  | x :: l, 0, _ => ⟨rfl, rfl⟩
  | x :: l, i + 1, h => by
    have ih := winCells_at l i (by simpa using h)
    have e : winCells (x :: l) = .int .i64 x.1 :: .int .i64 x.2 :: winCells l := rfl
    rw [e, show (i + 1) * 2 = i * 2 + 1 + 1 by omega]
    simpa using ih
theorem owned_wins {w : World} {B n : Nat} {e : TypeId} {v : Value} {l : List Win} (h : w.ownsRow B e 2 v n (winCells l)) : WinsIn (fun b => B ≤ b) w v l := by
  obtain ⟨hn, hc⟩ := h
  rw [winCells_length] at hn
  obtain rfl : l.length = n := by omega
  rcases hc with ⟨rfl, h0⟩ | ⟨g, cap, cur, rfl, hb, hg, hle, hm, hcs, ht⟩
  · have : l = [] := List.eq_nil_of_length_eq_zero h0
    subst this
    exact ⟨none, 0, rfl, Nat.le_refl _, by unfold maxLen; omega, fun _ => rfl, fun i hi => (by cases hi)⟩
  · refine ⟨_, cap, rfl, hle, hm, fun h => (by cases h), fun i hi => ⟨g, 0, rfl, hb, ?_⟩⟩
    have cell : ∀ j u, (winCells l)[j]? = some u → w.cell? ⟨g, j, none⟩ = some u := fun j u hu => by
      refine cell_obj hg ?_
      rw [← ht, List.getElem?_take] at hu
      split at hu
      · simpa using hu
      · cases hu
    obtain ⟨h1, h2⟩ := winCells_at l i hi
    unfold WinAt
    simp only [Nat.zero_add]
    exact ⟨cell _ _ h1, cell _ _ h2⟩

/-- the multiples of a step, from the last one that is not behind a time. -/
def stepA (t p i : Int) : Int := (t / p + i) * p
theorem stepA_succ (t p i : Int) : stepA t p (i + 1) = stepA t p i + p := by
  unfold stepA
  rw [← Int.add_assoc, Int.add_mul (t / p + i) 1 p, Int.one_mul]
theorem stepA_pred (t p i : Int) : stepA t p (i - 1) = stepA t p i - p := by
  have := stepA_succ t p (i - 1)
  rw [Int.sub_add_cancel] at this
  omega
theorem stepA_le {t p : Int} (hp : 0 < p) (i : Int) : stepA t p i ≤ t ↔ i ≤ 0 := by
  unfold stepA
  rw [← Int.le_ediv_iff_mul_le hp]
  omega
/-- how many windows begin ahead of that one and hold the time. -/
def winJ (t s p : Int) : Nat := ((s - 1 - t % p) / p).toNat
theorem stepA_in {t s p : Int} (hp : 0 < p) (hs : p ≤ s) (i : Int) : t - s < stepA t p i ↔ -(winJ t s p : Int) ≤ i := by
  have hm := Int.emod_lt_of_pos t hp
  have hm0 := Int.emod_nonneg t (Int.ne_of_gt hp)
  have hd := Int.mul_ediv_add_emod t p
  have hJ : (winJ t s p : Int) = (s - 1 - t % p) / p := by
    unfold winJ
    exact Int.toNat_of_nonneg (Int.ediv_nonneg (by omega) (by omega))
  have h1 : -i ≤ (s - 1 - t % p) / p ↔ (-i) * p ≤ s - 1 - t % p := Int.le_ediv_iff_mul_le hp
  have h2 : (-i) * p = -(i * p) := Int.neg_mul _ _
  unfold stepA
  rw [Int.add_mul, Int.mul_comm (t / p) p]
  rw [hJ]
  omega
theorem winJ_le {t s p : Int} (hp : 0 < p) (hs : p ≤ s) (h64 : s / p ≤ 64) : winJ t s p ≤ 64 := by
  have hm := Int.emod_lt_of_pos t hp
  have hm0 := Int.emod_nonneg t (Int.ne_of_gt hp)
  unfold winJ
  have : (s - 1 - t % p) / p ≤ s / p := Int.ediv_le_ediv hp (by omega)
  omega
def winA (t s p : Int) (n : Nat) : Win := (stepA t p (n - winJ t s p), stepA t p (n - winJ t s p) + s)
def winL (t s p : Int) (n : Nat) : List Win := (List.range n).map (winA t s p)
theorem winL_succ (t s p : Int) (n : Nat) : winL t s p (n + 1) = winL t s p n ++ [winA t s p n] := by simp [winL, List.range_succ]
theorem winL_length (t s p : Int) (n : Nat) : (winL t s p n).length = n := by simp [winL]
/-- the windows that a time is in. -/
def assignW (k s p t : Int) : List Win :=
  if k = 3 then [(t, t + s)] else if k = 4 then [(0, 1099511627777)] else if k = 1 then winL t s s (winJ t s s + 1) else winL t s p (winJ t s p + 1)
/-- where they lie: between these. -/
theorem stepA_range {t p i : Int} (hp : 0 < p) (hp2 : p ≤ 1048576) (ht : 0 ≤ t) (ht2 : t ≤ 1099511627776) (hi : -100 ≤ i) (hi2 : i ≤ 100) : -1099511627776 ≤ stepA t p i ∧ stepA t p i ≤ 2199023255552 := by
  have hm := Int.emod_lt_of_pos t hp
  have hm0 := Int.emod_nonneg t (Int.ne_of_gt hp)
  have hd := Int.mul_ediv_add_emod t p
  unfold stepA
  rw [Int.add_mul, Int.mul_comm (t / p) p]
  have h1 : i * p ≤ 100 * p := Int.mul_le_mul_of_nonneg_right hi2 (by omega)
  have h2 : -100 * p ≤ i * p := Int.mul_le_mul_of_nonneg_right hi (by omega)
  omega
theorem quot_range {t p : Int} (hp : 0 < p) (ht : 0 ≤ t) (ht2 : t ≤ 1099511627776) : 0 ≤ t / p ∧ t / p ≤ 1099511627776 := by
  refine ⟨Int.ediv_nonneg ht (by omega), ?_⟩
  have := Int.ediv_le_self p ht
  omega
end Go.Proofs.YtgcnchmnciihnaaGreatDoor
namespace Go.Proofs.YtgcnchmnciihnaaGreatDoor
set_option linter.unusedSimpArgs false
set_option linter.unusedVariables false
open Go Go.RowKit

/-- a cell: its key, its window, its data. -/
structure CellP where
  key : List Val
  win : Win
  data : List UInt8
abbrev Idn := Win × List Val
def idC (c : CellP) : Idn := (c.win, c.key)
def cmpW (a b : Win) : Int := orL [cmpI a.2 b.2, cmpI a.1 b.1]
def cmpId (x y : Idn) : Int := orL [cmpW x.1 y.1, compareL x.2 y.2]
def cmpC (a b : CellP) : Int := cmpId (idC a) (idC b)
theorem cmpW_total : TotalC cmpW := by
  refine ((lex2_total cmpI_total cmpI_total).comap (fun x : Win => (x.2, x.1)) fun x y h => ?_).congr fun x y => ?_
  · simp only [Prod.mk.injEq] at h
    exact Prod.ext h.2 h.1
  · unfold cmpW; rw [orL2]; rfl
theorem cmpId_total : TotalC cmpId := by
  refine (lex2_total cmpW_total (lexL_total compareV_total)).congr fun x y => ?_
  unfold cmpId
  rw [orL2, compareL_lex]
  rfl
theorem cmpC_zero {a b : CellP} : cmpC a b = 0 ↔ idC a = idC b := cmpId_total.eq _ _
theorem cmpC_neg (a b : CellP) : cmpC b a = -(cmpC a b) := cmpId_total.neg _ _
theorem cmpC_trans {a b c : CellP} (h : cmpC a b < 0) (k : cmpC b c < 0) : cmpC a c < 0 := cmpId_total.trans _ _ _ h k
theorem cmpC_left {a b c : CellP} (h : idC a = idC b) : cmpC a c = cmpC b c := by unfold cmpC; rw [h]
theorem cmpC_right {a b c : CellP} (h : idC a = idC b) : cmpC c a = cmpC c b := by unfold cmpC; rw [h]
/-- cells in their order, no two of one key and window. -/
def SortedC (l : List CellP) : Prop := l.Pairwise fun a b => cmpC a b < 0
theorem sortedC_unique : ∀ {a b : List CellP}, SortedC a → SortedC b → a.Perm b → a = b
  | [], b, _, _, hp => (List.nil_perm.1 hp).symm
  | x :: a, [], _, _, hp => absurd (List.perm_nil.1 hp) (by simp)
  | x :: a, y :: b, ha, hb, hp => by
    have pa := List.pairwise_cons.1 ha
    have pb := List.pairwise_cons.1 hb
    have hxy : x = y := by
      rcases List.mem_cons.1 (hp.mem_iff.2 List.mem_cons_self : y ∈ x :: a) with rfl | hm
      · rfl
      · have h1 := pa.1 y hm
        rcases List.mem_cons.1 (hp.mem_iff.1 List.mem_cons_self : x ∈ y :: b) with rfl | hm'
        · rfl
        · have h2 := pb.1 x hm'
          have := cmpC_neg x y
          omega
    subst hxy
    rw [sortedC_unique pa.2 pb.2 (List.perm_cons x |>.1 hp)]
theorem SortedC.id_inj {l : List CellP} (h : SortedC l) : ∀ {a b}, a ∈ l → b ∈ l → idC a = idC b → a = b := by
  induction l with
  | nil => intro a b ha; cases ha
  | cons x l ih =>
    have hp := List.pairwise_cons.1 h
    intro a b ha hb e
    rcases List.mem_cons.1 ha with h1 | h1 <;> rcases List.mem_cons.1 hb with h2 | h2
    · rw [h1, h2]
    · have h3 := hp.1 b h2
      have := cmpC_zero.2 e
      rw [h1] at this; omega
    · have h3 := hp.1 a h1
      have := cmpC_zero.2 e.symm
      rw [h2] at this; omega
    · exact ih hp.2 h1 h2 e
theorem SortedC.filter {l : List CellP} (h : SortedC l) (p : CellP → Bool) : SortedC (l.filter p) := List.Pairwise.filter p h
theorem SortedC.nodup {l : List CellP} (h : SortedC l) : l.Nodup := h.imp fun {a b} hab e => by
  subst e
  have := cmpC_zero.2 (rfl : idC a = idC a); omega
/-- what a sort leaves, and no key and window twice: in their order. -/
theorem sortedC_of {l : List CellP} (h : l.Pairwise fun a b => 0 ≤ cmpC b a) (hn : l.Pairwise fun a b => idC a ≠ idC b) : SortedC l :=
  (h.and hn).imp fun {a b} ⟨h1, h2⟩ => by
    have := cmpC_neg b a
    have h3 : cmpC a b ≠ 0 := fun e => h2 (cmpC_zero.1 e)
    omega

def CellP.weight (c : CellP) : Nat := c.data.length + 64 * c.key.length + 32
def weightL (l : List CellP) : Nat := (l.map CellP.weight).sum
theorem weightL_cons (c : CellP) (l : List CellP) : weightL (c :: l) = c.weight + weightL l := by simp [weightL]
theorem weightL_perm {a b : List CellP} (h : a.Perm b) : weightL a = weightL b := List.Perm.sum_nat (h.map CellP.weight)
theorem weightL_filter (p : CellP → Bool) (l : List CellP) : weightL (l.filter p) + weightL (l.filter fun c => !p c) = weightL l := by
  induction l with
  | nil => rfl
  | cons c l ih =>
    cases hp : p c
    · rw [List.filter_cons_of_neg (by simp [hp]), List.filter_cons_of_pos (by simp [hp]), weightL_cons, weightL_cons]; omega
    · rw [List.filter_cons_of_pos (by simp [hp]), List.filter_cons_of_neg (by simp [hp]), weightL_cons, weightL_cons]; omega
theorem weightL_filter_le (p : CellP → Bool) (l : List CellP) : weightL (l.filter p) ≤ weightL l := by have := weightL_filter p l; omega
theorem weightL_length (l : List CellP) : 32 * l.length ≤ weightL l := by
  induction l with
  | nil => exact Nat.le_refl _
  | cons c l ih => rw [weightL_cons, List.length_cons]; unfold CellP.weight; omega
theorem weightL_mem {l : List CellP} {c : CellP} (h : c ∈ l) : c.weight ≤ weightL l := by
  induction l with
  | nil => cases h
  | cons d l ih =>
    rw [weightL_cons]
    rcases List.mem_cons.1 h with rfl | h
    · omega
    · have := ih h; omega

instance : DecidableEq Val := fun a b => decidable_of_iff (a.k = b.k ∧ a.n = b.n ∧ a.t = b.t) (by cases a; cases b; simp)
def notId (i : Idn) (d : CellP) : Bool := !decide (idC d = i)
/-- a cell put among others: in its place, or instead of that of its key and window. -/
def insC (c : CellP) : List CellP → List CellP
  | [] => [c]
  | d :: l => if cmpC c d < 0 then c :: d :: l else if cmpC c d = 0 then c :: l else d :: insC c l
theorem insC_perm (c : CellP) : ∀ {l : List CellP}, SortedC l → (insC c l).Perm (c :: l.filter (notId (idC c)))
  | [], _ => List.Perm.refl _
  | d :: l, h => by
    have hp := List.pairwise_cons.1 h
    unfold insC
    by_cases h1 : cmpC c d < 0
    · rw [if_pos h1]
      have : (d :: l).filter (notId (idC c)) = d :: l := List.filter_eq_self.2 fun x hx => by
        unfold notId
        have hx : cmpC c x < 0 := by
          rcases List.mem_cons.1 hx with rfl | hx
          · exact h1
          · exact cmpC_trans h1 (hp.1 x hx)
        simp only [Bool.not_eq_true', decide_eq_false_iff_not]
        intro e
        have := cmpC_zero.2 e.symm; omega
      rw [this]
    · rw [if_neg h1]
      by_cases h2 : cmpC c d = 0
      · rw [if_pos h2]
        have e := cmpC_zero.1 h2
        have : (d :: l).filter (notId (idC c)) = l := by
          rw [List.filter_cons_of_neg (by unfold notId; simp [e])]
          refine List.filter_eq_self.2 fun x hx => ?_
          have := hp.1 x hx
          unfold notId
          simp only [Bool.not_eq_true', decide_eq_false_iff_not]
          intro e'
          have := cmpC_zero.2 (e.symm.trans e'.symm); omega
        rw [this]
      · rw [if_neg h2, List.filter_cons_of_pos (by unfold notId; simp only [Bool.not_eq_true', decide_eq_false_iff_not]; intro e; exact h2 (cmpC_zero.2 e.symm))]
        exact ((insC_perm c hp.2).cons d).trans (List.Perm.swap c d _)
theorem insC_mem {c x : CellP} {l : List CellP} (h : SortedC l) : x ∈ insC c l ↔ x = c ∨ (x ∈ l ∧ idC x ≠ idC c) := by
  rw [(insC_perm c h).mem_iff, List.mem_cons, List.mem_filter]
  simp [notId]
theorem insC_sorted (c : CellP) : ∀ {l : List CellP}, SortedC l → SortedC (insC c l)
  | [], _ => List.pairwise_singleton _ _
  | d :: l, h => by
    have hp := List.pairwise_cons.1 h
    unfold insC
    by_cases h1 : cmpC c d < 0
    · rw [if_pos h1]
      refine List.pairwise_cons.2 ⟨fun x hx => ?_, h⟩
      rcases List.mem_cons.1 hx with rfl | hx
      · exact h1
      · exact cmpC_trans h1 (hp.1 x hx)
    · rw [if_neg h1]
      by_cases h2 : cmpC c d = 0
      · rw [if_pos h2]
        refine List.pairwise_cons.2 ⟨fun x hx => ?_, hp.2⟩
        rw [cmpC_left (cmpC_zero.1 h2)]
        exact hp.1 x hx
      · rw [if_neg h2]
        refine List.pairwise_cons.2 ⟨fun x hx => ?_, insC_sorted c hp.2⟩
        rcases (insC_mem hp.2).1 hx with rfl | ⟨hx, -⟩
        · have := cmpC_neg x d; omega
        · exact hp.1 x hx
/-- a list that is in order and has the cells of insC is it. -/
theorem insC_unique {c : CellP} {l m : List CellP} (h : SortedC l) (hm : SortedC m) (hp : m.Perm (c :: l.filter (notId (idC c)))) : m = insC c l :=
  sortedC_unique hm (insC_sorted c h) (hp.trans (insC_perm c h).symm)
theorem insC_weight {c : CellP} {l : List CellP} (h : SortedC l) : weightL (insC c l) = c.weight + weightL (l.filter (notId (idC c))) := by
  rw [weightL_perm (insC_perm c h), weightL_cons]
theorem filter_one {l : List CellP} (h : SortedC l) {d : CellP} (hd : d ∈ l) : l.filter (fun c => decide (idC c = idC d)) = [d] := by
  refine sortedC_unique (h.filter _) (List.pairwise_singleton _ _) ?_
  refine (List.perm_ext_iff_of_nodup (h.filter _).nodup (by simp)).2 fun x => ?_
  rw [List.mem_filter, List.mem_singleton]
  constructor
  · rintro ⟨h1, h2⟩; exact h.id_inj h1 hd (of_decide_eq_true h2)
  · rintro rfl; exact ⟨hd, decide_eq_true rfl⟩
theorem weight_old {l : List CellP} (h : SortedC l) {c d : CellP} (hd : d ∈ l) (e : idC d = idC c) : weightL (l.filter (notId (idC c))) + d.weight = weightL l := by
  have := weightL_filter (fun x => decide (idC x = idC d)) l
  rw [filter_one h hd] at this
  rw [← e]
  have e2 : weightL [d] = d.weight := by simp [weightL]
  unfold notId
  omega
theorem weight_new {l : List CellP} {c : CellP} (hn : ∀ d ∈ l, idC d ≠ idC c) : l.filter (notId (idC c)) = l := List.filter_eq_self.2 fun x hx => by
  unfold notId
  simp only [Bool.not_eq_true', decide_eq_false_iff_not]
  exact hn x hx

/-- what a key must be for a store of the groups from lo to ahead of hi. -/
def ownsK (lo hi : Int) (key : List Val) : Bool := validR ⟨0, key⟩ && (decide (lo ≤ groupK key) && decide ((groupK key : Int) < hi))
def winOk (x : Win) : Bool := decide (-1048576 ≤ x.1) && (decide (x.1 < x.2) && decide (x.2 ≤ 1099512676353))
def putErr (lo hi : Int) (l : List CellP) (c : CellP) : Int :=
  if ownsK lo hi c.key && winOk c.win then (if weightL (insC c l) ≤ 67108864 then 0 else 5) else 4
def putL (lo hi : Int) (l : List CellP) (c : CellP) : List CellP := if putErr lo hi l c = 0 then insC c l else l
/-- what holds of a store's cells. -/
structure Store (lo hi : Int) (l : List CellP) : Prop where
  sorted : SortedC l
  owns : ∀ c ∈ l, ownsK lo hi c.key = true
  win : ∀ c ∈ l, winOk c.win = true
  full : weightL l ≤ 67108864
theorem Store.nil (lo hi : Int) : Store lo hi [] := ⟨List.Pairwise.nil, fun c hc => (by cases hc), fun c hc => (by cases hc), by simp [weightL]⟩
theorem putErr_ok {lo hi : Int} {l : List CellP} {c : CellP} (h : putErr lo hi l c = 0) : ownsK lo hi c.key = true ∧ winOk c.win = true ∧ weightL (insC c l) ≤ 67108864 := by
  unfold putErr at h
  split at h
  · rename_i h1
    split at h
    · rename_i h2
      rw [Bool.and_eq_true] at h1
      exact ⟨h1.1, h1.2, h2⟩
    · cases h
  · cases h
theorem Store.ins {lo hi : Int} {l : List CellP} (h : Store lo hi l) {c : CellP} (hc : putErr lo hi l c = 0) : Store lo hi (insC c l) := by
  obtain ⟨h1, h2, h3⟩ := putErr_ok hc
  refine ⟨insC_sorted c h.sorted, fun x hx => ?_, fun x hx => ?_, h3⟩
  · rcases (insC_mem h.sorted).1 hx with rfl | ⟨hx, -⟩
    · exact h1
    · exact h.owns x hx
  · rcases (insC_mem h.sorted).1 hx with rfl | ⟨hx, -⟩
    · exact h2
    · exact h.win x hx
theorem Store.put {lo hi : Int} {l : List CellP} (h : Store lo hi l) (c : CellP) : Store lo hi (putL lo hi l c) := by
  unfold putL
  split
  · exact h.ins ‹_›
  · exact h
theorem Store.filter {lo hi lo' hi' : Int} {l : List CellP} (h : Store lo hi l) (p : CellP → Bool) (hp : ∀ c ∈ l, p c = true → lo' ≤ groupK c.key ∧ (groupK c.key : Int) < hi') : Store lo' hi' (l.filter p) :=
  ⟨h.sorted.filter p, fun c hc => by
    have := List.mem_filter.1 hc
    have h1 := h.owns c this.1
    have h2 := hp c this.1 this.2
    unfold ownsK at *
    rw [Bool.and_eq_true] at *
    exact ⟨h1.1, by simp [h2.1, h2.2]⟩, fun c hc => h.win c (List.mem_filter.1 hc).1, Nat.le_trans (weightL_filter_le p l) h.full⟩
theorem ownsK_valid {lo hi : Int} {key : List Val} (h : ownsK lo hi key = true) : validR ⟨0, key⟩ = true ∧ lo ≤ groupK key ∧ (groupK key : Int) < hi := by
  unfold ownsK at h
  simp only [Bool.and_eq_true, decide_eq_true_eq] at h
  exact h
theorem validR_key {key : List Val} (h : validR ⟨0, key⟩ = true) : key.length ≤ 8 ∧ ∀ x ∈ key, validV x = true := by
  unfold validR at h
  simp only [Bool.and_eq_true, decide_eq_true_eq, List.all_eq_true] at h
  exact ⟨h.2.2.1, h.2.2.2⟩
theorem winOk_range {x : Win} (h : winOk x = true) : -1048576 ≤ x.1 ∧ x.1 < x.2 ∧ x.2 ≤ 1099512676353 := by
  unfold winOk at h
  simp only [Bool.and_eq_true, decide_eq_true_eq] at h
  exact h
theorem groupK_lt (key : List Val) : groupK key < 32 := Nat.mod_lt _ (by decide)
end Go.Proofs.YtgcnchmnciihnaaGreatDoor
namespace Go.Proofs.YtgcnchmnciihnaaGreatDoor
set_option linter.unusedSimpArgs false
set_option linter.unusedVariables false
open Go.RowKit

theorem infoVal : (Tryz.prog.info? 52).map (fun i => (i.zero, i.size, i.bytes)) = some (some (.agg #[.int .i64 0, .int .i64 0, .string ⟨#[]⟩]), 3, 32) := by kernel_rfl

/-- what a call hands back of a list of values: a slice of its own, nil if that was nil. -/
def Cloned (w : World) (v : Value) (l : List Val) (w' : World) (v' : Value) : Prop :=
  w'.ownsRow w.heap.size 52 3 v' l.length (valCells l) ∧ (v' = .slice none 0 0 ↔ v = .slice none 0 0)

theorem valCells_one (l : List Val) : ∀ u ∈ valCells l, u.oneCell' = true := by
  intro u hu
  simp only [valCells, List.mem_flatMap, Val.cells, List.mem_cons, List.not_mem_nil, or_false] at hu
  obtain ⟨x, _, rfl | rfl | rfl⟩ := hu <;> rfl
theorem valCells_at {S : Nat → Prop} {w : World} {a : Addr} {l : List Val} (h : Elems S ValAt 3 w (some a) l) : ∀ j u, (valCells l)[j]? = some u → w.cell? (a.add j) = some u := by
  intro j u hu
  have hj : j < l.length * 3 := by
    rw [← valCells_length]; exact (List.getElem?_eq_some_iff.1 hu).1
  obtain ⟨b, o, ha, _, h1, h2, h3⟩ := h (j / 3) (by omega)
  cases ha
  obtain ⟨q1, q2, q3⟩ := valCells_get l (j / 3) (by omega)
  rw [add_none rfl]
  rcases (by omega : j = j / 3 * 3 ∨ j = j / 3 * 3 + 1 ∨ j = j / 3 * 3 + 2) with e | e | e
  · rw [e] at hu; rw [q1] at hu; cases hu
    simpa [← e] using h1
  · rw [e] at hu; rw [q2] at hu; cases hu
    rw [Nat.add_assoc, ← e] at h2
    simpa using h2
  · rw [e] at hu; rw [q3] at hu; cases hu
    rw [Nat.add_assoc, ← e] at h3
    simpa using h3

def ClonedTo (w : World) (v : Value) (l : List Val) (e : Ending) (w' : World) : Prop := ∃ v', e = .returned v' ∧ Cloned w v l w' v' ∧ Later w w'

theorem clone_vals (l : List Val) (v : Value) (w : World) (hv : IsVals w v l) (hl : l.length * 32 ≤ 140737488355328) :
    Calls Tryz.prog 18 #[v] w (ClonedTo w v l) := by
  obtain ⟨p, c, rfl, hac, hcm, hnil, hea⟩ := hv
  have hcap : c ≤ 9223372036854775807 := by unfold maxLen at hcm; omega
  cases p with
  | none =>
    obtain rfl : c = 0 := hnil rfl
    have hl0 : l.length = 0 := by omega
    have hl1 : l = [] := List.eq_nil_of_length_eq_zero hl0
    subst hl1
    clear hnil hl0 hac hcm hcap hea hl
    have he := fun (w : World) => Lib.run_eql_slice_nil (P := Tryz.prog) w 32 52 none 0 0 0 0 Tryz.underlying32
    go_enter Tryz.func18, Tryz.ntmps18
    go_wp2
    go_ret
    exact ⟨_, rfl, ⟨⟨rfl, .inl ⟨rfl, rfl⟩⟩, Iff.rfl⟩, Later.refl _⟩
  | some a =>
    obtain ⟨i0, hi, hz0, hz1, hz2⟩ := info_parts infoVal
    have hown := World.ownsRow_lit (base := w.heap.size) (e := 52) (size := 3) w #[] 0 (Nat.le_refl _) (by unfold maxLen; omega) rfl
    have hnews : ∀ j u, (valCells l)[j]? = some u → (w.alloc (.cells #[] 52)).cell? (a.add j) = some u := fun j u h => (Later.alloc w _).cell (valCells_at hea j u h)
    have HO := hid hown; have HN := hid hnews; have HL := hid hl; have HI := hid hi
    clear hown hnews hnil hea hcap hcm hl hi
    have he := fun (w : World) => Lib.run_eql_slice_nil (P := Tryz.prog) w 32 52 (some a) l.length c 0 0 Tryz.underlying32
    go_enter Tryz.func18, Tryz.ntmps18
    go_wp2_with (at_builtin; refine wpList_append_own _ rfl _ _ 32 rfl w.heap.size 52 i0 _ 3 32 Tryz.underlying32 HI.out hz0 hz1 hz2 rfl (by decide) _ _ _ rfl HO.out a l.length c (valCells l) rfl (valCells_length l) HN.out (valCells_one l) ?c1 ?c2 ?c3 ?_)
    case c1 => have := HL.out; unfold maxLen; omega
    case c2 => have := HL.out; omega
    intro v' w1 hown1 hgrow1 hnil1
    go_wp2
    go_ret
    refine ⟨_, rfl, ⟨hown1, ?_⟩, ?_⟩
    · simp [hnil1]
    · have hb := (Below.refl w.heap.size w).alloc (Nat.le_refl _) (.cells #[] 52)
      exact hb.grown hgrow1 (by simp) (fun k hk => by simp [Value.ownBlock] at hk; omega)

/-- a slice of values of one's own, nil if another is. -/
def OwnVals (B : Nat) (w : World) (v : Value) (l : List Val) (v0 : Value) : Prop := w.ownsRow B 52 3 v l.length (valCells l) ∧ (v = .slice none 0 0 ↔ v0 = .slice none 0 0)
theorem OwnVals.later {B : Nat} {w w' : World} {v v0 : Value} {l : List Val} (h : OwnVals B w v l v0) (k : Later w w') : OwnVals B w' v l v0 :=
  ⟨h.1.kept (row := none) ⟨k.os, k.tape, k.output, k.size, fun i hi _ => k.block i hi⟩ (by cases hv : v.ownBlock <;> simp), h.2⟩
theorem ownsRow_base {w : World} {B B' : Nat} {e : TypeId} {s n : Nat} {v : Value} {xs : List Value} (h : w.ownsRow B e s v n xs) (hB : B' ≤ B) : w.ownsRow B' e s v n xs :=
  ⟨h.1, h.2.imp id fun ⟨g, c, cur, h1, h2, h3⟩ => ⟨g, c, cur, h1, Nat.le_trans hB h2, h3⟩⟩
theorem OwnVals.base {B B' : Nat} {w : World} {v v0 : Value} {l : List Val} (h : OwnVals B w v l v0) (hB : B' ≤ B) : OwnVals B' w v l v0 := ⟨ownsRow_base h.1 hB, h.2⟩

theorem OwnVals.slice {B : Nat} {w : World} {v v0 : Value} {l : List Val} (h : OwnVals B w v l v0) : ∃ a c, v = .slice a l.length c := by
  rcases h.1.2 with ⟨rfl, h0⟩ | ⟨g, cap, cur, rfl, _⟩
  · exact ⟨none, 0, by rw [h0]⟩
  · exact ⟨_, _, rfl⟩
end Go.Proofs.YtgcnchmnciihnaaGreatDoor
