/-
  PROVED HERE: the plain law of DiskSteps: the law's list of files and the disk's map go together.
-/
import Derived.Test.YtcmpjdnbjhkhdaaDoorDiskCrash
import Derived.Test.YtcmpjdnbjhkhdaaDoorFileCrash
import Derived.Test.YtcmpjdnbjhkhdaaDoorDiskNames
import Derived.Test.YtcmpjdnbjhkhdaaDoorDiskRemove
import Derived.Test.YtcmpjdnbjhkhdaaDoorNames
namespace Go.Proofs.YtcmpjdnbjhkhdaaDoor
set_option linter.unusedSimpArgs false
set_option linter.unusedVariables false
open Go.RowKit

def namesF (F : List FE) : List (List UInt8) := F.map FE.name
def looseF (F : List FE) : List (List UInt8) := (F.filter FE.loose).map FE.name
theorem looseF_cons (x : FE) (F : List FE) : looseF (x :: F) = if x.loose = true then x.name :: looseF F else looseF F := by
  unfold looseF
  rw [List.filter_cons]
  split <;> rfl
theorem uniqF : ∀ {F : List FE}, (namesF F).Nodup → ∀ x ∈ F, ∀ y ∈ F, x.name = y.name → x = y
  | [], _, x, hx, _, _, _ => by cases hx
  | z :: F, hn, x, hx, y, hy, e => by
    obtain ⟨h1, h2⟩ := List.nodup_cons.1 (show (z.name :: namesF F).Nodup from hn)
    have hin : ∀ u ∈ F, u.name ∈ namesF F := fun u hu => List.mem_map_of_mem hu
    rcases List.mem_cons.1 hx with rfl | hx'
    · rcases List.mem_cons.1 hy with rfl | hy
      · rfl
      · exact absurd (e ▸ hin y hy) h1
    · have _ := hx'
      rcases List.mem_cons.1 hy with rfl | hy
      · exact absurd (e ▸ hin x hx') h1
      · exact uniqF h2 x hx' y hy e
theorem mem_loose {F : List FE} {k : List UInt8} : k ∈ looseF F ↔ ∃ x ∈ F, x.loose = true ∧ x.name = k := by
  unfold looseF
  rw [List.mem_map]
  constructor
  · rintro ⟨x, hx, rfl⟩
    obtain ⟨h1, h2⟩ := List.mem_filter.1 hx
    exact ⟨x, h1, h2, rfl⟩
  · rintro ⟨x, h1, h2, rfl⟩
    exact ⟨x, List.mem_filter.2 ⟨h1, h2⟩, rfl⟩
theorem not_loose {F : List FE} (hn : (namesF F).Nodup) {x : FE} (hx : x ∈ F) (h : x.loose = false) : x.name ∉ looseF F := by
  intro hm
  obtain ⟨y, hy, hl, e⟩ := mem_loose.1 hm
  have := uniqF hn y hy x hx e
  rw [this, h] at hl
  cases hl
theorem loose_nodup {F : List FE} (hn : (namesF F).Nodup) : (looseF F).Nodup := hn.sublist (List.Sublist.map _ List.filter_sublist)
theorem loose_len (F : List FE) : (looseF F).length ≤ F.length := by unfold looseF; rw [List.length_map]; exact List.length_filter_le _ _
/-! crash -/
theorem crashF_sub (W : Nat) : ∀ (n : Nat) (F : List FE), (namesF (crashF W n F)).Sublist (namesF F)
  | _, [] => List.Sublist.refl _
  | n, x :: F => by
    unfold crashF
    split
    · split
      · exact (crashF_sub W (n + 1) F).cons_cons _
      split
      · exact (crashF_sub W (n + 1) F).cons_cons _
      · exact (crashF_sub W (n + 1) F).cons _
    · exact (crashF_sub W n F).cons_cons _
theorem crashF_loose (W : Nat) : ∀ (n : Nat) (F : List FE), ∀ y ∈ crashF W n F, y.loose = false
  | _, [], y, h => by cases h
  | n, x :: F, y, h => by
    unfold crashF at h
    split at h
    · split at h
      · rcases List.mem_cons.1 h with rfl | h
        · rfl
        · exact crashF_loose W (n + 1) F y h
      split at h
      · rcases List.mem_cons.1 h with rfl | h
        · rfl
        · exact crashF_loose W (n + 1) F y h
      · exact crashF_loose W (n + 1) F y h
    · rcases List.mem_cons.1 h with rfl | h
      · rfl
      · exact crashF_loose W n F y h
theorem crashF_mem (W : Nat) : ∀ (n : Nat) (F : List FE), ∀ y ∈ crashF W n F, ∃ x ∈ F, (x.loose = false ∧ y = stay x) ∨ ∃ j, (looseF F)[j]? = some x.name ∧ (n + j < W ∧ y = stay x ∨ n + j = W ∧ y = halfF x)
  | _, [], y, h => by cases h
  | n, x :: F, y, h => by
    have hcons := looseF_cons x F
    unfold crashF at h
    split at h
    case isTrue hl =>
      rw [if_pos hl] at hcons
      have hrec : y ∈ crashF W (n + 1) F → ∃ z ∈ x :: F, (z.loose = false ∧ y = stay z) ∨ ∃ j, (looseF (x :: F))[j]? = some z.name ∧ (n + j < W ∧ y = stay z ∨ n + j = W ∧ y = halfF z) := by
        intro h
        obtain ⟨z, hz, hc⟩ := crashF_mem W (n + 1) F y h
        refine ⟨z, List.mem_cons_of_mem _ hz, hc.imp (fun h => h) ?_⟩
        rintro ⟨j, hj, hc⟩
        refine ⟨j + 1, by rw [hcons]; exact hj, ?_⟩
        rcases hc with ⟨h1, h2⟩ | ⟨h1, h2⟩
        · exact .inl ⟨by omega, h2⟩
        · exact .inr ⟨by omega, h2⟩
      split at h
      · rcases List.mem_cons.1 h with rfl | h
        · exact ⟨x, List.mem_cons_self .., .inr ⟨0, by rw [hcons]; rfl, .inl ⟨by omega, rfl⟩⟩⟩
        · exact hrec h
      split at h
      · rcases List.mem_cons.1 h with rfl | h
        · exact ⟨x, List.mem_cons_self .., .inr ⟨0, by rw [hcons]; rfl, .inr ⟨by omega, rfl⟩⟩⟩
        · exact hrec h
      · exact hrec h
    case isFalse hl =>
      rw [if_neg hl] at hcons
      rcases List.mem_cons.1 h with rfl | h
      · exact ⟨x, List.mem_cons_self .., .inl ⟨by simpa using hl, rfl⟩⟩
      · obtain ⟨z, hz, hc⟩ := crashF_mem W n F y h
        exact ⟨z, List.mem_cons_of_mem _ hz, by rw [hcons]; exact hc⟩
theorem crashF_gone (W : Nat) : ∀ (n : Nat) (F : List FE), ∀ x ∈ F, x.name ∈ namesF (crashF W n F) ∨ ∃ j, (looseF F)[j]? = some x.name ∧ W < n + j
  | _, [], y, h => by cases h
  | n, z :: F, x, h => by
    have hcons := looseF_cons z F
    unfold crashF
    split
    case isTrue hl =>
      rw [if_pos hl] at hcons
      have hrec : x ∈ F → x.name ∈ namesF (crashF W (n + 1) F) ∨ ∃ j, (looseF (z :: F))[j]? = some x.name ∧ W < n + j := by
        intro hx
        rcases crashF_gone W (n + 1) F x hx with h | ⟨j, hj, hc⟩
        · exact .inl h
        · exact .inr ⟨j + 1, by rw [hcons]; exact hj, by omega⟩
      split
      · rcases List.mem_cons.1 h with rfl | h
        · exact .inl (List.mem_cons_self ..)
        · exact (hrec h).imp (fun h => List.mem_cons_of_mem _ h) fun h => h
      split
      · rcases List.mem_cons.1 h with rfl | h
        · exact .inl (List.mem_cons_self ..)
        · exact (hrec h).imp (fun h => List.mem_cons_of_mem _ h) fun h => h
      · rcases List.mem_cons.1 h with rfl | h
        · exact .inr ⟨0, by rw [hcons]; rfl, by omega⟩
        · exact hrec h
    case isFalse hl =>
      rw [if_neg hl] at hcons
      rcases List.mem_cons.1 h with rfl | h
      · exact .inl (List.mem_cons_self ..)
      · rw [hcons]
        exact (crashF_gone W n F x h).imp (fun h => List.mem_cons_of_mem _ h) fun h => h
theorem crashN_out {whole : Int} {ns : List (List UInt8)} {f : List UInt8 → Option Value} {k : List UInt8} (h : k ∉ ns) : ∀ i, i ≤ ns.length → crashN whole ns f i k = f k
  | 0, _ => rfl
  | i + 1, hi => by
    show crashStep whole (crashN whole ns f i) i (ns.getD i []) k = f k
    rw [crashStep_other, crashN_out h i (by omega)]
    intro e
    apply h
    rw [e, List.getD_eq_getElem?_getD, List.getElem?_eq_getElem (show i < ns.length by omega)]
    exact List.getElem_mem _
theorem crashN_in {whole : Int} {ns : List (List UInt8)} {f : List UInt8 → Option Value} (hn : ns.Nodup) {k : List UInt8} {j : Nat} (hj : ns[j]? = some k) :
    ∀ i, j < i → i ≤ ns.length → crashN whole ns f i k = if j < whole.toNat then f k else if j = whole.toNat then some (halfV ((f k).getD nilS)) else none
  | 0, h, _ => by omega
  | i + 1, h, hi => by
    obtain ⟨hjl, rfl⟩ := List.getElem?_eq_some_iff.1 hj
    show crashStep whole (crashN whole ns f i) i (ns.getD i []) ns[j] = _
    have hg : ns.getD i [] = ns[i]'(by omega) := by rw [List.getD_eq_getElem?_getD, List.getElem?_eq_getElem (show i < ns.length by omega)]; rfl
    by_cases e : j = i
    · subst e
      rw [hg]
      have ha := crashN_at (whole := whole) (f := f) hn hjl
      unfold crashStep
      by_cases h1 : (j : Int) < whole
      · rw [if_pos h1, if_pos (show j < whole.toNat by omega)]; exact ha
      · rw [if_neg h1]
        by_cases h2 : (j : Int) = max whole 0
        · rw [if_pos h2, if_neg (show ¬ j < whole.toNat by omega), if_pos (show j = whole.toNat by omega)]
          unfold upd
          rw [if_pos rfl]
          rw [ha]
        · rw [if_neg h2, if_neg (show ¬ j < whole.toNat by omega), if_neg (show ¬ j = whole.toNat by omega)]
          unfold upd
          rw [if_pos rfl]
    · rw [crashStep_other, crashN_in hn hj i (by omega) (by omega)]
      rw [hg]
      intro e2
      rcases Nat.lt_or_ge j i with hlt | hge
      · exact List.pairwise_iff_getElem.1 hn j i hjl (by omega) hlt e2
      · omega
/-! remove -/
theorem cut_at {F : List FE} {k : Nat} (hk : k < F.length) : F = F.take k ++ F[k] :: F.drop (k + 1) := by
  rw [← List.drop_eq_getElem_cons hk, List.take_append_drop]
theorem without_filter {F : List FE} {k : Nat} (hk : k < F.length) (hn : (namesF F).Nodup) : F.take k ++ F.drop (k + 1) = F.filter (fun y => otherB (F[k]'hk).name y.name) := by
  have hc := cut_at hk
  have hn' : (namesF (F.take k ++ F[k] :: F.drop (k + 1))).Nodup := by rw [← hc]; exact hn
  unfold namesF at hn'
  rw [List.map_append, List.map_cons] at hn'
  generalize F[k] = x at *
  have hmid := List.nodup_append.1 hn'
  have hx := List.nodup_cons.1 hmid.2.1
  have e1 : (F.take k).filter (fun y => otherB x.name y.name) = F.take k := by
    rw [List.filter_eq_self]
    intro y hy
    unfold otherB
    rw [eqB_false, Bool.not_false]
    exact fun e => hmid.2.2 y.name (List.mem_map_of_mem hy) x.name (List.mem_cons_self ..) e
  have e2 : (F.drop (k + 1)).filter (fun y => otherB x.name y.name) = F.drop (k + 1) := by
    rw [List.filter_eq_self]
    intro y hy
    unfold otherB
    rw [eqB_false, Bool.not_false]
    exact fun e => hx.1 (e ▸ List.mem_map_of_mem hy)
  have e3 : F.filter (fun y => otherB x.name y.name) = (F.take k ++ x :: F.drop (k + 1)).filter (fun y => otherB x.name y.name) := congrArg _ hc
  rw [e3, List.filter_append, List.filter_cons, e1, e2]
  have e4 : otherB x.name x.name = false := by unfold otherB; rw [eqB_true.2 rfl]; rfl
  rw [e4]
  rfl
theorem loose_filter (F : List FE) (p : List UInt8 → Bool) : (looseF F).filter p = looseF (F.filter fun y => p y.name) := by
  induction F with
  | nil => rfl
  | cons x F ih =>
    rw [looseF_cons, List.filter_cons]
    split
    · rw [List.filter_cons, ih]
      split
      · rw [looseF_cons, if_pos (by assumption)]
      · rfl
    · rw [ih]
      split
      · rw [looseF_cons, if_neg (by assumption)]
      · rfl
theorem filter_other {ns : List (List UInt8)} {k : List UInt8} (h : k ∉ ns) : ns.filter (otherB k) = ns := by
  rw [List.filter_eq_self]
  intro y hy
  unfold otherB
  rw [eqB_false, Bool.not_false]
  exact fun e => h (e ▸ hy)
/-! names -/
theorem sortN_up {L : List (List UInt8)} (hn : L.Nodup) (i : Nat) (x y : List UInt8) (hy : (sortN L)[i]? = some y) (hx : (sortN L)[i + 1]? = some x) : notAbove x y := by
  obtain ⟨h1, rfl⟩ := List.getElem?_eq_some_iff.1 hy
  obtain ⟨h2, rfl⟩ := List.getElem?_eq_some_iff.1 hx
  have hs : (sortN L).Pairwise fun a b => leB a b = true := List.pairwise_mergeSort (le := leB) (fun a b c h1 h2 => by unfold leB at *; simp only [decide_eq_true_eq] at *; exact List.le_trans h1 h2) (fun a b => by unfold leB; simp only [Bool.or_eq_true, decide_eq_true_eq]; exact List.le_total ..) L
  have hd : (sortN L).Nodup := (List.mergeSort_perm L leB).nodup_iff.2 hn
  have hle := List.pairwise_iff_getElem.1 hs i (i + 1) h1 h2 (by omega)
  have hne := List.pairwise_iff_getElem.1 hd i (i + 1) h1 h2 (by omega)
  unfold notAbove
  rw [Bool.or_eq_false_iff]
  constructor
  · rw [bytesLess_eq]
    unfold leB at hle
    simp only [decide_eq_true_eq] at hle
    have e1 : ∀ l : List UInt8, (strB l).toList = l := fun l => ByteArray.toList_eq _
    rw [e1, e1]
    exact decide_eq_false (List.not_lt.2 hle)
  · exact str_ne (fun e => hne e.symm)
end Go.Proofs.YtcmpjdnbjhkhdaaDoor
