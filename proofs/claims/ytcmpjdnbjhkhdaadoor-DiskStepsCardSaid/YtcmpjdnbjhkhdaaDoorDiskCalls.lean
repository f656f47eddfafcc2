/-
  PROVED HERE: the contracts of the disk's functions, told by the law's list of files.
-/
import Derived.Test.YtcmpjdnbjhkhdaaDoorDiskRel
import Derived.Test.YtcmpjdnbjhkhdaaDoorTold
namespace Go.Proofs.YtcmpjdnbjhkhdaaDoor
set_option linter.unusedSimpArgs false
set_option linter.unusedVariables false
open Go.RowKit

variable {W0 w w' : World} {N N' : Nat → Prop} {A M n : Nat} {f : List UInt8 → Option Value} {lv : Value} {F : List FE}
/-- a disk that goes together with F. -/
def DHas (W0 w : World) (N : Nat → Prop) (A M n : Nat) (F : List FE) : Prop := ∃ m f lv, m ≤ n ∧ DRel W0 w N A M m f lv F
theorem DHas.keep {S : Nat → Prop} (h : DHas W0 w N A M n F) (k : Keeps S w w') (h0 : ∀ b, b < W0.heap.size → S b) (hN : ∀ b, N b → b < w.heap.size → S b) : DHas W0 w' N A M n F := let ⟨m, f, lv, hm, h⟩ := h; ⟨m, f, lv, hm, h.keep k h0 hN⟩
theorem DHas.later (h : DHas W0 w N A M n F) (k : Later w w') : DHas W0 w' N A M n F := let ⟨m, f, lv, hm, h⟩ := h; ⟨m, f, lv, hm, h.later k⟩
theorem DHas.renew (h : DHas W0 w N A M n F) (hN : ∀ b, N b → b < w.heap.size → N' b) : DHas W0 w N' A M n F := let ⟨m, f, lv, hm, h⟩ := h; ⟨m, f, lv, hm, h.renew hN⟩
theorem DHas.mono {n' : Nat} (h : DHas W0 w N A M n F) (hn : n ≤ n') : DHas W0 w N A M n' F := let ⟨m, f, lv, hm, h⟩ := h; ⟨m, f, lv, Nat.le_trans hm hn, h⟩
theorem DHas.nodup (h : DHas W0 w N A M n F) : (namesF F).Nodup := let ⟨_, _, _, _, h⟩ := h; h.nodup
theorem DHas.keep0 (h : DHas W0 w N A M n F) : Keeps (fun b => b < W0.heap.size) W0 w := let ⟨_, _, _, _, h⟩ := h; h.keep0
theorem new_step (W0 w : World) (k : Later W0 w) : Calls Tryd.prog 16 #[] w fun e w' => ∃ A M, e = .returned (.pointer (some ⟨A, 0, none⟩)) ∧ DHas W0 w' (fun _ => True) A M 0 [] ∧ Later w w' :=
  (disk_new w).mono fun e w' ⟨A, M, he, hd, hL⟩ => ⟨A, M, he, ⟨0, _, _, Nat.le_refl _, DRel.start ⟨hd.obj, hd.map, OwnS.nil _ _, Nat.le_trans k.size hd.geA, Nat.le_trans k.size hd.geM, hd.ne, hd.lvA, hd.lvM⟩ (Later.trans _ _ _ k hL) trivial trivial⟩, hL⟩
theorem loose_step (h : DHas W0 w N A M n F) : Calls Tryd.prog 25 #[.pointer (some ⟨A, 0, none⟩)] w fun e w' => e = .returned (.int .i64 (looseF F).length) ∧ w' = w := by
  obtain ⟨m, f, lv, hm, h⟩ := h
  exact disk_loose h.disk
theorem names_step (h : DHas W0 w N A M n F) (hb : F.length * 16 ≤ 140737488355328) : Calls Tryd.prog 26 #[.pointer (some ⟨A, 0, none⟩)] w (DNamesTo w (namesF F)) := by
  obtain ⟨m, f, lv, hm, h⟩ := h
  exact disk_names h.disk h.nodup (fun x => (h.has x).symm) (by unfold namesF; rw [List.length_map]; exact hb)
def hasF (F : List FE) (k : List UInt8) : Bool := decide (k ∈ namesF F)
/-- what of the heap a step of the disk leaves: what is neither it nor of it. -/
def Outer (N : Nat → Prop) (w w' : World) : Prop := ∀ S : Nat → Prop, (∀ b, S b → b < w.heap.size → ¬ N b) → Keeps S w w'
theorem outer_of {lv : Value} (hA : N A) (hM : N M) (hl : ∀ g, lv.ownBlock = some g → N g) (hk : Keeps (fun b => b ≠ A ∧ b ≠ M ∧ some b ≠ lv.ownBlock) w w') : Outer N w w' := fun S hS =>
  hk.mono fun b hlt hb => ⟨fun e => hS b hb hlt (e ▸ hA), fun e => hS b hb hlt (e ▸ hM), fun e => hS b hb hlt (hl b e.symm)⟩
theorem sync_step (h : DHas W0 w N A M n F) : Calls Tryd.prog 19 #[.pointer (some ⟨A, 0, none⟩)] w fun e w' => e = .returned (.tuple #[]) ∧ DHas W0 w' N A M n (F.map stay) ∧ Outer N w w' := by
  obtain ⟨m, f, lv, hm, h⟩ := h
  refine (disk_sync h.disk).mono ?_
  rintro e w1 ⟨rfl, hd, hk⟩
  exact ⟨rfl, ⟨m, f, nilS, hm, h.sync hd hk⟩, outer_of h.nA h.nM (lv := nilS) (fun g hg => by cases hg) (hk.mono fun b _ hb => hb.1)⟩
def WriteTo (W0 : World) (N N' : Nat → Prop) (A M n : Nat) (F : List FE) (x : FE) (w : World) (e : Ending) (w' : World) : Prop :=
  e = .returned (errVal (if hasF F x.name = true then 6 else 0)) ∧ DHas W0 w' N' A M (n + 1) (if hasF F x.name = true then F else F ++ [x]) ∧ Outer N w w'
theorem write_step (h : DHas W0 w N A M n F) (x : FE) (hx : x.loose = true) (hk : x.name.length ≤ maxLen) (v : Value) (hv : IsBytes w v x.data) (hl : x.data.length ≤ 140737488355328) (hn : n < maxLen) (hns : (F.length + 1) * 16 ≤ 140737488355328)
    (hN : ∀ b, N b → b < w.heap.size → N' b) (hN2 : ∀ b, w.heap.size ≤ b → N' b) :
    Calls Tryd.prog 18 #[.pointer (some ⟨A, 0, none⟩), .string (strB x.name), v] w (WriteTo W0 N N' A M n F x w) := by
  obtain ⟨m, f, lv, hm, h⟩ := h
  by_cases hin : x.name ∈ namesF F
  · refine (disk_write_no h.disk x.name hk ((h.has _).2 hin) v).mono ?_
    rintro e w1 ⟨rfl, rfl⟩
    have e1 : hasF F x.name = true := decide_eq_true hin
    unfold WriteTo
    rw [e1]
    exact ⟨rfl, ⟨m, f, lv, by omega, h.renew hN⟩, fun S _ => Keeps.refl _ _⟩
  · refine (disk_write_new h.disk x.name hk (h.hasNot hin) v x.data hv hl (by omega) (by have := loose_len F; omega)).mono ?_
    rintro e w1 ⟨rfl, u, lv', hd, hu, hkp, hlv⟩
    have e1 : hasF F x.name = false := decide_eq_false hin
    unfold WriteTo
    rw [e1]
    exact ⟨rfl, ⟨m + 1, _, lv', by omega, h.write x hx hin hd hu hkp hlv hN (fun b hb _ => hN2 b hb)⟩, outer_of h.nA h.nM h.nl hkp⟩
theorem crash_step (h : DHas W0 w N A M n F) (hg : AllGood W0 F) (hn : n + 1 < maxLen) (whole : Int) :
    Calls Tryd.prog 20 #[.pointer (some ⟨A, 0, none⟩), .int .i64 whole] w fun e w' => e = .returned (.tuple #[]) ∧ DHas W0 w' N A M (n + 1) (crashF whole.toNat 0 F) ∧ Outer N w w' := by
  obtain ⟨m, f, lv, hm, h⟩ := h
  refine (disk_crash h.disk (loose_nodup h.nodup) hg.names h.slices (by omega) whole).mono ?_
  rintro e w1 ⟨rfl, hd, hk⟩
  exact ⟨rfl, ⟨m + 1, _, nilS, by omega, h.crash whole hd hk⟩, outer_of h.nA h.nM (lv := nilS) (fun g hg => by cases hg) (hk.mono fun b _ hb => ⟨hb.1, hb.2.1⟩)⟩
theorem read_step (h : DHas W0 w N A M n F) (hg : AllGood W0 F) (k : List UInt8) (hk : k.length ≤ maxLen) (o : Option (List UInt8)) (ho : match o with | none => k ∉ namesF F | some l => ∃ x ∈ F, x.name = k ∧ x.data = l) :
    Calls Tryd.prog 22 #[.pointer (some ⟨A, 0, none⟩), .string (strB k)] w (DReadTo w o) := by
  obtain ⟨m, f, lv, hm, h⟩ := h
  cases o with
  | none =>
    have e := h.none k ho
    refine disk_read h.disk k hk none (by rw [e]; rfl) ?_ (Nat.zero_le _)
    rw [e]
    exact ⟨none, 0, rfl, Nat.le_refl _, Nat.zero_le _, fun _ => rfl, fun i hi => by cases hi⟩
  | some l =>
    obtain ⟨x, hx, rfl, rfl⟩ := ho
    obtain ⟨u, hu, hb⟩ := h.some x hx
    refine disk_read h.disk x.name hk (some x.data) (by rw [hu]; rfl) ?_ (hg x hx).data
    rw [hu]
    exact hb.all
theorem remove_step (h : DHas W0 w N A M n F) (k : List UInt8) (hk : k.length ≤ maxLen) :
    Calls Tryd.prog 23 #[.pointer (some ⟨A, 0, none⟩), .string (strB k)] w fun e w' => e = .returned (.bool (hasF F k)) ∧ DHas W0 w' N A M n (F.filter fun y => otherB k y.name) ∧ Outer N w w' := by
  obtain ⟨m, f, lv, hm, h⟩ := h
  refine (disk_remove h.disk k hk).mono ?_
  rintro e w1 ⟨rfl, lv', hd, hkp, hl⟩
  refine ⟨?_, ⟨m, _, lv', hm, h.remove k hd hkp hl⟩, outer_of h.nA h.nM h.nl hkp⟩
  by_cases hin : k ∈ namesF F
  · rw [(h.has k).2 hin]; unfold hasF; rw [decide_eq_true hin]
  · rw [h.hasNot hin]; unfold hasF; rw [decide_eq_false hin]
end Go.Proofs.YtcmpjdnbjhkhdaaDoor
