/-
  PROVED HERE: expr's caught: what it answers of a function that returns, and of one that panics with a fault.
-/
import Derived.Test.YtgajofkeidjbgaaGreatDoorGParUn2
import Derived.Defers
import Derived.Recover
import Derived.Deep.RegionHeld
import Derived.Laws.Pointers
namespace Go.Proofs.YtgajofkeidjbgaaGreatDoor
set_option linter.unusedSimpArgs false
set_option linter.unusedVariables false
open Go.RowKit

def errV (c : Int) : Value := .iface 29 (.int .i64 c)
theorem assert_fault (c p : Int) (w : World) : (Instr.typeAssert (.iface 93 (.agg #[.int .i64 c, .int .i64 p])) 20 93 true).run Tryz.prog w = .ok (.tuple #[.agg #[.int .i64 c, .int .i64 p], .bool true]) w := by kernel_rfl
theorem assert_none (w : World) : (Instr.typeAssert .nilIface 20 93 true).run Tryz.prog w = .ok (.tuple #[.agg #[.int .i64 0, .int .i64 0], .bool false]) w := by kernel_rfl
attribute [local go_sem high] assert_fault assert_none
set_option maxRecDepth 100000 in
set_option maxHeartbeats 1000000 in
theorem caught1_panicking (A B : Nat) (x : Int) (y : Value) (c : Int) (p : Nat) (w : World) (hA : w.heap[A]? = some (.cells #[.int .i64 x] 3 (0, 0))) (hB : w.heap[B]? = some (.cells #[y] 23 (0, 0))) (hAB : A ≠ B) :
    CallsD Tryz.prog 36 #[.pointer (some ⟨A, 0, none⟩), .pointer (some ⟨B, 0, none⟩)] (.panicking [{ v := faultV c p, recovered := false }]) w fun e u' w' =>
      e = .returned (.tuple #[]) ∧ u' = .panicking [{ v := faultV c p, recovered := true }] ∧ Keeps (fun b => b ≠ A ∧ b ≠ B) w w' ∧ w'.heap[A]? = some (.cells #[.int .i64 (p : Int)] 3 (0, 0)) ∧ w'.heap[B]? = some (.cells #[errV c] 23 (0, 0)) := by
  refine callsD_of_wpS Tryz.func36 rfl fun c₀ cs hu => ?_
  apply wpS_seq
  apply wpS_region
  simp [wpOpsS, go_sem, recoverD, hu, Tryz.ntmps36, Exit.thenS]
  have hfr : ∀ v : Value, (#[.pointer (some ⟨A, 0, none⟩), .pointer (some ⟨B, 0, none⟩)] ++ (((Array.replicate 18 undef).setIfInBounds 3 v).setIfInBounds 0 v) : Array Value) = #[.pointer (some ⟨A, 0, none⟩), .pointer (some ⟨B, 0, none⟩), v, undef, undef, v, undef, undef, undef, undef, undef, undef, undef, undef, undef, undef, undef, undef, undef, undef] := fun v => by simp [Array.replicate, List.replicate]
  rw [hfr]
  clear hfr
  refine wpS_of_wp ?_
  unfold faultV
  have ha0 := cell_obj (i := 0) hA rfl
  have hb0 := cell_obj (i := 0) hB rfl
  have za := free_obj (i := 0) hA
  have zb := free_obj (i := 0) hB
  have hla := cell_lt ha0
  have hlb := cell_lt hb0
  go_wp2_with fail
  obtain ⟨w1, hw1⟩ : ∃ w1, w1 = w.alloc (.cells #[.int .i64 c, .int .i64 (p : Int)] 93 (0, 0)) := ⟨_, rfl⟩
  obtain ⟨F, hF⟩ : ∃ F, F = w.heap.size := ⟨_, rfl⟩
  have hL : Later w w1 := hw1 ▸ Later.alloc _ _
  have hF1 : w1.heap[F]? = some (.cells #[.int .i64 c, .int .i64 (p : Int)] 93 (0, 0)) := by rw [hw1, hF]; exact obj_new _ _
  have hFA : F ≠ A := by rw [hF]; omega
  have hFB : F ≠ B := by rw [hF]; omega
  rw [← hw1, ← hF]
  clear hw1 hF ha0 hb0 za zb
  have HA := hid (hL.obj hA); have HB := hid (hL.obj hB); have HL := hid hL; have HFA := hid hFA; have HFB := hid hFB; have HAB := hid hAB
  clear hL hA hB hFA hFB hAB hla hlb
  refine wp_region_held_drew (S := fun w => w.cell? ⟨F, 0, none⟩ = some (.int .i64 c) ∧ w.cell? ⟨F, 1, none⟩ = some (.int .i64 (p : Int))) (by kernel_rfl) ⟨(Later.drew w1).cell (cell_obj (i := 0) hF1 rfl), (Later.drew w1).cell (cell_obj (i := 1) hF1 rfl)⟩ (fun hS => ?_)
  refine wpAnyH_take (i := 0) (v := .pointer (some ⟨F, 1, none⟩)) rfl (by kernel_rfl) (by kernel_rfl) (by kernel_rfl) (fun _ _ _ h => h) (Or.inl ⟨by rfl, ?_⟩) hS ?_
  · intro w hS
    go_simp
  refine wpAnyH_take (i := 1) (v := .int .i64 (p : Int)) rfl (by kernel_rfl) (by kernel_rfl) (by kernel_rfl) (fun _ _ _ h => h) (Or.inl ⟨by rfl, ?_⟩) hS ?_
  · intro w hS
    obtain ⟨h0, h1⟩ := hS
    go_simp
  refine wpAnyH_take (i := 2) (v := .pointer (some ⟨F, 0, none⟩)) rfl (by kernel_rfl) (by kernel_rfl) (by kernel_rfl) (fun _ _ _ h => h) (Or.inl ⟨by rfl, ?_⟩) hS ?_
  · intro w hS
    go_simp
  refine wpAnyH_take (i := 3) (v := .int .i64 c) rfl (by kernel_rfl) (by kernel_rfl) (by kernel_rfl) (fun _ _ _ h => h) (Or.inl ⟨by rfl, ?_⟩) hS ?_
  · intro w hS
    obtain ⟨h0, h1⟩ := hS
    go_simp
  refine wpAnyH_take (i := 4) (v := errV c) rfl (by kernel_rfl) (by kernel_rfl) (by kernel_rfl) (fun _ _ _ h => h) (Or.inl ⟨by rfl, ?_⟩) hS ?_
  · intro w hS
    unfold errV
    go_simp
  try simp only [Act.put, List.setIfInBounds_toArray, List.set]
  refine wpAnyH_ready (rs := [5]) (by kernel_rfl) (by simp) (AllReadyH.cons rfl (fun K hK => ?_) AllReadyH.nil)
  have za := free_obj (i := 0) ((Later.drew w1).obj HA.out)
  have ha0 := cell_obj (i := 0) ((Later.drew w1).obj HA.out) rfl
  go_simp
  have hk : Keeps (fun b => b ≠ A) w1 (w1.setCell ⟨A, 0, none⟩ (.int .i64 (p : Int))).drew := ((Keeps.refl _ w1).setCell (p := ⟨A, 0, none⟩) (.inl fun h => h rfl) _).trans ((Later.drew _).keeps _)
  have HA2 : Hid ((w1.setCell ⟨A, 0, none⟩ (.int .i64 (p : Int))).drew.heap[A]? = some (.cells #[.int .i64 (p : Int)] 3 (0, 0))) := hid ((Later.drew _).obj (obj_setCell (i := 0) HA.out _))
  have HB2 := hid (hk.obj (Ne.symm HAB.out) HB.out)
  have hF2 := hk.obj HFA.out hF1
  have HK2 := hid hk
  obtain ⟨w2, hw2⟩ : ∃ w2, w2 = (w1.setCell ⟨A, 0, none⟩ (.int .i64 (p : Int))).drew := ⟨_, rfl⟩
  rw [← hw2] at HA2 HB2 hF2 HK2 ⊢
  clear hw2 hk za ha0 hS hF1
  refine hK.out _ _ ⟨cell_obj (i := 0) hF2 rfl, cell_obj (i := 1) hF2 rfl⟩ (fun hS => ?_)
  clear hK K
  try simp only [Act.put, List.setIfInBounds_toArray, List.set]
  refine wpAnyH_ready (rs := [6]) (by kernel_rfl) (by simp) (AllReadyH.cons rfl (fun K hK => ?_) AllReadyH.nil)
  have zb := free_obj (i := 0) HB2.out
  have hb0 := cell_obj (i := 0) HB2.out rfl
  unfold errV
  go_simp
  have hk : Keeps (fun b => b ≠ B) w2 (w2.setCell ⟨B, 0, none⟩ (.iface 29 (.int .i64 c))) := (Keeps.refl _ w2).setCell (p := ⟨B, 0, none⟩) (.inl fun h => h rfl) _
  have HA3 := hid (hk.obj HAB.out HA2.out)
  have HB3 := hid (obj_setCell (i := 0) HB2.out (.iface 29 (.int .i64 c)))
  have hF3 := hk.obj HFB.out hF2
  have HK3 := hid hk
  refine hK.out _ _ ⟨cell_obj (i := 0) hF3 rfl, cell_obj (i := 1) hF3 rfl⟩ (fun hS => ?_)
  clear hK K hk hS zb hb0 hF2 hF3
  refine wpAnyH_done (by kernel_rfl) ?_ _
  go_wp2_with fail
  have hkk : Keeps (fun b => ¬ b = A ∧ ¬ b = B) w (w2.setCell ⟨B, 0, none⟩ (.iface 29 (.int .i64 c))) := ((HL.out.keeps _).trans (HK2.out.mono fun b _ h => h.1)).trans (HK3.out.mono fun b _ h => h.2)
  have hA3 := HA3.out
  have hB3 := HB3.out
  simp [bodyPostS, results, Tryz.results36, go_sem, errV]
  exact ⟨hkk, hA3, hB3⟩
set_option maxRecDepth 100000 in
theorem caught1_idle (A B : Nat) (w : World) :
    CallsD Tryz.prog 36 #[.pointer (some ⟨A, 0, none⟩), .pointer (some ⟨B, 0, none⟩)] .returning w fun e u' w' => e = .returned (.tuple #[]) ∧ u' = .returning ∧ Later w w' := by
  refine callsD_of_wpS Tryz.func36 rfl fun c₀ cs hu => ?_
  apply wpS_seq
  apply wpS_region
  simp [wpOpsS, go_sem, recoverD, hu, Tryz.ntmps36, Exit.thenS]
  have hfr : ∀ v : Value, (#[.pointer (some ⟨A, 0, none⟩), .pointer (some ⟨B, 0, none⟩)] ++ (((Array.replicate 18 undef).setIfInBounds 3 v).setIfInBounds 0 v) : Array Value) = #[.pointer (some ⟨A, 0, none⟩), .pointer (some ⟨B, 0, none⟩), v, undef, undef, v, undef, undef, undef, undef, undef, undef, undef, undef, undef, undef, undef, undef, undef, undef] := fun v => by simp [Array.replicate, List.replicate]
  rw [hfr]
  clear hfr
  refine wpS_of_wp ?_
  go_wp2_with fail
  have hL := Later.alloc w (.cells #[.int .i64 0, .int .i64 0] 93 (0, 0))
  cases c₀
  simp_all [bodyPostS, results, Tryz.results36]
/-- what caught answers. -/
def CaughtTo (w : World) (G : World → Prop) (Bd : Int → Nat → World → Prop) (e : Ending) (w' : World) : Prop :=
  ∃ w2, Keeps (fun b => b ≠ w.heap.size ∧ b ≠ w.heap.size + 1) w2 w' ∧ ((e = .returned (.tuple #[.int .i64 0, .nilIface]) ∧ G w2) ∨ ∃ c p, e = .returned (.tuple #[.int .i64 ((p : Nat) : Int), errV c]) ∧ Bd c p w2)
set_option maxRecDepth 100000 in
set_option maxHeartbeats 1000000 in
theorem caught_any (F : FuncId) (hent : ∀ args w, (callFunc F args).run Tryz.prog w = .ok (.enter F args) w) (caps : Array Value) (w : World) (G : World → Prop) (Bd : Int → Nat → World → Prop)
    (hdo : ∀ w1, Later w w1 → w1.heap.size = w.heap.size + 2 → Calls Tryz.prog F caps w1 (fun e w2 => Keeps (fun b => b = w.heap.size ∨ b = w.heap.size + 1) w1 w2 ∧ ((e = .returned (.tuple #[]) ∧ G w2) ∨ ∃ c p, Fails c p e ∧ Bd c p w2))) :
    Calls Tryz.prog 17 #[.func (.func F) #[] caps] w (CaughtTo w G Bd) := by
  have hmf : ∀ (fn : Fn) (first cap : Array Value) (w : World), (Instr.makeFunc fn first cap).run Tryz.prog w = .ok (.func fn first cap) w := fun _ _ _ _ => rfl
  have HDO := hid hdo
  clear hdo
  go_enter_defers Tryz.func17, Tryz.ntmps17
  go_wp2_with fail
  obtain ⟨w1, hw1⟩ : ∃ w1, w1 = (w.alloc (.cells #[.int .i64 0] 3)).alloc (.cells #[.nilIface] 23) := ⟨_, rfl⟩
  have hA : w1.heap[w.heap.size]? = some (.cells #[.int .i64 0] 3 (0, 0)) := by rw [hw1]; exact (Later.alloc _ _).obj (obj_new w _)
  have hB : w1.heap[w.heap.size + 1]? = some (.cells #[.nilIface] 23 (0, 0)) := by rw [hw1]; exact obj_at (by simp)
  have hL : Later w w1 := by rw [hw1]; exact (Later.alloc w _).alloc' _
  have hS : w1.heap.size = w.heap.size + 2 := by rw [hw1]; simp
  rw [← hw1]
  clear hw1
  refine (HDO.out w1 hL hS).mono ?_
  rintro e w2 ⟨hk, hc⟩
  have HA2 := hid (hk.obj (.inl rfl) hA)
  have HB2 := hid (hk.obj (.inr rfl) hB)
  clear hk hA hB hL hS HDO
  rcases hc with ⟨rfl, hG⟩ | ⟨c, p, hf, hBd⟩
  · have HG := hid hG
    have za := free_obj (i := 0) HA2.out
    have zb := free_obj (i := 0) HB2.out
    have a0 := cell_obj (i := 0) HA2.out rfl
    have b0 := cell_obj (i := 0) HB2.out rfl
    clear hG
    go_wp2_with fail
    have hkA : Keeps (fun b => b ≠ w.heap.size) w2 (w2.setCell ⟨w.heap.size, 0, none⟩ (.int .i64 0)) := (Keeps.refl _ w2).setCell (p := ⟨w.heap.size, 0, none⟩) (.inl fun h => h rfl) _
    have hkB : Keeps (fun b => b ≠ w.heap.size + 1) (w2.setCell ⟨w.heap.size, 0, none⟩ (.int .i64 0)) ((w2.setCell ⟨w.heap.size, 0, none⟩ (.int .i64 0)).setCell ⟨w.heap.size + 1, 0, none⟩ .nilIface) := (Keeps.refl _ _).setCell (p := ⟨w.heap.size + 1, 0, none⟩) (.inl fun h => h rfl) _
    have hA3 := hkB.obj (by omega) (obj_setCell (i := 0) HA2.out (.int .i64 0))
    have hB3 := obj_setCell (i := 0) (hkA.obj (by omega) HB2.out) .nilIface
    have HK3 := hid ((hkA.mono (S' := fun b => b ≠ w.heap.size ∧ b ≠ w.heap.size + 1) fun b _ h => h.1).trans (hkB.mono fun b _ h => h.2))
    refine leaves_cons (f := 36) (args := #[.pointer (some ⟨w.heap.size, 0, none⟩), .pointer (some ⟨w.heap.size + 1, 0, none⟩)]) (by simp) (by simp [go_sem]) ?_
    refine (caught1_idle w.heap.size (w.heap.size + 1) _).mono ?_
    rintro e u' w3 ⟨rfl, rfl, hL3⟩
    have ya := cell_obj (i := 0) (hL3.obj hA3) rfl
    have yb := cell_obj (i := 0) (hL3.obj hB3) rfl
    have HC : Hid (CaughtTo w G Bd (.returned (.tuple #[.int .i64 0, .nilIface])) w3) := hid ⟨w2, HK3.out.trans (hL3.keeps _), .inl ⟨rfl, HG.out⟩⟩
    simp [Leaves, settle, results, Tryz.results17, go_sem, ya, yb]
    exact HC.out
  · unfold Fails at hf
    subst hf
    have HBD := hid hBd
    clear hBd
    refine leaves_cons (f := 36) (args := #[.pointer (some ⟨w.heap.size, 0, none⟩), .pointer (some ⟨w.heap.size + 1, 0, none⟩)]) (by simp) (by simp [go_sem]) ?_
    refine (caught1_panicking w.heap.size (w.heap.size + 1) 0 .nilIface c p w2 HA2.out HB2.out (by omega)).mono ?_
    rintro e u' w3 ⟨rfl, rfl, hk3, hA3, hB3⟩
    have ya := cell_obj (i := 0) hA3 rfl
    have yb := cell_obj (i := 0) hB3 rfl
    have HC : Hid (CaughtTo w G Bd (.returned (.tuple #[.int .i64 (p : Int), errV c])) w3) := hid ⟨w2, hk3, .inr ⟨c, p, rfl, HBD.out⟩⟩
    simp [Leaves, settle, results, Tryz.results17, go_sem, ya, yb]
    exact HC.out
end Go.Proofs.YtgajofkeidjbgaaGreatDoor
