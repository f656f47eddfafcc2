/-
  PROVED HERE: the contracts of agg.Valid, agg.choose, agg.made, agg.New.
-/
import Derived.Test.YtcmpjdnbjhkhdaaDoorAggCh
import Derived.Test.YtcmpjdnbjhkhdaaDoorAggSet
namespace Go.Proofs.YtcmpjdnbjhkhdaaDoor
set_option linter.unusedSimpArgs false
set_option linter.unusedVariables false
open Go.RowKit

/-- the way 'kind' of taking together: what stands behind the interface, in blocks from 'B' on, after the values 'l'. -/
def AccAt (kind : Int) (B : Nat) (w : World) (v : Value) (l : List TV) : Prop :=
  (kind = 1 ∧ ∃ A, B ≤ A ∧ v = .iface 157 (.pointer (some ⟨A, 0, none⟩)) ∧ CntAt w A (wrap64 l.length)) ∨
  (kind = 2 ∧ ∃ A, B ≤ A ∧ v = .iface 160 (.pointer (some ⟨A, 0, none⟩)) ∧ SumAt w A (l.foldl sumP (0, 0))) ∨
  (kind = 7 ∧ ∃ A u, B ≤ A ∧ v = .iface 165 (.pointer (some ⟨A, 0, none⟩)) ∧ SetAt w A B u (setOf l)) ∨
  (∃ sg, (kind = 3 ∧ sg = 1 ∨ kind = 4 ∧ sg = -1) ∧ ∃ A Bo Bs, (B ≤ A ∧ B ≤ Bo ∧ B ≤ Bs) ∧ v = .iface 202 (.pointer (some ⟨A, 0, none⟩)) ∧ ChAt 82 sg w A Bo Bs (l.foldl (chooseP (beforeP kind)) nilTV)) ∨
  (∃ sg, (kind = 5 ∧ sg = 1 ∨ kind = 6 ∧ sg = -1) ∧ ∃ A Bo Bs, (B ≤ A ∧ B ≤ Bo ∧ B ≤ Bs) ∧ v = .iface 202 (.pointer (some ⟨A, 0, none⟩)) ∧ ChAt 83 sg w A Bo Bs (l.foldl (chooseP (beforeP kind)) nilTV))
theorem AccAt.later {kind : Int} {B : Nat} {w w' : World} {v : Value} {l : List TV} (h : AccAt kind B w v l) (k : Later w w') : AccAt kind B w' v l := by
  rcases h with ⟨h0, A, h1, h2, h3⟩ | ⟨h0, A, h1, h2, h3⟩ | ⟨h0, A, u, h1, h2, h3⟩ | ⟨sg, h0, A, Bo, Bs, h1, h2, h3⟩ | ⟨sg, h0, A, Bo, Bs, h1, h2, h3⟩
  · exact .inl ⟨h0, A, h1, h2, k.obj h3⟩
  · exact .inr (.inl ⟨h0, A, h1, h2, k.obj h3⟩)
  · exact .inr (.inr (.inl ⟨h0, A, u, h1, h2, h3.later k⟩))
  · exact .inr (.inr (.inr (.inl ⟨sg, h0, A, Bo, Bs, h1, h2, h3.later k⟩)))
  · exact .inr (.inr (.inr (.inr ⟨sg, h0, A, Bo, Bs, h1, h2, h3.later k⟩)))
theorem aggvalid_any (kind : Int) (w : World) : Calls Tryd.prog 76 #[.int .i64 kind] w fun e w' => e = .returned (.bool (decide (1 ≤ kind ∧ kind ≤ 7))) ∧ w = w' := by
  by_cases h1 : 1 ≤ kind
  · by_cases h2 : kind ≤ 7
    · have H := hid (show decide (1 ≤ kind ∧ kind ≤ 7) = true from decide_eq_true ⟨h1, h2⟩)
      go_enter Tryd.func76, Tryd.ntmps76
      go_wp2_with fail
      go_ret
      exact ⟨ret_bool H.out.symm, rfl⟩
    · have H := hid (show decide (1 ≤ kind ∧ kind ≤ 7) = false from decide_eq_false fun h => h2 h.2)
      go_enter Tryd.func76, Tryd.ntmps76
      go_wp2_with fail
      go_ret
      exact ⟨ret_bool (by simp; omega), rfl⟩
  · have H := hid (show decide (1 ≤ kind ∧ kind ≤ 7) = false from decide_eq_false fun h => h1 h.1)
    go_enter Tryd.func76, Tryd.ntmps76
    go_wp2_with fail
    go_ret
    exact ⟨ret_bool (by simp; omega), rfl⟩
def ChTo (fo : Nat) (sg : Int) (w : World) (e : Ending) (w' : World) : Prop :=
  ∃ A Bo Bs, (w.heap.size ≤ A ∧ w.heap.size ≤ Bo ∧ w.heap.size ≤ Bs) ∧ e = .returned (.iface 202 (.pointer (some ⟨A, 0, none⟩))) ∧ ChAt fo sg w' A Bo Bs nilTV ∧ Later w w'
theorem choose_any (fo : Nat) (sg : Int) (w : World) : Calls Tryd.prog 81 #[.func (.func fo) #[] #[], .int .i64 sg] w (ChTo fo sg w) := by
  go_enter Tryd.func81, Tryd.ntmps81
  go_wp2_with fail
  go_ret
  have k1 := Later.alloc w (.cells #[.func (.func fo) #[] #[]] 164 (0, 0))
  have k2 := Later.alloc (w.alloc (.cells #[.func (.func fo) #[] #[]] 164 (0, 0))) (.cells #[.int .i64 sg] 3 (0, 0))
  refine ⟨w.heap.size + 1 + 1, w.heap.size, w.heap.size + 1, ⟨by omega, Nat.le_refl _, by omega⟩, rfl, ⟨?_, ?_, ?_, by omega⟩, Later.trans _ _ _ k1 (Later.trans _ _ _ k2 (Later.alloc _ _))⟩
  · refine obj_at ?_
    simp only [World.size_alloc]
  · exact (Later.alloc _ _).cell (k2.cell (cell_obj (i := 0) (obj_new _ _) rfl))
  · exact (Later.alloc _ _).cell (cell_obj (i := 0) (obj_at (by simp only [World.size_alloc])) rfl)
def MadeTo (kind : Int) (w : World) (e : Ending) (w' : World) : Prop := ∃ v, e = .returned v ∧ AccAt kind w.heap.size w' v [] ∧ Later w w'
set_option maxRecDepth 100000 in
theorem made_any (kind : Int) (h1 : 1 ≤ kind) (h7 : kind ≤ 7) (w : World) : Calls Tryd.prog 50 #[.int .i64 kind] w (MadeTo kind w) := by
  obtain rfl | rfl | rfl | rfl | rfl | rfl | rfl : kind = 1 ∨ kind = 2 ∨ kind = 3 ∨ kind = 4 ∨ kind = 5 ∨ kind = 6 ∨ kind = 7 := by omega
  · skip
    go_enter Tryd.func50, Tryd.ntmps50
    go_wp2_with fail
    go_ret
    exact ⟨_, rfl, .inl ⟨rfl, w.heap.size, Nat.le_refl _, rfl, by rw [show wrap64 (([] : List TV).length : Int) = 0 by unfold wrap64; simp]; exact obj_new w (.cells #[.int .i64 0] 159 (0, 0))⟩, Later.alloc _ _⟩
  · skip
    go_enter Tryd.func50, Tryd.ntmps50
    go_wp2_with fail
    go_ret
    exact ⟨_, rfl, .inr (.inl ⟨rfl, w.heap.size, Nat.le_refl _, rfl, obj_new w (.cells #[.int .i64 0, .int .i64 0] 162 (0, 0))⟩), Later.alloc _ _⟩
  · skip
    go_enter Tryd.func50, Tryd.ntmps50
    go_wp2_with fail
    refine (choose_any _ 1 w).mono ?_
    rintro e w' ⟨A, Bo, Bs, hb, rfl, hc, hL⟩
    go_wp2_with fail
    go_ret
    exact ⟨_, rfl, .inr (.inr (.inr (.inl ⟨1, .inl ⟨rfl, rfl⟩, A, Bo, Bs, hb, rfl, hc⟩))), hL⟩
  · skip
    go_enter Tryd.func50, Tryd.ntmps50
    go_wp2_with fail
    refine (choose_any _ (-1) w).mono ?_
    rintro e w' ⟨A, Bo, Bs, hb, rfl, hc, hL⟩
    go_wp2_with fail
    go_ret
    exact ⟨_, rfl, .inr (.inr (.inr (.inl ⟨-1, .inr ⟨rfl, rfl⟩, A, Bo, Bs, hb, rfl, hc⟩))), hL⟩
  · skip
    go_enter Tryd.func50, Tryd.ntmps50
    go_wp2_with fail
    refine (choose_any _ 1 w).mono ?_
    rintro e w' ⟨A, Bo, Bs, hb, rfl, hc, hL⟩
    go_wp2_with fail
    go_ret
    exact ⟨_, rfl, .inr (.inr (.inr (.inr ⟨1, .inl ⟨rfl, rfl⟩, A, Bo, Bs, hb, rfl, hc⟩))), hL⟩
  · skip
    go_enter Tryd.func50, Tryd.ntmps50
    go_wp2_with fail
    refine (choose_any _ (-1) w).mono ?_
    rintro e w' ⟨A, Bo, Bs, hb, rfl, hc, hL⟩
    go_wp2_with fail
    go_ret
    exact ⟨_, rfl, .inr (.inr (.inr (.inr ⟨-1, .inr ⟨rfl, rfl⟩, A, Bo, Bs, hb, rfl, hc⟩))), hL⟩
  · skip
    go_enter Tryd.func50, Tryd.ntmps50
    go_wp2_with fail
    go_ret
    exact ⟨_, rfl, .inr (.inr (.inl ⟨rfl, w.heap.size, .slice none 0 0, Nat.le_refl _, rfl, obj_new _ _, ⟨rfl, .inl ⟨rfl, rfl⟩⟩, fun h => by cases h⟩)), Later.alloc _ _⟩
def NewTo (kind : Int) (w : World) (e : Ending) (w' : World) : Prop := ∃ v, e = .returned (.tuple #[v, .nilIface]) ∧ AccAt kind w.heap.size w' v [] ∧ Later w w'
def rangeE : Value := .iface 30 (.int .i64 4)
theorem AccAt.iface {kind : Int} {B : Nat} {w : World} {v : Value} {l : List TV} (h : AccAt kind B w v l) : ∃ T A, v = .iface T (.pointer (some ⟨A, 0, none⟩)) := by
  rcases h with ⟨h0, A, h1, h2, h3⟩ | ⟨h0, A, h1, h2, h3⟩ | ⟨h0, A, u, h1, h2, h3⟩ | ⟨sg, h0, A, Bo, Bs, h1, h2, h3⟩ | ⟨sg, h0, A, Bo, Bs, h1, h2, h3⟩ <;> exact ⟨_, A, h2⟩
theorem new_any (kind : Int) (h1 : 1 ≤ kind) (h7 : kind ≤ 7) (w : World) : Calls Tryd.prog 45 #[.int .i64 kind] w (NewTo kind w) := by
  have H := hid (show decide (1 ≤ kind ∧ kind ≤ 7) = true from decide_eq_true ⟨h1, h7⟩)
  have H1 := hid h1; have H7 := hid h7
  clear h1 h7
  go_enter Tryd.func45, Tryd.ntmps45
  go_wp2_with fail
  refine (aggvalid_any kind w).mono ?_
  rintro e w' ⟨rfl, rfl⟩
  rw [H.out]
  go_wp2_with fail
  refine (made_any kind H1.out H7.out w).mono ?_
  rintro e w' ⟨v, rfl, ha, hL⟩
  obtain ⟨T, A, rfl⟩ := ha.iface
  go_wp2_with fail
  refine bodyPost_ret (v := .tuple #[.iface T (.pointer (some ⟨A, 0, none⟩)), .nilIface]) (by simp [results, Tryd.results45, go_sem] <;> rfl) rfl ⟨_, rfl, ha, hL⟩
theorem new_bad (kind : Int) (h1 : ¬ (1 ≤ kind ∧ kind ≤ 7)) (w : World) : Calls Tryd.prog 45 #[.int .i64 kind] w fun e w' => e = .returned (.tuple #[.nilIface, rangeE]) ∧ Later w w' := by
  have H := hid (show decide (1 ≤ kind ∧ kind ≤ 7) = false from decide_eq_false h1)
  clear h1
  go_enter Tryd.func45, Tryd.ntmps45
  go_wp2_with fail
  refine (aggvalid_any kind w).mono ?_
  rintro e w' ⟨rfl, rfl⟩
  rw [H.out]
  go_wp2_with fail
  refine bodyPost_ret (v := .tuple #[.nilIface, rangeE]) (by simp [results, Tryd.results45, go_sem] <;> rfl) rfl ⟨rfl, ?_⟩
  first | exact Later.refl _ | exact Later.alloc _ _
end Go.Proofs.YtcmpjdnbjhkhdaaDoor
