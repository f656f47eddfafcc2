/-
  PROVED HERE: streamwrightlaw15.SessionRows returns true, for every text and every row; what the row lists is tied to the program's text (the card). Conditions: what comes in is of bulk at most 1048576 (the second form).
-/
import Derived.Test.YtbabfibmopfghaaGreatDoorGTabErr
import Derived.Test.YtbabfibmopfghaaGreatDoorGOpenVal
import Derived.Test.YtbabfibmopfghaaGreatDoorRowWalk
import Derived.Test.YtbabfibmopfghaaGreatDoorTie
import Derived.Test.YtbabfibmopfghaaGreatDoorCards
import Derived.OpenShut
import Derived.SevenTiedAt
import Derived.Deep.DeepHandedRow
import Derived.ChangeMaps5
namespace Go.Proofs.YtbabfibmopfghaaGreatDoor
set_option linter.unusedSimpArgs false
set_option linter.unusedVariables false
open Go.ChangeShapes Go.WideShapes Go.ChangeAt Go.RowKit
open Go.ChangeMaps (open_string shut_string)

set_option linter.unusedVariables false in
set_option maxRecDepth 100000 in
theorem liftedSessionRows (os : Os) (started : os.Started) (H : Type) (enc : TypeId × Value → H) (F : Stop.Interp) :
    ReturnsInHanded {} Tryz.checked os 3 .any ((Rows.OpenSpec.upto Rows.sessionRowsSpec).preRow enc Tryz.prog Tryz.f3 [] false allList) (((Rows.OpenSpec.upto Rows.sessionRowsSpec).at F).post enc Tryz.prog Tryz.f3 false true false false) := by
  refine returnsInHanded_of_row (C := Tryz.checked) (s := (Rows.OpenSpec.upto Rows.sessionRowsSpec)) (laid := allList) ownKnobErr started (by kernel_rfl) Tryz.func3
    (witness_row_at (enc := enc) (C := Tryz.checked) (s := (Rows.OpenSpec.upto Rows.sessionRowsSpec)) (laid := allList) false (allWorld os) #[.string ByteArray.empty, .agg #[.int .i64 0, .slice none 0 0]] rfl (by kernel_rfl) (by kernel_rfl) (by kernel_rfl)
      (OpenSpec.preRow_of_cond 8 (x := ([.lit (.string []), .agg [.lit (.int .i64 0), .nil]], [], [])) (by kernel_rfl) rfl (fun k hk => by obtain rfl := Option.some.inj hk; kernel_rfl) (by kernel_rfl) (allWorld_met os _))) ?_
  intro W base args ds gs before hval0 hW hcnd hk hsz0 hL hShaped _
  have hval : ∀ (j : Nat) t v, Tryz.f3.params[j]? = some t → args[j]? = some v → Value.okWide Tryz.prog W .any base t v := hval0
  have hW' := hW
  obtain ⟨p, q, hA0, hV, rfl, hfz, hnd⟩ := hW
  have hA : DataW.TrodAll enc Tryz.prog W 0 (fun _ => true) true Tryz.f3.params.toList args.toList ds p := hA0
  rw [Tryz.params3] at hA hval
  obtain ⟨v0, vs0, d0, ds0, p0, q0, hargs, rfl, rfl, h0, r0⟩ := trodAll_cons hA
  obtain ⟨v1, vs1, d1, ds1, p1, q1, rfl, rfl, rfl, h1, r1⟩ := trodAll_cons r0
  obtain ⟨rfl, rfl, rfl⟩ := trodAll_nil r1
  obtain rfl : args = #[v0, v1] := by cases args; simp_all
  obtain ⟨rfl, rfl⟩ := trodVars_none hV
  have hk' : Rows.uptoSmall H [d0, d1] = true := by simpa using hk _ rfl
  have hsm : Rows.uptoBulkAll [d0, d1] ≤ 1048576 := of_decide_eq_true hk'
  simp only [Rows.uptoBulkAll] at hsm
  have hsz : (DataW.weightsEach Tryz.prog [9, 24] [d0, d1]).all (· ≤ reachBytes) = true := hsz0
  have k0 := h0
  obtain ⟨a0, rfl, rfl, rfl, w0⟩ := open_string Tryz.underlying9 (hval 0 9 v0 rfl rfl) h0
  have k1 := h1
  have lt1 : ∀ x ∈ p1, x.block < W.heap.size := by obtain ⟨m, hm⟩ := k1; exact DataW.trod_lt m _ _ _ hm
  obtain ⟨a1, u1, rfl, w1, wt1, ok1, bk1⟩ := row_arg_bulk (hval 1 24 v1 rfl rfl) h1
  clear hA0 hval0
  have hlen := vals_len_bulk a1.vals
  unfold Row.bulk at bk1
  simp only [Rows.uptoBulk] at hsm
  refine (rows_str a0 a1.time a1.vals u1 W (by omega) w1 (by omega) wt1 ok1 (all_of hL).1.1 (all_of hL).1.2 (maxlen_of hShaped) (all_of hL).2).mono fun e W' ⟨he, bel⟩ => ?_
  subst he
  exact ⟨_, rfl, _, _, _, [], _, [], hW', trodAll_mk1 (shut_bool Tryz.underlying4 _), (trodAll_cons_mk (shut_string Tryz.underlying9 w0) (trodAll_cons_mk (Below.trod laidOutErr (by kernel_rfl) (of_decide_eq_true (by kernel_rfl)) k1 bel lt1) trodAll_mk0)), rfl, bel.frame _, fun h => by cases h⟩

end Go.Proofs.YtbabfibmopfghaaGreatDoor
