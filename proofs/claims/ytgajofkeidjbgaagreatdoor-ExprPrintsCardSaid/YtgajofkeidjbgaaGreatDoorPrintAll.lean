/-
  PROVED HERE: the contract of expr.Print.
-/
import Derived.Test.YtgajofkeidjbgaaGreatDoorGPrint4
import Derived.Test.YtgajofkeidjbgaaGreatDoorGParText
import Derived.Test.YtgajofkeidjbgaaGreatDoorParCost
import Derived.Test.YtgajofkeidjbgaaGreatDoorCaught
namespace Go.Proofs.YtgajofkeidjbgaaGreatDoor
set_option linter.unusedSimpArgs false
set_option linter.unusedVariables false
open Go.RowKit

/-- what is answered of a text: as the program writes it. -/
def Written (s : List UInt8) (r : Except Fault Ex) (e : Ending) (S : Nat) (w' : World) : Prop := match r with
  | .error f => Fails f.1 f.2 e
  | .ok x => e = .returned (.tuple #[]) ∧ w'.heap[S]? = some (.cells #[.string (strB (printP x 0))] 9 (0, 0))
set_option maxRecDepth 100000 in
set_option maxHeartbeats 4000000 in
theorem print1_any (s : List UInt8) (T S : Nat) (w : World) (hE : ErrVars w) (hT : PowTab w) (hS : SpaceTab w) (t0 : w.heap[T]? = some (.cells #[.string (strB s)] 9 (0, 0))) (s0 : w.heap[S]? = some (.cells #[.string ⟨#[]⟩] 9 (0, 0))) :
    Calls Tryz.prog 18 #[.pointer (some ⟨T, 0, none⟩), .pointer (some ⟨S, 0, none⟩)] w fun e w' => Keeps (fun b => b ≠ S) w w' ∧ ∃ r, TextR true s r ∧ Written s r e S w' ∧ (∀ f, r = .error f → w'.heap[S]? = some (.cells #[.string ⟨#[]⟩] 9 (0, 0))) := by
  have HE := hid hE; have HT := hid hT; have HSP := hid hS; have HS0 := hid s0
  have c0 : w.cell? ⟨T, 0, none⟩ = some (.string (strB s)) := cell_obj (i := 0) t0 rfl
  have hlt := cell_lt c0
  clear hE hT hS s0 t0
  go_enter Tryz.func18, Tryz.ntmps18
  go_wp2_with fail
  obtain ⟨b, hb⟩ : ∃ b, b = w.heap.size := ⟨_, rfl⟩
  obtain ⟨w1, hw1⟩ : ∃ w1, w1 = w.alloc (.cells #[.pointer none, .slice none 0 0] 57) := ⟨_, rfl⟩
  have hL1 : Later w w1 := hw1 ▸ Later.alloc _ _
  have hB1 : w1.heap[b]? = some (.cells #[.pointer none, .slice none 0 0] 57 (0, 0)) := by rw [hw1, hb]; exact obj_new _ _
  have HSZ : Hid (w1.heap.size = b + 1 ∧ w.heap.size = b) := hid ⟨by rw [hw1, hb]; simp, hb.symm⟩
  rw [← hw1, ← hb]
  have HL1 := hid hL1; have HB1 := hid hB1
  clear hw1 hb hL1 hB1 c0 hlt
  refine (parse_any s w1 (HE.out.later HL1.out) (HT.out.later HL1.out) (HSP.out.later HL1.out)).mono ?_
  rintro e w2 ⟨hL2, r, hr, hm⟩
  have HL2 := hid (Later.trans _ _ _ HL1.out hL2)
  have HR := hid hr
  cases r with
  | error f =>
    simp only at hm
    unfold Fails at hm
    subst hm
    exact ⟨rfl, HL2.out.keeps _, .error f, HR.out, rfl, fun f' _ => HL2.out.obj HS0.out⟩
  | ok x =>
    obtain ⟨v, rfl, hn⟩ := hm
    obtain ⟨N, rfl⟩ := hn.ptr
    have hok := text_ok hr
    have hco := text_cost hr
    have hnb : NodeIn (fun g => g ≠ b) w2 (.iface (nodeT x) (.pointer (some ⟨N, 0, none⟩))) x := NodeIn.mono (fun g _ h => by have := HSZ.out.1; omega) _ _ hn
    have hbd : BdAt w2 b b [] := by
      refine .inl ⟨Nat.le_refl _, .slice none 0 0, hL2.obj HB1.out, ?_, by simp [Value.ownBlock]⟩
      exact World.ownsRowF_nil _ _ _ _
    have henv : EnvB b w2 := ⟨w, HL2.out, by rw [HSZ.out.2]; exact Nat.le_refl _, HT.out⟩
    have hpr := prc_all x 0 N b b [] w2 (by omega) hnb hok hbd (by simp only [List.length_nil]; omega) henv
    have HPR := hid hpr
    have HBW : Hid (b ≤ w2.heap.size) := hid (by have := HL2.out.size; have := HSZ.out.2; omega)
    have post : ∀ w3, Wrote b b [] (printP x 0) w2 w3 → Calls Tryz.prog 20 #[.pointer (some ⟨b, 0, none⟩)] w3 fun e w4 => e = .returned (.string (strB (printP x 0))) ∧ Later w w4 := fun w3 hw => by
      have hb3 := hw.at_
      rw [List.nil_append] at hb3
      refine (Tryz.Builder_String_any_k b b (printP x 0) w3 hb3 (by have := HBW.out; have := hw.fr.size; omega)).mono ?_
      rintro e w4 ⟨rfl, -, hbel, -⟩
      refine ⟨rfl, ?_⟩
      have h : Below b w w4 := (HL2.out.mono (by rw [HSZ.out.2]; exact Nat.le_refl _)).trans (hw.fr.1.trans hbel)
      show Below w.heap.size w w4
      rw [HSZ.out.2]
      exact h
    have HPOST := hid post
    clear hn hnb hbd henv hpr hok hco hL2 hr post
    cases x
    all_goals
      go_wp2_with fail
      refine (HPR.out).mono ?_
      rintro e w3 ⟨rfl, hw⟩
      have HW := hid hw
      clear hw
      go_wp2_with fail
      refine (HPOST.out w3 HW.out).mono ?_
      rintro e w4 ⟨rfl, hL4⟩
      have s4 := hL4.obj HS0.out
      have q0 : w4.cell? ⟨S, 0, none⟩ = some (.string ⟨#[]⟩) := cell_obj (i := 0) s4 rfl
      have qz := free_obj (i := 0) s4
      have ql := cell_lt q0
      have HL4 := hid hL4; have HS4 := hid s4
      clear hL4 s4
      go_wp2_with fail
      refine bodyPost_end (results_none rfl _ _ _) rfl ⟨(HL4.out.keeps _).trans ((Keeps.refl _ w4).setCell (p := ⟨S, 0, none⟩) (.inl fun h => h rfl) _), _, HR.out, ⟨rfl, obj_setCell (i := 0) HS4.out _⟩, fun f h => by cases h⟩
/-- what expr.Print answers. -/
def PrintTo (s : List UInt8) (e : Ending) (w' : World) : Prop := ∃ r, TextR true s r ∧ match r with
  | .error f => e = .returned (.tuple #[.string ⟨#[]⟩, .int .i64 (f.2 : Int), errV f.1])
  | .ok x => e = .returned (.tuple #[.string (strB (printP x 0)), .int .i64 0, .nilIface])
set_option maxRecDepth 100000 in
set_option maxHeartbeats 4000000 in
theorem print_any (s : List UInt8) (w : World) (hE : ErrVars w) (hT : PowTab w) (hS : SpaceTab w) : Calls Tryz.prog 8 #[.string (strB s)] w fun e w' => PrintTo s e w' ∧ Later w w' := by
  have HE := hid hE; have HT := hid hT; have HS := hid hS
  clear hE hT hS
  go_enter Tryz.func8, Tryz.ntmps8
  go_wp2_with fail
  obtain ⟨w2, hw2⟩ : ∃ w2, w2 = (w.alloc (.cells #[.string (strB s)] 9)).alloc (.cells #[.string ⟨#[]⟩] 9) := ⟨_, rfl⟩
  obtain ⟨hL2, o1, o2⟩ := alloc2 hw2
  have HSZ : Hid (w2.heap.size = w.heap.size + 2) := hid (by rw [hw2]; simp)
  rw [← hw2]
  have HL2 := hid hL2; have O1 := hid o1; have O2 := hid o2
  clear hw2 hL2 o1 o2
  refine (caught_any 18 (enters_of Tryz.func18 (by kernel_rfl) rfl) #[.pointer (some ⟨w.heap.size, 0, none⟩), .pointer (some ⟨w.heap.size + 1, 0, none⟩)] w2
    (fun w4 => ∃ x, TextR true s (.ok x) ∧ w4.heap[w.heap.size + 1]? = some (.cells #[.string (strB (printP x 0))] 9 (0, 0)) ∧ Keeps (fun b => b ≠ w.heap.size + 1) w2 w4)
    (fun c p w4 => TextR true s (.error (c, p)) ∧ w4.heap[w.heap.size + 1]? = some (.cells #[.string ⟨#[]⟩] 9 (0, 0)) ∧ Keeps (fun b => b ≠ w.heap.size + 1) w2 w4) (fun w3 hL3 hs3 => ?_)).mono ?_
  · have h3 := Later.trans _ _ _ HL2.out hL3
    refine (print1_any s _ _ w3 (HE.out.later h3) (HT.out.later h3) (HS.out.later h3) (hL3.obj O1.out) (hL3.obj O2.out)).mono ?_
    rintro e w4 ⟨hk, r, hr, hm, hn⟩
    refine ⟨hk.mono fun b hb h => by have := HSZ.out; omega, ?_⟩
    cases r with
    | error f => exact .inr ⟨f.1, f.2, hm, hr, hn f rfl, (hL3.keeps _).trans hk⟩
    | ok x => exact .inl ⟨hm.1, x, hr, hm.2, (hL3.keeps _).trans hk⟩
  · rintro e w6 ⟨w4, hk, hc⟩
    rcases hc with ⟨rfl, x, hx, hs, hkk⟩ | ⟨c, p, rfl, hx, hs, hkk⟩
    · have s6 := hk.obj (by have := HSZ.out; omega) hs
      have HL6 : Hid (Later w w6) := hid ((((HL2.out.keeps (fun _ => True)).under (hkk.mono fun b _ hb => by omega)).under (hk.mono fun b _ hb => by have := HSZ.out; omega)).later)
      have q0 : w6.cell? ⟨w.heap.size + 1, 0, none⟩ = some (.string (strB (printP x 0))) := cell_obj (i := 0) s6 rfl
      have qz := free_obj (i := 0) s6
      have ql := cell_lt q0
      have HX := hid hx; have HS6 := hid s6
      clear hk hx hs hkk s6
      go_wp2_with fail
      have q7 : (w6.setCell ⟨w.heap.size + 1, 0, none⟩ (.string (strB (printP x 0)))).cell? ⟨w.heap.size + 1, 0, none⟩ = some (.string (strB (printP x 0))) := cell_obj (i := 0) (obj_setCell (i := 0) HS6.out _) rfl
      refine bodyPost_ret (v := .tuple #[.string (strB (printP x 0)), .int .i64 0, .nilIface]) (by simp [results, Tryz.results8, go_sem, q7]) rfl ⟨⟨.ok x, HX.out, rfl⟩, HL6.out.new (p := ⟨w.heap.size + 1, 0, none⟩) (by simp) _⟩
    · have s6 := hk.obj (by have := HSZ.out; omega) hs
      have HL6 : Hid (Later w w6) := hid ((((HL2.out.keeps (fun _ => True)).under (hkk.mono fun b _ hb => by omega)).under (hk.mono fun b _ hb => by have := HSZ.out; omega)).later)
      have q0 : w6.cell? ⟨w.heap.size + 1, 0, none⟩ = some (.string ⟨#[]⟩) := cell_obj (i := 0) s6 rfl
      have qz := free_obj (i := 0) s6
      have ql := cell_lt q0
      have HX := hid hx; have HS6 := hid s6
      clear hk hx hs hkk s6
      unfold errV
      go_wp2_with fail
      have q7 : (w6.setCell ⟨w.heap.size + 1, 0, none⟩ (.string ⟨#[]⟩)).cell? ⟨w.heap.size + 1, 0, none⟩ = some (.string ⟨#[]⟩) := cell_obj (i := 0) (obj_setCell (i := 0) HS6.out _) rfl
      refine bodyPost_ret (v := .tuple #[.string ⟨#[]⟩, .int .i64 (p : Int), .iface 29 (.int .i64 c)]) (by simp [results, Tryz.results8, go_sem, q7]) rfl ⟨⟨.error (c, p), HX.out, rfl⟩, HL6.out.new (p := ⟨w.heap.size + 1, 0, none⟩) (by simp) _⟩
end Go.Proofs.YtgajofkeidjbgaaGreatDoor
