/-
  PROVED HERE: columns in memory; slices.IndexFunc and ContainsFunc at columns; the closures that are handed to them; the document's At.
  PROVED HERE: the functions of expressions, at values in memory.
-/
import Derived.Test.YtgajofkeidjbgaaGreatDoorGTabExpr
import Derived.Test.YtgajofkeidjbgaaGreatDoorGLexPlain
import Derived.Test.YtgajofkeidjbgaaGreatDoorGParText
import Derived.Test.YtgajofkeidjbgaaGreatDoorGLexS
import Derived.Test.YtgajofkeidjbgaaGreatDoorGEval1
namespace Go.Proofs.YtgajofkeidjbgaaGreatDoor
set_option linter.unusedSimpArgs false
set_option linter.unusedVariables false
open Go.RowKit

def Col.v (c : Col) : Value := .agg #[.string (strB c.s), .int .i64 c.k]
def ColC (w : World) (b o : Nat) (c : Col) : Prop := w.cell? ⟨b, o, none⟩ = some (.string (strB c.s)) ∧ w.cell? ⟨b, o + 1, none⟩ = some (.int .i64 c.k)
theorem ColC.later {w w' : World} {b o : Nat} {c : Col} (h : ColC w b o c) (k : Later w w') : ColC w' b o c := ⟨k.cell h.1, k.cell h.2⟩
abbrev ColsEl (w : World) (ao : Option Addr) (cs : List Col) : Prop := Elems (fun _ => True) ColC 2 w ao cs
theorem cols_later {w w' : World} {ao : Option Addr} {cs : List Col} (h : ColsEl w ao cs) (k : Later w w') : ColsEl w' ao cs := fun i hi => let ⟨b, o, ha, hs, hx⟩ := h i hi; ⟨b, o, ha, hs, hx.later k⟩
theorem cols_take {w : World} {ao : Option Addr} {cs : List Col} (h : ColsEl w ao cs) (n : Nat) : ColsEl w ao (cs.take n) := fun i hi => by
  have hi' : i < cs.length := by rw [List.length_take] at hi; omega
  obtain ⟨b, o, ha, hs, hx⟩ := h i hi'
  refine ⟨b, o, ha, hs, ?_⟩
  rw [List.getElem_take]
  exact hx
/-- the index that a search answers. -/
def idxI (o : Option Nat) : Int := match o with
  | some k => (k : Int)
  | none => -1
theorem find_some {α : Type} {xs : List α} {q : α → Bool} {k : Nat} (h : k < xs.length) (hq : q xs[k] = true) (hb : ∀ j (h : j < xs.length), j < k → q xs[j] = false) : xs.findIdx? q = some k :=
  List.findIdx?_eq_some_iff_getElem.2 ⟨h, hq, fun j hj => by rw [hb j (by omega) hj]; simp⟩
theorem find_none {α : Type} {xs : List α} {q : α → Bool} (h : ∀ j (h : j < xs.length), q xs[j] = false) : xs.findIdx? q = none :=
  List.findIdx?_eq_none_iff.2 fun x hx => by obtain ⟨j, hj, rfl⟩ := List.getElem_of_mem hx; rw [h j hj]
theorem any_find {α : Type} (xs : List α) (q : α → Bool) : decide (0 ≤ idxI (xs.findIdx? q)) = xs.any q := by
  cases h : xs.findIdx? q with
  | none =>
    have h' := List.findIdx?_eq_none_iff.1 h
    rw [Bool.eq_iff_iff, List.any_eq_true]
    constructor
    · intro h; exact absurd (of_decide_eq_true h) (by decide)
    · rintro ⟨x, hx, hq⟩; rw [h' x hx] at hq; cases hq
  | some k =>
    obtain ⟨h1, h2, -⟩ := List.findIdx?_eq_some_iff_getElem.1 h
    rw [Bool.eq_iff_iff, List.any_eq_true]
    exact ⟨fun _ => ⟨_, List.getElem_mem h1, h2⟩, fun _ => decide_eq_true (by show (0 : Int) ≤ (k : Int); omega)⟩
set_option maxRecDepth 100000 in
set_option maxHeartbeats 2000000 in
theorem idxc (F : FuncId) (hent : ∀ args w, (callFunc F args).run Tryz.prog w = .ok (.enter F args) w) (caps : Array Value) (ao : Option Addr) (c : Nat) (xs : List Col) (w : World) (q : Col → Bool) (hel : ColsEl w ao xs) (hlen : xs.length ≤ 140737488355328)
    (hF : ∀ x ∈ xs, ∀ w', Later w w' → Calls Tryz.prog F (#[x.v] ++ caps) w' fun e w'' => e = .returned (.bool (q x)) ∧ Later w' w'') :
    Calls Tryz.prog 85 #[.slice ao xs.length c, .func (.func F) #[] caps] w fun e w' => e = .returned (.int .i64 (idxI (xs.findIdx? q))) ∧ Later w w' := by
  have HEL := hid hel; have HLN := hid hlen; have HF := hid hF
  clear hel hlen hF
  go_enter Tryz.func85, Tryz.ntmps85
  go_wp2_with fail
  obtain ⟨R1, hR1⟩ : ∃ RR_ : (Nat → Value) → World → Prop, RR_ = (fun us wx => ∃ k : Nat, us 8 = .int .i64 k ∧ k ≤ xs.length ∧ Later w wx ∧ ∀ j (h : j < xs.length), j < k → q xs[j] = false) := ⟨_, rfl⟩
  obtain ⟨mu1, hmu1⟩ : ∃ mu : (Nat → Value) → World → Nat, mu = (fun us _ => xs.length - (intOf (us 8)).toNat) := ⟨_, rfl⟩
  have HR1 := hid hR1; have Hmu1 := hid hmu1; clear hR1 hmu1
  refine wp_loop_frame' [false, false, false, false, true, true, false, false, true, true, true, true, true, true, true, true, true, true, true] R1 _ mu1 HR1.out ?_ ?_
  · exact ⟨0, rfl, Nat.zero_le _, Later.refl _, fun j h h0 => by omega⟩
  intro us1 wx hrel
  obtain ⟨k, h8, hk, hL, hall⟩ := hrel
  simp only [frameOf, Nat.reduceAdd, h8]
  have Hh8 := hid h8; clear h8
  have HL := hid hL; have HK := hid hk; have HA := hid hall
  clear hL hk hall
  by_cases hlt : k < xs.length
  · have HLT := hid hlt
    obtain ⟨b, o, rfl, -, hc⟩ := HEL.out k hlt
    obtain ⟨y, hy⟩ : ∃ y, xs[k]'HLT.out = y := ⟨_, rfl⟩
    have HY := hid hy
    have HM : Hid (y ∈ xs) := hid (hy ▸ List.getElem_mem _)
    rw [hy] at hc
    obtain ⟨p1, p2⟩ := hc.later HL.out
    have hg := cell_lt p1
    have HWK : Hid (wrap64 ((k : Int) + 1) = ((k + 1 : Nat) : Int)) := hid (by have := HLT.out; have := HLN.out; unfold wrap64; omega)
    clear hy hc
    go_wp2_with fail
    refine (HF.out y HM.out _ HL.out).mono ?_
    rintro e w1 ⟨rfl, hL1⟩
    have HL1 := hid (Later.trans _ _ _ HL.out hL1)
    clear hL1 p1 p2 hg
    cases hq : q y with
    | true =>
      have HQ : Hid (q (xs[k]'HLT.out) = true) := hid (by rw [HY.out]; exact hq)
      clear hq
      go_wp2_with fail
      go_ret
      exact ⟨by rw [find_some HLT.out HQ.out HA.out]; rfl, HL1.out⟩
    | false =>
      have HQ : Hid (q (xs[k]'HLT.out) = false) := hid (by rw [HY.out]; exact hq)
      clear hq
      go_wp2_with fail
      try simp only [HWK.out]
      refine Round.mk' HR1.out Hmu1.out rfl ?_ ?_
      · refine ⟨k + 1, rfl, HLT.out, HL1.out, fun j h hj => ?_⟩
        by_cases hjk : j = k
        · subst hjk; exact HQ.out
        · exact HA.out j h (by omega)
      · rw [Hh8.out]; have := HLT.out; simp [intOf, slots]; omega
  · go_wp2_with fail
    go_ret
    exact ⟨by rw [find_none fun j hj => HA.out j hj (by omega)]; rfl, HL.out⟩
set_option maxRecDepth 100000 in
set_option maxHeartbeats 2000000 in
theorem containsc (F : FuncId) (hent : ∀ args w, (callFunc F args).run Tryz.prog w = .ok (.enter F args) w) (caps : Array Value) (ao : Option Addr) (c : Nat) (xs : List Col) (w : World) (q : Col → Bool) (hel : ColsEl w ao xs) (hlen : xs.length ≤ 140737488355328)
    (hF : ∀ x ∈ xs, ∀ w', Later w w' → Calls Tryz.prog F (#[x.v] ++ caps) w' fun e w'' => e = .returned (.bool (q x)) ∧ Later w' w'') :
    Calls Tryz.prog 84 #[.slice ao xs.length c, .func (.func F) #[] caps] w fun e w' => e = .returned (.bool (xs.any q)) ∧ Later w w' := by
  have H := hid (idxc F hent caps ao c xs w q hel hlen hF)
  clear hel hlen hF
  go_enter Tryz.func84, Tryz.ntmps84
  go_wp2_with fail
  refine H.out.mono ?_
  rintro e w1 ⟨rfl, hL1⟩
  have HL1 := hid hL1
  obtain ⟨z, hz⟩ : ∃ z, idxI (xs.findIdx? q) = z := ⟨_, rfl⟩
  have HZ : Hid (xs.any q = decide (0 ≤ z)) := hid (by rw [← hz]; exact (any_find xs q).symm)
  rw [hz]
  clear hL1 hz
  go_wp2_with fail
  refine bodyPost_ret (results_tmp rfl _ _ _) rfl ⟨?_, HL1.out⟩
  rw [HZ.out]
  rfl
set_option maxRecDepth 100000 in
theorem columns1_any (d : Col) (s : List UInt8) (C : Nat) (w : World) (h : w.cell? ⟨C, 0, none⟩ = some (.string (strB s))) : Calls Tryz.prog 82 #[d.v, .pointer (some ⟨C, 0, none⟩)] w fun e w' => e = .returned (.bool (d.s == s)) ∧ Later w w' := by
  have hlt := cell_lt h
  have hs : ((strB d.s).toList == (strB s).toList) = (d.s == s) := by rw [strB_toL', strB_toL']
  unfold Col.v
  go_enter Tryz.func82, Tryz.ntmps82
  go_upto_region 1 with (fail)
  obtain ⟨w1, hw1⟩ : ∃ w1, w1 = w.alloc (.cells #[.string (strB d.s), .int .i64 d.k] 35) := ⟨_, rfl⟩
  have hL : Later w w1 := hw1 ▸ Later.alloc _ _
  obtain ⟨D, hD⟩ : ∃ D, D = w.heap.size := ⟨_, rfl⟩
  have ho : w1.heap[D]? = some (.cells #[.string (strB d.s), .int .i64 d.k] 35 (0, 0)) := by rw [hw1, hD]; exact obj_new _ _
  rw [← hw1, ← hD]
  have d0 : w1.cell? ⟨D, 0, none⟩ = some (.string (strB d.s)) := cell_obj (i := 0) ho rfl
  have hl1 := cell_lt d0
  replace h := hL.cell h
  replace hlt := cell_lt h
  have HL := hid hL
  clear hw1 hD ho hL
  go_wp2_with fail
  exact bodyPost_ret (results_tmp rfl _ _ _) rfl ⟨rfl, HL.out⟩
set_option maxRecDepth 100000 in
theorem kindof1_any (d : Col) (s : List UInt8) (C N : Nat) (w : World) (h : w.cell? ⟨C, 0, none⟩ = some (.pointer (some ⟨N, 0, none⟩))) (hn : w.cell? ⟨N, 0, none⟩ = some (.string (strB s))) : Calls Tryz.prog 86 #[d.v, .pointer (some ⟨C, 0, none⟩)] w fun e w' => e = .returned (.bool (d.s == s)) ∧ Later w w' := by
  have hs : ((strB d.s).toList == (strB s).toList) = (d.s == s) := by rw [strB_toL', strB_toL']
  unfold Col.v
  go_enter Tryz.func86, Tryz.ntmps86
  go_upto_region 1 with (fail)
  obtain ⟨w1, hw1⟩ : ∃ w1, w1 = w.alloc (.cells #[.string (strB d.s), .int .i64 d.k] 35) := ⟨_, rfl⟩
  have hL : Later w w1 := hw1 ▸ Later.alloc _ _
  obtain ⟨D, hD⟩ : ∃ D, D = w.heap.size := ⟨_, rfl⟩
  have ho : w1.heap[D]? = some (.cells #[.string (strB d.s), .int .i64 d.k] 35 (0, 0)) := by rw [hw1, hD]; exact obj_new _ _
  rw [← hw1, ← hD]
  have d0 : w1.cell? ⟨D, 0, none⟩ = some (.string (strB d.s)) := cell_obj (i := 0) ho rfl
  replace h := hL.cell h
  replace hn := hL.cell hn
  have HL := hid hL
  clear hw1 hD ho hL
  refine wp_region_lex (by kernel_rfl) (by kernel_rfl) Later Later.refl Later.trans (fun _ => none) (fun _ _ _ _ _ h => by cases h) ?_
  simp only [numbered, Nat.reduceAdd]
  refine LexS.out ?_
  iterate 8
    first
    | (refine LexS.skip rfl ?_; simp only [Act.put, List.setIfInBounds_toArray, List.set])
    | (refine LexS.one' rfl rfl ?_
       apply Exists.intro
       refine ⟨fun w hR hF => ?_, ?_⟩
       · have hP := hR
         repeat (first | replace hP := Later.of_drew hP | replace hP := Later.of_drewN hP | replace hP := Later.of_alloc hP)
         have hcs := hR.cells
         have zd0 := hP.cell d0
         have zh := hP.cell h
         have zhn := hP.cell hn
         clear hR hF hP
         go_simp
         first | done | rfl
       simp only [Act.put, List.setIfInBounds_toArray, List.set])
  refine LexS.nil ?_
  intro w2 hL2 hF9
  clear hF9
  repeat (first | replace hL2 := Later.of_drew hL2 | replace hL2 := Later.of_drewN hL2 | replace hL2 := Later.of_alloc hL2)
  have HL2 := hid (Later.trans _ _ _ HL.out hL2)
  clear hL2
  go_wp2_with fail
  exact bodyPost_ret (results_tmp rfl _ _ _) rfl ⟨rfl, HL2.out⟩
set_option maxRecDepth 100000 in
set_option maxHeartbeats 2000000 in
theorem rat_any (ao : Option Addr) (c : Nat) (xs : List Col) (s : List UInt8) (w : World) (hel : ColsEl w ao xs) (hlen : xs.length ≤ 140737488355328) : Calls Tryz.prog 33 #[.slice ao xs.length c, .string (strB s)] w fun e w' => e = .returned (.int .i64 (idxI (colAt xs s))) ∧ w' = w := by
  have HEL := hid hel; have HLN := hid hlen
  clear hel hlen
  go_enter Tryz.func33, Tryz.ntmps33
  go_wp2_with fail
  obtain ⟨R1, hR1⟩ : ∃ RR_ : (Nat → Value) → World → Prop, RR_ = (fun us wx => ∃ k : Nat, us 5 = .int .i64 k ∧ k ≤ xs.length ∧ wx = w ∧ ∀ j (h : j < xs.length), j < k → (xs[j].s == s) = false) := ⟨_, rfl⟩
  obtain ⟨mu1, hmu1⟩ : ∃ mu : (Nat → Value) → World → Nat, mu = (fun us _ => xs.length - (intOf (us 5)).toNat) := ⟨_, rfl⟩
  have HR1 := hid hR1; have Hmu1 := hid hmu1; clear hR1 hmu1
  refine wp_loop_frame' [false, false, false, false, true, true, true, true, true, true, true, true, true, true, true, true, true, true, true, true] R1 _ mu1 HR1.out ?_ ?_
  · exact ⟨0, rfl, Nat.zero_le _, rfl, fun j h h0 => by omega⟩
  intro us1 wx hrel
  obtain ⟨k, h5, hk, hwx, hall⟩ := hrel
  simp only [frameOf, Nat.reduceAdd, h5]
  have Hh5 := hid h5; clear h5
  subst hwx
  have HK := hid hk; have HA := hid hall
  clear hk hall
  by_cases hlt : k < xs.length
  · have HLT := hid hlt
    obtain ⟨b, o, rfl, -, hc⟩ := HEL.out k hlt
    obtain ⟨y, hy⟩ : ∃ y, xs[k]'HLT.out = y := ⟨_, rfl⟩
    have HY := hid hy
    rw [hy] at hc
    obtain ⟨p1, p2⟩ := hc
    have hg := cell_lt p1
    have HWK : Hid (wrap64 ((k : Int) + 1) = ((k + 1 : Nat) : Int)) := hid (by have := HLT.out; have := HLN.out; unfold wrap64; omega)
    obtain ⟨bs, hbs⟩ : ∃ b, (y.s == s) = b := ⟨_, rfl⟩
    have hs : ((strB y.s).toList == (strB s).toList) = bs := by rw [strB_toL', strB_toL']; exact hbs
    have HBS : Hid (((xs[k]'HLT.out).s == s) = bs) := hid (by rw [HY.out]; exact hbs)
    clear hy hbs
    cases bs with
    | true =>
      go_wp2_with fail
      go_ret
      exact ⟨by unfold colAt; rw [find_some HLT.out HBS.out HA.out]; rfl, rfl⟩
    | false =>
      go_wp2_with fail
      try simp only [HWK.out]
      refine Round.mk' HR1.out Hmu1.out rfl ?_ ?_
      · refine ⟨k + 1, rfl, HLT.out, rfl, fun j h hj => ?_⟩
        by_cases hjk : j = k
        · subst hjk; exact HBS.out
        · exact HA.out j h (by omega)
      · rw [Hh5.out]; have := HLT.out; simp [intOf, slots]; omega
  · go_wp2_with fail
    go_ret
    exact ⟨by unfold colAt; rw [find_none fun j hj => HA.out j hj (by omega)]; rfl, rfl⟩
end Go.Proofs.YtgajofkeidjbgaaGreatDoor
namespace Go.Proofs.YtgajofkeidjbgaaGreatDoor
set_option linter.unusedSimpArgs false
set_option linter.unusedVariables false
open Go.RowKit

set_option maxRecDepth 100000 in
theorem isnull_any (x : Val) (w : World) : Calls Tryz.prog 128 #[x.v] w fun e w' => e = .returned (.bool (decide (x.k = 0))) ∧ Later w w' := by
  rw [vv, ← int_dec]
  go_enter Tryz.func128, Tryz.ntmps128
  go_wp2_with fail
  exact bodyPost_ret (results_tmp rfl _ _ _) rfl ⟨rfl, Later.alloc _ _⟩
/-- an element of a list of values. -/
theorem val_at {w : World} {v : Value} {l : List Val} (h : IsVals w v l) : ∃ ao c, v = .slice ao l.length c ∧ l.length ≤ c ∧ ∀ i (hi : i < l.length), ∃ b o, ao = some ⟨b, o, none⟩ ∧ w.cell? ⟨b, o + i * 3, none⟩ = some (.int .i64 l[i].k) ∧ w.cell? ⟨b, o + i * 3 + 1, none⟩ = some (.int .i64 l[i].n) ∧ w.cell? ⟨b, o + i * 3 + 2, none⟩ = some (.string l[i].t) := by
  obtain ⟨a, c, hv, hl, hc, hn, he⟩ := h
  refine ⟨a, c, hv, hl, fun i hi => ?_⟩
  obtain ⟨b, o, ha, -, h0, h1, h2⟩ := he i hi
  exact ⟨b, o, ha, h0, h1, h2⟩
set_option maxRecDepth 100000 in
set_option maxHeartbeats 2000000 in
theorem nullidx_any (ao : Option Addr) (c : Nat) (l : List Val) (w : World) (hl : IsVals w (.slice ao l.length c) l) (hlen : l.length ≤ 1000000) :
    Calls Tryz.prog 137 #[.slice ao l.length c, .func (.func 128) #[] #[]] w fun e w' => e = .returned (.int .i64 (idxI (l.findIdx? fun x => decide (x.k = 0)))) ∧ Later w w' := by
  have HEL := hid hl; have HLN := hid hlen
  have hent : ∀ args w, (callFunc 128 args).run Tryz.prog w = .ok (.enter 128 args) w := enters_of Tryz.func128 (by kernel_rfl) rfl
  clear hl hlen
  go_enter Tryz.func137, Tryz.ntmps137
  go_wp2_with fail
  obtain ⟨R1, hR1⟩ : ∃ RR_ : (Nat → Value) → World → Prop, RR_ = (fun us wx => ∃ k : Nat, us 8 = .int .i64 k ∧ k ≤ l.length ∧ Later w wx ∧ ∀ j (h : j < l.length), j < k → decide (l[j].k = 0) = false) := ⟨_, rfl⟩
  obtain ⟨mu1, hmu1⟩ : ∃ mu : (Nat → Value) → World → Nat, mu = (fun us _ => l.length - (intOf (us 8)).toNat) := ⟨_, rfl⟩
  have HR1 := hid hR1; have Hmu1 := hid hmu1; clear hR1 hmu1
  refine wp_loop_frame' [false, false, false, false, true, true, false, false, true, true, true, true, true, true, true, true, true, true, true] R1 _ mu1 HR1.out ?_ ?_
  · exact ⟨0, rfl, Nat.zero_le _, Later.refl _, fun j h h0 => by omega⟩
  intro us1 wx hrel
  obtain ⟨k, h8, hk, hL, hall⟩ := hrel
  simp only [frameOf, Nat.reduceAdd, h8]
  have Hh8 := hid h8; clear h8
  have HL := hid hL; have HK := hid hk; have HA := hid hall
  clear hL hk hall
  by_cases hlt : k < l.length
  · have HLT := hid hlt
    obtain ⟨a', c', hv, -, hc⟩ := val_at HEL.out
    obtain ⟨b, o, hao, p0, p1, p2⟩ := hc k hlt
    simp only [Value.slice.injEq] at hv
    obtain ⟨rfl, -, rfl⟩ := hv
    subst hao
    obtain ⟨y, hy⟩ : ∃ y, l[k]'HLT.out = y := ⟨_, rfl⟩
    rw [hy] at p0 p1 p2
    have HY := hid hy
    replace p0 := HL.out.cell p0
    replace p1 := HL.out.cell p1
    replace p2 := HL.out.cell p2
    have hg := cell_lt p0
    have HWK : Hid (wrap64 ((k : Int) + 1) = ((k + 1 : Nat) : Int)) := hid (by have := HLT.out; have := HLN.out; unfold wrap64; omega)
    clear hy hc
    go_wp2_with fail
    refine (isnull_any y _).mono ?_
    rintro e w1 ⟨rfl, hL1⟩
    have HL1 := hid (Later.trans _ _ _ HL.out hL1)
    clear hL1 p0 p1 p2 hg
    cases hq : decide (y.k = 0) with
    | true =>
      have HQ : Hid (decide ((l[k]'HLT.out).k = 0) = true) := hid (by rw [HY.out]; exact hq)
      clear hq
      go_wp2_with fail
      go_ret
      exact ⟨by rw [find_some HLT.out HQ.out HA.out]; rfl, HL1.out⟩
    | false =>
      have HQ : Hid (decide ((l[k]'HLT.out).k = 0) = false) := hid (by rw [HY.out]; exact hq)
      clear hq
      go_wp2_with fail
      try simp only [HWK.out]
      refine Round.mk' HR1.out Hmu1.out rfl ?_ ?_
      · refine ⟨k + 1, rfl, HLT.out, HL1.out, fun j h hj => ?_⟩
        by_cases hjk : j = k
        · subst hjk; exact HQ.out
        · exact HA.out j h (by omega)
      · rw [Hh8.out]; have := HLT.out; simp [intOf, slots]; omega
  · go_wp2_with fail
    go_ret
    exact ⟨by rw [find_none fun j hj => HA.out j hj (by omega)]; rfl, HL.out⟩
set_option maxRecDepth 100000 in
set_option maxHeartbeats 2000000 in
theorem nullcon_any (ao : Option Addr) (c : Nat) (l : List Val) (w : World) (hl : IsVals w (.slice ao l.length c) l) (hlen : l.length ≤ 1000000) :
    Calls Tryz.prog 127 #[.slice ao l.length c, .func (.func 128) #[] #[]] w fun e w' => e = .returned (.bool (anyNull l)) ∧ Later w w' := by
  have H := hid (nullidx_any ao c l w hl hlen)
  clear hl hlen
  go_enter Tryz.func127, Tryz.ntmps127
  go_wp2_with fail
  refine H.out.mono ?_
  rintro e w1 ⟨rfl, hL1⟩
  have HL1 := hid hL1
  obtain ⟨z, hz⟩ : ∃ z, idxI (l.findIdx? fun x => decide (x.k = 0)) = z := ⟨_, rfl⟩
  have HZ : Hid (anyNull l = decide (0 ≤ z)) := hid (by rw [← hz]; exact (any_find l _).symm)
  rw [hz]
  clear hL1 hz
  go_wp2_with fail
  refine bodyPost_ret (results_tmp rfl _ _ _) rfl ⟨?_, HL1.out⟩
  rw [HZ.out]
  rfl
/-- a function handed a list of values answers a value. -/
def FnTo (F : FuncId) (caps : Array Value) (l : List Val) (r : Val) (w : World) (lv : Value) : Prop := Calls Tryz.prog F (#[lv] ++ caps) w (ValueTo' r w)
theorem new_val (w : World) : VObj (w.alloc (.cells #[.int .i64 0, .int .i64 0, .string ⟨#[]⟩] 38)) w.heap.size nothing := obj_new w _
set_option maxRecDepth 100000 in
set_option maxHeartbeats 2000000 in
theorem strict1_any (G : FuncId) (hent : ∀ args w, (callFunc G args).run Tryz.prog w = .ok (.enter G args) w) (K : Nat) (ao : Option Addr) (c : Nat) (l : List Val) (r : Val) (w : World) (hl : IsVals w (.slice ao l.length c) l) (hlen : l.length ≤ 1000000)
    (hK : w.heap[K]? = some (.cells #[.func (.func G) #[] #[]] 84 (0, 0))) (hG : anyNull l = false → ∀ w', Later w w' → Calls Tryz.prog G #[.slice ao l.length c] w' (ValueTo' r w')) :
    Calls Tryz.prog 126 #[.slice ao l.length c, .pointer (some ⟨K, 0, none⟩)] w (ValueTo' (if anyNull l = true then nothing else r) w) := by
  have HK := hid hK; have HG := hid hG; have HL := hid hl; have HLN := hid hlen
  obtain ⟨x, hx⟩ : ∃ x, (if anyNull l = true then nothing else r) = x := ⟨_, rfl⟩
  have HX := hid hx
  rw [hx]
  clear hK hG hl hlen hx
  go_enter Tryz.func126, Tryz.ntmps126
  go_upto_region 1 with (fail)
  obtain ⟨w1, hw1⟩ : ∃ w1, w1 = w.alloc (.cells #[.int .i64 0, .int .i64 0, .string ⟨#[]⟩] 38) := ⟨_, rfl⟩
  have hL1 : Later w w1 := hw1 ▸ Later.alloc _ _
  have hR1 : VObj w1 w.heap.size nothing := hw1 ▸ new_val w
  rw [← hw1]
  have HL1 := hid hL1; have HR1 := hid hR1
  clear hw1 hL1 hR1
  go_wp2_with fail
  refine (nullcon_any ao c l w1 (HL.out.vals_kept (HL1.out.keeps (fun _ => True)) (fun _ _ => trivial)) HLN.out).mono ?_
  rintro e w2 ⟨rfl, hL2⟩
  have HL2 := hid (Later.trans _ _ _ HL1.out hL2)
  have HR2 := hid (HR1.out.later hL2)
  obtain ⟨bn, hbn⟩ : ∃ b, anyNull l = b := ⟨_, rfl⟩
  have HBN := hid hbn
  rw [hbn]
  clear hL2 hbn
  cases bn with
  | true =>
    obtain ⟨c0, c1, c2, f0, f1, f2, cl⟩ := HR2.out.cells
    simp only [nothing] at c0 c1 c2
    go_wp2_with fail
    refine bodyPost_ret (results_val rfl rfl (HR2.out.set nothing)) rfl ⟨?_, setV_later HL2.out (Nat.le_refl _) nothing⟩
    rw [← HX.out, if_pos HBN.out]
  | false =>
    have k0 : w2.cell? ⟨K, 0, none⟩ = some (.func (.func G) #[] #[]) := cell_obj (i := 0) (HL2.out.obj HK.out) rfl
    have kl := cell_lt k0
    go_wp2_with fail
    refine (HG.out HBN.out w2 HL2.out).mono ?_
    rintro e w3 ⟨rfl, hL3⟩
    have HL3 := hid (Later.trans _ _ _ HL2.out hL3)
    have HR3 := hid (HR2.out.later hL3)
    obtain ⟨c0, c1, c2, f0, f1, f2, cl⟩ := HR3.out.cells
    simp only [nothing] at c0 c1 c2
    rw [vv r]
    clear hL3 k0 kl
    go_wp2_with fail
    refine bodyPost_ret (results_val rfl rfl (HR3.out.set r)) rfl ⟨?_, setV_later HL3.out (Nat.le_refl _) r⟩
    rw [← HX.out, if_neg (by rw [HBN.out]; simp)]
end Go.Proofs.YtgajofkeidjbgaaGreatDoor
