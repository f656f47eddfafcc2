/-
  PROVED HERE: the contract of wire.PutRows.
  PROVED HERE: a store in memory; the contracts of state.New, Owns, Len, of a cell's weight, of the two functions that choose cells, of Reader.Bad.
  PROVED HERE: slices of one's own: what holds of one when another, or the world, is turned. No program of its own.
  PROVED HERE: the contract of state.at: a key and a window as a key of the store's map.
  PROVED HERE: cmp.Compare at kinds and integers, cmp.Or, value.Compare.
-/
import Derived.Test.YtgcnchmnciihnaaGreatDoorGPutVal
import Derived.Test.YtgcnchmnciihnaaGreatDoorGReaderKit
import Derived.Test.YtgcnchmnciihnaaGreatDoorGErr
import Derived.RangeFuncBox
import Derived.Test.YtgcnchmnciihnaaGreatDoorGData
import Derived.Test.YtgcnchmnciihnaaGreatDoorGU8
import Derived.Test.YtgcnchmnciihnaaGreatDoorShelf
namespace Go.Proofs.YtgcnchmnciihnaaGreatDoor
set_option linter.unusedSimpArgs false
set_option linter.unusedVariables false
open Go.RowKit

theorem encVals_at {l : List Val} {k : Nat} (h : k < l.length) : ∃ c, encVals l = encVals (l.take k) ++ (encVal l[k] ++ c) := by
  refine ⟨encVals (l.drop (k + 1)), ?_⟩
  rw [← List.append_assoc, ← encVals_take h, encVals, encVals, encVals, ← List.flatMap_append, List.take_append_drop]
theorem encRowList_at {l : List Row} {k : Nat} (h : k < l.length) : ∃ c, encRowList l = encRowList (l.take k) ++ (encRow l[k] ++ c) := by
  refine ⟨encRowList (l.drop (k + 1)), ?_⟩
  rw [← List.append_assoc, ← encRowList_take h, encRowList, encRowList, encRowList, ← List.flatMap_append, List.take_append_drop]
def RowFine (r : Row) : Prop := (Lit.int .i64 r.time).wf = true ∧ ∀ x ∈ r.vals, ValOk x
end Go.Proofs.YtgcnchmnciihnaaGreatDoor
namespace Go.Proofs.YtgcnchmnciihnaaGreatDoor
set_option linter.unusedSimpArgs false
set_option linter.unusedVariables false
open Go.RowKit

theorem wf64 {n : Int} (h1 : -9223372036854775808 ≤ n) (h2 : n ≤ 9223372036854775807) : (Lit.int .i64 n).wf = true := by
  simpa [Lit.wf, IntKind.min, IntKind.max, IntKind.bits, IntKind.signed] using And.intro h1 h2
theorem wf64_r {n : Int} (h : (Lit.int .i64 n).wf = true) : -9223372036854775808 ≤ n ∧ n ≤ 9223372036854775807 := by
  simpa [Lit.wf, IntKind.min, IntKind.max, IntKind.bits, IntKind.signed] using h
/-- a store in memory: S its struct, M its map; the cells' values stand in blocks V. -/
structure StAt (V : Nat → Prop) (w : World) (S M : Nat) (lo hi : Int) (L : List CellP) : Prop where
  obj : w.heap[S]? = some (.cells #[.int .i64 lo, .int .i64 hi, .map (some M), .int .i64 (weightL L)] 62 (0, 0))
  map : CellsMap V w M L
  st : Store lo hi L
  ok : ∀ c ∈ L, ∀ x ∈ c.key, ValOk x
  vS : ¬ V S
  vM : ¬ V M
  ne : S ≠ M
  rng : 0 ≤ lo ∧ lo ≤ hi ∧ hi ≤ 32
section
variable {V V' : Nat → Prop} {w w' : World} {S M : Nat} {lo hi : Int} {L : List CellP}
theorem id_ok {lo hi : Int} {c : CellP} (h1 : ownsK lo hi c.key = true) (h2 : winOk c.win = true) (h3 : ∀ x ∈ c.key, ValOk x) : IdOk (idC c) := by
  have k := validR_key (ownsK_valid h1).1
  have g := winOk_range h2
  exact ⟨k.1, k.2, h3, wf64 (n := c.win.1) (by omega) (by omega), wf64 (n := c.win.2) (by omega) (by omega)⟩
theorem StAt.ids (h : StAt V w S M lo hi L) : ∀ c ∈ L, IdOk (idC c) := fun c hc => id_ok (h.st.owns c hc) (h.st.win c hc) (h.ok c hc)
theorem StAt.kept {K : Nat → Prop} (h : StAt V w S M lo hi L) (k : Keeps K w w') (hS : K S) (hM : K M) (hV : ∀ b, V b → b < w.heap.size → K b) : StAt V w' S M lo hi L :=
  { h with obj := k.obj hS h.obj, map := h.map.kept k hM hV }
theorem StAt.later (h : StAt V w S M lo hi L) (k : Later w w') : StAt V w' S M lo hi L := h.kept (k.keeps fun _ => True) trivial trivial fun _ _ _ => trivial
theorem StAt.mono (h : StAt V w S M lo hi L) (hs : ∀ b, V b → b < w.heap.size → V' b) (h1 : ¬ V' S) (h2 : ¬ V' M) : StAt V' w S M lo hi L :=
  { h with map := h.map.mono hs, vS := h1, vM := h2 }
theorem StAt.lt (h : StAt V w S M lo hi L) : S < w.heap.size := (Array.getElem?_eq_some_iff.1 h.obj).1
theorem StAt.len (h : StAt V w S M lo hi L) : L.length ≤ 2097152 := by
  have := weightL_length L
  have := h.st.full
  omega
end

theorem weight_any (a b : Option Addr) (n c m d : Nat) (f t : Int) (w : World) (hn : n ≤ 140737488355328) (hm : m ≤ 140737488355328) :
    Calls Tryz.prog 20 #[.agg #[.slice a n c, .int .i64 f, .int .i64 t, .slice b m d]] w (NumTo w (m + 64 * n + 32)) := by
  have h1 : (m : Int) + 64 * n ≤ 9223372036854775000 := by omega
  have h2 : (0 : Int) ≤ m := by omega
  have h3 : (0 : Int) ≤ n := by omega
  go_enter Tryz.func20, Tryz.ntmps20
  go_wp2_with fail
  go_ret
  exact ⟨rfl, Later.alloc _ _⟩

def NewTo (w : World) (lo hi : Int) (e : Ending) (w' : World) : Prop :=
  ∃ S M, e = .returned (.tuple #[.pointer (some ⟨S, 0, none⟩), .nilIface]) ∧ w.heap.size ≤ S ∧ w.heap.size ≤ M ∧ (∀ V : Nat → Prop, ¬ V S → ¬ V M → StAt V w' S M lo hi []) ∧ Later w w'
theorem new_any (lo hi : Int) (w : World) (h : 0 ≤ lo ∧ lo ≤ hi ∧ hi ≤ 32) : Calls Tryz.prog 5 #[.int .i64 lo, .int .i64 hi] w (NewTo w lo hi) := by
  obtain ⟨h1, h2, h3⟩ := h
  have n1 : ¬ lo < 0 := by omega
  have n2 : ¬ 32 < hi := by omega
  have n3 : ¬ hi < lo := by omega
  have hmm := @run_makeMap Tryz.prog
  go_enter Tryz.func5, Tryz.ntmps5
  go_wp2_with fail
  go_ret2
  refine ⟨_, _, rfl, ?_, ?_, fun V v1 v2 => ⟨obj_at (World.size_alloc _ _).symm, (CellsMap.made V w).later (Later.alloc _ _), Store.nil _ _, fun c hc => (by cases hc), v1, v2, ?_, h1, h2, h3⟩, Later.trans _ _ _ (Later.alloc _ _) (Later.alloc _ _)⟩
  all_goals (try simp only [World.size_alloc]); omega

def TruthTo (w : World) (b : Bool) (e : Ending) (w' : World) : Prop := e = .returned (.bool b) ∧ Later w w'
set_option maxHeartbeats 1000000 in
theorem owns_any {V : Nat → Prop} {S M : Nat} {lo hi : Int} {L : List CellP} (key : List Val) (v : Value) (w : World) (h : StAt V w S M lo hi L) (hv : IsVals w v key) (hg : ∀ x ∈ key, ValOk x) (ht : PowTab w) :
    Calls Tryz.prog 16 #[.pointer (some ⟨S, 0, none⟩), v] w (TruthTo w (ownsK lo hi key)) := by
  have HH := hid h; have HV := hid hv; have HG := hid hg; have HT := hid ht
  have HOW : Hid (ownsK lo hi key = (validR ⟨0, key⟩ && (decide (lo ≤ groupK key) && decide ((groupK key : Int) < hi)))) := hid rfl
  have hg32 := groupK_lt key
  obtain ⟨a, cp, rfl, -⟩ := hv
  clear h hg ht
  go_enter Tryz.func16, Tryz.ntmps16
  go_wp2_with fail
  refine (group_any key _ _ HV.out HG.out HT.out).mono ?_
  rintro e w1 ⟨rfl, hL⟩
  have HL := hid hL
  clear hL
  go_wp2_with fail
  refine (valid_row 0 key _ _ (HV.out.later HL.out)).mono ?_
  rintro e w2 ⟨rfl, hL2⟩
  have HL2 := hid (Later.trans _ _ _ HL.out hL2)
  have hob := HL2.out.obj HH.out.obj
  have c0 := cell_obj (i := 0) hob (v := .int .i64 lo) rfl
  have c1 := cell_obj (i := 1) hob (v := .int .i64 hi) rfl
  clear hob hL2
  generalize groupK key = g at *
  cases hvr : validR ⟨0, key⟩ with
  | false =>
    go_wp2_with fail
    go_ret
    exact ⟨by rw [HOW.out, hvr]; rfl, HL2.out⟩
  | true =>
    rw [hvr] at HOW
    clear hvr
    by_cases h1 : lo ≤ (g : Int) <;> by_cases h2 : (g : Int) < hi
    all_goals
      go_wp2_with fail
      go_ret
      exact ⟨by rw [HOW.out]; simp [h1, h2], HL2.out⟩

theorem len_any {V : Nat → Prop} {S M : Nat} {lo hi : Int} {L : List CellP} (w : World) (h : StAt V w S M lo hi L) :
    Calls Tryz.prog 15 #[.pointer (some ⟨S, 0, none⟩)] w fun e w' => e = .returned (.int .i64 L.length) ∧ w' = w := by
  have c2 := cell_obj (i := 2) h.obj (v := .map (some M)) rfl
  obtain ⟨D, hown, hn, -, -⟩ := h.map
  have hlen : ∀ ty, (Builtin.len_ #[60] ty #[.map (some M)]).run Tryz.prog w = .ok (.int .i64 L.length) w := fun ty => by
    rw [hown.len Tryz.underlying60 ty, hn]
  clear hown hn h
  go_enter Tryz.func15, Tryz.ntmps15
  go_wp2_with fail
  go_ret
  exact ⟨rfl, rfl⟩

def BadTo (w : World) (b : Bool) (e : Ending) (w' : World) : Prop := e = .returned (.bool b) ∧ w' = w
theorem read_bad (R : Nat) (bad : Bool) (l : List UInt8) (w : World) (h : RdB w R bad l) : Calls Tryz.prog 53 #[.pointer (some ⟨R, 0, none⟩)] w (BadTo w bad) := by
  obtain ⟨v, hb, -⟩ := h
  have c1 := cell_obj (i := 1) hb (v := .bool bad) rfl
  clear hb
  go_enter Tryz.func53, Tryz.ntmps53
  go_wp2_with fail
  go_ret
  exact ⟨rfl, rfl⟩

theorem cell_val {u : Value} {V : Nat → Prop} {w : World} {c : CellP} (h : CellV V w u c) : ∃ a d b e, u = .agg #[.slice a c.key.length d, .int .i64 c.win.1, .int .i64 c.win.2, .slice b c.data.length e] ∧ ValsIn V w (.slice a c.key.length d) c.key ∧ BytesIn V w (.slice b c.data.length e) c.data := by
  obtain ⟨kv, dv, rfl, h1, h2⟩ := h
  have h1' := h1; have h2' := h2
  obtain ⟨a, d, rfl, k1, k2, -, -⟩ := h1
  obtain ⟨b, e, rfl, k3, k4, -, -⟩ := h2
  exact ⟨a, d, b, e, rfl, h1', h2'⟩
set_option maxHeartbeats 1000000 in
/-- the function that chooses the cells of a group. -/
theorem pick_group {V : Nat → Prop} (g : Int) (G : Nat) (c : CellP) (u : Value) (w : World) (hu : CellV V w u c) (hg : ∀ x ∈ c.key, ValOk x) (ht : PowTab w) (hG : Boxed w G 3 (.int .i64 g)) :
    Calls Tryz.prog 26 #[u, .pointer (some ⟨G, 0, none⟩)] w (TruthTo w (decide ((groupK c.key : Int) = g))) := by
  obtain ⟨a, d, b, e, rfl, hk, -⟩ := cell_val hu
  have hk := hk.all
  have HK := hid hk; have HG := hid hg; have HT := hid ht
  have c0 := hG.cell
  have HB := hid hG
  clear hu hk hg ht hG
  generalize hgk : groupK c.key = q at *
  have HQ := hid hgk
  clear hgk
  go_enter Tryz.func26, Tryz.ntmps26
  go_wp2_with fail
  refine wp_region_lex (by kernel_rfl) (by kernel_rfl) Later Later.refl Later.trans (kinds [(2, fun v _ => v = .int .i64 q)]) (kinds_still (by simp +contextual)) ?_
  simp only [numbered, Nat.reduceAdd]
  refine LexS.out ?_
  iterate 2
    first
    | (refine LexS.skip rfl ?_; simp only [Act.put, List.setIfInBounds_toArray, List.set])
    | (refine LexS.one' rfl rfl ?_
       apply Exists.intro
       refine ⟨fun w hR hF => ?_, ?_⟩
       · have hP := hR
         repeat (first | replace hP := Later.of_drew hP | replace hP := Later.of_drewN hP | replace hP := Later.of_alloc hP)
         have hcs := hR.cells
         clear hR hF hP
         go_simp
         first | done | rfl
       simp only [Act.put, List.setIfInBounds_toArray, List.set])
  refine LexS.anyEq rfl rfl (fun w hR hF => ?_) ?_
  · have hP := hR
    repeat (first | replace hP := Later.of_drew hP | replace hP := Later.of_drewN hP | replace hP := Later.of_alloc hP)
    have hcs := hR.cells
    clear hF hR
    unfold Runs
    go_simp
    unfold Yield
    refine (group_any c.key _ _ (HK.out.later hP) HG.out (HT.out.later hP)).mono ?_
    rintro e w' ⟨rfl, hL⟩
    exact ⟨_, rfl, hL, by rw [HQ.out]⟩
  simp only [Act.put, List.setIfInBounds_toArray, List.set]
  iterate 3
    first
    | (refine LexS.skip rfl ?_; simp only [Act.put, List.setIfInBounds_toArray, List.set])
    | (refine LexS.one' rfl rfl ?_
       apply Exists.intro
       refine ⟨fun w hR hF => ?_, ?_⟩
       · have hP := hR
         repeat (first | replace hP := Later.of_drew hP | replace hP := Later.of_drewN hP | replace hP := Later.of_alloc hP)
         have hcs := hR.cells
         have zc0 := hP.cell c0
         clear hR hF hP
         go_simp
         first | done | rfl
       simp only [Act.put, List.setIfInBounds_toArray, List.set])
  refine LexS.nil ?_
  intro w1 hR1 hF9
  clear hF9
  repeat (first | replace hR1 := Later.of_drew hR1 | replace hR1 := Later.of_drewN hR1 | replace hR1 := Later.of_alloc hR1)
  go_wp2_with fail
  go_ret
  exact ⟨rfl, hR1⟩
end Go.Proofs.YtgcnchmnciihnaaGreatDoor
namespace Go.Proofs.YtgcnchmnciihnaaGreatDoor
set_option linter.unusedSimpArgs false
set_option linter.unusedVariables false
open Go Go.RowKit

theorem ownb {w : World} {B s n : Nat} {e : TypeId} {v : Value} {xs : List Value} (h : w.ownsRow B e s v n xs) : ∀ g, v.ownBlock = some g → B ≤ g ∧ g < w.heap.size := by
  intro g hg
  rcases h.2 with ⟨rfl, _⟩ | ⟨g', cap, cur, rfl, hb, hh, _⟩
  · cases hg
  · simp only [Value.ownBlock, Option.some.injEq] at hg
    subst hg
    exact ⟨hb, (Array.getElem?_eq_some_iff.1 hh).1⟩
theorem owns_put {w : World} {B s : Nat} {e : TypeId} {n cap g i : Nat} {xs : List Value} (h : w.ownsRow B e s (.slice (some ⟨g, 0, none⟩) n cap) n xs) (u : Value) :
    (w.setCell ⟨g, i, none⟩ u).ownsRow B e s (.slice (some ⟨g, 0, none⟩) n cap) n (xs.set i u) := by
  obtain ⟨hl, h⟩ := h
  refine ⟨by simpa using hl, .inr ?_⟩
  rcases h with ⟨h, _⟩ | ⟨g', cap', cur, hv, hb, hg, h1, h2, h3, h4⟩
  · cases h
  · simp only [Value.slice.injEq, Option.some.injEq, Addr.mk.injEq, and_true, true_and] at hv
    obtain ⟨rfl, rfl⟩ := hv
    refine ⟨g, cap, cur.setIfInBounds i u, rfl, hb, obj_setCell (i := i) hg u, h1, h2, by simpa using h3, ?_⟩
    rw [Array.toList_setIfInBounds, List.take_set, h4]
theorem owns_at {w w' : World} {B s n : Nat} {e : TypeId} {v : Value} {xs : List Value} (h : w.ownsRow B e s v n xs) (k : Later w w') : w'.ownsRow B e s v n xs :=
  ⟨h.1, h.2.imp id fun ⟨g, cp, cur, a1, a2, a3, a4⟩ => ⟨g, cp, cur, a1, a2, k.obj a3, a4⟩⟩
theorem owns_keep {S : Nat → Prop} {w w' : World} {B s n : Nat} {e : TypeId} {v : Value} {xs : List Value} (h : w.ownsRow B e s v n xs) (k : Keeps S w w') (hs : ∀ g, v.ownBlock = some g → S g) : w'.ownsRow B e s v n xs :=
  ⟨h.1, h.2.imp id fun ⟨g, cp, cur, a1, a2, a3, a4⟩ => ⟨g, cp, cur, a1, a2, k.obj (hs g (by rw [a1]; rfl)) a3, a4⟩⟩
theorem later_keep {w0 w w' : World} {B : Nat} (hL : Later w0 w) (k : Keeps (fun b => b < B) w w') (hB : w0.heap.size ≤ B) : Later w0 w' :=
  ((hL.keeps (fun b => b < B)).trans k).mono (S' := fun _ => True) (fun k hk _ => by omega) |>.later
theorem own_lt {w : World} {B s n b : Nat} {e : TypeId} {v : Value} {xs : List Value} (h : w.ownsRow B e s v n xs) (hb : b < B) : some b ≠ v.ownBlock := fun e => by have := (ownb h b e.symm).1; omega
/-- two of other types lie in other blocks. -/
theorem own_apart {w : World} {B B' s s' n m : Nat} {e e' : TypeId} {v u : Value} {xs ys : List Value} (h : w.ownsRow B e s v n xs) (k : w.ownsRow B' e' s' u m ys) (hne : e ≠ e') : ∀ b, v.ownBlock = some b → u.ownBlock ≠ some b := by
  intro b hv hu
  rcases h.2 with ⟨rfl, _⟩ | ⟨g, cap, cur, rfl, _, hg, _⟩
  · cases hv
  rcases k.2 with ⟨rfl, _⟩ | ⟨g', cap', cur', rfl, _, hg', _⟩
  · cases hu
  simp only [Value.ownBlock, Option.some.injEq] at hv hu
  subst hv hu
  rw [hg] at hg'
  injection hg' with h'
  injection h' with _ h'
  exact hne h'
theorem own_base {w : World} {B B' : Nat} {e : TypeId} {s n : Nat} {v : Value} {xs : List Value} (h : w.ownsRow B e s v n xs) (hB : B' ≤ B) : w.ownsRow B' e s v n xs :=
  ⟨h.1, h.2.imp id fun ⟨g, cap, cur, a1, a2, a3⟩ => ⟨g, cap, cur, a1, Nat.le_trans hB a2, a3⟩⟩
/-- values of one's own, in the slice's own block. -/
theorem owned_vals_at {w : World} {base : Nat} {e : TypeId} {v : Value} {n : Nat} {l : List Val} (h : w.ownsRow base e 3 v n (valCells l)) : ValsIn (fun b => v.ownBlock = some b) w v l := by
  obtain ⟨a, c, rfl, h1, h2, h3, h4⟩ := owned_vals h
  exact ⟨a, c, rfl, h1, h2, h3, fun i hi => let ⟨b, o, ha, _, hx⟩ := h4 i hi; ⟨b, o, ha, by subst ha; rfl, hx⟩⟩
end Go.Proofs.YtgcnchmnciihnaaGreatDoor
namespace Go.Proofs.YtgcnchmnciihnaaGreatDoor
set_option linter.unusedSimpArgs false
set_option linter.unusedVariables false
open Go.RowKit

def AtTo (w : World) (i : Idn) (e : Ending) (w' : World) : Prop := e = .returned (keyV i) ∧ Later w w'
set_option maxRecDepth 100000 in
set_option maxHeartbeats 2000000 in
theorem at_any (i : Idn) (v : Value) (w : World) (hv : IsVals w v i.2) (hi : IdOk i) :
    Calls Tryz.prog 17 #[v, .agg #[.int .i64 i.1.1, .int .i64 i.1.2]] w (AtTo w i) := by
  obtain ⟨⟨f, t⟩, key⟩ := i
  have HI := hid hi
  have HV := hid hv
  obtain ⟨a, c, rfl, hlc, hcm, -, hel⟩ := hv
  have HE := hid hel
  have hlen : key.length ≤ 8 := hi.len
  simp only at HV HE ⊢
  clear hi hel hlc
  go_enter Tryz.func17, Tryz.ntmps17
  go_upto_region 1 with (fail)
  obtain ⟨w2, hw2⟩ : ∃ w2, w2 = (w.alloc (.cells #[.int .i64 f, .int .i64 t] 34 (0, 0))).alloc (.cells #[.string ⟨#[]⟩, .int .i64 0, .int .i64 0] 65 (0, 0)) := ⟨_, rfl⟩
  obtain ⟨X, hX⟩ : ∃ X, X = w.heap.size := ⟨_, rfl⟩
  have HL2 : Hid (Later w w2) := hid (by rw [hw2]; exact Later.trans _ _ _ (Later.alloc _ _) (Later.alloc _ _))
  have HO3 : Hid (w2.heap[X]? = some (.cells #[.int .i64 f, .int .i64 t] 34 (0, 0))) := hid (by rw [hw2, hX]; exact (Later.alloc _ _).obj (obj_new _ _))
  have HO4 : Hid (w2.heap[X + 1]? = some (.cells #[.string ⟨#[]⟩, .int .i64 0, .int .i64 0] 65 (0, 0))) := hid (by rw [hw2, hX]; exact obj_at (World.size_alloc _ _).symm)
  have HX : Hid (w.heap.size ≤ X) := hid (by omega)
  rw [← hw2, ← hX]
  clear hw2 hX hcm
  go_wp2_with fail
  obtain ⟨R1, hR1⟩ : ∃ RR_ : (Nat → Value) → World → Prop, RR_ = (fun us wx => ∃ (k : Nat) (bv : Value), k ≤ key.length ∧ us 10 = .int .i64 k ∧ us 5 = bv ∧ wx.ownsRow w2.heap.size 5 1 bv (encVals (key.take k)).length (byteCells (encVals (key.take k))) ∧ Later w2 wx) := ⟨_, rfl⟩
  obtain ⟨mu1, hmu1⟩ : ∃ mu : (Nat → Value) → World → Nat, mu = (fun us _ => key.length - (intOf (us 10)).toNat) := ⟨_, rfl⟩
  have HR1 := hid hR1; have Hmu1 := hid hmu1; clear hR1 hmu1
  refine wp_loop_frame' [false, false, false, false, false, true, false, true, false, false, true, true, true, true, true, true, true, true] R1 _ mu1 HR1.out ?_ ?_
  · exact ⟨0, _, by omega, rfl, rfl, ⟨rfl, .inl ⟨rfl, rfl⟩⟩, Later.refl _⟩
  intro us1 wx hrel
  obtain ⟨k, bv, hk, h10, h5, ho, hL⟩ := hrel
  simp only [frameOf, Nat.reduceAdd, h10, h5]
  have Hh10 := hid h10; clear h10
  have Hh5 := hid h5; clear h5
  have HO := hid ho; have HL := hid hL
  clear ho hL
  by_cases hlt : k < key.length
  · obtain ⟨b1, o1, rfl, -, e1⟩ := HE.out k hlt
    obtain ⟨p1, p2, p3⟩ := e1.later (Later.trans _ _ _ HL2.out HL.out)
    have HTK := hid (encVals_take hlt)
    have HOKX := hid (HI.out.ok _ (List.getElem_mem hlt))
    have HSZ : Hid ((encVals (key.take k) ++ encVal key[k]).length + 30 ≤ 70368744177664) := hid (by
      rw [← encVals_take hlt]
      have h1 := encVals_len (l := key.take (k + 1)) fun x hx => HI.out.val x (List.mem_of_mem_take hx)
      have h2 : (key.take (k + 1)).length ≤ key.length := by rw [List.length_take]; omega
      omega)
    generalize key[k] = x at *
    generalize encVals (key.take k) = l at *
    obtain ⟨xk, xn, xt⟩ := x
    simp only at p1 p2 p3
    clear e1
    go_wp2_with fail
    have hLx := Later.alloc wx (.cells #[.int .i64 xk, .int .i64 xn, .string xt] 52 (0, 0))
    refine (put_value w2.heap.size bv l ⟨xk, xn, xt⟩ _ HOKX.out (owns_at HO.out hLx) (by have := HL.out.size; rw [World.size_alloc]; omega) HSZ.out).mono ?_
    rintro e w5 ⟨v5, rfl, hp⟩
    have hLw5 : Later w2 w5 := later_keep (Later.trans _ _ _ HL.out hLx) (hp.keep.mono fun b _ hb e => by have := (ownb (owns_at HO.out hLx) b e.symm).1; omega) (Nat.le_refl _)
    have HOW := hid hp.own
    have HL5 := hid hLw5
    clear hp hLw5 hLx p1 p2 p3
    go_wp2_with fail
    refine Round.mk' HR1.out Hmu1.out rfl ?_ ?_
    · exact ⟨k + 1, v5, by omega, by go_num, rfl, by rw [HTK.out]; exact HOW.out, HL5.out⟩
    · rw [Hh10.out]; simp [intOf, slots]; omega
  · obtain rfl : k = key.length := by omega
    rw [List.take_length] at HO
    have hstr := (owned_bytes HO.out).string Tryz.underlying35 Tryz.underlying5 Tryz.underlying9 (P := Tryz.prog)
    have x0 := cell_obj (i := 0) (HL.out.obj HO3.out) (v := .int .i64 f) rfl
    have x1 := cell_obj (i := 1) (HL.out.obj HO3.out) (v := .int .i64 t) rfl
    have HX4 := hid (HL.out.obj HO4.out)
    have z0 := cell_obj (i := 0) HX4.out (v := .string ⟨#[]⟩) rfl
    have z1 := cell_obj (i := 1) HX4.out (v := .int .i64 0) rfl
    have z2 := cell_obj (i := 2) HX4.out (v := .int .i64 0) rfl
    have g0 := free_obj (i := 0) HX4.out
    have g1 := free_obj (i := 1) HX4.out
    have g2 := free_obj (i := 2) HX4.out
    obtain ⟨ba, bc, hbv⟩ := ownsRow_slice HO.out
    subst hbv
    go_wp2_with fail
    refine bodyPost_ret (v := keyV ((f, t), key)) ?_ rfl ⟨rfl, ?_⟩
    · rw [results_cell2 (t := 4) (ty := 65) rfl]
      go_simp
      rfl
    · refine later_keep (Later.trans _ _ _ HL2.out HL.out) (B := w.heap.size) ?_ (Nat.le_refl _)
      exact ((((Keeps.refl _ _).setCell (.inl (by simp; have := HX.out; omega)) _).setCell (.inl (by simp; have := HX.out; omega)) _).setCell (.inl (by simp; have := HX.out; omega)) _)
end Go.Proofs.YtgcnchmnciihnaaGreatDoor
namespace Go.Proofs.YtgcnchmnciihnaaGreatDoor
set_option linter.unusedSimpArgs false
set_option linter.unusedVariables false
open Go.RowKit

theorem cmpK (a b : Int) (w : World) : Calls Tryz.prog 96 #[.int .i64 a, .int .i64 b] w fun e w' => e = .returned (.int .i64 (cmpI a b)) ∧ w = w' := by
  rcases Int.lt_trichotomy a b with h | h | h
  · have hv : Hid (cmpI a b = -1) := by unfold cmpI Hid; simp [h]
    go_enter Tryz.func96, Tryz.ntmps96
    go_wp2
    go_ret
    exact ⟨ret_int hv.out.symm, rfl⟩
  · subst h
    have hv : Hid (cmpI a a = 0) := by unfold cmpI Hid; simp
    go_enter Tryz.func96, Tryz.ntmps96
    go_wp2
    go_ret
    exact ⟨ret_int hv.out.symm, rfl⟩
  · have hv : Hid (cmpI a b = 1) := by unfold cmpI Hid; rw [if_neg (by omega), if_pos h]
    have h' : ¬ a < b := by omega
    go_enter Tryz.func96, Tryz.ntmps96
    go_wp2
    go_ret
    exact ⟨ret_int hv.out.symm, rfl⟩
theorem cmpN (a b : Int) (w : World) : Calls Tryz.prog 95 #[.int .i64 a, .int .i64 b] w fun e w' => e = .returned (.int .i64 (cmpI a b)) ∧ w = w' := by
  rcases Int.lt_trichotomy a b with h | h | h
  · have hv : Hid (cmpI a b = -1) := by unfold cmpI Hid; simp [h]
    go_enter Tryz.func95, Tryz.ntmps95
    go_wp2
    go_ret
    exact ⟨ret_int hv.out.symm, rfl⟩
  · subst h
    have hv : Hid (cmpI a a = 0) := by unfold cmpI Hid; simp
    go_enter Tryz.func95, Tryz.ntmps95
    go_wp2
    go_ret
    exact ⟨ret_int hv.out.symm, rfl⟩
  · have hv : Hid (cmpI a b = 1) := by unfold cmpI Hid; rw [if_neg (by omega), if_pos h]
    have h' : ¬ a < b := by omega
    go_enter Tryz.func95, Tryz.ntmps95
    go_wp2
    go_ret
    exact ⟨ret_int hv.out.symm, rfl⟩


theorem or_any (b : Nat) (l : List Int) (c : Nat) (w : World) (hl : l.length ≤ 100) (hc : ∀ i (h : i < l.length), w.cell? ⟨b, i, none⟩ = some (.int .i64 l[i])) :
    Calls Tryz.prog 73 #[.slice (some ⟨b, 0, none⟩) l.length c] w fun e w' => e = .returned (.int .i64 (orL l)) ∧ w = w' := by
  go_enter Tryz.func73, Tryz.ntmps73
  go_wp2
  go_loop [8] (fun i => ∃ n : Nat, n ≤ l.length ∧ i = .int .i64 n ∧ ∀ j (h : j < l.length), j < n → l[j] = 0) (fun i => l.length - (intOf i).toNat)
  case atStart => exact ⟨0, by omega, rfl, fun j h h' => by omega⟩
  case round =>
    obtain ⟨n, hn, rfl, hz⟩ := hrel
    have HZ := hid hz; clear hz
    by_cases hlt : n < l.length
    · have h1 := hc n hlt
      have HC := hid hc; clear hc
      by_cases h0 : l[n] = 0
      · have H0 := hid h0
        rw [h0] at h1; clear h0
        go_wp2
        go_round
        case rel => 
          refine ⟨n + 1, by omega, by go_num, fun j h h' => ?_⟩
          by_cases hj : j = n
          · subst hj; exact H0.out
          · exact HZ.out j h (by omega)
        case measure => simp [intOf]; omega
      · have hr : Hid (orL l = l[n]) := by
          unfold Hid orL
          have : l.find? (fun x => x != 0) = some l[n] := by
            rw [List.find?_eq_some_iff_getElem]
            exact ⟨by simpa using h0, n, hlt, rfl, fun j hj => by simpa using HZ.out j (by omega) hj⟩
          rw [this]; rfl
        have h0' : (l[n] != 0) = true := by simpa using h0
        go_wp2
        go_ret
        exact ⟨ret_int hr.out.symm, rfl⟩
    · have hr : Hid (orL l = 0) := by
        unfold Hid orL
        have : l.find? (fun x => x != 0) = none := by
          rw [List.find?_eq_none]
          intro x hx
          obtain ⟨j, hj, rfl⟩ := List.getElem_of_mem hx
          simpa using HZ.out j hj (by omega)
        rw [this]; rfl
      clear hc
      go_wp2
      go_ret
      exact ⟨ret_int hr.out.symm, rfl⟩


set_option maxRecDepth 100000 in
theorem compare_any (x y : Val) (w : World) :
    Calls Tryz.prog 76 #[x.v, y.v] w fun e w' => e = .returned (.int .i64 (compareV x y)) ∧ Later w w' := by
  obtain ⟨k1, n1, t1⟩ := x
  obtain ⟨k2, n2, t2⟩ := y
  unfold compareV
  go_enter Tryz.func76, Tryz.ntmps76
  go_wp2
  refine wp_region_lex (by kernel_rfl) (by kernel_rfl) Later Later.refl Later.trans (kinds [(4, fun v _ => v = .int .i64 (cmpI k1 k2)), (9, fun v _ => v = .int .i64 (cmpI n1 n2)), (14, fun v _ => v = .int .i64 (Lib.compareBytes t1.data.toList t2.data.toList)), (15, fun v w => ∃ b, v = .slice (some ⟨b, 0, none⟩) 3 3 ∧ w.heap[b]? = some (.cells #[.int .i64 (cmpI k1 k2), .int .i64 (cmpI n1 n2), .int .i64 (Lib.compareBytes t1.data.toList t2.data.toList)] 3 (0, 0))), (16, fun v _ => v = .int .i64 (orL [cmpI k1 k2, cmpI n1 n2, Lib.compareBytes t1.data.toList t2.data.toList]))]) (kinds_still (by simp only [List.mem_cons, List.not_mem_nil, or_false, forall_eq_or_imp, forall_eq]; exact ⟨fun _ _ _ _ h => h, fun _ _ _ _ h => h, fun _ _ _ _ h => h, fun _ _ _ hR ⟨b, h, h'⟩ => ⟨b, h, hR.obj h'⟩, fun _ _ _ _ h => h⟩)) ?_
  simp only [numbered, Nat.reduceAdd]
  iterate 4
    first
    | (refine Lex.skip rfl ?_; simp only [Act.put, List.setIfInBounds_toArray, List.set])
    | (refine Lex.one' rfl rfl ?_
       apply Exists.intro
       refine ⟨fun w hR hF => ?_, ?_⟩
       · have hP := hR
         repeat (first | replace hP := Later.of_drew hP | replace hP := Later.of_drewN hP | replace hP := Later.of_alloc hP)
         have hcs := hR.cells
         clear hR hF hP
         go_simp
         first | done | rfl
       simp only [Act.put, List.setIfInBounds_toArray, List.set])
  refine Lex.anyEq rfl rfl (fun w hR hF => ?_) ?_
  · have hP := hR
    repeat (first | replace hP := Later.of_drew hP | replace hP := Later.of_drewN hP | replace hP := Later.of_alloc hP)
    have hcs := hR.cells
    clear hF hR
    unfold Runs
    go_simp
    unfold Yield
    refine (cmpK k1 k2 _).mono ?_
    rintro e w' ⟨rfl, rfl⟩
    exact ⟨_, rfl, Later.refl _, rfl⟩
  simp only [Act.put, List.setIfInBounds_toArray, List.set]
  iterate 4
    first
    | (refine Lex.skip rfl ?_; simp only [Act.put, List.setIfInBounds_toArray, List.set])
    | (refine Lex.one' rfl rfl ?_
       apply Exists.intro
       refine ⟨fun w hR hF => ?_, ?_⟩
       · have hP := hR
         repeat (first | replace hP := Later.of_drew hP | replace hP := Later.of_drewN hP | replace hP := Later.of_alloc hP)
         have hcs := hR.cells
         clear hR hF hP
         go_simp
         first | done | rfl
       simp only [Act.put, List.setIfInBounds_toArray, List.set])
  refine Lex.anyEq rfl rfl (fun w hR hF => ?_) ?_
  · have hP := hR
    repeat (first | replace hP := Later.of_drew hP | replace hP := Later.of_drewN hP | replace hP := Later.of_alloc hP)
    have hcs := hR.cells
    clear hF hR
    unfold Runs
    go_simp
    unfold Yield
    refine (cmpN n1 n2 _).mono ?_
    rintro e w' ⟨rfl, rfl⟩
    exact ⟨_, rfl, Later.refl _, rfl⟩
  simp only [Act.put, List.setIfInBounds_toArray, List.set]
  iterate 4
    first
    | (refine Lex.skip rfl ?_; simp only [Act.put, List.setIfInBounds_toArray, List.set])
    | (refine Lex.one' rfl rfl ?_
       apply Exists.intro
       refine ⟨fun w hR hF => ?_, ?_⟩
       · have hP := hR
         repeat (first | replace hP := Later.of_drew hP | replace hP := Later.of_drewN hP | replace hP := Later.of_alloc hP)
         have hcs := hR.cells
         clear hR hF hP
         go_simp
         first | done | rfl
       simp only [Act.put, List.setIfInBounds_toArray, List.set])
  refine Lex.anyEq rfl rfl (fun w hR hF => ?_) ?_
  · have hP := hR
    repeat (first | replace hP := Later.of_drew hP | replace hP := Later.of_drewN hP | replace hP := Later.of_alloc hP)
    have hcs := hR.cells
    clear hF hR
    unfold Runs
    go_simp
    unfold Yield
    refine (Tryz.strings_Compare t1 t2 _).mono ?_
    rintro e w' ⟨rfl, rfl⟩
    exact ⟨_, rfl, Later.refl _, rfl⟩
  simp only [Act.put, List.setIfInBounds_toArray, List.set]
  refine Lex.any rfl rfl (fun w hR hF => ?_) ?_
  · clear hF hR
    unfold Runs
    go_simp
    exact yield_value (Later.alloc _ _) ⟨_, rfl, obj_new _ _⟩
  rintro v15 ⟨w2, hR2, hF2⟩
  obtain ⟨b, rfl, -⟩ := hF2 _ List.mem_cons_self _ rfl
  clear hF2 hR2 w2
  simp only [Act.put, List.setIfInBounds_toArray, List.set]
  refine Lex.anyEq rfl rfl (fun w hR hF => ?_) ?_
  · obtain ⟨b', hb, h15⟩ := hF _ List.mem_cons_self (by kernel_rfl) _ rfl
    simp only [Value.slice.injEq, Option.some.injEq, Addr.mk.injEq] at hb
    obtain ⟨⟨rfl, -, -⟩, -, -⟩ := hb
    clear hF hR
    unfold Runs
    go_simp
    refine yield_enter ?_
    refine (or_any b [cmpI k1 k2, cmpI n1 n2, Lib.compareBytes t1.data.toList t2.data.toList] 3 w (by simp) ?_).mono ?_
    · intro i hi
      exact cell_obj h15 (by simp only [List.getElem?_toArray, List.length_cons, List.length_nil] at hi ⊢; match i, hi with | 0, _ => rfl | 1, _ => rfl | 2, _ => rfl)
    · rintro e w' ⟨rfl, rfl⟩
      exact ⟨_, rfl, Later.refl _, rfl⟩
  simp only [Act.put, List.setIfInBounds_toArray, List.set]
  iterate 1
    first
    | (refine Lex.skip rfl ?_; simp only [Act.put, List.setIfInBounds_toArray, List.set])
    | (refine Lex.one' rfl rfl ?_
       apply Exists.intro
       refine ⟨fun w hR hF => ?_, ?_⟩
       · have hP := hR
         repeat (first | replace hP := Later.of_drew hP | replace hP := Later.of_drewN hP | replace hP := Later.of_alloc hP)
         have hcs := hR.cells
         clear hR hF hP
         go_simp
         first | done | rfl
       simp only [Act.put, List.setIfInBounds_toArray, List.set])
  intro w1 hR1 hF9
  clear hF9
  go_wp2
  go_ret
  repeat (first | replace hR1 := Later.of_drew hR1 | replace hR1 := Later.of_drewN hR1 | replace hR1 := Later.of_alloc hR1)
  exact ⟨rfl, hR1⟩

end Go.Proofs.YtgcnchmnciihnaaGreatDoor
