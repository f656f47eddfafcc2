/-
  PROVED HERE: offsets and pieces in slices of one's own; the contracts of what disk.Unpack calls.
-/
import Derived.Test.YthfgjmdmcoogpaaDoorDisk
import Derived.Test.YthfgjmdmcoogpaaDoorCopy
import Derived.Laws.AppendOwn
namespace Go.Proofs.YthfgjmdmcoogpaaDoor
set_option linter.unusedSimpArgs false
set_option linter.unusedVariables false
open Go.RowKit

def offCells (l : List Off) : List Value := l.flatMap fun x => [.int .i64 x.1, .int .i64 x.2.1, .int .i64 x.2.2]
theorem offCells_snoc (l : List Off) (x : Off) : offCells (l ++ [x]) = offCells l ++ [.int .i64 x.1, .int .i64 x.2.1, .int .i64 x.2.2] := by simp [offCells]
theorem offCells_length (l : List Off) : (offCells l).length = l.length * 3 := by
  induction l with
  | nil => rfl
  | cons x l ih => simp only [offCells, List.flatMap_cons, List.length_append, List.length_cons, List.length_nil] at ih ⊢; omega
theorem offCells_at : ∀ (l : List Off) (i : Nat) (h : i < l.length), (offCells l)[i * 3]? = some (.int .i64 (l[i]'h).1) ∧ (offCells l)[i * 3 + 1]? = some (.int .i64 (l[i]'h).2.1) ∧ (offCells l)[i * 3 + 2]? = some (.int .i64 (l[i]'h).2.2)
  | x :: l, 0, _ => ⟨rfl, rfl, rfl⟩
  | x :: l, i + 1, h => by
    have ih := offCells_at l i (by simpa using h)
    have e : offCells (x :: l) = .int .i64 x.1 :: .int .i64 x.2.1 :: .int .i64 x.2.2 :: offCells l := rfl
    rw [e, show (i + 1) * 3 = i * 3 + 1 + 1 + 1 by omega]
    simpa using ih
theorem owned_offs {w : World} {B n : Nat} {e : TypeId} {v : Value} {l : List Off} (h : w.ownsRow B e 3 v n (offCells l)) : OffsIn (fun b => B ≤ b) w v l := by
  obtain ⟨hn, hc⟩ := h
  rw [offCells_length] at hn
  obtain rfl : l.length = n := by omega
  rcases hc with ⟨rfl, h0⟩ | ⟨g, cap, cur, rfl, hb, hg, hle, hm, hcs, ht⟩
  · have : l = [] := List.eq_nil_of_length_eq_zero h0
    subst this
    exact ⟨none, 0, rfl, Nat.le_refl _, by unfold maxLen; omega, fun _ => rfl, fun i hi => (by cases hi)⟩
  · refine ⟨_, cap, rfl, hle, hm, fun h => (by cases h), fun i hi => ⟨g, 0, rfl, hb, ?_⟩⟩
    have cell : ∀ j u, (offCells l)[j]? = some u → w.cell? ⟨g, j, none⟩ = some u := fun j u hu => by
      refine cell_obj hg ?_
      rw [← ht, List.getElem?_take] at hu
      split at hu
      · simpa using hu
      · cases hu
    obtain ⟨h1, h2, h3⟩ := offCells_at l i hi
    unfold OffAt
    simp only [Nat.zero_add]
    exact ⟨cell _ _ h1, cell _ _ h2, cell _ _ h3⟩

def heldCells : List Held → List Value → List Value
  | h :: hs, v :: vs => .int .i64 h.node :: .int .i64 h.group :: v :: heldCells hs vs
  | _, _ => []
theorem heldCells_length : ∀ (hs : List Held) (vs : List Value), vs.length = hs.length → (heldCells hs vs).length = hs.length * 3
  | [], vs, h => by cases vs <;> simp_all [heldCells]
  | r :: rs, v :: vs, h => by
    have ih := heldCells_length rs vs (by simpa using h)
    simp only [heldCells, List.length_cons, ih]; omega
  | _ :: _, [], h => by simp at h
theorem heldCells_snoc : ∀ (hs : List Held) (vs : List Value) (r : Held) (v : Value), vs.length = hs.length → heldCells (hs ++ [r]) (vs ++ [v]) = heldCells hs vs ++ [.int .i64 r.node, .int .i64 r.group, v]
  | [], vs, r, v, h => by cases vs <;> simp_all [heldCells]
  | r' :: rs, v' :: vs, r, v, h => by
    have ih := heldCells_snoc rs vs r v (by simpa using h)
    simp only [List.cons_append, heldCells, ih]
  | _ :: _, [], r, v, h => by simp at h
theorem heldCells_get : ∀ (hs : List Held) (vs : List Value) (hl : vs.length = hs.length) (i : Nat) (h : i < hs.length), (heldCells hs vs)[i * 3]? = some (.int .i64 (hs[i]'h).node) ∧ (heldCells hs vs)[i * 3 + 1]? = some (.int .i64 (hs[i]'h).group) ∧ (heldCells hs vs)[i * 3 + 2]? = some (vs[i]'(by omega))
  | r :: rs, v :: vs, hl, 0, _ => ⟨rfl, rfl, rfl⟩
  | r :: rs, v :: vs, hl, i + 1, h => by
    have ih := heldCells_get rs vs (by simpa using hl) i (by simpa using h)
    rw [show (i + 1) * 3 = i * 3 + 1 + 1 + 1 by omega]
    simpa [heldCells] using ih
  | _ :: _, [], hl, _, _ => by simp at hl
def HeldsOwnF (B : Nat) (w : World) (sv : Value) (hs : List Held) : Prop :=
  ∃ vs : List Value, ∃ hl : vs.length = hs.length, w.ownsRow B 158 3 sv hs.length (heldCells hs vs) ∧ ∀ i (h : i < hs.length), BytesIn (fun b => B ≤ b ∧ some b ≠ sv.ownBlock ∧ b < w.heap.size) w (vs[i]'(by omega)) (hs[i]'h).bytes
theorem heldsF_nil (B : Nat) (w : World) : HeldsOwnF B w (.slice none 0 0) [] := ⟨[], rfl, ⟨rfl, .inl ⟨rfl, rfl⟩⟩, fun i hi => by cases hi⟩
theorem helds_add {B : Nat} {w w' : World} {sv sv' v : Value} {hs : List Held} {r : Held} {vs : List Value} (hl : vs.length = hs.length)
    (hvs : ∀ i (h : i < hs.length), BytesIn (fun b => B ≤ b ∧ some b ≠ sv.ownBlock ∧ b < w.heap.size) w (vs[i]'(by omega)) (hs[i]'h).bytes) (hv : BytesIn (fun b => B ≤ b ∧ some b ≠ sv.ownBlock ∧ b < w.heap.size) w v r.bytes)
    (hA : Appended w B 158 3 sv (hs.length + 1) (heldCells hs vs ++ [.int .i64 r.node, .int .i64 r.group, v]) sv' w') : HeldsOwnF B w' sv' (hs ++ [r]) := by
  obtain ⟨h1, h2, h3⟩ := hA
  have key : ∀ b, (B ≤ b ∧ some b ≠ sv.ownBlock ∧ b < w.heap.size) → B ≤ b ∧ some b ≠ sv'.ownBlock ∧ b < w'.heap.size := fun b hb => ⟨hb.1, by
    rcases h3 with h3 | ⟨g, h3, hg⟩
    · rw [h3]; exact hb.2.1
    · rw [h3]; intro e; injection e with e; omega, Nat.lt_of_lt_of_le hb.2.2 (Keeps.of_grown h2).size⟩
  have hk : Keeps (fun b => B ≤ b ∧ some b ≠ sv.ownBlock ∧ b < w.heap.size) w w' := (Keeps.of_grown h2).mono fun _ _ h => h.2.1
  have mv : ∀ (u : Value) (l : List UInt8), BytesIn (fun b => B ≤ b ∧ some b ≠ sv.ownBlock ∧ b < w.heap.size) w u l → BytesIn (fun b => B ≤ b ∧ some b ≠ sv'.ownBlock ∧ b < w'.heap.size) w' u l := fun u l h => (h.bytes_kept hk fun _ hb => hb).bytes_mono key
  refine ⟨vs ++ [v], by simp [hl], by rw [heldCells_snoc _ _ _ _ hl]; simpa using h1, fun i hi => ?_⟩
  by_cases hlt : i < hs.length
  · simp only [List.getElem_append_left hlt, List.getElem_append_left (by omega : i < vs.length)]
    exact mv _ _ (hvs i hlt)
  · obtain rfl : i = hs.length := by simp at hi; omega
    have e1 : (vs ++ [v])[hs.length]'(by simp [hl]) = v := by simp [← hl]
    have e2 : (hs ++ [r])[hs.length]'(by simp) = r := by simp
    simp only [e1, e2]
    exact mv _ _ hv
theorem HeldsOwnF.helds {B : Nat} {w : World} {sv : Value} {hs : List Held} (h : HeldsOwnF B w sv hs) : HeldsIn (fun b => B ≤ b) w sv hs := by
  obtain ⟨vs, hl, ⟨hn, hv⟩, hvs⟩ := h
  rcases hv with ⟨rfl, h0⟩ | ⟨g, cap, cur, rfl, hb, hg, hle, hm, hc, ht⟩
  · have : hs = [] := List.eq_nil_of_length_eq_zero h0
    subst this
    exact ⟨none, 0, rfl, Nat.le_refl _, by unfold maxLen; omega, fun _ => rfl, fun i hi => by cases hi⟩
  · refine ⟨_, cap, rfl, hle, hm, fun h => (by cases h), fun i hi => ⟨g, 0, rfl, hb, ?_⟩⟩
    have cell : ∀ j u, (heldCells hs vs)[j]? = some u → w.cell? ⟨g, j, none⟩ = some u := fun j u hu => by
      refine cell_obj hg ?_
      rw [← ht, List.getElem?_take] at hu
      split at hu
      · simpa using hu
      · cases hu
    obtain ⟨h1, h2, h3⟩ := heldCells_get hs vs hl i hi
    unfold HeldAt
    simp only [Nat.zero_add]
    exact ⟨cell _ _ h1, cell _ _ h2, _, cell _ _ h3, (hvs i hi).bytes_mono fun b hb => hb.1⟩
theorem HeldsOwnF.keep {S : Nat → Prop} {B : Nat} {w w' : World} {sv : Value} {hs : List Held} (h : HeldsOwnF B w sv hs) (k : Keeps S w w') (hS : ∀ b, B ≤ b → b < w.heap.size → S b) : HeldsOwnF B w' sv hs := by
  obtain ⟨vs, hl, ho, hv⟩ := h
  exact ⟨vs, hl, own_keep ho k hS, fun i hi => ((hv i hi).bytes_kept k fun b hb => hS b hb.1 hb.2.2).bytes_mono fun b hb => ⟨hb.1, hb.2.1, Nat.lt_of_lt_of_le hb.2.2 k.size⟩⟩

section
variable {P : Program} {w : World}
/-- []byte(s): bytes of one's own. -/
theorem wpList_bytes_new {ops : Array Oper} {rest : List Oper} {o : Oper} {a : Act} {Q : Exit → Act → World → Prop} (hgd : o.guard = none) (x : Operand) (src dst e : TypeId)
    (ho : o.op = .convert src dst x) (hs : P.underlying src = some .string) (hd : P.underlying dst = some (.slice e)) (he : P.underlying e = some (.int .u8)) (s : ByteArray) (hx : a.eval x = .string s) (hm : s.size ≤ maxLen)
    (h : ∀ c w', Later w w' → w'.heap.size = w.heap.size + 1 → BytesIn (fun b => b = w.heap.size) w' (.slice (some ⟨w.heap.size, 0, none⟩) s.size c) s.data.toList → wpList P ops Q rest (a.put o.dst (.slice (some ⟨w.heap.size, 0, none⟩) s.size c)) w') :
    wpList P ops Q (o :: rest) a w := by
  refine wpList_plain hgd fun K hK => ?_
  have hr := run_bytes_of_string (P := P) w src dst e s hs hd he
  unfold Oper.wp execOp
  simp only [ho, hx, Sem.run_bind, Sem.run_pure, Result.andThen_ok, hr]
  have hsz2 : s.data.toList.length = s.size := by rw [Array.length_toList]; rfl
  refine hK _ _ (h _ _ ((Later.drew w).alloc' _) (by simp [World.alloc]) ⟨_, _, by rw [hsz2], by rw [hsz2]; exact grownCap_ge _ _ _ _, grownCap_le_maxLen _ _ _ _ hm, fun h => (by cases h), fun k hk => ⟨w.heap.size, 0, rfl, rfl, ?_⟩⟩)
  have hsz : w.drew.heap.size = w.heap.size := rfl
  unfold ByteAt
  rw [← hsz]
  refine cell_obj (obj_new w.drew _) ?_
  unfold bytesRow
  have hk' : k < s.data.size := by simpa using hk
  rw [Nat.mul_one, Nat.zero_add, Array.getElem?_append_left (by simpa using hk')]
  simp
  exact ⟨s.data[k], by simp [hk'], rfl⟩
end

def NumTo83 (w : World) (R : Nat) (n : Int) (rest : List UInt8) (e : Ending) (w' : World) : Prop := e = .returned (.int .i64 n) ∧ RdB w' R false rest ∧ Keeps (fun b => b ≠ R) w w'
theorem i64_range {n : Int} (h : I64 n) : -9223372036854775808 ≤ n ∧ n ≤ 9223372036854775807 := by
  unfold I64 at h
  simpa [Lit.wf, IntKind.min, IntKind.max, IntKind.bits, IntKind.signed] using h
theorem number_any (ty : TypeId) (Bx R : Nat) (n : Int) (rest : List UInt8) (w : World) (hb : w.heap[Bx]? = some (.cells #[.pointer (some ⟨R, 0, none⟩)] ty (0, 0))) (hr : RdB w R false (encInt n ++ rest)) (hn : I64 n) :
    Calls Tryd.prog 83 #[.pointer (some ⟨Bx, 0, none⟩)] w (NumTo83 w R n rest) := by
  have c0 := cell_obj (i := 0) hb rfl
  have HR := hid hr; have HN := hid hn
  clear hb hr hn
  go_enter Tryd.func83, Tryd.ntmps83
  go_wp2_with fail
  refine (read_int R _ _ HR.out).mono ?_
  rintro e w1 ⟨hk, hT⟩
  rw [dInt_enc (i64_range HN.out).1 (i64_range HN.out).2] at hT
  obtain ⟨rfl, hr⟩ := hT
  have HR1 := hid hr; have HK := hid hk
  clear hr hk
  go_wp2_with fail
  go_ret
  exact ⟨rfl, HR1.out, HK.out⟩
def BadTo (w : World) (e : Ending) (w' : World) : Prop := e = .returned (.bool false) ∧ w' = w
theorem bad_no (R : Nat) (l : List UInt8) (w : World) (hr : RdB w R false l) : Calls Tryd.prog 85 #[.pointer (some ⟨R, 0, none⟩)] w (BadTo w) := by
  obtain ⟨v, ho, -⟩ := hr
  have r1 := cell_obj (i := 1) ho (v := .bool false) rfl
  clear ho
  go_enter Tryd.func85, Tryd.ntmps85
  go_wp2_with fail
  go_ret
  exact ⟨rfl, rfl⟩
def TextGot (w : World) (R : Nat) (b : List UInt8) (rest : List UInt8) (e : Ending) (w' : World) : Prop := e = .returned (.string (strB b)) ∧ RdB w' R false rest ∧ Keeps (fun b => b ≠ R) w w'
theorem text_got (R : Nat) (b rest : List UInt8) (w : World) (hr : RdB w R false (encInt b.length ++ (b ++ rest))) (hb : b.length ≤ 20000000) : Calls Tryd.prog 86 #[.pointer (some ⟨R, 0, none⟩)] w (TextGot w R b rest) := by
  have e1 : dText (encInt b.length ++ (b ++ rest)) = some (strB b, rest) := by
    have := dText_enc (strB b) (by rw [strB_size]; omega) rest
    unfold encText at this
    rw [strB_size, List.append_assoc] at this
    exact this
  refine (read_text R _ _ hr).mono ?_
  rintro e w1 ⟨hk, hT⟩
  rw [e1] at hT
  exact ⟨hT.1, hT.2, hk⟩
end Go.Proofs.YthfgjmdmcoogpaaDoor
