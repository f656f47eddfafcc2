/-
  PROVED HERE: in plain Lean: the bytes of a group's cells, of a store's pieces; how long they are; read back they are the cells. No program of its own.
  PROVED HERE: the contract of wire.Seal; a byte of a slice written over.
  PROVED HERE: pieces in memory; the contract of Store.Save.
  PROVED HERE: taking an operation of a drawn region, its slot written out. No program of its own.
-/
import Derived.Test.YtgcnchmnciihnaaGreatDoorGReaderKit
import Derived.Test.YtgcnchmnciihnaaGreatDoorGReadNew
import Derived.Test.YtgcnchmnciihnaaGreatDoorGPutLaws
import Derived.Test.YtgcnchmnciihnaaGreatDoorGAppX
import Derived.Deep.RegionHeld
import Derived.WalkKit
namespace Go.Proofs.YtgcnchmnciihnaaGreatDoor
set_option linter.unusedSimpArgs false
set_option linter.unusedVariables false
open Go Go.RowKit

def encCell (c : CellP) : List UInt8 := encInt c.key.length ++ (encVals c.key ++ (encInt c.win.1 ++ (encInt c.win.2 ++ (encInt c.data.length ++ c.data))))
def encCells (l : List CellP) : List UInt8 := encInt l.length ++ l.flatMap encCell
def inGroup (g : Int) (c : CellP) : Bool := decide ((groupK c.key : Int) = g)
/-- the pieces of the groups lo .. lo + n - 1. -/
def piecesN (lo : Int) (L : List CellP) : Nat → List (Int × List UInt8)
  | 0 => []
  | n + 1 => piecesN lo L n ++ (if (L.filter (inGroup (lo + n))).length = 0 then [] else [(lo + n, sealed (encCells (L.filter (inGroup (lo + n)))))])
def pieces (lo hi : Int) (L : List CellP) : List (Int × List UInt8) := piecesN lo L (hi - lo).toNat
theorem encCell_len {c : CellP} (h : ∀ x ∈ c.key, validV x = true) : (encCell c).length + 20 ≤ 2 * c.weight := by
  have h1 := encInt_length (c.key.length : Int)
  have h2 := encVals_len h
  have h3 := encInt_length c.win.1
  have h4 := encInt_length c.win.2
  have h5 := encInt_length (c.data.length : Int)
  unfold encCell CellP.weight
  simp only [List.length_append]
  omega
theorem encList_len {l : List CellP} (h : ∀ c ∈ l, ∀ x ∈ c.key, validV x = true) : (l.flatMap encCell).length + 20 * l.length ≤ 2 * weightL l := by
  induction l with
  | nil => simp [weightL]
  | cons c l ih =>
    have h1 := encCell_len (h c List.mem_cons_self)
    have h2 := ih fun d hd => h d (List.mem_cons_of_mem _ hd)
    rw [List.flatMap_cons, List.length_append, List.length_cons, weightL_cons]; omega
theorem Store.valid {lo hi : Int} {L : List CellP} (h : Store lo hi L) : ∀ c ∈ L, ∀ x ∈ c.key, validV x = true := fun c hc => (validR_key (ownsK_valid (h.owns c hc)).1).2
theorem encCells_len {lo hi : Int} {L : List CellP} (h : Store lo hi L) (p : CellP → Bool) (h0 : (L.filter p).length ≠ 0) : (encCells (L.filter p)).length ≤ 134217728 := by
  have h1 := encInt_length ((L.filter p).length : Int)
  have h2 := encList_len (l := L.filter p) fun c hc => h.valid c (List.mem_filter.1 hc).1
  have h3 := weightL_filter_le p L
  have h4 := h.full
  unfold encCells
  rw [List.length_append]; omega
theorem encList_take (l : List CellP) (k : Nat) (h : k < l.length) : (l.take (k + 1)).flatMap encCell = (l.take k).flatMap encCell ++ encCell l[k] := by
  rw [List.take_succ_eq_append_getElem h, List.flatMap_append]; simp
theorem encList_take_len {l : List CellP} (h : ∀ c ∈ l, ∀ x ∈ c.key, validV x = true) (k : Nat) : ((l.take k).flatMap encCell).length ≤ 2 * weightL l := by
  have h1 := encList_len (l := l.take k) fun c hc => h c (List.mem_of_mem_take hc)
  have h2 : weightL l = weightL (l.take k) + weightL (l.drop k) := by unfold weightL; rw [← List.sum_append, ← List.map_append, List.take_append_drop]
  omega
end Go.Proofs.YtgcnchmnciihnaaGreatDoor
namespace Go.Proofs.YtgcnchmnciihnaaGreatDoor
set_option linter.unusedSimpArgs false
set_option linter.unusedVariables false
open Go.RowKit

theorem head_cells (n c : Nat) (hn : n < 2 ^ 32) (hc : c < 2 ^ 32) : #[Value.int .u8 ((n : Int) / 16777216), .int .u8 ((n : Int) / 65536 % 256), .int .u8 ((n : Int) / 256 % 256), .int .u8 ((n : Int) % 256), .int .u8 ((c : Int) / 16777216), .int .u8 ((c : Int) / 65536 % 256), .int .u8 ((c : Int) / 256 % 256), .int .u8 ((c : Int) % 256)] = (byteCells (w4 n ++ w4 c)).toArray := by
  simp only [w4, byteCells, List.map_cons, List.map_nil, List.cons_append, List.nil_append, UInt8.toNat_ofNat']
  rw [show (n : Int) / 16777216 = ((n / 16777216 % 2 ^ 8 : Nat) : Int) by omega, show (n : Int) / 65536 % 256 = ((n / 65536 % 2 ^ 8 : Nat) : Int) by omega, show (n : Int) / 256 % 256 = ((n / 256 % 2 ^ 8 : Nat) : Int) by omega, show (n : Int) % 256 = ((n % 2 ^ 8 : Nat) : Int) by omega]
  rw [show (c : Int) / 16777216 = ((c / 16777216 % 2 ^ 8 : Nat) : Int) by omega, show (c : Int) / 65536 % 256 = ((c / 65536 % 2 ^ 8 : Nat) : Int) by omega, show (c : Int) / 256 % 256 = ((c / 256 % 2 ^ 8 : Nat) : Int) by omega, show (c : Int) % 256 = ((c % 2 ^ 8 : Nat) : Int) by omega]
/-- what is put behind a slice that was laid down later leaves what was there before. -/
theorem put_above {w w1 w2 : World} {e : TypeId} {B g : Nat} {v v' : Value} {l : List UInt8} (h : Later w w1) (p : Put e w1 B v l v' w2) (hv : v.ownBlock = some g) (hg : w.heap.size ≤ g) : Later w w2 :=
  ((h.keeps (fun b => b < w.heap.size)).trans (p.keep.mono fun _ _ hb he => by rw [hv] at he; injection he with he; omega)).mono (S' := fun _ => True) (fun _ hk _ => hk) |>.later
def SealTo (w : World) (l : List UInt8) (e : Ending) (w' : World) : Prop := ∃ v, e = .returned (.tuple #[v, .nilIface]) ∧ w'.ownsRow w.heap.size 5 1 v (sealed l).length (byteCells (sealed l)) ∧ Later w w'
set_option maxRecDepth 100000 in
set_option maxHeartbeats 2000000 in
theorem seal_any (v : Value) (l : List UInt8) (w : World) (h : IsBytes w v l) (hl : l.length ≤ 134217728) : Calls Tryz.prog 30 #[v] w (SealTo w l) := by
  obtain ⟨ii, hi, hz0, hz1, hz2⟩ := info_parts infoU8
  have HI := hid hi; have HZ0 := hid hz0; have HZ1 := hid hz1; have HZ2 := hid hz2; clear hi hz0 hz1 hz2
  have HV := hid h
  obtain ⟨p, c, rfl, hlc, hcm, -, hx⟩ := h
  have HLL := hid hl
  have hcr := crc_lt l
  clear hx hlc hcm
  have hl0 : ¬ (134217728 : Int) < (l.length : Int) := by omega
  have hl1 : ¬ 134217728 < l.length := by omega
  go_enter Tryz.func30, Tryz.ntmps30
  go_wp2_with fail
  refine (sum_any _ l _ HV.out).mono ?_
  rintro e w1 ⟨rfl, rfl⟩
  obtain ⟨n, hn⟩ : ∃ n, n = l.length := ⟨_, rfl⟩
  go_wp2_with (at_make; go_loud (refine wpList_make0 rfl _ _ 35 rfl w.heap.size 5 1 1 Tryz.underlying35 (ElemInfo.of infoU8 rfl (by decide)) rfl rfl (n := l.length + 8) (by omega) (by omega) (by unfold maxLen; omega) (Nat.le_refl _) ?_))
  intro w2 ho2 hg2
  have HL2 := hid (grown_none hg2)
  have HO2 := hid ho2
  clear ho2 hg2
  have HH := hid (head_cells l.length (crc l) (by omega) hcr)
  go_wp2_with (at_builtin; go_loud (refine wpList_put_bytes rfl _ _ 35 rfl w.heap.size 5 ii Tryz.underlying35 HI.out HZ0.out HZ1.out HZ2.out _ [] rfl (owns_later HO2.out (Later.alloc _ _)) (fun _ => True) _ (w4 l.length ++ w4 (crc l)) rfl (bytes_obj (t := 5) (f := (0, 0)) ((obj_new _ _).trans (congrArg (fun x => some (Obj.cells x 5 (0, 0))) HH.out)) rfl (Nat.le_refl _) (by unfold maxLen; omega) trivial) ?c2 ?c3 ?_))
  case c2 => simp only [List.length_append, List.length_nil]; show 0 + (4 + 4) ≤ _; omega
  case c3 => have := HL2.out.size; simp only [World.size_alloc]; omega
  intro v3 w3 hp3
  have HP3 := hid (Put.ahead (Later.alloc w2 _) hp3)
  have HL3 : Hid (Later w w3) := hid (put_above HL2.out HP3.out rfl (Nat.le_refl _))
  have HV3 := hid (HV.out.bytes_later HL3.out)
  clear hp3
  go_wp2_with (at_builtin; go_loud (refine wpList_put_bytes rfl _ _ 35 rfl w.heap.size 5 ii Tryz.underlying35 HI.out HZ0.out HZ1.out HZ2.out _ (w4 l.length ++ w4 (crc l)) rfl HP3.out.own (fun _ => True) _ l rfl HV3.out ?c2 ?c3 ?_))
  case c2 => have := HLL.out; simp only [List.length_append]; show (4 + 4) + l.length ≤ _; omega
  case c3 => exact HL3.out.size
  intro v4 w4' hp4
  have HP4 := hid hp4
  clear hp4
  go_wp2_with fail
  go_ret2
  exact ⟨v4, rfl, HP4.out.own, put_above HL2.out (HP3.out.trans HP4.out) rfl (Nat.le_refl _)⟩
theorem put_over {w w1 w2 : World} {e : TypeId} {B s n B' : Nat} {v v' : Value} {xs : List Value} {l : List UInt8} (h : Later w w1) (ho : w1.ownsRow B e s v n xs) (hB : w.heap.size ≤ B) (p : Put e w1 B' v l v' w2) : Later w w2 :=
  ((h.keeps (fun b => b < w.heap.size)).trans (p.keep.mono fun b _ hb he => by have := (owns_block ho b he.symm).1; omega)).mono (S' := fun _ => True) (fun _ hk _ => hk) |>.later
/-- one byte is written over. -/
theorem bytes_set {S : Nat → Prop} {w : World} {g o n c k : Nat} {l : List UInt8} (h : BytesIn S w (.slice (some ⟨g, o, none⟩) n c) l) (hk : k < l.length) (y : UInt8) : BytesIn S (w.setCell ⟨g, o + k, none⟩ (.int .u8 y.toNat)) (.slice (some ⟨g, o, none⟩) n c) (l.set k y) := by
  obtain ⟨a', c', hv, h1, h2, h3, he⟩ := h
  simp only [Value.slice.injEq] at hv
  obtain ⟨rfl, rfl, rfl⟩ := hv
  refine ⟨_, c, by rw [List.length_set], by rw [List.length_set]; exact h1, h2, h3, fun i hi => ?_⟩
  rw [List.length_set] at hi
  obtain ⟨b, o', ha, hs, hx⟩ := he i hi
  simp only [Option.some.injEq, Addr.mk.injEq, and_true] at ha
  obtain ⟨rfl, rfl⟩ := ha
  refine ⟨_, _, rfl, hs, ?_⟩
  unfold ByteAt at hx ⊢
  rw [Nat.mul_one] at hx ⊢
  by_cases hik : i = k
  · subst hik
    rw [List.getElem_set_self]
    exact World.cell?_setCell_same' _ _ _ (by rw [hx]; rfl)
  · rw [List.getElem_set_ne (fun e => hik e.symm)]
    exact (World.cell?_setCell_other _ _ _ _ (fun e => hik (by simp only [Addr.mk.injEq, true_and, and_true] at e; omega))).trans hx
theorem xor_byte (c : UInt8) (r : Nat) (hr : r < 255) : ∃ y : UInt8, bits .xor .u8 (c.toNat : Int) ((1 : Int) + r) = (y.toNat : Int) ∧ y ≠ c := by
  have hc := c.toNat_lt
  have wr : ∀ n : Int, 0 ≤ n → n < 2 ^ 8 → IntKind.u8.wrap n = n := fun n h0 h1 => by simp [IntKind.wrap, IntKind.bits, IntKind.signed]; omega
  have hx : c.toNat ^^^ (1 + r) < 2 ^ 8 := Nat.xor_lt_two_pow hc (by omega)
  refine ⟨UInt8.ofNat (c.toNat ^^^ (1 + r)), ?_, fun e => ?_⟩
  · have ha' : c.toNat % 2 ^ IntKind.u8.bits = c.toNat := Nat.mod_eq_of_lt hc
    have hb' : (1 + r) % 2 ^ IntKind.u8.bits = 1 + r := Nat.mod_eq_of_lt (by show 1 + r < 2 ^ 8; omega)
    rw [show (1 : Int) + r = ((1 + r : Nat) : Int) by omega]
    simp only [bits, BitVec.ofInt_natCast, BitVec.toNat_xor, BitVec.toNat_ofNat, ha', hb', UInt8.toNat_ofNat']
    rw [Nat.mod_eq_of_lt hx]
    exact wr _ (Int.natCast_nonneg _) (by exact_mod_cast hx)
  · have h1 := congrArg UInt8.toNat e
    rw [UInt8.toNat_ofNat', Nat.mod_eq_of_lt hx] at h1
    have h2 := congrArg (c.toNat ^^^ ·) h1
    simp only [← Nat.xor_assoc, Nat.xor_self, Nat.zero_xor] at h2
    omega
end Go.Proofs.YtgcnchmnciihnaaGreatDoor
namespace Go.Proofs.YtgcnchmnciihnaaGreatDoor
set_option linter.unusedSimpArgs false
set_option linter.unusedVariables false
open Go Go.RowKit

section
variable {P : Program} {md : Region.Mode} {ops : Array Oper} {Q : Exit → Act → World → Prop} {S : World → Prop}
def mixQ (K : Act → World → Prop) (Q : Exit → Act → World → Prop) : Exit → Act → World → Prop
  | .normal => K
  | .exit i => Q (.exit i)
  | .goto i => Q (.goto i)
  | .ret => Q .ret
  | .panic c => Q (.panic c)
  | .outgrown => Q .outgrown
theorem upon_mix {o : Oper} {a : Act} {K next : Act → World → Prop} {r : Result Next} (h : o.upon P a next (mixQ K Q) r) : o.upon P a next Q r := by
  cases r with
  | ok nx w' =>
    cases nx
    case enter f args =>
      refine Calls.mono h ?_
      intro e w'' he
      cases e <;> exact he
    all_goals exact h
  | halt hl w' => cases hl <;> exact h
/-- the one operation that is forced, walked by the rules of lists. -/
theorem wpAnyH_list {i : Nat} {o : Oper} {fuel : Nat} {listed : Array Bool} {a : Act} {w : World} (hr : Region.ready md ops listed = [i]) (ho : ops[i]? = some o)
    (h : wpList P ops (mixQ (fun a' w' => S w' ∧ wpAnyH P md ops Q S fuel (listed.setIfInBounds i true) a' w') Q) [o] a w) : wpAnyH P md ops Q S (fuel + 1) listed a w := by
  refine wpAnyH_ready hr (by simp) fun j hj => ?_
  obtain rfl := List.mem_singleton.1 hj
  unfold wpOp
  rw [ho]
  simp only
  unfold wpList at h
  split
  · rename_i hw
    rw [if_pos hw] at h
    rcases h with h | h
    · exact .inl (upon_mix h)
    · exact .inr ⟨h.1, h.2⟩
  · rename_i hw
    rw [if_neg hw] at h
    exact h
end
/-- a piece, and the slice that holds its bytes. -/
structure PX where
  g : Int
  v : Value
  bytes : List UInt8
abbrev PX.cells (x : PX) : List Value := [.int .i64 x.g, x.v]
def PX.pair (x : PX) : Int × List UInt8 := (x.g, x.bytes)
def pxCells (l : List PX) : List Value := l.flatMap PX.cells
theorem pxCells_app (a b : List PX) : pxCells (a ++ b) = pxCells a ++ pxCells b := by simp [pxCells]
theorem pxCells_length (l : List PX) : (pxCells l).length = l.length * 2 := by
  induction l with
  | nil => rfl
  | cons x l ih => unfold pxCells at *; rw [List.flatMap_cons, List.length_append, ih]; simp only [List.length_cons, List.length_nil]; omega
theorem pxCells_at : ∀ (l : List PX) (i : Nat) (h : i < l.length), (pxCells l)[i * 2]? = some (.int .i64 l[i].g) ∧ (pxCells l)[i * 2 + 1]? = some l[i].v
  | x :: l, 0, _ => ⟨rfl, rfl⟩
  | x :: l, i + 1, h => by
    have ih := pxCells_at l i (by simpa using h)
    have e : pxCells (x :: l) = .int .i64 x.g :: x.v :: pxCells l := rfl
    rw [e, show (i + 1) * 2 = i * 2 + 1 + 1 by omega]
    simpa using ih
abbrev OwnPc (B : Nat) (w : World) (v : Value) (l : List PX) : Prop := w.ownsRow B 47 2 v l.length (pxCells l)
/-- the pieces' bytes: each in a block of its own. -/
structure DeepPc (B : Nat) (w : World) (l : List PX) : Prop where
  own : ∀ x ∈ l, w.ownsRow B 5 1 x.v x.bytes.length (byteCells x.bytes)
  apart : l.Pairwise fun x y => ∀ b, x.v.ownBlock = some b → y.v.ownBlock ≠ some b
theorem DeepPc.nil (B : Nat) (w : World) : DeepPc B w [] := ⟨fun x hx => (by cases hx), List.Pairwise.nil⟩
theorem DeepPc.keep {B : Nat} {S : Nat → Prop} {w w' : World} {l : List PX} (h : DeepPc B w l) (k : Keeps S w w') (hs : ∀ x ∈ l, ∀ b, x.v.ownBlock = some b → S b) : DeepPc B w' l :=
  ⟨fun x hx => owns_keep (h.own x hx) k (hs x hx), h.apart⟩
theorem DeepPc.later {B : Nat} {w w' : World} {l : List PX} (h : DeepPc B w l) (k : Later w w') : DeepPc B w' l := ⟨fun x hx => owns_at (h.own x hx) k, h.apart⟩
theorem DeepPc.snoc {B : Nat} {w : World} {l : List PX} {x : PX} (h : DeepPc B w l) (k : w.ownsRow B 5 1 x.v x.bytes.length (byteCells x.bytes)) (ha : ∀ y ∈ l, ∀ b, y.v.ownBlock = some b → x.v.ownBlock ≠ some b) : DeepPc B w (l ++ [x]) := by
  refine ⟨fun y hy => ?_, List.pairwise_append.2 ⟨h.apart, List.pairwise_singleton _ _, fun y hy z hz => ?_⟩⟩
  · rcases List.mem_append.1 hy with hy | hy
    · exact h.own y hy
    · obtain rfl := List.mem_singleton.1 hy; exact k
  · obtain rfl := List.mem_singleton.1 hz; exact ha y hy
theorem pieceInfo : (Tryz.prog.info? 47).map (fun i => (i.zero, i.size, i.bytes)) = some (some (.agg #[.int .i64 0, .slice none 0 0]), 2, 32) := by kernel_rfl
theorem pieceElem : ElemInfo Tryz.prog 47 2 32 := ElemInfo.of pieceInfo rfl (by decide)
theorem OwnK.cells {B n c : Nat} {w : World} {a : Option Addr} {l : List KX} (h : OwnK B w (.slice a n c) l) {i : Nat} (hi : i < l.length) :
    ∃ g, a = some ⟨g, 0, none⟩ ∧ w.cell? ⟨g, i * 4, none⟩ = some l[i].kv ∧ w.cell? ⟨g, i * 4 + 1, none⟩ = some (.int .i64 l[i].cell.win.1) ∧ w.cell? ⟨g, i * 4 + 2, none⟩ = some (.int .i64 l[i].cell.win.2) ∧ w.cell? ⟨g, i * 4 + 3, none⟩ = some l[i].dv := by
  rcases h.2 with ⟨e, h0⟩ | ⟨g, cap, cur, e, hb, hg, h1, h2, h3, h4⟩
  · omega
  · simp only [Value.slice.injEq] at e
    obtain ⟨rfl, rfl, rfl⟩ := e
    obtain ⟨q0, q1, q2, q3⟩ := kxCells_at l i hi
    have key : ∀ j v, (kxCells l)[j]? = some v → w.cell? ⟨g, j, none⟩ = some v := fun j v hv => by
      refine cell_obj hg ?_
      rw [← h4] at hv
      rw [List.getElem?_take] at hv
      split at hv
      · rwa [Array.getElem?_toList] at hv
      · cases hv
    exact ⟨g, rfl, key _ _ q0, key _ _ q1, key _ _ q2, key _ _ q3⟩
end Go.Proofs.YtgcnchmnciihnaaGreatDoor
namespace Go.Proofs.YtgcnchmnciihnaaGreatDoor
set_option linter.unusedSimpArgs false
set_option linter.unusedVariables false
open Go Go.RowKit
section
variable {P : Program} {md : Region.Mode} {ops : Array Oper} {Q : Exit → Act → World → Prop} {S : World → Prop}
theorem takeH {i d : Nat} {oi : Oper} {v : Value} {fuel : Nat} {listed : Array Bool} {l : List Value} {w : World} (hi : ops[i]? = some oi) (hd : oi.dst = some d)
    (hs : Region.noSelect ops = true) (hf : Region.free md ops listed i = true) (hr : (Region.ready md ops listed).contains i = true)
    (hQ : ∀ c a w, Q (.panic c) (a.put oi.dst v) w → Q (.panic c) a w) (hy : YieldsIf P ops S oi v ⟨l.toArray, []⟩) (hS : S w)
    (h : wpAnyH P md ops Q S fuel (listed.setIfInBounds i true) ⟨(l.set d v).toArray, []⟩ w) : wpAnyH P md ops Q S (fuel + 1) listed ⟨l.toArray, []⟩ w := by
  refine wpAnyH_take hi hs hf hr hQ hy hS ?_
  rw [hd]
  simpa only [Act.put, List.setIfInBounds_toArray] using h
end
end Go.Proofs.YtgcnchmnciihnaaGreatDoor
