/-
  PROVED HERE: the contracts of wire.Seal, of the law's pick and valid.
-/
import Derived.Test.YthfgjmdmcoogpaaDoorBackPlain
import Derived.Test.YthfgjmdmcoogpaaDoorApp
import Derived.Test.YthfgjmdmcoogpaaDoorRefValid
namespace Go.Proofs.YthfgjmdmcoogpaaDoor
set_option linter.unusedSimpArgs false
set_option linter.unusedVariables false
open Go.RowKit

def PickTo (w : World) (n : Nat) (e : Ending) (w' : World) : Prop := ∃ r : Nat, e = .returned (.int .i64 r) ∧ r < n ∧ w' = w
set_option maxHeartbeats 1000000 in
theorem pick_any (a b : Int) (n : Nat) (w : World) (hb : b = (n : Int)) (h0 : 0 < n) (hn : n ≤ 1099511627776) : Calls Tryd.prog 41 #[.int .i64 a, .int .i64 b] w (PickTo w n) := by
  subst hb
  have h1 := Int.tmod_lt_of_pos a (b := (n : Int)) (by omega)
  have h2 : -(n : Int) < a.tmod n := by
    have := Int.tmod_lt_of_pos (-a) (b := (n : Int)) (by omega)
    rw [Int.neg_tmod] at this
    omega
  obtain ⟨q, hq⟩ : ∃ q, q = a.tmod n := ⟨_, rfl⟩
  rw [← hq] at h1 h2
  have hn0 : ¬ (n : Int) = 0 := by omega
  have hn1 : ¬ (n : Int) = -1 := by omega
  have hq' := hq.symm
  by_cases hneg : q < 0
  · obtain ⟨r, hr⟩ : ∃ r : Nat, q + n = r := ⟨(q + n).toNat, by omega⟩
    have HRR : Hid (r < n) := hid (by omega)
    have hw : wrap64 (q + n) = (r : Int) := by unfold wrap64; omega
    clear hq
    go_enter Tryd.func41, Tryd.ntmps41
    go_wp2_with fail
    go_ret
    try simp only [hw, hr]
    exact ⟨r, rfl, HRR.out, rfl⟩
  · obtain ⟨r, rfl⟩ : ∃ r : Nat, q = r := ⟨q.toNat, by omega⟩
    have HRR : Hid (r < n) := hid (by omega)
    clear hq
    go_enter Tryd.func41, Tryd.ntmps41
    go_wp2_with fail
    go_ret
    exact ⟨r, rfl, HRR.out, rfl⟩

def ValidsTo (w : World) (rows : List Row) (e : Ending) (w' : World) : Prop := ∃ b : Bool, e = .returned (.bool b) ∧ (b = true → ∀ r ∈ rows, validR r = true) ∧ Later w w'
set_option maxRecDepth 100000 in
set_option maxHeartbeats 1000000 in
theorem law_valid (vr : Value) (rows : List Row) (w : World) (hr : IsRows w vr rows) : Calls Tryd.prog 43 #[vr] w (ValidsTo w rows) := by
  obtain ⟨p, c, rfl, hl, hc, -, hel⟩ := hr
  have HEL := hid hel
  clear hel
  unfold maxLen at hc
  go_enter Tryd.func43, Tryd.ntmps43
  go_wp2_with fail
  go_loopw [3] (fun iv wr => ∃ (k : Nat), k ≤ rows.length ∧ iv = .int .i64 k ∧ Later w wr ∧ Hid (∀ r ∈ rows.take k, validR r = true)) (fun iv _ => rows.length - (intOf iv).toNat)
  case atStart => exact ⟨0, by omega, rfl, Later.refl _, hid fun r hr => by simp at hr⟩
  case round =>
    obtain ⟨k, hk, rfl, hL, HALL⟩ := hrel
    have HL := hid hL
    by_cases hlt : k < rows.length
    · obtain ⟨b, o, rfl, -, q0, vv, q1, hvv⟩ := HEL.out k hlt
      have HV := hid (hvv.later hL)
      obtain ⟨va, vc, rfl, -⟩ := hvv
      replace q0 := hL.cell q0
      replace q1 := hL.cell q1
      have HT : Hid (rows.take (k + 1) = rows.take k ++ [rows[k]]) := hid (List.take_succ_eq_append_getElem hlt)
      generalize rows[k] = r at *
      clear hL
      have hk0 : (0 : Int) ≤ k := by omega
      go_wp2_with fail
      refine (rvalid_row r.time r.vals _ _ HV.out).mono ?_
      rintro e w2 ⟨rfl, hL2⟩
      have HL2 := hid (Later.trans _ _ _ HL.out hL2)
      clear hL2 q0 q1
      cases hb : validR ⟨r.time, r.vals⟩ with
      | true =>
        have HA2 : Hid (∀ r ∈ rows.take (k + 1), validR r = true) := hid fun x hx => by
          rw [HT.out, List.mem_append, List.mem_singleton] at hx
          rcases hx with hx | rfl
          · exact HALL.out x hx
          · exact hb
        clear hb
        go_wp2
        go_roundw
        case rel => exact ⟨k + 1, by omega, by go_num, HL2.out, HA2⟩
        case measure => simp [intOf]; omega
      | false =>
        go_wp2
        go_ret
        exact ⟨false, rfl, fun h => (by cases h), HL2.out⟩
    · have HA2 : Hid (∀ r ∈ rows, validR r = true) := hid fun x hx => HALL.out x (by rw [List.take_of_length_le (by omega)]; exact hx)
      clear HALL
      go_wp2
      go_ret
      exact ⟨true, rfl, fun _ => HA2.out, HL.out⟩

theorem head_cells (n c : Nat) (hn : n < 2 ^ 32) (hc : c < 2 ^ 32) : #[Value.int .u8 ((n : Int) / 16777216), .int .u8 ((n : Int) / 65536 % 256), .int .u8 ((n : Int) / 256 % 256), .int .u8 ((n : Int) % 256), .int .u8 ((c : Int) / 16777216), .int .u8 ((c : Int) / 65536 % 256), .int .u8 ((c : Int) / 256 % 256), .int .u8 ((c : Int) % 256)] = (byteCells (w4 n ++ w4 c)).toArray := by
  simp only [w4, byteCells, List.map_cons, List.map_nil, List.cons_append, List.nil_append, UInt8.toNat_ofNat']
  rw [show (n : Int) / 16777216 = ((n / 16777216 % 2 ^ 8 : Nat) : Int) by omega, show (n : Int) / 65536 % 256 = ((n / 65536 % 2 ^ 8 : Nat) : Int) by omega, show (n : Int) / 256 % 256 = ((n / 256 % 2 ^ 8 : Nat) : Int) by omega, show (n : Int) % 256 = ((n % 2 ^ 8 : Nat) : Int) by omega]
  rw [show (c : Int) / 16777216 = ((c / 16777216 % 2 ^ 8 : Nat) : Int) by omega, show (c : Int) / 65536 % 256 = ((c / 65536 % 2 ^ 8 : Nat) : Int) by omega, show (c : Int) / 256 % 256 = ((c / 256 % 2 ^ 8 : Nat) : Int) by omega, show (c : Int) % 256 = ((c % 2 ^ 8 : Nat) : Int) by omega]
/-- what is put behind a slice that was laid down later leaves what was there before. -/
theorem put_above {w w1 w2 : World} {e : TypeId} {B g : Nat} {v v' : Value} {l : List UInt8} (h : Later w w1) (p : Put e w1 B v l v' w2) (hv : v.ownBlock = some g) (hg : w.heap.size ≤ g) : Later w w2 :=
  ((h.keeps (fun b => b < w.heap.size)).trans (p.keep.mono fun _ _ hb he => by rw [hv] at he; injection he with he; omega)).mono (S' := fun _ => True) (fun _ hk _ => hk) |>.later
def SealTo (w : World) (l : List UInt8) (e : Ending) (w' : World) : Prop := ∃ v, e = .returned (.tuple #[v, .nilIface]) ∧ w'.ownsRow w.heap.size 5 1 v (sealed l).length (byteCells (sealed l)) ∧ Later w w'
set_option maxRecDepth 100000 in
set_option maxHeartbeats 2000000 in
theorem seal_any (v : Value) (l : List UInt8) (w : World) (h : IsBytes w v l) (hl : l.length ≤ 134217728) : Calls Tryd.prog 39 #[v] w (SealTo w l) := by
  obtain ⟨ii, hi, hz0, hz1, hz2⟩ := info_parts infoU8
  have HI := hid hi; have HZ0 := hid hz0; have HZ1 := hid hz1; have HZ2 := hid hz2; clear hi hz0 hz1 hz2
  have HV := hid h
  obtain ⟨p, c, rfl, hlc, hcm, -, hx⟩ := h
  have HLL := hid hl
  have hcr := crc_lt l
  clear hx hlc hcm
  have hl0 : ¬ (134217728 : Int) < (l.length : Int) := by omega
  have hl1 : ¬ 134217728 < l.length := by omega
  go_enter Tryd.func39, Tryd.ntmps39
  go_wp2_with fail
  refine (sum_any _ l _ HV.out).mono ?_
  rintro e w1 ⟨rfl, rfl⟩
  obtain ⟨n, hn⟩ : ∃ n, n = l.length := ⟨_, rfl⟩
  go_wp2_with (at_make; go_loud (refine wpList_make0 rfl _ _ 76 rfl w.heap.size 5 1 1 Tryd.underlying76 (ElemInfo.of infoU8 rfl (by decide)) rfl rfl (n := l.length + 8) (by omega) (by omega) (by unfold maxLen; omega) (Nat.le_refl _) ?_))
  intro w2 ho2 hg2
  have HL2 := hid (grown_none hg2)
  have HO2 := hid ho2
  clear ho2 hg2
  have HH := hid (head_cells l.length (crc l) (by omega) hcr)
  go_wp2_with (at_builtin; go_loud (refine wpList_put_bytes rfl _ _ 76 rfl w.heap.size 5 ii Tryd.underlying76 HI.out HZ0.out HZ1.out HZ2.out _ [] rfl (own_later HO2.out (Later.alloc _ _)) (fun _ => True) _ (w4 l.length ++ w4 (crc l)) rfl (bytes_obj (t := 5) (f := (0, 0)) ((obj_new _ _).trans (congrArg (fun x => some (Obj.cells x 5 (0, 0))) HH.out)) rfl (Nat.le_refl _) (by unfold maxLen; omega) trivial) ?c2 ?c3 ?_))
  case c2 => simp only [List.length_append, List.length_nil]; show 0 + (4 + 4) ≤ _; omega
  case c3 => have := HL2.out.size; simp only [World.size_alloc]; omega
  intro v3 w3 hp3
  have HP3 := hid (Put.ahead (Later.alloc w2 _) hp3)
  have HL3 : Hid (Later w w3) := hid (put_above HL2.out HP3.out rfl (Nat.le_refl _))
  have HV3 := hid (HV.out.bytes_later HL3.out)
  clear hp3
  go_wp2_with (at_builtin; go_loud (refine wpList_put_bytes rfl _ _ 76 rfl w.heap.size 5 ii Tryd.underlying76 HI.out HZ0.out HZ1.out HZ2.out _ (w4 l.length ++ w4 (crc l)) rfl HP3.out.own (fun _ => True) _ l rfl HV3.out ?c2 ?c3 ?_))
  case c2 => have := HLL.out; simp only [List.length_append]; show (4 + 4) + l.length ≤ _; omega
  case c3 => exact HL3.out.size
  intro v4 w4' hp4
  have HP4 := hid hp4
  clear hp4
  go_wp2_with fail
  go_ret2
  exact ⟨v4, rfl, HP4.out.own, put_above HL2.out (HP3.out.trans HP4.out) rfl (Nat.le_refl _)⟩
theorem put_over {w w1 w2 : World} {e : TypeId} {B s n B' : Nat} {v v' : Value} {xs : List Value} {l : List UInt8} (h : Later w w1) (ho : w1.ownsRow B e s v n xs) (hB : w.heap.size ≤ B) (p : Put e w1 B' v l v' w2) : Later w w2 :=
  ((h.keeps (fun b => b < w.heap.size)).trans (p.keep.mono fun b _ hb he => by have := (owns_block ho b he.symm).1; omega)).mono (S' := fun _ => True) (fun _ hk _ => hk) |>.later
/-- one byte is written over. -/
theorem bytes_set {S : Nat → Prop} {w : World} {g o n c k : Nat} {l : List UInt8} (h : BytesIn S w (.slice (some ⟨g, o, none⟩) n c) l) (hk : k < l.length) (y : UInt8) : BytesIn S (w.setCell ⟨g, o + k, none⟩ (.int .u8 y.toNat)) (.slice (some ⟨g, o, none⟩) n c) (l.set k y) := by
  obtain ⟨a', c', hv, h1, h2, h3, he⟩ := h
  simp only [Value.slice.injEq] at hv
  obtain ⟨rfl, rfl, rfl⟩ := hv
  refine ⟨_, c, by rw [List.length_set], by rw [List.length_set]; exact h1, h2, h3, fun i hi => ?_⟩
  rw [List.length_set] at hi
  obtain ⟨b, o', ha, hs, hx⟩ := he i hi
  simp only [Option.some.injEq, Addr.mk.injEq, and_true] at ha
  obtain ⟨rfl, rfl⟩ := ha
  refine ⟨_, _, rfl, hs, ?_⟩
  unfold ByteAt at hx ⊢
  rw [Nat.mul_one] at hx ⊢
  by_cases hik : i = k
  · subst hik
    rw [List.getElem_set_self]
    exact World.cell?_setCell_same' _ _ _ (by rw [hx]; rfl)
  · rw [List.getElem_set_ne (fun e => hik e.symm)]
    exact (World.cell?_setCell_other _ _ _ _ (fun e => hik (by simp only [Addr.mk.injEq, true_and, and_true] at e; omega))).trans hx
theorem xor_byte (c : UInt8) (r : Nat) (hr : r < 255) : ∃ y : UInt8, bits .xor .u8 (c.toNat : Int) ((1 : Int) + r) = (y.toNat : Int) ∧ y ≠ c := by
  have hc := c.toNat_lt
  have wr : ∀ n : Int, 0 ≤ n → n < 2 ^ 8 → IntKind.u8.wrap n = n := fun n h0 h1 => by simp [IntKind.wrap, IntKind.bits, IntKind.signed]; omega
  have hx : c.toNat ^^^ (1 + r) < 2 ^ 8 := Nat.xor_lt_two_pow hc (by omega)
  refine ⟨UInt8.ofNat (c.toNat ^^^ (1 + r)), ?_, fun e => ?_⟩
  · have ha' : c.toNat % 2 ^ IntKind.u8.bits = c.toNat := Nat.mod_eq_of_lt hc
    have hb' : (1 + r) % 2 ^ IntKind.u8.bits = 1 + r := Nat.mod_eq_of_lt (by show 1 + r < 2 ^ 8; omega)
    rw [show (1 : Int) + r = ((1 + r : Nat) : Int) by omega]
    simp only [bits, BitVec.ofInt_natCast, BitVec.toNat_xor, BitVec.toNat_ofNat, ha', hb', UInt8.toNat_ofNat']
    rw [Nat.mod_eq_of_lt hx]
    exact wr _ (Int.natCast_nonneg _) (by exact_mod_cast hx)
  · have h1 := congrArg UInt8.toNat e
    rw [UInt8.toNat_ofNat', Nat.mod_eq_of_lt hx] at h1
    have h2 := congrArg (c.toNat ^^^ ·) h1
    simp only [← Nat.xor_assoc, Nat.xor_self, Nat.zero_xor] at h2
    omega
end Go.Proofs.YthfgjmdmcoogpaaDoor
