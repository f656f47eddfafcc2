/-
  PROVED HERE: the contracts of wire.word, of the document's word, of copied.
-/
import Derived.Test.YtjpdmlopbflggaaDoorWireSum
import Derived.Lib.EndianBits
import Derived.OwnWalk
namespace Go.Proofs.YtjpdmlopbflggaaDoor
open Go.RowKit

def WordTo (w : World) (n : Nat) (e : Ending) (w' : World) : Prop := e = .returned (.int .u32 n) ∧ Later w w'
set_option maxRecDepth 100000 in
set_option maxHeartbeats 1000000 in
theorem word_any (v : Value) (l : List UInt8) (w : World) (h : IsBytes w v l) (h4 : 4 ≤ l.length) : Calls Tryd.prog 8 #[v] w (WordTo w (be4 l)) := by
  obtain ⟨p, c, rfl, hl, hc, -, hx⟩ := h
  have HB : Hid (be4 l = l[0].toNat * 16777216 + l[1].toNat * 65536 + l[2].toNat * 256 + l[3].toNat) := hid (by
    unfold be4
    have e0 : 0 < l.length := by omega
    have e1 : 1 < l.length := by omega
    have e2 : 2 < l.length := by omega
    have e3 : 3 < l.length := by omega
    simp [List.getD, e0, e1, e2, e3])
  obtain ⟨b, o, rfl, -, c0⟩ := byte_cell hx (k := 0) (by omega)
  obtain ⟨b1, o1, hb1, -, c1⟩ := byte_cell hx (k := 1) (by omega)
  obtain ⟨b2, o2, hb2, -, c2⟩ := byte_cell hx (k := 2) (by omega)
  obtain ⟨b3, o3, hb3, -, c3⟩ := byte_cell hx (k := 3) (by omega)
  simp only [Option.some.injEq, Addr.mk.injEq, and_true] at hb1 hb2 hb3
  obtain ⟨rfl, rfl⟩ := hb1; obtain ⟨rfl, rfl⟩ := hb2; obtain ⟨rfl, rfl⟩ := hb3
  have x0 := l[0].toNat_lt; have x1 := l[1].toNat_lt; have x2 := l[2].toNat_lt; have x3 := l[3].toNat_lt
  clear hx
  generalize l[0].toNat = y0 at *
  generalize l[1].toNat = y1 at *
  generalize l[2].toNat = y2 at *
  generalize l[3].toNat = y3 at *
  simp only [Nat.add_zero] at c0
  unfold maxLen at hc
  have hlen : (l.length : Int) ≤ 9223372036854775807 := by omega
  have g0 : 0 < l.length := by omega
  have g1 : (1 : Int) < l.length := by omega
  have g2 : (2 : Int) < l.length := by omega
  have g3 : (3 : Int) < l.length := by omega
  go_enter Tryd.func8, Tryd.ntmps8
  go_wp2_with fail
  refine wp_region_lex (by kernel_rfl) (by kernel_rfl) Later Later.refl Later.trans (fun _ => none) (fun _ _ _ _ _ h => by cases h) ?_
  simp only [numbered, Nat.reduceAdd]
  iterate 23
    first
    | (refine Lex.skip rfl ?_; simp only [Act.put, List.setIfInBounds_toArray, List.set])
    | (refine Lex.one' rfl rfl ?_
       apply Exists.intro
       refine ⟨fun w hR hF => ?_, ?_⟩
       · have hP := hR
         repeat (first | replace hP := Later.of_drew hP | replace hP := Later.of_drewN hP | replace hP := Later.of_alloc hP)
         have hcs := hR.cells
         have zc0 := hP.cell c0
         have zc1 := hP.cell c1
         have zc2 := hP.cell c2
         have zc3 := hP.cell c3
         clear hR hF hP
         go_simp
         first | done | rfl
       simp only [Act.put, List.setIfInBounds_toArray, List.set])
  intro w2 hR2 hF9
  clear hF9
  go_wp2_with fail
  go_ret
  unfold WordTo
  rw [HB.out]
  exact ⟨ret_u32 (word_eq y0 y1 y2 y3 x0 x1 x2 x3), Later.of_drew hR2⟩

def RefWordTo (w : World) (n : Nat) (e : Ending) (w' : World) : Prop := ∃ v, e = .returned v ∧ BytesIn (fun b => w.heap.size ≤ b) w' v (w4 n) ∧ Later w w'
set_option maxRecDepth 100000 in
theorem ref_word_any (n : Nat) (w : World) (hn : n < 2 ^ 32) : Calls Tryd.prog 11 #[.int .u32 n] w (RefWordTo w n) := by
  go_enter Tryd.func11, Tryd.ntmps11
  go_wp2
  go_ret
  have e : #[Value.int .u8 ((n : Int) / 16777216), .int .u8 ((n : Int) / 65536 % 256), .int .u8 ((n : Int) / 256 % 256), .int .u8 ((n : Int) % 256)] = (byteCells (w4 n)).toArray := by
    simp only [w4, byteCells, List.map_cons, List.map_nil, UInt8.toNat_ofNat']
    rw [show (n : Int) / 16777216 = ((n / 16777216 % 2 ^ 8 : Nat) : Int) by omega, show (n : Int) / 65536 % 256 = ((n / 65536 % 2 ^ 8 : Nat) : Int) by omega, show (n : Int) / 256 % 256 = ((n / 256 % 2 ^ 8 : Nat) : Int) by omega, show (n : Int) % 256 = ((n % 2 ^ 8 : Nat) : Int) by omega]
  rw [e]
  exact ⟨_, rfl, bytes_obj (obj_new _ _) rfl (Nat.le_refl _) (by unfold maxLen; omega) (Nat.le_refl _), Later.alloc _ _⟩

theorem infoU8 : (Tryd.prog.info? 5).map (fun i => (i.zero, i.size, i.bytes)) = some (some (.int .u8 0), 1, 1) := by kernel_rfl
def CopiedTo (w : World) (l : List UInt8) (e : Ending) (w' : World) : Prop := ∃ v, e = .returned v ∧ w'.ownsRow w.heap.size 5 1 v l.length (byteCells l) ∧ Later w w'
set_option maxRecDepth 100000 in
set_option maxHeartbeats 1000000 in
theorem copied_any (v : Value) (l : List UInt8) (w : World) (h : IsBytes w v l) (hlen : l.length ≤ 281474976710656) : Calls Tryd.prog 4 #[v] w (CopiedTo w l) := by
  obtain ⟨ii, hi, hz0, hz1, hz2⟩ := info_parts infoU8
  have HI := hid hi; have HZ0 := hid hz0; have HZ1 := hid hz1; have HZ2 := hid hz2; clear hi hz0 hz1 hz2
  have HV := hid h
  obtain ⟨p, c, rfl, hl, hc, hpn, hx⟩ := h
  have HX := hid hx
  clear hx
  have hkl : IntKind.i64.wrap (l.length : Int) = l.length := IntWalk.i64_in _ (by omega)
  go_enter Tryd.func4, Tryd.ntmps4
  go_wp2_with (at_make; go_loud (refine wpList_make_full _ rfl _ _ 22 rfl w.heap.size 5 ii _ 1 Tryd.underlying22 HI.out HZ0.out HZ1.out .i64 .i64 l.length l.length l.length ?b1 ?b2 rfl rfl ?b3 ?b4 (Nat.le_refl _) ?_))
  case b1 => first | rfl | exact congrArg _ hkl
  case b2 => first | rfl | exact congrArg _ hkl
  case b3 => rw [HZ2.out]; omega
  case b4 => exact Nat.le_trans hl hc
  intro w2 hown hgrow
  have hb := owned_block hown
  have hl2 : Later w w2 := Keeps.later ((Keeps.of_grown hgrow).mono fun _ _ _ => by simp)
  obtain ⟨cur, hS, hB⟩ : ∃ cur : List Value, cur.length = l.length ∧ w2.heap[w.heap.size]? = some (.cells cur.toArray 5 (0, 0)) := ⟨_, by simpa using hown.1, hb⟩
  have HB := hid hB; have HL2 := hid hl2; have HS := hid hS
  clear hown hgrow hb hl2 hB hS
  by_cases h0 : l.length = 0
  · have hmin : Nat.min l.length l.length = 0 := by rw [h0]; rfl
    go_wp2_with (with_reducible refine wpList_copy_zero rfl _ _ 22 22 rfl 5 ii Tryd.underlying22 HI.out _ _ _ _ _ _ rfl rfl hmin ?_)
    go_ret
    refine ⟨_, rfl, ?_, HL2.out⟩
    have hle : l = [] := List.eq_nil_of_length_eq_zero h0
    subst hle
    exact ⟨rfl, .inr ⟨w.heap.size, 0, cur.toArray, rfl, Nat.le_refl _, HB.out, Nat.le_refl _, by unfold maxLen; omega, by simpa using HS.out, rfl⟩⟩
  · obtain ⟨b, o, rfl, -, -⟩ := HX.out 0 (by omega)
    go_wp2_with (refine wpList_copy_rows _ rfl _ _ 22 22 rfl 5 ii 1 Tryd.underlying22 HI.out HZ1.out w.heap.size 0 l.length l.length ⟨b, o, none⟩ l.length c rfl rfl cur.toArray _ HB.out l.length ?b1 (byteCells l) ?b2 ?b3 ?b4 (byteCells_one l) ?_)
    case b1 => exact (Nat.min_self _).symm
    case b2 => rw [byteCells_length, Nat.mul_one]
    case b3 => exact (HV.out.bytes_later HL2.out).news rfl rfl
    case b4 => have := HS.out; simp [byteCells_length]; omega
    intro w3 h3 hk3
    have hs := HS.out
    rw [List.drop_of_length_le (by rw [byteCells_length]; omega), List.append_nil] at h3
    have H3 := hid h3
    have HL3 : Hid (Later w w3) := hid (Keeps.later (((HL2.out.keeps (fun b => b ≠ w.heap.size)).trans hk3).mono fun k hk _ => by omega))
    clear h3 hs hk3
    go_wp2
    go_ret
    exact ⟨_, rfl, ⟨by rw [byteCells_length, Nat.mul_one], .inr ⟨w.heap.size, l.length, _, rfl, Nat.le_refl _, H3.out, Nat.le_refl _, Nat.le_trans hl hc, by simp [byteCells_length], by rw [Nat.mul_one]; exact List.take_of_length_le (by simp [byteCells_length])⟩⟩, HL3.out⟩
end Go.Proofs.YtjpdmlopbflggaaDoor
