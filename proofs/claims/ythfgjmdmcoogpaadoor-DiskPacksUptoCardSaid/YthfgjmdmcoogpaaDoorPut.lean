/-
  PROVED HERE: the contracts of wire.PutInt, putText, PutValue, PutRows.
-/
import Derived.Test.YthfgjmdmcoogpaaDoorPutLaws
import Derived.Test.YthfgjmdmcoogpaaDoorU8
import Derived.OwnWalk
namespace Go.Proofs.YthfgjmdmcoogpaaDoor
set_option linter.unusedSimpArgs false
set_option linter.unusedVariables false
open Go.RowKit

set_option maxRecDepth 100000 in
set_option maxHeartbeats 2000000 in
theorem put_int (B : Nat) (v : Value) (l : List UInt8) (n : Int) (w : World) (hn : (Lit.int .i64 n).wf = true) (hown : w.ownsRow B 5 1 v l.length (byteCells l)) (hB : B ≤ w.heap.size) (hsz : l.length + 12 ≤ 70368744177664) :
    Calls Tryd.prog 80 #[v, .int .i64 n] w (PutTo 5 w B v (l ++ encInt n)) := by
  obtain ⟨ii, hi, hz0, hz1, hz2⟩ := info_parts infoU8
  have HI := hid hi; have HZ0 := hid hz0; have HZ1 := hid hz1; have HZ2 := hid hz2; clear hi hz0 hz1 hz2
  have hn' : -9223372036854775808 ≤ n ∧ n ≤ 9223372036854775807 := by simpa [Lit.wf, IntKind.min, IntKind.max, IntKind.bits, IntKind.signed] using hn
  obtain ⟨h1, h2⟩ := hn'
  have HO := hid hown
  have hlen := encInt_length n
  have HZL := hid (zz_lt h1 h2)
  clear hn hown
  go_enter Tryd.func80, Tryd.ntmps80
  go_wp2_with fail
  go_loopw [5, 0] (fun uv bv wr => ∃ (u : Nat) (pre : List UInt8), u < 2 ^ 64 ∧ uv = .int .u64 u ∧ Put 5 w B v (l ++ pre) bv wr ∧ Hid (pre ++ encU u = encInt n)) (fun uv _ _ => (intOf uv).toNat)
  case atStart => exact ⟨zz n, [], HZL.out, congrArg (Value.int .u64) (zz_walk h1 h2), by rw [List.append_nil]; exact Put.refl HO.out, hid rfl⟩
  case round =>
    obtain ⟨u, pre, hu, rfl, hput, hpre⟩ := hrel
    have HP := hid hput
    clear hput
    have hpl : pre.length ≤ 11 := by have := congrArg List.length hpre.out; rw [List.length_append] at this; omega
    have hub : B ≤ wr.heap.size := Nat.le_trans hB HP.out.keep.size
    have hwu : (u : Int) < 18446744073709551616 := by omega
    have hu0 : (0 : Int) ≤ u := by omega
    by_cases h7 : 127 < u
    · have h7' : (127 : Int) < u := by omega
      have HE := hid (encU_ge (u := u) (by omega) hu)
      go_wp2_with (at_builtin; go_loud (refine wpList_put_byte rfl _ _ 76 rfl B 5 ii Tryd.underlying76 HI.out HZ0.out HZ1.out HZ2.out _ (l ++ pre) rfl (owns_later HP.out.own (Later.alloc _ _)) wr.heap.size _ rfl (cell_obj (obj_new _ _) rfl) _ (or128 u) ?c1 ?c2 ?_))
      case c1 => first | omega | (rw [List.length_append]; omega) | (simp only [List.length_append]; omega)
      case c2 => first | omega | (simp; omega)
      intro v2 w2 hp2
      have HP2 := hid (HP.out.trans (Put.ahead (Later.alloc _ _) hp2))
      clear hp2
      go_wp2
      go_roundw
      case rel => exact ⟨u / 128, pre ++ [UInt8.ofNat (u % 128 + 128)], by omega, by go_num, by simpa [List.append_assoc] using HP2.out, hid (by rw [List.append_assoc, List.singleton_append, ← HE.out]; exact hpre.out)⟩
      case measure => simp [intOf]; omega
    · have h7' : ¬ (127 : Int) < u := by omega
      have HE := hid (encU_lt (u := u) (by omega))
      have hb8 : (u : Int) = ((UInt8.ofNat u).toNat : Int) := by rw [UInt8.toNat_ofNat']; omega
      have HB8 := hid hb8
      clear hb8
      go_wp2_with (at_builtin; go_loud (refine wpList_put_byte rfl _ _ 76 rfl B 5 ii Tryd.underlying76 HI.out HZ0.out HZ1.out HZ2.out _ (l ++ pre) rfl (owns_later HP.out.own (Later.alloc _ _)) wr.heap.size _ rfl (cell_obj (obj_new _ _) rfl) _ HB8.out ?c1 ?c2 ?_))
      case c1 => first | omega | (rw [List.length_append]; omega) | (simp only [List.length_append]; omega)
      case c2 => first | omega | (simp; omega)
      intro v2 w2 hp2
      have HP2 := hid (HP.out.trans (Put.ahead (Later.alloc _ _) hp2))
      clear hp2
      go_wp2
      go_ret
      have e := hpre.out
      rw [HE.out] at e
      refine ⟨_, rfl, ?_⟩
      rw [← e]
      simpa [List.append_assoc] using HP2.out

set_option maxRecDepth 100000 in
set_option maxHeartbeats 1000000 in
theorem put_text (B : Nat) (v : Value) (l : List UInt8) (s : ByteArray) (w : World) (hown : w.ownsRow B 5 1 v l.length (byteCells l)) (hB : B ≤ w.heap.size) (hsz : l.length + 12 + s.size ≤ 70368744177664) :
    Calls Tryd.prog 111 #[v, .string s] w (PutTo 5 w B v (l ++ encText s)) := by
  obtain ⟨ii, hi, hz0, hz1, hz2⟩ := info_parts infoU8
  have HI := hid hi; have HZ0 := hid hz0; have HZ1 := hid hz1; have HZ2 := hid hz2; clear hi hz0 hz1 hz2
  have HO := hid hown
  clear hown
  have hss : IntKind.i64.wrap (s.size : Int) = s.size := IntWalk.i64_in _ (by omega)
  have hlen := encInt_length (s.size : Int)
  go_enter Tryd.func111, Tryd.ntmps111
  go_wp2_with fail
  refine (put_int B v l s.size _ (by simp [Lit.wf, IntKind.min, IntKind.max, IntKind.bits, IntKind.signed]; omega) HO.out hB (by omega)).mono ?_
  rintro e w1 ⟨v1, rfl, hp⟩
  have HP := hid hp
  clear hp
  go_wp2_with (at_builtin; go_loud (refine wpList_put_text rfl _ _ 76 9 rfl B 5 ii Tryd.underlying76 Tryd.underlying9 HI.out HZ0.out HZ1.out HZ2.out _ (l ++ encInt s.size) rfl HP.out.own s rfl ?c1 ?c2 ?_))
  case c1 => first | omega | (rw [List.length_append]; omega) | (simp only [List.length_append]; omega)
  case c2 => exact Nat.le_trans hB HP.out.keep.size
  intro v2 w2 hp2
  have HP2 := hid (HP.out.trans hp2)
  clear hp2
  go_wp2
  go_ret
  refine ⟨v2, rfl, ?_⟩
  rw [encText]
  simpa only [List.append_assoc] using HP2.out
end Go.Proofs.YthfgjmdmcoogpaaDoor
