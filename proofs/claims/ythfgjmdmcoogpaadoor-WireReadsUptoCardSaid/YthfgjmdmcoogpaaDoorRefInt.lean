/-
  PROVED HERE: the contracts of the document's Int, Text, Value, Rows (as bytes).
-/
import Derived.Test.YthfgjmdmcoogpaaDoorPutLaws
import Derived.Test.YthfgjmdmcoogpaaDoorU8
import Derived.Deep.CutRange
namespace Go.Proofs.YthfgjmdmcoogpaaDoor
set_option linter.unusedSimpArgs false
set_option linter.unusedVariables false
open Go.RowKit

/-- bytes of the call's own. -/
def NewBytes (w : World) (l : List UInt8) (e : Ending) (w' : World) : Prop := ∃ v', e = .returned v' ∧ Put 5 w w.heap.size (.slice none 0 0) l v' w'
theorem put_nil (w : World) (B : Nat) : w.ownsRow B 5 1 (.slice none 0 0) ([] : List UInt8).length (byteCells []) := ⟨rfl, .inl ⟨rfl, rfl⟩⟩
theorem NewBytes.later {w w' : World} {l : List UInt8} {v' : Value} (h : Put 5 w w.heap.size (.slice none 0 0) l v' w') : Later w w' := h.later rfl
/-- what was new to a call is new to what called it. -/
theorem Put.lower {e : TypeId} {w w' : World} {B B' : Nat} {v v' : Value} {l : List UInt8} (h : Put e w B v l v' w') (hB : B' ≤ B) : Put e w B' v l v' w' :=
  ⟨⟨h.own.1, h.own.2.imp id fun ⟨g, cp, cur, a1, a2, a3⟩ => ⟨g, cp, cur, a1, Nat.le_trans hB a2, a3⟩⟩, h.keep, h.block⟩

theorem Put.fresh {e : TypeId} {w w1 w2 : World} {B : Nat} {vb v2 : Value} {l : List UInt8} (k : Later w w1) (h : Put e w1 B vb l v2 w2) (hv : ∀ g, vb.ownBlock = some g → w.heap.size ≤ g) : Put e w B (.slice none 0 0) l v2 w2 := by
  refine ⟨h.own, ⟨h.keep.os.trans k.os, h.keep.tape.trans k.tape, h.keep.output.trans k.output, Nat.le_trans k.size h.keep.size, fun b hb _ => (h.keep.block b (Nat.lt_of_lt_of_le hb k.size) fun e => ?_).trans (k.block b hb)⟩, ?_⟩
  · have := hv b e.symm; omega
  · rcases h.block with h1 | ⟨g, h1, h2⟩
    · cases hg : vb.ownBlock with
      | none => left; rw [h1, hg]; rfl
      | some g => right; exact ⟨g, by rw [h1, hg], hv g hg⟩
    · exact .inr ⟨g, h1, Nat.le_trans k.size h2⟩

set_option maxRecDepth 100000 in
set_option maxHeartbeats 2000000 in
theorem ref_int (n : Int) (w : World) (hn : (Lit.int .i64 n).wf = true) : Calls Tryd.prog 109 #[.int .i64 n] w (NewBytes w (encInt n)) := by
  obtain ⟨ii, hi, hz0, hz1, hz2⟩ := info_parts infoU8
  have HI := hid hi; have HZ0 := hid hz0; have HZ1 := hid hz1; have HZ2 := hid hz2; clear hi hz0 hz1 hz2
  have hn' : -9223372036854775808 ≤ n ∧ n ≤ 9223372036854775807 := by simpa [Lit.wf, IntKind.min, IntKind.max, IntKind.bits, IntKind.signed] using hn
  obtain ⟨h1, h2⟩ := hn'
  clear hn
  have hlen := encInt_length n
  have HZL := hid (zz_lt h1 h2)
  by_cases h0 : n < 0
  ·
    go_enter Tryd.func109, Tryd.ntmps109
    go_wp2_with fail
    go_loopw [3, 4] (fun uv bv wr => ∃ (u : Nat) (pre : List UInt8), u < 2 ^ 64 ∧ uv = .int .u64 u ∧ Put 5 w w.heap.size (.slice none 0 0) pre bv wr ∧ Hid (pre ++ encU u = encInt n)) (fun uv _ _ => (intOf uv).toNat)
    case atStart => exact ⟨zz n, [], HZL.out, congrArg (Value.int .u64) (zz_ref h1 h0), Put.refl (put_nil w _), hid rfl⟩
    case round =>
      obtain ⟨u, pre, hu, rfl, hput, hpre⟩ := hrel
      have HP := hid hput
      have HU := hid hu
      have hpl : pre.length ≤ 11 := by have := congrArg List.length hpre.out; rw [List.length_append] at this; omega
      have hub : w.heap.size ≤ wr.heap.size := HP.out.keep.size
      have hu0 : (0 : Int) ≤ u := by omega
      clear hput hu
      by_cases h7 : 128 ≤ u
      · have h7' : (128 : Int) ≤ u := by omega
        have hq : IntKind.u64.wrap ((u : Int) / 128) = (u : Int) / 128 := by have := HU.out; rw [IntKind.wrap_u64]; omega
        have HE := hid (encU_ge (u := u) (by omega) HU.out)
        have HBY : Hid ((u : Int) % 128 + 128 = ((UInt8.ofNat (u % 128 + 128)).toNat : Int)) := hid (by rw [UInt8.toNat_ofNat']; omega)
        go_wp2_with (at_builtin; go_loud (refine wpList_put_byte rfl _ _ 76 rfl w.heap.size 5 ii Tryd.underlying76 HI.out HZ0.out HZ1.out HZ2.out _ pre rfl (owns_later HP.out.own (Later.alloc _ _)) wr.heap.size _ rfl (cell_obj (obj_new _ _) rfl) _ HBY.out ?c1 ?c2 ?_))
        case c1 => omega
        case c2 => first | omega | (simp; omega)
        intro v2 w2 hp2
        have HP2 := hid (HP.out.trans (Put.ahead (Later.alloc _ _) hp2))
        clear hp2
        go_wp2
        go_roundw
        case rel => exact ⟨u / 128, pre ++ [UInt8.ofNat (u % 128 + 128)], by have := HU.out; omega, by go_num, by simpa [List.append_assoc] using HP2.out, hid (by rw [List.append_assoc, List.singleton_append, ← HE.out]; exact hpre.out)⟩
        case measure => simp [intOf]; omega
      · have h7' : ¬ (128 : Int) ≤ u := by omega
        have HE := hid (encU_lt (u := u) (by omega))
        have HB8 : Hid ((u : Int) = ((UInt8.ofNat u).toNat : Int)) := hid (by rw [UInt8.toNat_ofNat']; omega)
        go_wp2_with (at_builtin; go_loud (refine wpList_put_byte rfl _ _ 76 rfl w.heap.size 5 ii Tryd.underlying76 HI.out HZ0.out HZ1.out HZ2.out _ pre rfl (owns_later HP.out.own (Later.alloc _ _)) wr.heap.size _ rfl (cell_obj (obj_new _ _) rfl) _ HB8.out ?c1 ?c2 ?_))
        case c1 => omega
        case c2 => first | omega | (simp; omega)
        intro v2 w2 hp2
        have HP2 := hid (HP.out.trans (Put.ahead (Later.alloc _ _) hp2))
        clear hp2
        go_wp2
        go_ret
        have e := hpre.out
        rw [HE.out] at e
        refine ⟨v2, rfl, ?_⟩
        rw [← e]
        simpa [List.append_assoc] using HP2.out
  ·
    go_enter Tryd.func109, Tryd.ntmps109
    go_wp2_with fail
    go_loopw [3, 4] (fun uv bv wr => ∃ (u : Nat) (pre : List UInt8), u < 2 ^ 64 ∧ uv = .int .u64 u ∧ Put 5 w w.heap.size (.slice none 0 0) pre bv wr ∧ Hid (pre ++ encU u = encInt n)) (fun uv _ _ => (intOf uv).toNat)
    case atStart => exact ⟨zz n, [], HZL.out, congrArg (Value.int .u64) (by rw [zz_eq_pos (by omega) h2]; omega), Put.refl (put_nil w _), hid rfl⟩
    case round =>
      obtain ⟨u, pre, hu, rfl, hput, hpre⟩ := hrel
      have HP := hid hput
      have HU := hid hu
      have hpl : pre.length ≤ 11 := by have := congrArg List.length hpre.out; rw [List.length_append] at this; omega
      have hub : w.heap.size ≤ wr.heap.size := HP.out.keep.size
      have hu0 : (0 : Int) ≤ u := by omega
      clear hput hu
      by_cases h7 : 128 ≤ u
      · have h7' : (128 : Int) ≤ u := by omega
        have hq : IntKind.u64.wrap ((u : Int) / 128) = (u : Int) / 128 := by have := HU.out; rw [IntKind.wrap_u64]; omega
        have HE := hid (encU_ge (u := u) (by omega) HU.out)
        have HBY : Hid ((u : Int) % 128 + 128 = ((UInt8.ofNat (u % 128 + 128)).toNat : Int)) := hid (by rw [UInt8.toNat_ofNat']; omega)
        go_wp2_with (at_builtin; go_loud (refine wpList_put_byte rfl _ _ 76 rfl w.heap.size 5 ii Tryd.underlying76 HI.out HZ0.out HZ1.out HZ2.out _ pre rfl (owns_later HP.out.own (Later.alloc _ _)) wr.heap.size _ rfl (cell_obj (obj_new _ _) rfl) _ HBY.out ?c1 ?c2 ?_))
        case c1 => omega
        case c2 => first | omega | (simp; omega)
        intro v2 w2 hp2
        have HP2 := hid (HP.out.trans (Put.ahead (Later.alloc _ _) hp2))
        clear hp2
        go_wp2
        go_roundw
        case rel => exact ⟨u / 128, pre ++ [UInt8.ofNat (u % 128 + 128)], by have := HU.out; omega, by go_num, by simpa [List.append_assoc] using HP2.out, hid (by rw [List.append_assoc, List.singleton_append, ← HE.out]; exact hpre.out)⟩
        case measure => simp [intOf]; omega
      · have h7' : ¬ (128 : Int) ≤ u := by omega
        have HE := hid (encU_lt (u := u) (by omega))
        have HB8 : Hid ((u : Int) = ((UInt8.ofNat u).toNat : Int)) := hid (by rw [UInt8.toNat_ofNat']; omega)
        go_wp2_with (at_builtin; go_loud (refine wpList_put_byte rfl _ _ 76 rfl w.heap.size 5 ii Tryd.underlying76 HI.out HZ0.out HZ1.out HZ2.out _ pre rfl (owns_later HP.out.own (Later.alloc _ _)) wr.heap.size _ rfl (cell_obj (obj_new _ _) rfl) _ HB8.out ?c1 ?c2 ?_))
        case c1 => omega
        case c2 => first | omega | (simp; omega)
        intro v2 w2 hp2
        have HP2 := hid (HP.out.trans (Put.ahead (Later.alloc _ _) hp2))
        clear hp2
        go_wp2
        go_ret
        have e := hpre.out
        rw [HE.out] at e
        refine ⟨v2, rfl, ?_⟩
        rw [← e]
        simpa [List.append_assoc] using HP2.out

end Go.Proofs.YthfgjmdmcoogpaaDoor
