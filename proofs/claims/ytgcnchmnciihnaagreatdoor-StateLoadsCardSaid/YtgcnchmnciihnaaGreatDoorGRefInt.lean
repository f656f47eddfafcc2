/-
  PROVED HERE: the contracts of the document's Int, Text, Value, Rows (as bytes).
  PROVED HERE: the contracts of the document's Text, Value.
  PROVED HERE: the contract of the document's Sum.
-/
import Derived.Test.YtgcnchmnciihnaaGreatDoorGPutLaws
import Derived.Test.YtgcnchmnciihnaaGreatDoorGU8
import Derived.Deep.CutRange
import Derived.Test.YtgcnchmnciihnaaGreatDoorGPutAt
import Derived.Test.YtgcnchmnciihnaaGreatDoorGWirePlain
namespace Go.Proofs.YtgcnchmnciihnaaGreatDoor
set_option linter.unusedSimpArgs false
set_option linter.unusedVariables false
open Go.RowKit

/-- bytes of the call's own. -/
def NewBytes (w : World) (l : List UInt8) (e : Ending) (w' : World) : Prop := ∃ v', e = .returned v' ∧ Put 5 w w.heap.size (.slice none 0 0) l v' w'
theorem put_nil (w : World) (B : Nat) : w.ownsRow B 5 1 (.slice none 0 0) ([] : List UInt8).length (byteCells []) := ⟨rfl, .inl ⟨rfl, rfl⟩⟩
theorem NewBytes.later {w w' : World} {l : List UInt8} {v' : Value} (h : Put 5 w w.heap.size (.slice none 0 0) l v' w') : Later w w' := h.later rfl
/-- what was new to a call is new to what called it. -/
theorem Put.lower {e : TypeId} {w w' : World} {B B' : Nat} {v v' : Value} {l : List UInt8} (h : Put e w B v l v' w') (hB : B' ≤ B) : Put e w B' v l v' w' :=
  ⟨⟨h.own.1, h.own.2.imp id fun ⟨g, cp, cur, a1, a2, a3⟩ => ⟨g, cp, cur, a1, Nat.le_trans hB a2, a3⟩⟩, h.keep, h.block⟩

theorem Put.fresh {e : TypeId} {w w1 w2 : World} {B : Nat} {vb v2 : Value} {l : List UInt8} (k : Later w w1) (h : Put e w1 B vb l v2 w2) (hv : ∀ g, vb.ownBlock = some g → w.heap.size ≤ g) : Put e w B (.slice none 0 0) l v2 w2 := by
  refine ⟨h.own, ⟨h.keep.os.trans k.os, h.keep.tape.trans k.tape, h.keep.output.trans k.output, Nat.le_trans k.size h.keep.size, fun b hb _ => (h.keep.block b (Nat.lt_of_lt_of_le hb k.size) fun e => ?_).trans (k.block b hb)⟩, ?_⟩
  · have := hv b e.symm; omega
  · rcases h.block with h1 | ⟨g, h1, h2⟩
    · cases hg : vb.ownBlock with
      | none => left; rw [h1, hg]; rfl
      | some g => right; exact ⟨g, by rw [h1, hg], hv g hg⟩
    · exact .inr ⟨g, h1, Nat.le_trans k.size h2⟩

set_option maxRecDepth 100000 in
set_option maxHeartbeats 2000000 in
theorem ref_int (n : Int) (w : World) (hn : (Lit.int .i64 n).wf = true) : Calls Tryz.prog 57 #[.int .i64 n] w (NewBytes w (encInt n)) := by
  obtain ⟨ii, hi, hz0, hz1, hz2⟩ := info_parts infoU8
  have HI := hid hi; have HZ0 := hid hz0; have HZ1 := hid hz1; have HZ2 := hid hz2; clear hi hz0 hz1 hz2
  have hn' : -9223372036854775808 ≤ n ∧ n ≤ 9223372036854775807 := by simpa [Lit.wf, IntKind.min, IntKind.max, IntKind.bits, IntKind.signed] using hn
  obtain ⟨h1, h2⟩ := hn'
  clear hn
  have hlen := encInt_length n
  have HZL := hid (zz_lt h1 h2)
  by_cases h0 : n < 0
  ·
    go_enter Tryz.func57, Tryz.ntmps57
    go_wp2_with fail
    go_loopw [3, 4] (fun uv bv wr => ∃ (u : Nat) (pre : List UInt8), u < 2 ^ 64 ∧ uv = .int .u64 u ∧ Put 5 w w.heap.size (.slice none 0 0) pre bv wr ∧ Hid (pre ++ encU u = encInt n)) (fun uv _ _ => (intOf uv).toNat)
    case atStart => exact ⟨zz n, [], HZL.out, congrArg (Value.int .u64) (zz_ref h1 h0), Put.refl (put_nil w _), hid rfl⟩
    case round =>
      obtain ⟨u, pre, hu, rfl, hput, hpre⟩ := hrel
      have HP := hid hput
      have HU := hid hu
      have hpl : pre.length ≤ 11 := by have := congrArg List.length hpre.out; rw [List.length_append] at this; omega
      have hub : w.heap.size ≤ wr.heap.size := HP.out.keep.size
      have hu0 : (0 : Int) ≤ u := by omega
      clear hput hu
      by_cases h7 : 128 ≤ u
      · have h7' : (128 : Int) ≤ u := by omega
        have hq : IntKind.u64.wrap ((u : Int) / 128) = (u : Int) / 128 := by have := HU.out; rw [IntKind.wrap_u64]; omega
        have HE := hid (encU_ge (u := u) (by omega) HU.out)
        have HBY : Hid ((u : Int) % 128 + 128 = ((UInt8.ofNat (u % 128 + 128)).toNat : Int)) := hid (by rw [UInt8.toNat_ofNat']; omega)
        go_wp2_with (at_builtin; go_loud (refine wpList_put_byte rfl _ _ 35 rfl w.heap.size 5 ii Tryz.underlying35 HI.out HZ0.out HZ1.out HZ2.out _ pre rfl (owns_later HP.out.own (Later.alloc _ _)) wr.heap.size _ rfl (cell_obj (obj_new _ _) rfl) _ HBY.out ?c1 ?c2 ?_))
        case c1 => omega
        case c2 => first | omega | (simp; omega)
        intro v2 w2 hp2
        have HP2 := hid (HP.out.trans (Put.ahead (Later.alloc _ _) hp2))
        clear hp2
        go_wp2
        go_roundw
        case rel => exact ⟨u / 128, pre ++ [UInt8.ofNat (u % 128 + 128)], by have := HU.out; omega, by go_num, by simpa [List.append_assoc] using HP2.out, hid (by rw [List.append_assoc, List.singleton_append, ← HE.out]; exact hpre.out)⟩
        case measure => simp [intOf]; omega
      · have h7' : ¬ (128 : Int) ≤ u := by omega
        have HE := hid (encU_lt (u := u) (by omega))
        have HB8 : Hid ((u : Int) = ((UInt8.ofNat u).toNat : Int)) := hid (by rw [UInt8.toNat_ofNat']; omega)
        go_wp2_with (at_builtin; go_loud (refine wpList_put_byte rfl _ _ 35 rfl w.heap.size 5 ii Tryz.underlying35 HI.out HZ0.out HZ1.out HZ2.out _ pre rfl (owns_later HP.out.own (Later.alloc _ _)) wr.heap.size _ rfl (cell_obj (obj_new _ _) rfl) _ HB8.out ?c1 ?c2 ?_))
        case c1 => omega
        case c2 => first | omega | (simp; omega)
        intro v2 w2 hp2
        have HP2 := hid (HP.out.trans (Put.ahead (Later.alloc _ _) hp2))
        clear hp2
        go_wp2
        go_ret
        have e := hpre.out
        rw [HE.out] at e
        refine ⟨v2, rfl, ?_⟩
        rw [← e]
        simpa [List.append_assoc] using HP2.out
  ·
    go_enter Tryz.func57, Tryz.ntmps57
    go_wp2_with fail
    go_loopw [3, 4] (fun uv bv wr => ∃ (u : Nat) (pre : List UInt8), u < 2 ^ 64 ∧ uv = .int .u64 u ∧ Put 5 w w.heap.size (.slice none 0 0) pre bv wr ∧ Hid (pre ++ encU u = encInt n)) (fun uv _ _ => (intOf uv).toNat)
    case atStart => exact ⟨zz n, [], HZL.out, congrArg (Value.int .u64) (by rw [zz_eq_pos (by omega) h2]; omega), Put.refl (put_nil w _), hid rfl⟩
    case round =>
      obtain ⟨u, pre, hu, rfl, hput, hpre⟩ := hrel
      have HP := hid hput
      have HU := hid hu
      have hpl : pre.length ≤ 11 := by have := congrArg List.length hpre.out; rw [List.length_append] at this; omega
      have hub : w.heap.size ≤ wr.heap.size := HP.out.keep.size
      have hu0 : (0 : Int) ≤ u := by omega
      clear hput hu
      by_cases h7 : 128 ≤ u
      · have h7' : (128 : Int) ≤ u := by omega
        have hq : IntKind.u64.wrap ((u : Int) / 128) = (u : Int) / 128 := by have := HU.out; rw [IntKind.wrap_u64]; omega
        have HE := hid (encU_ge (u := u) (by omega) HU.out)
        have HBY : Hid ((u : Int) % 128 + 128 = ((UInt8.ofNat (u % 128 + 128)).toNat : Int)) := hid (by rw [UInt8.toNat_ofNat']; omega)
        go_wp2_with (at_builtin; go_loud (refine wpList_put_byte rfl _ _ 35 rfl w.heap.size 5 ii Tryz.underlying35 HI.out HZ0.out HZ1.out HZ2.out _ pre rfl (owns_later HP.out.own (Later.alloc _ _)) wr.heap.size _ rfl (cell_obj (obj_new _ _) rfl) _ HBY.out ?c1 ?c2 ?_))
        case c1 => omega
        case c2 => first | omega | (simp; omega)
        intro v2 w2 hp2
        have HP2 := hid (HP.out.trans (Put.ahead (Later.alloc _ _) hp2))
        clear hp2
        go_wp2
        go_roundw
        case rel => exact ⟨u / 128, pre ++ [UInt8.ofNat (u % 128 + 128)], by have := HU.out; omega, by go_num, by simpa [List.append_assoc] using HP2.out, hid (by rw [List.append_assoc, List.singleton_append, ← HE.out]; exact hpre.out)⟩
        case measure => simp [intOf]; omega
      · have h7' : ¬ (128 : Int) ≤ u := by omega
        have HE := hid (encU_lt (u := u) (by omega))
        have HB8 : Hid ((u : Int) = ((UInt8.ofNat u).toNat : Int)) := hid (by rw [UInt8.toNat_ofNat']; omega)
        go_wp2_with (at_builtin; go_loud (refine wpList_put_byte rfl _ _ 35 rfl w.heap.size 5 ii Tryz.underlying35 HI.out HZ0.out HZ1.out HZ2.out _ pre rfl (owns_later HP.out.own (Later.alloc _ _)) wr.heap.size _ rfl (cell_obj (obj_new _ _) rfl) _ HB8.out ?c1 ?c2 ?_))
        case c1 => omega
        case c2 => first | omega | (simp; omega)
        intro v2 w2 hp2
        have HP2 := hid (HP.out.trans (Put.ahead (Later.alloc _ _) hp2))
        clear hp2
        go_wp2
        go_ret
        have e := hpre.out
        rw [HE.out] at e
        refine ⟨v2, rfl, ?_⟩
        rw [← e]
        simpa [List.append_assoc] using HP2.out

end Go.Proofs.YtgcnchmnciihnaaGreatDoor
namespace Go.Proofs.YtgcnchmnciihnaaGreatDoor
set_option linter.unusedSimpArgs false
set_option linter.unusedVariables false
open Go.RowKit


set_option maxRecDepth 100000 in
set_option maxHeartbeats 1000000 in
theorem ref_text (s : ByteArray) (w : World) (hsz : s.size + 100 ≤ 70368744177664) : Calls Tryz.prog 59 #[.string s] w (NewBytes w (encText s)) := by
  obtain ⟨ii, hi, hz0, hz1, hz2⟩ := info_parts infoU8
  have HI := hid hi; have HZ0 := hid hz0; have HZ1 := hid hz1; have HZ2 := hid hz2; clear hi hz0 hz1 hz2
  have hss : IntKind.i64.wrap (s.size : Int) = s.size := IntWalk.i64_in _ (by omega)
  have hlen := encInt_length (s.size : Int)
  go_enter Tryz.func59, Tryz.ntmps59
  go_wp2_with fail
  refine (ref_int s.size _ (by simp [Lit.wf, IntKind.min, IntKind.max, IntKind.bits, IntKind.signed]; omega)).mono ?_
  rintro e w1 ⟨v1, rfl, hp⟩
  have HP := hid hp
  clear hp
  go_wp2_with (at_builtin; go_loud (refine wpList_put_text rfl _ _ 35 9 rfl w.heap.size 5 ii Tryz.underlying35 Tryz.underlying9 HI.out HZ0.out HZ1.out HZ2.out _ (encInt s.size) rfl HP.out.own s rfl ?c1 ?c2 ?_))
  case c1 => omega
  case c2 => exact HP.out.keep.size
  intro v2 w2 hp2
  have HP2 := hid (HP.out.trans hp2)
  clear hp2
  go_wp2
  go_ret
  exact ⟨v2, rfl, HP2.out⟩

set_option maxRecDepth 100000 in
set_option maxHeartbeats 2000000 in
theorem ref_value (x : Val) (w : World) (hx : ValOk x) (hsz : (encVal x).length + 100 ≤ 70368744177664) : Calls Tryz.prog 58 #[x.v] w (NewBytes w (encVal x)) := by
  obtain ⟨ii, hi, hz0, hz1, hz2⟩ := info_parts infoU8
  have HI := hid hi; have HZ0 := hid hz0; have HZ1 := hid hz1; have HZ2 := hid hz2; clear hi hz0 hz1 hz2
  obtain ⟨hk, hn, ht⟩ := hx
  have hk' : -9223372036854775808 ≤ x.k ∧ x.k ≤ 9223372036854775807 := by simpa [Lit.wf, IntKind.min, IntKind.max, IntKind.bits, IntKind.signed] using hk
  obtain ⟨hk1, hk2⟩ := hk'
  have HN := hid hn
  clear hk hn
  obtain ⟨kb, hkb⟩ : ∃ kb : UInt8, kb = UInt8.ofNat (x.k % 256).toNat := ⟨_, rfl⟩
  have HKB : Hid (x.k % 256 = ((kb).toNat : Int)) := hid (by rw [hkb, UInt8.toNat_ofNat']; omega)
  have HE : Hid (encVal x = [kb] ++ (if x.k = 1 ∨ x.k = 2 then encInt x.n else if x.k = 3 then encText x.t else [])) := hid (by rw [hkb]; rfl)
  clear hkb
  have HB1 : Hid (∀ (w' : World) (y : Int), y = ((kb).toNat : Int) → w'.heap[w.heap.size + 1]? = some (.cells #[.int .u8 y] 5 (0, 0)) → w'.ownsRow w.heap.size 5 1 (.slice (some ⟨w.heap.size + 1, 0, none⟩) 1 1) [kb].length (byteCells [kb])) := hid fun w' y hy h => by
    subst hy
    exact ⟨rfl, .inr ⟨w.heap.size + 1, 1, _, rfl, Nat.le_succ _, h, Nat.le_refl _, by unfold maxLen; omega, rfl, rfl⟩⟩
  have hlen := encInt_length x.n
  go_enter Tryz.func58, Tryz.ntmps58
  go_upto_region 3 with (fail)
  have hL0 : Later w ((w.alloc (.cells #[.int .i64 x.k, .int .i64 x.n, .string x.t] 52)).alloc (.cells #[.int .u8 (x.k % 256)] 5)) := Later.trans _ _ _ (Later.alloc w _) (Later.alloc _ _)
  have hOB : ((w.alloc (.cells #[.int .i64 x.k, .int .i64 x.n, .string x.t] 52)).alloc (.cells #[.int .u8 (x.k % 256)] 5)).ownsRow w.heap.size 5 1 _ _ _ := HB1.out ((w.alloc (.cells #[.int .i64 x.k, .int .i64 x.n, .string x.t] 52)).alloc (.cells #[.int .u8 (x.k % 256)] 5)) _ HKB.out (by simpa using obj_new (w.alloc (.cells #[.int .i64 x.k, .int .i64 x.n, .string x.t] 52)) _)
  have hX : ((w.alloc (.cells #[.int .i64 x.k, .int .i64 x.n, .string x.t] 52)).alloc (.cells #[.int .u8 (x.k % 256)] 5)).heap[w.heap.size]? = _ := (Later.alloc _ _).obj (obj_new w (.cells #[.int .i64 x.k, .int .i64 x.n, .string x.t] 52))
  generalize ((w.alloc (.cells #[.int .i64 x.k, .int .i64 x.n, .string x.t] 52)).alloc (.cells #[.int .u8 (x.k % 256)] 5)) = W2 at *
  have c0 := cell_obj (i := 0) hX rfl
  have c1 := cell_obj (i := 1) hX rfl
  have c2 := cell_obj (i := 2) hX rfl
  have HL0 := hid hL0; have HOB0 := hid hOB
  clear hL0 hOB hX HKB HB1
  by_cases k1 : x.k = 1
  · have HE1 : Hid (encVal x = [kb] ++ encInt x.n) := hid (by rw [HE.out, if_pos (.inl k1)])
    go_wp2_with fail
    refine (ref_int x.n _ HN.out).mono ?_
    rintro e w1 ⟨v1, rfl, hp⟩
    have HP := hid hp
    have HOB := hid (owns_later HOB0.out (hp.later rfl)); have HL := hid (Later.trans _ _ _ HL0.out (hp.later rfl))
    clear hp
    go_wp2_with (at_builtin; go_loud (refine wpList_put_bytes rfl _ _ 35 rfl w.heap.size 5 ii Tryz.underlying35 HI.out HZ0.out HZ1.out HZ2.out _ [kb] rfl HOB.out (fun _ => True) _ (encInt x.n) rfl (((owned_bytes HP.out.own)).bytes_mono fun _ _ => trivial) ?c1 ?c2 ?_))
    case c1 => first | omega | (simp; done) | (simp at hsz ⊢; omega)
    case c2 => exact HL.out.size
    intro v2 w2 hp2
    have HP2 := hid (Put.fresh HL.out hp2 (fun g hg => by simp only [Value.ownBlock, Option.some.injEq] at hg; omega))
    have HP3 : Hid (Put 5 w w.heap.size (.slice none 0 0) (encVal x) v2 w2) := hid (by rw [HE1.out]; exact HP2.out)
    clear hp2
    go_wp2
    go_ret
    exact ⟨v2, rfl, HP3.out⟩
  by_cases k2 : x.k = 2
  · have HE1 : Hid (encVal x = [kb] ++ encInt x.n) := hid (by rw [HE.out, if_pos (.inr k2)])
    go_wp2_with fail
    refine (ref_int x.n _ HN.out).mono ?_
    rintro e w1 ⟨v1, rfl, hp⟩
    have HP := hid hp
    have HOB := hid (owns_later HOB0.out (hp.later rfl)); have HL := hid (Later.trans _ _ _ HL0.out (hp.later rfl))
    clear hp
    go_wp2_with (at_builtin; go_loud (refine wpList_put_bytes rfl _ _ 35 rfl w.heap.size 5 ii Tryz.underlying35 HI.out HZ0.out HZ1.out HZ2.out _ [kb] rfl HOB.out (fun _ => True) _ (encInt x.n) rfl (((owned_bytes HP.out.own)).bytes_mono fun _ _ => trivial) ?c1 ?c2 ?_))
    case c1 => first | omega | (simp; done) | (simp at hsz ⊢; omega)
    case c2 => exact HL.out.size
    intro v2 w2 hp2
    have HP2 := hid (Put.fresh HL.out hp2 (fun g hg => by simp only [Value.ownBlock, Option.some.injEq] at hg; omega))
    have HP3 : Hid (Put 5 w w.heap.size (.slice none 0 0) (encVal x) v2 w2) := hid (by rw [HE1.out]; exact HP2.out)
    clear hp2
    go_wp2
    go_ret
    exact ⟨v2, rfl, HP3.out⟩
  by_cases k3 : x.k = 3
  · have HE1 : Hid (encVal x = [kb] ++ encText x.t) := hid (by rw [HE.out, if_neg (by omega), if_pos k3])
    have hst : x.t.size + 100 ≤ 70368744177664 := by
      have e3 : x.t.data.toList.length = x.t.size := by rw [Array.length_toList]; rfl
      rw [HE1.out] at hsz
      simp only [encText, List.length_append, List.length_cons, e3] at hsz
      omega
    go_wp2_with fail
    refine (ref_text x.t _ hst).mono ?_
    rintro e w1 ⟨v1, rfl, hp⟩
    have HP := hid hp
    have HOB := hid (owns_later HOB0.out (hp.later rfl)); have HL := hid (Later.trans _ _ _ HL0.out (hp.later rfl))
    clear hp
    go_wp2_with (at_builtin; go_loud (refine wpList_put_bytes rfl _ _ 35 rfl w.heap.size 5 ii Tryz.underlying35 HI.out HZ0.out HZ1.out HZ2.out _ [kb] rfl HOB.out (fun _ => True) _ (encText x.t) rfl (((owned_bytes HP.out.own)).bytes_mono fun _ _ => trivial) ?c1 ?c2 ?_))
    case c1 => rw [HE1.out, List.length_append] at hsz; first | omega | (simp; done) | (simp at hsz ⊢; omega)
    case c2 => exact HL.out.size
    intro v2 w2 hp2
    have HP2 := hid (Put.fresh HL.out hp2 (fun g hg => by simp only [Value.ownBlock, Option.some.injEq] at hg; omega))
    have HP3 : Hid (Put 5 w w.heap.size (.slice none 0 0) (encVal x) v2 w2) := hid (by rw [HE1.out]; exact HP2.out)
    clear hp2
    go_wp2
    go_ret
    exact ⟨v2, rfl, HP3.out⟩
  · have HE1 : Hid (encVal x = [kb] ++ []) := hid (by rw [HE.out, if_neg (by omega), if_neg k3])
    have HOB := HOB0; have HL := HL0
    go_wp2_with (at_builtin; go_loud (refine wpList_put_bytes rfl _ _ 35 rfl w.heap.size 5 ii Tryz.underlying35 HI.out HZ0.out HZ1.out HZ2.out _ [kb] rfl HOB.out (fun _ => True) _ [] rfl (bytes_nil _ _) ?c1 ?c2 ?_))
    case c1 => first | omega | (simp; done) | (simp at hsz ⊢; omega)
    case c2 => exact HL.out.size
    intro v2 w2 hp2
    have HP2 := hid (Put.fresh HL.out hp2 (fun g hg => by simp only [Value.ownBlock, Option.some.injEq] at hg; omega))
    have HP3 : Hid (Put 5 w w.heap.size (.slice none 0 0) (encVal x) v2 w2) := hid (by rw [HE1.out]; exact HP2.out)
    clear hp2
    go_wp2
    go_ret
    exact ⟨v2, rfl, HP3.out⟩
end Go.Proofs.YtgcnchmnciihnaaGreatDoor
namespace Go.Proofs.YtgcnchmnciihnaaGreatDoor
set_option linter.unusedSimpArgs false
set_option linter.unusedVariables false
open Go.RowKit

set_option maxRecDepth 100000 in
set_option maxHeartbeats 1000000 in
theorem ref_sum_any (v : Value) (l : List UInt8) (w : World) (h : IsBytes w v l) : Calls Tryz.prog 80 #[v] w fun e w' => e = .returned (.int .u32 (crc l)) ∧ w = w' := by
  obtain ⟨p, c, rfl, hl, hc, -, hx⟩ := h
  have HX := hid hx
  clear hx
  unfold maxLen at hc
  go_enter Tryz.func80, Tryz.ntmps80
  go_wp2
  go_loop [4, 3] (fun i s => ∃ (k : Nat), k ≤ l.length ∧ i = .int .i64 k ∧ s = .int .u32 (crcFold 0xffffffff (l.take k))) (fun i _ => l.length - (intOf i).toNat)
  case atStart => exact ⟨0, by omega, rfl, rfl⟩
  case round =>
    obtain ⟨k, hk, rfl, rfl⟩ := hrel
    have hs : crcFold 0xffffffff (l.take k) < 2 ^ 32 := crcFold_lt _ (by decide)
    by_cases hlt : k < l.length
    · obtain ⟨b, o, rfl, -, hat⟩ := byte_cell HX.out hlt
      have hnn : (0 : Int) ≤ k := by omega
      have hxl := l[k].toNat_lt
      have HT : Hid (crcFold 0xffffffff (l.take (k + 1)) = bitN (crcFold 0xffffffff (l.take k)) l[k].toNat 8) := hid (by rw [crcFold_take hlt]; rfl)
      generalize crcFold 0xffffffff (l.take k) = s at *
      generalize l[k].toNat = x at *
      go_wp2
      go_loop [5, 3] (fun i t => ∃ (j : Nat), j ≤ 8 ∧ i = .int .i64 j ∧ t = .int .u32 (bitN s x j)) (fun i _ => 8 - (intOf i).toNat)
      case atStart => exact ⟨0, by omega, rfl, rfl⟩
      case round =>
        obtain ⟨j, hj, rfl, rfl⟩ := hrel
        by_cases hlt2 : j < 8
        · have ht := bitN_lt (c := x) hs j
          have HJ : Hid (bitN s x (j + 1) = crcBit (bitN s x j) (x / 2 ^ j % 2)) := hid rfl
          generalize bitN s x j = t at *
          have hj0 : (0 : Int) ≤ j := by omega
          have hlow := low_eq t x j ht hxl
          have HF := hid (flip_eq t ht)
          have hh : ((t : Int) / 2) = ((t / 2 : Nat) : Int) := by omega
          have HH := hid hh
          clear hh
          by_cases hb : (t + x / 2 ^ j % 2) % 2 = 1
          · have hd : (bits .and .u32 (bits .xor .u32 (t : Int) (bits .and .u32 ((x : Int) / 2 ^ j % 4294967296) 1)) 1 == 1) = true := by rw [hlow, hb]; rfl
            have HJ2 : Hid (bitN s x (j + 1) = t / 2 ^^^ poly) := hid (by rw [HJ.out, crcBit, if_pos hb])
            clear hlow hb HJ
            go_wp2
            go_round
            case rel => exact ⟨j + 1, by omega, by go_num, congrArg (Value.int .u32) (by rw [HJ2.out]; exact HF.out)⟩
            case measure => simp [intOf]; omega
          · have hd : (bits .and .u32 (bits .xor .u32 (t : Int) (bits .and .u32 ((x : Int) / 2 ^ j % 4294967296) 1)) 1 == 1) = false := by
              rw [hlow]
              have : (t + x / 2 ^ j % 2) % 2 = 0 := by omega
              rw [this]; rfl
            have HJ2 : Hid (bitN s x (j + 1) = t / 2) := hid (by rw [HJ.out, crcBit, if_neg hb])
            clear hlow hb HJ
            go_wp2
            go_round
            case rel => exact ⟨j + 1, by omega, by go_num, congrArg (Value.int .u32) (by rw [HJ2.out]; exact HH.out)⟩
            case measure => simp [intOf]; omega
        · obtain rfl : j = 8 := by omega
          go_wp2
          go_round
          case rel => exact ⟨k + 1, by omega, by go_num, congrArg (Value.int .u32) (congrArg Int.ofNat HT.out.symm)⟩
          case measure => simp [intOf]; omega
    · have HT : Hid (l.take k = l) := hid (List.take_of_length_le (by omega))
      go_wp2
      go_ret
      refine ⟨ret_u32 ((end_eq _ hs).trans ?_), rfl⟩
      rw [HT.out]
      rfl
end Go.Proofs.YtgcnchmnciihnaaGreatDoor
