/-
  PROVED HERE: the walk of streamwrightlaw2.WireOpens.
-/
import Derived.Test.YtjpdmlopbflggaaDoorWireOpen
namespace Go.Proofs.YtjpdmlopbflggaaDoor
open Go.RowKit

theorem owns_block {w : World} {B : Nat} {e : TypeId} {s n : Nat} {v : Value} {xs : List Value} (h : w.ownsRow B e s v n xs) : ∀ g, v.ownBlock = some g → B ≤ g := by
  intro g hg
  rcases h.2 with ⟨rfl, _⟩ | ⟨g', cap, cur, rfl, hb, _⟩
  · cases hg
  · simp only [Value.ownBlock, Option.some.injEq] at hg
    omega
theorem owns_set {w : World} {B : Nat} {e : TypeId} {n cap g i : Nat} {xs : List Value} (h : w.ownsRow B e 1 (.slice (some ⟨g, 0, none⟩) n cap) n xs) (u : Value) :
    (w.setCell ⟨g, i, none⟩ u).ownsRow B e 1 (.slice (some ⟨g, 0, none⟩) n cap) n (xs.set i u) := by
  obtain ⟨hl, h⟩ := h
  refine ⟨by simpa using hl, .inr ?_⟩
  rcases h with ⟨h, _⟩ | ⟨g', cap', cur, hv, hb, hg, h1, h2, h3, h4⟩
  · cases h
  · simp only [Value.slice.injEq, Option.some.injEq, Addr.mk.injEq, and_true, true_and] at hv
    obtain ⟨rfl, rfl⟩ := hv
    refine ⟨g, cap, cur.setIfInBounds i u, rfl, hb, obj_setCell (i := i) hg u, h1, h2, by simpa using h3, ?_⟩
    rw [Array.toList_setIfInBounds, List.take_set, h4]
theorem Appended.keeps {w w' : World} {B n : Nat} {e : TypeId} {s m : Nat} {v v' : Value} {xs ys : List Value} (h : Appended w B e s v n xs v' w') (ho : w.ownsRow B e s v m ys) : Keeps (fun b => b < B) w w' :=
  (Keeps.of_grown h.grown).mono fun k _ hk e => by have := owns_block ho k e.symm; omega
theorem byteCells_set (l : List UInt8) (i : Nat) (x : UInt8) : (byteCells l).set i (.int .u8 (x.toNat : Int)) = byteCells (l.set i x) := by simp [byteCells, List.map_set]

theorem owns_later {w w' : World} {B : Nat} {e : TypeId} {s n : Nat} {v : Value} {xs : List Value} (h : w.ownsRow B e s v n xs) (k : Later w w') : w'.ownsRow B e s v n xs :=
  ⟨h.1, h.2.imp id fun ⟨g, cp, cur, a1, a2, a3, a4⟩ => ⟨g, cp, cur, a1, a2, k.obj a3, a4⟩⟩
theorem owns_cell {w : World} {B : Nat} {e : TypeId} {n cap : Nat} {a : Option Addr} {l : List UInt8} (h : w.ownsRow B e 1 (.slice a n cap) n (byteCells l)) {j : Nat} (hj : j < l.length) :
    ∃ g, a = some ⟨g, 0, none⟩ ∧ B ≤ g ∧ g < w.heap.size ∧ w.cell? ⟨g, j, none⟩ = some (.int .u8 (l[j].toNat : Int)) ∧ w.frozen? ⟨g, j, none⟩ = false := by
  obtain ⟨hl, h⟩ := h
  rw [byteCells_length, Nat.mul_one] at hl
  rcases h with ⟨h, h0⟩ | ⟨g, cap', cur, hv, hb, hg, h1, h2, h3, h4⟩
  · omega
  · simp only [Value.slice.injEq, true_and] at hv
    obtain ⟨rfl, rfl⟩ := hv
    refine ⟨g, rfl, hb, (Array.getElem?_eq_some_iff.1 hg).1, cell_obj hg ?_, free_obj hg⟩
    have : (byteCells l)[j]? = some (.int .u8 (l[j].toNat : Int)) := by simp [byteCells, hj]
    rw [← h4, List.getElem?_take] at this
    split at this
    · simpa using this
    · cases this

set_option maxRecDepth 100000 in
set_option maxHeartbeats 4000000 in
theorem opens_walk (v : Value) (l : List UInt8) (k : Int) (w : World) (h : IsBytes w v l) (hlen : l.length ≤ 140737488355328) (hk : (Lit.int .i64 k).wf = true) (hla : Laid w) :
    Calls Tryd.prog 3 #[v, .int .i64 k] w fun e w' => e = .returned (.bool true) ∧ Later w w' := by
  obtain ⟨ii, hi, hz0, hz1, hz2⟩ := info_parts infoU8
  have HI := hid hi; have HZ0 := hid hz0; have HZ1 := hid hz1; have HZ2 := hid hz2; clear hi hz0 hz1 hz2
  have HV := hid h
  have HLA := hid hla
  clear h hla
  go_enter Tryd.func3, Tryd.ntmps3
  go_wp2_with fail
  refine (copied_any v l _ HV.out (by omega)).mono ?_
  rintro e w1 ⟨vi, rfl, hoi, hL1⟩
  have HOI := hid hoi; have HL1 := hid hL1
  clear hoi hL1
  go_wp2_with fail
  refine (open_any vi l k _ (owned_bytes HOI.out).all hk).mono ?_
  rintro e w2 ⟨vb, rfl, hob, hL2⟩
  have HOB := hid hob; have HL2 := hid hL2
  clear hob hL2
  go_wp2_with fail
  refine (ref_open_any v l k _ ((HV.out.bytes_later HL1.out).bytes_later HL2.out) hk).mono ?_
  rintro e w3 ⟨vr, rfl, hvr, hL3⟩
  have HVR := hid hvr; have HL3 := hid hL3
  clear hvr hL3
  obtain ⟨r, hr⟩ : ∃ r, r = openB l k := ⟨_, rfl⟩
  have HOB' := HOB.out; have HVR' := HVR.out
  rw [← hr] at HOB' HVR'
  simp only [← hr]
  have HOBr := hid HOB'; have HVRr := hid HVR'
  clear HOB' HVR' HOB HVR
  have hrl : r.1.length ≤ 134217728 := by
    rw [hr]; unfold openB
    split
    · simp
    · split
      · simp
      · split
        · rw [List.length_drop, List.length_take]; omega
        · simp
  clear hr
  obtain ⟨bd, en, cd⟩ := r
  simp only at hrl
  go_wp2_with fail
  refine (told_any cd _ (((HLA.out.later HL1.out).later HL2.out).later HL3.out)).mono ?_
  rintro e w4 ⟨rfl, hL4⟩
  have hkeep : Later w2 w4 := Later.trans _ _ _ HL3.out hL4
  have hobw : w4.ownsRow w1.heap.size 5 1 vb bd.length (byteCells bd) := by
    obtain ⟨h1, h2⟩ := HOBr.out
    exact ⟨h1, h2.imp id fun ⟨g, cp, cur, a1, a2, a3, a4⟩ => ⟨g, cp, cur, a1, a2, hkeep.obj a3, a4⟩⟩
  have hcb := (owned_bytes hobw).string (P := Tryd.prog) Tryd.underlying22 Tryd.underlying5 Tryd.underlying9
  have hcr := (HVRr.out.bytes_later hL4).string (P := Tryd.prog) Tryd.underlying22 Tryd.underlying5 Tryd.underlying9
  have HIN : Hid (BytesIn (fun b => b < w1.heap.size) w4 vi l) := hid (((owned_bytes HOI.out).blt.bytes_later HL2.out).bytes_later hkeep)
  have HBB : Hid (BytesIn (fun b => b < w1.heap.size) w4 v l) := hid ((((HV.out.blt.bytes_mono (S' := fun b => b < w1.heap.size) fun b hb => Nat.lt_of_lt_of_le hb HL1.out.size).bytes_later HL1.out).bytes_later HL2.out).bytes_later hkeep)
  have HLW : Hid (Later w w4) := hid (Later.trans _ _ _ HL1.out (Later.trans _ _ _ HL2.out hkeep))
  have HOB := hid hobw
  have HSZ : Hid (w1.heap.size ≤ w4.heap.size ∧ w.heap.size ≤ w1.heap.size) := hid ⟨Nat.le_trans HL2.out.size hkeep.size, HL1.out.size⟩
  clear hobw hkeep hL4 HVRr HOBr HL3 HL2 HL1 HOI HLA HV
  obtain ⟨va, vl, vc, hvb⟩ : ∃ a n c, vb = .slice a n c ∧ n = bd.length := by
    obtain ⟨a, c, h, _⟩ := (owned_bytes HOB.out)
    exact ⟨a, _, c, h, rfl⟩
  obtain ⟨rfl, rfl⟩ := hvb
  go_wp2_with fail
  clear hcb hcr
  go_loopw [13] (fun i wr => ∃ (j : Nat) (l' : List UInt8), j ≤ bd.length ∧ l'.length = bd.length ∧ i = .int .i64 j ∧ wr.ownsRow w1.heap.size 5 1 (.slice va bd.length vc) bd.length (byteCells l') ∧ Keeps (fun b => b < w1.heap.size) w4 wr ∧ Later w wr) (fun i _ => bd.length - (intOf i).toNat)
  case atStart => exact ⟨0, bd, by omega, rfl, rfl, HOB.out, Keeps.refl _ _, HLW.out⟩
  case round =>
    obtain ⟨j, l', hj, hl', rfl, hown, hkp, hL⟩ := hrel
    have HO := hid hown; have HK := hid hkp; have HL := hid hL; have HLL := hid hl'
    clear hown hkp hL hl'
    by_cases hlt : j < bd.length
    · have hjl : j < l'.length := by rw [HLL.out]; exact hlt
      obtain ⟨g, rfl, hgB, hgs, hat, hfr⟩ := owns_cell HO.out hjl
      have hjn : (0 : Int) ≤ j := by omega
      have hx := (l'[j]).toNat_lt
      obtain ⟨x, hxe⟩ : ∃ x : UInt8, x.toNat = (l'[j].toNat + 101) % 256 := ⟨UInt8.ofNat (l'[j].toNat + 101), by rw [UInt8.toNat_ofNat']⟩
      have HS := hid (owns_set (i := j) HO.out (.int .u8 (x.toNat : Int)))
      rw [byteCells_set] at HS
      have HXE := hid hxe
      clear hxe
      generalize l'[j].toNat = y at *
      have HY : Hid (((y : Int) + 101) % 256 = (x.toNat : Int)) := hid (by have := HXE.out; omega)
      go_wp2
      go_roundw
      case rel =>
        rw [HY.out]
        exact ⟨j + 1, l'.set j x, by omega, by rw [List.length_set]; exact HLL.out, by go_num, HS.out, HK.out.setCell (p := ⟨g, j, none⟩) (.inl (by simp only; omega)) _, HL.out.new (p := ⟨g, j, none⟩) (by have := HSZ.out.2; simp only; omega) _⟩
      case measure => simp [intOf]; omega
    · go_wp2_with fail
      go_loopw [15, 14] (fun i gv wy => ∃ (q : Nat) (xs : List Value) (a : Option Addr) (cp : Nat), q ≤ 70 ∧ i = .int .i64 q ∧ gv = .slice a (bd.length + q) cp ∧ wy.ownsRow w1.heap.size 5 1 (.slice a (bd.length + q) cp) (bd.length + q) xs ∧ Keeps (fun b => b < w1.heap.size) w4 wy ∧ Later w wy) (fun i _ _ => 70 - (intOf i).toNat)
      case atStart => exact ⟨0, _, va, vc, by omega, rfl, rfl, HO.out, HK.out, HL.out⟩
      case round =>
        obtain ⟨q, xs, a, cp, hq, rfl, rfl, hown, hkp, hL⟩ := hrel
        have HO2 := hid hown; have HK2 := hid hkp; have HL2 := hid hL
        clear hown hkp hL
        by_cases hlt2 : q < 70
        · have hal : (byteCells [238]).length = 1 := rfl
          go_wp2_with (at_builtin; go_loud (refine wpList_append _ rfl _ _ 22 rfl w1.heap.size 5 ii _ 1 1 Tryd.underlying22 HI.out HZ0.out HZ1.out HZ2.out rfl (by decide) (.slice a (bd.length + q) cp) (bd.length + q) xs rfl (owns_later HO2.out (Later.alloc _ _)) ⟨wr.heap.size, 0, none⟩ 1 1 [.int .u8 238] rfl rfl ?c2 ?c3 ?c4 ?c5 ?c6 ?_))
          case c2 =>
            intro j u hu
            have hj : j = 0 := by have := (List.getElem?_eq_some_iff.1 hu).1; simp at this; omega
            subst hj
            rw [add_none rfl]
            exact cell_obj (obj_new _ _) (by simpa using hu)
          case c3 => intro u hu; simp at hu; rw [hu]; rfl
          case c4 => unfold maxLen; omega
          case c5 => omega
          case c6 => have := HK2.out.size; have := HSZ.out.1; simp; omega
          intro v5 w5 hap
          have hap' := hap
          obtain ⟨a5, c5, hv5⟩ := ownsRow_slice hap.own
          have HO5 := hid hap.own
          have HK5 : Hid (Keeps (fun b => b < w1.heap.size) w4 w5) := hid ((HK2.out.alloc _).trans (Appended.keeps hap' (owns_later HO2.out (Later.alloc _ _))))
          have HL5 : Hid (Later w w5) := hid ((Keeps.grown ((HL2.out.alloc' _).keeps (fun _ => True)) hap'.grown (fun k hk => by have := owns_block HO2.out k hk; have := HSZ.out.2; omega)).later)
          subst hv5
          clear hap hap'
          go_wp2
          go_roundw
          case rel => exact ⟨q + 1, _, a5, c5, by omega, by go_num, rfl, HO5.out, HK5.out, HL5.out⟩
          case measure => simp [intOf]; omega
        · obtain rfl : q = 70 := by omega
          have hci := ((HIN.out.bytes_kept HK2.out fun _ h => h).string (P := Tryd.prog) Tryd.underlying22 Tryd.underlying5 Tryd.underlying9)
          have hcb := ((HBB.out.bytes_kept HK2.out fun _ h => h).string (P := Tryd.prog) Tryd.underlying22 Tryd.underlying5 Tryd.underlying9)
          have h70 : IntKind.i64.wrap ((bd.length : Int) + 70) = bd.length + 70 := IntWalk.i64_in _ (by omega)
          go_wp2
          go_ret
          exact ⟨rfl, HL2.out⟩
end Go.Proofs.YtjpdmlopbflggaaDoor
