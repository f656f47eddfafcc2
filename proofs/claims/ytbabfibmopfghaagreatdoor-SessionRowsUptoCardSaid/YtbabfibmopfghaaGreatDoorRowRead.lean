/-
  PROVED HERE: the contract of run.Row: what it reads of a text.
-/
import Derived.Test.YtbabfibmopfghaaGreatDoorRowLib
import Derived.Test.YtbabfibmopfghaaGreatDoorRowShow
import Derived.Test.YtbabfibmopfghaaGreatDoorValueRead
import Derived.Test.YtbabfibmopfghaaGreatDoorValidRow
import Derived.Test.YtbabfibmopfghaaGreatDoorAppX
import Derived.Test.YtbabfibmopfghaaGreatDoorClone
namespace Go.Proofs.YtbabfibmopfghaaGreatDoor
set_option linter.unusedSimpArgs false
set_option linter.unusedVariables false
open Go.RowKit

def ParseTo (w : World) (l : List UInt8) (e : Ending) (w' : World) : Prop :=
  Later w w' ∧ ∃ (n : Int) (er : Value), e = .returned (.tuple #[.int .i64 n, er]) ∧ (Lit.int .i64 n).wf = true ∧ ((Lib.parseIntB 64 l = .ok n ∧ er = .nilIface) ∨ ((∀ n, Lib.parseIntB 64 l ≠ .ok n) ∧ ∃ N, er = numE N))
theorem sat_wf (l : List UInt8) : (Lit.int .i64 (Lib.intSat 64 l)).wf = true := by
  unfold Lib.intSat
  split <;> decide
theorem parse_int2 (l : List UInt8) (w : World) (hs : l.length ≤ 140737488351232) (hE : ErrVars w) : Calls Tryz.prog 44 #[.string (strB l), .int .i64 10, .int .i64 64] w (ParseTo w l) := by
  have hsz : (strB l).size = l.length := strB_size l
  obtain ⟨⟨t1, p1, h1⟩, t2, p2, h2⟩ := hE
  cases hp : Lib.parseIntB 64 l with
  | ok n =>
    refine (Tryz.strconv_ParseInt_10_at64_ok (strB l) (by omega) n hp w).mono ?_
    rintro e w' ⟨rfl, hw⟩
    have hb := parse_range hp
    refine ⟨?_, n, .nilIface, rfl, by simpa [Lit.wf, IntKind.min, IntKind.max, IntKind.bits, IntKind.signed] using hb, .inl ⟨hp, rfl⟩⟩
    rcases hw with rfl | ⟨t, rfl⟩
    · exact Later.refl _
    · exact Lib.bytesWorld_below _ _ _
  | range =>
    refine (Tryz.strconv_ParseInt_10_at64_range (strB l) (by omega) hp _ w h2 (.inr ⟨_, _, rfl⟩)).mono ?_
    rintro e w' ⟨N, rfl, -, -, hB⟩
    exact ⟨hB, _, _, rfl, sat_wf _, .inr ⟨fun n => (fun h => by rw [hp] at h; cases h), N, rfl⟩⟩
  | _ =>
    refine (Tryz.strconv_ParseInt_10_at64_syntax (strB l) (by omega) hp _ w h1 (.inr ⟨_, _, rfl⟩)).mono ?_
    rintro e w' ⟨N, rfl, -, -, hB⟩
    exact ⟨hB, 0, _, rfl, by decide, .inr ⟨fun n => (fun h => by rw [hp] at h; cases h), N, rfl⟩⟩

def RObj (w : World) (B : Nat) (t : Int) (v : Value) : Prop := w.heap[B]? = some (.cells #[.int .i64 t, v] 24 (0, 0))
def MaxLenAt (w : World) : Prop := ∃ m, w.cell? ⟨1, 0, none⟩ = some (.int .i64 m)
/-- what is read of a row's text. -/
def RowRead (w : World) (s : List UInt8) (e : Ending) (w' : World) : Prop :=
  Later w w' ∧ match rowP s with
    | none => e = .returned (.tuple #[.agg #[.int .i64 0, .slice none 0 0], readE])
    | some (n, l) => ∃ v, e = .returned (.tuple #[.agg #[.int .i64 n, v], .nilIface]) ∧ IsVals w' v l ∧ (v = .slice none 0 0 ↔ l = [])

theorem strB_toL (l : List UInt8) : (strB l).toList = l := by rw [Lib.toList_data]; rfl
theorem strB_list (l : List UInt8) : (strB l).data.toList = l := rfl
def CutTo (w : World) (l : List UInt8) (e : Ending) (w' : World) : Prop := Later w w' ∧ e = .returned (.tuple #[.string (strB (headR l)), .string (strB ((restR l).getD [])), .bool (restR l).isSome])
theorem cut_any (l : List UInt8) (w : World) (hs : l.length ≤ 1073741824) (hm : MaxLenAt w) : Calls Tryz.prog 43 #[.string (strB l), .string ⟨#[58]⟩] w (CutTo w l) := by
  obtain ⟨m, hm⟩ := hm
  have hsz : (strB l).size = l.length := strB_size l
  refine (Tryz.strings_Cut (strB l) ⟨#[58]⟩ m w (by omega) hm).mono ?_
  rintro e w' ⟨rfl, n, rfl⟩
  refine ⟨Later.drewN _ _, ?_⟩
  rw [show (⟨#[58]⟩ : ByteArray).data.toList = [58] from rfl, strB_list, cut_eq]
  rfl
theorem trim_any (l : List UInt8) (w : World) : Calls Tryz.prog 45 #[.string (strB l), .string ⟨#[32]⟩] w fun e w' => e = .returned (.string (strB (trimP l))) ∧ w' = w := by
  refine (Tryz.strings_TrimPrefix (strB l) ⟨#[32]⟩ w).mono ?_
  rintro e w' ⟨rfl, rfl⟩
  refine ⟨?_, rfl⟩
  rw [show (⟨#[32]⟩ : ByteArray).data.toList = [32] from rfl, strB_list, trim_eq]
  rfl
theorem pre_any (l : List UInt8) (w : World) : Calls Tryz.prog 47 #[.string (strB l), .string ⟨#[39]⟩] w fun e w' => e = .returned (.bool (decide (l.head? = some 39))) ∧ w' = w := by
  refine (Tryz.strings_HasPrefix (strB l) ⟨#[39]⟩ w).mono ?_
  rintro e w' ⟨rfl, rfl⟩
  refine ⟨?_, rfl⟩
  rw [show (⟨#[39]⟩ : ByteArray).data.toList = [39] from rfl, strB_list, pre_eq]
def idxI (c : UInt8) (l : List UInt8) : Int := match idxB c l with | none => -1 | some i => (i : Int)
def endI (l : List UInt8) : Int := match endP l with | none => -1 | some i => (i : Int)
theorem idx_any (c : UInt8) (l : List UInt8) (w : World) : Calls Tryz.prog 46 #[.string (strB l), .int .u8 (c.toNat : Int)] w fun e w' => e = .returned (.int .i64 (idxI c l)) ∧ w' = w := by
  refine (Tryz.strings_IndexByte (strB l) (c.toNat : Int) w).mono ?_
  rintro e w' ⟨rfl, rfl⟩
  refine ⟨?_, rfl⟩
  rw [strB_list, show (c.toNat : Int).toNat.toUInt8 = c from by simp, indexB_eq]
  rfl

theorem valElem : ElemInfo Tryz.prog 62 3 32 := ElemInfo.of infoVal rfl (by decide)
theorem cells_ones (x : Val) : ∀ u ∈ x.cells, u.oneCell' = true := by
  intro u hu
  simp only [Val.cells, List.mem_cons, List.not_mem_nil, or_false] at hu
  rcases hu with rfl | rfl | rfl <;> rfl
theorem valCells_snoc (l : List Val) (x : Val) : valCells l ++ x.cells = valCells (l ++ [x]) := by simp [valCells]
theorem own_slice {w : World} {B s n : Nat} {e : TypeId} {v : Value} {xs : List Value} (h : w.ownsRow B e s v n xs) : ∃ a c, v = .slice a n c := by
  rcases h.2 with ⟨rfl, h0⟩ | ⟨g, cap, cur, rfl, _⟩
  · exact ⟨none, 0, by rw [h0]⟩
  · exact ⟨_, _, rfl⟩
def moreI (l : List UInt8) : Bool := match endP l with | none => false | some e => decide (e < l.length)
/-- what a cut leaves: the piece, and what is to be read behind it. -/
def CutAt (l t : List UInt8) (more : Bool) (q : List UInt8) : Prop := q.length ≤ l.length ∧ t.length ≤ l.length ∧ cutP l = some (t, if more = true then some q else none)
/-- the rest that is to be read, if there is any. -/
def moreR (s : List UInt8) : Bool := (restR s).isSome && !((restR s).getD []).isEmpty
theorem more_target (s : List UInt8) : valsP (restR s) = if moreR s = true then loopP (((restR s).getD []).length + 1) ((restR s).getD []) [] else some [] := by
  unfold valsP moreR
  cases h : restR s with
  | none => rfl
  | some l => cases l <;> rfl
theorem rest_len (s : List UInt8) : ((restR s).getD []).length ≤ s.length := by
  unfold restR
  have h := (List.dropWhile_suffix (fun c => c != 58) (l := s)).length_le
  split
  · simp
  · rename_i a r e
    rw [e] at h
    simp only [List.length_cons] at h
    simp only [Option.getD_some]
    omega
/-- what holds ahead of each round. -/
def RowInv (w : World) (n : Int) (B0 B9 : Nat) (s : List UInt8) (acc : List Val) (v : Value) (q : List UInt8) (more : Bool) (wx : World) : Prop :=
  Later w wx ∧ RObj wx B0 0 (.slice none 0 0) ∧ RObj wx B9 n v ∧ wx.ownsRow (B9 + 1) 62 3 v acc.length (valCells acc) ∧ (v = .slice none 0 0 ↔ acc = []) ∧ (∀ x ∈ acc, IntOk x) ∧
  acc.length + (if more = true then q.length + 1 else 0) ≤ s.length + 1 ∧ q.length ≤ s.length ∧ valsP (restR s) = if more = true then loopP (q.length + 1) q acc else some acc
def strOf : Value → ByteArray
  | .string b => b
  | _ => ⟨#[]⟩
def boolOf : Value → Bool
  | .bool b => b
  | _ => false
set_option maxRecDepth 100000 in
set_option maxHeartbeats 4000000 in
theorem row_read (s : List UInt8) (w : World) (hs : s.length ≤ 1073741824) (hE : ErrVars w) (ht : PowTab w) (hm : MaxLenAt w) : Calls Tryz.prog 13 #[.string (strB s)] w (RowRead w s) := by
  have HS := hid hs; have HE := hid hE; have HT := hid ht
  obtain ⟨m, hm⟩ := hm
  have HM := hid hm
  clear hs hE ht hm
  have hss : (strB s).size = s.length := strB_size s
  have HSS := hid hss
  clear hss
  go_enter Tryz.func13, Tryz.ntmps13
  go_upto_region 4 with (fail)
  refine (cut_any s _ HS.out ⟨m, (Later.alloc w _).cell HM.out⟩).mono ?_
  rintro e w1 ⟨hL1, rfl⟩
  have HX1 := hid (hL1.obj (obj_new w _))
  have HL1 := hid (Later.of_alloc hL1)
  have hhl : (headR s).length ≤ s.length := (List.takeWhile_prefix _).length_le
  have HHL := hid hhl
  clear hL1 hhl
  go_upto_region 4 with (fail)
  refine (parse_int2 (headR s) _ (by have := HHL.out; have := HS.out; omega) (HE.out.later HL1.out)).mono ?_
  rintro e w2 ⟨hL2, n, er, rfl, hnw, her⟩
  have HNW := hid hnw
  have HER := hid her
  have HX2 := hid (hL2.obj HX1.out)
  have HL2 := hid (Later.trans _ _ _ HL1.out hL2)
  clear hL2 hnw her HX1 HL1
  go_upto_region 4 with (fail)
  obtain ⟨R3, hR3⟩ : ∃ RR_ : (Nat → Value) → World → Prop, RR_ = (fun us wx => us 10 = .bool (moreR s) ∧ wx = w2.alloc (.cells #[.int .i64 n, .slice none 0 0] 24)) := ⟨_, rfl⟩
  have HR3 := hid hR3; clear hR3
  refine wp_cut_frame' [false, false, false, false, false, false, false, false, false, false, true, false, false, false, false, false, false, false, false, false, false, false, false, false, false, false, false, false, true, true, true, true, true] R3 _ HR3.out ?_ ?_
  · cases hr : restR s with
    | none =>
      go_wp2_with fail
      refine Meet.mk' HR3.out rfl ?_
      exact ⟨by simp [slots, moreR, hr], rfl⟩
    | some r =>
      go_wp2_with fail
      refine Meet.mk' HR3.out rfl ?_
      exact ⟨by simp [slots, moreR, hr, strB_toL], rfl⟩
  intro us3 wy hrel
  obtain ⟨h10, rfl⟩ := hrel
  simp only [frameOf, Nat.reduceAdd, h10]
  have Hh10 := hid h10; clear h10
  have HMT := hid (more_target s)
  have HRL := hid (rest_len s)
  have HB : Hid (w.heap.size < w2.heap.size) := hid (by have := (Array.getElem?_eq_some_iff.1 HX2.out).1; exact this)
  generalize moreR s = mo at *
  generalize (restR s).getD [] = q0 at *
  generalize (restR s).isSome = co at *
  go_upto_region 5 with (fail)
  obtain ⟨R1, hR1⟩ : ∃ RR_ : (Nat → Value) → World → Prop, RR_ = (fun us wx => ∃ acc v q more, us 5 = .string (strB q) ∧ us 10 = .bool more ∧ RowInv w n w.heap.size w2.heap.size s acc v q more wx) := ⟨_, rfl⟩
  obtain ⟨mu1, hmu1⟩ : ∃ mu : (Nat → Value) → World → Nat, mu = (fun us _ => if boolOf (us 10) = true then (strOf (us 5)).size + 1 else 0) := ⟨_, rfl⟩
  have HR1 := hid hR1; have Hmu1 := hid hmu1; clear hR1 hmu1
  refine wp_loop_frame' [false, false, false, true, false, true, false, false, false, false, true, true, true, true, true, false, false, false, false, false, false, false, false, false, false, false, false, false, false, false, false, false, false, true, true, true, true, true, true, true, true, true, true, true, true, true, true, true, true, true, true, true, true, true, true, true, true, true, true, true, true, true, true, true, true, true, true, true, true, true, true, true, true, true, true, true, true, true, true, true, true, true, true, true, true, true, true] R1 _ mu1 HR1.out ?_ ?_
  · refine ⟨[], .slice none 0 0, q0, mo, rfl, by first | rfl | simp [slots], (HL2.out).alloc' _, (Later.alloc w2 _).obj HX2.out, obj_new w2 _, ?_, by simp, by simp, ?_, HRL.out, ?_⟩
    · exact ⟨rfl, .inl ⟨rfl, rfl⟩⟩
    · have := HRL.out
      cases mo <;> simp
      omega
    · exact HMT.out
  intro us1 wx hrel
  obtain ⟨acc, v, q, more, h5, h10, hI⟩ := hrel
  simp only [frameOf, Nat.reduceAdd, h5, h10]
  have Hh5 := hid h5; clear h5
  have Hh10 := hid h10; clear h10
  have H10 := Hh10
  have H5 := Hh5
  have HI := hid hI
  clear hI
  cases more with
  | false =>
    obtain ⟨hLx, hB0, hB9, hown, hnil, hok, hlen, hq, htg⟩ := HI.out
    have HLX := hid hLx
    have HB0 := hid hB0
    have HB9 := hid hB9
    have HIV : Hid (ValsIn (fun b => w2.heap.size + 1 ≤ b) wx v acc) := hid (owned_vals hown)
    obtain ⟨va, vc, rfl⟩ := own_slice hown
    have HNIL := hid hnil
    have HOK := hid hok
    have HAL : Hid (acc.length ≤ 1099511627776) := hid (by have := HS.out; omega)
    have HTG : Hid (valsP (restR s) = some acc) := hid htg
    have p0 := cell_obj (i := 0) hB9 rfl
    have p1 := cell_obj (i := 1) hB9 rfl
    clear hLx hB0 hB9 hown hnil hok hlen hq htg HI
    go_wp2_with fail
    refine (show_row n acc (.slice va acc.length vc) _ (HIV.out.vals_mono fun _ _ => trivial) HAL.out HNW.out (fun x hx => lit_ok (HOK.out x hx)) (HT.out.later HLX.out)).mono ?_
    rintro e w3 ⟨rfl, hL3⟩
    have HL3 := hid (Later.trans _ _ _ HLX.out hL3)
    have HB03 := hid (hL3.obj HB0.out)
    have HB93 := hid (hL3.obj HB9.out)
    have HIV3 := hid (HIV.out.later hL3)
    clear hL3 p0 p1
    have p0 := cell_obj (i := 0) HB93.out rfl
    have p1 := cell_obj (i := 1) HB93.out rfl
    have b0 := cell_obj (i := 0) HB03.out rfl
    have b1 := cell_obj (i := 1) HB03.out rfl
    have z0 : w3.frozen? ⟨w.heap.size, 0, none⟩ = false := free_obj HB03.out
    have z1 : w3.frozen? ⟨w.heap.size, 1, none⟩ = false := free_obj HB03.out
    by_cases hsh : showRow n acc = s
    · have HSH := hid hsh
      have hne : ((strB (showRow n acc)).toList == (strB s).toList) = true := by rw [hsh]; simp
      clear hsh
      rcases HER.out with ⟨hp, he⟩ | ⟨hp, N, he⟩
      · subst he
        have HP := hid hp
        clear hp HER
        go_wp2_with fail
        refine (valid_row n acc (.slice va acc.length vc) _ (HIV3.out.vals_mono fun _ _ => trivial)).mono ?_
        rintro e w4 ⟨rfl, hL4⟩
        have HL4 := hid (Later.trans _ _ _ HL3.out hL4)
        have HB04 := hid (hL4.obj HB03.out)
        have HB94 := hid (hL4.obj HB93.out)
        have HIV4 := hid (HIV3.out.later hL4)
        clear hL4 p0 p1 b0 b1 z0 z1
        have p0 := cell_obj (i := 0) HB94.out rfl
        have p1 := cell_obj (i := 1) HB94.out rfl
        have b0 := cell_obj (i := 0) HB04.out rfl
        have b1 := cell_obj (i := 1) HB04.out rfl
        have z0 : w4.frozen? ⟨w.heap.size, 0, none⟩ = false := free_obj HB04.out
        have z1 : w4.frozen? ⟨w.heap.size, 1, none⟩ = false := free_obj HB04.out
        cases hvr : validR ⟨n, acc⟩ with
        | true =>
          have HYES : Hid (rowP s = some (n, acc)) := hid (by
            unfold rowP
            rw [HTG.out, HP.out]
            simp only
            rw [if_pos ⟨HSH.out, hvr⟩])
          clear hvr
          go_wp2_with fail
          have HZ : Hid (RObj ((w4.setCell ⟨w.heap.size, 0, none⟩ (.int .i64 n)).setCell ⟨w.heap.size, 1, none⟩ (.slice va acc.length vc)) w.heap.size n (.slice va acc.length vc)) := hid (obj_setCell (i := 1) (obj_setCell (i := 0) HB04.out (.int .i64 n)) (.slice va acc.length vc))
          have y0 := cell_obj (i := 0) HZ.out rfl
          have y1 := cell_obj (i := 1) HZ.out rfl
          refine bodyPost_ret (v := .tuple #[.agg #[.int .i64 n, (.slice va acc.length vc)], .nilIface]) (by simp [results, Tryz.results13, go_sem, y0, y1] <;> rfl) rfl ⟨?_, ?_⟩
          · exact (HL4.out.new (p := ⟨w.heap.size, 0, none⟩) (Nat.le_refl _) _).new (p := ⟨w.heap.size, 1, none⟩) (Nat.le_refl _) _
          · rw [HYES.out]
            refine ⟨_, rfl, ?_, HNIL.out⟩
            have hk : Keeps (fun b => w2.heap.size + 1 ≤ b) w4 ((w4.setCell ⟨w.heap.size, 0, none⟩ (.int .i64 n)).setCell ⟨w.heap.size, 1, none⟩ (.slice va acc.length vc)) :=
              ((Keeps.refl _ w4).setCell (p := ⟨w.heap.size, 0, none⟩) (.inl fun h => by have := HB.out; simp only at h; omega) _).setCell (p := ⟨w.heap.size, 1, none⟩) (.inl fun h => by have := HB.out; simp only at h; omega) _
            exact (HIV4.out.vals_kept hk fun _ h => h).vals_mono fun _ _ => trivial
        | false =>
          have HNO : Hid (rowP s = none) := hid (by
            unfold rowP
            rw [HTG.out, HP.out]
            simp only
            rw [if_neg fun h => by rw [hvr] at h; cases h.2])
          clear hvr
          go_wp2_with fail
          have HZ : Hid (RObj ((w4.setCell ⟨w.heap.size, 0, none⟩ (.int .i64 0)).setCell ⟨w.heap.size, 1, none⟩ (.slice none 0 0)) w.heap.size 0 (.slice none 0 0)) := hid (obj_setCell (i := 1) (obj_setCell (i := 0) HB04.out (.int .i64 0)) (.slice none 0 0))
          have y0 := cell_obj (i := 0) HZ.out rfl
          have y1 := cell_obj (i := 1) HZ.out rfl
          refine bodyPost_ret (v := .tuple #[.agg #[.int .i64 0, .slice none 0 0], readE]) (by simp [results, Tryz.results13, go_sem, y0, y1] <;> rfl) rfl ⟨?_, by rw [HNO.out]⟩
          exact (HL4.out.new (p := ⟨w.heap.size, 0, none⟩) (Nat.le_refl _) _).new (p := ⟨w.heap.size, 1, none⟩) (Nat.le_refl _) _
      · unfold numE at he
        subst he
        have HNO : Hid (rowP s = none) := hid (by
          unfold rowP
          split
          · rename_i n' h'; exact absurd h' (hp n')
          · rfl)
        clear hp HER
        go_wp2_with fail
        have HZ : Hid (RObj ((w3.setCell ⟨w.heap.size, 0, none⟩ (.int .i64 0)).setCell ⟨w.heap.size, 1, none⟩ (.slice none 0 0)) w.heap.size 0 (.slice none 0 0)) := hid (obj_setCell (i := 1) (obj_setCell (i := 0) HB03.out (.int .i64 0)) (.slice none 0 0))
        have y0 := cell_obj (i := 0) HZ.out rfl
        have y1 := cell_obj (i := 1) HZ.out rfl
        refine bodyPost_ret (v := .tuple #[.agg #[.int .i64 0, .slice none 0 0], readE]) (by simp [results, Tryz.results13, go_sem, y0, y1] <;> rfl) rfl ⟨?_, by rw [HNO.out]⟩
        exact (HL3.out.new (p := ⟨w.heap.size, 0, none⟩) (Nat.le_refl _) _).new (p := ⟨w.heap.size, 1, none⟩) (Nat.le_refl _) _
    · have HSH := hid hsh
      have hne : ((strB (showRow n acc)).toList == (strB s).toList) = false := by rw [strB_toL, strB_toL]; simpa using hsh
      have HNO : Hid (rowP s = none) := hid (by
        unfold rowP
        rw [HTG.out]
        rcases HER.out with ⟨h1, -⟩ | ⟨h1, -⟩
        · rw [h1]; simp only; rw [if_neg fun h => HSH.out h.1]
        · split
          · rename_i n' h'; exact absurd h' (h1 n')
          · rfl)
      clear hsh
      go_wp2_with fail
      have HZ : Hid (RObj ((w3.setCell ⟨w.heap.size, 0, none⟩ (.int .i64 0)).setCell ⟨w.heap.size, 1, none⟩ (.slice none 0 0)) w.heap.size 0 (.slice none 0 0)) := hid (obj_setCell (i := 1) (obj_setCell (i := 0) HB03.out (.int .i64 0)) (.slice none 0 0))
      have y0 := cell_obj (i := 0) HZ.out rfl
      have y1 := cell_obj (i := 1) HZ.out rfl
      refine bodyPost_ret (v := .tuple #[.agg #[.int .i64 0, .slice none 0 0], readE]) (by simp [results, Tryz.results13, go_sem, y0, y1] <;> rfl) rfl ⟨?_, by rw [HNO.out]⟩
      exact (HL3.out.new (p := ⟨w.heap.size, 0, none⟩) (Nat.le_refl _) _).new (p := ⟨w.heap.size, 1, none⟩) (Nat.le_refl _) _
  | true =>
    go_wp2_with fail
    refine (trim_any q _).mono ?_
    rintro e w' ⟨rfl, rfl⟩
    have HTL := hid (trimP_len q)
    have HLP : Hid (loopP (q.length + 1) q acc = loopP (q.length + 1) q acc) := hid rfl
    generalize hl : trimP q = l at *
    have HQL := hid hl
    clear hl
    go_wp2_with fail
    refine (idx_any 44 l _).mono ?_
    rintro e w' ⟨rfl, rfl⟩
    go_wp2_with fail
    refine (pre_any l _).mono ?_
    rintro e w' ⟨rfl, rfl⟩
    have HQS : Hid (q.length ≤ s.length) := hid HI.out.2.2.2.2.2.2.2.1
    go_upto_if 39 with (fail)
    obtain ⟨R4, hR4⟩ : ∃ RR_ : (Nat → Value) → World → Prop, RR_ = (fun us wy => us 11 = .int .i64 (endI l) ∧ wy = w') := ⟨_, rfl⟩
    have HR4 := hid hR4; clear hR4
    refine wp_cut_frame' [false, false, false, false, false, false, false, false, false, false, false, true, false, false, false, false, false, false, false, false, false, false, false, false, false, false, false, false, false, false, false, false, false, false, false, false, false, false, false, false, true, true, true, true, true, true, true] R4 _ HR4.out ?_ ?_
    · by_cases h39 : l.head? = some 39
      · obtain ⟨r, rfl⟩ : ∃ r, l = 39 :: r := by
          cases l with
          | nil => cases h39
          | cons a r => cases h39; exact ⟨r, rfl⟩
        have hcut : (strB (39 :: r)).extract 1 (r.length + 1) = strB r := by rw [strB_cut, List.take_of_length_le (by simp)]; rfl
        have hz : (strB (39 :: r)).size = r.length + 1 := strB_size _
        have HEND : Hid (endI (39 :: r) = match idxB 39 r with | none => -1 | some i => (i : Int) + 2) := hid (by
          unfold endI endP
          simp only [List.head?_cons, if_true, List.tail_cons]
          cases idxB 39 r <;> simp)
        have hrl : r.length + 1 ≤ 1073741824 := by have := HTL.out; have := HQS.out; have := HS.out; simp only [List.length_cons] at *; omega
        have HRLN := hid hrl
        clear hrl
        go_wp2_with fail
        refine (idx_any 39 r _).mono ?_
        rintro e w' ⟨rfl, rfl⟩
        clear hcut hz h39
        cases hix : idxB 39 r with
        | none =>
          have HE4 : Hid (endI (39 :: r) = -1) := hid (by rw [HEND.out, hix])
          have hii : idxI 39 r = -1 := by unfold idxI; rw [hix]
          rw [hii]
          clear hix hii
          go_wp2_with fail
          refine Meet.mk' HR4.out rfl ?_
          exact ⟨by simp [slots, HE4.out], rfl⟩
        | some i =>
          have hil := idxB_lt hix
          have HE4 : Hid (endI (39 :: r) = (i : Int) + 2) := hid (by rw [HEND.out, hix])
          have hii : idxI 39 r = (i : Int) := by unfold idxI; rw [hix]
          have hi0 : (0 : Int) ≤ i := by omega
          have hi2 : ¬ (9223372036854775807 : Int) < i + 2 := by have := HRLN.out; omega
          rw [hii]
          clear hix hii hil
          go_wp2_with fail
          refine Meet.mk' HR4.out rfl ?_
          exact ⟨by simp only [slots, HE4.out]; go_num, rfl⟩
      · have HE4 : Hid (endI l = idxI 44 l) := hid (by unfold endI endP idxI; rw [if_neg h39])
        go_wp2_with fail
        refine Meet.mk' HR4.out rfl ?_
        exact ⟨by simp [slots, HE4.out], rfl⟩
    intro us4 wy hrel
    obtain ⟨h11, rfl⟩ := hrel
    simp only [frameOf, Nat.reduceAdd, h11]
    have Hh11 := hid h11; clear h11
    go_upto_region 13 with (fail)
    have hzl : (strB l).size = l.length := strB_size l
    have hlm : l.length ≤ 1073741824 := by have := HTL.out; have := HQS.out; have := HS.out; omega
    have HLM := hid hlm
    obtain ⟨R5, hR5⟩ : ∃ RR_ : (Nat → Value) → World → Prop, RR_ = (fun us wz => us 10 = .bool (moreI l) ∧ wz = wy) := ⟨_, rfl⟩
    have HR5 := hid hR5; clear hR5
    refine wp_cut_frame' [false, false, false, false, false, false, false, false, false, false, true, false, false, false, false, false, false, false, false, false, false, false, false, false, false, false, false, false, false, false, false, false, false, false, false, false, false, false, false, false, false, false, false, false, false, false, false, false, true, true, true, true, true, true, true, true] R5 _ HR5.out ?_ ?_
    · cases he : endP l with
      | none =>
        have hE : endI l = -1 := by unfold endI; rw [he]
        have HM5 : Hid (moreI l = false) := hid (by unfold moreI; rw [he])
        rw [hE]
        clear hE he
        go_wp2_with fail
        refine Meet.mk' HR5.out rfl ?_
        exact ⟨by simp [slots, HM5.out], rfl⟩
      | some e =>
        have hE : endI l = (e : Int) := by unfold endI; rw [he]
        have hM : moreI l = decide (e < l.length) := by unfold moreI; rw [he]
        have hi0 : (0 : Int) ≤ e := by omega
        rw [hE]
        clear hE he
        by_cases hlt : e < l.length
        · have HM5 : Hid (moreI l = true) := hid (by rw [hM]; simpa using hlt)
          have hlt' : (e : Int) < l.length := by omega
          clear hM
          go_wp2_with fail
          refine Meet.mk' HR5.out rfl ?_
          exact ⟨by simp [slots, HM5.out, hlt], rfl⟩
        · have HM5 : Hid (moreI l = false) := hid (by rw [hM]; simpa using hlt)
          have hlt' : ¬ (e : Int) < l.length := by omega
          clear hM
          go_wp2_with fail
          refine Meet.mk' HR5.out rfl ?_
          exact ⟨by simp [slots, HM5.out, hlt], rfl⟩
    intro us5 wz hrel
    obtain ⟨h10, rfl⟩ := hrel
    simp only [frameOf, Nat.reduceAdd, h10]
    have Hh10 := hid h10; clear h10
    clear hzl hlm
    go_upto_if 56 with (fail)
    obtain ⟨R6, hR6⟩ : ∃ RR_ : (Nat → Value) → World → Prop, RR_ = (fun us wx => ∃ t more q', us 12 = .string (strB t) ∧ us 10 = .bool more ∧ us 5 = .string (strB q') ∧ CutAt l t more q' ∧ Later wz wx) := ⟨_, rfl⟩
    have HR6 := hid hR6; clear hR6
    refine wp_cut_frame' [false, false, false, true, false, true, false, false, false, false, true, false, true, false, false, false, false, false, false, false, false, false, false, false, false, false, false, false, false, false, false, false, false, false, false, false, false, false, false, false, false, false, false, false, false, false, false, false, false, false, false, false, false, false, false, false, false, true, true, true, true, true, true, true, true, true, true, true, true, true, true, true] R6 _ HR6.out ?_ ?_
    · have hzl : (strB l).size = l.length := strB_size l
      cases he : endP l with
      | none =>
        have hM : moreI l = false := by unfold moreI; rw [he]
        have HCA : Hid (CutAt l l false l) := hid ⟨Nat.le_refl _, Nat.le_refl _, by unfold cutP; rw [he]; rfl⟩
        rw [hM]
        clear hM he
        go_wp2_with fail
        refine Meet.mk' HR6.out rfl ?_
        exact ⟨l, false, l, rfl, rfl, rfl, HCA.out, Later.refl _⟩
      | some e =>
        by_cases hlt : e < l.length
        · have hM : moreI l = true := by unfold moreI; rw [he]; simpa using hlt
          have hE : endI l = (e : Int) := by unfold endI; rw [he]
          obtain ⟨c, r, hd⟩ : ∃ c r, l.drop e = c :: r := by
            cases hx : l.drop e with
            | nil => have := congrArg List.length hx; rw [List.length_drop] at this; simp at this; omega
            | cons c r => exact ⟨c, r, rfl⟩
          have hrlen : r.length + 1 = l.length - e := by have := congrArg List.length hd; rw [List.length_drop] at this; simp at this; omega
          have hdr : l.drop (e + 1) = r := by rw [← List.drop_drop, hd]; rfl
          have HCUT : Hid (cutP l = if c = 44 then some (l.take e, some r) else none) := hid (by unfold cutP; rw [he]; simp only [hlt, if_true, hd, List.head?_cons, Option.some.injEq, hdr])
          have hc1 : (strB l).extract 0 e = strB (l.take e) := by rw [strB_cut]; simp
          have hc2 : (strB l).extract e l.length = strB (c :: r) := by rw [strB_cut, hd, List.take_of_length_le (by simp; omega)]
          have hc3 : (strB (c :: r)).extract 1 (r.length + 1) = strB r := by rw [strB_cut, List.take_of_length_le (by simp)]; rfl
          have hz2 : (strB (c :: r)).size = r.length + 1 := strB_size _
          have hi0 : (0 : Int) ≤ e := by omega
          have hle : (e : Int) ≤ l.length := by omega
          have HLT := hid hlt
          have HRN := hid hrlen
          have HC3 := hid hc3
          have HZ2 := hid hz2
          rw [hM, hE]
          clear hM hE he hd hrlen hdr hlt hc3 hz2
          go_wp2_with fail
          refine wp_region_lex (by kernel_rfl) (by kernel_rfl) Later Later.refl Later.trans (fun _ => none) (fun _ _ _ _ _ h => by cases h) ?_
          simp only [numbered, Nat.reduceAdd]
          refine LexS.out ?_
          iterate 8
            first
            | (refine LexS.skip rfl ?_; simp only [Act.put, List.setIfInBounds_toArray, List.set])
            | (refine LexS.one' rfl rfl ?_
               apply Exists.intro
               refine ⟨fun w hR hF => ?_, ?_⟩
               · have hP := hR
                 repeat (first | replace hP := Later.of_drew hP | replace hP := Later.of_drewN hP | replace hP := Later.of_alloc hP)
                 have hcs := hR.cells
                 clear hR hF hP
                 go_simp
                 first | done | rfl
               simp only [Act.put, List.setIfInBounds_toArray, List.set])
          refine LexS.nil ?_
          intro w4 hR4 hF9
          clear hF9
          repeat (first | replace hR4 := Later.of_drew hR4 | replace hR4 := Later.of_drewN hR4 | replace hR4 := Later.of_alloc hR4)
          have HR4 := hid hR4
          clear hR4 hc1 hc2 hle hi0
          have hidx : ∀ (h : 0 < (strB (c :: r)).size), (strB (c :: r))[0]'h = c := fun h => rfl
          have hz2 := HZ2.out
          by_cases c44 : c = 44
          · have hcb : ((c.toNat : Int) == 44) = true := by rw [c44]; decide
            have HCA : Hid (CutAt l (l.take e) true r) := hid ⟨by have := HRN.out; omega, by rw [List.length_take]; omega, by rw [HCUT.out, if_pos c44]; rfl⟩
            have hc3 := HC3.out
            clear c44
            go_wp2_with fail
            refine Meet.mk' HR6.out rfl ?_
            exact ⟨l.take e, true, r, rfl, by simp [slots, hcb], rfl, HCA.out, HR4.out⟩
          · have hcb : ((c.toNat : Int) == 44) = false := by
              have : c.toNat ≠ 44 := fun h => c44 (UInt8.toNat_inj.1 h)
              simp; omega
            have HNO : Hid (rowP s = none) := hid (by
              have h1 : valsP (restR s) = none := by
                rw [HI.out.2.2.2.2.2.2.2.2, if_pos rfl]
                unfold loopP
                rw [HQL.out, HCUT.out, if_neg c44]
              unfold rowP
              rw [h1]
              split <;> rfl)
            have HB04 := hid (HR4.out.obj HI.out.2.1)
            have b0 := cell_obj (i := 0) HB04.out rfl
            have b1 := cell_obj (i := 1) HB04.out rfl
            have z0 : w4.frozen? ⟨w.heap.size, 0, none⟩ = false := free_obj HB04.out
            have z1 : w4.frozen? ⟨w.heap.size, 1, none⟩ = false := free_obj HB04.out
            clear c44
            go_wp2_with fail
            have HZ : Hid (RObj ((w4.setCell ⟨w.heap.size, 0, none⟩ (.int .i64 0)).setCell ⟨w.heap.size, 1, none⟩ (.slice none 0 0)) w.heap.size 0 (.slice none 0 0)) := hid (obj_setCell (i := 1) (obj_setCell (i := 0) HB04.out (.int .i64 0)) (.slice none 0 0))
            have y0 := cell_obj (i := 0) HZ.out rfl
            have y1 := cell_obj (i := 1) HZ.out rfl
            refine bodyPost_ret (v := .tuple #[.agg #[.int .i64 0, .slice none 0 0], readE]) (by simp [results, Tryz.results13, go_sem, y0, y1] <;> rfl) rfl ⟨?_, by rw [HNO.out]⟩
            exact ((Later.trans _ _ _ HI.out.1 HR4.out).new (p := ⟨w.heap.size, 0, none⟩) (Nat.le_refl _) _).new (p := ⟨w.heap.size, 1, none⟩) (Nat.le_refl _) _
        · have hM : moreI l = false := by unfold moreI; rw [he]; simpa using hlt
          have HCA : Hid (CutAt l l false l) := hid ⟨Nat.le_refl _, Nat.le_refl _, by unfold cutP; rw [he]; simp only [hlt, if_false]; rfl⟩
          rw [hM]
          clear hM he hlt
          go_wp2_with fail
          refine Meet.mk' HR6.out rfl ?_
          exact ⟨l, false, l, rfl, rfl, rfl, HCA.out, Later.refl _⟩
    intro us6 wa hrel
    obtain ⟨t, more, q', h12, h10, h5, hC, hLa⟩ := hrel
    simp only [frameOf, Nat.reduceAdd, h12, h10, h5]
    have Hh12 := hid h12; clear h12
    have Hh10 := hid h10; clear h10
    have Hh5 := hid h5; clear h5
    have HC := hid hC
    have HLA := hid hLa
    clear hC hLa
    have HLWA := hid (Later.trans _ _ _ HI.out.1 HLA.out)
    go_wp2_with fail
    refine (vread_any t _ (by have := HC.out.2.1; have := HLM.out; omega) (HE.out.later HLWA.out) (HT.out.later HLWA.out)).mono ?_
    rintro e w5 ⟨hL5, rfl⟩
    have HL5 := hid (Later.trans _ _ _ HLA.out hL5)
    have HLW5 := hid (Later.trans _ _ _ HLWA.out hL5)
    have HB05 := hid (HL5.out.obj HI.out.2.1)
    have HB95 := hid (HL5.out.obj HI.out.2.2.1)
    have HO5 := hid (owns_at HI.out.2.2.2.1 HL5.out)
    clear hL5
    cases hr : readP t with
    | none =>
      rw [show ((none : Option Val).getD nothing).v = .agg #[.int .i64 0, .int .i64 0, .string ⟨#[]⟩] from rfl, show (if (none : Option Val).isSome = true then Value.nilIface else readE) = .iface 31 (.int .i64 1) from rfl]
      have HNO : Hid (rowP s = none) := hid (by
        have h1 : valsP (restR s) = none := by
          rw [HI.out.2.2.2.2.2.2.2.2, if_pos rfl]
          unfold loopP
          rw [HQL.out, HC.out.2.2]
          simp only
          rw [hr]
        unfold rowP
        rw [h1]
        split <;> rfl)
      have HB06 : Hid (RObj (w5.alloc (.cells #[.int .i64 0, .int .i64 0, .string ⟨#[]⟩] 62)) w.heap.size 0 (.slice none 0 0)) := hid ((Later.alloc w5 _).obj HB05.out)
      have b0 := cell_obj (i := 0) HB06.out rfl
      have b1 := cell_obj (i := 1) HB06.out rfl
      have z0 : (w5.alloc (.cells #[.int .i64 0, .int .i64 0, .string ⟨#[]⟩] 62)).frozen? ⟨w.heap.size, 0, none⟩ = false := free_obj HB06.out
      have z1 : (w5.alloc (.cells #[.int .i64 0, .int .i64 0, .string ⟨#[]⟩] 62)).frozen? ⟨w.heap.size, 1, none⟩ = false := free_obj HB06.out
      clear hr
      go_wp2_with fail
      have HZ : Hid (RObj (((w5.alloc (.cells #[.int .i64 0, .int .i64 0, .string ⟨#[]⟩] 62)).setCell ⟨w.heap.size, 0, none⟩ (.int .i64 0)).setCell ⟨w.heap.size, 1, none⟩ (.slice none 0 0)) w.heap.size 0 (.slice none 0 0)) := hid (obj_setCell (i := 1) (obj_setCell (i := 0) HB06.out (.int .i64 0)) (.slice none 0 0))
      have y0 := cell_obj (i := 0) HZ.out rfl
      have y1 := cell_obj (i := 1) HZ.out rfl
      refine bodyPost_ret (v := .tuple #[.agg #[.int .i64 0, .slice none 0 0], readE]) (by simp [results, Tryz.results13, go_sem, y0, y1] <;> rfl) rfl ⟨?_, by rw [HNO.out]⟩
      exact ((HLW5.out.alloc' _).new (p := ⟨w.heap.size, 0, none⟩) (Nat.le_refl _) _).new (p := ⟨w.heap.size, 1, none⟩) (Nat.le_refl _) _
    | some x =>
      have HOKX := hid (readP_ok hr)
      have HLO : Hid (loopP (q.length + 1) q acc = if more = true then loopP (q'.length + 1) q' (acc ++ [x]) else some (acc ++ [x])) := hid (by
        have hq' := HC.out.1
        have htl := HTL.out
        rw [show loopP (q.length + 1) q acc = (match cutP (trimP q) with
          | none => none
          | some (t, m) => match readP t with
            | none => none
            | some v => match m with
              | none => some (acc ++ [v])
              | some l' => loopP q.length l' (acc ++ [v])) from rfl, HQL.out, HC.out.2.2]
        simp only
        rw [hr]
        simp only
        cases more with
        | true =>
          have hlt := cutP_less (l := l) (t := t) (l' := q') (by rw [HC.out.2.2]; rfl)
          simp only [if_true]
          exact loopP_more _ _ _ _ (by omega) (by omega)
        | false => rfl)
      rw [show ((some x : Option Val).getD nothing).v = .agg #[.int .i64 x.k, .int .i64 x.n, .string x.t] from rfl, show (if (some x : Option Val).isSome = true then Value.nilIface else readE) = .nilIface from rfl]
      have HB96 := hid ((Later.alloc w5 (.cells #[.int .i64 x.k, .int .i64 x.n, .string x.t] 62)).obj HB95.out)
      have p1 := cell_obj (i := 1) HB96.out rfl
      clear hr
      have HVC := hid (rfl : x.cells = [.int .i64 x.k, .int .i64 x.n, .string x.t])
      have HAC : Hid (acc.length + 1 ≤ 1073741826) := hid (by have := HI.out.2.2.2.2.2.2.1; have := HS.out; simp only [if_true] at *; omega)
      have HSZ : Hid (w2.heap.size < w5.heap.size) := hid (Array.getElem?_eq_some_iff.1 HB95.out).1
      go_wp2_with (at_builtin; refine wpList_append_objx rfl _ _ 22 rfl 62 3 32 Tryz.underlying22 valElem rfl (owns_at HO5.out ((Later.alloc _ _).alloc' _)) (news := x.cells) rfl (obj_at (by simp)) rfl (cells_ones x) ?d1 ?d2 ?d3 ?_)
      case d1 => have := HAC.out; omega
      case d2 => have := HAC.out; unfold maxLen; omega
      case d3 => have := HSZ.out; simp; omega
      intro v7 w7 hA7
      obtain ⟨a7, c7, rfl⟩ := own_slice hA7.own
      have hO' := owns_at HO5.out ((Later.alloc w5 (.cells #[.int .i64 x.k, .int .i64 x.n, .string x.t] 62)).alloc' (.cells #[.int .i64 x.k, .int .i64 x.n, .string x.t] 62))
      have hk : Keeps (fun b => b < w2.heap.size + 1) ((w5.alloc (.cells #[.int .i64 x.k, .int .i64 x.n, .string x.t] 62)).alloc (.cells #[.int .i64 x.k, .int .i64 x.n, .string x.t] 62)) w7 := by
        rcases hA7.kind with ⟨g, cap, hv, -, k⟩ | ⟨k, -⟩
        · exact k.mono fun b _ hb e => by subst e; have := (ownb hO' b (by rw [hv]; rfl)).1; omega
        · exact k.keeps _
      have hLs := ((Later.alloc w5 (.cells #[.int .i64 x.k, .int .i64 x.n, .string x.t] 62)).alloc' (.cells #[.int .i64 x.k, .int .i64 x.n, .string x.t] 62))
      have HB07 := hid (hk.obj (by have := HB.out; omega) (hLs.obj HB05.out))
      have HB97 := hid (hk.obj (by omega) (hLs.obj HB95.out))
      have HLW7 := hid (later_keep (Later.trans _ _ _ HLW5.out hLs) hk (by have := HB.out; omega))
      have HOWN := hid hA7.own
      clear hA7 hO' hk hLs p1
      have b1 := cell_obj (i := 1) HB97.out rfl
      have z1 : w7.frozen? ⟨w2.heap.size, 1, none⟩ = false := free_obj HB97.out
      go_wp2_with fail
      refine Round.mk' HR1.out Hmu1.out rfl ?_ ?_
      · refine ⟨acc ++ [x], .slice a7 (acc.length + 1) c7, q', more, rfl, rfl, HLW7.out.new (p := ⟨w2.heap.size, 1, none⟩) (by have := HB.out; simp only; omega) _, ?_, ?_, ?_, ?_, ?_, ?_, ?_, ?_⟩
        · exact ((Keeps.refl (fun b => b ≠ w2.heap.size) w7).setCell (p := ⟨w2.heap.size, 1, none⟩) (.inl fun h => h rfl) _).obj (by have := HB.out; omega) HB07.out
        · exact obj_setCell (i := 1) HB97.out _
        · rw [List.length_append, ← valCells_snoc]
          exact owns_keep HOWN.out ((Keeps.refl (fun b => b ≠ w2.heap.size) w7).setCell (p := ⟨w2.heap.size, 1, none⟩) (.inl fun h => h rfl) _) (fun g hg => by have := (ownb HOWN.out g hg).1; omega)
        · simp
        · intro y hy
          rcases List.mem_append.1 hy with hy | hy
          · exact HI.out.2.2.2.2.2.1 y hy
          · obtain rfl := List.mem_singleton.1 hy
            exact HOKX.out
        · have h1 := HI.out.2.2.2.2.2.2.1
          have h2 := HC.out.1
          have h3 := HTL.out
          have h4 := HC.out.2.2
          rw [List.length_append, List.length_singleton]
          simp only [if_true] at h1
          cases more with
          | true =>
            have hlt := cutP_less (l := l) (t := t) (l' := q') (by rw [h4]; rfl)
            simp only [if_true]; omega
          | false => simp; omega
        · have h2 := HC.out.1
          have h3 := HTL.out
          have h4 := HQS.out
          omega
        · rw [← HLO.out, HI.out.2.2.2.2.2.2.2.2, if_pos rfl]
      · rw [H10.out, H5.out]
        have h2 := HC.out.1
        have h3 := HTL.out
        have h4 := HC.out.2.2
        have h5 : (strB q).size = q.length := strB_size q
        have h6 : (strB q').size = q'.length := strB_size q'
        cases more with
        | true =>
          have hlt := cutP_less (l := l) (t := t) (l' := q') (by rw [h4]; rfl)
          simp [boolOf, strOf, slots, h5, h6]; omega
        | false => simp [boolOf, strOf, slots, h5]
end Go.Proofs.YtbabfibmopfghaaGreatDoor
