/-
  PROVED HERE: the contract of the document's Read of a value.
-/
import Derived.Test.YtgajofkeidjbgaaGreatDoorGRefUnq
namespace Go.Proofs.YtgajofkeidjbgaaGreatDoor
set_option linter.unusedSimpArgs false
set_option linter.unusedVariables false
open Go.RowKit

def RefVRead (w : World) (l : List UInt8) (e : Ending) (w' : World) : Prop := Later w w' ∧ e = .returned (.tuple #[((readR l).getD nothing).v, .bool (readR l).isSome])
theorem rval_ok {w w' : World} {l : List UInt8} {x : Val} (h : readR l = some x) (hL : Later w w') : RefVRead w l (.returned (.tuple #[x.v, .bool true])) w' := ⟨hL, by rw [h]; rfl⟩
theorem rval_no {w w' : World} {l : List UInt8} (h : readR l = none) (hL : Later w w') : RefVRead w l (.returned (.tuple #[nothing.v, .bool false])) w' := ⟨hL, by rw [h]; rfl⟩
def SObj (w : World) (S : Nat) (ts : List Val) : Prop := w.heap[S]? = some (.cells (valCells ts).toArray 38 (0, 0))
theorem SObj.at {w : World} {S : Nat} {ts : List Val} (h : SObj w S ts) (i : Nat) (hi : i < ts.length) : w.cell? ⟨S, i * 3, none⟩ = some (.int .i64 ts[i].k) ∧ w.cell? ⟨S, i * 3 + 1, none⟩ = some (.int .i64 ts[i].n) ∧ w.cell? ⟨S, i * 3 + 2, none⟩ = some (.string ts[i].t) := by
  obtain ⟨h1, h2, h3⟩ := valCells_get ts i hi
  exact ⟨cell_obj h (by rw [List.getElem?_toArray]; exact h1), cell_obj h (by rw [List.getElem?_toArray]; exact h2), cell_obj h (by rw [List.getElem?_toArray]; exact h3)⟩
def isShown (s : List UInt8) (x : Val) : Bool := decide (showV x = s ∧ s ≠ [])
theorem find_step {l : List UInt8} {i : Nat} {x : Val} (hx : (triesR l)[i]? = some x) : ((triesR l).drop i).find? (isShown l) = if isShown l x = true then some x else ((triesR l).drop (i + 1)).find? (isShown l) := by
  obtain ⟨q, r⟩ := List.getElem?_eq_some_iff.1 hx
  rw [List.drop_eq_getElem_cons q, r, List.find?_cons]
  cases isShown l x <;> rfl
theorem emp_str (l : List UInt8) : (strB l).toList.isEmpty = l.isEmpty := by
  cases l with
  | nil => decide +kernel
  | cons c r =>
    rw [← decide_eq_emptyBytes]
    exact decide_eq_false (fun h => by have := congrArg ByteArray.size h; rw [strB_size] at this; simp at this)
def tryL (n : Int) (t : ByteArray) : List Val := [nothing, ⟨2, 0, ByteArray.empty⟩, ⟨2, 1, ByteArray.empty⟩, ⟨1, n, ByteArray.empty⟩, ⟨3, 0, t⟩]
theorem SObj.num {w : World} {S : Nat} {n : Int} {t : ByteArray} (h : SObj w S (tryL n t)) (k : Int) : SObj (w.setCell ⟨S, 10, none⟩ (.int .i64 k)) S (tryL k t) := obj_setCell (i := 10) h (.int .i64 k)
theorem SObj.txt {w : World} {S : Nat} {n : Int} {t : ByteArray} (h : SObj w S (tryL n t)) (u : ByteArray) : SObj (w.setCell ⟨S, 14, none⟩ (.string u)) S (tryL n u) := obj_setCell (i := 14) h (.string u)
theorem SObj.later {w w' : World} {S : Nat} {ts : List Val} (h : SObj w S ts) (k : Later w w') : SObj w' S ts := k.obj h
theorem VObj.other {w : World} {R S i : Nat} {y : Val} (h : VObj w R y) (hne : S ≠ R) (u : Value) : VObj (w.setCell ⟨S, i, none⟩ u) R y := ((Keeps.refl (fun b => b ≠ S) w).setCell (p := ⟨S, i, none⟩) (.inl fun h => h rfl) u).obj (fun e => hne e.symm) h
set_option maxRecDepth 100000 in
set_option maxHeartbeats 4000000 in
theorem rvread_any (l : List UInt8) (w : World) (hs : l.length ≤ 140737488351232) : Calls Tryz.prog 77 #[.string (strB l)] w (RefVRead w l) := by
  have HS := hid hs
  clear hs
  go_enter Tryz.func77, Tryz.ntmps77
  go_upto_region 2 with (fail)
  obtain ⟨w0, hw0⟩ : ∃ w0, w0 = (w.alloc (.cells #[.int .i64 0, .int .i64 0, .string ⟨#[]⟩] 38 (0, 0))).alloc (.cells #[.int .i64 0, .int .i64 0, .string ⟨#[]⟩, .int .i64 2, .int .i64 0, .string ⟨#[]⟩, .int .i64 2, .int .i64 1, .string ⟨#[]⟩, .int .i64 1, .int .i64 0, .string ⟨#[]⟩, .int .i64 3, .int .i64 0, .string ⟨#[]⟩] 38 (0, 0)) := ⟨_, rfl⟩
  obtain ⟨R, hR⟩ : ∃ R, R = w.heap.size := ⟨_, rfl⟩
  obtain ⟨S, hV⟩ : ∃ S, S = w.heap.size + 1 := ⟨_, rfl⟩
  have HL0 : Hid (Later w w0) := hid (by rw [hw0]; exact (Later.alloc _ _).alloc' _)
  have HR0 : Hid (VObj w0 R nothing) := hid (by rw [hw0, hR]; exact (Later.alloc _ _).obj (obj_new w _))
  have HS0 : Hid (SObj w0 S (tryL 0 ByteArray.empty)) := hid (by
    have h := obj_new (w.alloc (.cells #[.int .i64 0, .int .i64 0, .string ⟨#[]⟩] 38 (0, 0))) (.cells #[.int .i64 0, .int .i64 0, .string ⟨#[]⟩, .int .i64 2, .int .i64 0, .string ⟨#[]⟩, .int .i64 2, .int .i64 1, .string ⟨#[]⟩, .int .i64 1, .int .i64 0, .string ⟨#[]⟩, .int .i64 3, .int .i64 0, .string ⟨#[]⟩] 38 (0, 0))
    rw [World.size_alloc, ← hV, ← hw0] at h
    exact h)
  have HRlt : Hid (w.heap.size ≤ S ∧ w.heap.size ≤ R ∧ S ≠ R) := hid ⟨by omega, by omega, by omega⟩
  rw [← hw0, ← hV, ← hR]
  clear hw0 hV hR
  go_wp2_with fail
  refine (rwhole_any l w0 HS.out).mono ?_
  rintro e w1 ⟨rfl, rfl⟩
  have q0 : w1.cell? ⟨S, 10, none⟩ = some (.int .i64 0) := (HS0.out.at 3 (by decide)).2.1
  have f0 : w1.frozen? ⟨S, 10, none⟩ = false := free_obj HS0.out
  have hltS := cell_lt q0
  go_upto_region 3 with (fail)
  obtain ⟨w2, hw2⟩ : ∃ w2, w2 = w1.setCell ⟨S, 10, none⟩ (.int .i64 (wholeR l)) := ⟨_, rfl⟩
  have HL2 : Hid (Later w w2) := hid (by rw [hw2]; exact HL0.out.new (p := ⟨S, 10, none⟩) HRlt.out.1 _)
  have HR2 : Hid (VObj w2 R nothing) := hid (by rw [hw2]; exact HR0.out.other HRlt.out.2.2 _)
  have HS2 : Hid (SObj w2 S (tryL (wholeR l) ByteArray.empty)) := hid (by rw [hw2]; exact HS0.out.num _)
  rw [← hw2]
  clear hw2 q0 f0 hltS HL0 HR0 HS0
  have hz := strB_size l
  go_upto_if 20 with (fail)
  obtain ⟨R9, hR9⟩ : ∃ RR_ : (Nat → Value) → World → Prop, RR_ = (fun us wy => Later w wy ∧ VObj wy R nothing ∧ SObj wy S (triesR l)) := ⟨_, rfl⟩
  have HR9 := hid hR9; clear hR9
  refine wp_cut_frame' [false, false, false, false, false, false, false, false, false, false, false, false, false, false, false, false, false, false, false, false, true, true, true, true, true, true, true, true, true, true] R9 _ HR9.out ?_ ?_
  · by_cases h1 : 1 < l.length
    · have h1' : (1 : Int) < l.length := by omega
      have hw : wrap64 ((l.length : Int) - 1) = ((l.length - 1 : Nat) : Int) := by have := HS.out; unfold wrap64; omega
      have hr1 : 1 ≤ ((l.length - 1 : Nat) : Int) := by omega
      have hr2 : ((l.length - 1 : Nat) : Int) ≤ (l.length : Int) := by omega
      have hex : (strB l).extract 1 (l.length - 1) = strB (innerL l) := by rw [strB_cut]; unfold innerL; congr 2
      have HT : Hid (triesR l = tryL (wholeR l) (strB (unqG hexR (innerL l)))) := hid (by unfold triesR tryL; rw [if_pos h1])
      clear h1
      go_wp2_with fail
      refine (runq_any (innerL l) _ (by unfold innerL; rw [List.length_take]; have := HS.out; omega)).mono ?_
      rintro e w3 ⟨rfl, hL3⟩
      have HL3 := hid (Later.trans _ _ _ HL2.out hL3)
      have HR3 := hid (HR2.out.later hL3)
      have HS3 := hid (HS2.out.later hL3)
      have q0 : w3.cell? ⟨S, 14, none⟩ = some (.string ByteArray.empty) := (HS3.out.at 4 (by show 4 < 5; omega)).2.2
      have f0 : w3.frozen? ⟨S, 14, none⟩ = false := free_obj HS3.out
      have hltS := cell_lt q0
      clear hL3 hex hr1 hr2 hw
      go_wp2_with fail
      refine Meet.mk' HR9.out rfl ?_
      exact ⟨HL3.out.new (p := ⟨S, 14, none⟩) HRlt.out.1 _, HR3.out.other HRlt.out.2.2 _, by rw [HT.out]; exact HS3.out.txt _⟩
    · have HT : Hid (triesR l = tryL (wholeR l) ByteArray.empty) := hid (by unfold triesR tryL; rw [if_neg h1])
      have h1' : ¬ (1 : Int) < l.length := by omega
      clear h1
      go_wp2_with fail
      refine Meet.mk' HR9.out rfl ?_
      exact ⟨HL2.out, HR2.out, by rw [HT.out]; exact HS2.out⟩
  intro us2 wy hrel
  obtain ⟨hL, hR, hS⟩ := hrel
  simp only [frameOf, Nat.reduceAdd]
  have HLY := hid hL; have HRY := hid hR; have HSY := hid hS
  clear hL hR hS
  have hlen : (triesR l).length = 5 := rfl
  have HLEN := hid hlen
  clear hlen
  go_wp2_with fail
  obtain ⟨R1, hR1⟩ : ∃ RR_ : (Nat → Value) → World → Prop, RR_ = (fun us wx => ∃ i : Nat, us 5 = .int .i64 i ∧ us 3 = .bool false ∧ i ≤ 5 ∧ Later wy wx ∧ Hid (readR l = ((triesR l).drop i).find? (isShown l))) := ⟨_, rfl⟩
  obtain ⟨mu1, hmu1⟩ : ∃ mu : (Nat → Value) → World → Nat, mu = (fun us _ => 5 - (intOf (us 5)).toNat) := ⟨_, rfl⟩
  have HR1 := hid hR1; have Hmu1 := hid hmu1; clear hR1 hmu1
  refine wp_loop_frame' [false, false, false, true, false, true, true, false, false, false, false, false, false, false, false, false, false, false, false, false, false, false, false, false, false, false, false, false, false, false, true, true, true, true, true, true, true, true, true, true, true, true, true, true, true, true, true, true, true, true, true, true] R1 _ mu1 HR1.out ?_ ?_
  · exact ⟨0, rfl, rfl, by omega, Later.refl _, hid rfl⟩
  intro us1 wx hrel
  obtain ⟨i, h5, h3, hi, hLx, hrd⟩ := hrel
  simp only [frameOf, Nat.reduceAdd, h5, h3]
  have Hh5 := hid h5; clear h5
  have Hh3 := hid h3; clear h3
  have HLX0 := hid hLx
  have HLX := hid (Later.trans _ _ _ HLY.out hLx)
  have HRX := hid (HRY.out.later hLx)
  have HSX := hid (HSY.out.later hLx)
  clear hLx
  by_cases hi5 : i < 5
  · obtain ⟨x, hx⟩ : ∃ x, (triesR l)[i]? = some x := ⟨_, List.getElem?_eq_getElem (by rw [HLEN.out]; exact hi5)⟩
    have HX := hid hx
    obtain ⟨q, r⟩ := List.getElem?_eq_some_iff.1 hx
    have hxo : IntOk x := tries_ok l x (r ▸ List.getElem_mem q)
    obtain ⟨c0, c1, c2⟩ := HSX.out.at i q
    rw [r] at c0 c1 c2
    have HFS := hid (find_step hx)
    have hw1 : wrap64 ((i : Int) + 1) = ((i + 1 : Nat) : Int) := by unfold wrap64; omega
    have HW1 := hid hw1
    clear hx q r hw1
    have hlt := cell_lt c0
    go_wp2_with fail
    refine (rshow_any x _ (lit_ok hxo)).mono ?_
    rintro e w4 ⟨rfl, hL4⟩
    have HL40 := hid hL4
    have HL4 := hid (Later.trans _ _ _ HLX.out hL4)
    have HR4 := hid (HRX.out.later hL4)
    replace c0 := hL4.cell c0
    replace c1 := hL4.cell c1
    replace c2 := hL4.cell c2
    have p0 := HR4.out.c0; have p1 := HR4.out.c1; have p2 := HR4.out.c2
    have f0 := HR4.out.free 0; have f1 := HR4.out.free 1; have f2 := HR4.out.free 2
    have hltR := cell_lt p0
    have hltS := cell_lt c0
    clear hL4 hlt hxo
    by_cases hsh : showV x = l
    · have hst := str_eq hsh
      by_cases hne : l = []
      · have HNS : Hid (isShown l x = false) := hid (by unfold isShown; exact decide_eq_false (fun h => h.2 hne))
        have hem : (strB l).toList.isEmpty = true := by rw [emp_str, hne]; rfl
        clear hsh hne
        go_wp2_with fail
        refine Round.mk' HR1.out Hmu1.out rfl ?_ ?_
        · exact ⟨i + 1, by go_num, rfl, hi5, Later.trans _ _ _ HLX0.out HL40.out, hid (by rw [hrd.out, HFS.out, if_neg (by rw [HNS.out]; decide)])⟩
        · exact len_less (j := i + 1) (by go_num) Hh5.out (Nat.lt_succ_self i) hi5
      · have HRD : Hid (readR l = some x) := hid (by rw [hrd.out, HFS.out, if_pos (by unfold isShown; exact decide_eq_true ⟨hsh, hne⟩)])
        have hem : (strB l).toList.isEmpty = false := by
          rw [emp_str]
          cases l with
          | nil => exact absurd rfl hne
          | cons c r => rfl
        clear hsh hne hrd
        go_wp2_with fail
        obtain ⟨wf, hwf⟩ : ∃ wf, wf = setV w4 R x := ⟨_, rfl⟩
        have HW := HR4.out.set x
        have HLF := setV_later HL4.out HRlt.out.2.1 x
        rw [← hwf] at HW HLF
        have e0 := HW.c0; have e1 := HW.c1; have e2 := HW.c2
        change bodyPost _ _ _ _ _ (setV w4 R x)
        rw [← hwf]
        clear hwf p0 p1 p2 f0 f1 f2 c0 c1 c2
        exact bodyPost_ret (v := .tuple #[Val.v x, .bool true]) (by simp [results, Tryz.results77, go_sem, e0, e1, e2] <;> rfl) rfl (rval_ok HRD.out HLF)
    · have hst := str_ne hsh
      have HNS : Hid (isShown l x = false) := hid (by unfold isShown; exact decide_eq_false (fun h => hsh h.1))
      clear hsh
      go_wp2_with fail
      refine Round.mk' HR1.out Hmu1.out rfl ?_ ?_
      · exact ⟨i + 1, by go_num, rfl, hi5, Later.trans _ _ _ HLX0.out HL40.out, hid (by rw [hrd.out, HFS.out, if_neg (by rw [HNS.out]; decide)])⟩
      · exact len_less (j := i + 1) (by go_num) Hh5.out (Nat.lt_succ_self i) hi5
  · have hi' : i = 5 := by omega
    have HRD : Hid (readR l = none) := hid (by rw [hrd.out, hi']; rfl)
    have p0 := HRX.out.c0; have p1 := HRX.out.c1; have p2 := HRX.out.c2
    have f0 := HRX.out.free 0; have f1 := HRX.out.free 1; have f2 := HRX.out.free 2
    have hltR := cell_lt p0
    subst hi'
    clear hrd
    go_wp2_with fail
    obtain ⟨wf, hwf⟩ : ∃ wf, wf = setV wx R nothing := ⟨_, rfl⟩
    have HW := HRX.out.set nothing
    have HLF := setV_later HLX.out HRlt.out.2.1 nothing
    rw [← hwf] at HW HLF
    have e0 := HW.c0; have e1 := HW.c1; have e2 := HW.c2
    change bodyPost _ _ _ _ _ (setV wx R nothing)
    rw [← hwf]
    clear hwf p0 p1 p2 f0 f1 f2
    exact bodyPost_ret (v := .tuple #[Val.v nothing, .bool false]) (by simp [results, Tryz.results77, go_sem, e0, e1, e2] <;> rfl) rfl (rval_no HRD.out HLF)
end Go.Proofs.YtgajofkeidjbgaaGreatDoor
