/-
  PROVED HERE: the contract of Store.read.
-/
import Derived.Test.YtgcnchmnciihnaaGreatDoorGReadNew
import Derived.Test.YtgcnchmnciihnaaGreatDoorGValue
import Derived.Test.YtgcnchmnciihnaaGreatDoorGSavePlain
namespace Go.Proofs.YtgcnchmnciihnaaGreatDoor
set_option linter.unusedSimpArgs false
set_option linter.unusedVariables false
open Go Go.RowKit

theorem pow_keep {K : Nat → Prop} {w w' : World} (ht : PowTab w) (k : Keeps K w w') (hK : ∀ g cs t f, w.heap[g]? = some (.cells cs t f) → cs.size = 20 → K g) : PowTab w' := by
  unfold PowTab Lib.TabIs World.var? at *
  cases hg : Tryz.prog.globalNamed "internal/strconv.uint64pow10" with
  | none => rw [hg] at ht; cases ht
  | some g =>
    rw [hg] at ht
    simp only [Option.bind_some] at ht ⊢
    cases ho : w.heap[g]? with
    | none => rw [ho] at ht; cases ht
    | some o =>
      rw [ho] at ht
      cases o with
      | cells cs t f =>
        simp only [Option.some.injEq] at ht
        rw [k.obj (hK g cs t f ho (by rw [ht]; rfl)) ho]
        simp only [ht]
      | _ => cases ht
section
variable {V : Nat → Prop} {w w' : World} {S M R : Nat} {lo hi : Int} {L : List CellP} {bad : Bool} {l : List UInt8}
theorem pow_st (ht : PowTab w) (hs : StAt V w S M lo hi L) (k : Keeps (fun b => b ≠ S ∧ b ≠ M) w w') : PowTab w' :=
  pow_keep ht k fun g cs t f ho hn => by
    refine ⟨?_, ?_⟩
    · rintro rfl
      rw [hs.obj] at ho
      simp only [Option.some.injEq, Obj.cells.injEq] at ho
      rw [← ho.1] at hn
      exact absurd hn (by simp)
    · rintro rfl
      obtain ⟨D, ⟨es, clock, hb, -⟩, -⟩ := hs.map
      rw [hb] at ho
      cases ho
theorem pow_rd (ht : PowTab w) (hr : RdB w R bad l) (k : Keeps (fun b => b ≠ R) w w') : PowTab w' :=
  pow_keep ht k fun g cs t f ho hn => by
    rintro rfl
    obtain ⟨v, h1, -⟩ := hr
    rw [h1] at ho
    simp only [Option.some.injEq, Obj.cells.injEq] at ho
    rw [← ho.1] at hn
    exact absurd hn (by simp)
end
/-- where a store's cells stand while a piece is read. -/
def VX (V : Nat → Prop) (w : World) (R b : Nat) : Prop := (V b ∧ b < w.heap.size) ∨ (w.heap.size ≤ b ∧ b ≠ R)
theorem VX.ne {V : Nat → Prop} {w : World} {R b : Nat} (h : VX V w R b) (hR : w.heap.size ≤ R) : b ≠ R := by
  rcases h with ⟨-, h⟩ | ⟨-, h⟩
  · omega
  · exact h
theorem VX.away {V : Nat → Prop} {w : World} {R b : Nat} (h : ¬ V b) (hb : b < w.heap.size) : ¬ VX V w R b := by
  rintro (⟨h1, -⟩ | ⟨h1, -⟩)
  · exact h h1
  · omega
/-- the cell that was read last. -/
def LastAt (w wx : World) (R : Nat) (v : Value) : Option CellP → Prop
  | none => v = .pointer none
  | some c => ∃ B a k b m, v = .pointer (some ⟨B, 0, none⟩) ∧ wx.heap[B]? = some (.cells #[.slice a c.key.length k, .int .i64 c.win.1, .int .i64 c.win.2, .slice b c.data.length m] 57 (0, 0)) ∧ w.heap.size ≤ B ∧ B ≠ R ∧ ValsIn (fun b => w.heap.size ≤ b ∧ b ≠ R) wx (.slice a c.key.length k) c.key ∧ BytesIn (fun b => w.heap.size ≤ b ∧ b ≠ R) wx (.slice b c.data.length m) c.data
theorem LastAt.keep {w wx wy : World} {R : Nat} {v : Value} {o : Option CellP} {K : Nat → Prop} (h : LastAt w wx R v o) (k : Keeps K wx wy) (hK : ∀ b, w.heap.size ≤ b → b ≠ R → K b) : LastAt w wy R v o := by
  cases o with
  | none => exact h
  | some c =>
    obtain ⟨B, a, kk, b, m, rfl, h1, h2, h3, h4, h5⟩ := h
    exact ⟨B, a, kk, b, m, rfl, k.obj (hK _ h2 h3) h1, h2, h3, h4.vals_kept k fun b hb => hK b hb.1 hb.2, h5.bytes_kept k fun b hb => hK b hb.1 hb.2⟩
/-- a round's beginning. -/
structure RdSt (V : Nat → Prop) (w wx : World) (S M R T : Nat) (lo hi g : Int) (pv : Value) (L : List CellP) (last : Option CellP) (lv : Value) (l : List UInt8) : Prop where
  st : StAt (VX V w R) wx S M lo hi L
  rd : RdB wx R false l
  box : wx.heap[T]? = some (.cells #[.int .i64 g, pv] 47 (0, 0))
  lst : LastAt w wx R lv last
  keep : Keeps (fun b => b ≠ S ∧ b ≠ M) w wx
  pow : PowTab wx
  ls : w.heap.size ≤ R ∧ w.heap.size ≤ T ∧ T ≠ R
def ReadOkTo (V : Nat → Prop) (w : World) (S M : Nat) (lo hi : Int) (L : List CellP) (e : Ending) (w' : World) : Prop :=
  e = .returned .nilIface ∧ Keeps (fun b => b ≠ S ∧ b ≠ M) w w' ∧ ∀ V' : Nat → Prop, (∀ b, V b → b < w.heap.size → V' b) → (∀ b, w.heap.size ≤ b → b < w'.heap.size → V' b) → ¬ V' S → ¬ V' M → StAt V' w' S M lo hi L
def ReadErrTo (w : World) (S M : Nat) (k : Int) (e : Ending) (w' : World) : Prop := e = .returned (.iface 39 (.int .i64 k)) ∧ Keeps (fun b => b ≠ S ∧ b ≠ M) w w'
def ReadTo (V : Nat → Prop) (w : World) (S M : Nat) (lo hi : Int) (r : Int × List CellP) (e : Ending) (w' : World) : Prop :=
  if r.1 = 0 then ReadOkTo V w S M lo hi r.2 e w' else ReadErrTo w S M r.1 e w'
section
variable {V : Nat → Prop} {w w' : World} {S M : Nat} {lo hi k g : Int} {L L' : List CellP} {l : List UInt8} {e : Ending}
theorem readTo_err (h : (readE lo hi g L l).1 = k) (hk : k ≠ 0) (hp : ReadErrTo w S M k e w') : ReadTo V w S M lo hi (readE lo hi g L l) e w' := by
  unfold ReadTo
  rw [h, if_neg hk]; exact hp
theorem readTo_ok (h : readE lo hi g L l = (0, L')) (hp : ReadOkTo V w S M lo hi L' e w') : ReadTo V w S M lo hi (readE lo hi g L l) e w' := by
  unfold ReadTo
  rw [h, if_pos rfl]; exact hp
theorem readE_open (h : (openB l 0).2.2 ≠ 0) : (readE lo hi g L l).1 = (openB l 0).2.2 := by unfold readE; rw [if_pos h]
theorem readE_none (h : (openB l 0).2.2 = 0) (hp : readP lo hi g L (openB l 0).1 = none) : (readE lo hi g L l).1 = 7 := by unfold readE; rw [if_neg (fun x => x h), hp]
theorem readE_long (h : (openB l 0).2.2 = 0) (hp : readP lo hi g L (openB l 0).1 = some L') (hl : (openB l 0).2.1 ≠ l.length) : (readE lo hi g L l).1 = 7 := by unfold readE; rw [if_neg (fun x => x h), hp]; simp only; rw [if_neg hl]
theorem readE_some (h : (openB l 0).2.2 = 0) (hp : readP lo hi g L (openB l 0).1 = some L') (hl : (openB l 0).2.1 = l.length) : readE lo hi g L l = (0, L') := by unfold readE; rw [if_neg (fun x => x h), hp]; simp only; rw [if_pos hl]
end
theorem openB_len (l : List UInt8) : (openB l 0).1.length ≤ l.length := by
  unfold openB
  split
  · simp
  · split
    · simp
    · split
      · simp only [List.length_drop, List.length_take]; omega
      · simp

section
variable {lo hi g : Int} {L : List CellP} {last : Option CellP} {c : CellP}
theorem okC_yes (h1 : (groupK c.key : Int) = g) (h2 : afterC last c = true) (h3 : putErr lo hi L c = 0) : okC lo hi g L last c = true := by unfold okC; simp [h1, h2, h3]
theorem okC_group (h : ¬ (groupK c.key : Int) = g) : okC lo hi g L last c = false := by unfold okC; simp [h]
theorem okC_after (h : afterC last c = false) : okC lo hi g L last c = false := by unfold okC; simp [h]
theorem okC_put (h : ¬ putErr lo hi L c = 0) : okC lo hi g L last c = false := by unfold okC; simp [h]
end
theorem dText_size {l r : List UInt8} {t : ByteArray} (h : dText l = some (t, r)) : t.size ≤ l.length := by
  unfold dText at h
  cases hd : dInt l with
  | none => rw [hd] at h; cases h
  | some p =>
    obtain ⟨n, r'⟩ := p
    rw [hd] at h
    simp only at h
    split at h
    · cases h
    · simp only [Option.some.injEq, Prod.mk.injEq] at h
      have := dInt_len hd
      rw [← h.1, strB_size, List.length_take]
      omega

set_option maxRecDepth 100000 in
set_option maxHeartbeats 8000000 in
theorem read_any {V : Nat → Prop} {S M : Nat} {lo hi : Int} {L : List CellP} (g : Int) (v : Value) (l : List UInt8) (w : World) (h : StAt V w S M lo hi L) (hv : IsBytes w v l) (hl : l.length ≤ 1099511627776) (ht : PowTab w) (hMl : M < w.heap.size) :
    Calls Tryz.prog 31 #[.pointer (some ⟨S, 0, none⟩), .agg #[.int .i64 g, v]] w (ReadTo V w S M lo hi (readE lo hi g L l)) := by
  have HH := hid h; have HV := hid hv; have HLL := hid hl; have HT := hid ht; have HML := hid hMl
  have HSL := hid h.lt
  have HBL := hid (openB_len l)
  obtain ⟨pa, pc, rfl, -⟩ := id hv
  clear h hv hl ht hMl
  go_enter Tryz.func31, Tryz.ntmps31
  obtain ⟨w0, hw0⟩ : ∃ w0, w0 = w.alloc (.cells #[.int .i64 g, .slice pa l.length pc] 47 (0, 0)) := ⟨_, rfl⟩
  obtain ⟨T, hT⟩ : ∃ T, T = w.heap.size := ⟨_, rfl⟩
  have hL0 : Later w w0 := by rw [hw0]; exact Later.alloc _ _
  have o0 : w0.heap[T]? = some (.cells #[.int .i64 g, .slice pa l.length pc] 47 (0, 0)) := by rw [hw0, hT]; exact obj_new _ _
  have HT0 : Hid (w.heap.size ≤ T) := hid (by omega)
  go_upto_region 1 with (fail)
  rw [← hw0, ← hT]
  have HL0 := hid hL0; have HO0 := hid o0
  clear hw0 hT hL0 o0
  have c1 := cell_obj (i := 1) HO0.out (v := .slice pa l.length pc) rfl
  go_wp2_with fail
  refine (open_any (.slice pa l.length pc) l 0 _ (HV.out.bytes_later HL0.out) (by decide)).mono ?_
  rintro e w1 ⟨bv, rfl, hb, hL1⟩
  have HB := hid (owned_bytes hb)
  have HL1 := hid (Later.trans _ _ _ HL0.out hL1)
  have HO1 := hid (hL1.obj HO0.out)
  have HE : Hid (readE lo hi g L l = readE lo hi g L l) := hid rfl
  obtain ⟨ba, bc, rfl⟩ := ownsRow_slice hb
  clear hb c1 hL1 HO0 HL0
  by_cases he : (openB l 0).2.2 = 0
  case neg =>
    have HR := hid (readE_open (lo := lo) (hi := hi) (g := g) (L := L) he)
    have HNE := hid he
    generalize (openB l 0).2.2 = k at *
    rw [show errVal k = .iface 39 (.int .i64 k) from if_neg he]
    clear he
    go_wp2_with fail
    go_ret
    exact readTo_err HR.out HNE.out ⟨rfl, HL1.out.keeps _⟩
  have HE0 := hid he
  rw [he, show errVal 0 = .nilIface from rfl]
  clear he HE
  have hBL := HBL.out
  obtain ⟨body, hbody⟩ : ∃ body, body = (openB l 0).1 := ⟨_, rfl⟩
  obtain ⟨en, hen⟩ : ∃ en, en = (openB l 0).2.1 := ⟨_, rfl⟩
  rw [← hbody] at HB hBL ⊢
  rw [← hen]
  have HBODY := hid hbody; have HEN := hid hen
  have HBL' : Hid (body.length ≤ 1099511627776) := hid (by have := HLL.out; omega)
  clear hbody hen hBL HBL
  go_wp2_with fail
  refine (read_new (.slice ba body.length bc) body _ HB.out.all).mono ?_
  rintro e w2 ⟨R, rfl, hr2, hRw, hL2⟩
  have HR2 := hid hr2
  have HL2 := hid (Later.trans _ _ _ HL1.out hL2)
  have HO2 := hid (hL2.obj HO1.out)
  have HRW : Hid (w.heap.size ≤ R) := hid (by have := HL1.out.size; omega)
  have HTR : Hid (T ≠ R) := hid (by have := (Array.getElem?_eq_some_iff.1 HO1.out).1; omega)
  clear hr2 hL2 hRw HB HL1 HO1
  go_wp2_with fail
  refine (read_int_any R false body _ HR2.out).mono ?_
  rintro e w3 ⟨n, bd, r0, rfl, hr3, hk3, hg3, hb3, hn⟩
  have HR3 := hid hr3
  have HK2 := hid ((HL2.out.keeps (fun b => b ≠ S ∧ b ≠ M)).low (hk3.mono fun b _ (hb : b < w.heap.size) => by have := HRW.out; omega))
  have HO3 := hid (hk3.obj HTR.out HO2.out)
  have HSR : Hid (S ≠ R) := hid (by have := HSL.out; have := HRW.out; omega)
  have HMR : Hid (M ≠ R) := hid (by have := HML.out; have := HRW.out; omega)
  have HST3 := hid (((HH.out.mono (V' := VX V w R) (fun b hb hlt => .inl ⟨hb, hlt⟩) (VX.away HH.out.vS HSL.out) (VX.away HH.out.vM HML.out)).later HL2.out).kept hk3 HSR.out HMR.out fun b hb _ => hb.ne HRW.out)
  have HPW3 := hid (pow_rd (HT.out.later HL2.out) HR2.out hk3)
  have HN := hid hn
  clear hr3 hk3 HO2 HR2 HL2 hn
  cases bd with
  | true =>
    obtain ⟨rfl, hd⟩ := hb3 rfl
    have HD : Hid (dInt body = none) := hid (by simpa using hd)
    clear hg3 hb3 hd
    go_wp2_with fail
    obtain ⟨R1, hR1⟩ : ∃ RR_ : (Nat → Value) → World → Prop, RR_ = (fun us wx => us 10 = .int .i64 0 ∧ wx = w3) := ⟨_, rfl⟩
    obtain ⟨mu1, hmu1⟩ : ∃ mu : (Nat → Value) → World → Nat, mu = (fun _ _ => 0) := ⟨_, rfl⟩
    have HR1 := hid hR1; have Hmu1 := hid hmu1; clear hR1 hmu1
    refine wp_loop_frame' [false, false, false, false, true, false, false, false, false, true, true, true, true, false, false, false, false, false, false, false, false, false, false, false, false, false, false, true, true, true, true, true, true, true, true, true, true, true, true, true, true, true, true, true, true, true, true, true, true, true, true, true, true, true, true, true, true, true, true, true, true, true, true, true, true, true, true, true, true, true, true, true, true, true, true, true, true, true, true, true, true, true, true, true, true, true, true, true, true, true, true, true, true, true, true, true, true, true, true, true, true, true, true, true, true, true, true, true, true, true, true, true, true, true, true, true, true, true, true] R1 _ mu1 HR1.out ?_ ?_
    · exact ⟨rfl, rfl⟩
    intro us1 wx hrel
    obtain ⟨h10, rfl⟩ := hrel
    simp only [frameOf, Nat.reduceAdd, h10]
    have Hh10 := hid h10; clear h10
    go_wp2_with fail
    refine (read_end R true r0 _ HR3.out).mono ?_
    rintro e w4 ⟨rfl, rfl⟩
    go_wp2_with fail
    go_ret
    exact readTo_err (readE_none HE0.out (by rw [← HBODY.out]; unfold readP; rw [HD.out])) (by decide) ⟨rfl, HK2.out⟩
  | false =>
    obtain ⟨-, hd⟩ := hg3 rfl
    have HD := hid hd
    clear hg3 hb3 hd
    have HL0 : Hid (r0.length ≤ 1099511627776) := hid (by have := dInt_len HD.out; have := HBL'.out; omega)
    go_wp2_with fail
    obtain ⟨R1, hR1⟩ : ∃ RR_ : (Nat → Value) → World → Prop, RR_ = (fun us wx => ∃ (c : Int) (j : Nat) (Lx : List CellP) (last : Option CellP) (lv : Value) (rest : List UInt8), us 10 = .int .i64 c ∧ us 9 = lv ∧ c = wrap64 (n - j) ∧ RdSt V w wx S M R T lo hi g (.slice pa l.length pc) Lx last lv rest ∧ (0 ≤ n → (j : Int) ≤ n) ∧ rest.length + j ≤ r0.length ∧ ∀ m, readN lo hi g (j + m) L none r0 = readN lo hi g m Lx last rest) := ⟨_, rfl⟩
    obtain ⟨mu1, hmu1⟩ : ∃ mu : (Nat → Value) → World → Nat, mu = (fun us _ => ((intOf (us 10)) % 18446744073709551616).toNat) := ⟨_, rfl⟩
    have HR1 := hid hR1; have Hmu1 := hid hmu1; clear hR1 hmu1
    refine wp_loop_frame' [false, false, false, false, true, false, false, false, false, true, true, true, true, false, false, false, false, false, false, false, false, false, false, false, false, false, false, true, true, true, true, true, true, true, true, true, true, true, true, true, true, true, true, true, true, true, true, true, true, true, true, true, true, true, true, true, true, true, true, true, true, true, true, true, true, true, true, true, true, true, true, true, true, true, true, true, true, true, true, true, true, true, true, true, true, true, true, true, true, true, true, true, true, true, true, true, true, true, true, true, true, true, true, true, true, true, true, true, true, true, true, true, true, true, true, true, true, true, true] R1 _ mu1 HR1.out ?_ ?_
    · exact ⟨n, 0, L, none, .pointer none, r0, rfl, rfl, by have := HN.out; unfold wrap64; omega, ⟨HST3.out, HR3.out, HO3.out, rfl, HK2.out, HPW3.out, HRW.out, HT0.out, HTR.out⟩, fun h => by simpa using h, Nat.le_refl _, fun m => by rw [Nat.zero_add]⟩
    clear HST3 HR3 HO3 HK2 HPW3
    intro us1 wx hrel
    obtain ⟨c, j, Lx, last, lv, rest, h10, h9, hc, hst, hjn, hlen, hgo⟩ := hrel
    simp only [frameOf, Nat.reduceAdd, h10, h9]
    have Hh10 := hid h10; clear h10
    have Hh9 := hid h9; clear h9
    have HC := hid hc; have HST := hid hst; have HJN := hid hjn; have HLEN := hid hlen; have HGO := hid hgo
    clear hc hst hjn hlen hgo
    by_cases hc0 : c = 0
    · subst hc0
      have hn : n = j := count_end HN.out.1 HN.out.2 (by have := HLEN.out; have := HL0.out; omega) HC.out
      subst hn
      have HP := hid (readP_some HD.out HGO.out)
      go_wp2_with fail
      refine (read_end R false rest _ HST.out.rd).mono ?_
      rintro e w4 ⟨rfl, rfl⟩
      have c1 := cell_obj (i := 1) HST.out.box (v := .slice pa l.length pc) rfl
      cases hre : rest with
      | cons x tl =>
        rw [hre] at HP
        have HP' : Hid (readP lo hi g L body = none) := hid (by rw [HP.out]; rfl)
        clear HP
        go_wp2_with fail
        go_ret
        exact readTo_err (readE_none HE0.out (by rw [← HBODY.out]; exact HP'.out)) (by decide) ⟨rfl, HST.out.keep⟩
      | nil =>
        rw [hre] at HP
        have HP' : Hid (readP lo hi g L body = some Lx) := hid (by rw [HP.out]; rfl)
        clear HP
        by_cases hlen : en = (l.length : Int)
        · have HQ := hid (readE_some HE0.out (by rw [← HBODY.out]; exact HP'.out) (by rw [← HEN.out]; exact hlen))
          rw [hlen]
          clear hlen
          go_wp2_with fail
          go_ret
          refine readTo_ok HQ.out ⟨rfl, HST.out.keep, fun V' h1 h2 h3 h4 => HST.out.st.mono (fun b hb hlt => ?_) h3 h4⟩
          rcases hb with ⟨k1, k2⟩ | ⟨k1, -⟩
          · exact h1 b k1 k2
          · exact h2 b k1 hlt
        · have HQ := hid (readE_long HE0.out (by rw [← HBODY.out]; exact HP'.out) (by rw [← HEN.out]; exact hlen))
          go_wp2_with fail
          go_ret
          exact readTo_err HQ.out (by decide) ⟨rfl, HST.out.keep⟩
    have HJN' : Hid (0 ≤ n → (j : Int) < n) := hid fun h => by have := HJN.out h; have := count_on HC.out hc0; omega
    clear HJN
    go_wp2_with fail
    refine (read_bad R false rest _ HST.out.rd).mono ?_
    rintro e w4 ⟨rfl, h4⟩
    rw [h4]
    clear h4 w4
    obtain ⟨wa, hwa⟩ : ∃ wa, wa = wx.alloc (.cells #[.slice none 0 0, .int .i64 0, .int .i64 0, .slice none 0 0] 57 (0, 0)) := ⟨_, rfl⟩
    obtain ⟨X, hX⟩ : ∃ X, X = wx.heap.size := ⟨_, rfl⟩
    have hLa : Later wx wa := by rw [hwa]; exact Later.alloc _ _
    have oX : wa.heap[X]? = some (.cells #[.slice none 0 0, .int .i64 0, .int .i64 0, .slice none 0 0] 57 (0, 0)) := by rw [hwa, hX]; exact obj_new _ _
    go_upto_region 10 with (fail)
    rw [← hwa, ← hX]
    have HX := hid hX; have HLA := hid hLa
    have HRX : Hid (R < X) := hid (by have := HST.out.rd.lt; omega)
    clear hwa hX hLa
    go_wp2_with fail
    refine (read_int_any R false rest _ (HST.out.rd.later HLA.out)).mono ?_
    rintro e w5 ⟨k, bd3, rb, rfl, hr5, hk5, hg5, hb5, hkr⟩
    have HR5 := hid hr5
    have HX5 := hid (hk5.obj (Nat.ne_of_gt HRX.out) oX)
    have HK5 := hid ((HLA.out.keeps _).trans hk5)
    have HG5 : Hid (bd3 = false → dInt rest = some (k, rb)) := hid fun h => (hg5 h).2
    have HB5 : Hid (bd3 = true → dCell rest = none) := hid fun h => by
      obtain ⟨-, h | h⟩ := hb5 h
      · cases h
      · exact dCell_none1 h
    have HKR := hid hkr
    have HXB : Hid (X < w5.heap.size) := hid (Array.getElem?_eq_some_iff.1 HX5.out).1
    clear hr5 hk5 hg5 hb5 hkr oX HLA
    go_wp2_with fail
    obtain ⟨R3, hR3⟩ : ∃ RR_ : (Nat → Value) → World → Prop, RR_ = (fun us wy => ∃ (ys : List Val) (rs : List UInt8) (bd : Bool) (va : Option Addr) (vc : Nat), wy.heap[X]? = some (.cells #[.slice va ys.length vc, .int .i64 0, .int .i64 0, .slice none 0 0] 57 (0, 0)) ∧ wy.ownsRow (X + 1) 52 3 (.slice va ys.length vc) ys.length (valCells ys) ∧ RdB wy R bd rs ∧ Keeps (fun b => b ≠ R) wx wy ∧ (bd = false → dInt rest = some ((ys.length : Int), rb) ∧ dMany dVal ys.length rb = some (ys, rs)) ∧ (bd = true → dCell rest = none) ∧ ys.length ≤ 1099511627776) := ⟨_, rfl⟩
    have HR3 := hid hR3; clear hR3
    refine wp_block_frame' [false, false, false, false, false, false, false, false, false, false, false, false, true, false, false, false, false, false, false, false, false, false, false, false, false, false, false, false, false, false, false, false, false, false, false, false, false, false, false, false, true, true, true, true, true, true, true, true, true, true, true, true, true, true, true, true, true, true, true, true] R3 _ HR3.out ?_ ?_
    ·
      obtain ⟨R2, hR2⟩ : ∃ RR_ : (Nat → Value) → World → Prop, RR_ = (fun us wy => ∃ (d : Int) (ys : List Val) (rs : List UInt8) (bd : Bool) (va : Option Addr) (vc : Nat), us 12 = .int .i64 d ∧ d = wrap64 (k - ys.length) ∧ wy.heap[X]? = some (.cells #[.slice va ys.length vc, .int .i64 0, .int .i64 0, .slice none 0 0] 57 (0, 0)) ∧ wy.ownsRow (X + 1) 52 3 (.slice va ys.length vc) ys.length (valCells ys) ∧ RdB wy R bd rs ∧ Keeps (fun b => b ≠ R) wx wy ∧ (bd = false → bd3 = false ∧ dMany dVal ys.length rb = some (ys, rs) ∧ (0 ≤ k → (ys.length : Int) ≤ k)) ∧ (bd = true → dCell rest = none) ∧ ys.length ≤ 1099511627776) := ⟨_, rfl⟩
      obtain ⟨mu2, hmu2⟩ : ∃ mu : (Nat → Value) → World → Nat, mu = (fun us _ => ((intOf (us 12)) % 18446744073709551616).toNat) := ⟨_, rfl⟩
      have HR2 := hid hR2; have Hmu2 := hid hmu2; clear hR2 hmu2
      refine wp_loop_frame' [false, false, false, false, false, false, false, false, false, false, false, false, true, false, false, false, false, false, false, false, false, false, false, false, false, false, false, false, false, false, false, false, false, false, false, false, false, false, false, false, true, true, true, true, true, true, true, true, true, true, true, true, true, true, true, true, true, true, true, true] R2 _ mu2 HR2.out ?_ ?_
      · exact ⟨k, [], rb, bd3, none, 0, rfl, by have := HKR.out; unfold wrap64; simp only [List.length_nil]; omega, HX5.out, ⟨rfl, .inl ⟨rfl, rfl⟩⟩, HR5.out, HK5.out, fun h => ⟨h, rfl, fun h => by simpa using h⟩, HB5.out, by simp⟩
      clear HX5 HR5 HK5
      intro us2 wy hrel
      obtain ⟨d, ys, rs, bd, va, vc, h12, hdc, hx, hown, hr, hk, hgood, hbad, hyl⟩ := hrel
      simp only [frameOf, Nat.reduceAdd, h12]
      have Hh12 := hid h12; clear h12
      have HDC := hid hdc; have HXY := hid hx; have HOW := hid hown; have HRY := hid hr; have HKY := hid hk; have HG := hid hgood; have HB := hid hbad; have HYL := hid hyl
      clear hdc hx hown hr hk hgood hbad hyl
      by_cases hd0 : d = 0
      · subst hd0
        go_wp2_with fail
        refine Meet.mk' HR3.out rfl ?_
        exact ⟨ys, rs, bd, va, vc, HXY.out, HOW.out, HRY.out, HKY.out, fun h => by
          obtain ⟨g1, g2, g3⟩ := HG.out h
          have hkn : k = ys.length := count_end HKR.out.1 HKR.out.2 HYL.out HDC.out
          exact ⟨by rw [← hkn]; exact HG5.out g1, g2⟩, HB.out, HYL.out⟩
      cases bd with
      | true =>
        go_wp2_with fail
        refine (read_bad R true rs _ HRY.out).mono ?_
        rintro e w6 ⟨rfl, h6⟩
        rw [h6]
        clear h6 w6
        go_wp2_with fail
        refine Meet.mk' HR3.out rfl ?_
        exact ⟨ys, rs, true, va, vc, HXY.out, HOW.out, HRY.out, HKY.out, fun h => (by cases h), fun _ => HB.out trivial, HYL.out⟩
      | false =>
        obtain ⟨g1, g2, g3⟩ : bd3 = false ∧ dMany dVal ys.length rb = some (ys, rs) ∧ (0 ≤ k → (ys.length : Int) ≤ k) := HG.out rfl
        have HGB := hid g1
        have HGD := hid g2
        have HGK : Hid (0 ≤ k → (ys.length : Int) < k) := hid fun h => by have := g3 h; have := count_on HDC.out hd0; omega
        have HYL2 : Hid (ys.length + 1 ≤ 1099511627776) := hid (by
          have e1 := (dMany_len dVal_len _ _ _ _ g2).1
          have e2 := dInt_len (HG5.out g1)
          have := HL0.out
          have := HLEN.out
          omega)
        clear g1 g2 g3 HG HB
        go_wp2_with fail
        refine (read_bad R false rs _ HRY.out).mono ?_
        rintro e w6 ⟨rfl, h6⟩
        rw [h6]
        clear h6 w6
        go_upto_region 13 with (fail)
        have q0 := cell_obj (i := 0) HXY.out (v := .slice va ys.length vc) rfl
        have p0 := free_obj (i := 0) HXY.out
        refine wp_region_any (by kernel_rfl) ?_
        change wpAny _ _ _ _ _ _ _ (World.drew _)
        refine wpAny_take (i := 0) (v := .pointer (some ⟨X, 0, none⟩)) rfl (by kernel_rfl) (by kernel_rfl) (by kernel_rfl) (fun _ _ _ h => h) (Or.inl ⟨by rfl, ?_⟩) ?_
        · intro w; go_simp
        simp only [Act.put, List.setIfInBounds_toArray, List.set]
        refine wpAny_take (i := 1) (v := .pointer (some ⟨X, 0, none⟩)) rfl (by kernel_rfl) (by kernel_rfl) (by kernel_rfl) (fun _ _ _ h => h) (Or.inl ⟨by rfl, ?_⟩) ?_
        · intro w; go_simp
        simp only [Act.put, List.setIfInBounds_toArray, List.set]
        refine wpAny_take (i := 2) (v := .pointer (some ⟨X, 0, none⟩)) rfl (by kernel_rfl) (by kernel_rfl) (by kernel_rfl) (fun _ _ _ h => h) (Or.inl ⟨by rfl, ?_⟩) ?_
        · intro w; go_simp
        simp only [Act.put, List.setIfInBounds_toArray, List.set]
        refine wpAny_take (i := 3) (v := .pointer (some ⟨X, 0, none⟩)) rfl (by kernel_rfl) (by kernel_rfl) (by kernel_rfl) (fun _ _ _ h => h) (Or.inl ⟨by rfl, ?_⟩) ?_
        · intro w; go_simp
        simp only [Act.put, List.setIfInBounds_toArray, List.set]
        refine wpAny_take (i := 5) (v := .pointer (some ⟨R, 0, none⟩)) rfl (by kernel_rfl) (by kernel_rfl) (by kernel_rfl) (fun _ _ _ h => h) (Or.inl ⟨by rfl, ?_⟩) ?_
        · intro w; go_simp
        simp only [Act.put, List.setIfInBounds_toArray, List.set]
        refine wpAny_ready (rs := [4, 6]) (by kernel_rfl) (by simp) (AllReady.cons rfl (fun K hK => ?_) (AllReady.cons rfl (fun K hK => ?_) AllReady.nil))
        · go_simp
          refine hK _ _ ?_
          clear hK K
          refine wpAny_next (i := 6) (by kernel_rfl) rfl (fun _ _ h => wpAny_next (i := 7) (by kernel_rfl) rfl (fun _ _ h => wpAny_next (i := 8) (by kernel_rfl) rfl (fun _ _ h => wpAny_next (i := 9) (by kernel_rfl) rfl (fun _ _ h => wpAny_next (i := 10) (by kernel_rfl) rfl (fun _ _ h => wpAny_next (i := 11) (rest := []) (by kernel_rfl) rfl (fun _ _ h => wpAny_done (by kernel_rfl) h _) h) h) h) h) h) ?_
          simp only [List.getElem_toArray, List.getElem_cons_succ, List.getElem_cons_zero]
          go_wp2_with fail
          refine (read_value_any R rs _ (HRY.out.later (Later.drew _))).mono ?_
          rintro e w7 ⟨x, bd5, r5, rfl, hr5, hk5, hg5, hb5⟩
          have HR7 := hid hr5
          have HX7 := hid (hk5.obj (Nat.ne_of_gt HRX.out) ((Later.drew wy).obj HXY.out))
          have HOW7 := hid (own_keep (owns_at HOW.out (Later.drew wy)) hk5 fun b hb _ => by have := HRX.out; omega)
          have HK7 := hid (HKY.out.trans (((Later.drew wy).keeps _).trans hk5))
          have HG7 := hid hg5
          have HB7 := hid hb5
          have HXB7 : Hid (X < w7.heap.size) := hid (Array.getElem?_eq_some_iff.1 HX7.out).1
          clear hr5 hk5 hg5 hb5 q0 p0
          have q0 := cell_obj (i := 0) HX7.out (v := .slice va ys.length vc) rfl
          have p0 := free_obj (i := 0) HX7.out
          go_wp2_with (at_builtin; go_loud (refine wpList_append_obj rfl _ _ 32 rfl 52 3 32 Tryz.underlying32 infoVl rfl (owns_at HOW7.out (Later.alloc _ _)) (news := [.int .i64 x.k, .int .i64 x.n, .string x.t]) rfl (obj_at (by simp)) rfl (val_one x) ?c1 ?c2 ?c3 ?_))
          case c1 => have := HYL2.out; omega
          case c2 => have := HYL2.out; unfold maxLen; omega
          case c3 => have := HXB7.out; simp only [World.size_alloc]; omega
          intro v8 w8 hA8
          have hL8 := Later.alloc w7 (.cells #[.int .i64 x.k, .int .i64 x.n, .string x.t] 52 (0, 0))
          have hown6 := owns_at HOW7.out hL8
          have hlow := hA8.low hown6
          have hX8 := hA8.obj (hL8.obj HX7.out) (fun e => by have := (hown6.lt _ e.symm).1; omega)
          have hR8 := (HR7.out.later hL8).keep hlow fun b hb => by have := HRX.out; omega
          have hK8 := (HK7.out.more hL8).low (hlow.mono fun b _ hb => by have := HX.out; omega)
          obtain ⟨a8, c8, rfl⟩ := ownsRow_slice hA8.own
          have HX9 := hid (obj_setCell (i := 0) hX8 (.slice a8 (ys.length + 1) c8))
          have HO9 := hid (own_set hA8.own (p := ⟨X, 0, none⟩) (own_ne hA8.own hX8 (by decide)) (.slice a8 (ys.length + 1) c8))
          have HR9 := hid (hR8.other (p := ⟨X, 0, none⟩) HRX.out (.slice a8 (ys.length + 1) c8))
          have HK9 := hid (hK8.setCell (p := ⟨X, 0, none⟩) (.inr (by have := HX.out; simp only; omega)) (.slice a8 (ys.length + 1) c8))
          clear q0 p0
          have q0 := cell_obj (i := 0) hX8 (v := .slice va ys.length vc) rfl
          have p0 := free_obj (i := 0) hX8
          clear hL8 hown6 hlow hX8 hR8 hK8 hA8
          simp only [List.setIfInBounds_toArray, List.set] at HX9
          go_wp2_with fail
          have hlen : (ys ++ [x]).length = ys.length + 1 := by simp
          refine Round.mk' HR2.out Hmu2.out rfl ?_ ?_
          · exact ⟨wrap64 (d - 1), ys ++ [x], r5, bd5, a8, c8, rfl, by rw [hlen]; exact count_next HDC.out, by rw [hlen]; exact HX9.out, by rw [hlen, valCells_snoc]; exact HO9.out, HR9.out, HK9.out, fun h => ⟨HGB.out, by rw [hlen]; exact dMany_step HGD.out (HG7.out h), fun hk => by have := HGK.out hk; rw [hlen]; omega⟩, fun h => dCell_none2 (HG5.out HGB.out) HGD.out (HB7.out h) HGK.out, by rw [hlen]; exact HYL2.out⟩
          · rw [Hh12.out]; exact count_less (count_in HDC.out).1 (count_in HDC.out).2 hd0
        · go_simp
          refine (read_value_any R rs _ (HRY.out.later (Later.drew _))).mono ?_
          rintro e w7 ⟨x, bd5, r5, rfl, hr5, hk5, hg5, hb5⟩
          have HR7 := hid hr5
          have HX7 := hid (hk5.obj (Nat.ne_of_gt HRX.out) ((Later.drew wy).obj HXY.out))
          have HOW7 := hid (own_keep (owns_at HOW.out (Later.drew wy)) hk5 fun b hb _ => by have := HRX.out; omega)
          have HK7 := hid (HKY.out.trans (((Later.drew wy).keeps _).trans hk5))
          have HG7 := hid hg5
          have HB7 := hid hb5
          have HXB7 : Hid (X < w7.heap.size) := hid (Array.getElem?_eq_some_iff.1 HX7.out).1
          clear hr5 hk5 hg5 hb5 q0 p0
          have q0 := cell_obj (i := 0) HX7.out (v := .slice va ys.length vc) rfl
          have p0 := free_obj (i := 0) HX7.out
          refine hK _ _ ?_
          clear hK K
          refine wpAny_ready (rs := [4, 7]) (by kernel_rfl) (by simp) (AllReady.cons rfl (fun K hK => ?_) (AllReady.cons rfl (fun K hK => ?_) AllReady.nil))
          · go_simp
            refine hK _ _ ?_
            clear hK K
            refine wpAny_next (i := 7) (by kernel_rfl) rfl (fun _ _ h => wpAny_next (i := 8) (by kernel_rfl) rfl (fun _ _ h => wpAny_next (i := 9) (by kernel_rfl) rfl (fun _ _ h => wpAny_next (i := 10) (by kernel_rfl) rfl (fun _ _ h => wpAny_next (i := 11) (rest := []) (by kernel_rfl) rfl (fun _ _ h => wpAny_done (by kernel_rfl) h _) h) h) h) h) ?_
            simp only [List.getElem_toArray, List.getElem_cons_succ, List.getElem_cons_zero]
            go_wp2_with (at_builtin; go_loud (refine wpList_append_obj rfl _ _ 32 rfl 52 3 32 Tryz.underlying32 infoVl rfl (owns_at HOW7.out (Later.alloc _ _)) (news := [.int .i64 x.k, .int .i64 x.n, .string x.t]) rfl (obj_at (by simp)) rfl (val_one x) ?c1 ?c2 ?c3 ?_))
            case c1 => have := HYL2.out; omega
            case c2 => have := HYL2.out; unfold maxLen; omega
            case c3 => have := HXB7.out; simp only [World.size_alloc]; omega
            intro v8 w8 hA8
            have hL8 := Later.alloc w7 (.cells #[.int .i64 x.k, .int .i64 x.n, .string x.t] 52 (0, 0))
            have hown6 := owns_at HOW7.out hL8
            have hlow := hA8.low hown6
            have hX8 := hA8.obj (hL8.obj HX7.out) (fun e => by have := (hown6.lt _ e.symm).1; omega)
            have hR8 := (HR7.out.later hL8).keep hlow fun b hb => by have := HRX.out; omega
            have hK8 := (HK7.out.more hL8).low (hlow.mono fun b _ hb => by have := HX.out; omega)
            obtain ⟨a8, c8, rfl⟩ := ownsRow_slice hA8.own
            have HX9 := hid (obj_setCell (i := 0) hX8 (.slice a8 (ys.length + 1) c8))
            have HO9 := hid (own_set hA8.own (p := ⟨X, 0, none⟩) (own_ne hA8.own hX8 (by decide)) (.slice a8 (ys.length + 1) c8))
            have HR9 := hid (hR8.other (p := ⟨X, 0, none⟩) HRX.out (.slice a8 (ys.length + 1) c8))
            have HK9 := hid (hK8.setCell (p := ⟨X, 0, none⟩) (.inr (by have := HX.out; simp only; omega)) (.slice a8 (ys.length + 1) c8))
            clear q0 p0
            have q0 := cell_obj (i := 0) hX8 (v := .slice va ys.length vc) rfl
            have p0 := free_obj (i := 0) hX8
            clear hL8 hown6 hlow hX8 hR8 hK8 hA8
            simp only [List.setIfInBounds_toArray, List.set] at HX9
            go_wp2_with fail
            have hlen : (ys ++ [x]).length = ys.length + 1 := by simp
            refine Round.mk' HR2.out Hmu2.out rfl ?_ ?_
            · exact ⟨wrap64 (d - 1), ys ++ [x], r5, bd5, a8, c8, rfl, by rw [hlen]; exact count_next HDC.out, by rw [hlen]; exact HX9.out, by rw [hlen, valCells_snoc]; exact HO9.out, HR9.out, HK9.out, fun h => ⟨HGB.out, by rw [hlen]; exact dMany_step HGD.out (HG7.out h), fun hk => by have := HGK.out hk; rw [hlen]; omega⟩, fun h => dCell_none2 (HG5.out HGB.out) HGD.out (HB7.out h) HGK.out, by rw [hlen]; exact HYL2.out⟩
            · rw [Hh12.out]; exact count_less (count_in HDC.out).1 (count_in HDC.out).2 hd0
          · go_simp
            refine hK _ _ ?_
            clear hK K
            replace q0 := (Later.alloc w7 (.cells #[.int .i64 x.k, .int .i64 x.n, .string x.t] 52 (0, 0))).cell q0
            refine wpAny_next (i := 4) (by kernel_rfl) rfl (fun _ _ h => wpAny_next (i := 8) (by kernel_rfl) rfl (fun _ _ h => wpAny_next (i := 9) (by kernel_rfl) rfl (fun _ _ h => wpAny_next (i := 10) (by kernel_rfl) rfl (fun _ _ h => wpAny_next (i := 11) (rest := []) (by kernel_rfl) rfl (fun _ _ h => wpAny_done (by kernel_rfl) h _) h) h) h) h) ?_
            simp only [List.getElem_toArray, List.getElem_cons_succ, List.getElem_cons_zero]
            go_wp2_with (at_builtin; go_loud (refine wpList_append_obj rfl _ _ 32 rfl 52 3 32 Tryz.underlying32 infoVl rfl (owns_at HOW7.out (Later.alloc _ _)) (news := [.int .i64 x.k, .int .i64 x.n, .string x.t]) rfl (obj_at (by simp)) rfl (val_one x) ?c1 ?c2 ?c3 ?_))
            case c1 => have := HYL2.out; omega
            case c2 => have := HYL2.out; unfold maxLen; omega
            case c3 => have := HXB7.out; simp only [World.size_alloc]; omega
            intro v8 w8 hA8
            have hL8 := Later.alloc w7 (.cells #[.int .i64 x.k, .int .i64 x.n, .string x.t] 52 (0, 0))
            have hown6 := owns_at HOW7.out hL8
            have hlow := hA8.low hown6
            have hX8 := hA8.obj (hL8.obj HX7.out) (fun e => by have := (hown6.lt _ e.symm).1; omega)
            have hR8 := (HR7.out.later hL8).keep hlow fun b hb => by have := HRX.out; omega
            have hK8 := (HK7.out.more hL8).low (hlow.mono fun b _ hb => by have := HX.out; omega)
            obtain ⟨a8, c8, rfl⟩ := ownsRow_slice hA8.own
            have HX9 := hid (obj_setCell (i := 0) hX8 (.slice a8 (ys.length + 1) c8))
            have HO9 := hid (own_set hA8.own (p := ⟨X, 0, none⟩) (own_ne hA8.own hX8 (by decide)) (.slice a8 (ys.length + 1) c8))
            have HR9 := hid (hR8.other (p := ⟨X, 0, none⟩) HRX.out (.slice a8 (ys.length + 1) c8))
            have HK9 := hid (hK8.setCell (p := ⟨X, 0, none⟩) (.inr (by have := HX.out; simp only; omega)) (.slice a8 (ys.length + 1) c8))
            clear q0 p0
            have q0 := cell_obj (i := 0) hX8 (v := .slice va ys.length vc) rfl
            have p0 := free_obj (i := 0) hX8
            clear hL8 hown6 hlow hX8 hR8 hK8 hA8
            simp only [List.setIfInBounds_toArray, List.set] at HX9
            go_wp2_with fail
            have hlen : (ys ++ [x]).length = ys.length + 1 := by simp
            refine Round.mk' HR2.out Hmu2.out rfl ?_ ?_
            · exact ⟨wrap64 (d - 1), ys ++ [x], r5, bd5, a8, c8, rfl, by rw [hlen]; exact count_next HDC.out, by rw [hlen]; exact HX9.out, by rw [hlen, valCells_snoc]; exact HO9.out, HR9.out, HK9.out, fun h => ⟨HGB.out, by rw [hlen]; exact dMany_step HGD.out (HG7.out h), fun hk => by have := HGK.out hk; rw [hlen]; omega⟩, fun h => dCell_none2 (HG5.out HGB.out) HGD.out (HB7.out h) HGK.out, by rw [hlen]; exact HYL2.out⟩
            · rw [Hh12.out]; exact count_less (count_in HDC.out).1 (count_in HDC.out).2 hd0
    clear HX5 HR5 HK5
    intro us3 wy hrel
    obtain ⟨ys, rs, bd, va, vc, hx, hown, hr, hk, hgood, hbad, hyl⟩ := hrel
    simp only [frameOf, Nat.reduceAdd]
    have HXY := hid hx; have HOW := hid hown; have HRY := hid hr; have HKY := hid hk; have HG := hid hgood; have HB := hid hbad; have HYL := hid hyl
    clear hx hown hr hk hgood hbad hyl
    go_wp2_with fail
    refine (read_int_any R bd rs _ HRY.out).mono ?_
    rintro e w6 ⟨ta, bd6, r6, rfl, hr6, hk6, hg6, hb6, hra⟩
    have HR6 := hid hr6; have HG6 := hid hg6; have HB6 := hid hb6; have HK6 := hid hk6
    clear hr6 hk6 hg6 hb6 hra
    go_wp2_with fail
    refine (read_int_any R bd6 r6 _ HR6.out).mono ?_
    rintro e w7 ⟨tb, bd7, r7, rfl, hr7, hk7, hg7, hb7, hrb⟩
    have HG7 := hid hg7; have HB7 := hid hb7
    have HK67 := hid (HK6.out.trans hk7)
    have HX7 := hid (HK67.out.obj (Nat.ne_of_gt HRX.out) HXY.out)
    have HOW7 := hid (own_keep HOW.out HK67.out fun b hb _ => by have := HRX.out; omega)
    have HK7 := hid (HKY.out.trans HK67.out)
    have HR7 := hid hr7
    clear hr7 hk7 hg7 hb7 hrb HK6 HR6 HRY HOW HXY
    have p1 := free_obj (i := 1) HX7.out
    have p2 := free_obj (i := 2) HX7.out
    have q1 := cell_obj (i := 1) HX7.out rfl
    have q2 := cell_obj (i := 2) HX7.out rfl
    go_upto_region 15 with (fail)
    clear p1 p2 q1 q2
    obtain ⟨w8, hw8⟩ : ∃ w8, w8 = (w7.setCell ⟨X, 1, none⟩ (.int .i64 ta)).setCell ⟨X, 2, none⟩ (.int .i64 tb) := ⟨_, rfl⟩
    have HX8 := hid (obj_setCell (i := 2) (obj_setCell (i := 1) HX7.out (.int .i64 ta)) (.int .i64 tb))
    have HR8 := hid ((HR7.out.other (p := ⟨X, 1, none⟩) HRX.out (.int .i64 ta)).other (p := ⟨X, 2, none⟩) HRX.out (.int .i64 tb))
    have HK8 := hid ((HK7.out.setCell (p := ⟨X, 1, none⟩) (.inr (by have := HX.out; simp only; omega)) (.int .i64 ta)).setCell (p := ⟨X, 2, none⟩) (.inr (by have := HX.out; simp only; omega)) (.int .i64 tb))
    have HOW8 := hid (own_set (own_set HOW7.out (p := ⟨X, 1, none⟩) (own_ne HOW7.out HX7.out (by decide)) (.int .i64 ta)) (p := ⟨X, 2, none⟩) (own_ne (own_set HOW7.out (p := ⟨X, 1, none⟩) (own_ne HOW7.out HX7.out (by decide)) (.int .i64 ta)) (obj_setCell (i := 1) HX7.out (.int .i64 ta)) (by decide)) (.int .i64 tb))
    simp only [List.setIfInBounds_toArray, List.set] at HX8
    rw [← hw8] at HX8 HR8 HK8 HOW8 ⊢
    clear hw8 HX7 HR7 HK7 HOW7 HK67
    go_wp2_with fail
    refine (read_text_any R bd7 r7 _ HR8.out).mono ?_
    rintro e w9 ⟨t, bd8, r8, rfl, hr9, hk9, hg9, hb9⟩
    have HX9 := hid (hk9.obj (Nat.ne_of_gt HRX.out) HX8.out)
    have HOW9 := hid (own_keep HOW8.out hk9 fun b hb _ => by have := HRX.out; omega)
    have HK9 := hid (HK8.out.trans hk9)
    have HR9 := hid hr9
    have HG9 : Hid (bd8 = false → dCell rest = some (⟨ys, (ta, tb), t.data.toList⟩, r8) ∧ (∀ x ∈ ys, ValOk x) ∧ r8.length < rest.length) := hid fun h => by
      obtain ⟨a1, a2⟩ := hg9 h
      obtain ⟨b1, b2⟩ := HG7.out a1
      obtain ⟨c1, c2⟩ := HG6.out b1
      obtain ⟨d1, d2⟩ := HG.out c1
      have hd := dCell_some d1 d2 c2 b2 a2
      exact ⟨hd, dMany_ok d2, dCell_len _ _ _ hd⟩
    have HB9 : Hid (bd8 = true → dCell rest = none) := hid fun h => by
      obtain ⟨-, h1⟩ := hb9 h
      cases hd7 : bd7 with
      | true =>
        obtain ⟨-, h2⟩ := HB7.out hd7
        cases hd6 : bd6 with
        | true =>
          obtain ⟨-, h3⟩ := HB6.out hd6
          cases hd : bd with
          | true => exact HB.out hd
          | false =>
            obtain ⟨d1, d2⟩ := HG.out hd
            exact dCell_none3 d1 d2 (by rcases h3 with h3 | h3; rw [hd] at h3; cases h3; exact h3)
        | false =>
          obtain ⟨c1, c2⟩ := HG6.out hd6
          obtain ⟨d1, d2⟩ := HG.out c1
          exact dCell_none4 d1 d2 c2 (by rcases h2 with h2 | h2; rw [hd6] at h2; cases h2; exact h2)
      | false =>
        obtain ⟨b1, b2⟩ := HG7.out hd7
        obtain ⟨c1, c2⟩ := HG6.out b1
        obtain ⟨d1, d2⟩ := HG.out c1
        exact dCell_none5 d1 d2 c2 b2 (by rcases h1 with h1 | h1; rw [hd7] at h1; cases h1; exact h1)
    have HTS : Hid (t.size ≤ 1099511627776) := hid (by
      cases h : bd8 with
      | true => rw [(hb9 h).1]; exact Nat.zero_le _
      | false =>
        obtain ⟨a1, a2⟩ := hg9 h
        obtain ⟨b1, b2⟩ := HG7.out a1
        obtain ⟨c1, c2⟩ := HG6.out b1
        obtain ⟨d1, d2⟩ := HG.out c1
        have e1 := dText_size a2
        have e2 := dInt_len b2
        have e3 := dInt_len c2
        have e4 := (dMany_len dVal_len _ _ _ _ d2).1
        have e5 := dInt_len d1
        have := HLEN.out
        have := HL0.out
        omega)
    clear hr9 hk9 hg9 hb9 HG HB HG6 HB6 HG7 HB7 HX8 HR8 HK8 HOW8
    go_wp2_with (refine wpList_bytes_new rfl _ 9 35 5 rfl Tryz.underlying9 Tryz.underlying35 Tryz.underlying5 t rfl (by have := HTS.out; unfold maxLen; omega) ?_)
    intro tc w10 hL10 hsz10 hby
    obtain ⟨Y, hY⟩ : ∃ Y, Y = w9.heap.size := ⟨_, rfl⟩
    rw [← hY] at hby
    have HX10 := hid (hL10.obj HX9.out)
    have p3 := free_obj (i := 3) HX10.out
    have q3 := cell_obj (i := 3) HX10.out (v := .slice none 0 0) rfl
    have HXY9 : Hid (X < Y) := hid (by rw [hY]; exact (Array.getElem?_eq_some_iff.1 HX9.out).1)
    go_upto_region 16 with (fail)
    clear p3 q3
    have hts : t.size = t.data.toList.length := by rw [Array.length_toList]; rfl
    obtain ⟨tl, htl⟩ : ∃ tl, tl = t.data.toList := ⟨_, rfl⟩
    rw [← htl] at hts hby HG9
    rw [hts] at hby HTS ⊢
    rw [← hY]
    obtain ⟨wz, hwz⟩ : ∃ wz, wz = w10.setCell ⟨X, 3, none⟩ (.slice (some ⟨Y, 0, none⟩) tl.length tc) := ⟨_, rfl⟩
    have HXZ := hid (obj_setCell (i := 3) HX10.out (.slice (some ⟨Y, 0, none⟩) tl.length tc))
    have HRZ := hid ((HR9.out.later hL10).other (p := ⟨X, 3, none⟩) HRX.out (.slice (some ⟨Y, 0, none⟩) tl.length tc))
    have HKZ := hid ((HK9.out.more hL10).setCell (p := ⟨X, 3, none⟩) (.inr (by have := HX.out; simp only; omega)) (.slice (some ⟨Y, 0, none⟩) tl.length tc))
    have HOWZ := hid (own_set (owns_at HOW9.out hL10) (p := ⟨X, 3, none⟩) (own_ne (owns_at HOW9.out hL10) HX10.out (by decide)) (.slice (some ⟨Y, 0, none⟩) tl.length tc))
    have HBZ := hid (hby.bytes_kept ((Keeps.refl (fun b => b ≠ X) w10).setCell (p := ⟨X, 3, none⟩) (.inl (by simp)) (.slice (some ⟨Y, 0, none⟩) tl.length tc)) fun b hb => by have := HXY9.out; omega)
    simp only [List.setIfInBounds_toArray, List.set] at HXZ
    rw [← hwz] at HXZ HRZ HKZ HOWZ HBZ ⊢
    clear hwz htl hts hby hL10 hsz10 HX10 HX9 HR9 HK9 HOW9 hY
    have HVZ := hid ((owned_vals HOWZ.out).vals_mono (S' := fun b => X < b) fun b hb => hb)
    clear HOWZ
    obtain ⟨cc, hcc⟩ : ∃ cc : CellP, cc = ⟨ys, (ta, tb), tl⟩ := ⟨_, rfl⟩
    rw [← hcc] at HG9
    have HCC := hid hcc
    clear hcc
    obtain ⟨V1, hV1⟩ : ∃ V1 : Nat → Prop, V1 = fun b => VX V w R b ∧ b < wx.heap.size := ⟨_, rfl⟩
    have HV1 := hid hV1
    have HSZ : Hid (StAt V1 wz S M lo hi Lx) := hid (by
      rw [hV1]
      exact (HST.out.st.mono (fun b hb hlt => ⟨hb, hlt⟩) (fun h => HST.out.st.vS h.1) (fun h => HST.out.st.vM h.1)).kept HKZ.out HSR.out HMR.out fun b hb _ => hb.1.ne HRW.out)
    have HTZ := hid (HKZ.out.obj HTR.out HST.out.box)
    have HLZ := hid (HST.out.lst.keep HKZ.out fun b _ h => h)
    have HPZ := hid (pow_rd HST.out.pow HST.out.rd HKZ.out)
    have HKW := hid (HST.out.keep.low (HKZ.out.mono fun b _ (hb : b < w.heap.size) => by have := HRW.out; omega))
    have HXW : Hid (w.heap.size ≤ X) := hid (by have := HST.out.keep.size; have := HX.out; omega)
    have HXo : Hid (∀ W, Keeps (fun b => b ≠ S ∧ b ≠ M) wz W → W.heap[X]? = some (.cells #[.slice va ys.length vc, .int .i64 ta, .int .i64 tb, .slice (some ⟨Y, 0, none⟩) tl.length tc] 57 (0, 0))) := hid fun W hW => hW.obj ⟨by have := HSL.out; have := HXW.out; omega, by have := HML.out; have := HXW.out; omega⟩ HXZ.out
    have HTo : Hid (∀ W, Keeps (fun b => b ≠ S ∧ b ≠ M) wz W → W.heap[T]? = some (.cells #[.int .i64 g, .slice pa l.length pc] 47 (0, 0))) := hid fun W hW => hW.obj ⟨by have := HSL.out; have := HT0.out; omega, by have := HML.out; have := HT0.out; omega⟩ HTZ.out
    have HRo : Hid (∀ W, Keeps (fun b => b ≠ S ∧ b ≠ M) wz W → RdB W R bd8 r8) := hid fun W hW => HRZ.out.put_keep HSZ.out HSR.out.symm HMR.out.symm hW
    have HPo : Hid (∀ W, Keeps (fun b => b ≠ S ∧ b ≠ M) wz W → PowTab W) := hid fun W hW => pow_st HPZ.out HSZ.out hW
    have HVo : Hid (∀ W, Keeps (fun b => b ≠ S ∧ b ≠ M) wz W → ValsIn (fun b => X < b) W (.slice va ys.length vc) ys) := hid fun W hW => HVZ.out.vals_kept hW fun b hb => ⟨by have := HSL.out; have := HXW.out; omega, by have := HML.out; have := HXW.out; omega⟩
    have HBo : Hid (∀ W, Keeps (fun b => b ≠ S ∧ b ≠ M) wz W → BytesIn (fun b => X < b) W (.slice (some ⟨Y, 0, none⟩) tl.length tc) tl) := hid fun W hW => (HBZ.out.bytes_kept hW fun b hb => ⟨by have := HSL.out; have := HXW.out; have := HXY9.out; omega, by have := HML.out; have := HXW.out; have := HXY9.out; omega⟩).bytes_mono fun b hb => by have := HXY9.out; omega
    have HLo : Hid (∀ W, Keeps (fun b => b ≠ S ∧ b ≠ M) wz W → LastAt w W R lv last) := hid fun W hW => HLZ.out.keep hW fun b hb _ => ⟨by have := HSL.out; omega, by have := HML.out; omega⟩
    clear HXZ HTZ HRZ HVZ HBZ hV1
    obtain ⟨R4, hR4⟩ : ∃ RR_ : (Nat → Value) → World → Prop, RR_ = (fun us W => Keeps (fun b => b ≠ S ∧ b ≠ M) wz W ∧ ((us 116 = .bool true ∧ (bd8 = true ∨ bd8 = false ∧ okC lo hi g Lx last cc = false)) ∨ (us 116 = .bool false ∧ bd8 = false ∧ okC lo hi g Lx last cc = true ∧ StAt (VX V w R) W S M lo hi (insC cc Lx)))) := ⟨_, rfl⟩
    have HR4 := hid hR4; clear hR4
    refine wp_cut_frame' [false, false, false, false, false, false, false, false, false, false, false, false, false, false, false, false, false, false, false, false, false, false, false, false, false, false, false, false, false, false, false, false, false, false, false, false, false, false, false, false, false, false, false, false, false, false, false, false, false, false, false, false, false, false, false, false, false, false, false, false, false, false, false, false, false, false, false, false, false, false, false, false, false, false, true, true, true, true, true, true, true, true, true, true, true, true, true, true, true, true, true, true, true, true, true, true, true, true, true, true, true, true, true, true, true, true, true, true, true, true, true, true, true, true, true, true, true] R4 _ HR4.out ?_ ?_
    · have HRlt := hid (HRo.out _ (Keeps.refl _ _)).lt
      refine wp_region_held_drew (S := fun W => Keeps (fun b => b ≠ S ∧ b ≠ M) wz W) (by kernel_rfl) ((Later.drew wz).keeps _) (fun hS => ?_)
      obtain ⟨w11, hw11⟩ : ∃ W, W = wz.drew := ⟨_, rfl⟩
      have HS1 : Hid (StAt V1 w11 S M lo hi Lx) := hid (by rw [hw11]; exact HSZ.out.later (Later.drew wz))
      rw [← hw11] at hS ⊢
      clear hw11
      refine takeH (i := 0) (v := .pointer (some ⟨R, 0, none⟩)) rfl rfl (by kernel_rfl) (by kernel_rfl) (by kernel_rfl) (fun _ _ _ h => h) (Or.inl ⟨by rfl, ?_⟩) hS ?_
      · intro w hS'
        clear hS hS'
        go_simp
      simp only [List.set]
      refine wpAnyH_ready (rs := [1]) (by kernel_rfl) (by simp) (AllReadyH.cons rfl (fun K hK => ?_) AllReadyH.nil)
      go_simp
      refine (read_bad R bd8 r8 _ (HRo.out _ hS)).mono ?_
      rintro e w12 ⟨rfl, h12⟩
      rw [h12]
      clear h12 w12
      refine hK.out _ _ hS (fun hS => ?_)
      clear hK K
      try simp only [List.getElem_toArray, List.getElem_cons_succ, List.getElem_cons_zero, Act.put, List.setIfInBounds_toArray, List.set]
      cases bd8 with
      | true =>
        refine takeH (i := 2) (v := .bool true) rfl rfl (by kernel_rfl) (by kernel_rfl) (by kernel_rfl) (fun _ _ _ h => h) (Or.inl ⟨by rfl, ?_⟩) hS ?_
        · intro w hS'
          clear hS hS'
          go_simp
        simp only [List.set]
        refine takeH (i := 3) (v := undef) rfl rfl (by kernel_rfl) (by kernel_rfl) (by kernel_rfl) (fun _ _ _ h => h) (Or.inr ⟨by kernel_rfl, rfl⟩) hS ?_
        simp only [List.set]
        refine takeH (i := 4) (v := undef) rfl rfl (by kernel_rfl) (by kernel_rfl) (by kernel_rfl) (fun _ _ _ h => h) (Or.inr ⟨by kernel_rfl, rfl⟩) hS ?_
        simp only [List.set]
        refine takeH (i := 5) (v := undef) rfl rfl (by kernel_rfl) (by kernel_rfl) (by kernel_rfl) (fun _ _ _ h => h) (Or.inr ⟨by kernel_rfl, rfl⟩) hS ?_
        simp only [List.set]
        refine takeH (i := 6) (v := undef) rfl rfl (by kernel_rfl) (by kernel_rfl) (by kernel_rfl) (fun _ _ _ h => h) (Or.inr ⟨by kernel_rfl, rfl⟩) hS ?_
        simp only [List.set]
        refine takeH (i := 7) (v := undef) rfl rfl (by kernel_rfl) (by kernel_rfl) (by kernel_rfl) (fun _ _ _ h => h) (Or.inr ⟨by kernel_rfl, rfl⟩) hS ?_
        simp only [List.set]
        refine takeH (i := 8) (v := undef) rfl rfl (by kernel_rfl) (by kernel_rfl) (by kernel_rfl) (fun _ _ _ h => h) (Or.inr ⟨by kernel_rfl, rfl⟩) hS ?_
        simp only [List.set]
        refine takeH (i := 9) (v := undef) rfl rfl (by kernel_rfl) (by kernel_rfl) (by kernel_rfl) (fun _ _ _ h => h) (Or.inr ⟨by kernel_rfl, rfl⟩) hS ?_
        simp only [List.set]
        refine takeH (i := 10) (v := undef) rfl rfl (by kernel_rfl) (by kernel_rfl) (by kernel_rfl) (fun _ _ _ h => h) (Or.inr ⟨by kernel_rfl, rfl⟩) hS ?_
        simp only [List.set]
        refine takeH (i := 11) (v := .bool true) rfl rfl (by kernel_rfl) (by kernel_rfl) (by kernel_rfl) (fun _ _ _ h => h) (Or.inl ⟨by rfl, ?_⟩) hS ?_
        · intro w hS'
          clear hS hS'
          go_simp
        simp only [List.set]
        refine takeH (i := 12) (v := .bool true) rfl rfl (by kernel_rfl) (by kernel_rfl) (by kernel_rfl) (fun _ _ _ h => h) (Or.inl ⟨by rfl, ?_⟩) hS ?_
        · intro w hS'
          clear hS hS'
          go_simp
        simp only [List.set]
        refine takeH (i := 13) (v := undef) rfl rfl (by kernel_rfl) (by kernel_rfl) (by kernel_rfl) (fun _ _ _ h => h) (Or.inr ⟨by kernel_rfl, rfl⟩) hS ?_
        simp only [List.set]
        refine takeH (i := 14) (v := undef) rfl rfl (by kernel_rfl) (by kernel_rfl) (by kernel_rfl) (fun _ _ _ h => h) (Or.inr ⟨by kernel_rfl, rfl⟩) hS ?_
        simp only [List.set]
        refine takeH (i := 15) (v := undef) rfl rfl (by kernel_rfl) (by kernel_rfl) (by kernel_rfl) (fun _ _ _ h => h) (Or.inr ⟨by kernel_rfl, rfl⟩) hS ?_
        simp only [List.set]
        refine takeH (i := 16) (v := undef) rfl rfl (by kernel_rfl) (by kernel_rfl) (by kernel_rfl) (fun _ _ _ h => h) (Or.inr ⟨by kernel_rfl, rfl⟩) hS ?_
        simp only [List.set]
        refine takeH (i := 17) (v := undef) rfl rfl (by kernel_rfl) (by kernel_rfl) (by kernel_rfl) (fun _ _ _ h => h) (Or.inr ⟨by kernel_rfl, rfl⟩) hS ?_
        simp only [List.set]
        refine takeH (i := 18) (v := undef) rfl rfl (by kernel_rfl) (by kernel_rfl) (by kernel_rfl) (fun _ _ _ h => h) (Or.inr ⟨by kernel_rfl, rfl⟩) hS ?_
        simp only [List.set]
        refine takeH (i := 19) (v := undef) rfl rfl (by kernel_rfl) (by kernel_rfl) (by kernel_rfl) (fun _ _ _ h => h) (Or.inr ⟨by kernel_rfl, rfl⟩) hS ?_
        simp only [List.set]
        refine takeH (i := 20) (v := undef) rfl rfl (by kernel_rfl) (by kernel_rfl) (by kernel_rfl) (fun _ _ _ h => h) (Or.inr ⟨by kernel_rfl, rfl⟩) hS ?_
        simp only [List.set]
        refine takeH (i := 21) (v := undef) rfl rfl (by kernel_rfl) (by kernel_rfl) (by kernel_rfl) (fun _ _ _ h => h) (Or.inr ⟨by kernel_rfl, rfl⟩) hS ?_
        simp only [List.set]
        refine takeH (i := 22) (v := undef) rfl rfl (by kernel_rfl) (by kernel_rfl) (by kernel_rfl) (fun _ _ _ h => h) (Or.inr ⟨by kernel_rfl, rfl⟩) hS ?_
        simp only [List.set]
        refine takeH (i := 23) (v := undef) rfl rfl (by kernel_rfl) (by kernel_rfl) (by kernel_rfl) (fun _ _ _ h => h) (Or.inr ⟨by kernel_rfl, rfl⟩) hS ?_
        simp only [List.set]
        refine takeH (i := 24) (v := undef) rfl rfl (by kernel_rfl) (by kernel_rfl) (by kernel_rfl) (fun _ _ _ h => h) (Or.inr ⟨by kernel_rfl, rfl⟩) hS ?_
        simp only [List.set]
        refine takeH (i := 25) (v := .bool true) rfl rfl (by kernel_rfl) (by kernel_rfl) (by kernel_rfl) (fun _ _ _ h => h) (Or.inl ⟨by rfl, ?_⟩) hS ?_
        · intro w hS'
          clear hS hS'
          go_simp
        simp only [List.set]
        refine takeH (i := 26) (v := .bool true) rfl rfl (by kernel_rfl) (by kernel_rfl) (by kernel_rfl) (fun _ _ _ h => h) (Or.inl ⟨by rfl, ?_⟩) hS ?_
        · intro w hS'
          clear hS hS'
          go_simp
        simp only [List.set]
        refine takeH (i := 27) (v := undef) rfl rfl (by kernel_rfl) (by kernel_rfl) (by kernel_rfl) (fun _ _ _ h => h) (Or.inr ⟨by kernel_rfl, rfl⟩) hS ?_
        simp only [List.set]
        refine takeH (i := 28) (v := undef) rfl rfl (by kernel_rfl) (by kernel_rfl) (by kernel_rfl) (fun _ _ _ h => h) (Or.inr ⟨by kernel_rfl, rfl⟩) hS ?_
        simp only [List.set]
        refine takeH (i := 29) (v := undef) rfl rfl (by kernel_rfl) (by kernel_rfl) (by kernel_rfl) (fun _ _ _ h => h) (Or.inr ⟨by kernel_rfl, rfl⟩) hS ?_
        simp only [List.set]
        refine takeH (i := 30) (v := undef) rfl rfl (by kernel_rfl) (by kernel_rfl) (by kernel_rfl) (fun _ _ _ h => h) (Or.inr ⟨by kernel_rfl, rfl⟩) hS ?_
        simp only [List.set]
        refine takeH (i := 31) (v := undef) rfl rfl (by kernel_rfl) (by kernel_rfl) (by kernel_rfl) (fun _ _ _ h => h) (Or.inr ⟨by kernel_rfl, rfl⟩) hS ?_
        simp only [List.set]
        refine takeH (i := 32) (v := undef) rfl rfl (by kernel_rfl) (by kernel_rfl) (by kernel_rfl) (fun _ _ _ h => h) (Or.inr ⟨by kernel_rfl, rfl⟩) hS ?_
        simp only [List.set]
        refine takeH (i := 33) (v := undef) rfl rfl (by kernel_rfl) (by kernel_rfl) (by kernel_rfl) (fun _ _ _ h => h) (Or.inr ⟨by kernel_rfl, rfl⟩) hS ?_
        simp only [List.set]
        refine takeH (i := 34) (v := undef) rfl rfl (by kernel_rfl) (by kernel_rfl) (by kernel_rfl) (fun _ _ _ h => h) (Or.inr ⟨by kernel_rfl, rfl⟩) hS ?_
        simp only [List.set]
        refine takeH (i := 35) (v := undef) rfl rfl (by kernel_rfl) (by kernel_rfl) (by kernel_rfl) (fun _ _ _ h => h) (Or.inr ⟨by kernel_rfl, rfl⟩) hS ?_
        simp only [List.set]
        refine takeH (i := 36) (v := undef) rfl rfl (by kernel_rfl) (by kernel_rfl) (by kernel_rfl) (fun _ _ _ h => h) (Or.inr ⟨by kernel_rfl, rfl⟩) hS ?_
        simp only [List.set]
        refine takeH (i := 37) (v := undef) rfl rfl (by kernel_rfl) (by kernel_rfl) (by kernel_rfl) (fun _ _ _ h => h) (Or.inr ⟨by kernel_rfl, rfl⟩) hS ?_
        simp only [List.set]
        refine takeH (i := 38) (v := undef) rfl rfl (by kernel_rfl) (by kernel_rfl) (by kernel_rfl) (fun _ _ _ h => h) (Or.inr ⟨by kernel_rfl, rfl⟩) hS ?_
        simp only [List.set]
        refine takeH (i := 39) (v := undef) rfl rfl (by kernel_rfl) (by kernel_rfl) (by kernel_rfl) (fun _ _ _ h => h) (Or.inr ⟨by kernel_rfl, rfl⟩) hS ?_
        simp only [List.set]
        refine takeH (i := 40) (v := undef) rfl rfl (by kernel_rfl) (by kernel_rfl) (by kernel_rfl) (fun _ _ _ h => h) (Or.inr ⟨by kernel_rfl, rfl⟩) hS ?_
        simp only [List.set]
        refine takeH (i := 41) (v := undef) rfl rfl (by kernel_rfl) (by kernel_rfl) (by kernel_rfl) (fun _ _ _ h => h) (Or.inr ⟨by kernel_rfl, rfl⟩) hS ?_
        simp only [List.set]
        refine takeH (i := 42) (v := .bool true) rfl rfl (by kernel_rfl) (by kernel_rfl) (by kernel_rfl) (fun _ _ _ h => h) (Or.inl ⟨by rfl, ?_⟩) hS ?_
        · intro w hS'
          clear hS hS'
          go_simp
        simp only [List.set]
        refine wpAnyH_done (by kernel_rfl) ?_ _
        refine Meet.mk' HR4.out (by kernel_rfl) ?_
        exact ⟨hS, .inl ⟨rfl, .inl rfl⟩⟩
      | false =>
        refine takeH (i := 2) (v := .bool false) rfl rfl (by kernel_rfl) (by kernel_rfl) (by kernel_rfl) (fun _ _ _ h => h) (Or.inl ⟨by rfl, ?_⟩) hS ?_
        · intro w hS'
          clear hS hS'
          go_simp
        simp only [List.set]
        refine takeH (i := 3) (v := .pointer (some ⟨X, 0, none⟩)) rfl rfl (by kernel_rfl) (by kernel_rfl) (by kernel_rfl) (fun _ _ _ h => h) (Or.inl ⟨by rfl, ?_⟩) hS ?_
        · intro w hS'
          clear hS hS'
          go_simp
        simp only [List.set]
        refine takeH (i := 4) (v := .pointer (some ⟨X, 0, none⟩)) rfl rfl (by kernel_rfl) (by kernel_rfl) (by kernel_rfl) (fun _ _ _ h => h) (Or.inl ⟨by rfl, ?_⟩) hS ?_
        · intro w hS'
          have zf0 := (cell_obj (i := 0) (HXo.out _ hS') (v := .slice va ys.length vc) rfl)
          clear hS hS'
          go_simp
        simp only [List.set]
        refine takeH (i := 5) (v := .pointer (some ⟨X, 0, none⟩)) rfl rfl (by kernel_rfl) (by kernel_rfl) (by kernel_rfl) (fun _ _ _ h => h) (Or.inl ⟨by rfl, ?_⟩) hS ?_
        · intro w hS'
          clear hS hS'
          go_simp
        simp only [List.set]
        refine takeH (i := 6) (v := .slice va ys.length vc) rfl rfl (by kernel_rfl) (by kernel_rfl) (by kernel_rfl) (fun _ _ _ h => h) (Or.inl ⟨by rfl, ?_⟩) hS ?_
        · intro w hS'
          have zf0 := (cell_obj (i := 0) (HXo.out _ hS') (v := .slice va ys.length vc) rfl)
          clear hS hS'
          go_simp
        simp only [List.set]
        refine takeH (i := 8) (v := .pointer (some ⟨T, 0, none⟩)) rfl rfl (by kernel_rfl) (by kernel_rfl) (by kernel_rfl) (fun _ _ _ h => h) (Or.inl ⟨by rfl, ?_⟩) hS ?_
        · intro w hS'
          clear hS hS'
          go_simp
        simp only [List.set]
        refine takeH (i := 9) (v := .int .i64 g) rfl rfl (by kernel_rfl) (by kernel_rfl) (by kernel_rfl) (fun _ _ _ h => h) (Or.inl ⟨by rfl, ?_⟩) hS ?_
        · intro w hS'
          have zf0 := (cell_obj (i := 0) (HTo.out _ hS') (v := .int .i64 g) rfl)
          clear hS hS'
          go_simp
        simp only [List.set]
        refine wpAnyH_ready (rs := [7]) (by kernel_rfl) (by simp) (AllReadyH.cons rfl (fun K hK => ?_) AllReadyH.nil)
        go_simp
        refine (group_any ys _ _ (HVo.out _ hS).all (HG9.out rfl).2.1 (HPo.out _ hS)).mono ?_
        rintro e w13 ⟨rfl, hL13⟩
        have HS2 := hid (HS1.out.later hL13)
        refine hK.out _ _ (hS.more hL13) (fun hS => ?_)
        clear hK K hL13
        try simp only [List.getElem_toArray, List.getElem_cons_succ, List.getElem_cons_zero, Act.put, List.setIfInBounds_toArray, List.set]
        by_cases hg : (groupK ys : Int) = g
        · have HGK2 : Hid ((groupK (⟨ys, (ta, tb), tl⟩ : CellP).key : Int) = g) := hid hg
          refine takeH (i := 10) (v := .bool false) rfl rfl (by kernel_rfl) (by kernel_rfl) (by kernel_rfl) (fun _ _ _ h => h) (Or.inl ⟨by rfl, ?_⟩) hS ?_
          · intro w hS'
            clear hS hS'
            go_simp
          simp only [List.set]
          clear hg
          refine takeH (i := 11) (v := .bool false) rfl rfl (by kernel_rfl) (by kernel_rfl) (by kernel_rfl) (fun _ _ _ h => h) (Or.inl ⟨by rfl, ?_⟩) hS ?_
          · intro w hS'
            clear hS hS'
            go_simp
          simp only [List.set]
          refine takeH (i := 12) (v := .bool false) rfl rfl (by kernel_rfl) (by kernel_rfl) (by kernel_rfl) (fun _ _ _ h => h) (Or.inl ⟨by rfl, ?_⟩) hS ?_
          · intro w hS'
            clear hS hS'
            go_simp
          simp only [List.set]
          cases last with
          | none =>
            obtain rfl : lv = .pointer none := HLZ.out
            refine takeH (i := 13) (v := .pointer none) rfl rfl (by kernel_rfl) (by kernel_rfl) (by kernel_rfl) (fun _ _ _ h => h) (Or.inl ⟨by rfl, ?_⟩) hS ?_
            · intro w hS'
              clear hS hS'
              go_simp
            simp only [List.set]
            refine takeH (i := 14) (v := .bool false) rfl rfl (by kernel_rfl) (by kernel_rfl) (by kernel_rfl) (fun _ _ _ h => h) (Or.inl ⟨by rfl, ?_⟩) hS ?_
            · intro w hS'
              clear hS hS'
              go_simp
            simp only [List.set]
            refine takeH (i := 15) (v := .bool false) rfl rfl (by kernel_rfl) (by kernel_rfl) (by kernel_rfl) (fun _ _ _ h => h) (Or.inl ⟨by rfl, ?_⟩) hS ?_
            · intro w hS'
              clear hS hS'
              go_simp
            simp only [List.set]
            refine takeH (i := 16) (v := undef) rfl rfl (by kernel_rfl) (by kernel_rfl) (by kernel_rfl) (fun _ _ _ h => h) (Or.inr ⟨by kernel_rfl, rfl⟩) hS ?_
            simp only [List.set]
            refine takeH (i := 17) (v := undef) rfl rfl (by kernel_rfl) (by kernel_rfl) (by kernel_rfl) (fun _ _ _ h => h) (Or.inr ⟨by kernel_rfl, rfl⟩) hS ?_
            simp only [List.set]
            refine takeH (i := 18) (v := undef) rfl rfl (by kernel_rfl) (by kernel_rfl) (by kernel_rfl) (fun _ _ _ h => h) (Or.inr ⟨by kernel_rfl, rfl⟩) hS ?_
            simp only [List.set]
            refine takeH (i := 19) (v := undef) rfl rfl (by kernel_rfl) (by kernel_rfl) (by kernel_rfl) (fun _ _ _ h => h) (Or.inr ⟨by kernel_rfl, rfl⟩) hS ?_
            simp only [List.set]
            refine takeH (i := 20) (v := undef) rfl rfl (by kernel_rfl) (by kernel_rfl) (by kernel_rfl) (fun _ _ _ h => h) (Or.inr ⟨by kernel_rfl, rfl⟩) hS ?_
            simp only [List.set]
            refine takeH (i := 21) (v := undef) rfl rfl (by kernel_rfl) (by kernel_rfl) (by kernel_rfl) (fun _ _ _ h => h) (Or.inr ⟨by kernel_rfl, rfl⟩) hS ?_
            simp only [List.set]
            refine takeH (i := 22) (v := undef) rfl rfl (by kernel_rfl) (by kernel_rfl) (by kernel_rfl) (fun _ _ _ h => h) (Or.inr ⟨by kernel_rfl, rfl⟩) hS ?_
            simp only [List.set]
            refine takeH (i := 23) (v := undef) rfl rfl (by kernel_rfl) (by kernel_rfl) (by kernel_rfl) (fun _ _ _ h => h) (Or.inr ⟨by kernel_rfl, rfl⟩) hS ?_
            simp only [List.set]
            refine takeH (i := 24) (v := .bool false) rfl rfl (by kernel_rfl) (by kernel_rfl) (by kernel_rfl) (fun _ _ _ h => h) (Or.inl ⟨by rfl, ?_⟩) hS ?_
            · intro w hS'
              clear hS hS'
              go_simp
            simp only [List.set]
            refine takeH (i := 25) (v := .bool false) rfl rfl (by kernel_rfl) (by kernel_rfl) (by kernel_rfl) (fun _ _ _ h => h) (Or.inl ⟨by rfl, ?_⟩) hS ?_
            · intro w hS'
              clear hS hS'
              go_simp
            simp only [List.set]
            refine takeH (i := 26) (v := .bool false) rfl rfl (by kernel_rfl) (by kernel_rfl) (by kernel_rfl) (fun _ _ _ h => h) (Or.inl ⟨by rfl, ?_⟩) hS ?_
            · intro w hS'
              clear hS hS'
              go_simp
            simp only [List.set]
            refine takeH (i := 27) (v := .pointer (some ⟨S, 0, none⟩)) rfl rfl (by kernel_rfl) (by kernel_rfl) (by kernel_rfl) (fun _ _ _ h => h) (Or.inl ⟨by rfl, ?_⟩) hS ?_
            · intro w hS'
              clear hS hS'
              go_simp
            simp only [List.set]
            refine takeH (i := 28) (v := .pointer (some ⟨X, 0, none⟩)) rfl rfl (by kernel_rfl) (by kernel_rfl) (by kernel_rfl) (fun _ _ _ h => h) (Or.inl ⟨by rfl, ?_⟩) hS ?_
            · intro w hS'
              clear hS hS'
              go_simp
            simp only [List.set]
            refine takeH (i := 29) (v := .pointer (some ⟨X, 0, none⟩)) rfl rfl (by kernel_rfl) (by kernel_rfl) (by kernel_rfl) (fun _ _ _ h => h) (Or.inl ⟨by rfl, ?_⟩) hS ?_
            · intro w hS'
              have zf0 := (cell_obj (i := 0) (HXo.out _ hS') (v := .slice va ys.length vc) rfl)
              clear hS hS'
              go_simp
            simp only [List.set]
            refine takeH (i := 32) (v := .pointer (some ⟨X, 0, none⟩)) rfl rfl (by kernel_rfl) (by kernel_rfl) (by kernel_rfl) (fun _ _ _ h => h) (Or.inl ⟨by rfl, ?_⟩) hS ?_
            · intro w hS'
              clear hS hS'
              go_simp
            simp only [List.set]
            refine takeH (i := 33) (v := .pointer (some ⟨X, 0, none⟩)) rfl rfl (by kernel_rfl) (by kernel_rfl) (by kernel_rfl) (fun _ _ _ h => h) (Or.inl ⟨by rfl, ?_⟩) hS ?_
            · intro w hS'
              have zf0 := (cell_obj (i := 0) (HXo.out _ hS') (v := .slice va ys.length vc) rfl)
              clear hS hS'
              go_simp
            simp only [List.set]
            refine takeH (i := 36) (v := .pointer (some ⟨X, 0, none⟩)) rfl rfl (by kernel_rfl) (by kernel_rfl) (by kernel_rfl) (fun _ _ _ h => h) (Or.inl ⟨by rfl, ?_⟩) hS ?_
            · intro w hS'
              clear hS hS'
              go_simp
            simp only [List.set]
            refine takeH (i := 37) (v := .pointer (some ⟨X, 0, none⟩)) rfl rfl (by kernel_rfl) (by kernel_rfl) (by kernel_rfl) (fun _ _ _ h => h) (Or.inl ⟨by rfl, ?_⟩) hS ?_
            · intro w hS'
              have zf0 := (cell_obj (i := 0) (HXo.out _ hS') (v := .slice va ys.length vc) rfl)
              clear hS hS'
              go_simp
            simp only [List.set]
            refine takeH (i := 30) (v := .pointer (some ⟨X, 0, none⟩)) rfl rfl (by kernel_rfl) (by kernel_rfl) (by kernel_rfl) (fun _ _ _ h => h) (Or.inl ⟨by rfl, ?_⟩) hS ?_
            · intro w hS'
              clear hS hS'
              go_simp
            simp only [List.set]
            refine takeH (i := 31) (v := .slice va ys.length vc) rfl rfl (by kernel_rfl) (by kernel_rfl) (by kernel_rfl) (fun _ _ _ h => h) (Or.inl ⟨by rfl, ?_⟩) hS ?_
            · intro w hS'
              have zf0 := (cell_obj (i := 0) (HXo.out _ hS') (v := .slice va ys.length vc) rfl)
              clear hS hS'
              go_simp
            simp only [List.set]
            refine takeH (i := 34) (v := .pointer (some ⟨X, 1, none⟩)) rfl rfl (by kernel_rfl) (by kernel_rfl) (by kernel_rfl) (fun _ _ _ h => h) (Or.inl ⟨by rfl, ?_⟩) hS ?_
            · intro w hS'
              clear hS hS'
              go_simp
            simp only [List.set]
            refine takeH (i := 35) (v := .agg #[.int .i64 ta, .int .i64 tb]) rfl rfl (by kernel_rfl) (by kernel_rfl) (by kernel_rfl) (fun _ _ _ h => h) (Or.inl ⟨by rfl, ?_⟩) hS ?_
            · intro w hS'
              have zf0 := (cell_obj (i := 1) (HXo.out _ hS') (v := .int .i64 ta) rfl)
              have zf1 := (cell_obj (i := 2) (HXo.out _ hS') (v := .int .i64 tb) rfl)
              clear hS hS'
              go_simp
            simp only [List.set]
            refine takeH (i := 38) (v := .pointer (some ⟨X, 3, none⟩)) rfl rfl (by kernel_rfl) (by kernel_rfl) (by kernel_rfl) (fun _ _ _ h => h) (Or.inl ⟨by rfl, ?_⟩) hS ?_
            · intro w hS'
              clear hS hS'
              go_simp
            simp only [List.set]
            refine takeH (i := 39) (v := .slice (some ⟨Y, 0, none⟩) tl.length tc) rfl rfl (by kernel_rfl) (by kernel_rfl) (by kernel_rfl) (fun _ _ _ h => h) (Or.inl ⟨by rfl, ?_⟩) hS ?_
            · intro w hS'
              have zf0 := (cell_obj (i := 3) (HXo.out _ hS') (v := .slice (some ⟨Y, 0, none⟩) tl.length tc) rfl)
              clear hS hS'
              go_simp
            simp only [List.set]
            refine wpAnyH_ready (rs := [40]) (by kernel_rfl) (by simp) (AllReadyH.cons rfl (fun K hK => ?_) AllReadyH.nil)
            go_simp
            refine (put_any ⟨ys, (ta, tb), tl⟩ (.slice va ys.length vc) (.slice (some ⟨Y, 0, none⟩) tl.length tc) _ HS2.out (HVo.out _ hS).all (HBo.out _ hS).all (HG9.out rfl).2.1 (HPo.out _ hS) (by have := HTS.out; simp only; omega)).mono ?_
            rintro e w15 hp
            unfold PutWith at hp
            by_cases hpe : putErr lo hi Lx ⟨ys, (ta, tb), tl⟩ = 0
            · rw [if_pos hpe] at hp
              obtain ⟨rfl, hk15, hst15⟩ := hp
              have HQ := hid hst15
              have HPE := hid hpe
              have HZS := hid hS.size
              refine hK.out _ _ (hS.trans hk15) (fun hS => ?_)
              clear hK K hst15 hpe hk15
              try simp only [List.getElem_toArray, List.getElem_cons_succ, List.getElem_cons_zero, Act.put, List.setIfInBounds_toArray, List.set]
              refine takeH (i := 41) (v := .bool false) rfl rfl (by kernel_rfl) (by kernel_rfl) (by kernel_rfl) (fun _ _ _ h => h) (Or.inl ⟨by rfl, ?_⟩) hS ?_
              · intro w hS'
                clear hS hS'
                go_simp
              simp only [List.set]
              refine takeH (i := 42) (v := .bool false) rfl rfl (by kernel_rfl) (by kernel_rfl) (by kernel_rfl) (fun _ _ _ h => h) (Or.inl ⟨by rfl, ?_⟩) hS ?_
              · intro w hS'
                clear hS hS'
                go_simp
              simp only [List.set]
              refine wpAnyH_done (by kernel_rfl) ?_ _
              refine Meet.mk' HR4.out (by kernel_rfl) ?_
              refine ⟨hS, .inr ⟨rfl, rfl, by rw [HCC.out]; exact okC_yes HGK2.out (rfl) HPE.out, ?_⟩⟩
              rw [HCC.out]
              refine HQ.out (VX V w R) (fun b hb _ => by rw [HV1.out] at hb; exact hb.1) (fun b h1 _ => .inr ⟨by have := HKW.out.size; have := HZS.out; omega, by have := HZS.out; have := HRlt.out; omega⟩) (VX.away HH.out.vS HSL.out) (VX.away HH.out.vM HML.out)
            · rw [if_neg hpe] at hp
              obtain ⟨rfl, hL15⟩ := hp
              have HPE := hid hpe
              refine hK.out _ _ (hS.more hL15) (fun hS => ?_)
              clear hK K hpe hL15
              try simp only [List.getElem_toArray, List.getElem_cons_succ, List.getElem_cons_zero, Act.put, List.setIfInBounds_toArray, List.set]
              refine takeH (i := 41) (v := .bool true) rfl rfl (by kernel_rfl) (by kernel_rfl) (by kernel_rfl) (fun _ _ _ h => h) (Or.inl ⟨by rfl, ?_⟩) hS ?_
              · intro w hS'
                clear hS hS'
                go_simp
              simp only [List.set]
              refine takeH (i := 42) (v := .bool true) rfl rfl (by kernel_rfl) (by kernel_rfl) (by kernel_rfl) (fun _ _ _ h => h) (Or.inl ⟨by rfl, ?_⟩) hS ?_
              · intro w hS'
                clear hS hS'
                go_simp
              simp only [List.set]
              refine wpAnyH_done (by kernel_rfl) ?_ _
              refine Meet.mk' HR4.out (by kernel_rfl) ?_
              exact ⟨hS, .inl ⟨rfl, .inr ⟨rfl, by rw [HCC.out]; exact okC_put HPE.out⟩⟩⟩
          | some d =>
            obtain ⟨B, da, dk, db, dm, rfl, hB1, hB2, hB3, hB4, hB5⟩ := HLZ.out
            have HDo : Hid (∀ W, Keeps (fun b => b ≠ S ∧ b ≠ M) wz W → W.heap[B]? = some (.cells #[.slice da d.key.length dk, .int .i64 d.win.1, .int .i64 d.win.2, .slice db d.data.length dm] 57 (0, 0))) := hid fun W hW => hW.obj ⟨by have := HSL.out; omega, by have := HML.out; omega⟩ hB1
            have HDv : Hid (∀ W, Keeps (fun b => b ≠ S ∧ b ≠ M) wz W → CellV (fun b => w.heap.size ≤ b ∧ b ≠ R) W (.agg #[.slice da d.key.length dk, .int .i64 d.win.1, .int .i64 d.win.2, .slice db d.data.length dm]) d) := hid fun W hW => ⟨_, _, rfl, hB4.vals_kept hW fun b hb => ⟨by have := HSL.out; omega, by have := HML.out; omega⟩, hB5.bytes_kept hW fun b hb => ⟨by have := HSL.out; omega, by have := HML.out; omega⟩⟩
            clear hB1 hB2 hB3 hB4 hB5
            refine takeH (i := 13) (v := .pointer (some ⟨B, 0, none⟩)) rfl rfl (by kernel_rfl) (by kernel_rfl) (by kernel_rfl) (fun _ _ _ h => h) (Or.inl ⟨by rfl, ?_⟩) hS ?_
            · intro w hS'
              clear hS hS'
              go_simp
            simp only [List.set]
            refine takeH (i := 14) (v := .bool true) rfl rfl (by kernel_rfl) (by kernel_rfl) (by kernel_rfl) (fun _ _ _ h => h) (Or.inl ⟨by rfl, ?_⟩) hS ?_
            · intro w hS'
              clear hS hS'
              go_simp
            simp only [List.set]
            refine takeH (i := 15) (v := .bool true) rfl rfl (by kernel_rfl) (by kernel_rfl) (by kernel_rfl) (fun _ _ _ h => h) (Or.inl ⟨by rfl, ?_⟩) hS ?_
            · intro w hS'
              clear hS hS'
              go_simp
            simp only [List.set]
            refine takeH (i := 16) (v := .pointer (some ⟨B, 0, none⟩)) rfl rfl (by kernel_rfl) (by kernel_rfl) (by kernel_rfl) (fun _ _ _ h => h) (Or.inl ⟨by rfl, ?_⟩) hS ?_
            · intro w hS'
              clear hS hS'
              go_simp
            simp only [List.set]
            refine takeH (i := 17) (v := .pointer (some ⟨B, 0, none⟩)) rfl rfl (by kernel_rfl) (by kernel_rfl) (by kernel_rfl) (fun _ _ _ h => h) (Or.inl ⟨by rfl, ?_⟩) hS ?_
            · intro w hS'
              have zf0 := (cell_obj (i := 0) (HDo.out _ hS') (v := .slice da d.key.length dk) rfl)
              clear hS hS'
              go_simp
            simp only [List.set]
            refine takeH (i := 18) (v := .agg #[.slice da d.key.length dk, .int .i64 d.win.1, .int .i64 d.win.2, .slice db d.data.length dm]) rfl rfl (by kernel_rfl) (by kernel_rfl) (by kernel_rfl) (fun _ _ _ h => h) (Or.inl ⟨by rfl, ?_⟩) hS ?_
            · intro w hS'
              have zf0 := (cell_obj (i := 0) (HDo.out _ hS') (v := .slice da d.key.length dk) rfl)
              have zf1 := (cell_obj (i := 1) (HDo.out _ hS') (v := .int .i64 d.win.1) rfl)
              have zf2 := (cell_obj (i := 2) (HDo.out _ hS') (v := .int .i64 d.win.2) rfl)
              have zf3 := (cell_obj (i := 3) (HDo.out _ hS') (v := .slice db d.data.length dm) rfl)
              clear hS hS'
              go_simp
            simp only [List.set]
            refine takeH (i := 19) (v := .pointer (some ⟨X, 0, none⟩)) rfl rfl (by kernel_rfl) (by kernel_rfl) (by kernel_rfl) (fun _ _ _ h => h) (Or.inl ⟨by rfl, ?_⟩) hS ?_
            · intro w hS'
              clear hS hS'
              go_simp
            simp only [List.set]
            refine takeH (i := 20) (v := .pointer (some ⟨X, 0, none⟩)) rfl rfl (by kernel_rfl) (by kernel_rfl) (by kernel_rfl) (fun _ _ _ h => h) (Or.inl ⟨by rfl, ?_⟩) hS ?_
            · intro w hS'
              have zf0 := (cell_obj (i := 0) (HXo.out _ hS') (v := .slice va ys.length vc) rfl)
              clear hS hS'
              go_simp
            simp only [List.set]
            refine takeH (i := 21) (v := .agg #[.slice va ys.length vc, .int .i64 ta, .int .i64 tb, .slice (some ⟨Y, 0, none⟩) tl.length tc]) rfl rfl (by kernel_rfl) (by kernel_rfl) (by kernel_rfl) (fun _ _ _ h => h) (Or.inl ⟨by rfl, ?_⟩) hS ?_
            · intro w hS'
              have zf0 := (cell_obj (i := 0) (HXo.out _ hS') (v := .slice va ys.length vc) rfl)
              have zf1 := (cell_obj (i := 1) (HXo.out _ hS') (v := .int .i64 ta) rfl)
              have zf2 := (cell_obj (i := 2) (HXo.out _ hS') (v := .int .i64 tb) rfl)
              have zf3 := (cell_obj (i := 3) (HXo.out _ hS') (v := .slice (some ⟨Y, 0, none⟩) tl.length tc) rfl)
              clear hS hS'
              go_simp
            simp only [List.set]
            refine wpAnyH_ready (rs := [22]) (by kernel_rfl) (by simp) (AllReadyH.cons rfl (fun K hK => ?_) AllReadyH.nil)
            go_simp
            refine (scompare_anyD (V := fun b => w.heap.size ≤ b ∧ b ≠ R) (V' := fun b => X < b) d ⟨ys, (ta, tb), tl⟩ _ _ _ (HDv.out _ hS) ⟨_, _, rfl, HVo.out _ hS, HBo.out _ hS⟩).mono ?_
            rintro e w14 ⟨rfl, hL14⟩
            have HS3 := hid (HS2.out.later hL14.1)
            refine hK.out _ _ (hS.more hL14.1) (fun hS => ?_)
            clear hK K hL14
            try simp only [List.getElem_toArray, List.getElem_cons_succ, List.getElem_cons_zero, Act.put, List.setIfInBounds_toArray, List.set]
            by_cases hcmp : (0 : Int) ≤ cmpC d ⟨ys, (ta, tb), tl⟩
            · have HCMP := hid hcmp
              refine takeH (i := 23) (v := .bool true) rfl rfl (by kernel_rfl) (by kernel_rfl) (by kernel_rfl) (fun _ _ _ h => h) (Or.inl ⟨by rfl, ?_⟩) hS ?_
              · intro w hS'
                clear hS hS'
                go_simp
              simp only [List.set]
              clear hcmp
              refine takeH (i := 24) (v := .bool true) rfl rfl (by kernel_rfl) (by kernel_rfl) (by kernel_rfl) (fun _ _ _ h => h) (Or.inl ⟨by rfl, ?_⟩) hS ?_
              · intro w hS'
                clear hS hS'
                go_simp
              simp only [List.set]
              refine takeH (i := 25) (v := .bool true) rfl rfl (by kernel_rfl) (by kernel_rfl) (by kernel_rfl) (fun _ _ _ h => h) (Or.inl ⟨by rfl, ?_⟩) hS ?_
              · intro w hS'
                clear hS hS'
                go_simp
              simp only [List.set]
              refine takeH (i := 26) (v := .bool true) rfl rfl (by kernel_rfl) (by kernel_rfl) (by kernel_rfl) (fun _ _ _ h => h) (Or.inl ⟨by rfl, ?_⟩) hS ?_
              · intro w hS'
                clear hS hS'
                go_simp
              simp only [List.set]
              refine takeH (i := 27) (v := undef) rfl rfl (by kernel_rfl) (by kernel_rfl) (by kernel_rfl) (fun _ _ _ h => h) (Or.inr ⟨by kernel_rfl, rfl⟩) hS ?_
              simp only [List.set]
              refine takeH (i := 28) (v := undef) rfl rfl (by kernel_rfl) (by kernel_rfl) (by kernel_rfl) (fun _ _ _ h => h) (Or.inr ⟨by kernel_rfl, rfl⟩) hS ?_
              simp only [List.set]
              refine takeH (i := 29) (v := undef) rfl rfl (by kernel_rfl) (by kernel_rfl) (by kernel_rfl) (fun _ _ _ h => h) (Or.inr ⟨by kernel_rfl, rfl⟩) hS ?_
              simp only [List.set]
              refine takeH (i := 30) (v := undef) rfl rfl (by kernel_rfl) (by kernel_rfl) (by kernel_rfl) (fun _ _ _ h => h) (Or.inr ⟨by kernel_rfl, rfl⟩) hS ?_
              simp only [List.set]
              refine takeH (i := 31) (v := undef) rfl rfl (by kernel_rfl) (by kernel_rfl) (by kernel_rfl) (fun _ _ _ h => h) (Or.inr ⟨by kernel_rfl, rfl⟩) hS ?_
              simp only [List.set]
              refine takeH (i := 32) (v := undef) rfl rfl (by kernel_rfl) (by kernel_rfl) (by kernel_rfl) (fun _ _ _ h => h) (Or.inr ⟨by kernel_rfl, rfl⟩) hS ?_
              simp only [List.set]
              refine takeH (i := 33) (v := undef) rfl rfl (by kernel_rfl) (by kernel_rfl) (by kernel_rfl) (fun _ _ _ h => h) (Or.inr ⟨by kernel_rfl, rfl⟩) hS ?_
              simp only [List.set]
              refine takeH (i := 34) (v := undef) rfl rfl (by kernel_rfl) (by kernel_rfl) (by kernel_rfl) (fun _ _ _ h => h) (Or.inr ⟨by kernel_rfl, rfl⟩) hS ?_
              simp only [List.set]
              refine takeH (i := 35) (v := undef) rfl rfl (by kernel_rfl) (by kernel_rfl) (by kernel_rfl) (fun _ _ _ h => h) (Or.inr ⟨by kernel_rfl, rfl⟩) hS ?_
              simp only [List.set]
              refine takeH (i := 36) (v := undef) rfl rfl (by kernel_rfl) (by kernel_rfl) (by kernel_rfl) (fun _ _ _ h => h) (Or.inr ⟨by kernel_rfl, rfl⟩) hS ?_
              simp only [List.set]
              refine takeH (i := 37) (v := undef) rfl rfl (by kernel_rfl) (by kernel_rfl) (by kernel_rfl) (fun _ _ _ h => h) (Or.inr ⟨by kernel_rfl, rfl⟩) hS ?_
              simp only [List.set]
              refine takeH (i := 38) (v := undef) rfl rfl (by kernel_rfl) (by kernel_rfl) (by kernel_rfl) (fun _ _ _ h => h) (Or.inr ⟨by kernel_rfl, rfl⟩) hS ?_
              simp only [List.set]
              refine takeH (i := 39) (v := undef) rfl rfl (by kernel_rfl) (by kernel_rfl) (by kernel_rfl) (fun _ _ _ h => h) (Or.inr ⟨by kernel_rfl, rfl⟩) hS ?_
              simp only [List.set]
              refine takeH (i := 40) (v := undef) rfl rfl (by kernel_rfl) (by kernel_rfl) (by kernel_rfl) (fun _ _ _ h => h) (Or.inr ⟨by kernel_rfl, rfl⟩) hS ?_
              simp only [List.set]
              refine takeH (i := 41) (v := undef) rfl rfl (by kernel_rfl) (by kernel_rfl) (by kernel_rfl) (fun _ _ _ h => h) (Or.inr ⟨by kernel_rfl, rfl⟩) hS ?_
              simp only [List.set]
              refine takeH (i := 42) (v := .bool true) rfl rfl (by kernel_rfl) (by kernel_rfl) (by kernel_rfl) (fun _ _ _ h => h) (Or.inl ⟨by rfl, ?_⟩) hS ?_
              · intro w hS'
                clear hS hS'
                go_simp
              simp only [List.set]
              refine wpAnyH_done (by kernel_rfl) ?_ _
              refine Meet.mk' HR4.out (by kernel_rfl) ?_
              exact ⟨hS, .inl ⟨rfl, .inr ⟨rfl, by rw [HCC.out]; exact okC_after (by have := HCMP.out; simp only [afterC, decide_eq_false_iff_not]; omega)⟩⟩⟩
            · have HCMP : Hid (cmpC d ⟨ys, (ta, tb), tl⟩ < 0) := hid (by omega)
              refine takeH (i := 23) (v := .bool false) rfl rfl (by kernel_rfl) (by kernel_rfl) (by kernel_rfl) (fun _ _ _ h => h) (Or.inl ⟨by rfl, ?_⟩) hS ?_
              · intro w hS'
                clear hS hS'
                go_simp
              simp only [List.set]
              clear hcmp
              refine takeH (i := 24) (v := .bool false) rfl rfl (by kernel_rfl) (by kernel_rfl) (by kernel_rfl) (fun _ _ _ h => h) (Or.inl ⟨by rfl, ?_⟩) hS ?_
              · intro w hS'
                clear hS hS'
                go_simp
              simp only [List.set]
              refine takeH (i := 25) (v := .bool false) rfl rfl (by kernel_rfl) (by kernel_rfl) (by kernel_rfl) (fun _ _ _ h => h) (Or.inl ⟨by rfl, ?_⟩) hS ?_
              · intro w hS'
                clear hS hS'
                go_simp
              simp only [List.set]
              refine takeH (i := 26) (v := .bool false) rfl rfl (by kernel_rfl) (by kernel_rfl) (by kernel_rfl) (fun _ _ _ h => h) (Or.inl ⟨by rfl, ?_⟩) hS ?_
              · intro w hS'
                clear hS hS'
                go_simp
              simp only [List.set]
              refine takeH (i := 27) (v := .pointer (some ⟨S, 0, none⟩)) rfl rfl (by kernel_rfl) (by kernel_rfl) (by kernel_rfl) (fun _ _ _ h => h) (Or.inl ⟨by rfl, ?_⟩) hS ?_
              · intro w hS'
                clear hS hS'
                go_simp
              simp only [List.set]
              refine takeH (i := 28) (v := .pointer (some ⟨X, 0, none⟩)) rfl rfl (by kernel_rfl) (by kernel_rfl) (by kernel_rfl) (fun _ _ _ h => h) (Or.inl ⟨by rfl, ?_⟩) hS ?_
              · intro w hS'
                clear hS hS'
                go_simp
              simp only [List.set]
              refine takeH (i := 29) (v := .pointer (some ⟨X, 0, none⟩)) rfl rfl (by kernel_rfl) (by kernel_rfl) (by kernel_rfl) (fun _ _ _ h => h) (Or.inl ⟨by rfl, ?_⟩) hS ?_
              · intro w hS'
                have zf0 := (cell_obj (i := 0) (HXo.out _ hS') (v := .slice va ys.length vc) rfl)
                clear hS hS'
                go_simp
              simp only [List.set]
              refine takeH (i := 32) (v := .pointer (some ⟨X, 0, none⟩)) rfl rfl (by kernel_rfl) (by kernel_rfl) (by kernel_rfl) (fun _ _ _ h => h) (Or.inl ⟨by rfl, ?_⟩) hS ?_
              · intro w hS'
                clear hS hS'
                go_simp
              simp only [List.set]
              refine takeH (i := 33) (v := .pointer (some ⟨X, 0, none⟩)) rfl rfl (by kernel_rfl) (by kernel_rfl) (by kernel_rfl) (fun _ _ _ h => h) (Or.inl ⟨by rfl, ?_⟩) hS ?_
              · intro w hS'
                have zf0 := (cell_obj (i := 0) (HXo.out _ hS') (v := .slice va ys.length vc) rfl)
                clear hS hS'
                go_simp
              simp only [List.set]
              refine takeH (i := 36) (v := .pointer (some ⟨X, 0, none⟩)) rfl rfl (by kernel_rfl) (by kernel_rfl) (by kernel_rfl) (fun _ _ _ h => h) (Or.inl ⟨by rfl, ?_⟩) hS ?_
              · intro w hS'
                clear hS hS'
                go_simp
              simp only [List.set]
              refine takeH (i := 37) (v := .pointer (some ⟨X, 0, none⟩)) rfl rfl (by kernel_rfl) (by kernel_rfl) (by kernel_rfl) (fun _ _ _ h => h) (Or.inl ⟨by rfl, ?_⟩) hS ?_
              · intro w hS'
                have zf0 := (cell_obj (i := 0) (HXo.out _ hS') (v := .slice va ys.length vc) rfl)
                clear hS hS'
                go_simp
              simp only [List.set]
              refine takeH (i := 30) (v := .pointer (some ⟨X, 0, none⟩)) rfl rfl (by kernel_rfl) (by kernel_rfl) (by kernel_rfl) (fun _ _ _ h => h) (Or.inl ⟨by rfl, ?_⟩) hS ?_
              · intro w hS'
                clear hS hS'
                go_simp
              simp only [List.set]
              refine takeH (i := 31) (v := .slice va ys.length vc) rfl rfl (by kernel_rfl) (by kernel_rfl) (by kernel_rfl) (fun _ _ _ h => h) (Or.inl ⟨by rfl, ?_⟩) hS ?_
              · intro w hS'
                have zf0 := (cell_obj (i := 0) (HXo.out _ hS') (v := .slice va ys.length vc) rfl)
                clear hS hS'
                go_simp
              simp only [List.set]
              refine takeH (i := 34) (v := .pointer (some ⟨X, 1, none⟩)) rfl rfl (by kernel_rfl) (by kernel_rfl) (by kernel_rfl) (fun _ _ _ h => h) (Or.inl ⟨by rfl, ?_⟩) hS ?_
              · intro w hS'
                clear hS hS'
                go_simp
              simp only [List.set]
              refine takeH (i := 35) (v := .agg #[.int .i64 ta, .int .i64 tb]) rfl rfl (by kernel_rfl) (by kernel_rfl) (by kernel_rfl) (fun _ _ _ h => h) (Or.inl ⟨by rfl, ?_⟩) hS ?_
              · intro w hS'
                have zf0 := (cell_obj (i := 1) (HXo.out _ hS') (v := .int .i64 ta) rfl)
                have zf1 := (cell_obj (i := 2) (HXo.out _ hS') (v := .int .i64 tb) rfl)
                clear hS hS'
                go_simp
              simp only [List.set]
              refine takeH (i := 38) (v := .pointer (some ⟨X, 3, none⟩)) rfl rfl (by kernel_rfl) (by kernel_rfl) (by kernel_rfl) (fun _ _ _ h => h) (Or.inl ⟨by rfl, ?_⟩) hS ?_
              · intro w hS'
                clear hS hS'
                go_simp
              simp only [List.set]
              refine takeH (i := 39) (v := .slice (some ⟨Y, 0, none⟩) tl.length tc) rfl rfl (by kernel_rfl) (by kernel_rfl) (by kernel_rfl) (fun _ _ _ h => h) (Or.inl ⟨by rfl, ?_⟩) hS ?_
              · intro w hS'
                have zf0 := (cell_obj (i := 3) (HXo.out _ hS') (v := .slice (some ⟨Y, 0, none⟩) tl.length tc) rfl)
                clear hS hS'
                go_simp
              simp only [List.set]
              refine wpAnyH_ready (rs := [40]) (by kernel_rfl) (by simp) (AllReadyH.cons rfl (fun K hK => ?_) AllReadyH.nil)
              go_simp
              refine (put_any ⟨ys, (ta, tb), tl⟩ (.slice va ys.length vc) (.slice (some ⟨Y, 0, none⟩) tl.length tc) _ HS3.out (HVo.out _ hS).all (HBo.out _ hS).all (HG9.out rfl).2.1 (HPo.out _ hS) (by have := HTS.out; simp only; omega)).mono ?_
              rintro e w15 hp
              unfold PutWith at hp
              by_cases hpe : putErr lo hi Lx ⟨ys, (ta, tb), tl⟩ = 0
              · rw [if_pos hpe] at hp
                obtain ⟨rfl, hk15, hst15⟩ := hp
                have HQ := hid hst15
                have HPE := hid hpe
                have HZS := hid hS.size
                refine hK.out _ _ (hS.trans hk15) (fun hS => ?_)
                clear hK K hst15 hpe hk15
                try simp only [List.getElem_toArray, List.getElem_cons_succ, List.getElem_cons_zero, Act.put, List.setIfInBounds_toArray, List.set]
                refine takeH (i := 41) (v := .bool false) rfl rfl (by kernel_rfl) (by kernel_rfl) (by kernel_rfl) (fun _ _ _ h => h) (Or.inl ⟨by rfl, ?_⟩) hS ?_
                · intro w hS'
                  clear hS hS'
                  go_simp
                simp only [List.set]
                refine takeH (i := 42) (v := .bool false) rfl rfl (by kernel_rfl) (by kernel_rfl) (by kernel_rfl) (fun _ _ _ h => h) (Or.inl ⟨by rfl, ?_⟩) hS ?_
                · intro w hS'
                  clear hS hS'
                  go_simp
                simp only [List.set]
                refine wpAnyH_done (by kernel_rfl) ?_ _
                refine Meet.mk' HR4.out (by kernel_rfl) ?_
                refine ⟨hS, .inr ⟨rfl, rfl, by rw [HCC.out]; exact okC_yes HGK2.out (by simpa [afterC] using HCMP.out) HPE.out, ?_⟩⟩
                rw [HCC.out]
                refine HQ.out (VX V w R) (fun b hb _ => by rw [HV1.out] at hb; exact hb.1) (fun b h1 _ => .inr ⟨by have := HKW.out.size; have := HZS.out; omega, by have := HZS.out; have := HRlt.out; omega⟩) (VX.away HH.out.vS HSL.out) (VX.away HH.out.vM HML.out)
              · rw [if_neg hpe] at hp
                obtain ⟨rfl, hL15⟩ := hp
                have HPE := hid hpe
                refine hK.out _ _ (hS.more hL15) (fun hS => ?_)
                clear hK K hpe hL15
                try simp only [List.getElem_toArray, List.getElem_cons_succ, List.getElem_cons_zero, Act.put, List.setIfInBounds_toArray, List.set]
                refine takeH (i := 41) (v := .bool true) rfl rfl (by kernel_rfl) (by kernel_rfl) (by kernel_rfl) (fun _ _ _ h => h) (Or.inl ⟨by rfl, ?_⟩) hS ?_
                · intro w hS'
                  clear hS hS'
                  go_simp
                simp only [List.set]
                refine takeH (i := 42) (v := .bool true) rfl rfl (by kernel_rfl) (by kernel_rfl) (by kernel_rfl) (fun _ _ _ h => h) (Or.inl ⟨by rfl, ?_⟩) hS ?_
                · intro w hS'
                  clear hS hS'
                  go_simp
                simp only [List.set]
                refine wpAnyH_done (by kernel_rfl) ?_ _
                refine Meet.mk' HR4.out (by kernel_rfl) ?_
                exact ⟨hS, .inl ⟨rfl, .inr ⟨rfl, by rw [HCC.out]; exact okC_put HPE.out⟩⟩⟩
        · have HGK2 := hid hg
          refine takeH (i := 10) (v := .bool true) rfl rfl (by kernel_rfl) (by kernel_rfl) (by kernel_rfl) (fun _ _ _ h => h) (Or.inl ⟨by rfl, ?_⟩) hS ?_
          · intro w hS'
            clear hS hS'
            go_simp
          simp only [List.set]
          clear hg
          refine takeH (i := 11) (v := .bool true) rfl rfl (by kernel_rfl) (by kernel_rfl) (by kernel_rfl) (fun _ _ _ h => h) (Or.inl ⟨by rfl, ?_⟩) hS ?_
          · intro w hS'
            clear hS hS'
            go_simp
          simp only [List.set]
          refine takeH (i := 12) (v := .bool true) rfl rfl (by kernel_rfl) (by kernel_rfl) (by kernel_rfl) (fun _ _ _ h => h) (Or.inl ⟨by rfl, ?_⟩) hS ?_
          · intro w hS'
            clear hS hS'
            go_simp
          simp only [List.set]
          refine takeH (i := 13) (v := undef) rfl rfl (by kernel_rfl) (by kernel_rfl) (by kernel_rfl) (fun _ _ _ h => h) (Or.inr ⟨by kernel_rfl, rfl⟩) hS ?_
          simp only [List.set]
          refine takeH (i := 14) (v := undef) rfl rfl (by kernel_rfl) (by kernel_rfl) (by kernel_rfl) (fun _ _ _ h => h) (Or.inr ⟨by kernel_rfl, rfl⟩) hS ?_
          simp only [List.set]
          refine takeH (i := 15) (v := undef) rfl rfl (by kernel_rfl) (by kernel_rfl) (by kernel_rfl) (fun _ _ _ h => h) (Or.inr ⟨by kernel_rfl, rfl⟩) hS ?_
          simp only [List.set]
          refine takeH (i := 16) (v := undef) rfl rfl (by kernel_rfl) (by kernel_rfl) (by kernel_rfl) (fun _ _ _ h => h) (Or.inr ⟨by kernel_rfl, rfl⟩) hS ?_
          simp only [List.set]
          refine takeH (i := 17) (v := undef) rfl rfl (by kernel_rfl) (by kernel_rfl) (by kernel_rfl) (fun _ _ _ h => h) (Or.inr ⟨by kernel_rfl, rfl⟩) hS ?_
          simp only [List.set]
          refine takeH (i := 18) (v := undef) rfl rfl (by kernel_rfl) (by kernel_rfl) (by kernel_rfl) (fun _ _ _ h => h) (Or.inr ⟨by kernel_rfl, rfl⟩) hS ?_
          simp only [List.set]
          refine takeH (i := 19) (v := undef) rfl rfl (by kernel_rfl) (by kernel_rfl) (by kernel_rfl) (fun _ _ _ h => h) (Or.inr ⟨by kernel_rfl, rfl⟩) hS ?_
          simp only [List.set]
          refine takeH (i := 20) (v := undef) rfl rfl (by kernel_rfl) (by kernel_rfl) (by kernel_rfl) (fun _ _ _ h => h) (Or.inr ⟨by kernel_rfl, rfl⟩) hS ?_
          simp only [List.set]
          refine takeH (i := 21) (v := undef) rfl rfl (by kernel_rfl) (by kernel_rfl) (by kernel_rfl) (fun _ _ _ h => h) (Or.inr ⟨by kernel_rfl, rfl⟩) hS ?_
          simp only [List.set]
          refine takeH (i := 22) (v := undef) rfl rfl (by kernel_rfl) (by kernel_rfl) (by kernel_rfl) (fun _ _ _ h => h) (Or.inr ⟨by kernel_rfl, rfl⟩) hS ?_
          simp only [List.set]
          refine takeH (i := 23) (v := undef) rfl rfl (by kernel_rfl) (by kernel_rfl) (by kernel_rfl) (fun _ _ _ h => h) (Or.inr ⟨by kernel_rfl, rfl⟩) hS ?_
          simp only [List.set]
          refine takeH (i := 24) (v := undef) rfl rfl (by kernel_rfl) (by kernel_rfl) (by kernel_rfl) (fun _ _ _ h => h) (Or.inr ⟨by kernel_rfl, rfl⟩) hS ?_
          simp only [List.set]
          refine takeH (i := 25) (v := .bool true) rfl rfl (by kernel_rfl) (by kernel_rfl) (by kernel_rfl) (fun _ _ _ h => h) (Or.inl ⟨by rfl, ?_⟩) hS ?_
          · intro w hS'
            clear hS hS'
            go_simp
          simp only [List.set]
          refine takeH (i := 26) (v := .bool true) rfl rfl (by kernel_rfl) (by kernel_rfl) (by kernel_rfl) (fun _ _ _ h => h) (Or.inl ⟨by rfl, ?_⟩) hS ?_
          · intro w hS'
            clear hS hS'
            go_simp
          simp only [List.set]
          refine takeH (i := 27) (v := undef) rfl rfl (by kernel_rfl) (by kernel_rfl) (by kernel_rfl) (fun _ _ _ h => h) (Or.inr ⟨by kernel_rfl, rfl⟩) hS ?_
          simp only [List.set]
          refine takeH (i := 28) (v := undef) rfl rfl (by kernel_rfl) (by kernel_rfl) (by kernel_rfl) (fun _ _ _ h => h) (Or.inr ⟨by kernel_rfl, rfl⟩) hS ?_
          simp only [List.set]
          refine takeH (i := 29) (v := undef) rfl rfl (by kernel_rfl) (by kernel_rfl) (by kernel_rfl) (fun _ _ _ h => h) (Or.inr ⟨by kernel_rfl, rfl⟩) hS ?_
          simp only [List.set]
          refine takeH (i := 30) (v := undef) rfl rfl (by kernel_rfl) (by kernel_rfl) (by kernel_rfl) (fun _ _ _ h => h) (Or.inr ⟨by kernel_rfl, rfl⟩) hS ?_
          simp only [List.set]
          refine takeH (i := 31) (v := undef) rfl rfl (by kernel_rfl) (by kernel_rfl) (by kernel_rfl) (fun _ _ _ h => h) (Or.inr ⟨by kernel_rfl, rfl⟩) hS ?_
          simp only [List.set]
          refine takeH (i := 32) (v := undef) rfl rfl (by kernel_rfl) (by kernel_rfl) (by kernel_rfl) (fun _ _ _ h => h) (Or.inr ⟨by kernel_rfl, rfl⟩) hS ?_
          simp only [List.set]
          refine takeH (i := 33) (v := undef) rfl rfl (by kernel_rfl) (by kernel_rfl) (by kernel_rfl) (fun _ _ _ h => h) (Or.inr ⟨by kernel_rfl, rfl⟩) hS ?_
          simp only [List.set]
          refine takeH (i := 34) (v := undef) rfl rfl (by kernel_rfl) (by kernel_rfl) (by kernel_rfl) (fun _ _ _ h => h) (Or.inr ⟨by kernel_rfl, rfl⟩) hS ?_
          simp only [List.set]
          refine takeH (i := 35) (v := undef) rfl rfl (by kernel_rfl) (by kernel_rfl) (by kernel_rfl) (fun _ _ _ h => h) (Or.inr ⟨by kernel_rfl, rfl⟩) hS ?_
          simp only [List.set]
          refine takeH (i := 36) (v := undef) rfl rfl (by kernel_rfl) (by kernel_rfl) (by kernel_rfl) (fun _ _ _ h => h) (Or.inr ⟨by kernel_rfl, rfl⟩) hS ?_
          simp only [List.set]
          refine takeH (i := 37) (v := undef) rfl rfl (by kernel_rfl) (by kernel_rfl) (by kernel_rfl) (fun _ _ _ h => h) (Or.inr ⟨by kernel_rfl, rfl⟩) hS ?_
          simp only [List.set]
          refine takeH (i := 38) (v := undef) rfl rfl (by kernel_rfl) (by kernel_rfl) (by kernel_rfl) (fun _ _ _ h => h) (Or.inr ⟨by kernel_rfl, rfl⟩) hS ?_
          simp only [List.set]
          refine takeH (i := 39) (v := undef) rfl rfl (by kernel_rfl) (by kernel_rfl) (by kernel_rfl) (fun _ _ _ h => h) (Or.inr ⟨by kernel_rfl, rfl⟩) hS ?_
          simp only [List.set]
          refine takeH (i := 40) (v := undef) rfl rfl (by kernel_rfl) (by kernel_rfl) (by kernel_rfl) (fun _ _ _ h => h) (Or.inr ⟨by kernel_rfl, rfl⟩) hS ?_
          simp only [List.set]
          refine takeH (i := 41) (v := undef) rfl rfl (by kernel_rfl) (by kernel_rfl) (by kernel_rfl) (fun _ _ _ h => h) (Or.inr ⟨by kernel_rfl, rfl⟩) hS ?_
          simp only [List.set]
          refine takeH (i := 42) (v := .bool true) rfl rfl (by kernel_rfl) (by kernel_rfl) (by kernel_rfl) (fun _ _ _ h => h) (Or.inl ⟨by rfl, ?_⟩) hS ?_
          · intro w hS'
            clear hS hS'
            go_simp
          simp only [List.set]
          refine wpAnyH_done (by kernel_rfl) ?_ _
          refine Meet.mk' HR4.out (by kernel_rfl) ?_
          exact ⟨hS, .inl ⟨rfl, .inr ⟨rfl, by rw [HCC.out]; exact okC_group HGK2.out⟩⟩⟩
    intro us4 wd hrel
    obtain ⟨hk, hor⟩ := hrel
    simp only [frameOf, Nat.reduceAdd]
    have HKD := hid hk
    clear hk
    rcases hor with ⟨h116, hbad⟩ | ⟨h116, hb8, hok, hst⟩
    · rw [h116]
      clear h116
      have HN7 : Hid (readP lo hi g L body = none) := hid (readP_none HD.out HGO.out HJN'.out fun m => by
        rcases hbad with h | ⟨h, h2⟩
        · exact readN_none (HB9.out h)
        · exact readN_bad (HG9.out h).1 h2)
      clear hbad
      go_wp2_with fail
      go_ret
      exact readTo_err (readE_none HE0.out (by rw [← HBODY.out]; exact HN7.out)) (by decide) ⟨rfl, HKW.out.trans HKD.out⟩
    · rw [h116]
      have HST2 := hid hst
      have HOK := hid hok
      have HB8 := hid hb8
      clear h116 hb8 hok hst
      have HRD : Hid (RdB wd R false r8) := hid (by have := HRo.out wd HKD.out; rw [HB8.out] at this; exact this)
      have HLD : Hid (LastAt w wd R (.pointer (some ⟨X, 0, none⟩)) (some cc)) := hid (by
        rw [HCC.out]
        exact ⟨X, va, vc, _, tc, rfl, HXo.out wd HKD.out, HXW.out, Nat.ne_of_gt HRX.out, (HVo.out wd HKD.out).vals_mono fun b hb => ⟨by have := HXW.out; omega, by have := HRX.out; omega⟩, (HBo.out wd HKD.out).bytes_mono fun b hb => ⟨by have := HXW.out; omega, by have := HRX.out; omega⟩⟩)
      have HSD : Hid (RdSt V w wd S M R T lo hi g (.slice pa l.length pc) (insC cc Lx) (some cc) (.pointer (some ⟨X, 0, none⟩)) r8) := hid ⟨HST2.out, HRD.out, HTo.out wd HKD.out, HLD.out, HKW.out.trans HKD.out, HPo.out wd HKD.out, HRW.out, HT0.out, HTR.out⟩
      have HGN : Hid (∀ m, readN lo hi g (j + 1 + m) L none r0 = readN lo hi g m (insC cc Lx) (some cc) r8) := hid fun m => by
        rw [show j + 1 + m = j + (m + 1) by omega, HGO.out, readN_ok (HG9.out HB8.out).1 HOK.out]
      have HLN : Hid (r8.length + (j + 1) ≤ r0.length) := hid (by have := HLEN.out; have := (HG9.out HB8.out).2.2; omega)
      go_wp2_with fail
      refine Round.mk' HR1.out Hmu1.out rfl ?_ ?_
      · exact ⟨wrap64 (c - 1), j + 1, insC cc Lx, some cc, _, r8, rfl, rfl, count_next HC.out, HSD.out, fun h => by have := HJN'.out h; omega, HLN.out, HGN.out⟩
      · rw [Hh10.out]; exact count_less (count_in HC.out).1 (count_in HC.out).2 hc0
end Go.Proofs.YtgcnchmnciihnaaGreatDoor
