/-
  PROVED HERE: the contract of disk.Unpack over the bytes of a checkpoint.
-/
import Derived.Test.YthfgjmdmcoogpaaDoorDiskRead
namespace Go.Proofs.YthfgjmdmcoogpaaDoor
set_option linter.unusedSimpArgs false
set_option linter.unusedVariables false
open Go.RowKit

theorem infoOff : (Tryd.prog.info? 154).map (fun i => (i.zero, i.size, i.bytes)) = some (some (.agg #[.int .i64 0, .int .i64 0, .int .i64 0]), 3, 24) := by kernel_rfl
theorem infoOf : ElemInfo Tryd.prog 154 3 24 := ElemInfo.of infoOff rfl (by decide)
theorem infoHeld : (Tryd.prog.info? 158).map (fun i => (i.zero, i.size, i.bytes)) = some (some (.agg #[.int .i64 0, .int .i64 0, .slice none 0 0]), 3, 40) := by kernel_rfl
theorem infoHe : ElemInfo Tryd.prog 158 3 40 := ElemInfo.of infoHeld rfl (by decide)
theorem off_one (a b c : Int) : ∀ u ∈ [Value.int .i64 a, .int .i64 b, .int .i64 c], u.oneCell' = true := by
  intro u hu
  simp only [List.mem_cons, List.not_mem_nil, or_false] at hu
  rcases hu with rfl | rfl | rfl <;> rfl
theorem held_one (a b : Int) (v : Value) (h : v.oneCell' = true) : ∀ u ∈ [Value.int .i64 a, .int .i64 b, v], u.oneCell' = true := by
  intro u hu
  simp only [List.mem_cons, List.not_mem_nil, or_false] at hu
  rcases hu with rfl | rfl | rfl
  · rfl
  · rfl
  · exact h
/-- cells that are no bytes. -/
def NoU8 (c : Array Value) : Prop := ∀ (i : Nat) (n : Int), c[i]? ≠ some (Value.int .u8 n)
theorem no_u8 (m : Int) (v1 v2 : Value) (h1 : ∀ n, v1 ≠ .int .u8 n := by intro n h; cases h) (h2 : ∀ n, v2 ≠ .int .u8 n := by intro n h; cases h) : NoU8 #[.int .i64 m, v1, v2] := by
  intro i n h
  rcases i with _ | _ | _ | i
  · simp at h
  · simp at h; exact h1 _ h
  · simp at h; exact h2 _ h
  · simp at h
/-- a block that holds no bytes is written: the reader stays. -/
theorem rdb_set {w : World} {R T : Nat} {bad : Bool} {l : List UInt8} {c : Array Value} {ty : TypeId} {f : Nat × Nat} (h : RdB w R bad l) (hT : w.heap[T]? = some (.cells c ty f)) (hn : NoU8 c) (hTR : T ≠ R) (i : Nat) (x : Value) : RdB (w.setCell ⟨T, i, none⟩ x) R bad l := by
  obtain ⟨v, h1, h2⟩ := h
  refine ⟨v, (Below.heap_setCell _ _ _ _ (fun e => hTR e.symm)).trans h1, h2.map fun b o y hb hy => ⟨hb, ?_⟩⟩
  unfold ByteAt at hy ⊢
  refine (World.cell?_setCell_other _ _ _ _ (fun e => ?_)).trans hy
  simp only [Addr.mk.injEq] at e
  obtain ⟨rfl, -, -⟩ := e
  have : c[o]? = some (.int .u8 (y.toNat : Int)) := by simpa [World.cell?, hT] using hy
  exact hn _ _ this
theorem oper_bytes_new {P : Program} {w : World} {o : Oper} {a : Act} {K : Act → World → Prop} {Q : Exit → Act → World → Prop} (hgd : o.guard = none) (x : Operand) (src dst e : TypeId)
    (ho : o.op = .convert src dst x) (hs : P.underlying src = some .string) (hd : P.underlying dst = some (.slice e)) (he : P.underlying e = some (.int .u8)) (s : ByteArray) (hx : a.eval x = .string s) (hm : s.size ≤ maxLen)
    (h : ∀ c w', Later w w' → w'.heap.size = w.heap.size + 1 → BytesIn (fun b => b = w.heap.size) w' (.slice (some ⟨w.heap.size, 0, none⟩) s.size c) s.data.toList → K (a.put o.dst (.slice (some ⟨w.heap.size, 0, none⟩) s.size c)) w') :
    Oper.wp P o a w K Q := by
  have hr := run_bytes_of_string (P := P) w src dst e s hs hd he
  unfold Oper.wp execOp
  simp only [ho, hx, Sem.run_bind, Sem.run_pure, Result.andThen_ok, hr]
  have hsz2 : s.data.toList.length = s.size := by rw [Array.length_toList]; rfl
  refine h _ _ ((Later.drew w).alloc' _) (by simp [World.alloc]) ⟨_, _, by rw [hsz2], by rw [hsz2]; exact grownCap_ge _ _ _ _, grownCap_le_maxLen _ _ _ _ hm, fun h => (by cases h), fun k hk => ⟨w.heap.size, 0, rfl, rfl, ?_⟩⟩
  have hsz : w.drew.heap.size = w.heap.size := rfl
  unfold ByteAt
  rw [← hsz]
  refine cell_obj (obj_new w.drew _) ?_
  unfold bytesRow
  have hk' : k < s.data.size := by simpa using hk
  rw [Nat.mul_one, Nat.zero_add, Array.getElem?_append_left (by simpa using hk')]
  simp
  exact ⟨s.data[k], by simp [hk'], rfl⟩
def OpenGot (w : World) (l : List UInt8) (E : Int) (e : Ending) (w' : World) : Prop := ∃ v, e = .returned (.tuple #[v, .int .i64 E, .nilIface]) ∧ w'.ownsRow w.heap.size 5 1 v l.length (byteCells l) ∧ Later w w'
theorem open_got (v : Value) (l b : List UInt8) (E : Int) (w : World) (h : IsBytes w v l) (ho : openB l 0 = (b, E, 0)) : Calls Tryd.prog 40 #[v, .int .i64 0] w (OpenGot w b E) := by
  refine (open_any v l 0 w h (by decide)).mono ?_
  intro e w' hT
  rw [ho] at hT
  obtain ⟨v6, rfl, ho, hL⟩ := hT
  exact ⟨v6, rfl, ho, hL⟩
theorem fin_later {w w9 : World} {T : Nat} (hk : Keeps (fun b => b < w.heap.size) w w9) (hT : w.heap.size ≤ T) (x y z : Value) : Later w (((w9.setCell ⟨T, 0, none⟩ x).setCell ⟨T, 1, none⟩ y).setCell ⟨T, 2, none⟩ z) :=
  ((((hk.setCell (p := ⟨T, 0, none⟩) (.inr hT) x).setCell (p := ⟨T, 1, none⟩) (.inr hT) y).setCell (p := ⟨T, 2, none⟩) (.inr hT) z).mono (S' := fun _ => True) fun _ hlt _ => hlt).later
def restH (c : Chk) (i : Nat) : List UInt8 := (c.helds.drop i).flatMap encHeld
def restO (c : Chk) (i : Nat) : List UInt8 := (c.offs.drop i).flatMap encOff ++ (encInt c.helds.length ++ restH c 0)
theorem restO_succ (c : Chk) {i : Nat} (h : i < c.offs.length) : restO c i = encOff (c.offs[i]'h) ++ restO c (i + 1) := by
  unfold restO; rw [List.drop_eq_getElem_cons h, List.flatMap_cons, List.append_assoc]
theorem restH_succ (c : Chk) {i : Nat} (h : i < c.helds.length) : restH c i = encHeld (c.helds[i]'h) ++ restH c (i + 1) := by
  unfold restH; rw [List.drop_eq_getElem_cons h, List.flatMap_cons]
theorem restO_end (c : Chk) : restO c c.offs.length = encInt c.helds.length ++ restH c 0 := by unfold restO; simp
theorem restH_end (c : Chk) : restH c c.helds.length = [] := by unfold restH; simp
theorem encChk_rest (c : Chk) : encChk c = encInt c.mark ++ (encInt c.offs.length ++ restO c 0) := by unfold encChk restO restH; simp
/-- what Unpack comes to. -/
def UnpackTo (w : World) (c : Chk) (ok : Bool) (e : Ending) (w' : World) : Prop :=
  Later w w' ∧ if ok = true then ∃ v1 v2, e = .returned (.tuple #[.agg #[.int .i64 c.mark, v1, v2], .nilIface]) ∧ OffsIn All w' v1 c.offs ∧ HeldsIn All w' v2 c.helds
    else e = .returned (.tuple #[.agg #[.int .i64 0, .slice none 0 0, .slice none 0 0], .iface 33 (.int .i64 7)])
theorem results_cell_tmp {fn : Func} {t u : Tmp} {ty : TypeId} (h : fn.results = #[.cell t ty, .tmp u]) (tmps : Array Value) (P : Program) (w : World) :
    (results fn tmps).run P w = (do let v ← loadVar ty (← asAddr (tmps.getD t undef)); pure (.tuple #[v, tmps.getD u undef]) : Sem Value).run P w := by
  simp [results, h]

set_option maxRecDepth 100000 in
set_option maxHeartbeats 16000000 in
theorem unpack_ok (v : Value) (l : List UInt8) (c : Chk) (E : Int) (w : World) (h : IsBytes w v l) (ho : openB l 0 = (encChk c, E, 0)) (hm : I64 c.mark) (hof : ∀ x ∈ c.offs, OffOk x) (hhe : ∀ x ∈ c.helds, HeldOk x) (hl : (encChk c).length ≤ 20000000) (hl1 : c.offs.length ≤ 1048576) (hl2 : c.helds.length ≤ 1048576) :
    Calls Tryd.prog 51 #[v] w (UnpackTo w c (decide (E = l.length))) := by
  have HV := hid h; have HOP := hid ho; have HM := hid hm; have HOF := hid hof; have HHE := hid hhe; have HL := hid hl; have HL1 := hid hl1; have HL2 := hid hl2
  obtain ⟨pv, cv, rfl, hvl, hvm, -, -⟩ := h
  clear ho hm hof hhe hl hl1 hl2 hvl hvm
  have HW1 : Hid (I64 c.offs.length) := hid (by have := HL1.out; simp [I64, Lit.wf, IntKind.min, IntKind.max, IntKind.bits, IntKind.signed]; omega)
  have HW2 : Hid (I64 c.helds.length) := hid (by have := HL2.out; simp [I64, Lit.wf, IntKind.min, IntKind.max, IntKind.bits, IntKind.signed]; omega)
  go_enter Tryd.func51, Tryd.ntmps51
  go_wp2_with fail
  obtain ⟨T, hT⟩ : ∃ T, T = w.heap.size := ⟨_, rfl⟩
  obtain ⟨w1, hw1⟩ : ∃ w1, w1 = w.alloc (.cells #[.int .i64 0, .slice none 0 0, .slice none 0 0] 104 (0, 0)) := ⟨_, rfl⟩
  have HT1 : Hid (w1.heap[T]? = some (.cells #[.int .i64 0, .slice none 0 0, .slice none 0 0] 104 (0, 0))) := hid (by rw [hw1, hT]; exact obj_new _ _)
  have HL01 : Hid (Later w w1) := hid (by rw [hw1]; exact Later.alloc _ _)
  have HTW : Hid (T = w.heap.size) := hid hT
  rw [← hw1, ← hT]
  clear hw1 hT
  refine (open_got _ l _ E _ (HV.out.bytes_later HL01.out) HOP.out).mono ?_
  rintro e w2 ⟨vb, rfl, ho2, hL2⟩
  have HVB := hid (owned_bytes ho2)
  have HT2 := hid (hL2.obj HT1.out)
  have HL02 := hid (Later.trans _ _ _ HL01.out hL2)
  clear ho2 hL2
  go_wp2_with fail
  refine (read_new vb _ _ (HVB.out.bytes_mono fun _ _ => trivial)).mono ?_
  rintro e w3 ⟨R, rfl, hr3, hR3, hL3⟩
  have HT3 := hid (hL3.obj HT2.out)
  have HL03 := hid (Later.trans _ _ _ HL02.out hL3)
  have HRT : Hid (T < R) := hid (by have := (Array.getElem?_eq_some_iff.1 HT2.out).1; omega)
  have HRlt := hid hr3.lt
  have HR3 := hid hr3
  clear hr3 hR3 hL3
  go_upto_region 6 with (fail)
  obtain ⟨Bx, hBx⟩ : ∃ Bx, Bx = w3.heap.size := ⟨_, rfl⟩
  obtain ⟨w4, hw4⟩ : ∃ w4, w4 = w3.alloc (.cells #[.pointer (some ⟨R, 0, none⟩)] 136 (0, 0)) := ⟨_, rfl⟩
  have hL4 : Later w3 w4 := by rw [hw4]; exact Later.alloc _ _
  have HB4 : Hid (w4.heap[Bx]? = some (.cells #[.pointer (some ⟨R, 0, none⟩)] 136 (0, 0))) := hid (by rw [hw4, hBx]; exact obj_new _ _)
  have HT4 := hid (hL4.obj HT3.out)
  have HR4 := hid (HR3.out.later hL4)
  have HL04 := hid (Later.trans _ _ _ HL03.out hL4)
  have HRB : Hid (R < Bx) := hid (by rw [hBx]; exact HRlt.out)
  have HTR : Hid (T ≠ R) := hid (Nat.ne_of_lt HRT.out)
  have HBR : Hid (Bx ≠ R) := hid (Nat.ne_of_gt HRB.out)
  have HTB : Hid (Bx ≠ T) := hid (by have := HRT.out; have := HRB.out; omega)
  rw [← hw4, ← hBx]
  clear hw4 hBx hL4 HR3 HT3 HT2
  rw [encChk_rest] at HR4
  go_wp2_with fail
  refine (number_any _ Bx R c.mark _ _ HB4.out HR4.out HM.out).mono ?_
  rintro e w5 ⟨rfl, hr5, hk5⟩
  have hT5 := hk5.obj HTR.out HT4.out
  have t0 := cell_obj (i := 0) hT5 (v := .int .i64 0) rfl
  have z0 := free_obj (i := 0) hT5
  have HT6 := hid (obj_setCell (i := 0) hT5 (.int .i64 c.mark))
  have HR6 := hid (rdb_set hr5 hT5 (no_u8 _ _ _) HTR.out 0 (.int .i64 c.mark))
  have HB6 := hid ((Below.heap_setCell (w5) (⟨T, 0, none⟩) (.int .i64 c.mark) Bx HTB.out).trans (hk5.obj HBR.out HB4.out))
  have HK6 := hid ((((HL04.out.keeps (fun b => b ≠ R)).trans hk5).mono (S' := fun b => b < w.heap.size) fun b hlt _ => by have := HRT.out; have := HTW.out; omega).setCell (p := ⟨T, 0, none⟩) (.inr (Nat.le_of_eq HTW.out.symm)) (.int .i64 c.mark))
  have HS6 := hid hk5.size
  simp only [List.setIfInBounds_toArray, List.set] at HT6
  clear hr5 hk5 hT5 HT4 HR4
  go_upto_region 7 with (fail)
  clear t0 z0
  obtain ⟨w6, hw6⟩ : ∃ w6, w6 = w5.setCell ⟨T, 0, none⟩ (.int .i64 c.mark) := ⟨_, rfl⟩
  rw [← hw6] at HT6 HR6 HB6 HK6 ⊢
  clear hw6
  go_wp2_with fail
  refine (number_any _ Bx R c.offs.length _ _ HB6.out HR6.out HW1.out).mono ?_
  rintro e w7 ⟨rfl, hr7, hk7⟩
  have HT7 := hid (hk7.obj HTR.out HT6.out)
  have HB7 := hid (hk7.obj HBR.out HB6.out)
  have HR7 := hid hr7
  have HK7 := hid (HK6.out.trans (hk7.mono (S' := fun b => b < w.heap.size) fun b hlt _ => by have := HRT.out; have := HTW.out; omega))
  have HTS : Hid (T < w7.heap.size) := hid (Array.getElem?_eq_some_iff.1 HT7.out).1
  have HRS : Hid (R < w7.heap.size) := hid hr7.lt
  have HBS : Hid (Bx < w7.heap.size) := hid (Array.getElem?_eq_some_iff.1 HB7.out).1
  clear hr7 hk7 HT6 HR6 HB6 HK6
  go_wp2_with fail
  obtain ⟨R1, hR1⟩ : ∃ RR_ : (Nat → Value) → World → Prop, RR_ = (fun us wx => ∃ (i : Nat) (va : Option Addr) (ca : Nat), i ≤ c.offs.length ∧ us 8 = .int .i64 ((c.offs.length - i : Nat) : Int) ∧ wx.heap[T]? = some (.cells #[.int .i64 c.mark, .slice va i ca, .slice none 0 0] 104 (0, 0)) ∧ wx.ownsRow w7.heap.size 154 3 (.slice va i ca) i (offCells (c.offs.take i)) ∧ RdB wx R false (restO c i) ∧ wx.heap[Bx]? = some (.cells #[.pointer (some ⟨R, 0, none⟩)] 136 (0, 0)) ∧ Keeps (fun b => b ≠ R ∧ b ≠ T) w7 wx) := ⟨_, rfl⟩
  obtain ⟨mu1, hmu1⟩ : ∃ mu : (Nat → Value) → World → Nat, mu = (fun us _ => (intOf (us 8)).toNat) := ⟨_, rfl⟩
  have HR1 := hid hR1; have Hmu1 := hid hmu1; clear hR1 hmu1
  refine wp_loop_frame' [false, false, false, false, false, false, false, false, true, false, false, false, false, false, false, false, false, false, false, false, false, false, false, false, false, false, false, false, true, true, true, true, true, true, true, true, true, true, true, true, true, true, true, true, true, true, true, true, true] R1 _ mu1 HR1.out ?_ ?_
  · exact ⟨0, none, 0, by omega, rfl, HT7.out, ⟨rfl, .inl ⟨rfl, rfl⟩⟩, HR7.out, HB7.out, Keeps.refl _ _⟩
  ·
    intro us1 wx hrel
    obtain ⟨i, va, ca, hi, h8, hT, hown, hr, hB, hk⟩ := hrel
    simp only [frameOf, Nat.reduceAdd, h8]
    have Hh8 := hid h8; clear h8
    have HIN := hid hi; have HTx := hid hT; have HOx := hid hown; have HRx := hid hr; have HBx := hid hB; have HKx := hid hk
    clear hi hT hown hr hB hk
    by_cases hlt : i < c.offs.length
    · obtain ⟨m, hm⟩ : ∃ m : Nat, m = c.offs.length - i := ⟨_, rfl⟩
      rw [← hm] at Hh8 ⊢
      have HM0 : Hid (0 < m) := hid (by omega)
      have hne : ¬ (m : Int) = 0 := by omega
      have hne2 : ((m : Int) != 0) = true := by simp; omega
      have HME : Hid (((c.offs.length - (i + 1) : Nat) : Int) = (m : Int) - 1) := hid (by omega)
      have HWM : Hid (wrap64 ((m : Int) - 1) = (m : Int) - 1) := hid (by have := HL1.out; unfold wrap64; omega)
      have HLT := hid hlt
      obtain ⟨x, hx⟩ : ∃ x : Off, x = c.offs[i]'hlt := ⟨_, rfl⟩
      have HXO : Hid (OffOk x) := hid (by rw [hx]; exact HOF.out _ (List.getElem_mem hlt))
      have HOS : Hid (c.offs.take (i + 1) = c.offs.take i ++ [x]) := hid (by rw [hx]; exact List.take_succ_eq_append_getElem hlt)
      have hrs : restO c i = encOff x ++ restO c (i + 1) := by rw [hx]; exact restO_succ c hlt
      have hrx := HRx.out
      rw [hrs] at hrx
      obtain ⟨x0, x1, x2⟩ := x
      have hrx2 : RdB wx R false (encInt x0 ++ (encInt x1 ++ (encInt x2 ++ restO c (i + 1)))) := by simpa [encOff, List.append_assoc] using hrx
      have HRy := hid hrx2
      clear hm hx hrs hrx hrx2 hlt
      have t6 := cell_obj (i := 0) HBx.out rfl
      go_wp2_with fail
      refine (bad_no R _ _ HRy.out).mono ?_
      rintro e w8 ⟨rfl, rfl⟩
      go_wp2_with fail
      clear t6
      have HT0 := hid ((Later.drew _).obj HTx.out); have HB0 := hid ((Later.drew _).obj HBx.out); have HO0 := hid (own_later HOx.out (Later.drew _)); have HR0 := hid (HRy.out.later (Later.drew _)); have HK0 := hid (HKx.out.more (Later.drew _))
      have t1 := cell_obj (i := 1) HT0.out (v := .slice va i ca) rfl
      have t6 := cell_obj (i := 0) HB0.out rfl
      refine wp_region_any (by kernel_rfl) ?_
      change wpAny _ _ _ _ _ _ _ (World.drew _)
      refine wpAny_take (i := 0) (v := .pointer (some ⟨T, 1, none⟩)) rfl (by kernel_rfl) (by kernel_rfl) (by kernel_rfl) (fun _ _ _ h => h) (Or.inl ⟨by rfl, ?_⟩) ?_
      · intro w; go_simp
      simp only [Act.put, List.setIfInBounds_toArray, List.set]
      refine wpAny_take (i := 2) (v := .func (.func 83) #[] #[.pointer (some ⟨Bx, 0, none⟩)]) rfl (by kernel_rfl) (by kernel_rfl) (by kernel_rfl) (fun _ _ _ h => h) (Or.inl ⟨by rfl, ?_⟩) ?_
      · intro w; go_simp
      simp only [Act.put, List.setIfInBounds_toArray, List.set]
      refine wpAny_take (i := 4) (v := .func (.func 83) #[] #[.pointer (some ⟨Bx, 0, none⟩)]) rfl (by kernel_rfl) (by kernel_rfl) (by kernel_rfl) (fun _ _ _ h => h) (Or.inl ⟨by rfl, ?_⟩) ?_
      · intro w; go_simp
      simp only [Act.put, List.setIfInBounds_toArray, List.set]
      refine wpAny_take (i := 6) (v := .func (.func 83) #[] #[.pointer (some ⟨Bx, 0, none⟩)]) rfl (by kernel_rfl) (by kernel_rfl) (by kernel_rfl) (fun _ _ _ h => h) (Or.inl ⟨by rfl, ?_⟩) ?_
      · intro w; go_simp
      simp only [Act.put, List.setIfInBounds_toArray, List.set]
      refine wpAny_ready (rs := [1, 3]) (by kernel_rfl) (by simp) (AllReady.cons rfl (fun K hK => ?_) (AllReady.cons rfl (fun K hK => ?_) AllReady.nil))
      · go_simp
        refine hK _ _ ?_
        clear hK K
        refine wpAny_next (i := 3) (by kernel_rfl) rfl (fun _ _ h => wpAny_next (i := 5) (by kernel_rfl) rfl (fun _ _ h => wpAny_next (i := 7) (by kernel_rfl) rfl (fun _ _ h => wpAny_next (i := 8) (by kernel_rfl) rfl (fun _ _ h => wpAny_next (i := 9) (by kernel_rfl) rfl (fun _ _ h => wpAny_next (i := 10) (by kernel_rfl) rfl (fun _ _ h => wpAny_next (i := 11) (by kernel_rfl) rfl (fun _ _ h => wpAny_next (i := 12) (rest := []) (by kernel_rfl) rfl (fun _ _ h => wpAny_done (by kernel_rfl) h _) h) h) h) h) h) h) h) ?_
        simp only [List.getElem_toArray, List.getElem_cons_succ, List.getElem_cons_zero]
        go_wp2_with fail
        refine (number_any _ Bx R x0 _ _ HB0.out HR0.out HXO.out.1).mono ?_
        rintro e wa ⟨rfl, hr, hk⟩
        have HTa := hid (hk.obj HTR.out HT0.out)
        have HBa := hid (hk.obj HBR.out HB0.out)
        have HOa := hid (own_keep HO0.out hk fun b hb _ => by have := HRS.out; omega)
        have HRa := hid hr
        have HKa := hid (HK0.out.trans (hk.mono (S' := fun b => b ≠ R ∧ b ≠ T) fun _ _ h => h.1))
        clear hr hk t1 t6
        have t1 := cell_obj (i := 1) HTa.out (v := .slice va i ca) rfl
        have t6 := cell_obj (i := 0) HBa.out rfl
        go_wp2_with fail
        refine (number_any _ Bx R x1 _ _ HBa.out HRa.out HXO.out.2.1).mono ?_
        rintro e wb ⟨rfl, hr, hk⟩
        have HTb := hid (hk.obj HTR.out HTa.out)
        have HBb := hid (hk.obj HBR.out HBa.out)
        have HOb := hid (own_keep HOa.out hk fun b hb _ => by have := HRS.out; omega)
        have HRb := hid hr
        have HKb := hid (HKa.out.trans (hk.mono (S' := fun b => b ≠ R ∧ b ≠ T) fun _ _ h => h.1))
        clear hr hk t1 t6
        have t1 := cell_obj (i := 1) HTb.out (v := .slice va i ca) rfl
        have t6 := cell_obj (i := 0) HBb.out rfl
        go_wp2_with fail
        refine (number_any _ Bx R x2 _ _ HBb.out HRb.out HXO.out.2.2).mono ?_
        rintro e wc ⟨rfl, hr, hk⟩
        have HTc := hid (hk.obj HTR.out HTb.out)
        have HBc := hid (hk.obj HBR.out HBb.out)
        have HOc := hid (own_keep HOb.out hk fun b hb _ => by have := HRS.out; omega)
        have HRc := hid hr
        have HKc := hid (HKb.out.trans (hk.mono (S' := fun b => b ≠ R ∧ b ≠ T) fun _ _ h => h.1))
        clear hr hk t1 t6
        have t1 := cell_obj (i := 1) HTc.out (v := .slice va i ca) rfl
        have t6 := cell_obj (i := 0) HBc.out rfl
        go_wp2_with (at_builtin; go_loud (refine wpList_append_obj rfl _ _ 101 rfl 154 3 24 Tryd.underlying101 infoOf rfl (own_later HOc.out (Later.alloc _ _)) (news := [.int .i64 x0, .int .i64 x1, .int .i64 x2]) rfl (obj_at (by simp)) rfl (off_one x0 x1 x2) ?c1 ?c2 ?c3 ?_))
        case c1 => have := HIN.out; have := HL1.out; omega
        case c2 => have := HIN.out; have := HL1.out; unfold maxLen; omega
        case c3 => have := HKc.out.size; simp only [World.size_alloc]; omega
        intro v7 w7' hA7
        have hown6 := own_later HOc.out (Later.alloc wc (.cells #[.int .i64 x0, .int .i64 x1, .int .i64 x2] 154 (0, 0)))
        have hlow := hA7.low hown6
        have hT7 := hA7.obj ((Later.alloc wc (.cells #[.int .i64 x0, .int .i64 x1, .int .i64 x2] 154 (0, 0))).obj HTc.out) (fun e => by have := (hown6.lt _ e.symm).1; have := HTS.out; omega)
        have hB7 := hA7.obj ((Later.alloc wc (.cells #[.int .i64 x0, .int .i64 x1, .int .i64 x2] 154 (0, 0))).obj HBc.out) (fun e => by have := (hown6.lt _ e.symm).1; have := HBS.out; omega)
        have hR7 := (HRc.out.later (Later.alloc wc (.cells #[.int .i64 x0, .int .i64 x1, .int .i64 x2] 154 (0, 0)))).keep hlow fun b hb => Nat.lt_of_le_of_lt hb HRS.out
        have hK7 := (HKc.out.more (Later.alloc wc (.cells #[.int .i64 x0, .int .i64 x1, .int .i64 x2] 154 (0, 0)))).low hlow
        obtain ⟨a7, c7, rfl⟩ := ownsRow_slice hA7.own
        have HT8 := hid (obj_setCell (i := 1) hT7 (.slice a7 (i + 1) c7))
        have HO8 := hid (own_set hA7.own (p := ⟨T, 1, none⟩) (own_ne hA7.own hT7 (by decide)) (.slice a7 (i + 1) c7))
        have HR8 := hid (rdb_set hR7 hT7 (no_u8 _ _ _) HTR.out 1 (.slice a7 (i + 1) c7))
        have HB8 := hid ((Below.heap_setCell _ ⟨T, 1, none⟩ (.slice a7 (i + 1) c7) Bx HTB.out).trans hB7)
        have HK8 := hid (hK7.setCell (p := ⟨T, 1, none⟩) (.inl (by simp)) (.slice a7 (i + 1) c7))
        clear t1 t6
        have t1 := cell_obj (i := 1) hT7 (v := .slice va i ca) rfl
        have z1 := free_obj (i := 1) hT7
        clear hown6 hlow hT7 hB7 hR7 hK7 hA7
        simp only [List.setIfInBounds_toArray, List.set] at HT8
        go_wp2_with fail
        try simp only [HWM.out]
        refine Round.mk' HR1.out Hmu1.out rfl ?_ ?_
        · exact ⟨i + 1, a7, c7, HLT.out, by rw [HME.out]; rfl, HT8.out, by rw [HOS.out, offCells_snoc]; exact HO8.out, HR8.out, HB8.out, HK8.out⟩
        · rw [Hh8.out]; have := HM0.out; simp [intOf, slots]; omega
      · go_simp
        refine (number_any _ Bx R x0 _ _ HB0.out HR0.out HXO.out.1).mono ?_
        rintro e wa ⟨rfl, hr, hk⟩
        have HTa := hid (hk.obj HTR.out HT0.out)
        have HBa := hid (hk.obj HBR.out HB0.out)
        have HOa := hid (own_keep HO0.out hk fun b hb _ => by have := HRS.out; omega)
        have HRa := hid hr
        have HKa := hid (HK0.out.trans (hk.mono (S' := fun b => b ≠ R ∧ b ≠ T) fun _ _ h => h.1))
        clear hr hk t1 t6
        have t1 := cell_obj (i := 1) HTa.out (v := .slice va i ca) rfl
        have t6 := cell_obj (i := 0) HBa.out rfl
        refine hK _ _ ?_
        clear hK K
        refine wpAny_ready (rs := [1, 5]) (by kernel_rfl) (by simp) (AllReady.cons rfl (fun K hK => ?_) (AllReady.cons rfl (fun K hK => ?_) AllReady.nil))
        · go_simp
          refine hK _ _ ?_
          clear hK K
          refine wpAny_next (i := 5) (by kernel_rfl) rfl (fun _ _ h => wpAny_next (i := 7) (by kernel_rfl) rfl (fun _ _ h => wpAny_next (i := 8) (by kernel_rfl) rfl (fun _ _ h => wpAny_next (i := 9) (by kernel_rfl) rfl (fun _ _ h => wpAny_next (i := 10) (by kernel_rfl) rfl (fun _ _ h => wpAny_next (i := 11) (by kernel_rfl) rfl (fun _ _ h => wpAny_next (i := 12) (rest := []) (by kernel_rfl) rfl (fun _ _ h => wpAny_done (by kernel_rfl) h _) h) h) h) h) h) h) ?_
          simp only [List.getElem_toArray, List.getElem_cons_succ, List.getElem_cons_zero]
          go_wp2_with fail
          refine (number_any _ Bx R x1 _ _ HBa.out HRa.out HXO.out.2.1).mono ?_
          rintro e wb ⟨rfl, hr, hk⟩
          have HTb := hid (hk.obj HTR.out HTa.out)
          have HBb := hid (hk.obj HBR.out HBa.out)
          have HOb := hid (own_keep HOa.out hk fun b hb _ => by have := HRS.out; omega)
          have HRb := hid hr
          have HKb := hid (HKa.out.trans (hk.mono (S' := fun b => b ≠ R ∧ b ≠ T) fun _ _ h => h.1))
          clear hr hk t1 t6
          have t1 := cell_obj (i := 1) HTb.out (v := .slice va i ca) rfl
          have t6 := cell_obj (i := 0) HBb.out rfl
          go_wp2_with fail
          refine (number_any _ Bx R x2 _ _ HBb.out HRb.out HXO.out.2.2).mono ?_
          rintro e wc ⟨rfl, hr, hk⟩
          have HTc := hid (hk.obj HTR.out HTb.out)
          have HBc := hid (hk.obj HBR.out HBb.out)
          have HOc := hid (own_keep HOb.out hk fun b hb _ => by have := HRS.out; omega)
          have HRc := hid hr
          have HKc := hid (HKb.out.trans (hk.mono (S' := fun b => b ≠ R ∧ b ≠ T) fun _ _ h => h.1))
          clear hr hk t1 t6
          have t1 := cell_obj (i := 1) HTc.out (v := .slice va i ca) rfl
          have t6 := cell_obj (i := 0) HBc.out rfl
          go_wp2_with (at_builtin; go_loud (refine wpList_append_obj rfl _ _ 101 rfl 154 3 24 Tryd.underlying101 infoOf rfl (own_later HOc.out (Later.alloc _ _)) (news := [.int .i64 x0, .int .i64 x1, .int .i64 x2]) rfl (obj_at (by simp)) rfl (off_one x0 x1 x2) ?c1 ?c2 ?c3 ?_))
          case c1 => have := HIN.out; have := HL1.out; omega
          case c2 => have := HIN.out; have := HL1.out; unfold maxLen; omega
          case c3 => have := HKc.out.size; simp only [World.size_alloc]; omega
          intro v7 w7' hA7
          have hown6 := own_later HOc.out (Later.alloc wc (.cells #[.int .i64 x0, .int .i64 x1, .int .i64 x2] 154 (0, 0)))
          have hlow := hA7.low hown6
          have hT7 := hA7.obj ((Later.alloc wc (.cells #[.int .i64 x0, .int .i64 x1, .int .i64 x2] 154 (0, 0))).obj HTc.out) (fun e => by have := (hown6.lt _ e.symm).1; have := HTS.out; omega)
          have hB7 := hA7.obj ((Later.alloc wc (.cells #[.int .i64 x0, .int .i64 x1, .int .i64 x2] 154 (0, 0))).obj HBc.out) (fun e => by have := (hown6.lt _ e.symm).1; have := HBS.out; omega)
          have hR7 := (HRc.out.later (Later.alloc wc (.cells #[.int .i64 x0, .int .i64 x1, .int .i64 x2] 154 (0, 0)))).keep hlow fun b hb => Nat.lt_of_le_of_lt hb HRS.out
          have hK7 := (HKc.out.more (Later.alloc wc (.cells #[.int .i64 x0, .int .i64 x1, .int .i64 x2] 154 (0, 0)))).low hlow
          obtain ⟨a7, c7, rfl⟩ := ownsRow_slice hA7.own
          have HT8 := hid (obj_setCell (i := 1) hT7 (.slice a7 (i + 1) c7))
          have HO8 := hid (own_set hA7.own (p := ⟨T, 1, none⟩) (own_ne hA7.own hT7 (by decide)) (.slice a7 (i + 1) c7))
          have HR8 := hid (rdb_set hR7 hT7 (no_u8 _ _ _) HTR.out 1 (.slice a7 (i + 1) c7))
          have HB8 := hid ((Below.heap_setCell _ ⟨T, 1, none⟩ (.slice a7 (i + 1) c7) Bx HTB.out).trans hB7)
          have HK8 := hid (hK7.setCell (p := ⟨T, 1, none⟩) (.inl (by simp)) (.slice a7 (i + 1) c7))
          clear t1 t6
          have t1 := cell_obj (i := 1) hT7 (v := .slice va i ca) rfl
          have z1 := free_obj (i := 1) hT7
          clear hown6 hlow hT7 hB7 hR7 hK7 hA7
          simp only [List.setIfInBounds_toArray, List.set] at HT8
          go_wp2_with fail
          try simp only [HWM.out]
          refine Round.mk' HR1.out Hmu1.out rfl ?_ ?_
          · exact ⟨i + 1, a7, c7, HLT.out, by rw [HME.out]; rfl, HT8.out, by rw [HOS.out, offCells_snoc]; exact HO8.out, HR8.out, HB8.out, HK8.out⟩
          · rw [Hh8.out]; have := HM0.out; simp [intOf, slots]; omega
        · go_simp
          refine (number_any _ Bx R x1 _ _ HBa.out HRa.out HXO.out.2.1).mono ?_
          rintro e wb ⟨rfl, hr, hk⟩
          have HTb := hid (hk.obj HTR.out HTa.out)
          have HBb := hid (hk.obj HBR.out HBa.out)
          have HOb := hid (own_keep HOa.out hk fun b hb _ => by have := HRS.out; omega)
          have HRb := hid hr
          have HKb := hid (HKa.out.trans (hk.mono (S' := fun b => b ≠ R ∧ b ≠ T) fun _ _ h => h.1))
          clear hr hk t1 t6
          have t1 := cell_obj (i := 1) HTb.out (v := .slice va i ca) rfl
          have t6 := cell_obj (i := 0) HBb.out rfl
          refine hK _ _ ?_
          clear hK K
          refine wpAny_ready (rs := [1, 7]) (by kernel_rfl) (by simp) (AllReady.cons rfl (fun K hK => ?_) (AllReady.cons rfl (fun K hK => ?_) AllReady.nil))
          · go_simp
            refine hK _ _ ?_
            clear hK K
            refine wpAny_next (i := 7) (by kernel_rfl) rfl (fun _ _ h => wpAny_next (i := 8) (by kernel_rfl) rfl (fun _ _ h => wpAny_next (i := 9) (by kernel_rfl) rfl (fun _ _ h => wpAny_next (i := 10) (by kernel_rfl) rfl (fun _ _ h => wpAny_next (i := 11) (by kernel_rfl) rfl (fun _ _ h => wpAny_next (i := 12) (rest := []) (by kernel_rfl) rfl (fun _ _ h => wpAny_done (by kernel_rfl) h _) h) h) h) h) h) ?_
            simp only [List.getElem_toArray, List.getElem_cons_succ, List.getElem_cons_zero]
            go_wp2_with fail
            refine (number_any _ Bx R x2 _ _ HBb.out HRb.out HXO.out.2.2).mono ?_
            rintro e wc ⟨rfl, hr, hk⟩
            have HTc := hid (hk.obj HTR.out HTb.out)
            have HBc := hid (hk.obj HBR.out HBb.out)
            have HOc := hid (own_keep HOb.out hk fun b hb _ => by have := HRS.out; omega)
            have HRc := hid hr
            have HKc := hid (HKb.out.trans (hk.mono (S' := fun b => b ≠ R ∧ b ≠ T) fun _ _ h => h.1))
            clear hr hk t1 t6
            have t1 := cell_obj (i := 1) HTc.out (v := .slice va i ca) rfl
            have t6 := cell_obj (i := 0) HBc.out rfl
            go_wp2_with (at_builtin; go_loud (refine wpList_append_obj rfl _ _ 101 rfl 154 3 24 Tryd.underlying101 infoOf rfl (own_later HOc.out (Later.alloc _ _)) (news := [.int .i64 x0, .int .i64 x1, .int .i64 x2]) rfl (obj_at (by simp)) rfl (off_one x0 x1 x2) ?c1 ?c2 ?c3 ?_))
            case c1 => have := HIN.out; have := HL1.out; omega
            case c2 => have := HIN.out; have := HL1.out; unfold maxLen; omega
            case c3 => have := HKc.out.size; simp only [World.size_alloc]; omega
            intro v7 w7' hA7
            have hown6 := own_later HOc.out (Later.alloc wc (.cells #[.int .i64 x0, .int .i64 x1, .int .i64 x2] 154 (0, 0)))
            have hlow := hA7.low hown6
            have hT7 := hA7.obj ((Later.alloc wc (.cells #[.int .i64 x0, .int .i64 x1, .int .i64 x2] 154 (0, 0))).obj HTc.out) (fun e => by have := (hown6.lt _ e.symm).1; have := HTS.out; omega)
            have hB7 := hA7.obj ((Later.alloc wc (.cells #[.int .i64 x0, .int .i64 x1, .int .i64 x2] 154 (0, 0))).obj HBc.out) (fun e => by have := (hown6.lt _ e.symm).1; have := HBS.out; omega)
            have hR7 := (HRc.out.later (Later.alloc wc (.cells #[.int .i64 x0, .int .i64 x1, .int .i64 x2] 154 (0, 0)))).keep hlow fun b hb => Nat.lt_of_le_of_lt hb HRS.out
            have hK7 := (HKc.out.more (Later.alloc wc (.cells #[.int .i64 x0, .int .i64 x1, .int .i64 x2] 154 (0, 0)))).low hlow
            obtain ⟨a7, c7, rfl⟩ := ownsRow_slice hA7.own
            have HT8 := hid (obj_setCell (i := 1) hT7 (.slice a7 (i + 1) c7))
            have HO8 := hid (own_set hA7.own (p := ⟨T, 1, none⟩) (own_ne hA7.own hT7 (by decide)) (.slice a7 (i + 1) c7))
            have HR8 := hid (rdb_set hR7 hT7 (no_u8 _ _ _) HTR.out 1 (.slice a7 (i + 1) c7))
            have HB8 := hid ((Below.heap_setCell _ ⟨T, 1, none⟩ (.slice a7 (i + 1) c7) Bx HTB.out).trans hB7)
            have HK8 := hid (hK7.setCell (p := ⟨T, 1, none⟩) (.inl (by simp)) (.slice a7 (i + 1) c7))
            clear t1 t6
            have t1 := cell_obj (i := 1) hT7 (v := .slice va i ca) rfl
            have z1 := free_obj (i := 1) hT7
            clear hown6 hlow hT7 hB7 hR7 hK7 hA7
            simp only [List.setIfInBounds_toArray, List.set] at HT8
            go_wp2_with fail
            try simp only [HWM.out]
            refine Round.mk' HR1.out Hmu1.out rfl ?_ ?_
            · exact ⟨i + 1, a7, c7, HLT.out, by rw [HME.out]; rfl, HT8.out, by rw [HOS.out, offCells_snoc]; exact HO8.out, HR8.out, HB8.out, HK8.out⟩
            · rw [Hh8.out]; have := HM0.out; simp [intOf, slots]; omega
          · go_simp
            refine (number_any _ Bx R x2 _ _ HBb.out HRb.out HXO.out.2.2).mono ?_
            rintro e wc ⟨rfl, hr, hk⟩
            have HTc := hid (hk.obj HTR.out HTb.out)
            have HBc := hid (hk.obj HBR.out HBb.out)
            have HOc := hid (own_keep HOb.out hk fun b hb _ => by have := HRS.out; omega)
            have HRc := hid hr
            have HKc := hid (HKb.out.trans (hk.mono (S' := fun b => b ≠ R ∧ b ≠ T) fun _ _ h => h.1))
            clear hr hk t1 t6
            have t1 := cell_obj (i := 1) HTc.out (v := .slice va i ca) rfl
            have t6 := cell_obj (i := 0) HBc.out rfl
            refine hK _ _ ?_
            clear hK K
            refine wpAny_take (i := 8) (v := .agg #[.int .i64 x0, .int .i64 x1, .int .i64 x2]) rfl (by kernel_rfl) (by kernel_rfl) (by kernel_rfl) (fun _ _ _ h => h) (Or.inl ⟨by rfl, ?_⟩) ?_
            · intro w; go_simp
            simp only [Act.put, List.setIfInBounds_toArray, List.set]
            refine wpAny_ready (rs := [1, 9]) (by kernel_rfl) (by simp) (AllReady.cons rfl (fun K hK => ?_) (AllReady.cons rfl (fun K hK => ?_) AllReady.nil))
            · go_simp
              refine hK _ _ ?_
              clear hK K
              refine wpAny_next (i := 9) (by kernel_rfl) rfl (fun _ _ h => wpAny_next (i := 10) (by kernel_rfl) rfl (fun _ _ h => wpAny_next (i := 11) (by kernel_rfl) rfl (fun _ _ h => wpAny_next (i := 12) (rest := []) (by kernel_rfl) rfl (fun _ _ h => wpAny_done (by kernel_rfl) h _) h) h) h) ?_
              simp only [List.getElem_toArray, List.getElem_cons_succ, List.getElem_cons_zero]
              go_wp2_with (at_builtin; go_loud (refine wpList_append_obj rfl _ _ 101 rfl 154 3 24 Tryd.underlying101 infoOf rfl (own_later HOc.out (Later.alloc _ _)) (news := [.int .i64 x0, .int .i64 x1, .int .i64 x2]) rfl (obj_at (by simp)) rfl (off_one x0 x1 x2) ?c1 ?c2 ?c3 ?_))
              case c1 => have := HIN.out; have := HL1.out; omega
              case c2 => have := HIN.out; have := HL1.out; unfold maxLen; omega
              case c3 => have := HKc.out.size; simp only [World.size_alloc]; omega
              intro v7 w7' hA7
              have hown6 := own_later HOc.out (Later.alloc wc (.cells #[.int .i64 x0, .int .i64 x1, .int .i64 x2] 154 (0, 0)))
              have hlow := hA7.low hown6
              have hT7 := hA7.obj ((Later.alloc wc (.cells #[.int .i64 x0, .int .i64 x1, .int .i64 x2] 154 (0, 0))).obj HTc.out) (fun e => by have := (hown6.lt _ e.symm).1; have := HTS.out; omega)
              have hB7 := hA7.obj ((Later.alloc wc (.cells #[.int .i64 x0, .int .i64 x1, .int .i64 x2] 154 (0, 0))).obj HBc.out) (fun e => by have := (hown6.lt _ e.symm).1; have := HBS.out; omega)
              have hR7 := (HRc.out.later (Later.alloc wc (.cells #[.int .i64 x0, .int .i64 x1, .int .i64 x2] 154 (0, 0)))).keep hlow fun b hb => Nat.lt_of_le_of_lt hb HRS.out
              have hK7 := (HKc.out.more (Later.alloc wc (.cells #[.int .i64 x0, .int .i64 x1, .int .i64 x2] 154 (0, 0)))).low hlow
              obtain ⟨a7, c7, rfl⟩ := ownsRow_slice hA7.own
              have HT8 := hid (obj_setCell (i := 1) hT7 (.slice a7 (i + 1) c7))
              have HO8 := hid (own_set hA7.own (p := ⟨T, 1, none⟩) (own_ne hA7.own hT7 (by decide)) (.slice a7 (i + 1) c7))
              have HR8 := hid (rdb_set hR7 hT7 (no_u8 _ _ _) HTR.out 1 (.slice a7 (i + 1) c7))
              have HB8 := hid ((Below.heap_setCell _ ⟨T, 1, none⟩ (.slice a7 (i + 1) c7) Bx HTB.out).trans hB7)
              have HK8 := hid (hK7.setCell (p := ⟨T, 1, none⟩) (.inl (by simp)) (.slice a7 (i + 1) c7))
              clear t1 t6
              have t1 := cell_obj (i := 1) hT7 (v := .slice va i ca) rfl
              have z1 := free_obj (i := 1) hT7
              clear hown6 hlow hT7 hB7 hR7 hK7 hA7
              simp only [List.setIfInBounds_toArray, List.set] at HT8
              go_wp2_with fail
              try simp only [HWM.out]
              refine Round.mk' HR1.out Hmu1.out rfl ?_ ?_
              · exact ⟨i + 1, a7, c7, HLT.out, by rw [HME.out]; rfl, HT8.out, by rw [HOS.out, offCells_snoc]; exact HO8.out, HR8.out, HB8.out, HK8.out⟩
              · rw [Hh8.out]; have := HM0.out; simp [intOf, slots]; omega
            · go_simp
              refine hK _ _ ?_
              clear hK K
              replace t1 := (Later.alloc wc (.cells #[.int .i64 x0, .int .i64 x1, .int .i64 x2] 154 (0, 0))).cell t1
              refine wpAny_next (i := 1) (by kernel_rfl) rfl (fun _ _ h => wpAny_next (i := 10) (by kernel_rfl) rfl (fun _ _ h => wpAny_next (i := 11) (by kernel_rfl) rfl (fun _ _ h => wpAny_next (i := 12) (rest := []) (by kernel_rfl) rfl (fun _ _ h => wpAny_done (by kernel_rfl) h _) h) h) h) ?_
              simp only [List.getElem_toArray, List.getElem_cons_succ, List.getElem_cons_zero]
              go_wp2_with (at_builtin; go_loud (refine wpList_append_obj rfl _ _ 101 rfl 154 3 24 Tryd.underlying101 infoOf rfl (own_later HOc.out (Later.alloc _ _)) (news := [.int .i64 x0, .int .i64 x1, .int .i64 x2]) rfl (obj_at (by simp)) rfl (off_one x0 x1 x2) ?c1 ?c2 ?c3 ?_))
              case c1 => have := HIN.out; have := HL1.out; omega
              case c2 => have := HIN.out; have := HL1.out; unfold maxLen; omega
              case c3 => have := HKc.out.size; simp only [World.size_alloc]; omega
              intro v7 w7' hA7
              have hown6 := own_later HOc.out (Later.alloc wc (.cells #[.int .i64 x0, .int .i64 x1, .int .i64 x2] 154 (0, 0)))
              have hlow := hA7.low hown6
              have hT7 := hA7.obj ((Later.alloc wc (.cells #[.int .i64 x0, .int .i64 x1, .int .i64 x2] 154 (0, 0))).obj HTc.out) (fun e => by have := (hown6.lt _ e.symm).1; have := HTS.out; omega)
              have hB7 := hA7.obj ((Later.alloc wc (.cells #[.int .i64 x0, .int .i64 x1, .int .i64 x2] 154 (0, 0))).obj HBc.out) (fun e => by have := (hown6.lt _ e.symm).1; have := HBS.out; omega)
              have hR7 := (HRc.out.later (Later.alloc wc (.cells #[.int .i64 x0, .int .i64 x1, .int .i64 x2] 154 (0, 0)))).keep hlow fun b hb => Nat.lt_of_le_of_lt hb HRS.out
              have hK7 := (HKc.out.more (Later.alloc wc (.cells #[.int .i64 x0, .int .i64 x1, .int .i64 x2] 154 (0, 0)))).low hlow
              obtain ⟨a7, c7, rfl⟩ := ownsRow_slice hA7.own
              have HT8 := hid (obj_setCell (i := 1) hT7 (.slice a7 (i + 1) c7))
              have HO8 := hid (own_set hA7.own (p := ⟨T, 1, none⟩) (own_ne hA7.own hT7 (by decide)) (.slice a7 (i + 1) c7))
              have HR8 := hid (rdb_set hR7 hT7 (no_u8 _ _ _) HTR.out 1 (.slice a7 (i + 1) c7))
              have HB8 := hid ((Below.heap_setCell _ ⟨T, 1, none⟩ (.slice a7 (i + 1) c7) Bx HTB.out).trans hB7)
              have HK8 := hid (hK7.setCell (p := ⟨T, 1, none⟩) (.inl (by simp)) (.slice a7 (i + 1) c7))
              clear t1 t6
              have t1 := cell_obj (i := 1) hT7 (v := .slice va i ca) rfl
              have z1 := free_obj (i := 1) hT7
              clear hown6 hlow hT7 hB7 hR7 hK7 hA7
              simp only [List.setIfInBounds_toArray, List.set] at HT8
              go_wp2_with fail
              try simp only [HWM.out]
              refine Round.mk' HR1.out Hmu1.out rfl ?_ ?_
              · exact ⟨i + 1, a7, c7, HLT.out, by rw [HME.out]; rfl, HT8.out, by rw [HOS.out, offCells_snoc]; exact HO8.out, HR8.out, HB8.out, HK8.out⟩
              · rw [Hh8.out]; have := HM0.out; simp [intOf, slots]; omega
    · obtain rfl : i = c.offs.length := by have := HIN.out; omega
      have HOF2 := HOx.out
      rw [List.take_length] at HOF2
      have HOFF := hid HOF2
      have hrx := HRx.out
      rw [restO_end] at hrx
      have HRy := hid hrx
      clear HOF2 hrx
      simp only [Nat.sub_self]
      go_wp2_with fail
      refine (number_any _ Bx R c.helds.length _ _ HBx.out HRy.out HW2.out).mono ?_
      rintro e w8 ⟨rfl, hr8, hk8⟩
      have HT8 := hid (hk8.obj HTR.out HTx.out)
      have HB8 := hid (hk8.obj HBR.out HBx.out)
      have HOF8 := hid (own_keep HOFF.out hk8 fun b hb _ => by have := HRS.out; omega)
      have HR8 := hid hr8
      have HK8 := hid ((HK7.out.trans (HKx.out.mono (S' := fun b => b < w.heap.size) fun b hlt _ => by have := HRT.out; have := HTW.out; omega)).trans (hk8.mono (S' := fun b => b < w.heap.size) fun b hlt _ => by have := HRT.out; have := HTW.out; omega))
      have HS7 := hid (Nat.le_trans HKx.out.size hk8.size)
      have HTS7 := HTS; have HRS7 := HRS
      have HTS : Hid (T < w8.heap.size) := hid (Array.getElem?_eq_some_iff.1 HT8.out).1
      have HRS : Hid (R < w8.heap.size) := hid hr8.lt
      have HBS : Hid (Bx < w8.heap.size) := hid (Array.getElem?_eq_some_iff.1 HB8.out).1
      clear hr8 hk8 HTx HBx HOx HRx HRy HKx HOFF
      obtain ⟨oa, hoa⟩ : ∃ oa, oa = va := ⟨_, rfl⟩
      obtain ⟨oc, hoc⟩ : ∃ oc, oc = ca := ⟨_, rfl⟩
      rw [← hoa, ← hoc] at HT8 HOF8
      clear hoa hoc
      go_wp2_with fail
      obtain ⟨R2, hR2⟩ : ∃ RR_ : (Nat → Value) → World → Prop, RR_ = (fun us wx => ∃ (i : Nat) (va : Option Addr) (ca : Nat), i ≤ c.helds.length ∧ us 9 = .int .i64 ((c.helds.length - i : Nat) : Int) ∧ wx.heap[T]? = some (.cells #[.int .i64 c.mark, .slice oa c.offs.length oc, .slice va i ca] 104 (0, 0)) ∧ HeldsOwnF w8.heap.size wx (.slice va i ca) (c.helds.take i) ∧ RdB wx R false (restH c i) ∧ wx.heap[Bx]? = some (.cells #[.pointer (some ⟨R, 0, none⟩)] 136 (0, 0)) ∧ Keeps (fun b => b ≠ R ∧ b ≠ T) w8 wx) := ⟨_, rfl⟩
      obtain ⟨mu2, hmu2⟩ : ∃ mu : (Nat → Value) → World → Nat, mu = (fun us _ => (intOf (us 9)).toNat) := ⟨_, rfl⟩
      have HR2 := hid hR2; have Hmu2 := hid hmu2; clear hR2 hmu2
      refine wp_loop_frame' [false, false, false, false, false, false, false, false, false, true, false, false, false, false, false, false, false, false, false, false, false, false, false, false, false, false, false, false, false, false, false, false, false, false, false, false, false, false, false, false, false, false, false, false, false, false, false, false, false, false, false, true, true, true, true, true, true, true, true, true, true, true, true, true, true, true, true, true, true, true, true, true, true, true] R2 _ mu2 HR2.out ?_ ?_
      · exact ⟨0, none, 0, by omega, rfl, HT8.out, heldsF_nil _ _, HR8.out, HB8.out, Keeps.refl _ _⟩
      ·
        intro us2 wx2 hrel
        obtain ⟨i, va, ca, hi, h9, hT, hown, hr, hB, hk⟩ := hrel
        simp only [frameOf, Nat.reduceAdd, h9]
        have Hh9 := hid h9; clear h9
        have HIN := hid hi; have HTx := hid hT; have HOx := hid hown; have HRx := hid hr; have HBx := hid hB; have HKx := hid hk
        clear hi hT hown hr hB hk
        by_cases hlt : i < c.helds.length
        · obtain ⟨m, hm⟩ : ∃ m : Nat, m = c.helds.length - i := ⟨_, rfl⟩
          rw [← hm] at Hh9 ⊢
          have HM0 : Hid (0 < m) := hid (by omega)
          have hne : ¬ (m : Int) = 0 := by omega
          have hne2 : ((m : Int) != 0) = true := by simp; omega
          have HME : Hid (((c.helds.length - (i + 1) : Nat) : Int) = (m : Int) - 1) := hid (by omega)
          have HWM : Hid (wrap64 ((m : Int) - 1) = (m : Int) - 1) := hid (by have := HL2.out; unfold wrap64; omega)
          have HLT := hid hlt
          obtain ⟨x, hx⟩ : ∃ x : Held, x = c.helds[i]'hlt := ⟨_, rfl⟩
          have HXH : Hid (HeldOk x) := hid (by rw [hx]; exact HHE.out _ (List.getElem_mem hlt))
          have HOS : Hid (c.helds.take (i + 1) = c.helds.take i ++ [x]) := hid (by rw [hx]; exact List.take_succ_eq_append_getElem hlt)
          have hrs : restH c i = encHeld x ++ restH c (i + 1) := by rw [hx]; exact restH_succ c hlt
          have HXL : Hid (x.bytes.length ≤ 20000000) := hid (by
            have h1 : (restH c i).length ≤ (restH c 0).length := by
              unfold restH
              rw [List.drop_zero]
              conv => rhs; rw [← List.take_append_drop i c.helds, List.flatMap_append, List.length_append]
              omega
            have h2 : (restH c 0).length ≤ (encChk c).length := by rw [encChk_rest]; unfold restO; simp only [List.length_append]; omega
            have h3 := HL.out
            rw [hrs] at h1
            simp only [List.length_append, encHeld] at h1
            omega)
          have hrx := HRx.out
          rw [hrs] at hrx
          have hrx2 : RdB wx2 R false (encInt x.node ++ (encInt x.group ++ (encInt x.bytes.length ++ (x.bytes ++ restH c (i + 1))))) := by simpa [encHeld, List.append_assoc] using hrx
          have HRy := hid hrx2
          have HTL : Hid ((c.helds.take i).length = i) := hid (by rw [List.length_take]; omega)
          clear hm hx hrs hrx hrx2 hlt
          have t6 := cell_obj (i := 0) HBx.out rfl
          go_wp2_with fail
          refine (bad_no R _ _ HRy.out).mono ?_
          rintro e w9 ⟨rfl, rfl⟩
          go_wp2_with fail
          clear t6
          have HT0 := hid ((Later.drew _).obj HTx.out); have HB0 := hid ((Later.drew _).obj HBx.out); have HO0 := hid (HOx.out.keep ((Later.drew _).keeps (fun _ => True)) fun _ _ _ => trivial); have HR0 := hid (HRy.out.later (Later.drew _)); have HK0 := hid (HKx.out.more (Later.drew _))
          have t1 := cell_obj (i := 2) HT0.out (v := .slice va i ca) rfl
          have t6 := cell_obj (i := 0) HB0.out rfl
          refine wp_region_any (by kernel_rfl) ?_
          change wpAny _ _ _ _ _ _ _ (World.drew _)
          refine wpAny_take (i := 0) (v := .pointer (some ⟨T, 2, none⟩)) rfl (by kernel_rfl) (by kernel_rfl) (by kernel_rfl) (fun _ _ _ h => h) (Or.inl ⟨by rfl, ?_⟩) ?_
          · intro w; go_simp
          simp only [Act.put, List.setIfInBounds_toArray, List.set]
          refine wpAny_take (i := 2) (v := .func (.func 83) #[] #[.pointer (some ⟨Bx, 0, none⟩)]) rfl (by kernel_rfl) (by kernel_rfl) (by kernel_rfl) (fun _ _ _ h => h) (Or.inl ⟨by rfl, ?_⟩) ?_
          · intro w; go_simp
          simp only [Act.put, List.setIfInBounds_toArray, List.set]
          refine wpAny_take (i := 4) (v := .func (.func 83) #[] #[.pointer (some ⟨Bx, 0, none⟩)]) rfl (by kernel_rfl) (by kernel_rfl) (by kernel_rfl) (fun _ _ _ h => h) (Or.inl ⟨by rfl, ?_⟩) ?_
          · intro w; go_simp
          simp only [Act.put, List.setIfInBounds_toArray, List.set]
          refine wpAny_ready (rs := [1, 3, 6]) (by kernel_rfl) (by simp) (AllReady.cons rfl (fun K hK => ?_) (AllReady.cons rfl (fun K hK => ?_) (AllReady.cons rfl (fun K hK => ?_) AllReady.nil)))
          · go_simp
            refine hK _ _ ?_
            clear hK K
            refine wpAny_ready (rs := [3, 6]) (by kernel_rfl) (by simp) (AllReady.cons rfl (fun K hK => ?_) (AllReady.cons rfl (fun K hK => ?_) AllReady.nil))
            · go_simp
              refine (number_any _ Bx R x.node _ _ HB0.out HR0.out HXH.out.1).mono ?_
              rintro e wa ⟨rfl, hr, hk⟩
              have HTa := hid (hk.obj HTR.out HT0.out)
              have HBa := hid (hk.obj HBR.out HB0.out)
              have HOa := hid (HO0.out.keep hk fun b hb _ => by have := HRS.out; omega)
              have HRa := hid hr
              have HKa := hid (HK0.out.trans (hk.mono (S' := fun b => b ≠ R ∧ b ≠ T) fun _ _ h => h.1))
              clear hr hk t1 t6
              have t1 := cell_obj (i := 2) HTa.out (v := .slice va i ca) rfl
              have t6 := cell_obj (i := 0) HBa.out rfl
              refine hK _ _ ?_
              clear hK K
              refine wpAny_ready (rs := [5, 6]) (by kernel_rfl) (by simp) (AllReady.cons rfl (fun K hK => ?_) (AllReady.cons rfl (fun K hK => ?_) AllReady.nil))
              · go_simp
                refine (number_any _ Bx R x.group _ _ HBa.out HRa.out HXH.out.2).mono ?_
                rintro e wb ⟨rfl, hr, hk⟩
                have HTb := hid (hk.obj HTR.out HTa.out)
                have HBb := hid (hk.obj HBR.out HBa.out)
                have HOb := hid (HOa.out.keep hk fun b hb _ => by have := HRS.out; omega)
                have HRb := hid hr
                have HKb := hid (HKa.out.trans (hk.mono (S' := fun b => b ≠ R ∧ b ≠ T) fun _ _ h => h.1))
                clear hr hk t1 t6
                have t1 := cell_obj (i := 2) HTb.out (v := .slice va i ca) rfl
                have t6 := cell_obj (i := 0) HBb.out rfl
                refine hK _ _ ?_
                clear hK K
                refine wpAny_next (i := 6) (by kernel_rfl) rfl (fun _ _ h => wpAny_next (i := 7) (by kernel_rfl) rfl (fun _ _ h => wpAny_next (i := 8) (by kernel_rfl) rfl (fun _ _ h => wpAny_next (i := 9) (by kernel_rfl) rfl (fun _ _ h => wpAny_next (i := 10) (by kernel_rfl) rfl (fun _ _ h => wpAny_next (i := 11) (by kernel_rfl) rfl (fun _ _ h => wpAny_next (i := 12) (by kernel_rfl) rfl (fun _ _ h => wpAny_next (i := 13) (by kernel_rfl) rfl (fun _ _ h => wpAny_next (i := 14) (rest := []) (by kernel_rfl) rfl (fun _ _ h => wpAny_done (by kernel_rfl) h _) h) h) h) h) h) h) h) h) ?_
                simp only [List.getElem_toArray, List.getElem_cons_succ, List.getElem_cons_zero]
                go_wp2_with fail
                refine (text_got R x.bytes _ _ HRb.out HXL.out).mono ?_
                rintro e wc ⟨rfl, hr, hk⟩
                have HTc := hid (hk.obj HTR.out HTb.out)
                have HBc := hid (hk.obj HBR.out HBb.out)
                have HOc := hid (HOb.out.keep hk fun b hb _ => by have := HRS.out; omega)
                have HRc := hid hr
                have HKc := hid (HKb.out.trans (hk.mono (S' := fun b => b ≠ R ∧ b ≠ T) fun _ _ h => h.1))
                clear hr hk t1 t6
                have t1 := cell_obj (i := 2) HTc.out (v := .slice va i ca) rfl
                have t6 := cell_obj (i := 0) HBc.out rfl
                go_wp2_with (refine wpList_bytes_new rfl _ 9 76 5 rfl Tryd.underlying9 Tryd.underlying76 Tryd.underlying5 (strB x.bytes) rfl (by rw [strB_size]; have := HXL.out; unfold maxLen; omega) ?_)
                have HLTc : Hid (∀ k, (Value.slice va i ca).ownBlock = some k → k < wc.heap.size) := hid (fun k hk => by obtain ⟨vs, hl, hor, -⟩ := HOc.out; exact (hor.lt k hk).2)
                intro cb wd hLd hsd hbd
                have HTd := hid (hLd.obj HTc.out)
                have HBd := hid (hLd.obj HBc.out)
                have HOd := hid (HOc.out.keep (hLd.keeps (fun _ => True)) fun _ _ _ => trivial)
                have HRd := hid (HRc.out.later hLd)
                have HKd := hid (HKc.out.more hLd)
                rw [strB_size] at hbd ⊢
                have HBD := hid hbd
                have HSD := hid hsd
                clear hLd hsd hbd t1 t6
                have t1 := cell_obj (i := 2) HTd.out (v := .slice va i ca) rfl
                have t6 := cell_obj (i := 0) HBd.out rfl
                obtain ⟨vs, hl, hor, hvs⟩ := HOd.out
                rw [HTL.out] at hor
                have HOR := hid hor
                have HVS := hid hvs
                have HHL := hid hl
                clear hor hvs
                go_wp2_with (at_builtin; go_loud (refine wpList_append_obj rfl _ _ 102 rfl 158 3 40 Tryd.underlying102 infoHe rfl (own_later HOR.out (Later.alloc _ _)) (news := [.int .i64 x.node, .int .i64 x.group, .slice (some ⟨wc.heap.size, 0, none⟩) x.bytes.length cb]) rfl (obj_at (by simp)) rfl (held_one _ _ _ rfl) ?c1 ?c2 ?c3 ?_))
                case c1 => have := HIN.out; have := HL2.out; omega
                case c2 => have := HIN.out; have := HL2.out; unfold maxLen; omega
                case c3 => have := HKd.out.size; simp only [World.size_alloc]; omega
                intro v7 w7' hA7
                have hown6 := own_later HOR.out (Later.alloc wd (.cells #[.int .i64 x.node, .int .i64 x.group, .slice (some ⟨wc.heap.size, 0, none⟩) x.bytes.length cb] 158 (0, 0)))
                have hlow := hA7.low hown6
                have hT7 := hA7.obj ((Later.alloc wd (.cells #[.int .i64 x.node, .int .i64 x.group, .slice (some ⟨wc.heap.size, 0, none⟩) x.bytes.length cb] 158 (0, 0))).obj HTd.out) (fun e => by have := (hown6.lt _ e.symm).1; have := HTS.out; omega)
                have hB7 := hA7.obj ((Later.alloc wd (.cells #[.int .i64 x.node, .int .i64 x.group, .slice (some ⟨wc.heap.size, 0, none⟩) x.bytes.length cb] 158 (0, 0))).obj HBd.out) (fun e => by have := (hown6.lt _ e.symm).1; have := HBS.out; omega)
                have hR7 := (HRd.out.later (Later.alloc wd (.cells #[.int .i64 x.node, .int .i64 x.group, .slice (some ⟨wc.heap.size, 0, none⟩) x.bytes.length cb] 158 (0, 0)))).keep hlow fun b hb => Nat.lt_of_le_of_lt hb HRS.out
                have hK7 := (HKd.out.more (Later.alloc wd (.cells #[.int .i64 x.node, .int .i64 x.group, .slice (some ⟨wc.heap.size, 0, none⟩) x.bytes.length cb] 158 (0, 0)))).low hlow
                have hH7 := helds_add HHL.out (fun j hj => ((HVS.out j hj).bytes_later (Later.alloc wd (.cells #[.int .i64 x.node, .int .i64 x.group, .slice (some ⟨wc.heap.size, 0, none⟩) x.bytes.length cb] 158 (0, 0)))).bytes_mono fun b hb => ⟨hb.1, hb.2.1, by rw [World.size_alloc]; omega⟩) ((HBD.out.bytes_later (Later.alloc wd (.cells #[.int .i64 x.node, .int .i64 x.group, .slice (some ⟨wc.heap.size, 0, none⟩) x.bytes.length cb] 158 (0, 0)))).bytes_mono fun b hb => ⟨by rw [hb]; have := HKc.out.size; omega, fun e => by have := HLTc.out b e.symm; omega, by rw [World.size_alloc, hb]; have := HSD.out; omega⟩) (by rw [HTL.out]; exact hA7)
                obtain ⟨a7, c7, rfl⟩ := ownsRow_slice hA7.own
                have HT8 := hid (obj_setCell (i := 2) hT7 (.slice a7 (i + 1) c7))
                have HO8 := hid (hH7.keep ((Keeps.refl (fun b => b ≠ T) _).setCell (p := ⟨T, 2, none⟩) (.inl (by simp)) (.slice a7 (i + 1) c7)) fun b hb _ => by have := HTS.out; omega)
                have HR8 := hid (rdb_set hR7 hT7 (no_u8 _ _ _) HTR.out 2 (.slice a7 (i + 1) c7))
                have HB8 := hid ((Below.heap_setCell _ ⟨T, 2, none⟩ (.slice a7 (i + 1) c7) Bx HTB.out).trans hB7)
                have HK8 := hid (hK7.setCell (p := ⟨T, 2, none⟩) (.inl (by simp)) (.slice a7 (i + 1) c7))
                clear t1 t6
                have t1 := cell_obj (i := 2) hT7 (v := .slice va i ca) rfl
                have z1 := free_obj (i := 2) hT7
                clear hown6 hlow hT7 hB7 hR7 hK7 hA7 hH7
                simp only [List.setIfInBounds_toArray, List.set] at HT8
                go_wp2_with fail
                try simp only [HWM.out]
                refine Round.mk' HR2.out Hmu2.out rfl ?_ ?_
                · exact ⟨i + 1, a7, c7, HLT.out, by rw [HME.out]; rfl, HT8.out, by rw [HOS.out]; exact HO8.out, HR8.out, HB8.out, HK8.out⟩
                · rw [Hh9.out]; have := HM0.out; simp [intOf, slots]; omega
              · go_simp
                refine hK _ _ ?_
                clear hK K
                refine wpAny_next (i := 5) (by kernel_rfl) rfl (fun _ _ h => wpAny_next (i := 7) (by kernel_rfl) rfl (fun _ _ h => wpAny_next (i := 8) (by kernel_rfl) rfl (fun _ _ h => wpAny_next (i := 9) (by kernel_rfl) rfl (fun _ _ h => wpAny_next (i := 10) (by kernel_rfl) rfl (fun _ _ h => wpAny_next (i := 11) (by kernel_rfl) rfl (fun _ _ h => wpAny_next (i := 12) (by kernel_rfl) rfl (fun _ _ h => wpAny_next (i := 13) (by kernel_rfl) rfl (fun _ _ h => wpAny_next (i := 14) (rest := []) (by kernel_rfl) rfl (fun _ _ h => wpAny_done (by kernel_rfl) h _) h) h) h) h) h) h) h) h) ?_
                simp only [List.getElem_toArray, List.getElem_cons_succ, List.getElem_cons_zero]
                go_wp2_with fail
                refine (number_any _ Bx R x.group _ _ HBa.out HRa.out HXH.out.2).mono ?_
                rintro e wb ⟨rfl, hr, hk⟩
                have HTb := hid (hk.obj HTR.out HTa.out)
                have HBb := hid (hk.obj HBR.out HBa.out)
                have HOb := hid (HOa.out.keep hk fun b hb _ => by have := HRS.out; omega)
                have HRb := hid hr
                have HKb := hid (HKa.out.trans (hk.mono (S' := fun b => b ≠ R ∧ b ≠ T) fun _ _ h => h.1))
                clear hr hk t1 t6
                have t1 := cell_obj (i := 2) HTb.out (v := .slice va i ca) rfl
                have t6 := cell_obj (i := 0) HBb.out rfl
                go_wp2_with fail
                refine (text_got R x.bytes _ _ HRb.out HXL.out).mono ?_
                rintro e wc ⟨rfl, hr, hk⟩
                have HTc := hid (hk.obj HTR.out HTb.out)
                have HBc := hid (hk.obj HBR.out HBb.out)
                have HOc := hid (HOb.out.keep hk fun b hb _ => by have := HRS.out; omega)
                have HRc := hid hr
                have HKc := hid (HKb.out.trans (hk.mono (S' := fun b => b ≠ R ∧ b ≠ T) fun _ _ h => h.1))
                clear hr hk t1 t6
                have t1 := cell_obj (i := 2) HTc.out (v := .slice va i ca) rfl
                have t6 := cell_obj (i := 0) HBc.out rfl
                go_wp2_with (refine wpList_bytes_new rfl _ 9 76 5 rfl Tryd.underlying9 Tryd.underlying76 Tryd.underlying5 (strB x.bytes) rfl (by rw [strB_size]; have := HXL.out; unfold maxLen; omega) ?_)
                have HLTc : Hid (∀ k, (Value.slice va i ca).ownBlock = some k → k < wc.heap.size) := hid (fun k hk => by obtain ⟨vs, hl, hor, -⟩ := HOc.out; exact (hor.lt k hk).2)
                intro cb wd hLd hsd hbd
                have HTd := hid (hLd.obj HTc.out)
                have HBd := hid (hLd.obj HBc.out)
                have HOd := hid (HOc.out.keep (hLd.keeps (fun _ => True)) fun _ _ _ => trivial)
                have HRd := hid (HRc.out.later hLd)
                have HKd := hid (HKc.out.more hLd)
                rw [strB_size] at hbd ⊢
                have HBD := hid hbd
                have HSD := hid hsd
                clear hLd hsd hbd t1 t6
                have t1 := cell_obj (i := 2) HTd.out (v := .slice va i ca) rfl
                have t6 := cell_obj (i := 0) HBd.out rfl
                obtain ⟨vs, hl, hor, hvs⟩ := HOd.out
                rw [HTL.out] at hor
                have HOR := hid hor
                have HVS := hid hvs
                have HHL := hid hl
                clear hor hvs
                go_wp2_with (at_builtin; go_loud (refine wpList_append_obj rfl _ _ 102 rfl 158 3 40 Tryd.underlying102 infoHe rfl (own_later HOR.out (Later.alloc _ _)) (news := [.int .i64 x.node, .int .i64 x.group, .slice (some ⟨wc.heap.size, 0, none⟩) x.bytes.length cb]) rfl (obj_at (by simp)) rfl (held_one _ _ _ rfl) ?c1 ?c2 ?c3 ?_))
                case c1 => have := HIN.out; have := HL2.out; omega
                case c2 => have := HIN.out; have := HL2.out; unfold maxLen; omega
                case c3 => have := HKd.out.size; simp only [World.size_alloc]; omega
                intro v7 w7' hA7
                have hown6 := own_later HOR.out (Later.alloc wd (.cells #[.int .i64 x.node, .int .i64 x.group, .slice (some ⟨wc.heap.size, 0, none⟩) x.bytes.length cb] 158 (0, 0)))
                have hlow := hA7.low hown6
                have hT7 := hA7.obj ((Later.alloc wd (.cells #[.int .i64 x.node, .int .i64 x.group, .slice (some ⟨wc.heap.size, 0, none⟩) x.bytes.length cb] 158 (0, 0))).obj HTd.out) (fun e => by have := (hown6.lt _ e.symm).1; have := HTS.out; omega)
                have hB7 := hA7.obj ((Later.alloc wd (.cells #[.int .i64 x.node, .int .i64 x.group, .slice (some ⟨wc.heap.size, 0, none⟩) x.bytes.length cb] 158 (0, 0))).obj HBd.out) (fun e => by have := (hown6.lt _ e.symm).1; have := HBS.out; omega)
                have hR7 := (HRd.out.later (Later.alloc wd (.cells #[.int .i64 x.node, .int .i64 x.group, .slice (some ⟨wc.heap.size, 0, none⟩) x.bytes.length cb] 158 (0, 0)))).keep hlow fun b hb => Nat.lt_of_le_of_lt hb HRS.out
                have hK7 := (HKd.out.more (Later.alloc wd (.cells #[.int .i64 x.node, .int .i64 x.group, .slice (some ⟨wc.heap.size, 0, none⟩) x.bytes.length cb] 158 (0, 0)))).low hlow
                have hH7 := helds_add HHL.out (fun j hj => ((HVS.out j hj).bytes_later (Later.alloc wd (.cells #[.int .i64 x.node, .int .i64 x.group, .slice (some ⟨wc.heap.size, 0, none⟩) x.bytes.length cb] 158 (0, 0)))).bytes_mono fun b hb => ⟨hb.1, hb.2.1, by rw [World.size_alloc]; omega⟩) ((HBD.out.bytes_later (Later.alloc wd (.cells #[.int .i64 x.node, .int .i64 x.group, .slice (some ⟨wc.heap.size, 0, none⟩) x.bytes.length cb] 158 (0, 0)))).bytes_mono fun b hb => ⟨by rw [hb]; have := HKc.out.size; omega, fun e => by have := HLTc.out b e.symm; omega, by rw [World.size_alloc, hb]; have := HSD.out; omega⟩) (by rw [HTL.out]; exact hA7)
                obtain ⟨a7, c7, rfl⟩ := ownsRow_slice hA7.own
                have HT8 := hid (obj_setCell (i := 2) hT7 (.slice a7 (i + 1) c7))
                have HO8 := hid (hH7.keep ((Keeps.refl (fun b => b ≠ T) _).setCell (p := ⟨T, 2, none⟩) (.inl (by simp)) (.slice a7 (i + 1) c7)) fun b hb _ => by have := HTS.out; omega)
                have HR8 := hid (rdb_set hR7 hT7 (no_u8 _ _ _) HTR.out 2 (.slice a7 (i + 1) c7))
                have HB8 := hid ((Below.heap_setCell _ ⟨T, 2, none⟩ (.slice a7 (i + 1) c7) Bx HTB.out).trans hB7)
                have HK8 := hid (hK7.setCell (p := ⟨T, 2, none⟩) (.inl (by simp)) (.slice a7 (i + 1) c7))
                clear t1 t6
                have t1 := cell_obj (i := 2) hT7 (v := .slice va i ca) rfl
                have z1 := free_obj (i := 2) hT7
                clear hown6 hlow hT7 hB7 hR7 hK7 hA7 hH7
                simp only [List.setIfInBounds_toArray, List.set] at HT8
                go_wp2_with fail
                try simp only [HWM.out]
                refine Round.mk' HR2.out Hmu2.out rfl ?_ ?_
                · exact ⟨i + 1, a7, c7, HLT.out, by rw [HME.out]; rfl, HT8.out, by rw [HOS.out]; exact HO8.out, HR8.out, HB8.out, HK8.out⟩
                · rw [Hh9.out]; have := HM0.out; simp [intOf, slots]; omega
            · go_simp
              refine hK _ _ ?_
              clear hK K
              refine wpAny_next (i := 3) (by kernel_rfl) rfl (fun _ _ h => wpAny_next (i := 5) (by kernel_rfl) rfl (fun _ _ h => wpAny_next (i := 7) (by kernel_rfl) rfl (fun _ _ h => wpAny_next (i := 8) (by kernel_rfl) rfl (fun _ _ h => wpAny_next (i := 9) (by kernel_rfl) rfl (fun _ _ h => wpAny_next (i := 10) (by kernel_rfl) rfl (fun _ _ h => wpAny_next (i := 11) (by kernel_rfl) rfl (fun _ _ h => wpAny_next (i := 12) (by kernel_rfl) rfl (fun _ _ h => wpAny_next (i := 13) (by kernel_rfl) rfl (fun _ _ h => wpAny_next (i := 14) (rest := []) (by kernel_rfl) rfl (fun _ _ h => wpAny_done (by kernel_rfl) h _) h) h) h) h) h) h) h) h) h) ?_
              simp only [List.getElem_toArray, List.getElem_cons_succ, List.getElem_cons_zero]
              go_wp2_with fail
              refine (number_any _ Bx R x.node _ _ HB0.out HR0.out HXH.out.1).mono ?_
              rintro e wa ⟨rfl, hr, hk⟩
              have HTa := hid (hk.obj HTR.out HT0.out)
              have HBa := hid (hk.obj HBR.out HB0.out)
              have HOa := hid (HO0.out.keep hk fun b hb _ => by have := HRS.out; omega)
              have HRa := hid hr
              have HKa := hid (HK0.out.trans (hk.mono (S' := fun b => b ≠ R ∧ b ≠ T) fun _ _ h => h.1))
              clear hr hk t1 t6
              have t1 := cell_obj (i := 2) HTa.out (v := .slice va i ca) rfl
              have t6 := cell_obj (i := 0) HBa.out rfl
              go_wp2_with fail
              refine (number_any _ Bx R x.group _ _ HBa.out HRa.out HXH.out.2).mono ?_
              rintro e wb ⟨rfl, hr, hk⟩
              have HTb := hid (hk.obj HTR.out HTa.out)
              have HBb := hid (hk.obj HBR.out HBa.out)
              have HOb := hid (HOa.out.keep hk fun b hb _ => by have := HRS.out; omega)
              have HRb := hid hr
              have HKb := hid (HKa.out.trans (hk.mono (S' := fun b => b ≠ R ∧ b ≠ T) fun _ _ h => h.1))
              clear hr hk t1 t6
              have t1 := cell_obj (i := 2) HTb.out (v := .slice va i ca) rfl
              have t6 := cell_obj (i := 0) HBb.out rfl
              go_wp2_with fail
              refine (text_got R x.bytes _ _ HRb.out HXL.out).mono ?_
              rintro e wc ⟨rfl, hr, hk⟩
              have HTc := hid (hk.obj HTR.out HTb.out)
              have HBc := hid (hk.obj HBR.out HBb.out)
              have HOc := hid (HOb.out.keep hk fun b hb _ => by have := HRS.out; omega)
              have HRc := hid hr
              have HKc := hid (HKb.out.trans (hk.mono (S' := fun b => b ≠ R ∧ b ≠ T) fun _ _ h => h.1))
              clear hr hk t1 t6
              have t1 := cell_obj (i := 2) HTc.out (v := .slice va i ca) rfl
              have t6 := cell_obj (i := 0) HBc.out rfl
              go_wp2_with (refine wpList_bytes_new rfl _ 9 76 5 rfl Tryd.underlying9 Tryd.underlying76 Tryd.underlying5 (strB x.bytes) rfl (by rw [strB_size]; have := HXL.out; unfold maxLen; omega) ?_)
              have HLTc : Hid (∀ k, (Value.slice va i ca).ownBlock = some k → k < wc.heap.size) := hid (fun k hk => by obtain ⟨vs, hl, hor, -⟩ := HOc.out; exact (hor.lt k hk).2)
              intro cb wd hLd hsd hbd
              have HTd := hid (hLd.obj HTc.out)
              have HBd := hid (hLd.obj HBc.out)
              have HOd := hid (HOc.out.keep (hLd.keeps (fun _ => True)) fun _ _ _ => trivial)
              have HRd := hid (HRc.out.later hLd)
              have HKd := hid (HKc.out.more hLd)
              rw [strB_size] at hbd ⊢
              have HBD := hid hbd
              have HSD := hid hsd
              clear hLd hsd hbd t1 t6
              have t1 := cell_obj (i := 2) HTd.out (v := .slice va i ca) rfl
              have t6 := cell_obj (i := 0) HBd.out rfl
              obtain ⟨vs, hl, hor, hvs⟩ := HOd.out
              rw [HTL.out] at hor
              have HOR := hid hor
              have HVS := hid hvs
              have HHL := hid hl
              clear hor hvs
              go_wp2_with (at_builtin; go_loud (refine wpList_append_obj rfl _ _ 102 rfl 158 3 40 Tryd.underlying102 infoHe rfl (own_later HOR.out (Later.alloc _ _)) (news := [.int .i64 x.node, .int .i64 x.group, .slice (some ⟨wc.heap.size, 0, none⟩) x.bytes.length cb]) rfl (obj_at (by simp)) rfl (held_one _ _ _ rfl) ?c1 ?c2 ?c3 ?_))
              case c1 => have := HIN.out; have := HL2.out; omega
              case c2 => have := HIN.out; have := HL2.out; unfold maxLen; omega
              case c3 => have := HKd.out.size; simp only [World.size_alloc]; omega
              intro v7 w7' hA7
              have hown6 := own_later HOR.out (Later.alloc wd (.cells #[.int .i64 x.node, .int .i64 x.group, .slice (some ⟨wc.heap.size, 0, none⟩) x.bytes.length cb] 158 (0, 0)))
              have hlow := hA7.low hown6
              have hT7 := hA7.obj ((Later.alloc wd (.cells #[.int .i64 x.node, .int .i64 x.group, .slice (some ⟨wc.heap.size, 0, none⟩) x.bytes.length cb] 158 (0, 0))).obj HTd.out) (fun e => by have := (hown6.lt _ e.symm).1; have := HTS.out; omega)
              have hB7 := hA7.obj ((Later.alloc wd (.cells #[.int .i64 x.node, .int .i64 x.group, .slice (some ⟨wc.heap.size, 0, none⟩) x.bytes.length cb] 158 (0, 0))).obj HBd.out) (fun e => by have := (hown6.lt _ e.symm).1; have := HBS.out; omega)
              have hR7 := (HRd.out.later (Later.alloc wd (.cells #[.int .i64 x.node, .int .i64 x.group, .slice (some ⟨wc.heap.size, 0, none⟩) x.bytes.length cb] 158 (0, 0)))).keep hlow fun b hb => Nat.lt_of_le_of_lt hb HRS.out
              have hK7 := (HKd.out.more (Later.alloc wd (.cells #[.int .i64 x.node, .int .i64 x.group, .slice (some ⟨wc.heap.size, 0, none⟩) x.bytes.length cb] 158 (0, 0)))).low hlow
              have hH7 := helds_add HHL.out (fun j hj => ((HVS.out j hj).bytes_later (Later.alloc wd (.cells #[.int .i64 x.node, .int .i64 x.group, .slice (some ⟨wc.heap.size, 0, none⟩) x.bytes.length cb] 158 (0, 0)))).bytes_mono fun b hb => ⟨hb.1, hb.2.1, by rw [World.size_alloc]; omega⟩) ((HBD.out.bytes_later (Later.alloc wd (.cells #[.int .i64 x.node, .int .i64 x.group, .slice (some ⟨wc.heap.size, 0, none⟩) x.bytes.length cb] 158 (0, 0)))).bytes_mono fun b hb => ⟨by rw [hb]; have := HKc.out.size; omega, fun e => by have := HLTc.out b e.symm; omega, by rw [World.size_alloc, hb]; have := HSD.out; omega⟩) (by rw [HTL.out]; exact hA7)
              obtain ⟨a7, c7, rfl⟩ := ownsRow_slice hA7.own
              have HT8 := hid (obj_setCell (i := 2) hT7 (.slice a7 (i + 1) c7))
              have HO8 := hid (hH7.keep ((Keeps.refl (fun b => b ≠ T) _).setCell (p := ⟨T, 2, none⟩) (.inl (by simp)) (.slice a7 (i + 1) c7)) fun b hb _ => by have := HTS.out; omega)
              have HR8 := hid (rdb_set hR7 hT7 (no_u8 _ _ _) HTR.out 2 (.slice a7 (i + 1) c7))
              have HB8 := hid ((Below.heap_setCell _ ⟨T, 2, none⟩ (.slice a7 (i + 1) c7) Bx HTB.out).trans hB7)
              have HK8 := hid (hK7.setCell (p := ⟨T, 2, none⟩) (.inl (by simp)) (.slice a7 (i + 1) c7))
              clear t1 t6
              have t1 := cell_obj (i := 2) hT7 (v := .slice va i ca) rfl
              have z1 := free_obj (i := 2) hT7
              clear hown6 hlow hT7 hB7 hR7 hK7 hA7 hH7
              simp only [List.setIfInBounds_toArray, List.set] at HT8
              go_wp2_with fail
              try simp only [HWM.out]
              refine Round.mk' HR2.out Hmu2.out rfl ?_ ?_
              · exact ⟨i + 1, a7, c7, HLT.out, by rw [HME.out]; rfl, HT8.out, by rw [HOS.out]; exact HO8.out, HR8.out, HB8.out, HK8.out⟩
              · rw [Hh9.out]; have := HM0.out; simp [intOf, slots]; omega
          · go_simp
            refine (number_any _ Bx R x.node _ _ HB0.out HR0.out HXH.out.1).mono ?_
            rintro e wa ⟨rfl, hr, hk⟩
            have HTa := hid (hk.obj HTR.out HT0.out)
            have HBa := hid (hk.obj HBR.out HB0.out)
            have HOa := hid (HO0.out.keep hk fun b hb _ => by have := HRS.out; omega)
            have HRa := hid hr
            have HKa := hid (HK0.out.trans (hk.mono (S' := fun b => b ≠ R ∧ b ≠ T) fun _ _ h => h.1))
            clear hr hk t1 t6
            have t1 := cell_obj (i := 2) HTa.out (v := .slice va i ca) rfl
            have t6 := cell_obj (i := 0) HBa.out rfl
            refine hK _ _ ?_
            clear hK K
            refine wpAny_ready (rs := [1, 5, 6]) (by kernel_rfl) (by simp) (AllReady.cons rfl (fun K hK => ?_) (AllReady.cons rfl (fun K hK => ?_) (AllReady.cons rfl (fun K hK => ?_) AllReady.nil)))
            · go_simp
              refine hK _ _ ?_
              clear hK K
              refine wpAny_ready (rs := [5, 6]) (by kernel_rfl) (by simp) (AllReady.cons rfl (fun K hK => ?_) (AllReady.cons rfl (fun K hK => ?_) AllReady.nil))
              · go_simp
                refine (number_any _ Bx R x.group _ _ HBa.out HRa.out HXH.out.2).mono ?_
                rintro e wb ⟨rfl, hr, hk⟩
                have HTb := hid (hk.obj HTR.out HTa.out)
                have HBb := hid (hk.obj HBR.out HBa.out)
                have HOb := hid (HOa.out.keep hk fun b hb _ => by have := HRS.out; omega)
                have HRb := hid hr
                have HKb := hid (HKa.out.trans (hk.mono (S' := fun b => b ≠ R ∧ b ≠ T) fun _ _ h => h.1))
                clear hr hk t1 t6
                have t1 := cell_obj (i := 2) HTb.out (v := .slice va i ca) rfl
                have t6 := cell_obj (i := 0) HBb.out rfl
                refine hK _ _ ?_
                clear hK K
                refine wpAny_next (i := 6) (by kernel_rfl) rfl (fun _ _ h => wpAny_next (i := 7) (by kernel_rfl) rfl (fun _ _ h => wpAny_next (i := 8) (by kernel_rfl) rfl (fun _ _ h => wpAny_next (i := 9) (by kernel_rfl) rfl (fun _ _ h => wpAny_next (i := 10) (by kernel_rfl) rfl (fun _ _ h => wpAny_next (i := 11) (by kernel_rfl) rfl (fun _ _ h => wpAny_next (i := 12) (by kernel_rfl) rfl (fun _ _ h => wpAny_next (i := 13) (by kernel_rfl) rfl (fun _ _ h => wpAny_next (i := 14) (rest := []) (by kernel_rfl) rfl (fun _ _ h => wpAny_done (by kernel_rfl) h _) h) h) h) h) h) h) h) h) ?_
                simp only [List.getElem_toArray, List.getElem_cons_succ, List.getElem_cons_zero]
                go_wp2_with fail
                refine (text_got R x.bytes _ _ HRb.out HXL.out).mono ?_
                rintro e wc ⟨rfl, hr, hk⟩
                have HTc := hid (hk.obj HTR.out HTb.out)
                have HBc := hid (hk.obj HBR.out HBb.out)
                have HOc := hid (HOb.out.keep hk fun b hb _ => by have := HRS.out; omega)
                have HRc := hid hr
                have HKc := hid (HKb.out.trans (hk.mono (S' := fun b => b ≠ R ∧ b ≠ T) fun _ _ h => h.1))
                clear hr hk t1 t6
                have t1 := cell_obj (i := 2) HTc.out (v := .slice va i ca) rfl
                have t6 := cell_obj (i := 0) HBc.out rfl
                go_wp2_with (refine wpList_bytes_new rfl _ 9 76 5 rfl Tryd.underlying9 Tryd.underlying76 Tryd.underlying5 (strB x.bytes) rfl (by rw [strB_size]; have := HXL.out; unfold maxLen; omega) ?_)
                have HLTc : Hid (∀ k, (Value.slice va i ca).ownBlock = some k → k < wc.heap.size) := hid (fun k hk => by obtain ⟨vs, hl, hor, -⟩ := HOc.out; exact (hor.lt k hk).2)
                intro cb wd hLd hsd hbd
                have HTd := hid (hLd.obj HTc.out)
                have HBd := hid (hLd.obj HBc.out)
                have HOd := hid (HOc.out.keep (hLd.keeps (fun _ => True)) fun _ _ _ => trivial)
                have HRd := hid (HRc.out.later hLd)
                have HKd := hid (HKc.out.more hLd)
                rw [strB_size] at hbd ⊢
                have HBD := hid hbd
                have HSD := hid hsd
                clear hLd hsd hbd t1 t6
                have t1 := cell_obj (i := 2) HTd.out (v := .slice va i ca) rfl
                have t6 := cell_obj (i := 0) HBd.out rfl
                obtain ⟨vs, hl, hor, hvs⟩ := HOd.out
                rw [HTL.out] at hor
                have HOR := hid hor
                have HVS := hid hvs
                have HHL := hid hl
                clear hor hvs
                go_wp2_with (at_builtin; go_loud (refine wpList_append_obj rfl _ _ 102 rfl 158 3 40 Tryd.underlying102 infoHe rfl (own_later HOR.out (Later.alloc _ _)) (news := [.int .i64 x.node, .int .i64 x.group, .slice (some ⟨wc.heap.size, 0, none⟩) x.bytes.length cb]) rfl (obj_at (by simp)) rfl (held_one _ _ _ rfl) ?c1 ?c2 ?c3 ?_))
                case c1 => have := HIN.out; have := HL2.out; omega
                case c2 => have := HIN.out; have := HL2.out; unfold maxLen; omega
                case c3 => have := HKd.out.size; simp only [World.size_alloc]; omega
                intro v7 w7' hA7
                have hown6 := own_later HOR.out (Later.alloc wd (.cells #[.int .i64 x.node, .int .i64 x.group, .slice (some ⟨wc.heap.size, 0, none⟩) x.bytes.length cb] 158 (0, 0)))
                have hlow := hA7.low hown6
                have hT7 := hA7.obj ((Later.alloc wd (.cells #[.int .i64 x.node, .int .i64 x.group, .slice (some ⟨wc.heap.size, 0, none⟩) x.bytes.length cb] 158 (0, 0))).obj HTd.out) (fun e => by have := (hown6.lt _ e.symm).1; have := HTS.out; omega)
                have hB7 := hA7.obj ((Later.alloc wd (.cells #[.int .i64 x.node, .int .i64 x.group, .slice (some ⟨wc.heap.size, 0, none⟩) x.bytes.length cb] 158 (0, 0))).obj HBd.out) (fun e => by have := (hown6.lt _ e.symm).1; have := HBS.out; omega)
                have hR7 := (HRd.out.later (Later.alloc wd (.cells #[.int .i64 x.node, .int .i64 x.group, .slice (some ⟨wc.heap.size, 0, none⟩) x.bytes.length cb] 158 (0, 0)))).keep hlow fun b hb => Nat.lt_of_le_of_lt hb HRS.out
                have hK7 := (HKd.out.more (Later.alloc wd (.cells #[.int .i64 x.node, .int .i64 x.group, .slice (some ⟨wc.heap.size, 0, none⟩) x.bytes.length cb] 158 (0, 0)))).low hlow
                have hH7 := helds_add HHL.out (fun j hj => ((HVS.out j hj).bytes_later (Later.alloc wd (.cells #[.int .i64 x.node, .int .i64 x.group, .slice (some ⟨wc.heap.size, 0, none⟩) x.bytes.length cb] 158 (0, 0)))).bytes_mono fun b hb => ⟨hb.1, hb.2.1, by rw [World.size_alloc]; omega⟩) ((HBD.out.bytes_later (Later.alloc wd (.cells #[.int .i64 x.node, .int .i64 x.group, .slice (some ⟨wc.heap.size, 0, none⟩) x.bytes.length cb] 158 (0, 0)))).bytes_mono fun b hb => ⟨by rw [hb]; have := HKc.out.size; omega, fun e => by have := HLTc.out b e.symm; omega, by rw [World.size_alloc, hb]; have := HSD.out; omega⟩) (by rw [HTL.out]; exact hA7)
                obtain ⟨a7, c7, rfl⟩ := ownsRow_slice hA7.own
                have HT8 := hid (obj_setCell (i := 2) hT7 (.slice a7 (i + 1) c7))
                have HO8 := hid (hH7.keep ((Keeps.refl (fun b => b ≠ T) _).setCell (p := ⟨T, 2, none⟩) (.inl (by simp)) (.slice a7 (i + 1) c7)) fun b hb _ => by have := HTS.out; omega)
                have HR8 := hid (rdb_set hR7 hT7 (no_u8 _ _ _) HTR.out 2 (.slice a7 (i + 1) c7))
                have HB8 := hid ((Below.heap_setCell _ ⟨T, 2, none⟩ (.slice a7 (i + 1) c7) Bx HTB.out).trans hB7)
                have HK8 := hid (hK7.setCell (p := ⟨T, 2, none⟩) (.inl (by simp)) (.slice a7 (i + 1) c7))
                clear t1 t6
                have t1 := cell_obj (i := 2) hT7 (v := .slice va i ca) rfl
                have z1 := free_obj (i := 2) hT7
                clear hown6 hlow hT7 hB7 hR7 hK7 hA7 hH7
                simp only [List.setIfInBounds_toArray, List.set] at HT8
                go_wp2_with fail
                try simp only [HWM.out]
                refine Round.mk' HR2.out Hmu2.out rfl ?_ ?_
                · exact ⟨i + 1, a7, c7, HLT.out, by rw [HME.out]; rfl, HT8.out, by rw [HOS.out]; exact HO8.out, HR8.out, HB8.out, HK8.out⟩
                · rw [Hh9.out]; have := HM0.out; simp [intOf, slots]; omega
              · go_simp
                refine hK _ _ ?_
                clear hK K
                refine wpAny_next (i := 5) (by kernel_rfl) rfl (fun _ _ h => wpAny_next (i := 7) (by kernel_rfl) rfl (fun _ _ h => wpAny_next (i := 8) (by kernel_rfl) rfl (fun _ _ h => wpAny_next (i := 9) (by kernel_rfl) rfl (fun _ _ h => wpAny_next (i := 10) (by kernel_rfl) rfl (fun _ _ h => wpAny_next (i := 11) (by kernel_rfl) rfl (fun _ _ h => wpAny_next (i := 12) (by kernel_rfl) rfl (fun _ _ h => wpAny_next (i := 13) (by kernel_rfl) rfl (fun _ _ h => wpAny_next (i := 14) (rest := []) (by kernel_rfl) rfl (fun _ _ h => wpAny_done (by kernel_rfl) h _) h) h) h) h) h) h) h) h) ?_
                simp only [List.getElem_toArray, List.getElem_cons_succ, List.getElem_cons_zero]
                go_wp2_with fail
                refine (number_any _ Bx R x.group _ _ HBa.out HRa.out HXH.out.2).mono ?_
                rintro e wb ⟨rfl, hr, hk⟩
                have HTb := hid (hk.obj HTR.out HTa.out)
                have HBb := hid (hk.obj HBR.out HBa.out)
                have HOb := hid (HOa.out.keep hk fun b hb _ => by have := HRS.out; omega)
                have HRb := hid hr
                have HKb := hid (HKa.out.trans (hk.mono (S' := fun b => b ≠ R ∧ b ≠ T) fun _ _ h => h.1))
                clear hr hk t1 t6
                have t1 := cell_obj (i := 2) HTb.out (v := .slice va i ca) rfl
                have t6 := cell_obj (i := 0) HBb.out rfl
                go_wp2_with fail
                refine (text_got R x.bytes _ _ HRb.out HXL.out).mono ?_
                rintro e wc ⟨rfl, hr, hk⟩
                have HTc := hid (hk.obj HTR.out HTb.out)
                have HBc := hid (hk.obj HBR.out HBb.out)
                have HOc := hid (HOb.out.keep hk fun b hb _ => by have := HRS.out; omega)
                have HRc := hid hr
                have HKc := hid (HKb.out.trans (hk.mono (S' := fun b => b ≠ R ∧ b ≠ T) fun _ _ h => h.1))
                clear hr hk t1 t6
                have t1 := cell_obj (i := 2) HTc.out (v := .slice va i ca) rfl
                have t6 := cell_obj (i := 0) HBc.out rfl
                go_wp2_with (refine wpList_bytes_new rfl _ 9 76 5 rfl Tryd.underlying9 Tryd.underlying76 Tryd.underlying5 (strB x.bytes) rfl (by rw [strB_size]; have := HXL.out; unfold maxLen; omega) ?_)
                have HLTc : Hid (∀ k, (Value.slice va i ca).ownBlock = some k → k < wc.heap.size) := hid (fun k hk => by obtain ⟨vs, hl, hor, -⟩ := HOc.out; exact (hor.lt k hk).2)
                intro cb wd hLd hsd hbd
                have HTd := hid (hLd.obj HTc.out)
                have HBd := hid (hLd.obj HBc.out)
                have HOd := hid (HOc.out.keep (hLd.keeps (fun _ => True)) fun _ _ _ => trivial)
                have HRd := hid (HRc.out.later hLd)
                have HKd := hid (HKc.out.more hLd)
                rw [strB_size] at hbd ⊢
                have HBD := hid hbd
                have HSD := hid hsd
                clear hLd hsd hbd t1 t6
                have t1 := cell_obj (i := 2) HTd.out (v := .slice va i ca) rfl
                have t6 := cell_obj (i := 0) HBd.out rfl
                obtain ⟨vs, hl, hor, hvs⟩ := HOd.out
                rw [HTL.out] at hor
                have HOR := hid hor
                have HVS := hid hvs
                have HHL := hid hl
                clear hor hvs
                go_wp2_with (at_builtin; go_loud (refine wpList_append_obj rfl _ _ 102 rfl 158 3 40 Tryd.underlying102 infoHe rfl (own_later HOR.out (Later.alloc _ _)) (news := [.int .i64 x.node, .int .i64 x.group, .slice (some ⟨wc.heap.size, 0, none⟩) x.bytes.length cb]) rfl (obj_at (by simp)) rfl (held_one _ _ _ rfl) ?c1 ?c2 ?c3 ?_))
                case c1 => have := HIN.out; have := HL2.out; omega
                case c2 => have := HIN.out; have := HL2.out; unfold maxLen; omega
                case c3 => have := HKd.out.size; simp only [World.size_alloc]; omega
                intro v7 w7' hA7
                have hown6 := own_later HOR.out (Later.alloc wd (.cells #[.int .i64 x.node, .int .i64 x.group, .slice (some ⟨wc.heap.size, 0, none⟩) x.bytes.length cb] 158 (0, 0)))
                have hlow := hA7.low hown6
                have hT7 := hA7.obj ((Later.alloc wd (.cells #[.int .i64 x.node, .int .i64 x.group, .slice (some ⟨wc.heap.size, 0, none⟩) x.bytes.length cb] 158 (0, 0))).obj HTd.out) (fun e => by have := (hown6.lt _ e.symm).1; have := HTS.out; omega)
                have hB7 := hA7.obj ((Later.alloc wd (.cells #[.int .i64 x.node, .int .i64 x.group, .slice (some ⟨wc.heap.size, 0, none⟩) x.bytes.length cb] 158 (0, 0))).obj HBd.out) (fun e => by have := (hown6.lt _ e.symm).1; have := HBS.out; omega)
                have hR7 := (HRd.out.later (Later.alloc wd (.cells #[.int .i64 x.node, .int .i64 x.group, .slice (some ⟨wc.heap.size, 0, none⟩) x.bytes.length cb] 158 (0, 0)))).keep hlow fun b hb => Nat.lt_of_le_of_lt hb HRS.out
                have hK7 := (HKd.out.more (Later.alloc wd (.cells #[.int .i64 x.node, .int .i64 x.group, .slice (some ⟨wc.heap.size, 0, none⟩) x.bytes.length cb] 158 (0, 0)))).low hlow
                have hH7 := helds_add HHL.out (fun j hj => ((HVS.out j hj).bytes_later (Later.alloc wd (.cells #[.int .i64 x.node, .int .i64 x.group, .slice (some ⟨wc.heap.size, 0, none⟩) x.bytes.length cb] 158 (0, 0)))).bytes_mono fun b hb => ⟨hb.1, hb.2.1, by rw [World.size_alloc]; omega⟩) ((HBD.out.bytes_later (Later.alloc wd (.cells #[.int .i64 x.node, .int .i64 x.group, .slice (some ⟨wc.heap.size, 0, none⟩) x.bytes.length cb] 158 (0, 0)))).bytes_mono fun b hb => ⟨by rw [hb]; have := HKc.out.size; omega, fun e => by have := HLTc.out b e.symm; omega, by rw [World.size_alloc, hb]; have := HSD.out; omega⟩) (by rw [HTL.out]; exact hA7)
                obtain ⟨a7, c7, rfl⟩ := ownsRow_slice hA7.own
                have HT8 := hid (obj_setCell (i := 2) hT7 (.slice a7 (i + 1) c7))
                have HO8 := hid (hH7.keep ((Keeps.refl (fun b => b ≠ T) _).setCell (p := ⟨T, 2, none⟩) (.inl (by simp)) (.slice a7 (i + 1) c7)) fun b hb _ => by have := HTS.out; omega)
                have HR8 := hid (rdb_set hR7 hT7 (no_u8 _ _ _) HTR.out 2 (.slice a7 (i + 1) c7))
                have HB8 := hid ((Below.heap_setCell _ ⟨T, 2, none⟩ (.slice a7 (i + 1) c7) Bx HTB.out).trans hB7)
                have HK8 := hid (hK7.setCell (p := ⟨T, 2, none⟩) (.inl (by simp)) (.slice a7 (i + 1) c7))
                clear t1 t6
                have t1 := cell_obj (i := 2) hT7 (v := .slice va i ca) rfl
                have z1 := free_obj (i := 2) hT7
                clear hown6 hlow hT7 hB7 hR7 hK7 hA7 hH7
                simp only [List.setIfInBounds_toArray, List.set] at HT8
                go_wp2_with fail
                try simp only [HWM.out]
                refine Round.mk' HR2.out Hmu2.out rfl ?_ ?_
                · exact ⟨i + 1, a7, c7, HLT.out, by rw [HME.out]; rfl, HT8.out, by rw [HOS.out]; exact HO8.out, HR8.out, HB8.out, HK8.out⟩
                · rw [Hh9.out]; have := HM0.out; simp [intOf, slots]; omega
            · go_simp
              refine (number_any _ Bx R x.group _ _ HBa.out HRa.out HXH.out.2).mono ?_
              rintro e wb ⟨rfl, hr, hk⟩
              have HTb := hid (hk.obj HTR.out HTa.out)
              have HBb := hid (hk.obj HBR.out HBa.out)
              have HOb := hid (HOa.out.keep hk fun b hb _ => by have := HRS.out; omega)
              have HRb := hid hr
              have HKb := hid (HKa.out.trans (hk.mono (S' := fun b => b ≠ R ∧ b ≠ T) fun _ _ h => h.1))
              clear hr hk t1 t6
              have t1 := cell_obj (i := 2) HTb.out (v := .slice va i ca) rfl
              have t6 := cell_obj (i := 0) HBb.out rfl
              refine hK _ _ ?_
              clear hK K
              refine wpAny_ready (rs := [1, 6]) (by kernel_rfl) (by simp) (AllReady.cons rfl (fun K hK => ?_) (AllReady.cons rfl (fun K hK => ?_) AllReady.nil))
              · go_simp
                refine hK _ _ ?_
                clear hK K
                refine wpAny_next (i := 6) (by kernel_rfl) rfl (fun _ _ h => wpAny_next (i := 7) (by kernel_rfl) rfl (fun _ _ h => wpAny_next (i := 8) (by kernel_rfl) rfl (fun _ _ h => wpAny_next (i := 9) (by kernel_rfl) rfl (fun _ _ h => wpAny_next (i := 10) (by kernel_rfl) rfl (fun _ _ h => wpAny_next (i := 11) (by kernel_rfl) rfl (fun _ _ h => wpAny_next (i := 12) (by kernel_rfl) rfl (fun _ _ h => wpAny_next (i := 13) (by kernel_rfl) rfl (fun _ _ h => wpAny_next (i := 14) (rest := []) (by kernel_rfl) rfl (fun _ _ h => wpAny_done (by kernel_rfl) h _) h) h) h) h) h) h) h) h) ?_
                simp only [List.getElem_toArray, List.getElem_cons_succ, List.getElem_cons_zero]
                go_wp2_with fail
                refine (text_got R x.bytes _ _ HRb.out HXL.out).mono ?_
                rintro e wc ⟨rfl, hr, hk⟩
                have HTc := hid (hk.obj HTR.out HTb.out)
                have HBc := hid (hk.obj HBR.out HBb.out)
                have HOc := hid (HOb.out.keep hk fun b hb _ => by have := HRS.out; omega)
                have HRc := hid hr
                have HKc := hid (HKb.out.trans (hk.mono (S' := fun b => b ≠ R ∧ b ≠ T) fun _ _ h => h.1))
                clear hr hk t1 t6
                have t1 := cell_obj (i := 2) HTc.out (v := .slice va i ca) rfl
                have t6 := cell_obj (i := 0) HBc.out rfl
                go_wp2_with (refine wpList_bytes_new rfl _ 9 76 5 rfl Tryd.underlying9 Tryd.underlying76 Tryd.underlying5 (strB x.bytes) rfl (by rw [strB_size]; have := HXL.out; unfold maxLen; omega) ?_)
                have HLTc : Hid (∀ k, (Value.slice va i ca).ownBlock = some k → k < wc.heap.size) := hid (fun k hk => by obtain ⟨vs, hl, hor, -⟩ := HOc.out; exact (hor.lt k hk).2)
                intro cb wd hLd hsd hbd
                have HTd := hid (hLd.obj HTc.out)
                have HBd := hid (hLd.obj HBc.out)
                have HOd := hid (HOc.out.keep (hLd.keeps (fun _ => True)) fun _ _ _ => trivial)
                have HRd := hid (HRc.out.later hLd)
                have HKd := hid (HKc.out.more hLd)
                rw [strB_size] at hbd ⊢
                have HBD := hid hbd
                have HSD := hid hsd
                clear hLd hsd hbd t1 t6
                have t1 := cell_obj (i := 2) HTd.out (v := .slice va i ca) rfl
                have t6 := cell_obj (i := 0) HBd.out rfl
                obtain ⟨vs, hl, hor, hvs⟩ := HOd.out
                rw [HTL.out] at hor
                have HOR := hid hor
                have HVS := hid hvs
                have HHL := hid hl
                clear hor hvs
                go_wp2_with (at_builtin; go_loud (refine wpList_append_obj rfl _ _ 102 rfl 158 3 40 Tryd.underlying102 infoHe rfl (own_later HOR.out (Later.alloc _ _)) (news := [.int .i64 x.node, .int .i64 x.group, .slice (some ⟨wc.heap.size, 0, none⟩) x.bytes.length cb]) rfl (obj_at (by simp)) rfl (held_one _ _ _ rfl) ?c1 ?c2 ?c3 ?_))
                case c1 => have := HIN.out; have := HL2.out; omega
                case c2 => have := HIN.out; have := HL2.out; unfold maxLen; omega
                case c3 => have := HKd.out.size; simp only [World.size_alloc]; omega
                intro v7 w7' hA7
                have hown6 := own_later HOR.out (Later.alloc wd (.cells #[.int .i64 x.node, .int .i64 x.group, .slice (some ⟨wc.heap.size, 0, none⟩) x.bytes.length cb] 158 (0, 0)))
                have hlow := hA7.low hown6
                have hT7 := hA7.obj ((Later.alloc wd (.cells #[.int .i64 x.node, .int .i64 x.group, .slice (some ⟨wc.heap.size, 0, none⟩) x.bytes.length cb] 158 (0, 0))).obj HTd.out) (fun e => by have := (hown6.lt _ e.symm).1; have := HTS.out; omega)
                have hB7 := hA7.obj ((Later.alloc wd (.cells #[.int .i64 x.node, .int .i64 x.group, .slice (some ⟨wc.heap.size, 0, none⟩) x.bytes.length cb] 158 (0, 0))).obj HBd.out) (fun e => by have := (hown6.lt _ e.symm).1; have := HBS.out; omega)
                have hR7 := (HRd.out.later (Later.alloc wd (.cells #[.int .i64 x.node, .int .i64 x.group, .slice (some ⟨wc.heap.size, 0, none⟩) x.bytes.length cb] 158 (0, 0)))).keep hlow fun b hb => Nat.lt_of_le_of_lt hb HRS.out
                have hK7 := (HKd.out.more (Later.alloc wd (.cells #[.int .i64 x.node, .int .i64 x.group, .slice (some ⟨wc.heap.size, 0, none⟩) x.bytes.length cb] 158 (0, 0)))).low hlow
                have hH7 := helds_add HHL.out (fun j hj => ((HVS.out j hj).bytes_later (Later.alloc wd (.cells #[.int .i64 x.node, .int .i64 x.group, .slice (some ⟨wc.heap.size, 0, none⟩) x.bytes.length cb] 158 (0, 0)))).bytes_mono fun b hb => ⟨hb.1, hb.2.1, by rw [World.size_alloc]; omega⟩) ((HBD.out.bytes_later (Later.alloc wd (.cells #[.int .i64 x.node, .int .i64 x.group, .slice (some ⟨wc.heap.size, 0, none⟩) x.bytes.length cb] 158 (0, 0)))).bytes_mono fun b hb => ⟨by rw [hb]; have := HKc.out.size; omega, fun e => by have := HLTc.out b e.symm; omega, by rw [World.size_alloc, hb]; have := HSD.out; omega⟩) (by rw [HTL.out]; exact hA7)
                obtain ⟨a7, c7, rfl⟩ := ownsRow_slice hA7.own
                have HT8 := hid (obj_setCell (i := 2) hT7 (.slice a7 (i + 1) c7))
                have HO8 := hid (hH7.keep ((Keeps.refl (fun b => b ≠ T) _).setCell (p := ⟨T, 2, none⟩) (.inl (by simp)) (.slice a7 (i + 1) c7)) fun b hb _ => by have := HTS.out; omega)
                have HR8 := hid (rdb_set hR7 hT7 (no_u8 _ _ _) HTR.out 2 (.slice a7 (i + 1) c7))
                have HB8 := hid ((Below.heap_setCell _ ⟨T, 2, none⟩ (.slice a7 (i + 1) c7) Bx HTB.out).trans hB7)
                have HK8 := hid (hK7.setCell (p := ⟨T, 2, none⟩) (.inl (by simp)) (.slice a7 (i + 1) c7))
                clear t1 t6
                have t1 := cell_obj (i := 2) hT7 (v := .slice va i ca) rfl
                have z1 := free_obj (i := 2) hT7
                clear hown6 hlow hT7 hB7 hR7 hK7 hA7 hH7
                simp only [List.setIfInBounds_toArray, List.set] at HT8
                go_wp2_with fail
                try simp only [HWM.out]
                refine Round.mk' HR2.out Hmu2.out rfl ?_ ?_
                · exact ⟨i + 1, a7, c7, HLT.out, by rw [HME.out]; rfl, HT8.out, by rw [HOS.out]; exact HO8.out, HR8.out, HB8.out, HK8.out⟩
                · rw [Hh9.out]; have := HM0.out; simp [intOf, slots]; omega
              · go_simp
                refine hK _ _ ?_
                clear hK K
                refine wpAny_ready (rs := [1, 7]) (by kernel_rfl) (by simp) (AllReady.cons rfl (fun K hK => ?_) (AllReady.cons rfl (fun K hK => ?_) AllReady.nil))
                · go_simp
                  refine hK _ _ ?_
                  clear hK K
                  refine wpAny_next (i := 7) (by kernel_rfl) rfl (fun _ _ h => wpAny_next (i := 8) (by kernel_rfl) rfl (fun _ _ h => wpAny_next (i := 9) (by kernel_rfl) rfl (fun _ _ h => wpAny_next (i := 10) (by kernel_rfl) rfl (fun _ _ h => wpAny_next (i := 11) (by kernel_rfl) rfl (fun _ _ h => wpAny_next (i := 12) (by kernel_rfl) rfl (fun _ _ h => wpAny_next (i := 13) (by kernel_rfl) rfl (fun _ _ h => wpAny_next (i := 14) (rest := []) (by kernel_rfl) rfl (fun _ _ h => wpAny_done (by kernel_rfl) h _) h) h) h) h) h) h) h) ?_
                  simp only [List.getElem_toArray, List.getElem_cons_succ, List.getElem_cons_zero]
                  go_wp2_with fail
                  refine (text_got R x.bytes _ _ HRb.out HXL.out).mono ?_
                  rintro e wc ⟨rfl, hr, hk⟩
                  have HTc := hid (hk.obj HTR.out HTb.out)
                  have HBc := hid (hk.obj HBR.out HBb.out)
                  have HOc := hid (HOb.out.keep hk fun b hb _ => by have := HRS.out; omega)
                  have HRc := hid hr
                  have HKc := hid (HKb.out.trans (hk.mono (S' := fun b => b ≠ R ∧ b ≠ T) fun _ _ h => h.1))
                  clear hr hk t1 t6
                  have t1 := cell_obj (i := 2) HTc.out (v := .slice va i ca) rfl
                  have t6 := cell_obj (i := 0) HBc.out rfl
                  go_wp2_with (refine wpList_bytes_new rfl _ 9 76 5 rfl Tryd.underlying9 Tryd.underlying76 Tryd.underlying5 (strB x.bytes) rfl (by rw [strB_size]; have := HXL.out; unfold maxLen; omega) ?_)
                  have HLTc : Hid (∀ k, (Value.slice va i ca).ownBlock = some k → k < wc.heap.size) := hid (fun k hk => by obtain ⟨vs, hl, hor, -⟩ := HOc.out; exact (hor.lt k hk).2)
                  intro cb wd hLd hsd hbd
                  have HTd := hid (hLd.obj HTc.out)
                  have HBd := hid (hLd.obj HBc.out)
                  have HOd := hid (HOc.out.keep (hLd.keeps (fun _ => True)) fun _ _ _ => trivial)
                  have HRd := hid (HRc.out.later hLd)
                  have HKd := hid (HKc.out.more hLd)
                  rw [strB_size] at hbd ⊢
                  have HBD := hid hbd
                  have HSD := hid hsd
                  clear hLd hsd hbd t1 t6
                  have t1 := cell_obj (i := 2) HTd.out (v := .slice va i ca) rfl
                  have t6 := cell_obj (i := 0) HBd.out rfl
                  obtain ⟨vs, hl, hor, hvs⟩ := HOd.out
                  rw [HTL.out] at hor
                  have HOR := hid hor
                  have HVS := hid hvs
                  have HHL := hid hl
                  clear hor hvs
                  go_wp2_with (at_builtin; go_loud (refine wpList_append_obj rfl _ _ 102 rfl 158 3 40 Tryd.underlying102 infoHe rfl (own_later HOR.out (Later.alloc _ _)) (news := [.int .i64 x.node, .int .i64 x.group, .slice (some ⟨wc.heap.size, 0, none⟩) x.bytes.length cb]) rfl (obj_at (by simp)) rfl (held_one _ _ _ rfl) ?c1 ?c2 ?c3 ?_))
                  case c1 => have := HIN.out; have := HL2.out; omega
                  case c2 => have := HIN.out; have := HL2.out; unfold maxLen; omega
                  case c3 => have := HKd.out.size; simp only [World.size_alloc]; omega
                  intro v7 w7' hA7
                  have hown6 := own_later HOR.out (Later.alloc wd (.cells #[.int .i64 x.node, .int .i64 x.group, .slice (some ⟨wc.heap.size, 0, none⟩) x.bytes.length cb] 158 (0, 0)))
                  have hlow := hA7.low hown6
                  have hT7 := hA7.obj ((Later.alloc wd (.cells #[.int .i64 x.node, .int .i64 x.group, .slice (some ⟨wc.heap.size, 0, none⟩) x.bytes.length cb] 158 (0, 0))).obj HTd.out) (fun e => by have := (hown6.lt _ e.symm).1; have := HTS.out; omega)
                  have hB7 := hA7.obj ((Later.alloc wd (.cells #[.int .i64 x.node, .int .i64 x.group, .slice (some ⟨wc.heap.size, 0, none⟩) x.bytes.length cb] 158 (0, 0))).obj HBd.out) (fun e => by have := (hown6.lt _ e.symm).1; have := HBS.out; omega)
                  have hR7 := (HRd.out.later (Later.alloc wd (.cells #[.int .i64 x.node, .int .i64 x.group, .slice (some ⟨wc.heap.size, 0, none⟩) x.bytes.length cb] 158 (0, 0)))).keep hlow fun b hb => Nat.lt_of_le_of_lt hb HRS.out
                  have hK7 := (HKd.out.more (Later.alloc wd (.cells #[.int .i64 x.node, .int .i64 x.group, .slice (some ⟨wc.heap.size, 0, none⟩) x.bytes.length cb] 158 (0, 0)))).low hlow
                  have hH7 := helds_add HHL.out (fun j hj => ((HVS.out j hj).bytes_later (Later.alloc wd (.cells #[.int .i64 x.node, .int .i64 x.group, .slice (some ⟨wc.heap.size, 0, none⟩) x.bytes.length cb] 158 (0, 0)))).bytes_mono fun b hb => ⟨hb.1, hb.2.1, by rw [World.size_alloc]; omega⟩) ((HBD.out.bytes_later (Later.alloc wd (.cells #[.int .i64 x.node, .int .i64 x.group, .slice (some ⟨wc.heap.size, 0, none⟩) x.bytes.length cb] 158 (0, 0)))).bytes_mono fun b hb => ⟨by rw [hb]; have := HKc.out.size; omega, fun e => by have := HLTc.out b e.symm; omega, by rw [World.size_alloc, hb]; have := HSD.out; omega⟩) (by rw [HTL.out]; exact hA7)
                  obtain ⟨a7, c7, rfl⟩ := ownsRow_slice hA7.own
                  have HT8 := hid (obj_setCell (i := 2) hT7 (.slice a7 (i + 1) c7))
                  have HO8 := hid (hH7.keep ((Keeps.refl (fun b => b ≠ T) _).setCell (p := ⟨T, 2, none⟩) (.inl (by simp)) (.slice a7 (i + 1) c7)) fun b hb _ => by have := HTS.out; omega)
                  have HR8 := hid (rdb_set hR7 hT7 (no_u8 _ _ _) HTR.out 2 (.slice a7 (i + 1) c7))
                  have HB8 := hid ((Below.heap_setCell _ ⟨T, 2, none⟩ (.slice a7 (i + 1) c7) Bx HTB.out).trans hB7)
                  have HK8 := hid (hK7.setCell (p := ⟨T, 2, none⟩) (.inl (by simp)) (.slice a7 (i + 1) c7))
                  clear t1 t6
                  have t1 := cell_obj (i := 2) hT7 (v := .slice va i ca) rfl
                  have z1 := free_obj (i := 2) hT7
                  clear hown6 hlow hT7 hB7 hR7 hK7 hA7 hH7
                  simp only [List.setIfInBounds_toArray, List.set] at HT8
                  go_wp2_with fail
                  try simp only [HWM.out]
                  refine Round.mk' HR2.out Hmu2.out rfl ?_ ?_
                  · exact ⟨i + 1, a7, c7, HLT.out, by rw [HME.out]; rfl, HT8.out, by rw [HOS.out]; exact HO8.out, HR8.out, HB8.out, HK8.out⟩
                  · rw [Hh9.out]; have := HM0.out; simp [intOf, slots]; omega
                · go_simp
                  refine (text_got R x.bytes _ _ HRb.out HXL.out).mono ?_
                  rintro e wc ⟨rfl, hr, hk⟩
                  have HTc := hid (hk.obj HTR.out HTb.out)
                  have HBc := hid (hk.obj HBR.out HBb.out)
                  have HOc := hid (HOb.out.keep hk fun b hb _ => by have := HRS.out; omega)
                  have HRc := hid hr
                  have HKc := hid (HKb.out.trans (hk.mono (S' := fun b => b ≠ R ∧ b ≠ T) fun _ _ h => h.1))
                  clear hr hk t1 t6
                  have t1 := cell_obj (i := 2) HTc.out (v := .slice va i ca) rfl
                  have t6 := cell_obj (i := 0) HBc.out rfl
                  refine hK _ _ ?_
                  clear hK K
                  refine wpAny_ready (rs := [1, 8]) (by kernel_rfl) (by simp) (AllReady.cons rfl (fun K hK => ?_) (AllReady.cons rfl (fun K hK => ?_) AllReady.nil))
                  · go_simp
                    refine hK _ _ ?_
                    clear hK K
                    refine wpAny_next (i := 8) (by kernel_rfl) rfl (fun _ _ h => wpAny_next (i := 9) (by kernel_rfl) rfl (fun _ _ h => wpAny_next (i := 10) (by kernel_rfl) rfl (fun _ _ h => wpAny_next (i := 11) (by kernel_rfl) rfl (fun _ _ h => wpAny_next (i := 12) (by kernel_rfl) rfl (fun _ _ h => wpAny_next (i := 13) (by kernel_rfl) rfl (fun _ _ h => wpAny_next (i := 14) (rest := []) (by kernel_rfl) rfl (fun _ _ h => wpAny_done (by kernel_rfl) h _) h) h) h) h) h) h) ?_
                    simp only [List.getElem_toArray, List.getElem_cons_succ, List.getElem_cons_zero]
                    go_wp2_with (refine wpList_bytes_new rfl _ 9 76 5 rfl Tryd.underlying9 Tryd.underlying76 Tryd.underlying5 (strB x.bytes) rfl (by rw [strB_size]; have := HXL.out; unfold maxLen; omega) ?_)
                    have HLTc : Hid (∀ k, (Value.slice va i ca).ownBlock = some k → k < wc.heap.size) := hid (fun k hk => by obtain ⟨vs, hl, hor, -⟩ := HOc.out; exact (hor.lt k hk).2)
                    intro cb wd hLd hsd hbd
                    have HTd := hid (hLd.obj HTc.out)
                    have HBd := hid (hLd.obj HBc.out)
                    have HOd := hid (HOc.out.keep (hLd.keeps (fun _ => True)) fun _ _ _ => trivial)
                    have HRd := hid (HRc.out.later hLd)
                    have HKd := hid (HKc.out.more hLd)
                    rw [strB_size] at hbd ⊢
                    have HBD := hid hbd
                    have HSD := hid hsd
                    clear hLd hsd hbd t1 t6
                    have t1 := cell_obj (i := 2) HTd.out (v := .slice va i ca) rfl
                    have t6 := cell_obj (i := 0) HBd.out rfl
                    obtain ⟨vs, hl, hor, hvs⟩ := HOd.out
                    rw [HTL.out] at hor
                    have HOR := hid hor
                    have HVS := hid hvs
                    have HHL := hid hl
                    clear hor hvs
                    go_wp2_with (at_builtin; go_loud (refine wpList_append_obj rfl _ _ 102 rfl 158 3 40 Tryd.underlying102 infoHe rfl (own_later HOR.out (Later.alloc _ _)) (news := [.int .i64 x.node, .int .i64 x.group, .slice (some ⟨wc.heap.size, 0, none⟩) x.bytes.length cb]) rfl (obj_at (by simp)) rfl (held_one _ _ _ rfl) ?c1 ?c2 ?c3 ?_))
                    case c1 => have := HIN.out; have := HL2.out; omega
                    case c2 => have := HIN.out; have := HL2.out; unfold maxLen; omega
                    case c3 => have := HKd.out.size; simp only [World.size_alloc]; omega
                    intro v7 w7' hA7
                    have hown6 := own_later HOR.out (Later.alloc wd (.cells #[.int .i64 x.node, .int .i64 x.group, .slice (some ⟨wc.heap.size, 0, none⟩) x.bytes.length cb] 158 (0, 0)))
                    have hlow := hA7.low hown6
                    have hT7 := hA7.obj ((Later.alloc wd (.cells #[.int .i64 x.node, .int .i64 x.group, .slice (some ⟨wc.heap.size, 0, none⟩) x.bytes.length cb] 158 (0, 0))).obj HTd.out) (fun e => by have := (hown6.lt _ e.symm).1; have := HTS.out; omega)
                    have hB7 := hA7.obj ((Later.alloc wd (.cells #[.int .i64 x.node, .int .i64 x.group, .slice (some ⟨wc.heap.size, 0, none⟩) x.bytes.length cb] 158 (0, 0))).obj HBd.out) (fun e => by have := (hown6.lt _ e.symm).1; have := HBS.out; omega)
                    have hR7 := (HRd.out.later (Later.alloc wd (.cells #[.int .i64 x.node, .int .i64 x.group, .slice (some ⟨wc.heap.size, 0, none⟩) x.bytes.length cb] 158 (0, 0)))).keep hlow fun b hb => Nat.lt_of_le_of_lt hb HRS.out
                    have hK7 := (HKd.out.more (Later.alloc wd (.cells #[.int .i64 x.node, .int .i64 x.group, .slice (some ⟨wc.heap.size, 0, none⟩) x.bytes.length cb] 158 (0, 0)))).low hlow
                    have hH7 := helds_add HHL.out (fun j hj => ((HVS.out j hj).bytes_later (Later.alloc wd (.cells #[.int .i64 x.node, .int .i64 x.group, .slice (some ⟨wc.heap.size, 0, none⟩) x.bytes.length cb] 158 (0, 0)))).bytes_mono fun b hb => ⟨hb.1, hb.2.1, by rw [World.size_alloc]; omega⟩) ((HBD.out.bytes_later (Later.alloc wd (.cells #[.int .i64 x.node, .int .i64 x.group, .slice (some ⟨wc.heap.size, 0, none⟩) x.bytes.length cb] 158 (0, 0)))).bytes_mono fun b hb => ⟨by rw [hb]; have := HKc.out.size; omega, fun e => by have := HLTc.out b e.symm; omega, by rw [World.size_alloc, hb]; have := HSD.out; omega⟩) (by rw [HTL.out]; exact hA7)
                    obtain ⟨a7, c7, rfl⟩ := ownsRow_slice hA7.own
                    have HT8 := hid (obj_setCell (i := 2) hT7 (.slice a7 (i + 1) c7))
                    have HO8 := hid (hH7.keep ((Keeps.refl (fun b => b ≠ T) _).setCell (p := ⟨T, 2, none⟩) (.inl (by simp)) (.slice a7 (i + 1) c7)) fun b hb _ => by have := HTS.out; omega)
                    have HR8 := hid (rdb_set hR7 hT7 (no_u8 _ _ _) HTR.out 2 (.slice a7 (i + 1) c7))
                    have HB8 := hid ((Below.heap_setCell _ ⟨T, 2, none⟩ (.slice a7 (i + 1) c7) Bx HTB.out).trans hB7)
                    have HK8 := hid (hK7.setCell (p := ⟨T, 2, none⟩) (.inl (by simp)) (.slice a7 (i + 1) c7))
                    clear t1 t6
                    have t1 := cell_obj (i := 2) hT7 (v := .slice va i ca) rfl
                    have z1 := free_obj (i := 2) hT7
                    clear hown6 hlow hT7 hB7 hR7 hK7 hA7 hH7
                    simp only [List.setIfInBounds_toArray, List.set] at HT8
                    go_wp2_with fail
                    try simp only [HWM.out]
                    refine Round.mk' HR2.out Hmu2.out rfl ?_ ?_
                    · exact ⟨i + 1, a7, c7, HLT.out, by rw [HME.out]; rfl, HT8.out, by rw [HOS.out]; exact HO8.out, HR8.out, HB8.out, HK8.out⟩
                    · rw [Hh9.out]; have := HM0.out; simp [intOf, slots]; omega
                  · refine oper_bytes_new rfl _ 9 76 5 rfl Tryd.underlying9 Tryd.underlying76 Tryd.underlying5 (strB x.bytes) rfl (by rw [strB_size]; have := HXL.out; unfold maxLen; omega) ?_
                    have HLTc : Hid (∀ k, (Value.slice va i ca).ownBlock = some k → k < wc.heap.size) := hid (fun k hk => by obtain ⟨vs, hl, hor, -⟩ := HOc.out; exact (hor.lt k hk).2)
                    intro cb wd hLd hsd hbd
                    have HTd := hid (hLd.obj HTc.out)
                    have HBd := hid (hLd.obj HBc.out)
                    have HOd := hid (HOc.out.keep (hLd.keeps (fun _ => True)) fun _ _ _ => trivial)
                    have HRd := hid (HRc.out.later hLd)
                    have HKd := hid (HKc.out.more hLd)
                    rw [strB_size] at hbd ⊢
                    have HBD := hid hbd
                    have HSD := hid hsd
                    clear hLd hsd hbd t1 t6
                    have t1 := cell_obj (i := 2) HTd.out (v := .slice va i ca) rfl
                    have t6 := cell_obj (i := 0) HBd.out rfl
                    refine hK _ _ ?_
                    clear hK K
                    refine wpAny_take (i := 9) (v := .agg #[.int .i64 x.group, .slice (some ⟨wc.heap.size, 0, none⟩) x.bytes.length cb]) rfl (by kernel_rfl) (by kernel_rfl) (by kernel_rfl) (fun _ _ _ h => h) (Or.inl ⟨by rfl, ?_⟩) ?_
                    · intro w; go_simp
                    simp only [Act.put, List.setIfInBounds_toArray, List.set]
                    refine wpAny_take (i := 10) (v := .agg #[.int .i64 x.node, .int .i64 x.group, .slice (some ⟨wc.heap.size, 0, none⟩) x.bytes.length cb]) rfl (by kernel_rfl) (by kernel_rfl) (by kernel_rfl) (fun _ _ _ h => h) (Or.inl ⟨by rfl, ?_⟩) ?_
                    · intro w; go_simp
                    simp only [Act.put, List.setIfInBounds_toArray, List.set]
                    refine wpAny_ready (rs := [1, 11]) (by kernel_rfl) (by simp) (AllReady.cons rfl (fun K hK => ?_) (AllReady.cons rfl (fun K hK => ?_) AllReady.nil))
                    · go_simp
                      refine hK _ _ ?_
                      clear hK K
                      refine wpAny_next (i := 11) (by kernel_rfl) rfl (fun _ _ h => wpAny_next (i := 12) (by kernel_rfl) rfl (fun _ _ h => wpAny_next (i := 13) (by kernel_rfl) rfl (fun _ _ h => wpAny_next (i := 14) (rest := []) (by kernel_rfl) rfl (fun _ _ h => wpAny_done (by kernel_rfl) h _) h) h) h) ?_
                      simp only [List.getElem_toArray, List.getElem_cons_succ, List.getElem_cons_zero]
                      obtain ⟨vs, hl, hor, hvs⟩ := HOd.out
                      rw [HTL.out] at hor
                      have HOR := hid hor
                      have HVS := hid hvs
                      have HHL := hid hl
                      clear hor hvs
                      go_wp2_with (at_builtin; go_loud (refine wpList_append_obj rfl _ _ 102 rfl 158 3 40 Tryd.underlying102 infoHe rfl (own_later HOR.out (Later.alloc _ _)) (news := [.int .i64 x.node, .int .i64 x.group, .slice (some ⟨wc.heap.size, 0, none⟩) x.bytes.length cb]) rfl (obj_at (by simp)) rfl (held_one _ _ _ rfl) ?c1 ?c2 ?c3 ?_))
                      case c1 => have := HIN.out; have := HL2.out; omega
                      case c2 => have := HIN.out; have := HL2.out; unfold maxLen; omega
                      case c3 => have := HKd.out.size; simp only [World.size_alloc]; omega
                      intro v7 w7' hA7
                      have hown6 := own_later HOR.out (Later.alloc wd (.cells #[.int .i64 x.node, .int .i64 x.group, .slice (some ⟨wc.heap.size, 0, none⟩) x.bytes.length cb] 158 (0, 0)))
                      have hlow := hA7.low hown6
                      have hT7 := hA7.obj ((Later.alloc wd (.cells #[.int .i64 x.node, .int .i64 x.group, .slice (some ⟨wc.heap.size, 0, none⟩) x.bytes.length cb] 158 (0, 0))).obj HTd.out) (fun e => by have := (hown6.lt _ e.symm).1; have := HTS.out; omega)
                      have hB7 := hA7.obj ((Later.alloc wd (.cells #[.int .i64 x.node, .int .i64 x.group, .slice (some ⟨wc.heap.size, 0, none⟩) x.bytes.length cb] 158 (0, 0))).obj HBd.out) (fun e => by have := (hown6.lt _ e.symm).1; have := HBS.out; omega)
                      have hR7 := (HRd.out.later (Later.alloc wd (.cells #[.int .i64 x.node, .int .i64 x.group, .slice (some ⟨wc.heap.size, 0, none⟩) x.bytes.length cb] 158 (0, 0)))).keep hlow fun b hb => Nat.lt_of_le_of_lt hb HRS.out
                      have hK7 := (HKd.out.more (Later.alloc wd (.cells #[.int .i64 x.node, .int .i64 x.group, .slice (some ⟨wc.heap.size, 0, none⟩) x.bytes.length cb] 158 (0, 0)))).low hlow
                      have hH7 := helds_add HHL.out (fun j hj => ((HVS.out j hj).bytes_later (Later.alloc wd (.cells #[.int .i64 x.node, .int .i64 x.group, .slice (some ⟨wc.heap.size, 0, none⟩) x.bytes.length cb] 158 (0, 0)))).bytes_mono fun b hb => ⟨hb.1, hb.2.1, by rw [World.size_alloc]; omega⟩) ((HBD.out.bytes_later (Later.alloc wd (.cells #[.int .i64 x.node, .int .i64 x.group, .slice (some ⟨wc.heap.size, 0, none⟩) x.bytes.length cb] 158 (0, 0)))).bytes_mono fun b hb => ⟨by rw [hb]; have := HKc.out.size; omega, fun e => by have := HLTc.out b e.symm; omega, by rw [World.size_alloc, hb]; have := HSD.out; omega⟩) (by rw [HTL.out]; exact hA7)
                      obtain ⟨a7, c7, rfl⟩ := ownsRow_slice hA7.own
                      have HT8 := hid (obj_setCell (i := 2) hT7 (.slice a7 (i + 1) c7))
                      have HO8 := hid (hH7.keep ((Keeps.refl (fun b => b ≠ T) _).setCell (p := ⟨T, 2, none⟩) (.inl (by simp)) (.slice a7 (i + 1) c7)) fun b hb _ => by have := HTS.out; omega)
                      have HR8 := hid (rdb_set hR7 hT7 (no_u8 _ _ _) HTR.out 2 (.slice a7 (i + 1) c7))
                      have HB8 := hid ((Below.heap_setCell _ ⟨T, 2, none⟩ (.slice a7 (i + 1) c7) Bx HTB.out).trans hB7)
                      have HK8 := hid (hK7.setCell (p := ⟨T, 2, none⟩) (.inl (by simp)) (.slice a7 (i + 1) c7))
                      clear t1 t6
                      have t1 := cell_obj (i := 2) hT7 (v := .slice va i ca) rfl
                      have z1 := free_obj (i := 2) hT7
                      clear hown6 hlow hT7 hB7 hR7 hK7 hA7 hH7
                      simp only [List.setIfInBounds_toArray, List.set] at HT8
                      go_wp2_with fail
                      try simp only [HWM.out]
                      refine Round.mk' HR2.out Hmu2.out rfl ?_ ?_
                      · exact ⟨i + 1, a7, c7, HLT.out, by rw [HME.out]; rfl, HT8.out, by rw [HOS.out]; exact HO8.out, HR8.out, HB8.out, HK8.out⟩
                      · rw [Hh9.out]; have := HM0.out; simp [intOf, slots]; omega
                    · go_simp
                      refine hK _ _ ?_
                      clear hK K
                      replace t1 := (Later.alloc wd (.cells #[.int .i64 x.node, .int .i64 x.group, .slice (some ⟨wc.heap.size, 0, none⟩) x.bytes.length cb] 158 (0, 0))).cell t1
                      refine wpAny_next (i := 1) (by kernel_rfl) rfl (fun _ _ h => wpAny_next (i := 12) (by kernel_rfl) rfl (fun _ _ h => wpAny_next (i := 13) (by kernel_rfl) rfl (fun _ _ h => wpAny_next (i := 14) (rest := []) (by kernel_rfl) rfl (fun _ _ h => wpAny_done (by kernel_rfl) h _) h) h) h) ?_
                      simp only [List.getElem_toArray, List.getElem_cons_succ, List.getElem_cons_zero]
                      obtain ⟨vs, hl, hor, hvs⟩ := HOd.out
                      rw [HTL.out] at hor
                      have HOR := hid hor
                      have HVS := hid hvs
                      have HHL := hid hl
                      clear hor hvs
                      go_wp2_with (at_builtin; go_loud (refine wpList_append_obj rfl _ _ 102 rfl 158 3 40 Tryd.underlying102 infoHe rfl (own_later HOR.out (Later.alloc _ _)) (news := [.int .i64 x.node, .int .i64 x.group, .slice (some ⟨wc.heap.size, 0, none⟩) x.bytes.length cb]) rfl (obj_at (by simp)) rfl (held_one _ _ _ rfl) ?c1 ?c2 ?c3 ?_))
                      case c1 => have := HIN.out; have := HL2.out; omega
                      case c2 => have := HIN.out; have := HL2.out; unfold maxLen; omega
                      case c3 => have := HKd.out.size; simp only [World.size_alloc]; omega
                      intro v7 w7' hA7
                      have hown6 := own_later HOR.out (Later.alloc wd (.cells #[.int .i64 x.node, .int .i64 x.group, .slice (some ⟨wc.heap.size, 0, none⟩) x.bytes.length cb] 158 (0, 0)))
                      have hlow := hA7.low hown6
                      have hT7 := hA7.obj ((Later.alloc wd (.cells #[.int .i64 x.node, .int .i64 x.group, .slice (some ⟨wc.heap.size, 0, none⟩) x.bytes.length cb] 158 (0, 0))).obj HTd.out) (fun e => by have := (hown6.lt _ e.symm).1; have := HTS.out; omega)
                      have hB7 := hA7.obj ((Later.alloc wd (.cells #[.int .i64 x.node, .int .i64 x.group, .slice (some ⟨wc.heap.size, 0, none⟩) x.bytes.length cb] 158 (0, 0))).obj HBd.out) (fun e => by have := (hown6.lt _ e.symm).1; have := HBS.out; omega)
                      have hR7 := (HRd.out.later (Later.alloc wd (.cells #[.int .i64 x.node, .int .i64 x.group, .slice (some ⟨wc.heap.size, 0, none⟩) x.bytes.length cb] 158 (0, 0)))).keep hlow fun b hb => Nat.lt_of_le_of_lt hb HRS.out
                      have hK7 := (HKd.out.more (Later.alloc wd (.cells #[.int .i64 x.node, .int .i64 x.group, .slice (some ⟨wc.heap.size, 0, none⟩) x.bytes.length cb] 158 (0, 0)))).low hlow
                      have hH7 := helds_add HHL.out (fun j hj => ((HVS.out j hj).bytes_later (Later.alloc wd (.cells #[.int .i64 x.node, .int .i64 x.group, .slice (some ⟨wc.heap.size, 0, none⟩) x.bytes.length cb] 158 (0, 0)))).bytes_mono fun b hb => ⟨hb.1, hb.2.1, by rw [World.size_alloc]; omega⟩) ((HBD.out.bytes_later (Later.alloc wd (.cells #[.int .i64 x.node, .int .i64 x.group, .slice (some ⟨wc.heap.size, 0, none⟩) x.bytes.length cb] 158 (0, 0)))).bytes_mono fun b hb => ⟨by rw [hb]; have := HKc.out.size; omega, fun e => by have := HLTc.out b e.symm; omega, by rw [World.size_alloc, hb]; have := HSD.out; omega⟩) (by rw [HTL.out]; exact hA7)
                      obtain ⟨a7, c7, rfl⟩ := ownsRow_slice hA7.own
                      have HT8 := hid (obj_setCell (i := 2) hT7 (.slice a7 (i + 1) c7))
                      have HO8 := hid (hH7.keep ((Keeps.refl (fun b => b ≠ T) _).setCell (p := ⟨T, 2, none⟩) (.inl (by simp)) (.slice a7 (i + 1) c7)) fun b hb _ => by have := HTS.out; omega)
                      have HR8 := hid (rdb_set hR7 hT7 (no_u8 _ _ _) HTR.out 2 (.slice a7 (i + 1) c7))
                      have HB8 := hid ((Below.heap_setCell _ ⟨T, 2, none⟩ (.slice a7 (i + 1) c7) Bx HTB.out).trans hB7)
                      have HK8 := hid (hK7.setCell (p := ⟨T, 2, none⟩) (.inl (by simp)) (.slice a7 (i + 1) c7))
                      clear t1 t6
                      have t1 := cell_obj (i := 2) hT7 (v := .slice va i ca) rfl
                      have z1 := free_obj (i := 2) hT7
                      clear hown6 hlow hT7 hB7 hR7 hK7 hA7 hH7
                      simp only [List.setIfInBounds_toArray, List.set] at HT8
                      go_wp2_with fail
                      try simp only [HWM.out]
                      refine Round.mk' HR2.out Hmu2.out rfl ?_ ?_
                      · exact ⟨i + 1, a7, c7, HLT.out, by rw [HME.out]; rfl, HT8.out, by rw [HOS.out]; exact HO8.out, HR8.out, HB8.out, HK8.out⟩
                      · rw [Hh9.out]; have := HM0.out; simp [intOf, slots]; omega
            · go_simp
              refine hK _ _ ?_
              clear hK K
              refine wpAny_ready (rs := [1, 5]) (by kernel_rfl) (by simp) (AllReady.cons rfl (fun K hK => ?_) (AllReady.cons rfl (fun K hK => ?_) AllReady.nil))
              · go_simp
                refine hK _ _ ?_
                clear hK K
                refine wpAny_next (i := 5) (by kernel_rfl) rfl (fun _ _ h => wpAny_next (i := 7) (by kernel_rfl) rfl (fun _ _ h => wpAny_next (i := 8) (by kernel_rfl) rfl (fun _ _ h => wpAny_next (i := 9) (by kernel_rfl) rfl (fun _ _ h => wpAny_next (i := 10) (by kernel_rfl) rfl (fun _ _ h => wpAny_next (i := 11) (by kernel_rfl) rfl (fun _ _ h => wpAny_next (i := 12) (by kernel_rfl) rfl (fun _ _ h => wpAny_next (i := 13) (by kernel_rfl) rfl (fun _ _ h => wpAny_next (i := 14) (rest := []) (by kernel_rfl) rfl (fun _ _ h => wpAny_done (by kernel_rfl) h _) h) h) h) h) h) h) h) h) ?_
                simp only [List.getElem_toArray, List.getElem_cons_succ, List.getElem_cons_zero]
                go_wp2_with fail
                refine (number_any _ Bx R x.group _ _ HBa.out HRa.out HXH.out.2).mono ?_
                rintro e wb ⟨rfl, hr, hk⟩
                have HTb := hid (hk.obj HTR.out HTa.out)
                have HBb := hid (hk.obj HBR.out HBa.out)
                have HOb := hid (HOa.out.keep hk fun b hb _ => by have := HRS.out; omega)
                have HRb := hid hr
                have HKb := hid (HKa.out.trans (hk.mono (S' := fun b => b ≠ R ∧ b ≠ T) fun _ _ h => h.1))
                clear hr hk t1 t6
                have t1 := cell_obj (i := 2) HTb.out (v := .slice va i ca) rfl
                have t6 := cell_obj (i := 0) HBb.out rfl
                go_wp2_with fail
                refine (text_got R x.bytes _ _ HRb.out HXL.out).mono ?_
                rintro e wc ⟨rfl, hr, hk⟩
                have HTc := hid (hk.obj HTR.out HTb.out)
                have HBc := hid (hk.obj HBR.out HBb.out)
                have HOc := hid (HOb.out.keep hk fun b hb _ => by have := HRS.out; omega)
                have HRc := hid hr
                have HKc := hid (HKb.out.trans (hk.mono (S' := fun b => b ≠ R ∧ b ≠ T) fun _ _ h => h.1))
                clear hr hk t1 t6
                have t1 := cell_obj (i := 2) HTc.out (v := .slice va i ca) rfl
                have t6 := cell_obj (i := 0) HBc.out rfl
                go_wp2_with (refine wpList_bytes_new rfl _ 9 76 5 rfl Tryd.underlying9 Tryd.underlying76 Tryd.underlying5 (strB x.bytes) rfl (by rw [strB_size]; have := HXL.out; unfold maxLen; omega) ?_)
                have HLTc : Hid (∀ k, (Value.slice va i ca).ownBlock = some k → k < wc.heap.size) := hid (fun k hk => by obtain ⟨vs, hl, hor, -⟩ := HOc.out; exact (hor.lt k hk).2)
                intro cb wd hLd hsd hbd
                have HTd := hid (hLd.obj HTc.out)
                have HBd := hid (hLd.obj HBc.out)
                have HOd := hid (HOc.out.keep (hLd.keeps (fun _ => True)) fun _ _ _ => trivial)
                have HRd := hid (HRc.out.later hLd)
                have HKd := hid (HKc.out.more hLd)
                rw [strB_size] at hbd ⊢
                have HBD := hid hbd
                have HSD := hid hsd
                clear hLd hsd hbd t1 t6
                have t1 := cell_obj (i := 2) HTd.out (v := .slice va i ca) rfl
                have t6 := cell_obj (i := 0) HBd.out rfl
                obtain ⟨vs, hl, hor, hvs⟩ := HOd.out
                rw [HTL.out] at hor
                have HOR := hid hor
                have HVS := hid hvs
                have HHL := hid hl
                clear hor hvs
                go_wp2_with (at_builtin; go_loud (refine wpList_append_obj rfl _ _ 102 rfl 158 3 40 Tryd.underlying102 infoHe rfl (own_later HOR.out (Later.alloc _ _)) (news := [.int .i64 x.node, .int .i64 x.group, .slice (some ⟨wc.heap.size, 0, none⟩) x.bytes.length cb]) rfl (obj_at (by simp)) rfl (held_one _ _ _ rfl) ?c1 ?c2 ?c3 ?_))
                case c1 => have := HIN.out; have := HL2.out; omega
                case c2 => have := HIN.out; have := HL2.out; unfold maxLen; omega
                case c3 => have := HKd.out.size; simp only [World.size_alloc]; omega
                intro v7 w7' hA7
                have hown6 := own_later HOR.out (Later.alloc wd (.cells #[.int .i64 x.node, .int .i64 x.group, .slice (some ⟨wc.heap.size, 0, none⟩) x.bytes.length cb] 158 (0, 0)))
                have hlow := hA7.low hown6
                have hT7 := hA7.obj ((Later.alloc wd (.cells #[.int .i64 x.node, .int .i64 x.group, .slice (some ⟨wc.heap.size, 0, none⟩) x.bytes.length cb] 158 (0, 0))).obj HTd.out) (fun e => by have := (hown6.lt _ e.symm).1; have := HTS.out; omega)
                have hB7 := hA7.obj ((Later.alloc wd (.cells #[.int .i64 x.node, .int .i64 x.group, .slice (some ⟨wc.heap.size, 0, none⟩) x.bytes.length cb] 158 (0, 0))).obj HBd.out) (fun e => by have := (hown6.lt _ e.symm).1; have := HBS.out; omega)
                have hR7 := (HRd.out.later (Later.alloc wd (.cells #[.int .i64 x.node, .int .i64 x.group, .slice (some ⟨wc.heap.size, 0, none⟩) x.bytes.length cb] 158 (0, 0)))).keep hlow fun b hb => Nat.lt_of_le_of_lt hb HRS.out
                have hK7 := (HKd.out.more (Later.alloc wd (.cells #[.int .i64 x.node, .int .i64 x.group, .slice (some ⟨wc.heap.size, 0, none⟩) x.bytes.length cb] 158 (0, 0)))).low hlow
                have hH7 := helds_add HHL.out (fun j hj => ((HVS.out j hj).bytes_later (Later.alloc wd (.cells #[.int .i64 x.node, .int .i64 x.group, .slice (some ⟨wc.heap.size, 0, none⟩) x.bytes.length cb] 158 (0, 0)))).bytes_mono fun b hb => ⟨hb.1, hb.2.1, by rw [World.size_alloc]; omega⟩) ((HBD.out.bytes_later (Later.alloc wd (.cells #[.int .i64 x.node, .int .i64 x.group, .slice (some ⟨wc.heap.size, 0, none⟩) x.bytes.length cb] 158 (0, 0)))).bytes_mono fun b hb => ⟨by rw [hb]; have := HKc.out.size; omega, fun e => by have := HLTc.out b e.symm; omega, by rw [World.size_alloc, hb]; have := HSD.out; omega⟩) (by rw [HTL.out]; exact hA7)
                obtain ⟨a7, c7, rfl⟩ := ownsRow_slice hA7.own
                have HT8 := hid (obj_setCell (i := 2) hT7 (.slice a7 (i + 1) c7))
                have HO8 := hid (hH7.keep ((Keeps.refl (fun b => b ≠ T) _).setCell (p := ⟨T, 2, none⟩) (.inl (by simp)) (.slice a7 (i + 1) c7)) fun b hb _ => by have := HTS.out; omega)
                have HR8 := hid (rdb_set hR7 hT7 (no_u8 _ _ _) HTR.out 2 (.slice a7 (i + 1) c7))
                have HB8 := hid ((Below.heap_setCell _ ⟨T, 2, none⟩ (.slice a7 (i + 1) c7) Bx HTB.out).trans hB7)
                have HK8 := hid (hK7.setCell (p := ⟨T, 2, none⟩) (.inl (by simp)) (.slice a7 (i + 1) c7))
                clear t1 t6
                have t1 := cell_obj (i := 2) hT7 (v := .slice va i ca) rfl
                have z1 := free_obj (i := 2) hT7
                clear hown6 hlow hT7 hB7 hR7 hK7 hA7 hH7
                simp only [List.setIfInBounds_toArray, List.set] at HT8
                go_wp2_with fail
                try simp only [HWM.out]
                refine Round.mk' HR2.out Hmu2.out rfl ?_ ?_
                · exact ⟨i + 1, a7, c7, HLT.out, by rw [HME.out]; rfl, HT8.out, by rw [HOS.out]; exact HO8.out, HR8.out, HB8.out, HK8.out⟩
                · rw [Hh9.out]; have := HM0.out; simp [intOf, slots]; omega
              · go_simp
                refine (number_any _ Bx R x.group _ _ HBa.out HRa.out HXH.out.2).mono ?_
                rintro e wb ⟨rfl, hr, hk⟩
                have HTb := hid (hk.obj HTR.out HTa.out)
                have HBb := hid (hk.obj HBR.out HBa.out)
                have HOb := hid (HOa.out.keep hk fun b hb _ => by have := HRS.out; omega)
                have HRb := hid hr
                have HKb := hid (HKa.out.trans (hk.mono (S' := fun b => b ≠ R ∧ b ≠ T) fun _ _ h => h.1))
                clear hr hk t1 t6
                have t1 := cell_obj (i := 2) HTb.out (v := .slice va i ca) rfl
                have t6 := cell_obj (i := 0) HBb.out rfl
                refine hK _ _ ?_
                clear hK K
                refine wpAny_ready (rs := [1, 7]) (by kernel_rfl) (by simp) (AllReady.cons rfl (fun K hK => ?_) (AllReady.cons rfl (fun K hK => ?_) AllReady.nil))
                · go_simp
                  refine hK _ _ ?_
                  clear hK K
                  refine wpAny_next (i := 7) (by kernel_rfl) rfl (fun _ _ h => wpAny_next (i := 8) (by kernel_rfl) rfl (fun _ _ h => wpAny_next (i := 9) (by kernel_rfl) rfl (fun _ _ h => wpAny_next (i := 10) (by kernel_rfl) rfl (fun _ _ h => wpAny_next (i := 11) (by kernel_rfl) rfl (fun _ _ h => wpAny_next (i := 12) (by kernel_rfl) rfl (fun _ _ h => wpAny_next (i := 13) (by kernel_rfl) rfl (fun _ _ h => wpAny_next (i := 14) (rest := []) (by kernel_rfl) rfl (fun _ _ h => wpAny_done (by kernel_rfl) h _) h) h) h) h) h) h) h) ?_
                  simp only [List.getElem_toArray, List.getElem_cons_succ, List.getElem_cons_zero]
                  go_wp2_with fail
                  refine (text_got R x.bytes _ _ HRb.out HXL.out).mono ?_
                  rintro e wc ⟨rfl, hr, hk⟩
                  have HTc := hid (hk.obj HTR.out HTb.out)
                  have HBc := hid (hk.obj HBR.out HBb.out)
                  have HOc := hid (HOb.out.keep hk fun b hb _ => by have := HRS.out; omega)
                  have HRc := hid hr
                  have HKc := hid (HKb.out.trans (hk.mono (S' := fun b => b ≠ R ∧ b ≠ T) fun _ _ h => h.1))
                  clear hr hk t1 t6
                  have t1 := cell_obj (i := 2) HTc.out (v := .slice va i ca) rfl
                  have t6 := cell_obj (i := 0) HBc.out rfl
                  go_wp2_with (refine wpList_bytes_new rfl _ 9 76 5 rfl Tryd.underlying9 Tryd.underlying76 Tryd.underlying5 (strB x.bytes) rfl (by rw [strB_size]; have := HXL.out; unfold maxLen; omega) ?_)
                  have HLTc : Hid (∀ k, (Value.slice va i ca).ownBlock = some k → k < wc.heap.size) := hid (fun k hk => by obtain ⟨vs, hl, hor, -⟩ := HOc.out; exact (hor.lt k hk).2)
                  intro cb wd hLd hsd hbd
                  have HTd := hid (hLd.obj HTc.out)
                  have HBd := hid (hLd.obj HBc.out)
                  have HOd := hid (HOc.out.keep (hLd.keeps (fun _ => True)) fun _ _ _ => trivial)
                  have HRd := hid (HRc.out.later hLd)
                  have HKd := hid (HKc.out.more hLd)
                  rw [strB_size] at hbd ⊢
                  have HBD := hid hbd
                  have HSD := hid hsd
                  clear hLd hsd hbd t1 t6
                  have t1 := cell_obj (i := 2) HTd.out (v := .slice va i ca) rfl
                  have t6 := cell_obj (i := 0) HBd.out rfl
                  obtain ⟨vs, hl, hor, hvs⟩ := HOd.out
                  rw [HTL.out] at hor
                  have HOR := hid hor
                  have HVS := hid hvs
                  have HHL := hid hl
                  clear hor hvs
                  go_wp2_with (at_builtin; go_loud (refine wpList_append_obj rfl _ _ 102 rfl 158 3 40 Tryd.underlying102 infoHe rfl (own_later HOR.out (Later.alloc _ _)) (news := [.int .i64 x.node, .int .i64 x.group, .slice (some ⟨wc.heap.size, 0, none⟩) x.bytes.length cb]) rfl (obj_at (by simp)) rfl (held_one _ _ _ rfl) ?c1 ?c2 ?c3 ?_))
                  case c1 => have := HIN.out; have := HL2.out; omega
                  case c2 => have := HIN.out; have := HL2.out; unfold maxLen; omega
                  case c3 => have := HKd.out.size; simp only [World.size_alloc]; omega
                  intro v7 w7' hA7
                  have hown6 := own_later HOR.out (Later.alloc wd (.cells #[.int .i64 x.node, .int .i64 x.group, .slice (some ⟨wc.heap.size, 0, none⟩) x.bytes.length cb] 158 (0, 0)))
                  have hlow := hA7.low hown6
                  have hT7 := hA7.obj ((Later.alloc wd (.cells #[.int .i64 x.node, .int .i64 x.group, .slice (some ⟨wc.heap.size, 0, none⟩) x.bytes.length cb] 158 (0, 0))).obj HTd.out) (fun e => by have := (hown6.lt _ e.symm).1; have := HTS.out; omega)
                  have hB7 := hA7.obj ((Later.alloc wd (.cells #[.int .i64 x.node, .int .i64 x.group, .slice (some ⟨wc.heap.size, 0, none⟩) x.bytes.length cb] 158 (0, 0))).obj HBd.out) (fun e => by have := (hown6.lt _ e.symm).1; have := HBS.out; omega)
                  have hR7 := (HRd.out.later (Later.alloc wd (.cells #[.int .i64 x.node, .int .i64 x.group, .slice (some ⟨wc.heap.size, 0, none⟩) x.bytes.length cb] 158 (0, 0)))).keep hlow fun b hb => Nat.lt_of_le_of_lt hb HRS.out
                  have hK7 := (HKd.out.more (Later.alloc wd (.cells #[.int .i64 x.node, .int .i64 x.group, .slice (some ⟨wc.heap.size, 0, none⟩) x.bytes.length cb] 158 (0, 0)))).low hlow
                  have hH7 := helds_add HHL.out (fun j hj => ((HVS.out j hj).bytes_later (Later.alloc wd (.cells #[.int .i64 x.node, .int .i64 x.group, .slice (some ⟨wc.heap.size, 0, none⟩) x.bytes.length cb] 158 (0, 0)))).bytes_mono fun b hb => ⟨hb.1, hb.2.1, by rw [World.size_alloc]; omega⟩) ((HBD.out.bytes_later (Later.alloc wd (.cells #[.int .i64 x.node, .int .i64 x.group, .slice (some ⟨wc.heap.size, 0, none⟩) x.bytes.length cb] 158 (0, 0)))).bytes_mono fun b hb => ⟨by rw [hb]; have := HKc.out.size; omega, fun e => by have := HLTc.out b e.symm; omega, by rw [World.size_alloc, hb]; have := HSD.out; omega⟩) (by rw [HTL.out]; exact hA7)
                  obtain ⟨a7, c7, rfl⟩ := ownsRow_slice hA7.own
                  have HT8 := hid (obj_setCell (i := 2) hT7 (.slice a7 (i + 1) c7))
                  have HO8 := hid (hH7.keep ((Keeps.refl (fun b => b ≠ T) _).setCell (p := ⟨T, 2, none⟩) (.inl (by simp)) (.slice a7 (i + 1) c7)) fun b hb _ => by have := HTS.out; omega)
                  have HR8 := hid (rdb_set hR7 hT7 (no_u8 _ _ _) HTR.out 2 (.slice a7 (i + 1) c7))
                  have HB8 := hid ((Below.heap_setCell _ ⟨T, 2, none⟩ (.slice a7 (i + 1) c7) Bx HTB.out).trans hB7)
                  have HK8 := hid (hK7.setCell (p := ⟨T, 2, none⟩) (.inl (by simp)) (.slice a7 (i + 1) c7))
                  clear t1 t6
                  have t1 := cell_obj (i := 2) hT7 (v := .slice va i ca) rfl
                  have z1 := free_obj (i := 2) hT7
                  clear hown6 hlow hT7 hB7 hR7 hK7 hA7 hH7
                  simp only [List.setIfInBounds_toArray, List.set] at HT8
                  go_wp2_with fail
                  try simp only [HWM.out]
                  refine Round.mk' HR2.out Hmu2.out rfl ?_ ?_
                  · exact ⟨i + 1, a7, c7, HLT.out, by rw [HME.out]; rfl, HT8.out, by rw [HOS.out]; exact HO8.out, HR8.out, HB8.out, HK8.out⟩
                  · rw [Hh9.out]; have := HM0.out; simp [intOf, slots]; omega
                · go_simp
                  refine (text_got R x.bytes _ _ HRb.out HXL.out).mono ?_
                  rintro e wc ⟨rfl, hr, hk⟩
                  have HTc := hid (hk.obj HTR.out HTb.out)
                  have HBc := hid (hk.obj HBR.out HBb.out)
                  have HOc := hid (HOb.out.keep hk fun b hb _ => by have := HRS.out; omega)
                  have HRc := hid hr
                  have HKc := hid (HKb.out.trans (hk.mono (S' := fun b => b ≠ R ∧ b ≠ T) fun _ _ h => h.1))
                  clear hr hk t1 t6
                  have t1 := cell_obj (i := 2) HTc.out (v := .slice va i ca) rfl
                  have t6 := cell_obj (i := 0) HBc.out rfl
                  refine hK _ _ ?_
                  clear hK K
                  refine wpAny_ready (rs := [1, 8]) (by kernel_rfl) (by simp) (AllReady.cons rfl (fun K hK => ?_) (AllReady.cons rfl (fun K hK => ?_) AllReady.nil))
                  · go_simp
                    refine hK _ _ ?_
                    clear hK K
                    refine wpAny_next (i := 8) (by kernel_rfl) rfl (fun _ _ h => wpAny_next (i := 9) (by kernel_rfl) rfl (fun _ _ h => wpAny_next (i := 10) (by kernel_rfl) rfl (fun _ _ h => wpAny_next (i := 11) (by kernel_rfl) rfl (fun _ _ h => wpAny_next (i := 12) (by kernel_rfl) rfl (fun _ _ h => wpAny_next (i := 13) (by kernel_rfl) rfl (fun _ _ h => wpAny_next (i := 14) (rest := []) (by kernel_rfl) rfl (fun _ _ h => wpAny_done (by kernel_rfl) h _) h) h) h) h) h) h) ?_
                    simp only [List.getElem_toArray, List.getElem_cons_succ, List.getElem_cons_zero]
                    go_wp2_with (refine wpList_bytes_new rfl _ 9 76 5 rfl Tryd.underlying9 Tryd.underlying76 Tryd.underlying5 (strB x.bytes) rfl (by rw [strB_size]; have := HXL.out; unfold maxLen; omega) ?_)
                    have HLTc : Hid (∀ k, (Value.slice va i ca).ownBlock = some k → k < wc.heap.size) := hid (fun k hk => by obtain ⟨vs, hl, hor, -⟩ := HOc.out; exact (hor.lt k hk).2)
                    intro cb wd hLd hsd hbd
                    have HTd := hid (hLd.obj HTc.out)
                    have HBd := hid (hLd.obj HBc.out)
                    have HOd := hid (HOc.out.keep (hLd.keeps (fun _ => True)) fun _ _ _ => trivial)
                    have HRd := hid (HRc.out.later hLd)
                    have HKd := hid (HKc.out.more hLd)
                    rw [strB_size] at hbd ⊢
                    have HBD := hid hbd
                    have HSD := hid hsd
                    clear hLd hsd hbd t1 t6
                    have t1 := cell_obj (i := 2) HTd.out (v := .slice va i ca) rfl
                    have t6 := cell_obj (i := 0) HBd.out rfl
                    obtain ⟨vs, hl, hor, hvs⟩ := HOd.out
                    rw [HTL.out] at hor
                    have HOR := hid hor
                    have HVS := hid hvs
                    have HHL := hid hl
                    clear hor hvs
                    go_wp2_with (at_builtin; go_loud (refine wpList_append_obj rfl _ _ 102 rfl 158 3 40 Tryd.underlying102 infoHe rfl (own_later HOR.out (Later.alloc _ _)) (news := [.int .i64 x.node, .int .i64 x.group, .slice (some ⟨wc.heap.size, 0, none⟩) x.bytes.length cb]) rfl (obj_at (by simp)) rfl (held_one _ _ _ rfl) ?c1 ?c2 ?c3 ?_))
                    case c1 => have := HIN.out; have := HL2.out; omega
                    case c2 => have := HIN.out; have := HL2.out; unfold maxLen; omega
                    case c3 => have := HKd.out.size; simp only [World.size_alloc]; omega
                    intro v7 w7' hA7
                    have hown6 := own_later HOR.out (Later.alloc wd (.cells #[.int .i64 x.node, .int .i64 x.group, .slice (some ⟨wc.heap.size, 0, none⟩) x.bytes.length cb] 158 (0, 0)))
                    have hlow := hA7.low hown6
                    have hT7 := hA7.obj ((Later.alloc wd (.cells #[.int .i64 x.node, .int .i64 x.group, .slice (some ⟨wc.heap.size, 0, none⟩) x.bytes.length cb] 158 (0, 0))).obj HTd.out) (fun e => by have := (hown6.lt _ e.symm).1; have := HTS.out; omega)
                    have hB7 := hA7.obj ((Later.alloc wd (.cells #[.int .i64 x.node, .int .i64 x.group, .slice (some ⟨wc.heap.size, 0, none⟩) x.bytes.length cb] 158 (0, 0))).obj HBd.out) (fun e => by have := (hown6.lt _ e.symm).1; have := HBS.out; omega)
                    have hR7 := (HRd.out.later (Later.alloc wd (.cells #[.int .i64 x.node, .int .i64 x.group, .slice (some ⟨wc.heap.size, 0, none⟩) x.bytes.length cb] 158 (0, 0)))).keep hlow fun b hb => Nat.lt_of_le_of_lt hb HRS.out
                    have hK7 := (HKd.out.more (Later.alloc wd (.cells #[.int .i64 x.node, .int .i64 x.group, .slice (some ⟨wc.heap.size, 0, none⟩) x.bytes.length cb] 158 (0, 0)))).low hlow
                    have hH7 := helds_add HHL.out (fun j hj => ((HVS.out j hj).bytes_later (Later.alloc wd (.cells #[.int .i64 x.node, .int .i64 x.group, .slice (some ⟨wc.heap.size, 0, none⟩) x.bytes.length cb] 158 (0, 0)))).bytes_mono fun b hb => ⟨hb.1, hb.2.1, by rw [World.size_alloc]; omega⟩) ((HBD.out.bytes_later (Later.alloc wd (.cells #[.int .i64 x.node, .int .i64 x.group, .slice (some ⟨wc.heap.size, 0, none⟩) x.bytes.length cb] 158 (0, 0)))).bytes_mono fun b hb => ⟨by rw [hb]; have := HKc.out.size; omega, fun e => by have := HLTc.out b e.symm; omega, by rw [World.size_alloc, hb]; have := HSD.out; omega⟩) (by rw [HTL.out]; exact hA7)
                    obtain ⟨a7, c7, rfl⟩ := ownsRow_slice hA7.own
                    have HT8 := hid (obj_setCell (i := 2) hT7 (.slice a7 (i + 1) c7))
                    have HO8 := hid (hH7.keep ((Keeps.refl (fun b => b ≠ T) _).setCell (p := ⟨T, 2, none⟩) (.inl (by simp)) (.slice a7 (i + 1) c7)) fun b hb _ => by have := HTS.out; omega)
                    have HR8 := hid (rdb_set hR7 hT7 (no_u8 _ _ _) HTR.out 2 (.slice a7 (i + 1) c7))
                    have HB8 := hid ((Below.heap_setCell _ ⟨T, 2, none⟩ (.slice a7 (i + 1) c7) Bx HTB.out).trans hB7)
                    have HK8 := hid (hK7.setCell (p := ⟨T, 2, none⟩) (.inl (by simp)) (.slice a7 (i + 1) c7))
                    clear t1 t6
                    have t1 := cell_obj (i := 2) hT7 (v := .slice va i ca) rfl
                    have z1 := free_obj (i := 2) hT7
                    clear hown6 hlow hT7 hB7 hR7 hK7 hA7 hH7
                    simp only [List.setIfInBounds_toArray, List.set] at HT8
                    go_wp2_with fail
                    try simp only [HWM.out]
                    refine Round.mk' HR2.out Hmu2.out rfl ?_ ?_
                    · exact ⟨i + 1, a7, c7, HLT.out, by rw [HME.out]; rfl, HT8.out, by rw [HOS.out]; exact HO8.out, HR8.out, HB8.out, HK8.out⟩
                    · rw [Hh9.out]; have := HM0.out; simp [intOf, slots]; omega
                  · refine oper_bytes_new rfl _ 9 76 5 rfl Tryd.underlying9 Tryd.underlying76 Tryd.underlying5 (strB x.bytes) rfl (by rw [strB_size]; have := HXL.out; unfold maxLen; omega) ?_
                    have HLTc : Hid (∀ k, (Value.slice va i ca).ownBlock = some k → k < wc.heap.size) := hid (fun k hk => by obtain ⟨vs, hl, hor, -⟩ := HOc.out; exact (hor.lt k hk).2)
                    intro cb wd hLd hsd hbd
                    have HTd := hid (hLd.obj HTc.out)
                    have HBd := hid (hLd.obj HBc.out)
                    have HOd := hid (HOc.out.keep (hLd.keeps (fun _ => True)) fun _ _ _ => trivial)
                    have HRd := hid (HRc.out.later hLd)
                    have HKd := hid (HKc.out.more hLd)
                    rw [strB_size] at hbd ⊢
                    have HBD := hid hbd
                    have HSD := hid hsd
                    clear hLd hsd hbd t1 t6
                    have t1 := cell_obj (i := 2) HTd.out (v := .slice va i ca) rfl
                    have t6 := cell_obj (i := 0) HBd.out rfl
                    refine hK _ _ ?_
                    clear hK K
                    refine wpAny_take (i := 9) (v := .agg #[.int .i64 x.group, .slice (some ⟨wc.heap.size, 0, none⟩) x.bytes.length cb]) rfl (by kernel_rfl) (by kernel_rfl) (by kernel_rfl) (fun _ _ _ h => h) (Or.inl ⟨by rfl, ?_⟩) ?_
                    · intro w; go_simp
                    simp only [Act.put, List.setIfInBounds_toArray, List.set]
                    refine wpAny_take (i := 10) (v := .agg #[.int .i64 x.node, .int .i64 x.group, .slice (some ⟨wc.heap.size, 0, none⟩) x.bytes.length cb]) rfl (by kernel_rfl) (by kernel_rfl) (by kernel_rfl) (fun _ _ _ h => h) (Or.inl ⟨by rfl, ?_⟩) ?_
                    · intro w; go_simp
                    simp only [Act.put, List.setIfInBounds_toArray, List.set]
                    refine wpAny_ready (rs := [1, 11]) (by kernel_rfl) (by simp) (AllReady.cons rfl (fun K hK => ?_) (AllReady.cons rfl (fun K hK => ?_) AllReady.nil))
                    · go_simp
                      refine hK _ _ ?_
                      clear hK K
                      refine wpAny_next (i := 11) (by kernel_rfl) rfl (fun _ _ h => wpAny_next (i := 12) (by kernel_rfl) rfl (fun _ _ h => wpAny_next (i := 13) (by kernel_rfl) rfl (fun _ _ h => wpAny_next (i := 14) (rest := []) (by kernel_rfl) rfl (fun _ _ h => wpAny_done (by kernel_rfl) h _) h) h) h) ?_
                      simp only [List.getElem_toArray, List.getElem_cons_succ, List.getElem_cons_zero]
                      obtain ⟨vs, hl, hor, hvs⟩ := HOd.out
                      rw [HTL.out] at hor
                      have HOR := hid hor
                      have HVS := hid hvs
                      have HHL := hid hl
                      clear hor hvs
                      go_wp2_with (at_builtin; go_loud (refine wpList_append_obj rfl _ _ 102 rfl 158 3 40 Tryd.underlying102 infoHe rfl (own_later HOR.out (Later.alloc _ _)) (news := [.int .i64 x.node, .int .i64 x.group, .slice (some ⟨wc.heap.size, 0, none⟩) x.bytes.length cb]) rfl (obj_at (by simp)) rfl (held_one _ _ _ rfl) ?c1 ?c2 ?c3 ?_))
                      case c1 => have := HIN.out; have := HL2.out; omega
                      case c2 => have := HIN.out; have := HL2.out; unfold maxLen; omega
                      case c3 => have := HKd.out.size; simp only [World.size_alloc]; omega
                      intro v7 w7' hA7
                      have hown6 := own_later HOR.out (Later.alloc wd (.cells #[.int .i64 x.node, .int .i64 x.group, .slice (some ⟨wc.heap.size, 0, none⟩) x.bytes.length cb] 158 (0, 0)))
                      have hlow := hA7.low hown6
                      have hT7 := hA7.obj ((Later.alloc wd (.cells #[.int .i64 x.node, .int .i64 x.group, .slice (some ⟨wc.heap.size, 0, none⟩) x.bytes.length cb] 158 (0, 0))).obj HTd.out) (fun e => by have := (hown6.lt _ e.symm).1; have := HTS.out; omega)
                      have hB7 := hA7.obj ((Later.alloc wd (.cells #[.int .i64 x.node, .int .i64 x.group, .slice (some ⟨wc.heap.size, 0, none⟩) x.bytes.length cb] 158 (0, 0))).obj HBd.out) (fun e => by have := (hown6.lt _ e.symm).1; have := HBS.out; omega)
                      have hR7 := (HRd.out.later (Later.alloc wd (.cells #[.int .i64 x.node, .int .i64 x.group, .slice (some ⟨wc.heap.size, 0, none⟩) x.bytes.length cb] 158 (0, 0)))).keep hlow fun b hb => Nat.lt_of_le_of_lt hb HRS.out
                      have hK7 := (HKd.out.more (Later.alloc wd (.cells #[.int .i64 x.node, .int .i64 x.group, .slice (some ⟨wc.heap.size, 0, none⟩) x.bytes.length cb] 158 (0, 0)))).low hlow
                      have hH7 := helds_add HHL.out (fun j hj => ((HVS.out j hj).bytes_later (Later.alloc wd (.cells #[.int .i64 x.node, .int .i64 x.group, .slice (some ⟨wc.heap.size, 0, none⟩) x.bytes.length cb] 158 (0, 0)))).bytes_mono fun b hb => ⟨hb.1, hb.2.1, by rw [World.size_alloc]; omega⟩) ((HBD.out.bytes_later (Later.alloc wd (.cells #[.int .i64 x.node, .int .i64 x.group, .slice (some ⟨wc.heap.size, 0, none⟩) x.bytes.length cb] 158 (0, 0)))).bytes_mono fun b hb => ⟨by rw [hb]; have := HKc.out.size; omega, fun e => by have := HLTc.out b e.symm; omega, by rw [World.size_alloc, hb]; have := HSD.out; omega⟩) (by rw [HTL.out]; exact hA7)
                      obtain ⟨a7, c7, rfl⟩ := ownsRow_slice hA7.own
                      have HT8 := hid (obj_setCell (i := 2) hT7 (.slice a7 (i + 1) c7))
                      have HO8 := hid (hH7.keep ((Keeps.refl (fun b => b ≠ T) _).setCell (p := ⟨T, 2, none⟩) (.inl (by simp)) (.slice a7 (i + 1) c7)) fun b hb _ => by have := HTS.out; omega)
                      have HR8 := hid (rdb_set hR7 hT7 (no_u8 _ _ _) HTR.out 2 (.slice a7 (i + 1) c7))
                      have HB8 := hid ((Below.heap_setCell _ ⟨T, 2, none⟩ (.slice a7 (i + 1) c7) Bx HTB.out).trans hB7)
                      have HK8 := hid (hK7.setCell (p := ⟨T, 2, none⟩) (.inl (by simp)) (.slice a7 (i + 1) c7))
                      clear t1 t6
                      have t1 := cell_obj (i := 2) hT7 (v := .slice va i ca) rfl
                      have z1 := free_obj (i := 2) hT7
                      clear hown6 hlow hT7 hB7 hR7 hK7 hA7 hH7
                      simp only [List.setIfInBounds_toArray, List.set] at HT8
                      go_wp2_with fail
                      try simp only [HWM.out]
                      refine Round.mk' HR2.out Hmu2.out rfl ?_ ?_
                      · exact ⟨i + 1, a7, c7, HLT.out, by rw [HME.out]; rfl, HT8.out, by rw [HOS.out]; exact HO8.out, HR8.out, HB8.out, HK8.out⟩
                      · rw [Hh9.out]; have := HM0.out; simp [intOf, slots]; omega
                    · go_simp
                      refine hK _ _ ?_
                      clear hK K
                      replace t1 := (Later.alloc wd (.cells #[.int .i64 x.node, .int .i64 x.group, .slice (some ⟨wc.heap.size, 0, none⟩) x.bytes.length cb] 158 (0, 0))).cell t1
                      refine wpAny_next (i := 1) (by kernel_rfl) rfl (fun _ _ h => wpAny_next (i := 12) (by kernel_rfl) rfl (fun _ _ h => wpAny_next (i := 13) (by kernel_rfl) rfl (fun _ _ h => wpAny_next (i := 14) (rest := []) (by kernel_rfl) rfl (fun _ _ h => wpAny_done (by kernel_rfl) h _) h) h) h) ?_
                      simp only [List.getElem_toArray, List.getElem_cons_succ, List.getElem_cons_zero]
                      obtain ⟨vs, hl, hor, hvs⟩ := HOd.out
                      rw [HTL.out] at hor
                      have HOR := hid hor
                      have HVS := hid hvs
                      have HHL := hid hl
                      clear hor hvs
                      go_wp2_with (at_builtin; go_loud (refine wpList_append_obj rfl _ _ 102 rfl 158 3 40 Tryd.underlying102 infoHe rfl (own_later HOR.out (Later.alloc _ _)) (news := [.int .i64 x.node, .int .i64 x.group, .slice (some ⟨wc.heap.size, 0, none⟩) x.bytes.length cb]) rfl (obj_at (by simp)) rfl (held_one _ _ _ rfl) ?c1 ?c2 ?c3 ?_))
                      case c1 => have := HIN.out; have := HL2.out; omega
                      case c2 => have := HIN.out; have := HL2.out; unfold maxLen; omega
                      case c3 => have := HKd.out.size; simp only [World.size_alloc]; omega
                      intro v7 w7' hA7
                      have hown6 := own_later HOR.out (Later.alloc wd (.cells #[.int .i64 x.node, .int .i64 x.group, .slice (some ⟨wc.heap.size, 0, none⟩) x.bytes.length cb] 158 (0, 0)))
                      have hlow := hA7.low hown6
                      have hT7 := hA7.obj ((Later.alloc wd (.cells #[.int .i64 x.node, .int .i64 x.group, .slice (some ⟨wc.heap.size, 0, none⟩) x.bytes.length cb] 158 (0, 0))).obj HTd.out) (fun e => by have := (hown6.lt _ e.symm).1; have := HTS.out; omega)
                      have hB7 := hA7.obj ((Later.alloc wd (.cells #[.int .i64 x.node, .int .i64 x.group, .slice (some ⟨wc.heap.size, 0, none⟩) x.bytes.length cb] 158 (0, 0))).obj HBd.out) (fun e => by have := (hown6.lt _ e.symm).1; have := HBS.out; omega)
                      have hR7 := (HRd.out.later (Later.alloc wd (.cells #[.int .i64 x.node, .int .i64 x.group, .slice (some ⟨wc.heap.size, 0, none⟩) x.bytes.length cb] 158 (0, 0)))).keep hlow fun b hb => Nat.lt_of_le_of_lt hb HRS.out
                      have hK7 := (HKd.out.more (Later.alloc wd (.cells #[.int .i64 x.node, .int .i64 x.group, .slice (some ⟨wc.heap.size, 0, none⟩) x.bytes.length cb] 158 (0, 0)))).low hlow
                      have hH7 := helds_add HHL.out (fun j hj => ((HVS.out j hj).bytes_later (Later.alloc wd (.cells #[.int .i64 x.node, .int .i64 x.group, .slice (some ⟨wc.heap.size, 0, none⟩) x.bytes.length cb] 158 (0, 0)))).bytes_mono fun b hb => ⟨hb.1, hb.2.1, by rw [World.size_alloc]; omega⟩) ((HBD.out.bytes_later (Later.alloc wd (.cells #[.int .i64 x.node, .int .i64 x.group, .slice (some ⟨wc.heap.size, 0, none⟩) x.bytes.length cb] 158 (0, 0)))).bytes_mono fun b hb => ⟨by rw [hb]; have := HKc.out.size; omega, fun e => by have := HLTc.out b e.symm; omega, by rw [World.size_alloc, hb]; have := HSD.out; omega⟩) (by rw [HTL.out]; exact hA7)
                      obtain ⟨a7, c7, rfl⟩ := ownsRow_slice hA7.own
                      have HT8 := hid (obj_setCell (i := 2) hT7 (.slice a7 (i + 1) c7))
                      have HO8 := hid (hH7.keep ((Keeps.refl (fun b => b ≠ T) _).setCell (p := ⟨T, 2, none⟩) (.inl (by simp)) (.slice a7 (i + 1) c7)) fun b hb _ => by have := HTS.out; omega)
                      have HR8 := hid (rdb_set hR7 hT7 (no_u8 _ _ _) HTR.out 2 (.slice a7 (i + 1) c7))
                      have HB8 := hid ((Below.heap_setCell _ ⟨T, 2, none⟩ (.slice a7 (i + 1) c7) Bx HTB.out).trans hB7)
                      have HK8 := hid (hK7.setCell (p := ⟨T, 2, none⟩) (.inl (by simp)) (.slice a7 (i + 1) c7))
                      clear t1 t6
                      have t1 := cell_obj (i := 2) hT7 (v := .slice va i ca) rfl
                      have z1 := free_obj (i := 2) hT7
                      clear hown6 hlow hT7 hB7 hR7 hK7 hA7 hH7
                      simp only [List.setIfInBounds_toArray, List.set] at HT8
                      go_wp2_with fail
                      try simp only [HWM.out]
                      refine Round.mk' HR2.out Hmu2.out rfl ?_ ?_
                      · exact ⟨i + 1, a7, c7, HLT.out, by rw [HME.out]; rfl, HT8.out, by rw [HOS.out]; exact HO8.out, HR8.out, HB8.out, HK8.out⟩
                      · rw [Hh9.out]; have := HM0.out; simp [intOf, slots]; omega
          · go_simp
            refine hK _ _ ?_
            clear hK K
            refine wpAny_ready (rs := [1, 3]) (by kernel_rfl) (by simp) (AllReady.cons rfl (fun K hK => ?_) (AllReady.cons rfl (fun K hK => ?_) AllReady.nil))
            · go_simp
              refine hK _ _ ?_
              clear hK K
              refine wpAny_next (i := 3) (by kernel_rfl) rfl (fun _ _ h => wpAny_next (i := 5) (by kernel_rfl) rfl (fun _ _ h => wpAny_next (i := 7) (by kernel_rfl) rfl (fun _ _ h => wpAny_next (i := 8) (by kernel_rfl) rfl (fun _ _ h => wpAny_next (i := 9) (by kernel_rfl) rfl (fun _ _ h => wpAny_next (i := 10) (by kernel_rfl) rfl (fun _ _ h => wpAny_next (i := 11) (by kernel_rfl) rfl (fun _ _ h => wpAny_next (i := 12) (by kernel_rfl) rfl (fun _ _ h => wpAny_next (i := 13) (by kernel_rfl) rfl (fun _ _ h => wpAny_next (i := 14) (rest := []) (by kernel_rfl) rfl (fun _ _ h => wpAny_done (by kernel_rfl) h _) h) h) h) h) h) h) h) h) h) ?_
              simp only [List.getElem_toArray, List.getElem_cons_succ, List.getElem_cons_zero]
              go_wp2_with fail
              refine (number_any _ Bx R x.node _ _ HB0.out HR0.out HXH.out.1).mono ?_
              rintro e wa ⟨rfl, hr, hk⟩
              have HTa := hid (hk.obj HTR.out HT0.out)
              have HBa := hid (hk.obj HBR.out HB0.out)
              have HOa := hid (HO0.out.keep hk fun b hb _ => by have := HRS.out; omega)
              have HRa := hid hr
              have HKa := hid (HK0.out.trans (hk.mono (S' := fun b => b ≠ R ∧ b ≠ T) fun _ _ h => h.1))
              clear hr hk t1 t6
              have t1 := cell_obj (i := 2) HTa.out (v := .slice va i ca) rfl
              have t6 := cell_obj (i := 0) HBa.out rfl
              go_wp2_with fail
              refine (number_any _ Bx R x.group _ _ HBa.out HRa.out HXH.out.2).mono ?_
              rintro e wb ⟨rfl, hr, hk⟩
              have HTb := hid (hk.obj HTR.out HTa.out)
              have HBb := hid (hk.obj HBR.out HBa.out)
              have HOb := hid (HOa.out.keep hk fun b hb _ => by have := HRS.out; omega)
              have HRb := hid hr
              have HKb := hid (HKa.out.trans (hk.mono (S' := fun b => b ≠ R ∧ b ≠ T) fun _ _ h => h.1))
              clear hr hk t1 t6
              have t1 := cell_obj (i := 2) HTb.out (v := .slice va i ca) rfl
              have t6 := cell_obj (i := 0) HBb.out rfl
              go_wp2_with fail
              refine (text_got R x.bytes _ _ HRb.out HXL.out).mono ?_
              rintro e wc ⟨rfl, hr, hk⟩
              have HTc := hid (hk.obj HTR.out HTb.out)
              have HBc := hid (hk.obj HBR.out HBb.out)
              have HOc := hid (HOb.out.keep hk fun b hb _ => by have := HRS.out; omega)
              have HRc := hid hr
              have HKc := hid (HKb.out.trans (hk.mono (S' := fun b => b ≠ R ∧ b ≠ T) fun _ _ h => h.1))
              clear hr hk t1 t6
              have t1 := cell_obj (i := 2) HTc.out (v := .slice va i ca) rfl
              have t6 := cell_obj (i := 0) HBc.out rfl
              go_wp2_with (refine wpList_bytes_new rfl _ 9 76 5 rfl Tryd.underlying9 Tryd.underlying76 Tryd.underlying5 (strB x.bytes) rfl (by rw [strB_size]; have := HXL.out; unfold maxLen; omega) ?_)
              have HLTc : Hid (∀ k, (Value.slice va i ca).ownBlock = some k → k < wc.heap.size) := hid (fun k hk => by obtain ⟨vs, hl, hor, -⟩ := HOc.out; exact (hor.lt k hk).2)
              intro cb wd hLd hsd hbd
              have HTd := hid (hLd.obj HTc.out)
              have HBd := hid (hLd.obj HBc.out)
              have HOd := hid (HOc.out.keep (hLd.keeps (fun _ => True)) fun _ _ _ => trivial)
              have HRd := hid (HRc.out.later hLd)
              have HKd := hid (HKc.out.more hLd)
              rw [strB_size] at hbd ⊢
              have HBD := hid hbd
              have HSD := hid hsd
              clear hLd hsd hbd t1 t6
              have t1 := cell_obj (i := 2) HTd.out (v := .slice va i ca) rfl
              have t6 := cell_obj (i := 0) HBd.out rfl
              obtain ⟨vs, hl, hor, hvs⟩ := HOd.out
              rw [HTL.out] at hor
              have HOR := hid hor
              have HVS := hid hvs
              have HHL := hid hl
              clear hor hvs
              go_wp2_with (at_builtin; go_loud (refine wpList_append_obj rfl _ _ 102 rfl 158 3 40 Tryd.underlying102 infoHe rfl (own_later HOR.out (Later.alloc _ _)) (news := [.int .i64 x.node, .int .i64 x.group, .slice (some ⟨wc.heap.size, 0, none⟩) x.bytes.length cb]) rfl (obj_at (by simp)) rfl (held_one _ _ _ rfl) ?c1 ?c2 ?c3 ?_))
              case c1 => have := HIN.out; have := HL2.out; omega
              case c2 => have := HIN.out; have := HL2.out; unfold maxLen; omega
              case c3 => have := HKd.out.size; simp only [World.size_alloc]; omega
              intro v7 w7' hA7
              have hown6 := own_later HOR.out (Later.alloc wd (.cells #[.int .i64 x.node, .int .i64 x.group, .slice (some ⟨wc.heap.size, 0, none⟩) x.bytes.length cb] 158 (0, 0)))
              have hlow := hA7.low hown6
              have hT7 := hA7.obj ((Later.alloc wd (.cells #[.int .i64 x.node, .int .i64 x.group, .slice (some ⟨wc.heap.size, 0, none⟩) x.bytes.length cb] 158 (0, 0))).obj HTd.out) (fun e => by have := (hown6.lt _ e.symm).1; have := HTS.out; omega)
              have hB7 := hA7.obj ((Later.alloc wd (.cells #[.int .i64 x.node, .int .i64 x.group, .slice (some ⟨wc.heap.size, 0, none⟩) x.bytes.length cb] 158 (0, 0))).obj HBd.out) (fun e => by have := (hown6.lt _ e.symm).1; have := HBS.out; omega)
              have hR7 := (HRd.out.later (Later.alloc wd (.cells #[.int .i64 x.node, .int .i64 x.group, .slice (some ⟨wc.heap.size, 0, none⟩) x.bytes.length cb] 158 (0, 0)))).keep hlow fun b hb => Nat.lt_of_le_of_lt hb HRS.out
              have hK7 := (HKd.out.more (Later.alloc wd (.cells #[.int .i64 x.node, .int .i64 x.group, .slice (some ⟨wc.heap.size, 0, none⟩) x.bytes.length cb] 158 (0, 0)))).low hlow
              have hH7 := helds_add HHL.out (fun j hj => ((HVS.out j hj).bytes_later (Later.alloc wd (.cells #[.int .i64 x.node, .int .i64 x.group, .slice (some ⟨wc.heap.size, 0, none⟩) x.bytes.length cb] 158 (0, 0)))).bytes_mono fun b hb => ⟨hb.1, hb.2.1, by rw [World.size_alloc]; omega⟩) ((HBD.out.bytes_later (Later.alloc wd (.cells #[.int .i64 x.node, .int .i64 x.group, .slice (some ⟨wc.heap.size, 0, none⟩) x.bytes.length cb] 158 (0, 0)))).bytes_mono fun b hb => ⟨by rw [hb]; have := HKc.out.size; omega, fun e => by have := HLTc.out b e.symm; omega, by rw [World.size_alloc, hb]; have := HSD.out; omega⟩) (by rw [HTL.out]; exact hA7)
              obtain ⟨a7, c7, rfl⟩ := ownsRow_slice hA7.own
              have HT8 := hid (obj_setCell (i := 2) hT7 (.slice a7 (i + 1) c7))
              have HO8 := hid (hH7.keep ((Keeps.refl (fun b => b ≠ T) _).setCell (p := ⟨T, 2, none⟩) (.inl (by simp)) (.slice a7 (i + 1) c7)) fun b hb _ => by have := HTS.out; omega)
              have HR8 := hid (rdb_set hR7 hT7 (no_u8 _ _ _) HTR.out 2 (.slice a7 (i + 1) c7))
              have HB8 := hid ((Below.heap_setCell _ ⟨T, 2, none⟩ (.slice a7 (i + 1) c7) Bx HTB.out).trans hB7)
              have HK8 := hid (hK7.setCell (p := ⟨T, 2, none⟩) (.inl (by simp)) (.slice a7 (i + 1) c7))
              clear t1 t6
              have t1 := cell_obj (i := 2) hT7 (v := .slice va i ca) rfl
              have z1 := free_obj (i := 2) hT7
              clear hown6 hlow hT7 hB7 hR7 hK7 hA7 hH7
              simp only [List.setIfInBounds_toArray, List.set] at HT8
              go_wp2_with fail
              try simp only [HWM.out]
              refine Round.mk' HR2.out Hmu2.out rfl ?_ ?_
              · exact ⟨i + 1, a7, c7, HLT.out, by rw [HME.out]; rfl, HT8.out, by rw [HOS.out]; exact HO8.out, HR8.out, HB8.out, HK8.out⟩
              · rw [Hh9.out]; have := HM0.out; simp [intOf, slots]; omega
            · go_simp
              refine (number_any _ Bx R x.node _ _ HB0.out HR0.out HXH.out.1).mono ?_
              rintro e wa ⟨rfl, hr, hk⟩
              have HTa := hid (hk.obj HTR.out HT0.out)
              have HBa := hid (hk.obj HBR.out HB0.out)
              have HOa := hid (HO0.out.keep hk fun b hb _ => by have := HRS.out; omega)
              have HRa := hid hr
              have HKa := hid (HK0.out.trans (hk.mono (S' := fun b => b ≠ R ∧ b ≠ T) fun _ _ h => h.1))
              clear hr hk t1 t6
              have t1 := cell_obj (i := 2) HTa.out (v := .slice va i ca) rfl
              have t6 := cell_obj (i := 0) HBa.out rfl
              refine hK _ _ ?_
              clear hK K
              refine wpAny_ready (rs := [1, 5]) (by kernel_rfl) (by simp) (AllReady.cons rfl (fun K hK => ?_) (AllReady.cons rfl (fun K hK => ?_) AllReady.nil))
              · go_simp
                refine hK _ _ ?_
                clear hK K
                refine wpAny_next (i := 5) (by kernel_rfl) rfl (fun _ _ h => wpAny_next (i := 7) (by kernel_rfl) rfl (fun _ _ h => wpAny_next (i := 8) (by kernel_rfl) rfl (fun _ _ h => wpAny_next (i := 9) (by kernel_rfl) rfl (fun _ _ h => wpAny_next (i := 10) (by kernel_rfl) rfl (fun _ _ h => wpAny_next (i := 11) (by kernel_rfl) rfl (fun _ _ h => wpAny_next (i := 12) (by kernel_rfl) rfl (fun _ _ h => wpAny_next (i := 13) (by kernel_rfl) rfl (fun _ _ h => wpAny_next (i := 14) (rest := []) (by kernel_rfl) rfl (fun _ _ h => wpAny_done (by kernel_rfl) h _) h) h) h) h) h) h) h) h) ?_
                simp only [List.getElem_toArray, List.getElem_cons_succ, List.getElem_cons_zero]
                go_wp2_with fail
                refine (number_any _ Bx R x.group _ _ HBa.out HRa.out HXH.out.2).mono ?_
                rintro e wb ⟨rfl, hr, hk⟩
                have HTb := hid (hk.obj HTR.out HTa.out)
                have HBb := hid (hk.obj HBR.out HBa.out)
                have HOb := hid (HOa.out.keep hk fun b hb _ => by have := HRS.out; omega)
                have HRb := hid hr
                have HKb := hid (HKa.out.trans (hk.mono (S' := fun b => b ≠ R ∧ b ≠ T) fun _ _ h => h.1))
                clear hr hk t1 t6
                have t1 := cell_obj (i := 2) HTb.out (v := .slice va i ca) rfl
                have t6 := cell_obj (i := 0) HBb.out rfl
                go_wp2_with fail
                refine (text_got R x.bytes _ _ HRb.out HXL.out).mono ?_
                rintro e wc ⟨rfl, hr, hk⟩
                have HTc := hid (hk.obj HTR.out HTb.out)
                have HBc := hid (hk.obj HBR.out HBb.out)
                have HOc := hid (HOb.out.keep hk fun b hb _ => by have := HRS.out; omega)
                have HRc := hid hr
                have HKc := hid (HKb.out.trans (hk.mono (S' := fun b => b ≠ R ∧ b ≠ T) fun _ _ h => h.1))
                clear hr hk t1 t6
                have t1 := cell_obj (i := 2) HTc.out (v := .slice va i ca) rfl
                have t6 := cell_obj (i := 0) HBc.out rfl
                go_wp2_with (refine wpList_bytes_new rfl _ 9 76 5 rfl Tryd.underlying9 Tryd.underlying76 Tryd.underlying5 (strB x.bytes) rfl (by rw [strB_size]; have := HXL.out; unfold maxLen; omega) ?_)
                have HLTc : Hid (∀ k, (Value.slice va i ca).ownBlock = some k → k < wc.heap.size) := hid (fun k hk => by obtain ⟨vs, hl, hor, -⟩ := HOc.out; exact (hor.lt k hk).2)
                intro cb wd hLd hsd hbd
                have HTd := hid (hLd.obj HTc.out)
                have HBd := hid (hLd.obj HBc.out)
                have HOd := hid (HOc.out.keep (hLd.keeps (fun _ => True)) fun _ _ _ => trivial)
                have HRd := hid (HRc.out.later hLd)
                have HKd := hid (HKc.out.more hLd)
                rw [strB_size] at hbd ⊢
                have HBD := hid hbd
                have HSD := hid hsd
                clear hLd hsd hbd t1 t6
                have t1 := cell_obj (i := 2) HTd.out (v := .slice va i ca) rfl
                have t6 := cell_obj (i := 0) HBd.out rfl
                obtain ⟨vs, hl, hor, hvs⟩ := HOd.out
                rw [HTL.out] at hor
                have HOR := hid hor
                have HVS := hid hvs
                have HHL := hid hl
                clear hor hvs
                go_wp2_with (at_builtin; go_loud (refine wpList_append_obj rfl _ _ 102 rfl 158 3 40 Tryd.underlying102 infoHe rfl (own_later HOR.out (Later.alloc _ _)) (news := [.int .i64 x.node, .int .i64 x.group, .slice (some ⟨wc.heap.size, 0, none⟩) x.bytes.length cb]) rfl (obj_at (by simp)) rfl (held_one _ _ _ rfl) ?c1 ?c2 ?c3 ?_))
                case c1 => have := HIN.out; have := HL2.out; omega
                case c2 => have := HIN.out; have := HL2.out; unfold maxLen; omega
                case c3 => have := HKd.out.size; simp only [World.size_alloc]; omega
                intro v7 w7' hA7
                have hown6 := own_later HOR.out (Later.alloc wd (.cells #[.int .i64 x.node, .int .i64 x.group, .slice (some ⟨wc.heap.size, 0, none⟩) x.bytes.length cb] 158 (0, 0)))
                have hlow := hA7.low hown6
                have hT7 := hA7.obj ((Later.alloc wd (.cells #[.int .i64 x.node, .int .i64 x.group, .slice (some ⟨wc.heap.size, 0, none⟩) x.bytes.length cb] 158 (0, 0))).obj HTd.out) (fun e => by have := (hown6.lt _ e.symm).1; have := HTS.out; omega)
                have hB7 := hA7.obj ((Later.alloc wd (.cells #[.int .i64 x.node, .int .i64 x.group, .slice (some ⟨wc.heap.size, 0, none⟩) x.bytes.length cb] 158 (0, 0))).obj HBd.out) (fun e => by have := (hown6.lt _ e.symm).1; have := HBS.out; omega)
                have hR7 := (HRd.out.later (Later.alloc wd (.cells #[.int .i64 x.node, .int .i64 x.group, .slice (some ⟨wc.heap.size, 0, none⟩) x.bytes.length cb] 158 (0, 0)))).keep hlow fun b hb => Nat.lt_of_le_of_lt hb HRS.out
                have hK7 := (HKd.out.more (Later.alloc wd (.cells #[.int .i64 x.node, .int .i64 x.group, .slice (some ⟨wc.heap.size, 0, none⟩) x.bytes.length cb] 158 (0, 0)))).low hlow
                have hH7 := helds_add HHL.out (fun j hj => ((HVS.out j hj).bytes_later (Later.alloc wd (.cells #[.int .i64 x.node, .int .i64 x.group, .slice (some ⟨wc.heap.size, 0, none⟩) x.bytes.length cb] 158 (0, 0)))).bytes_mono fun b hb => ⟨hb.1, hb.2.1, by rw [World.size_alloc]; omega⟩) ((HBD.out.bytes_later (Later.alloc wd (.cells #[.int .i64 x.node, .int .i64 x.group, .slice (some ⟨wc.heap.size, 0, none⟩) x.bytes.length cb] 158 (0, 0)))).bytes_mono fun b hb => ⟨by rw [hb]; have := HKc.out.size; omega, fun e => by have := HLTc.out b e.symm; omega, by rw [World.size_alloc, hb]; have := HSD.out; omega⟩) (by rw [HTL.out]; exact hA7)
                obtain ⟨a7, c7, rfl⟩ := ownsRow_slice hA7.own
                have HT8 := hid (obj_setCell (i := 2) hT7 (.slice a7 (i + 1) c7))
                have HO8 := hid (hH7.keep ((Keeps.refl (fun b => b ≠ T) _).setCell (p := ⟨T, 2, none⟩) (.inl (by simp)) (.slice a7 (i + 1) c7)) fun b hb _ => by have := HTS.out; omega)
                have HR8 := hid (rdb_set hR7 hT7 (no_u8 _ _ _) HTR.out 2 (.slice a7 (i + 1) c7))
                have HB8 := hid ((Below.heap_setCell _ ⟨T, 2, none⟩ (.slice a7 (i + 1) c7) Bx HTB.out).trans hB7)
                have HK8 := hid (hK7.setCell (p := ⟨T, 2, none⟩) (.inl (by simp)) (.slice a7 (i + 1) c7))
                clear t1 t6
                have t1 := cell_obj (i := 2) hT7 (v := .slice va i ca) rfl
                have z1 := free_obj (i := 2) hT7
                clear hown6 hlow hT7 hB7 hR7 hK7 hA7 hH7
                simp only [List.setIfInBounds_toArray, List.set] at HT8
                go_wp2_with fail
                try simp only [HWM.out]
                refine Round.mk' HR2.out Hmu2.out rfl ?_ ?_
                · exact ⟨i + 1, a7, c7, HLT.out, by rw [HME.out]; rfl, HT8.out, by rw [HOS.out]; exact HO8.out, HR8.out, HB8.out, HK8.out⟩
                · rw [Hh9.out]; have := HM0.out; simp [intOf, slots]; omega
              · go_simp
                refine (number_any _ Bx R x.group _ _ HBa.out HRa.out HXH.out.2).mono ?_
                rintro e wb ⟨rfl, hr, hk⟩
                have HTb := hid (hk.obj HTR.out HTa.out)
                have HBb := hid (hk.obj HBR.out HBa.out)
                have HOb := hid (HOa.out.keep hk fun b hb _ => by have := HRS.out; omega)
                have HRb := hid hr
                have HKb := hid (HKa.out.trans (hk.mono (S' := fun b => b ≠ R ∧ b ≠ T) fun _ _ h => h.1))
                clear hr hk t1 t6
                have t1 := cell_obj (i := 2) HTb.out (v := .slice va i ca) rfl
                have t6 := cell_obj (i := 0) HBb.out rfl
                refine hK _ _ ?_
                clear hK K
                refine wpAny_ready (rs := [1, 7]) (by kernel_rfl) (by simp) (AllReady.cons rfl (fun K hK => ?_) (AllReady.cons rfl (fun K hK => ?_) AllReady.nil))
                · go_simp
                  refine hK _ _ ?_
                  clear hK K
                  refine wpAny_next (i := 7) (by kernel_rfl) rfl (fun _ _ h => wpAny_next (i := 8) (by kernel_rfl) rfl (fun _ _ h => wpAny_next (i := 9) (by kernel_rfl) rfl (fun _ _ h => wpAny_next (i := 10) (by kernel_rfl) rfl (fun _ _ h => wpAny_next (i := 11) (by kernel_rfl) rfl (fun _ _ h => wpAny_next (i := 12) (by kernel_rfl) rfl (fun _ _ h => wpAny_next (i := 13) (by kernel_rfl) rfl (fun _ _ h => wpAny_next (i := 14) (rest := []) (by kernel_rfl) rfl (fun _ _ h => wpAny_done (by kernel_rfl) h _) h) h) h) h) h) h) h) ?_
                  simp only [List.getElem_toArray, List.getElem_cons_succ, List.getElem_cons_zero]
                  go_wp2_with fail
                  refine (text_got R x.bytes _ _ HRb.out HXL.out).mono ?_
                  rintro e wc ⟨rfl, hr, hk⟩
                  have HTc := hid (hk.obj HTR.out HTb.out)
                  have HBc := hid (hk.obj HBR.out HBb.out)
                  have HOc := hid (HOb.out.keep hk fun b hb _ => by have := HRS.out; omega)
                  have HRc := hid hr
                  have HKc := hid (HKb.out.trans (hk.mono (S' := fun b => b ≠ R ∧ b ≠ T) fun _ _ h => h.1))
                  clear hr hk t1 t6
                  have t1 := cell_obj (i := 2) HTc.out (v := .slice va i ca) rfl
                  have t6 := cell_obj (i := 0) HBc.out rfl
                  go_wp2_with (refine wpList_bytes_new rfl _ 9 76 5 rfl Tryd.underlying9 Tryd.underlying76 Tryd.underlying5 (strB x.bytes) rfl (by rw [strB_size]; have := HXL.out; unfold maxLen; omega) ?_)
                  have HLTc : Hid (∀ k, (Value.slice va i ca).ownBlock = some k → k < wc.heap.size) := hid (fun k hk => by obtain ⟨vs, hl, hor, -⟩ := HOc.out; exact (hor.lt k hk).2)
                  intro cb wd hLd hsd hbd
                  have HTd := hid (hLd.obj HTc.out)
                  have HBd := hid (hLd.obj HBc.out)
                  have HOd := hid (HOc.out.keep (hLd.keeps (fun _ => True)) fun _ _ _ => trivial)
                  have HRd := hid (HRc.out.later hLd)
                  have HKd := hid (HKc.out.more hLd)
                  rw [strB_size] at hbd ⊢
                  have HBD := hid hbd
                  have HSD := hid hsd
                  clear hLd hsd hbd t1 t6
                  have t1 := cell_obj (i := 2) HTd.out (v := .slice va i ca) rfl
                  have t6 := cell_obj (i := 0) HBd.out rfl
                  obtain ⟨vs, hl, hor, hvs⟩ := HOd.out
                  rw [HTL.out] at hor
                  have HOR := hid hor
                  have HVS := hid hvs
                  have HHL := hid hl
                  clear hor hvs
                  go_wp2_with (at_builtin; go_loud (refine wpList_append_obj rfl _ _ 102 rfl 158 3 40 Tryd.underlying102 infoHe rfl (own_later HOR.out (Later.alloc _ _)) (news := [.int .i64 x.node, .int .i64 x.group, .slice (some ⟨wc.heap.size, 0, none⟩) x.bytes.length cb]) rfl (obj_at (by simp)) rfl (held_one _ _ _ rfl) ?c1 ?c2 ?c3 ?_))
                  case c1 => have := HIN.out; have := HL2.out; omega
                  case c2 => have := HIN.out; have := HL2.out; unfold maxLen; omega
                  case c3 => have := HKd.out.size; simp only [World.size_alloc]; omega
                  intro v7 w7' hA7
                  have hown6 := own_later HOR.out (Later.alloc wd (.cells #[.int .i64 x.node, .int .i64 x.group, .slice (some ⟨wc.heap.size, 0, none⟩) x.bytes.length cb] 158 (0, 0)))
                  have hlow := hA7.low hown6
                  have hT7 := hA7.obj ((Later.alloc wd (.cells #[.int .i64 x.node, .int .i64 x.group, .slice (some ⟨wc.heap.size, 0, none⟩) x.bytes.length cb] 158 (0, 0))).obj HTd.out) (fun e => by have := (hown6.lt _ e.symm).1; have := HTS.out; omega)
                  have hB7 := hA7.obj ((Later.alloc wd (.cells #[.int .i64 x.node, .int .i64 x.group, .slice (some ⟨wc.heap.size, 0, none⟩) x.bytes.length cb] 158 (0, 0))).obj HBd.out) (fun e => by have := (hown6.lt _ e.symm).1; have := HBS.out; omega)
                  have hR7 := (HRd.out.later (Later.alloc wd (.cells #[.int .i64 x.node, .int .i64 x.group, .slice (some ⟨wc.heap.size, 0, none⟩) x.bytes.length cb] 158 (0, 0)))).keep hlow fun b hb => Nat.lt_of_le_of_lt hb HRS.out
                  have hK7 := (HKd.out.more (Later.alloc wd (.cells #[.int .i64 x.node, .int .i64 x.group, .slice (some ⟨wc.heap.size, 0, none⟩) x.bytes.length cb] 158 (0, 0)))).low hlow
                  have hH7 := helds_add HHL.out (fun j hj => ((HVS.out j hj).bytes_later (Later.alloc wd (.cells #[.int .i64 x.node, .int .i64 x.group, .slice (some ⟨wc.heap.size, 0, none⟩) x.bytes.length cb] 158 (0, 0)))).bytes_mono fun b hb => ⟨hb.1, hb.2.1, by rw [World.size_alloc]; omega⟩) ((HBD.out.bytes_later (Later.alloc wd (.cells #[.int .i64 x.node, .int .i64 x.group, .slice (some ⟨wc.heap.size, 0, none⟩) x.bytes.length cb] 158 (0, 0)))).bytes_mono fun b hb => ⟨by rw [hb]; have := HKc.out.size; omega, fun e => by have := HLTc.out b e.symm; omega, by rw [World.size_alloc, hb]; have := HSD.out; omega⟩) (by rw [HTL.out]; exact hA7)
                  obtain ⟨a7, c7, rfl⟩ := ownsRow_slice hA7.own
                  have HT8 := hid (obj_setCell (i := 2) hT7 (.slice a7 (i + 1) c7))
                  have HO8 := hid (hH7.keep ((Keeps.refl (fun b => b ≠ T) _).setCell (p := ⟨T, 2, none⟩) (.inl (by simp)) (.slice a7 (i + 1) c7)) fun b hb _ => by have := HTS.out; omega)
                  have HR8 := hid (rdb_set hR7 hT7 (no_u8 _ _ _) HTR.out 2 (.slice a7 (i + 1) c7))
                  have HB8 := hid ((Below.heap_setCell _ ⟨T, 2, none⟩ (.slice a7 (i + 1) c7) Bx HTB.out).trans hB7)
                  have HK8 := hid (hK7.setCell (p := ⟨T, 2, none⟩) (.inl (by simp)) (.slice a7 (i + 1) c7))
                  clear t1 t6
                  have t1 := cell_obj (i := 2) hT7 (v := .slice va i ca) rfl
                  have z1 := free_obj (i := 2) hT7
                  clear hown6 hlow hT7 hB7 hR7 hK7 hA7 hH7
                  simp only [List.setIfInBounds_toArray, List.set] at HT8
                  go_wp2_with fail
                  try simp only [HWM.out]
                  refine Round.mk' HR2.out Hmu2.out rfl ?_ ?_
                  · exact ⟨i + 1, a7, c7, HLT.out, by rw [HME.out]; rfl, HT8.out, by rw [HOS.out]; exact HO8.out, HR8.out, HB8.out, HK8.out⟩
                  · rw [Hh9.out]; have := HM0.out; simp [intOf, slots]; omega
                · go_simp
                  refine (text_got R x.bytes _ _ HRb.out HXL.out).mono ?_
                  rintro e wc ⟨rfl, hr, hk⟩
                  have HTc := hid (hk.obj HTR.out HTb.out)
                  have HBc := hid (hk.obj HBR.out HBb.out)
                  have HOc := hid (HOb.out.keep hk fun b hb _ => by have := HRS.out; omega)
                  have HRc := hid hr
                  have HKc := hid (HKb.out.trans (hk.mono (S' := fun b => b ≠ R ∧ b ≠ T) fun _ _ h => h.1))
                  clear hr hk t1 t6
                  have t1 := cell_obj (i := 2) HTc.out (v := .slice va i ca) rfl
                  have t6 := cell_obj (i := 0) HBc.out rfl
                  refine hK _ _ ?_
                  clear hK K
                  refine wpAny_ready (rs := [1, 8]) (by kernel_rfl) (by simp) (AllReady.cons rfl (fun K hK => ?_) (AllReady.cons rfl (fun K hK => ?_) AllReady.nil))
                  · go_simp
                    refine hK _ _ ?_
                    clear hK K
                    refine wpAny_next (i := 8) (by kernel_rfl) rfl (fun _ _ h => wpAny_next (i := 9) (by kernel_rfl) rfl (fun _ _ h => wpAny_next (i := 10) (by kernel_rfl) rfl (fun _ _ h => wpAny_next (i := 11) (by kernel_rfl) rfl (fun _ _ h => wpAny_next (i := 12) (by kernel_rfl) rfl (fun _ _ h => wpAny_next (i := 13) (by kernel_rfl) rfl (fun _ _ h => wpAny_next (i := 14) (rest := []) (by kernel_rfl) rfl (fun _ _ h => wpAny_done (by kernel_rfl) h _) h) h) h) h) h) h) ?_
                    simp only [List.getElem_toArray, List.getElem_cons_succ, List.getElem_cons_zero]
                    go_wp2_with (refine wpList_bytes_new rfl _ 9 76 5 rfl Tryd.underlying9 Tryd.underlying76 Tryd.underlying5 (strB x.bytes) rfl (by rw [strB_size]; have := HXL.out; unfold maxLen; omega) ?_)
                    have HLTc : Hid (∀ k, (Value.slice va i ca).ownBlock = some k → k < wc.heap.size) := hid (fun k hk => by obtain ⟨vs, hl, hor, -⟩ := HOc.out; exact (hor.lt k hk).2)
                    intro cb wd hLd hsd hbd
                    have HTd := hid (hLd.obj HTc.out)
                    have HBd := hid (hLd.obj HBc.out)
                    have HOd := hid (HOc.out.keep (hLd.keeps (fun _ => True)) fun _ _ _ => trivial)
                    have HRd := hid (HRc.out.later hLd)
                    have HKd := hid (HKc.out.more hLd)
                    rw [strB_size] at hbd ⊢
                    have HBD := hid hbd
                    have HSD := hid hsd
                    clear hLd hsd hbd t1 t6
                    have t1 := cell_obj (i := 2) HTd.out (v := .slice va i ca) rfl
                    have t6 := cell_obj (i := 0) HBd.out rfl
                    obtain ⟨vs, hl, hor, hvs⟩ := HOd.out
                    rw [HTL.out] at hor
                    have HOR := hid hor
                    have HVS := hid hvs
                    have HHL := hid hl
                    clear hor hvs
                    go_wp2_with (at_builtin; go_loud (refine wpList_append_obj rfl _ _ 102 rfl 158 3 40 Tryd.underlying102 infoHe rfl (own_later HOR.out (Later.alloc _ _)) (news := [.int .i64 x.node, .int .i64 x.group, .slice (some ⟨wc.heap.size, 0, none⟩) x.bytes.length cb]) rfl (obj_at (by simp)) rfl (held_one _ _ _ rfl) ?c1 ?c2 ?c3 ?_))
                    case c1 => have := HIN.out; have := HL2.out; omega
                    case c2 => have := HIN.out; have := HL2.out; unfold maxLen; omega
                    case c3 => have := HKd.out.size; simp only [World.size_alloc]; omega
                    intro v7 w7' hA7
                    have hown6 := own_later HOR.out (Later.alloc wd (.cells #[.int .i64 x.node, .int .i64 x.group, .slice (some ⟨wc.heap.size, 0, none⟩) x.bytes.length cb] 158 (0, 0)))
                    have hlow := hA7.low hown6
                    have hT7 := hA7.obj ((Later.alloc wd (.cells #[.int .i64 x.node, .int .i64 x.group, .slice (some ⟨wc.heap.size, 0, none⟩) x.bytes.length cb] 158 (0, 0))).obj HTd.out) (fun e => by have := (hown6.lt _ e.symm).1; have := HTS.out; omega)
                    have hB7 := hA7.obj ((Later.alloc wd (.cells #[.int .i64 x.node, .int .i64 x.group, .slice (some ⟨wc.heap.size, 0, none⟩) x.bytes.length cb] 158 (0, 0))).obj HBd.out) (fun e => by have := (hown6.lt _ e.symm).1; have := HBS.out; omega)
                    have hR7 := (HRd.out.later (Later.alloc wd (.cells #[.int .i64 x.node, .int .i64 x.group, .slice (some ⟨wc.heap.size, 0, none⟩) x.bytes.length cb] 158 (0, 0)))).keep hlow fun b hb => Nat.lt_of_le_of_lt hb HRS.out
                    have hK7 := (HKd.out.more (Later.alloc wd (.cells #[.int .i64 x.node, .int .i64 x.group, .slice (some ⟨wc.heap.size, 0, none⟩) x.bytes.length cb] 158 (0, 0)))).low hlow
                    have hH7 := helds_add HHL.out (fun j hj => ((HVS.out j hj).bytes_later (Later.alloc wd (.cells #[.int .i64 x.node, .int .i64 x.group, .slice (some ⟨wc.heap.size, 0, none⟩) x.bytes.length cb] 158 (0, 0)))).bytes_mono fun b hb => ⟨hb.1, hb.2.1, by rw [World.size_alloc]; omega⟩) ((HBD.out.bytes_later (Later.alloc wd (.cells #[.int .i64 x.node, .int .i64 x.group, .slice (some ⟨wc.heap.size, 0, none⟩) x.bytes.length cb] 158 (0, 0)))).bytes_mono fun b hb => ⟨by rw [hb]; have := HKc.out.size; omega, fun e => by have := HLTc.out b e.symm; omega, by rw [World.size_alloc, hb]; have := HSD.out; omega⟩) (by rw [HTL.out]; exact hA7)
                    obtain ⟨a7, c7, rfl⟩ := ownsRow_slice hA7.own
                    have HT8 := hid (obj_setCell (i := 2) hT7 (.slice a7 (i + 1) c7))
                    have HO8 := hid (hH7.keep ((Keeps.refl (fun b => b ≠ T) _).setCell (p := ⟨T, 2, none⟩) (.inl (by simp)) (.slice a7 (i + 1) c7)) fun b hb _ => by have := HTS.out; omega)
                    have HR8 := hid (rdb_set hR7 hT7 (no_u8 _ _ _) HTR.out 2 (.slice a7 (i + 1) c7))
                    have HB8 := hid ((Below.heap_setCell _ ⟨T, 2, none⟩ (.slice a7 (i + 1) c7) Bx HTB.out).trans hB7)
                    have HK8 := hid (hK7.setCell (p := ⟨T, 2, none⟩) (.inl (by simp)) (.slice a7 (i + 1) c7))
                    clear t1 t6
                    have t1 := cell_obj (i := 2) hT7 (v := .slice va i ca) rfl
                    have z1 := free_obj (i := 2) hT7
                    clear hown6 hlow hT7 hB7 hR7 hK7 hA7 hH7
                    simp only [List.setIfInBounds_toArray, List.set] at HT8
                    go_wp2_with fail
                    try simp only [HWM.out]
                    refine Round.mk' HR2.out Hmu2.out rfl ?_ ?_
                    · exact ⟨i + 1, a7, c7, HLT.out, by rw [HME.out]; rfl, HT8.out, by rw [HOS.out]; exact HO8.out, HR8.out, HB8.out, HK8.out⟩
                    · rw [Hh9.out]; have := HM0.out; simp [intOf, slots]; omega
                  · refine oper_bytes_new rfl _ 9 76 5 rfl Tryd.underlying9 Tryd.underlying76 Tryd.underlying5 (strB x.bytes) rfl (by rw [strB_size]; have := HXL.out; unfold maxLen; omega) ?_
                    have HLTc : Hid (∀ k, (Value.slice va i ca).ownBlock = some k → k < wc.heap.size) := hid (fun k hk => by obtain ⟨vs, hl, hor, -⟩ := HOc.out; exact (hor.lt k hk).2)
                    intro cb wd hLd hsd hbd
                    have HTd := hid (hLd.obj HTc.out)
                    have HBd := hid (hLd.obj HBc.out)
                    have HOd := hid (HOc.out.keep (hLd.keeps (fun _ => True)) fun _ _ _ => trivial)
                    have HRd := hid (HRc.out.later hLd)
                    have HKd := hid (HKc.out.more hLd)
                    rw [strB_size] at hbd ⊢
                    have HBD := hid hbd
                    have HSD := hid hsd
                    clear hLd hsd hbd t1 t6
                    have t1 := cell_obj (i := 2) HTd.out (v := .slice va i ca) rfl
                    have t6 := cell_obj (i := 0) HBd.out rfl
                    refine hK _ _ ?_
                    clear hK K
                    refine wpAny_take (i := 9) (v := .agg #[.int .i64 x.group, .slice (some ⟨wc.heap.size, 0, none⟩) x.bytes.length cb]) rfl (by kernel_rfl) (by kernel_rfl) (by kernel_rfl) (fun _ _ _ h => h) (Or.inl ⟨by rfl, ?_⟩) ?_
                    · intro w; go_simp
                    simp only [Act.put, List.setIfInBounds_toArray, List.set]
                    refine wpAny_take (i := 10) (v := .agg #[.int .i64 x.node, .int .i64 x.group, .slice (some ⟨wc.heap.size, 0, none⟩) x.bytes.length cb]) rfl (by kernel_rfl) (by kernel_rfl) (by kernel_rfl) (fun _ _ _ h => h) (Or.inl ⟨by rfl, ?_⟩) ?_
                    · intro w; go_simp
                    simp only [Act.put, List.setIfInBounds_toArray, List.set]
                    refine wpAny_ready (rs := [1, 11]) (by kernel_rfl) (by simp) (AllReady.cons rfl (fun K hK => ?_) (AllReady.cons rfl (fun K hK => ?_) AllReady.nil))
                    · go_simp
                      refine hK _ _ ?_
                      clear hK K
                      refine wpAny_next (i := 11) (by kernel_rfl) rfl (fun _ _ h => wpAny_next (i := 12) (by kernel_rfl) rfl (fun _ _ h => wpAny_next (i := 13) (by kernel_rfl) rfl (fun _ _ h => wpAny_next (i := 14) (rest := []) (by kernel_rfl) rfl (fun _ _ h => wpAny_done (by kernel_rfl) h _) h) h) h) ?_
                      simp only [List.getElem_toArray, List.getElem_cons_succ, List.getElem_cons_zero]
                      obtain ⟨vs, hl, hor, hvs⟩ := HOd.out
                      rw [HTL.out] at hor
                      have HOR := hid hor
                      have HVS := hid hvs
                      have HHL := hid hl
                      clear hor hvs
                      go_wp2_with (at_builtin; go_loud (refine wpList_append_obj rfl _ _ 102 rfl 158 3 40 Tryd.underlying102 infoHe rfl (own_later HOR.out (Later.alloc _ _)) (news := [.int .i64 x.node, .int .i64 x.group, .slice (some ⟨wc.heap.size, 0, none⟩) x.bytes.length cb]) rfl (obj_at (by simp)) rfl (held_one _ _ _ rfl) ?c1 ?c2 ?c3 ?_))
                      case c1 => have := HIN.out; have := HL2.out; omega
                      case c2 => have := HIN.out; have := HL2.out; unfold maxLen; omega
                      case c3 => have := HKd.out.size; simp only [World.size_alloc]; omega
                      intro v7 w7' hA7
                      have hown6 := own_later HOR.out (Later.alloc wd (.cells #[.int .i64 x.node, .int .i64 x.group, .slice (some ⟨wc.heap.size, 0, none⟩) x.bytes.length cb] 158 (0, 0)))
                      have hlow := hA7.low hown6
                      have hT7 := hA7.obj ((Later.alloc wd (.cells #[.int .i64 x.node, .int .i64 x.group, .slice (some ⟨wc.heap.size, 0, none⟩) x.bytes.length cb] 158 (0, 0))).obj HTd.out) (fun e => by have := (hown6.lt _ e.symm).1; have := HTS.out; omega)
                      have hB7 := hA7.obj ((Later.alloc wd (.cells #[.int .i64 x.node, .int .i64 x.group, .slice (some ⟨wc.heap.size, 0, none⟩) x.bytes.length cb] 158 (0, 0))).obj HBd.out) (fun e => by have := (hown6.lt _ e.symm).1; have := HBS.out; omega)
                      have hR7 := (HRd.out.later (Later.alloc wd (.cells #[.int .i64 x.node, .int .i64 x.group, .slice (some ⟨wc.heap.size, 0, none⟩) x.bytes.length cb] 158 (0, 0)))).keep hlow fun b hb => Nat.lt_of_le_of_lt hb HRS.out
                      have hK7 := (HKd.out.more (Later.alloc wd (.cells #[.int .i64 x.node, .int .i64 x.group, .slice (some ⟨wc.heap.size, 0, none⟩) x.bytes.length cb] 158 (0, 0)))).low hlow
                      have hH7 := helds_add HHL.out (fun j hj => ((HVS.out j hj).bytes_later (Later.alloc wd (.cells #[.int .i64 x.node, .int .i64 x.group, .slice (some ⟨wc.heap.size, 0, none⟩) x.bytes.length cb] 158 (0, 0)))).bytes_mono fun b hb => ⟨hb.1, hb.2.1, by rw [World.size_alloc]; omega⟩) ((HBD.out.bytes_later (Later.alloc wd (.cells #[.int .i64 x.node, .int .i64 x.group, .slice (some ⟨wc.heap.size, 0, none⟩) x.bytes.length cb] 158 (0, 0)))).bytes_mono fun b hb => ⟨by rw [hb]; have := HKc.out.size; omega, fun e => by have := HLTc.out b e.symm; omega, by rw [World.size_alloc, hb]; have := HSD.out; omega⟩) (by rw [HTL.out]; exact hA7)
                      obtain ⟨a7, c7, rfl⟩ := ownsRow_slice hA7.own
                      have HT8 := hid (obj_setCell (i := 2) hT7 (.slice a7 (i + 1) c7))
                      have HO8 := hid (hH7.keep ((Keeps.refl (fun b => b ≠ T) _).setCell (p := ⟨T, 2, none⟩) (.inl (by simp)) (.slice a7 (i + 1) c7)) fun b hb _ => by have := HTS.out; omega)
                      have HR8 := hid (rdb_set hR7 hT7 (no_u8 _ _ _) HTR.out 2 (.slice a7 (i + 1) c7))
                      have HB8 := hid ((Below.heap_setCell _ ⟨T, 2, none⟩ (.slice a7 (i + 1) c7) Bx HTB.out).trans hB7)
                      have HK8 := hid (hK7.setCell (p := ⟨T, 2, none⟩) (.inl (by simp)) (.slice a7 (i + 1) c7))
                      clear t1 t6
                      have t1 := cell_obj (i := 2) hT7 (v := .slice va i ca) rfl
                      have z1 := free_obj (i := 2) hT7
                      clear hown6 hlow hT7 hB7 hR7 hK7 hA7 hH7
                      simp only [List.setIfInBounds_toArray, List.set] at HT8
                      go_wp2_with fail
                      try simp only [HWM.out]
                      refine Round.mk' HR2.out Hmu2.out rfl ?_ ?_
                      · exact ⟨i + 1, a7, c7, HLT.out, by rw [HME.out]; rfl, HT8.out, by rw [HOS.out]; exact HO8.out, HR8.out, HB8.out, HK8.out⟩
                      · rw [Hh9.out]; have := HM0.out; simp [intOf, slots]; omega
                    · go_simp
                      refine hK _ _ ?_
                      clear hK K
                      replace t1 := (Later.alloc wd (.cells #[.int .i64 x.node, .int .i64 x.group, .slice (some ⟨wc.heap.size, 0, none⟩) x.bytes.length cb] 158 (0, 0))).cell t1
                      refine wpAny_next (i := 1) (by kernel_rfl) rfl (fun _ _ h => wpAny_next (i := 12) (by kernel_rfl) rfl (fun _ _ h => wpAny_next (i := 13) (by kernel_rfl) rfl (fun _ _ h => wpAny_next (i := 14) (rest := []) (by kernel_rfl) rfl (fun _ _ h => wpAny_done (by kernel_rfl) h _) h) h) h) ?_
                      simp only [List.getElem_toArray, List.getElem_cons_succ, List.getElem_cons_zero]
                      obtain ⟨vs, hl, hor, hvs⟩ := HOd.out
                      rw [HTL.out] at hor
                      have HOR := hid hor
                      have HVS := hid hvs
                      have HHL := hid hl
                      clear hor hvs
                      go_wp2_with (at_builtin; go_loud (refine wpList_append_obj rfl _ _ 102 rfl 158 3 40 Tryd.underlying102 infoHe rfl (own_later HOR.out (Later.alloc _ _)) (news := [.int .i64 x.node, .int .i64 x.group, .slice (some ⟨wc.heap.size, 0, none⟩) x.bytes.length cb]) rfl (obj_at (by simp)) rfl (held_one _ _ _ rfl) ?c1 ?c2 ?c3 ?_))
                      case c1 => have := HIN.out; have := HL2.out; omega
                      case c2 => have := HIN.out; have := HL2.out; unfold maxLen; omega
                      case c3 => have := HKd.out.size; simp only [World.size_alloc]; omega
                      intro v7 w7' hA7
                      have hown6 := own_later HOR.out (Later.alloc wd (.cells #[.int .i64 x.node, .int .i64 x.group, .slice (some ⟨wc.heap.size, 0, none⟩) x.bytes.length cb] 158 (0, 0)))
                      have hlow := hA7.low hown6
                      have hT7 := hA7.obj ((Later.alloc wd (.cells #[.int .i64 x.node, .int .i64 x.group, .slice (some ⟨wc.heap.size, 0, none⟩) x.bytes.length cb] 158 (0, 0))).obj HTd.out) (fun e => by have := (hown6.lt _ e.symm).1; have := HTS.out; omega)
                      have hB7 := hA7.obj ((Later.alloc wd (.cells #[.int .i64 x.node, .int .i64 x.group, .slice (some ⟨wc.heap.size, 0, none⟩) x.bytes.length cb] 158 (0, 0))).obj HBd.out) (fun e => by have := (hown6.lt _ e.symm).1; have := HBS.out; omega)
                      have hR7 := (HRd.out.later (Later.alloc wd (.cells #[.int .i64 x.node, .int .i64 x.group, .slice (some ⟨wc.heap.size, 0, none⟩) x.bytes.length cb] 158 (0, 0)))).keep hlow fun b hb => Nat.lt_of_le_of_lt hb HRS.out
                      have hK7 := (HKd.out.more (Later.alloc wd (.cells #[.int .i64 x.node, .int .i64 x.group, .slice (some ⟨wc.heap.size, 0, none⟩) x.bytes.length cb] 158 (0, 0)))).low hlow
                      have hH7 := helds_add HHL.out (fun j hj => ((HVS.out j hj).bytes_later (Later.alloc wd (.cells #[.int .i64 x.node, .int .i64 x.group, .slice (some ⟨wc.heap.size, 0, none⟩) x.bytes.length cb] 158 (0, 0)))).bytes_mono fun b hb => ⟨hb.1, hb.2.1, by rw [World.size_alloc]; omega⟩) ((HBD.out.bytes_later (Later.alloc wd (.cells #[.int .i64 x.node, .int .i64 x.group, .slice (some ⟨wc.heap.size, 0, none⟩) x.bytes.length cb] 158 (0, 0)))).bytes_mono fun b hb => ⟨by rw [hb]; have := HKc.out.size; omega, fun e => by have := HLTc.out b e.symm; omega, by rw [World.size_alloc, hb]; have := HSD.out; omega⟩) (by rw [HTL.out]; exact hA7)
                      obtain ⟨a7, c7, rfl⟩ := ownsRow_slice hA7.own
                      have HT8 := hid (obj_setCell (i := 2) hT7 (.slice a7 (i + 1) c7))
                      have HO8 := hid (hH7.keep ((Keeps.refl (fun b => b ≠ T) _).setCell (p := ⟨T, 2, none⟩) (.inl (by simp)) (.slice a7 (i + 1) c7)) fun b hb _ => by have := HTS.out; omega)
                      have HR8 := hid (rdb_set hR7 hT7 (no_u8 _ _ _) HTR.out 2 (.slice a7 (i + 1) c7))
                      have HB8 := hid ((Below.heap_setCell _ ⟨T, 2, none⟩ (.slice a7 (i + 1) c7) Bx HTB.out).trans hB7)
                      have HK8 := hid (hK7.setCell (p := ⟨T, 2, none⟩) (.inl (by simp)) (.slice a7 (i + 1) c7))
                      clear t1 t6
                      have t1 := cell_obj (i := 2) hT7 (v := .slice va i ca) rfl
                      have z1 := free_obj (i := 2) hT7
                      clear hown6 hlow hT7 hB7 hR7 hK7 hA7 hH7
                      simp only [List.setIfInBounds_toArray, List.set] at HT8
                      go_wp2_with fail
                      try simp only [HWM.out]
                      refine Round.mk' HR2.out Hmu2.out rfl ?_ ?_
                      · exact ⟨i + 1, a7, c7, HLT.out, by rw [HME.out]; rfl, HT8.out, by rw [HOS.out]; exact HO8.out, HR8.out, HB8.out, HK8.out⟩
                      · rw [Hh9.out]; have := HM0.out; simp [intOf, slots]; omega
        · obtain rfl : i = c.helds.length := by have := HIN.out; omega
          have hrx := HRx.out
          rw [restH_end] at hrx
          have HRy := hid hrx
          have HFO := HOx.out
          rw [List.take_length] at HFO
          have HHF := hid HFO
          have HOF9 := hid (own_keep HOF8.out HKx.out fun b hb _ => by have := HTS7.out; have := HRS7.out; omega)
          have HK9 := hid (HK8.out.trans (HKx.out.mono (S' := fun b => b < w.heap.size) fun b hlt _ => by have := HRT.out; have := HTW.out; omega))
          clear hrx HFO
          simp only [Nat.sub_self]
          have t6 := cell_obj (i := 0) HBx.out rfl
          go_wp2_with fail
          refine (read_end R false _ _ HRy.out).mono ?_
          rintro e w9 ⟨rfl, rfl⟩
          have t0 := cell_obj (i := 0) HTx.out (v := .int .i64 c.mark) rfl
          have t1 := cell_obj (i := 1) HTx.out (v := .slice oa c.offs.length oc) rfl
          have t2 := cell_obj (i := 2) HTx.out (v := .slice va c.helds.length ca) rfl
          have z0 := free_obj (i := 0) HTx.out
          have z1 := free_obj (i := 1) HTx.out
          have z2 := free_obj (i := 2) HTx.out
          clear t6
          by_cases hE : E = (l.length : Int)
          · subst hE
            go_wp2_with fail
            have hkf : Keeps (fun b => b ≠ T) w9 (((w9.setCell ⟨T, 0, none⟩ (.int .i64 c.mark)).setCell ⟨T, 1, none⟩ (.slice oa c.offs.length oc)).setCell ⟨T, 2, none⟩ (.slice va c.helds.length ca)) := (((Keeps.refl _ _).setCell (.inl (by simp)) _).setCell (.inl (by simp)) _).setCell (.inl (by simp)) _
            have HOFA := hid ((owned_offs (own_keep HOF9.out hkf fun b hb _ => by have := HTS7.out; omega)).map fun _ _ _ _ h => ⟨trivial, h⟩ : OffsIn All _ _ c.offs)
            have HHEA := hid ((HHF.out.keep hkf fun b hb _ => by have := HTS.out; omega).helds.map fun _ _ _ _ h => ⟨trivial, h.1, h.2.1, let ⟨u, h1, h2⟩ := h.2.2; ⟨u, h1, h2.bytes_mono fun _ _ => trivial⟩⟩ : HeldsIn All _ _ c.helds)
            clear hkf
            refine bodyPost_ret (v := .tuple #[.agg #[.int .i64 c.mark, .slice oa c.offs.length oc, .slice va c.helds.length ca], .nilIface]) ?_ rfl ⟨fin_later HK9.out (Nat.le_of_eq HTW.out.symm) _ _ _, ?_⟩
            · rw [results_cell_tmp (t := 2) (u := 3) (ty := 104) rfl]
              go_simp
              try exact ⟨rfl, rfl, rfl⟩
            · rw [if_pos (by simp)]
              exact ⟨_, _, rfl, HOFA.out, HHEA.out⟩
          · have hE2 : (E != (l.length : Int)) = true := by simp; omega
            have HNE := hid hE
            go_wp2_with fail
            refine bodyPost_ret (v := .tuple #[.agg #[.int .i64 0, .slice none 0 0, .slice none 0 0], .iface 33 (.int .i64 7)]) ?_ rfl ⟨fin_later HK9.out (Nat.le_of_eq HTW.out.symm) _ _ _, ?_⟩
            · rw [results_cell_tmp (t := 2) (u := 3) (ty := 104) rfl]
              go_simp
              try exact ⟨rfl, rfl, rfl⟩
            · rw [if_neg (by simpa using HNE.out)]
end Go.Proofs.YthfgjmdmcoogpaaDoor
