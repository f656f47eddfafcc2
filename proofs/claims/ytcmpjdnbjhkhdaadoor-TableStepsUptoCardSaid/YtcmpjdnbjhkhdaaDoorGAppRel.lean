/-
  PROVED HERE: an append inside of a region that draws its order: how worlds go on while it may have been done, or not yet. No program of its own.
  PROVED HERE: the contracts of the table's Abort and Commit.
-/
import Derived.Test.YtcmpjdnbjhkhdaaDoorAppX
import Derived.Test.YtcmpjdnbjhkhdaaDoorLexS
import Derived.Test.YtcmpjdnbjhkhdaaDoorGTabPrep
namespace Go.Proofs.YtcmpjdnbjhkhdaaDoor
set_option linter.unusedSimpArgs false
set_option linter.unusedVariables false
open Go Go.RowKit

/-- all stays but the block of 'u', which is as it was, or holds what is appended. -/
structure AppR (u : Value) (B : Nat) (e : TypeId) (s nn : Nat) (ys : List Value) (w w' : World) : Prop where
  keep : Keeps (fun b => some b ≠ u.ownBlock) w w'
  own : ∀ g n cap, u = .slice (some ⟨g, 0, none⟩) n cap → w'.heap[g]? = w.heap[g]? ∨ w'.ownsRow B e s (.slice (some ⟨g, 0, none⟩) nn cap) nn ys
section
variable {u : Value} {B s nn : Nat} {e : TypeId} {ys : List Value} {w w' : World}
theorem AppR.refl (w : World) : AppR u B e s nn ys w w := ⟨Keeps.refl _ _, fun _ _ _ _ => .inl rfl⟩
theorem owns_same {g n c m : Nat} {xs : List Value} (h : w.ownsRow B e s (.slice (some ⟨g, 0, none⟩) n c) m xs) (k : w'.heap[g]? = w.heap[g]?) : w'.ownsRow B e s (.slice (some ⟨g, 0, none⟩) n c) m xs := by
  refine ⟨h.1, h.2.imp id ?_⟩
  rintro ⟨g', cp, cur, a1, a2, a3, a4⟩
  cases a1
  exact ⟨g, c, cur, rfl, a2, k.trans a3, a4⟩
theorem AppR.trans (a b c : World) (h : AppR u B e s nn ys a b) (k : AppR u B e s nn ys b c) : AppR u B e s nn ys a c :=
  ⟨h.keep.trans k.keep, fun g n cap hu => (k.own g n cap hu).elim (fun k1 => (h.own g n cap hu).imp (fun h1 => k1.trans h1) fun h1 => owns_same h1 k1) .inr⟩
theorem AppR.of_drew (h : AppR u B e s nn ys w.drew w') : AppR u B e s nn ys w w' := ⟨(Later.drew w).keeps _ |>.trans h.keep, h.own⟩
theorem AppR.cell (h : AppR u B e s nn ys w w') {p : Addr} {v : Value} (hp : some p.block ≠ u.ownBlock) (hc : w.cell? p = some v) : w'.cell? p = some v := h.keep.cell hp hc
theorem AppR.owned {n : Nat} {xs news : List Value} (h : AppR u B e s nn (xs ++ news) w w') (hu : w.ownsRow B e s u n xs) (hn : n ≤ nn) : w'.ownsRow B e s u n xs := by
  obtain ⟨hl, ⟨rfl, h0⟩ | ⟨g, cap, cur, rfl, hb, hg, h1, h2, h3, h4⟩⟩ := hu
  · exact ⟨hl, .inl ⟨rfl, h0⟩⟩
  · rcases h.own g n cap rfl with k | k
    · exact ⟨hl, .inr ⟨g, cap, cur, rfl, hb, k.trans hg, h1, h2, h3, h4⟩⟩
    · obtain ⟨kl, ⟨k0, -⟩ | ⟨g', cap', cur', k0, kb, kg, k1, k2, k3, k4⟩⟩ := k
      · cases k0
      · cases k0
        refine ⟨hl, .inr ⟨g, cap, cur', rfl, kb, kg, h1, h2, k3, ?_⟩⟩
        have hm : n * s ≤ nn * s := Nat.mul_le_mul_right _ hn
        have : (cur'.toList.take (nn * s)).take (n * s) = cur'.toList.take (n * s) := by rw [List.take_take, Nat.min_eq_left hm]
        rw [← this, k4, List.take_append_of_le_length (by omega), List.take_of_length_le (by omega)]
/-- what is appended: in its own block, or in a new one. -/
def AppK (u : Value) (B : Nat) (e : TypeId) (s nn : Nat) (ys : List Value) (Z : Nat) (v : Value) (w : World) : Prop :=
  w.ownsRow B e s v nn ys ∧ ((∃ g n cap, u = .slice (some ⟨g, 0, none⟩) n cap ∧ v = .slice (some ⟨g, 0, none⟩) nn cap) ∨ ∀ b, v.ownBlock = some b → Z ≤ b)
theorem AppK.keep {Z : Nat} {v : Value} (h : AppK u B e s nn ys Z v w) (k : AppR u B e s nn ys w w') (hZ : ∀ b, u.ownBlock = some b → b < Z) : AppK u B e s nn ys Z v w' := by
  obtain ⟨h1, ⟨g, n, cap, hu, rfl⟩ | h2⟩ := h
  · exact ⟨(k.own g n cap hu).elim (owns_same h1) id, .inl ⟨g, n, cap, hu, rfl⟩⟩
  · exact ⟨owns_keep h1 k.keep fun b hb e => by have := hZ b e.symm; have := h2 b hb; omega, .inr h2⟩
/-- what stands in a slice. -/
def Src (w : World) (x : Value) (m : Nat) (news : List Value) : Prop := (x = .slice none 0 0 ∧ m = 0 ∧ news = []) ∨ ∃ ad c, x = .slice (some ad) m c ∧ ∀ j u, news[j]? = some u → w.cell? (ad.add j) = some u
theorem src_own {x : Value} {m : Nat} {news : List Value} (h : w.ownsRow B e s x m news) : Src w x m news := by
  obtain ⟨hl, ⟨rfl, h0⟩ | ⟨g, cap, cur, rfl, hb, hg, h1, h2, h3, h4⟩⟩ := h
  · exact .inl ⟨rfl, h0, List.eq_nil_of_length_eq_zero (by rw [hl, h0, Nat.zero_mul])⟩
  · refine .inr ⟨_, cap, rfl, fun j u hu => ?_⟩
    rw [add_none rfl]
    refine cell_obj hg ?_
    rw [← h4, List.getElem?_take] at hu
    split at hu
    · simpa using hu
    · cases hu
theorem runs_append_k {P : Program} {o : Oper} {a : Act} (st x : Operand) (t : TypeId) (ho : o.op = .call { callee := .builtin .append, args := #[st, x], argTypes := #[t, t] })
    (bytes : Nat) (ht : P.underlying t = some (.slice e)) (hI : ElemInfo P e s bytes) {n m : Nat} {xs news : List Value} {xv : Value} (hs : a.eval st = u) (hown : w.ownsRow B e s u n xs) (hx : a.eval x = xv) (hsrc : Src w xv m news)
    (hl : news.length = m * s) (h1 : ∀ u ∈ news, u.oneCell' = true) (hbytes : (n + m) * bytes ≤ 140737488355328) (h63 : n + m ≤ maxLen) (hbase : B ≤ w.heap.size) {Z : Nat} (hZ : Z ≤ w.heap.size) :
    Runs P (AppR u B e s (n + m) (xs ++ news)) o a w (AppK u B e s (n + m) (xs ++ news) Z) := by
  obtain ⟨i, z, hi, hz, h3, h4, h5, h6⟩ := hI.ex
  rcases hsrc with ⟨rfl, rfl, rfl⟩ | ⟨ad, c, rfl, hnews⟩
  · have hr := run_append_owned_none (P := P) w B t o.type e i s ht hi u n xs hown
    unfold Runs execOp
    simp only [ho, resolve, invoke, builtin, Sem.run_bind, Sem.run_pure, Result.andThen_ok, List.map_toArray, List.map_cons, List.map_nil, hs, hx, hr]
    refine ⟨AppR.refl _, ?_⟩
    rw [List.append_nil, Nat.add_zero]
    refine ⟨hown, ?_⟩
    rcases hown.2 with ⟨rfl, -⟩ | ⟨g, cap, cur, rfl, -⟩
    · exact .inr fun b hb => by cases hb
    · exact .inl ⟨g, n, cap, rfl, rfl⟩
  · obtain ⟨v', w', hr, k2, k3, -⟩ := run_append_own (P := P) w B t o.type e i z s bytes ht hi hz h3 h4 h5 h6 u n xs hown ad m c news hl hnews h1 h63 hbytes hbase
    have hb := append_x ht hi hz h3 h4 hown hl hnews h1 h63 hbytes hr k3
    unfold Runs execOp
    simp only [ho, resolve, invoke, builtin, Sem.run_bind, Sem.run_pure, Result.andThen_ok, List.map_toArray, List.map_cons, List.map_nil, hs, hx, hr]
    refine ⟨⟨Keeps.of_grown k3, ?_⟩, k2, ?_⟩
    · intro g n' cap hu
      subst hu
      rcases hb with ⟨g', cap', hv, rfl, -⟩ | ⟨hL, -⟩
      · cases hv
        exact .inr k2
      · rcases hown.2 with ⟨hv, -⟩ | ⟨g', cap', cur, hv, -, hg, -⟩
        · cases hv
        · cases hv
          exact .inl ((hL.obj hg).trans hg.symm)
    · rcases hb with ⟨g, cap, rfl, rfl, -⟩ | ⟨-, hn⟩
      · exact .inl ⟨g, n, cap, rfl, rfl⟩
      · exact .inr fun b hb => Nat.le_trans hZ (hn b hb)
end
end Go.Proofs.YtcmpjdnbjhkhdaaDoor
namespace Go.Proofs.YtcmpjdnbjhkhdaaDoor
set_option linter.unusedSimpArgs false
set_option linter.unusedVariables false
open Go.RowKit

variable {B : Nat} {N : Nat → Prop} {w w' : World} {A M n : Nat} {f : List UInt8 → Option Value} {h : List UInt8 → List RX} {pv : Value} {ps : List PD} {Mut : Nat → Prop}
def BoolTo (w : World) (b : Bool) (e : Ending) (w' : World) : Prop := e = .returned (.bool b) ∧ Later w w'
set_option maxRecDepth 100000 in
theorem tab_abort_no (t : TabAt B N w A M n f h pv ps Mut) (x : TxD) (hl : ps.length ≤ 4398046511104) (hh : hasP ps x = false) :
    Calls Tryd.prog 38 #[.pointer (some ⟨A, 0, none⟩), x.v] w (BoolTo w false) := by
  have T := hid t; have HL := hid hl; have HH := hid hh
  obtain ⟨k, s, z⟩ := x
  clear t hl hh
  go_enter Tryd.func38, Tryd.ntmps38
  go_wp2_with fail
  refine (tab_take_no (T.out.later (Later.alloc _ _)) ⟨k, s, z⟩ HL.out HH.out).mono ?_
  rintro e w2 ⟨rfl, hL⟩
  have HL2 := hid (Later.trans _ _ _ (Later.alloc _ _) hL)
  clear hL
  unfold zeroPV
  go_wp2_with fail
  go_ret
  exact ⟨rfl, Later.trans _ _ _ HL2.out (Later.alloc _ _)⟩
set_option maxRecDepth 100000 in
theorem tab_commit_no (t : TabAt B N w A M n f h pv ps Mut) (x : TxD) (hl : ps.length ≤ 4398046511104) (hh : hasP ps x = false) :
    Calls Tryd.prog 36 #[.pointer (some ⟨A, 0, none⟩), x.v] w (BoolTo w false) := by
  have T := hid t; have HL := hid hl; have HH := hid hh
  obtain ⟨k, s, z⟩ := x
  clear t hl hh
  go_enter Tryd.func36, Tryd.ntmps36
  go_wp2_with fail
  refine (tab_take_no (T.out.later (Later.alloc _ _)) ⟨k, s, z⟩ HL.out HH.out).mono ?_
  rintro e w2 ⟨rfl, hL⟩
  have HL2 := hid (Later.trans _ _ _ (Later.alloc _ _) hL)
  clear hL
  unfold zeroPV
  go_wp2_with fail
  go_ret
  exact ⟨rfl, Later.trans _ _ _ HL2.out (Later.alloc _ _)⟩
def AbortTo (B : Nat) (N : Nat → Prop) (w : World) (A M n : Nat) (f : List UInt8 → Option Value) (h : List UInt8 → List RX) (ps : List PD) (x : TxD) (e : Ending) (w' : World) : Prop :=
  ∃ (kk : Nat) (p : PD) (pv' : Value) (Mut' : Nat → Prop), ps[kk]? = some p ∧ p.tx = x ∧ e = .returned (.bool true) ∧ TabAt B (fun b => N b ∨ w.heap.size ≤ b) w' A M n f h pv' (ps.take kk ++ ps.drop (kk + 1)) Mut' ∧ Keeps (fun b => ¬ N b) w w'
theorem TabAt.low (t : TabAt B N w A M n f h pv ps Mut) (k : Later w w') : TabAt B (fun b => N b ∧ b < w.heap.size) w' A M n f h pv ps Mut := t.keep (k.keeps fun _ => True) (fun b h1 h2 => ⟨trivial, h1, h2⟩) fun b hb => t.nB b hb.1
theorem Keeps.low (hw : Later w w') {w2 : World} (k : Keeps (fun b => ¬ (N b ∧ b < w.heap.size)) w' w2) : Keeps (fun b => ¬ N b) w w2 := (hw.keeps _).trans (k.mono fun b _ hb e => hb e.1)
set_option maxRecDepth 100000 in
theorem tab_abort (t : TabAt B N w A M n f h pv ps Mut) (x : TxD) (hl : ps.length ≤ 4398046511104) (hh : hasP ps x = true) :
    Calls Tryd.prog 38 #[.pointer (some ⟨A, 0, none⟩), x.v] w (AbortTo B N w A M n f h ps x) := by
  have T := hid t; have HL := hid hl; have HH := hid hh
  have HX := hid (rfl : x = x)
  obtain ⟨k, s, z⟩ := x
  clear t hl hh
  go_enter Tryd.func38, Tryd.ntmps38
  go_wp2_with fail
  have HL1 := hid (Later.alloc w (.cells #[.int .i64 k, .string (strB s), .int .i64 z] 72 (0, 0)))
  refine (tab_take (T.out.low HL1.out) ⟨k, s, z⟩ HL.out HH.out).mono ?_
  rintro e w3 ⟨kk, p, pv', Mut', hp, hpx, rfl, ht, ho, hnm, hf, hk⟩
  obtain ⟨ra, rc, hrv⟩ := ownsRow_slice ho
  have hpv : p.v = .agg #[.int .i64 p.tx.mark, .string (strB p.tx.sink), .int .i64 p.tx.task, .slice ra p.xs.length rc] := by unfold PD.v; rw [hrv]
  rw [hpv]
  have HP := hid hp; have HPX := hid hpx; have HT := hid ht; have HK := hid hk
  obtain ⟨pl, hpl⟩ : ∃ pl, pl = p.xs.length := ⟨_, rfl⟩
  obtain ⟨q1, hq1⟩ : ∃ q1, q1 = p.tx.mark := ⟨_, rfl⟩
  obtain ⟨q2, hq2⟩ : ∃ q2, q2 = p.tx.sink := ⟨_, rfl⟩
  obtain ⟨q3, hq3⟩ : ∃ q3, q3 = p.tx.task := ⟨_, rfl⟩
  rw [← hpl, ← hq1, ← hq2, ← hq3]
  clear hp hpx ht ho hnm hf hk hrv hpv hpl hq1 hq2 hq3
  go_wp2_with fail
  go_ret
  refine ⟨kk, p, pv', Mut', HP.out, HPX.out, rfl, HT.out.keep ((Later.alloc _ _).keeps fun _ => True) (fun b hb _ => ⟨trivial, ?_⟩) ?_, (Keeps.low HL1.out HK.out).trans ((Later.alloc _ _).keeps _)⟩
  · exact hb.imp (fun h => h.1) fun h => Nat.le_trans HL1.out.size h
  · exact fun b hb => hb.elim (T.out.nB b) fun h => Nat.le_trans T.out.base h
def CommTo (B : Nat) (N : Nat → Prop) (w : World) (A M n : Nat) (f : List UInt8 → Option Value) (h : List UInt8 → List RX) (ps : List PD) (x : TxD) (e : Ending) (w' : World) : Prop :=
  ∃ (kk : Nat) (p : PD) (f' : List UInt8 → Option Value) (pv' : Value) (Mut' : Nat → Prop), ps[kk]? = some p ∧ p.tx = x ∧ e = .returned (.bool true) ∧ TabAt B (fun b => N b ∨ w.heap.size ≤ b) w' A M (n + 1) f' (updH h x.sink p.xs) pv' (ps.take kk ++ ps.drop (kk + 1)) Mut' ∧ Keeps (fun b => ¬ N b) w w'
theorem MapAt.look1 {mt et : TypeId} (ht : Tryd.prog.underlying mt = some (.map 9 et)) (hz : ∀ w, (zeroValue et).run Tryd.prog w = .ok (.slice none 0 0) w) (hM : MapAt w M n f) (k : List UInt8) (hk : k.length ≤ maxLen) :
    (Instr.lookup mt (.map (some M)) (.string (strB k)) false).run Tryd.prog w = .ok ((f k).getD nilS) w := by
  obtain ⟨D, hown, hf⟩ := hM
  obtain ⟨v, ps, hrun, hv⟩ := hown.lookup lawS ht (hz w) (zd := .held nilS) (zp := []) rfl (keyS k hk)
  rw [hrun]
  have h1 := rawR_inv hv
  rw [(hf k).2] at h1
  cases hfk : f k with
  | none => rw [hfk] at h1; simp only [DataW.held.injEq] at h1; rw [← h1]; rfl
  | some u => rw [hfk] at h1; simp only [DataW.held.injEq] at h1; rw [← h1]; rfl
theorem TabAt.ownS (t : TabAt B N w A M n f h pv ps Mut) (k : List UInt8) : OwnR B w ((f k).getD nilS) (h k) := by
  cases hf : f k with
  | none => rw [t.gone k hf]; exact ⟨rfl, .inl ⟨rfl, rfl⟩⟩
  | some u => exact (t.held k u hf).1
theorem TabAt.notS (t : TabAt B N w A M n f h pv ps Mut) (k : List UInt8) {b : Nat} (hb : ((f k).getD nilS).ownBlock = some b) : Mut b ∧ b ≠ A ∧ b ≠ M ∧ b < w.heap.size := by
  cases hf : f k with
  | none => rw [hf] at hb; cases hb
  | some u => rw [hf] at hb; have h := t.held k u hf; exact ⟨(h.2 b hb).1, (h.2 b hb).2.1, (h.2 b hb).2.2.1, (ownb h.1 b hb).2⟩
theorem rx_ones {l : List RX} (h : ∀ x ∈ l, x.v.oneCell' = true) : ∀ u ∈ rxCells l, u.oneCell' = true := by
  intro u hu
  obtain ⟨y, hy, hu⟩ := List.mem_flatMap.1 hu
  simp only [RX.cells, List.mem_cons, List.not_mem_nil, or_false] at hu
  rcases hu with rfl | rfl
  · rfl
  · exact h y hy
set_option maxRecDepth 100000 in
set_option maxHeartbeats 2000000 in
theorem tab_commit (t : TabAt B N w A M n f h pv ps Mut) (x : TxD) (hl : ps.length ≤ 4398046511104) (hh : hasP ps x = true) (hk : x.sink.length ≤ maxLen) (hn : n < maxLen) (hb : ∀ p ∈ ps, ((h x.sink).length + p.xs.length) * 32 ≤ 140737488355328) :
    Calls Tryd.prog 36 #[.pointer (some ⟨A, 0, none⟩), x.v] w (CommTo B N w A M n f h ps x) := by
  have T := hid t; have HL := hid hl; have HH := hid hh; have HKL := hid hk; have HN := hid hn; have HB := hid hb
  have HX := hid (rfl : x = x)
  obtain ⟨k, s, z⟩ := x
  clear t hl hh hk hn hb
  go_enter Tryd.func36, Tryd.ntmps36
  go_upto_region 1 with (fail)
  obtain ⟨w1, hw1⟩ : ∃ w1, w1 = w.alloc (.cells #[.int .i64 k, .string (strB s), .int .i64 z] 72 (0, 0)) := ⟨_, rfl⟩
  obtain ⟨X, hX⟩ : ∃ X, X = w.heap.size := ⟨_, rfl⟩
  have HL1 : Hid (Later w w1) := hid (by rw [hw1]; exact Later.alloc _ _)
  have HX1 : Hid (w1.heap[X]? = some (.cells #[.int .i64 k, .string (strB s), .int .i64 z] 72 (0, 0))) := hid (by rw [hw1, hX]; exact obj_new _ _)
  have HXS := hid hX
  rw [← hw1, ← hX]
  clear hw1 hX
  have x0 := cell_obj (i := 0) HX1.out (v := .int .i64 k) rfl
  have x1 := cell_obj (i := 1) HX1.out (v := .string (strB s)) rfl
  have x2 := cell_obj (i := 2) HX1.out (v := .int .i64 z) rfl
  have hlx := cell_lt x0
  go_wp2_with fail
  refine (tab_take (T.out.low HL1.out) ⟨k, s, z⟩ HL.out HH.out).mono ?_
  rintro e w3 ⟨kk, p, pv', Mut', hp, hpx, rfl, ht, ho, hnm, hf, hk⟩
  obtain ⟨ra, rc, hrv⟩ := ownsRow_slice ho
  have hpv : p.v = .agg #[.int .i64 p.tx.mark, .string (strB p.tx.sink), .int .i64 p.tx.task, .slice ra p.xs.length rc] := by unfold PD.v; rw [hrv]
  rw [hpv]
  have HP := hid hp; have HPX := hid hpx; have HT := hid ht; have HK := hid hk; have HO := hid ho; have HF := hid hf; have HNM := hid hnm
  have HX3 : Hid (w3.heap[X]? = some (.cells #[.int .i64 k, .string (strB s), .int .i64 z] 72 (0, 0))) := hid (hk.obj (fun e => by have := HXS.out; omega) HX1.out)
  have HPM : Hid (p ∈ ps) := hid (List.mem_of_getElem? hp)
  rw [hrv] at HO HNM
  obtain ⟨pl, hpl⟩ : ∃ pl, pl = p.xs.length := ⟨_, rfl⟩
  obtain ⟨q1, hq1⟩ : ∃ q1, q1 = p.tx.mark := ⟨_, rfl⟩
  obtain ⟨q2, hq2⟩ : ∃ q2, q2 = p.tx.sink := ⟨_, rfl⟩
  obtain ⟨q3, hq3⟩ : ∃ q3, q3 = p.tx.task := ⟨_, rfl⟩
  have HPLE := hid hpl
  rw [← hpl] at HO HNM
  rw [← hpl, ← hq1, ← hq2, ← hq3]
  clear hp hpx ht ho hnm hf hk hrv hpv hpl hq1 hq2 hq3 x0 x1 x2 hlx
  go_upto_region 3 with (fail)
  obtain ⟨w4, hw4⟩ : ∃ w4, w4 = w3.alloc (.cells #[.int .i64 q1, .string (strB q2), .int .i64 q3, .slice ra pl rc] 137 (0, 0)) := ⟨_, rfl⟩
  obtain ⟨Y, hY⟩ : ∃ Y, Y = w3.heap.size := ⟨_, rfl⟩
  have hL4 : Later w3 w4 := by rw [hw4]; exact Later.alloc _ _
  have hY4 : w4.heap[Y]? = some (.cells #[.int .i64 q1, .string (strB q2), .int .i64 q3, .slice ra pl rc] 137 (0, 0)) := by rw [hw4, hY]; exact obj_new _ _
  rw [← hw4, ← hY]
  obtain ⟨u, hu⟩ : ∃ u, u = (f s).getD nilS := ⟨_, rfl⟩
  have HU := hid hu
  have HUB : Hid (∀ b, u.ownBlock = some b → Mut' b ∧ b ≠ A ∧ b ≠ M ∧ b < w3.heap.size) := hid fun b hb => HT.out.notS s (by rw [← hu]; exact hb)
  have HOU : Hid (OwnR B w4 u (h s)) := hid (by rw [hu]; exact owns_at (HT.out.ownS s) hL4)
  have HT4 := hid (HT.out.later hL4)
  have HO4 : Hid (w4.ownsRow B 79 2 (.slice ra pl rc) pl (rxCells p.xs)) := hid (by have h := HO.out; unfold OwnR at h; rw [← HPLE.out] at h; exact owns_at h hL4)
  have HL4 := hid hL4
  have c0 := HT4.out.c0
  have x1 := cell_obj (i := 1) (hL4.obj HX3.out) (v := .string (strB s)) rfl
  have y3 := cell_obj (i := 3) hY4 (v := .slice ra pl rc) rfl
  have hAl := HT4.out.lt
  have hXl := cell_lt x1
  have hYl := cell_lt y3
  have HPN : Hid (∀ b, (Value.slice ra pl rc).ownBlock = some b → ¬ Mut' b) := hid HNM.out
  have HUA : Hid (some A ≠ u.ownBlock) := hid fun e => (HUB.out A e.symm).2.1 rfl
  have HUM : Hid (some M ≠ u.ownBlock) := hid fun e => (HUB.out M e.symm).2.2.1 rfl
  have HUX : Hid (some X ≠ u.ownBlock) := hid fun e => by
    have h1 := HT.out.mN X (HUB.out X e.symm).1
    have h2 : X < w1.heap.size := cell_lt (cell_obj (i := 0) HX1.out (v := .int .i64 k) rfl)
    have h3 := HXS.out
    rcases h1 with ⟨-, h1⟩ | h1 <;> omega
  have HUY : Hid (some Y ≠ u.ownBlock) := hid fun e => by have := (HUB.out Y e.symm).2.2.2; omega
  have HUZ : Hid (∀ b, u.ownBlock = some b → b < w4.heap.size) := hid fun b hb => Nat.lt_of_lt_of_le (HUB.out b hb).2.2.2 hL4.size
  have HUP : Hid (∀ b, (Value.slice ra pl rc).ownBlock = some b → some b ≠ u.ownBlock) := hid fun b hb e => HNM.out b hb (HUB.out b e.symm).1
  have HLK : Hid (∀ w', Keeps (fun b => some b ≠ u.ownBlock) w4 w' → (Instr.lookup 129 (.map (some M)) (.string (strB s)) false).run Tryd.prog w' = .ok u w') := hid fun w' k => by
    rw [hu]; exact MapAt.look1 Tryd.underlying129 zeroRs (HT4.out.map.kept k HUM.out) s HKL.out
  clear hw4 hY hL4 hY4 hu
  refine wp_region_plan (by kernel_rfl) (by kernel_rfl) [] [16] (by kernel_rfl) (fun _ _ d _ _ h => by cases d <;> exact h) (AppR u B 79 2 ((h s).length + pl) (rxCells (h s) ++ rxCells p.xs)) (AppR.refl) (AppR.trans) (kinds [(15, AppK u B 79 2 ((h s).length + pl) (rxCells (h s) ++ rxCells p.xs) w4.heap.size)]) (kinds_still (by simp only [List.mem_cons, List.not_mem_nil, or_false, forall_eq_or_imp, forall_eq]; exact fun _ _ _ hR h => h.keep hR HUZ.out)) ?_
  simp only [body, tail, numbered, Nat.reduceAdd, List.filter_cons, List.filter_nil, List.contains_cons, List.contains_nil, Nat.reduceBEq, Bool.or_false, Bool.or_true, Bool.false_or, Bool.true_or, Bool.not_true, Bool.not_false, Bool.and_true, Bool.and_false, Bool.true_and, Bool.false_and, if_true, if_false, reduceIte, Bool.false_eq_true, List.map_cons, List.map_nil]
  simp only [Pures]
  refine LexS.out ?_
  iterate 15
    refine LexS.one' rfl rfl ?_
    apply Exists.intro
    refine ⟨fun w hR hF => ?_, ?_⟩
    · replace hR := AppR.of_drew hR
      have z0 := hR.cell HUA.out c0
      have z1 := hR.cell HUX.out x1
      have z3 := hR.cell HUY.out y3
      have zl := HLK.out w hR.keep
      clear hR hF
      go_simp
      first | done | rfl
    simp only [Act.put, List.setIfInBounds_toArray, List.set]
  have HBB : Hid (((h s).length + pl) * 32 ≤ 140737488355328) := hid (by rw [HPLE.out]; exact HB.out p HPM.out)
  have HON : Hid (∀ u ∈ rxCells p.xs, u.oneCell' = true) := hid (rx_ones fun y hy => by obtain ⟨a', c', e, -⟩ := (HF.out y hy).is; rw [e]; rfl)
  clear c0 x1 y3 hAl hXl hYl
  refine LexS.any rfl rfl (fun w hR hF => ?_) ?_
  · replace hR := AppR.of_drew hR
    clear hF
    have hown := hR.owned HOU.out (Nat.le_add_right _ _)
    have hsrc := src_own (owns_keep HO4.out hR.keep HUP.out)
    have hsz := hR.keep.size
    clear hR
    refine runs_append_k (u := u) (xv := .slice ra pl rc) (xs := rxCells (h s)) (news := rxCells p.xs) (n := (h s).length) (m := pl) (.tmp 26) (.tmp 28) 73 ?s1 32 Tryd.underlying73 rowElem ?s2 hown ?s3 hsrc ?l1 HON.out HBB.out ?l2 ?l3 hsz
    case s1 => rfl
    case s2 => rfl
    case s3 => rfl
    case l1 => rw [rxCells_length, HPLE.out]
    case l2 => have := HBB.out; unfold maxLen; omega
    case l3 => exact Nat.le_trans HT4.out.base hsz
  rintro v15 ⟨w5, hR5, hF5⟩
  have h15 := hF5 _ List.mem_cons_self _ rfl
  obtain ⟨a15, c15, rfl⟩ := ownsRow_slice h15.1
  clear hF5 hR5 h15 w5
  simp only [Act.put, List.setIfInBounds_toArray, List.set]
  refine LexS.nil ?_
  intro w5 hR5 hF5
  have h15 := hF5 _ List.mem_cons_self _ rfl
  replace hR5 := AppR.of_drew hR5
  clear hF5
  have H15 := hid h15; have HR5 := hid hR5
  have HM5 := hid (HT4.out.map.kept hR5.keep HUM.out)
  clear h15 hR5
  change wpList _ _ _ _ _ _
  refine wpList_map_put Tryd.underlying129 rfl _ _ _ rfl rfl HM5.out HN.out s HKL.out rfl (.slice a15 ((h s).length + pl) c15) rfl ?_
  intro w6 hM6 hk6
  have HM6 := hid hM6; have HK6 := hid hk6
  clear hM6 hk6
  go_wp2_with fail
  go_ret
  obtain ⟨v, hv⟩ : ∃ v, v = Value.slice a15 ((h s).length + pl) c15 := ⟨_, rfl⟩
  have h15 := H15.out
  have hM6 := HM6.out
  rw [← hv] at h15 hM6
  have hw4 : w3.heap.size ≤ w4.heap.size := HL4.out.size
  have hvM : v.ownBlock ≠ some M := by
    intro e
    rcases h15.2 with ⟨g, n', cap, h1, h2⟩ | h1
    · rw [h2] at e
      exact HUM.out (by rw [h1, ← e]; rfl)
    · have := h1 M e; have := HT4.out.map.lt; omega
  have hkp : Keeps (fun b => b ≠ M ∧ ∀ u', f s = some u' → some b ≠ u'.ownBlock) w4 w6 := by
    refine (HR5.out.keep.mono fun b _ hb => ?_).trans (HK6.out.mono fun b _ hb => hb.1)
    cases hf : f s with
    | none => rw [HU.out, hf]; exact fun e => by cases e
    | some u' => rw [HU.out, hf]; exact hb.2 u' hf
  have ho6 : OwnR B w6 v (h s ++ p.xs) := by
    unfold OwnR
    rw [List.length_append, rxCells_app, ← HPLE.out]
    exact owns_keep h15.1 HK6.out fun b hb e => hvM (by rw [hb, e])
  refine ⟨kk, p, upd f s (some v), pv', (fun b => Mut' b ∨ v.ownBlock = some b), HP.out, HPX.out, rfl, ?_, (Keeps.low HL1.out HK.out).trans ((HL4.out.keeps _).trans ?_)⟩
  · refine (HT4.out.put s hkp hM6 ho6 ?_ fun y hy => (HF.out y hy).later HL4.out).keep (S := fun _ => True) (Keeps.refl _ _) (fun b hb _ => ⟨trivial, ?_⟩) fun b hb => hb.elim (T.out.nB b) fun h => Nat.le_trans T.out.base h
    · rcases h15.2 with ⟨g, n', cap, h1, h2⟩ | h1
      · left
        cases hf : f s with
        | none => have := HU.out; rw [hf, h1] at this; cases this
        | some u' => have := HU.out; rw [hf] at this; exact ⟨u', rfl, by rw [h2]; have e : u = u' := this; rw [← e, h1]; rfl⟩
      · exact .inr h1
    · have h1 := HL1.out.size; have h3 := HK.out.size
      rcases hb with (hb | hb) | hb
      · exact .inl hb.1
      · exact .inr (by omega)
      · exact .inr (by omega)
  · exact hkp.mono fun b _ hb => ⟨fun e => hb (e ▸ T.out.mN M T.out.mM), fun u' hf e => hb (T.out.mN b ((T.out.held s u' hf).2 b e.symm).1)⟩
end Go.Proofs.YtcmpjdnbjhkhdaaDoor
