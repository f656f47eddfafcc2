/-
  PROVED HERE: the contracts of the law's before, waiting and seen.
-/
import Derived.Test.YtcmpjdnbjhkhdaaDoorGTabHeld
import Derived.Test.YtcmpjdnbjhkhdaaDoorGTabPrep
import Derived.Test.YtcmpjdnbjhkhdaaDoorRefSorted
import Derived.Test.YtcmpjdnbjhkhdaaDoorGAppRel
namespace Go.Proofs.YtcmpjdnbjhkhdaaDoor
set_option linter.unusedSimpArgs false
set_option linter.unusedVariables false
open Go.RowKit

theorem orL3b (a b c : Int) : orL [a, b, c] = if a ≠ 0 then a else if b ≠ 0 then b else c := by
  unfold orL
  by_cases ha : a = 0
  · by_cases hb : b = 0
    · by_cases hc : c = 0
      · simp [ha, hb, hc]
      · simp [ha, hb, hc]
    · simp [ha, hb]
  · simp [ha]
/-- what the law's before tells. -/
def beforeT (x y : TxD) : Bool := if x.mark = y.mark then (if x.sink = y.sink then decide (x.task < y.task) else Op.bytesLess x.sink y.sink) else decide (x.mark < y.mark)
theorem cmpI_neg (a b : Int) (h : a ≠ b) : cmpI a b ≠ 0 ∧ (cmpI a b < 0 ↔ a < b) := by
  unfold cmpI
  split
  · simp_all
  · split
    · constructor
      · decide
      · constructor <;> intro <;> omega
    · omega
theorem cmpI_self (a : Int) : cmpI a a = 0 := by unfold cmpI; simp
theorem beforeT_eq {x y : TxD} (h : compareT x y < 0) : beforeT x y = true := by
  unfold compareT at h
  rw [orL3b] at h
  unfold beforeT
  by_cases h1 : x.mark = y.mark
  · rw [if_pos h1]
    rw [h1, cmpI_self] at h
    simp only [ne_eq, not_true_eq_false, if_false] at h
    by_cases h2 : x.sink = y.sink
    · rw [if_pos h2]
      rw [h2, compareBytes_eq] at h
      simp only [signI, beq_self_eq_true, if_true, not_true_eq_false, if_false] at h
      by_cases h3 : x.task = y.task
      · rw [h3, cmpI_self] at h; omega
      · exact decide_eq_true ((cmpI_neg _ _ h3).2.1 h)
    · rw [if_neg h2]
      have he : (x.sink == y.sink) = false := by simpa using h2
      rw [compareBytes_eq, he] at h
      unfold signI at h
      cases hb : Op.bytesLess x.sink y.sink with
      | true => rfl
      | false => rw [hb] at h; simp at h
  · rw [if_neg h1]
    rw [if_pos (cmpI_neg _ _ h1).1] at h
    exact decide_eq_true ((cmpI_neg _ _ h1).2.1 h)
set_option maxRecDepth 100000 in
theorem before_tx (x y : TxD) (w : World) : Calls Tryd.prog 75 #[x.v, y.v] w fun e w' => e = .returned (.bool (beforeT x y)) ∧ Later w w' := by
  obtain ⟨k1, n1, t1⟩ := x
  obtain ⟨k2, n2, t2⟩ := y
  unfold beforeT
  by_cases h1 : k1 = k2
  · subst h1
    by_cases h2 : n1 = n2
    · subst h2
      have HT : Hid (decide (t1 < t2) = decide (t1 < t2)) := hid rfl
      simp only [if_true]
      go_enter Tryd.func75, Tryd.ntmps75
      go_wp2_with fail
      go_ret
      exact ⟨ret_bool (by simp), (Later.alloc _ _).alloc' _⟩
    · have hne : ((strB n1).toList == (strB n2).toList) = false := by simpa [strB_list] using h2
      have hl : Op.bytesLess (strB n1).toList (strB n2).toList = Op.bytesLess n1 n2 := by rw [strB_list, strB_list]
      simp only [if_true]
      rw [if_neg h2]
      go_enter Tryd.func75, Tryd.ntmps75
      go_wp2_with fail
      go_ret
      exact ⟨ret_bool (by simp [strB_list]), (Later.alloc _ _).alloc' _⟩
  · rw [if_neg h1]
    go_enter Tryd.func75, Tryd.ntmps75
    go_wp2_with fail
    go_ret
    exact ⟨ret_bool (by simp), (Later.alloc _ _).alloc' _⟩
/-! waiting -/
def WaitTo (w : World) (e : Ending) (w' : World) : Prop := e = .returned (.bool true) ∧ Later w w'
set_option maxRecDepth 100000 in
set_option maxHeartbeats 1000000 in
theorem waiting_any {B B' : Nat} {w : World} {gv v : Value} {G : List TxD} {P : List HE} {ns : List Nat} (hg : OwnT B w gv G) (ho : OwnH B' w v P) (hlen : G.length = P.length) (hns : ns.length = G.length) (hmem : ∀ x ∈ G, ∃ q ∈ P, q.tx = x)
    (hr : G.Pairwise fun a b => compareT a b < 0) (hcnt : ∀ i (hi : i < G.length) (hj : i < ns.length), ∀ q ∈ P, q.tx = G[i] → ∃ a c, q.rv = .slice a ns[i] c) (hl : G.length ≤ 1048576) (hs : ns.sum ≤ 1048576) :
    Calls Tryd.prog 44 #[gv, .int .i64 (ns.sum : Nat), v] w (WaitTo w) := by
  obtain ⟨ga, gc, rfl⟩ := hg.slice
  obtain ⟨pa, pc, rfl⟩ := ho.slice
  have HG := hid hg; have HO := hid ho; have HLN := hid hlen; have HNS := hid hns; have HME := hid hmem; have HR := hid hr; have HCN := hid hcnt; have HL := hid hl; have HS := hid hs
  rw [← hlen]
  obtain ⟨L, hL⟩ : ∃ L, L = G.length := ⟨_, rfl⟩
  obtain ⟨SS, hSS⟩ : ∃ SS, SS = ns.sum := ⟨_, rfl⟩
  have HLE := hid hL; have HSE := hid hSS
  rw [← hlen] at HO
  rw [← hL] at HL HO HG ⊢
  rw [← hSS] at HS ⊢
  clear hg ho hlen hns hmem hr hcnt hl hs hL hSS
  go_enter Tryd.func44, Tryd.ntmps44
  go_wp2_with fail
  obtain ⟨R1, hR1⟩ : ∃ RR_ : (Nat → Value) → World → Prop, RR_ = (fun us wx => ∃ i : Nat, us 8 = .int .i64 i ∧ us 7 = .int .i64 (((ns.take i).sum : Nat) : Int) ∧ i ≤ L ∧ Later w wx) := ⟨_, rfl⟩
  obtain ⟨mu1, hmu1⟩ : ∃ mu : (Nat → Value) → World → Nat, mu = (fun us _ => L - (intOf (us 8)).toNat) := ⟨_, rfl⟩
  have HR1 := hid hR1; have Hmu1 := hid hmu1; clear hR1 hmu1
  refine wp_loop_frame' [false, false, false, false, false, false, true, true, true, true, true, false, false, false, false, false, true, true, true, true, true, true, true, true, true, true, true, true, true, true, true, true, true, true, true, true, true, true, true, true, true, true, true, true, true, true, true, true, true, true, true, true] R1 _ mu1 HR1.out ?_ ?_
  · exact ⟨0, rfl, rfl, Nat.zero_le _, Later.refl _⟩
  intro us1 wx hrel
  obtain ⟨i, h8, h7, hi, hL⟩ := hrel
  simp only [frameOf, Nat.reduceAdd, h8, h7]
  have Hh8 := hid h8; clear h8
  have Hh7 := hid h7; clear h7
  have HI := hid hi; have HLX := hid hL
  clear hi hL
  obtain ⟨s, hs⟩ : ∃ s, s = (ns.take i).sum := ⟨_, rfl⟩
  have HSI := hid hs
  rw [← hs] at Hh7 ⊢
  clear hs
  by_cases hlt : i < L
  · have HLT := hid hlt
    have hiG : i < G.length := by have := HLE.out; omega
    have hiN : i < ns.length := by have := HNS.out; have := HLE.out; omega
    obtain ⟨g, rfl, -, q1, q2, q3⟩ := HG.out.at hiG
    have p1 := HLX.out.cell q1
    have p2 := HLX.out.cell q2
    have p3 := HLX.out.cell q3
    have hgl := cell_lt p1
    clear q1 q2 q3
    have HWI : Hid (wrap64 ((i : Int) + 1) = ((i + 1 : Nat) : Int)) := hid (by have := HL.out; unfold wrap64; omega)
    obtain ⟨x, hx⟩ : ∃ x, x = G[i]'hiG := ⟨_, rfl⟩
    have HX := hid hx
    rw [← hx] at p1 p2 p3
    have HXM := hid (HME.out x (hx ▸ List.getElem_mem hiG))
    clear hx
    have HCX : Hid (∀ q ∈ P, q.tx = x → ∃ a c, q.rv = .slice a (ns[i]'hiN) c) := hid (by rw [HX.out]; exact HCN.out i hiG hiN)
    obtain ⟨m, hm⟩ : ∃ m, m = ns[i]'hiN := ⟨_, rfl⟩
    have HSM : Hid ((ns.take (i + 1)).sum = s + m) := hid (by rw [List.take_succ_eq_append_getElem hiN, List.sum_append, HSI.out, hm]; simp)
    have HSB : Hid (s + m ≤ 1048576) := hid (by
      have e : (ns.take (i + 1)).sum + (ns.drop (i + 1)).sum = ns.sum := by rw [← List.sum_append, List.take_append_drop]
      have := HS.out; have := HSE.out; have := HSM.out; omega)
    rw [← hm] at HCX
    clear hm
    have HPREV : Hid (∀ hi : 0 < i, beforeT (G[i - 1]'(by omega)) x = true) := hid fun hi => by
      rw [HX.out]
      exact beforeT_eq (List.pairwise_iff_getElem.1 HR.out (i - 1) i (by omega) hiG (by omega))
    obtain ⟨xk, xn, xt⟩ := x
    simp only at p1 p2 p3
    go_wp2_with fail
    refine (find_helds (HO.out.later HLX.out) ⟨xk, xn, xt⟩).mono ?_
    rintro e w2 ⟨hL2, ⟨rfl, hno⟩ | ⟨k, hk, rfl, hkx⟩⟩
    · exfalso
      obtain ⟨q, hq, e⟩ := HXM.out
      exact hno q hq e
    · have HL2 := hid (Later.trans _ _ _ HLX.out hL2)
      obtain ⟨ra, rc, hrv⟩ := HCX.out _ (List.getElem_mem hk) hkx
      obtain ⟨pg, rfl, -, -, -, -, r4, -⟩ := (HO.out.later HL2.out).at hk
      rw [hrv] at r4
      have hpl := cell_lt r4
      have hkL : k < L := by have := HLE.out; have := HLN.out; omega
      have hk0 : ¬ ((k : Int) < 0) := by omega
      have HWS : Hid (wrap64 ((s : Int) + m) = ((s + m : Nat) : Int)) := hid (by have := HSB.out; unfold wrap64; omega)
      have z1 := hL2.cell p1
      have z2 := hL2.cell p2
      have z3 := hL2.cell p3
      have hgl2 := cell_lt z1
      clear hrv hkx hL2 p1 p2 p3 hgl
      by_cases hi0 : 0 < i
      · have HI0 := hid hi0
        have hw1 : wrap64 ((i : Int) - 1) = ((i - 1 : Nat) : Int) := by have := HL.out; unfold wrap64; omega
        have hw2 : IntKind.i64.wrap ((i : Int) - 1) = ((i - 1 : Nat) : Int) := by have := HL.out; rw [IntKind.wrap_i64]; omega
        have hi1 : i - 1 < L := by omega
        have hiG1 : i - 1 < G.length := by have := HLE.out; omega
        obtain ⟨g', hg', -, y1, y2, y3⟩ := HG.out.at hiG1
        simp only [Option.some.injEq, Addr.mk.injEq, and_true] at hg'
        subst hg'
        replace y1 := HL2.out.cell y1
        replace y2 := HL2.out.cell y2
        replace y3 := HL2.out.cell y3
        have HPV := hid (HPREV.out hi0)
        generalize G[i - 1] = y at y1 y2 y3 HPV
        obtain ⟨yk, yn, yt⟩ := y
        simp only at y1 y2 y3
        go_upto_region 12 with (fail)
        clear r4 hpl
        refine wp_region_lex (by kernel_rfl) (by kernel_rfl) Later Later.refl Later.trans (kinds [(9, fun v _ => v = .bool true)]) (kinds_still (by simp +contextual)) ?_
        simp only [numbered, Nat.reduceAdd]
        refine LexS.out ?_
        iterate 9
          first
          | (refine LexS.skip rfl ?_; simp only [Act.put, List.setIfInBounds_toArray, List.set])
          | (refine LexS.one' rfl rfl ?_
             apply Exists.intro
             refine ⟨fun w hR hF => ?_, ?_⟩
             · have hP := hR
               repeat (first | replace hP := Later.of_drew hP | replace hP := Later.of_drewN hP | replace hP := Later.of_alloc hP)
               have hcs := hR.cells
               have zy1 := hP.cell y1
               have zy2 := hP.cell y2
               have zy3 := hP.cell y3
               have zz1 := hP.cell z1
               have zz2 := hP.cell z2
               have zz3 := hP.cell z3
               clear hR hF hP
               go_simp
               first | done | rfl
             simp only [Act.put, List.setIfInBounds_toArray, List.set])
        refine LexS.anyEq rfl rfl (fun w hR hF => ?_) ?_
        · have hP := hR
          repeat (first | replace hP := Later.of_drew hP | replace hP := Later.of_drewN hP | replace hP := Later.of_alloc hP)
          have hcs := hR.cells
          clear hF hR
          unfold Runs
          go_simp
          unfold Yield
          refine (before_tx ⟨yk, yn, yt⟩ ⟨xk, xn, xt⟩ _).mono ?_
          rintro e w' ⟨rfl, hL⟩
          exact ⟨_, rfl, hL, by rw [HPV.out]⟩
        simp only [Act.put, List.setIfInBounds_toArray, List.set]
        iterate 1
          first
          | (refine LexS.skip rfl ?_; simp only [Act.put, List.setIfInBounds_toArray, List.set])
          | (refine LexS.one' rfl rfl ?_
             apply Exists.intro
             refine ⟨fun w hR hF => ?_, ?_⟩
             · have hP := hR
               repeat (first | replace hP := Later.of_drew hP | replace hP := Later.of_drewN hP | replace hP := Later.of_alloc hP)
               have hcs := hR.cells
               clear hR hF hP
               go_simp
               first | done | rfl
             simp only [Act.put, List.setIfInBounds_toArray, List.set])
        refine LexS.nil ?_
        intro w4 hR4 hF9
        clear hF9
        repeat (first | replace hR4 := Later.of_drew hR4 | replace hR4 := Later.of_drewN hR4 | replace hR4 := Later.of_alloc hR4)
        have HL4 := hid (Later.trans _ _ _ HL2.out hR4)
        clear hR4 y1 y2 y3 z1 z2 z3 hgl2 hw1 hw2
        go_wp2_with fail
        try simp only [HWI.out, HWS.out]
        refine Round.mk' HR1.out Hmu1.out rfl ?_ ?_
        · exact ⟨i + 1, rfl, by rw [HSM.out]; rfl, HLT.out, HL4.out⟩
        · rw [Hh8.out]; have := HLT.out; simp [intOf, slots]; omega
      · have hi00 : i = 0 := by omega
        subst hi00
        clear z1 z2 z3 hgl2
        go_wp2_with fail
        try simp only [HWI.out, HWS.out]
        refine Round.mk' HR1.out Hmu1.out rfl ?_ ?_
        · exact ⟨0 + 1, rfl, by rw [HSM.out]; rfl, HLT.out, HL2.out⟩
        · rw [Hh8.out]; have := HLT.out; simp [intOf, slots]; omega
  · have hie : i = L := by have := HI.out; omega
    have hss : s = SS := by
      rw [HSI.out, HSE.out, List.take_of_length_le (by have := HNS.out; have := HLE.out; omega)]
    subst hie hss
    go_wp2_with fail
    go_ret
    exact ⟨rfl, HLX.out⟩
/-! seen -/
theorem seenL_succ {C : List HE} {i : Nat} (hi : i < C.length) (k : List UInt8) : seenL (C.take (i + 1)) k = seenL (C.take i) k ++ (if C[i].tx.sink = k then C[i].rows else []) := by
  unfold seenL
  rw [List.take_succ_eq_append_getElem hi, List.filter_append, List.flatMap_append]
  congr 1
  by_cases h : C[i].tx.sink = k
  · rw [if_pos h]; simp [ofSink, h]
  · rw [if_neg h]; simp [ofSink, h]
/-- rows in memory, with their slices. -/
theorem rows_rx {S : Nat → Prop} {w : World} {v : Value} {l : List Row} (h : RowsIn S w v l) : ∃ xs : List RX, xs.map (·.row) = l ∧ Src w v l.length (rxCells xs) ∧ ∀ x ∈ xs, ValsIn S w x.v x.row.vals := by
  obtain ⟨a, c, rfl, hl, hc, hn, he⟩ := h
  have hv : ∀ i : Fin l.length, ∃ u, ∃ b o, a = some ⟨b, o, none⟩ ∧ w.cell? ⟨b, o + i.1 * 2, none⟩ = some (.int .i64 l[i.1].time) ∧ w.cell? ⟨b, o + i.1 * 2 + 1, none⟩ = some u ∧ ValsIn S w u l[i.1].vals := fun i => by
    obtain ⟨b, o, ha, -, h1, u, h2, h3⟩ := he i.1 i.2
    exact ⟨u, b, o, ha, h1, h2, h3⟩
  obtain ⟨g, hg⟩ := Classical.axiomOfChoice hv
  refine ⟨List.ofFn fun i => ⟨l[i.1], g i⟩, ?_, ?_, ?_⟩
  · rw [List.map_ofFn]
    exact List.ofFn_getElem
  · cases a with
    | none =>
      left
      obtain rfl := hn rfl
      have h0 : l = [] := List.eq_nil_of_length_eq_zero (by omega)
      subst h0
      exact ⟨rfl, rfl, rfl⟩
    | some ad =>
      right
      refine ⟨ad, c, rfl, fun j u hu => ?_⟩
      have hj : j < l.length * 2 := by
        have := (List.getElem?_eq_some_iff.1 hu).1
        rw [rxCells_length, List.length_ofFn] at this
        exact this
      have hj2 : j / 2 < l.length := by omega
      obtain ⟨b, o, ha, h1, h2, -⟩ := hg ⟨j / 2, hj2⟩
      cases ha
      rw [add_none rfl]
      obtain ⟨q1, q2⟩ := rxCells_at (List.ofFn fun i : Fin l.length => (⟨l[i.1], g i⟩ : RX)) (j / 2) (by rw [List.length_ofFn]; exact hj2)
      rw [List.getElem_ofFn] at q1 q2
      rcases (by omega : j = j / 2 * 2 ∨ j = j / 2 * 2 + 1) with e | e
      · rw [e] at hu; rw [q1] at hu; cases hu
        simpa [← e] using h1
      · rw [e] at hu; rw [q2] at hu; cases hu
        rw [Nat.add_assoc] at h2
        simp only at h2
        rw [← e] at h2
        simpa using h2
  · intro x hx
    obtain ⟨i, rfl⟩ := List.mem_ofFn.1 hx
    obtain ⟨b, o, -, -, -, h3⟩ := hg i
    exact h3
theorem rx_ones1 {l : List RX} (h : ∀ x ∈ l, x.v.oneCell' = true) : ∀ u ∈ rxCells l, u.oneCell' = true := by
  intro u hu
  obtain ⟨y, hy, hu⟩ := List.mem_flatMap.1 hu
  simp only [RX.cells, List.mem_cons, List.not_mem_nil, or_false] at hu
  rcases hu with rfl | rfl
  · rfl
  · exact h y hy
theorem wpList_append_rx {w : World} {ops : Array Oper} {rest : List Oper} {o : Oper} {a : Act} {Q : Exit → Act → World → Prop} (hgd : o.guard = none) (s x : Operand)
    (ho : o.op = .call { callee := .builtin .append, args := #[s, x], argTypes := #[73, 73] })
    (base : Nat) (v u : Value) (xs m : List RX) (hs : a.eval s = v) (hown : OwnR base w v xs) (hx : a.eval x = u) (hu : Src w u m.length (rxCells m)) (h1 : ∀ u ∈ rxCells m, u.oneCell' = true)
    (hbytes : (xs.length + m.length) * 32 ≤ 140737488355328) (hbase : base ≤ w.heap.size)
    (h : ∀ v' w', OwnR base w' v' (xs ++ m) → Keeps (fun b => b < base) w w' → wpList Tryd.prog ops Q rest (a.put o.dst v') w') : wpList Tryd.prog ops Q (o :: rest) a w := by
  obtain ⟨i0, z, hi, hz, h3, h4, h5, h6⟩ := rowElem.ex
  rcases hu with ⟨rfl, h0, hm⟩ | ⟨ad, c, rfl, hnews⟩
  · obtain rfl : m = [] := List.eq_nil_of_length_eq_zero h0
    refine wpList_append_nil w hgd s x _ ho base 79 i0 2 Tryd.underlying73 hi v _ _ hs hown hx (h v w ?_ (Keeps.refl _ _))
    rw [List.append_nil]; exact hown
  · refine wpList_append w hgd s x _ ho base 79 i0 z 2 32 Tryd.underlying73 hi hz h3 h4 h5 h6 v _ _ hs hown ad m.length c (rxCells m) hx (rxCells_length m) hnews h1 (by unfold maxLen; omega) hbytes hbase fun v' w' hA => h v' w' ?_ ?_
    · unfold OwnR; rw [List.length_append, rxCells_app]; exact hA.own
    · exact (Keeps.of_grown hA.grown).mono fun b _ hb e => by have := (ownb hown b e.symm).1; omega
set_option maxRecDepth 100000 in
set_option maxHeartbeats 1000000 in
theorem seen_any {B : Nat} {w : World} {v : Value} {C : List HE} (ho : OwnH B w v C) (hrows : ∀ q ∈ C, IsRows w q.rv q.rows) (k : List UInt8) (hlen : C.length ≤ 1048576) (hsum : sumH C ≤ 1048576) (hr : ∀ q ∈ C, ∀ r ∈ q.rows, r.vals.length ≤ 1048576) :
    Calls Tryd.prog 40 #[v, .string (strB k)] w (RefSortedTo w (seenL C k)) := by
  obtain ⟨pa, pc, rfl⟩ := ho.slice
  have HO := hid ho; have HRW := hid hrows; have HLN := hid hlen; have HSM := hid hsum; have HR := hid hr
  clear ho hrows hlen hsum hr
  go_enter Tryd.func40, Tryd.ntmps40
  go_wp2_with fail
  obtain ⟨R1, hR1⟩ : ∃ RR_ : (Nat → Value) → World → Prop, RR_ = (fun us wx => ∃ (i : Nat) (xs : List RX) (a : Option Addr) (c : Nat), us 6 = .int .i64 i ∧ us 5 = .slice a xs.length c ∧ i ≤ C.length ∧ OwnR w.heap.size wx (.slice a xs.length c) xs ∧ xs.map (·.row) = seenL (C.take i) k ∧ (∀ x ∈ xs, IsVals w x.v x.row.vals) ∧ Later w wx) := ⟨_, rfl⟩
  obtain ⟨mu1, hmu1⟩ : ∃ mu : (Nat → Value) → World → Nat, mu = (fun us _ => C.length - (intOf (us 6)).toNat) := ⟨_, rfl⟩
  have HR1 := hid hR1; have Hmu1 := hid hmu1; clear hR1 hmu1
  refine wp_loop_frame' [false, false, false, false, false, true, true, false, true, true, true, true, true, true, true, true, true, true, true, true, true, true, true, true, true, true, true, true, true] R1 _ mu1 HR1.out ?_ ?_
  · exact ⟨0, [], none, 0, rfl, rfl, Nat.zero_le _, ⟨rfl, .inl ⟨rfl, rfl⟩⟩, rfl, (fun x hx => by cases hx), Later.refl _⟩
  intro us1 wx hrel
  obtain ⟨i, xs, a, c, h6, h5, hi, hox, hm, hv, hL⟩ := hrel
  simp only [frameOf, Nat.reduceAdd, h6, h5]
  have Hh6 := hid h6; clear h6
  have Hh5 := hid h5; clear h5
  have HI := hid hi; have HOX := hid hox; have HM := hid hm; have HV := hid hv; have HLX := hid hL
  have HXS : Hid (xs.length ≤ 1048576) := hid (by
    have e := congrArg List.length hm
    rw [List.length_map] at e
    rw [e]
    refine Nat.le_trans (seenL_len _ _) (Nat.le_trans ?_ HSM.out)
    have e2 := sumH_app (C.take i) (C.drop i)
    rw [List.take_append_drop] at e2
    omega)
  clear hi hox hm hv hL
  by_cases hlt : i < C.length
  · have HLT := hid hlt
    have HWI : Hid (wrap64 ((i : Int) + 1) = ((i + 1 : Nat) : Int)) := hid (by have := HLN.out; unfold wrap64; omega)
    obtain ⟨g, rfl, -, -, p2, -, p4, -⟩ := HO.out.at hlt
    replace p2 := HLX.out.cell p2
    replace p4 := HLX.out.cell p4
    have hgl := cell_lt p2
    have HSE := hid (seenL_succ hlt k)
    have HQR := hid (HRW.out _ (List.getElem_mem hlt))
    have HQL : Hid ((C[i]'hlt).rows.length ≤ 1048576) := hid (by
      have e2 := sumH_del hlt
      have := HSM.out
      omega)
    generalize C[i] = q at p2 p4 HSE HQR HQL
    obtain ⟨⟨qk, qn, qt⟩, qv, qr⟩ := q
    simp only at p2 p4 HSE HQR HQL
    obtain ⟨ys, hys, hsrc, hyv⟩ := rows_rx HQR.out
    obtain ⟨qa, qc, hqv, -⟩ := HQR.out
    rw [hqv] at p4
    have HYS := hid hys; have HSRC := hid hsrc; have HYV := hid hyv
    rw [hqv] at HSRC
    obtain ⟨ql, hql⟩ : ∃ ql, ql = qr.length := ⟨_, rfl⟩
    have HQLE := hid hql
    rw [← hql] at p4 HSRC
    clear hys hsrc hyv hqv hql
    by_cases hn : qn = k
    · have hst := str_eq hn
      have HN := hid hn
      clear hn
      have HS2 : Hid (Src wx (.slice qa ql qc) ys.length (rxCells ys)) := hid (by
        have e : ys.length = ql := by rw [HQLE.out, ← HYS.out, List.length_map]
        rw [e]
        rcases HSRC.out with ⟨h1, h2, h3⟩ | ⟨ad, c', h1, h2⟩
        · exact .inl ⟨h1, h2, h3⟩
        · exact .inr ⟨ad, c', h1, fun j u hu => HLX.out.cell (h2 j u hu)⟩)
      go_wp2_with (at_builtin; refine wpList_append_rx rfl _ _ rfl w.heap.size _ _ xs ys rfl HOX.out rfl HS2.out ?c1 ?c2 HLX.out.size ?_)
      case c1 => exact rx_ones1 fun y hy => by obtain ⟨a', c', e, -⟩ := HYV.out y hy; rw [e]; rfl
      case c2 =>
        have e : ys.length = qr.length := by rw [← HYS.out, List.length_map]
        have := HXS.out; have := HQL.out; omega
      intro v3 w3 ho3 hk3
      have HO3 := hid ho3
      have HL3 := hid (later_keep HLX.out hk3 (Nat.le_refl _))
      clear ho3 hk3 p2 p4 hst hgl
      obtain ⟨a3, c3, hv3⟩ := ownsRow_slice HO3.out
      subst hv3
      go_wp2_with fail
      try simp only [HWI.out]
      refine Round.mk' HR1.out Hmu1.out rfl ?_ ?_
      · refine ⟨i + 1, xs ++ ys, a3, c3, rfl, rfl, HLT.out, HO3.out, ?_, fun x hx => (List.mem_append.1 hx).elim (HV.out x) fun h => (HYV.out x h), HL3.out⟩
        rw [List.map_append, HM.out, HYS.out, HSE.out, if_pos HN.out]
      · rw [Hh6.out]; have := HLT.out; simp [intOf, slots]; omega
    · have hst := str_ne hn
      have HN := hid hn
      clear hn
      go_wp2_with fail
      try simp only [HWI.out]
      refine Round.mk' HR1.out Hmu1.out rfl ?_ ?_
      · refine ⟨i + 1, xs, a, c, rfl, rfl, HLT.out, HOX.out, ?_, HV.out, HLX.out⟩
        rw [HM.out, HSE.out, if_neg HN.out, List.append_nil]
      · rw [Hh6.out]; have := HLT.out; simp [intOf, slots]; omega
  · have hie : i = C.length := by have := HI.out; omega
    subst hie
    have HMR : Hid (xs.map (·.row) = seenL C k) := hid (by rw [HM.out, List.take_length])
    have HIR : Hid (IsRows wx (.slice a xs.length c) (seenL C k)) := hid (by rw [← HMR.out]; exact HOX.out.isRows fun x hx => (HV.out x hx).later HLX.out)
    go_wp2_with fail
    refine (ref_sorted (seenL C k) _ _ HIR.out ?s1 ?s2).mono ?_
    case s1 => rw [← HMR.out, List.length_map]; have := HXS.out; omega
    case s2 =>
      intro r hr
      obtain ⟨q, hq, hrq⟩ := seenL_mem hr
      have := HR.out q hq r hrq
      omega
    rintro e w2 ⟨v2, zs, rfl, h1, h2, h3, h4, h5⟩
    obtain ⟨va, vc, rfl⟩ := ownsRow_slice h1
    have H1 := hid (own_base h1 HLX.out.size)
    have H2 : Hid (AllR w.heap.size w2 zs) := hid fun x hx => own_base (h2 x hx) HLX.out.size
    have H3 := hid h3; have H4 := hid h4; have H5 := hid (Later.trans _ _ _ HLX.out h5)
    clear h1 h2 h3 h4 h5
    go_wp2_with fail
    go_ret
    exact ⟨_, zs, rfl, H1.out, H2.out, H3.out, H4.out, H5.out⟩
end Go.Proofs.YtcmpjdnbjhkhdaaDoor
