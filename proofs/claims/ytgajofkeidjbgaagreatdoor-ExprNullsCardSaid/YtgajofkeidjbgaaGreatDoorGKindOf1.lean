/-
  PROVED HERE: expr's kindOf at literals, names, unary trees.
  PROVED HERE: expr's kindOf at unary and binary trees, out of its contract at their parts.
-/
import Derived.Test.YtgajofkeidjbgaaGreatDoorGNameKeep
import Derived.Test.YtgajofkeidjbgaaGreatDoorGExprIdx
import Derived.Test.YtgajofkeidjbgaaGreatDoorGParUnP
namespace Go.Proofs.YtgajofkeidjbgaaGreatDoor
set_option linter.unusedSimpArgs false
set_option linter.unusedVariables false
open Go.RowKit

/-- columns below block 'B'. -/
abbrev ColsB (B : Nat) (w : World) (ao : Option Addr) (cs : List Col) : Prop := Elems (fun b => b < B) ColC 2 w ao cs
theorem ColsB.el {B : Nat} {w : World} {ao : Option Addr} {cs : List Col} (h : ColsB B w ao cs) : ColsEl w ao cs := fun i hi => let ⟨b, o, ha, _, hx⟩ := h i hi; ⟨b, o, ha, trivial, hx⟩
theorem ColsB.named {B : Nat} {cs' : List Col} {w w' : World} {ao : Option Addr} {cs : List Col} (h : ColsB B w ao cs) (k : NmKeep B cs' w w') : ColsB B w' ao cs := fun i hi =>
  let ⟨b, o, ha, hb, hx⟩ := h i hi; ⟨b, o, ha, hb, k.below.cell (p := ⟨b, o + i * 2, none⟩) hb hx.1, k.below.cell (p := ⟨b, o + i * 2 + 1, none⟩) hb hx.2⟩
/-- what kindOf answers of a tree. -/
def KindTo (B : Nat) (cs : List Col) (w : World) (v : Value) (x : Ex) (e : Ending) (w' : World) : Prop := NmKeep B cs w w' ∧ match kindP cs x with
  | .ok k => e = .returned (.int .i64 k) ∧ NodeG (qIdx cs) (fun b => B ≤ b) w' v x
  | .error f => Fails f.1 f.2 e
/-- the contract of kindOf at a tree. -/
def KdC (cs : List Col) (x : Ex) : Prop := ∀ (B : Nat) (ao : Option Addr) (c : Nat) (v : Value) (w : World), NodeG (qMay cs) (fun b => B ≤ b) w v x → ColsB B w ao cs → cs.length ≤ 140737488355328 → ExOk x → costP x ≤ 1000000 → B ≤ w.heap.size →
  Calls Tryz.prog 55 #[v, .slice ao cs.length c] w (KindTo B cs w v x)
theorem as_lit (N : Nat) (w : World) : (Instr.typeAssert (.iface 161 (.pointer (some ⟨N, 0, none⟩))) 59 161 true).run Tryz.prog w = .ok (.tuple #[.pointer (some ⟨N, 0, none⟩), .bool true]) w := by kernel_rfl
theorem as_name (N : Nat) (w : World) : (Instr.typeAssert (.iface 164 (.pointer (some ⟨N, 0, none⟩))) 59 164 true).run Tryz.prog w = .ok (.tuple #[.pointer (some ⟨N, 0, none⟩), .bool true]) w := by kernel_rfl
theorem as_un (N : Nat) (w : World) : (Instr.typeAssert (.iface 137 (.pointer (some ⟨N, 0, none⟩))) 59 137 true).run Tryz.prog w = .ok (.tuple #[.pointer (some ⟨N, 0, none⟩), .bool true]) w := by kernel_rfl
theorem as_bin (N : Nat) (w : World) : (Instr.typeAssert (.iface 140 (.pointer (some ⟨N, 0, none⟩))) 59 140 true).run Tryz.prog w = .ok (.tuple #[.pointer (some ⟨N, 0, none⟩), .bool true]) w := by kernel_rfl
theorem as_call (N : Nat) (w : World) : (Instr.typeAssert (.iface 168 (.pointer (some ⟨N, 0, none⟩))) 59 168 true).run Tryz.prog w = .ok (.tuple #[.pointer (some ⟨N, 0, none⟩), .bool true]) w := by kernel_rfl
theorem no_name_lit (N : Nat) (w : World) : (Instr.typeAssert (.iface 164 (.pointer (some ⟨N, 0, none⟩))) 59 161 true).run Tryz.prog w = .ok (.tuple #[.pointer none, .bool false]) w := by kernel_rfl
theorem no_un_lit (N : Nat) (w : World) : (Instr.typeAssert (.iface 137 (.pointer (some ⟨N, 0, none⟩))) 59 161 true).run Tryz.prog w = .ok (.tuple #[.pointer none, .bool false]) w := by kernel_rfl
theorem no_un_name (N : Nat) (w : World) : (Instr.typeAssert (.iface 137 (.pointer (some ⟨N, 0, none⟩))) 59 164 true).run Tryz.prog w = .ok (.tuple #[.pointer none, .bool false]) w := by kernel_rfl
theorem no_bin_lit (N : Nat) (w : World) : (Instr.typeAssert (.iface 140 (.pointer (some ⟨N, 0, none⟩))) 59 161 true).run Tryz.prog w = .ok (.tuple #[.pointer none, .bool false]) w := by kernel_rfl
theorem no_bin_name (N : Nat) (w : World) : (Instr.typeAssert (.iface 140 (.pointer (some ⟨N, 0, none⟩))) 59 164 true).run Tryz.prog w = .ok (.tuple #[.pointer none, .bool false]) w := by kernel_rfl
theorem no_bin_un (N : Nat) (w : World) : (Instr.typeAssert (.iface 140 (.pointer (some ⟨N, 0, none⟩))) 59 137 true).run Tryz.prog w = .ok (.tuple #[.pointer none, .bool false]) w := by kernel_rfl
theorem no_call_lit (N : Nat) (w : World) : (Instr.typeAssert (.iface 168 (.pointer (some ⟨N, 0, none⟩))) 59 161 true).run Tryz.prog w = .ok (.tuple #[.pointer none, .bool false]) w := by kernel_rfl
theorem no_call_name (N : Nat) (w : World) : (Instr.typeAssert (.iface 168 (.pointer (some ⟨N, 0, none⟩))) 59 164 true).run Tryz.prog w = .ok (.tuple #[.pointer none, .bool false]) w := by kernel_rfl
theorem no_call_un (N : Nat) (w : World) : (Instr.typeAssert (.iface 168 (.pointer (some ⟨N, 0, none⟩))) 59 137 true).run Tryz.prog w = .ok (.tuple #[.pointer none, .bool false]) w := by kernel_rfl
theorem no_call_bin (N : Nat) (w : World) : (Instr.typeAssert (.iface 168 (.pointer (some ⟨N, 0, none⟩))) 59 140 true).run Tryz.prog w = .ok (.tuple #[.pointer none, .bool false]) w := by kernel_rfl
attribute [local go_sem high] as_lit as_name as_un no_name_lit no_un_lit no_un_name
set_option maxRecDepth 100000 in
set_option maxHeartbeats 2000000 in
theorem kd_lit (cs : List Col) (x : Val) : KdC cs (.lit x) := by
  intro B ao c v w hn hel hlen ho hcost hB
  have HN := hid hn
  unfold NodeG at hn
  obtain ⟨N, hNB, rfl, hobj⟩ := hn
  have c0 : w.cell? ⟨N, 0, none⟩ = some (.int .i64 x.k) := cell_obj (i := 0) hobj rfl
  have hlt := cell_lt c0
  have HX := hid (And.intro hNB hobj)
  clear hel hlen ho hcost hB hobj hNB
  go_enter Tryz.func55, Tryz.ntmps55
  go_wp2_with fail
  refine bodyPost_ret (results_tmp rfl _ _ _) rfl ⟨NmKeep.refl _ _ _, ?_⟩
  unfold kindP
  refine ⟨rfl, ?_⟩
  unfold NodeG
  exact ⟨N, HX.out.1, rfl, HX.out.2⟩
set_option maxRecDepth 100000 in
set_option maxHeartbeats 4000000 in
theorem kd_name (cs : List Col) (s : List UInt8) (p : Nat) : KdC cs (.name s p) := by
  intro B ao c v w hn hel hlen ho hcost hB
  unfold NodeG at hn
  obtain ⟨N, pos, hNB, rfl, hobj, hq⟩ := hn
  have HN := hid hNB; have HOBJ := hid hobj; have HQ := hid hq; have HEL := hid hel; have HLN := hid hlen; have HB := hid hB
  clear hel hlen ho hcost hB hq hobj hNB
  go_enter Tryz.func55, Tryz.ntmps55
  go_upto_region 7 with (fail)
  obtain ⟨C, hC⟩ : ∃ C, C = w.heap.size := ⟨_, rfl⟩
  obtain ⟨w1, hw1⟩ : ∃ w1, w1 = w.alloc (.cells #[.pointer (some ⟨N, 0, none⟩)] 164) := ⟨_, rfl⟩
  have hL1 : Later w w1 := hw1 ▸ Later.alloc _ _
  have hC1 : w1.heap[C]? = some (.cells #[.pointer (some ⟨N, 0, none⟩)] 164 (0, 0)) := by rw [hw1, hC]; exact obj_new _ _
  rw [← hw1, ← hC]
  have HL1 := hid hL1; have HC1 := hid hC1
  have HO1 := hid (hL1.obj HOBJ.out)
  clear hw1 hC hL1 hC1
  go_wp2_with fail
  refine (idxc 86 (enters_of Tryz.func86 (by kernel_rfl) rfl) #[.pointer (some ⟨C, 0, none⟩)] ao c cs w1 (fun d => d.s == s) (cols_later HEL.out.el HL1.out) HLN.out
    (fun x _ w' hw' => kindof1_any x s C N w' (hw'.cell (cell_obj (i := 0) HC1.out rfl)) (hw'.cell (cell_obj (i := 0) (show w1.heap[N]? = some (.cells #[.string (strB s), .int .i64 pos] _ _) from HO1.out) rfl)))).mono ?_
  rintro e w2 ⟨rfl, hL2⟩
  have HL2 := hid (Later.trans _ _ _ HL1.out hL2)
  have HO2 := hid (hL2.obj HO1.out)
  have c2 : w2.cell? ⟨C, 0, none⟩ = some (.pointer (some ⟨N, 0, none⟩)) := hL2.cell (cell_obj (i := 0) HC1.out rfl)
  have n1 : w2.cell? ⟨N, 1, none⟩ = some (.int .i64 pos) := cell_obj (i := 1) (show w2.heap[N]? = some (.cells #[.string (strB s), .int .i64 pos] _ _) from HO2.out) rfl
  have nl := cell_lt n1
  have cl := cell_lt c2
  have nz := free_obj (i := 1) (show w2.heap[N]? = some (.cells #[.string (strB s), .int .i64 pos] _ _) from HO2.out)
  clear hL2
  cases hf : colAt cs s with
  | none =>
    have hi : idxI (List.findIdx? (fun d => d.s == s) cs) = -1 := by
      have : List.findIdx? (fun d => d.s == s) cs = none := hf
      rw [this]; rfl
    rw [hi]
    have HF := hid hf
    have hpos : pos = (p : Int) := by
      rcases HQ.out with h | ⟨i, h, -⟩
      · exact h
      · rw [hf] at h; cases h
    subst hpos
    clear hi hf
    go_wp2_with fail
    refine (fail_any 2 p _).mono ?_
    rintro e w' ⟨hfl, hw'⟩
    subst w'
    have hfl' := hfl
    unfold Fails at hfl
    subst hfl
    simp only [Exit.then, Exit.inBlock]
    refine ⟨rfl, NmKeep.later HL2.out, ?_⟩
    unfold kindP
    rw [HF.out]
    exact hfl'
  | some i =>
    have hi : idxI (List.findIdx? (fun d => d.s == s) cs) = (i : Int) := by
      have : List.findIdx? (fun d => d.s == s) cs = some i := hf
      rw [this]; rfl
    rw [hi]
    have HF := hid hf
    obtain ⟨hic, -⟩ := colAt_some hf
    have HIC := hid hic
    obtain ⟨hk3, ho3⟩ := NmKeep.set (B := B) HO2.out HN.out hf
    obtain ⟨w3, hw3⟩ : ∃ w3, w3 = w2.setCell ⟨N, 1, none⟩ (.int .i64 (i : Int)) := ⟨_, rfl⟩
    rw [← hw3] at hk3 ho3
    have HK3 := hid ((NmKeep.later HL2.out).trans hk3)
    have HO3 := hid ho3
    have hel3 := HEL.out.named HK3.out
    obtain ⟨b, o, rfl, -, hcol⟩ := hel3 i hic
    obtain ⟨y, hy⟩ : ∃ y, cs[i]'hic = y := ⟨_, rfl⟩
    rw [hy] at hcol
    have HY : Hid (cs.getD i ⟨[], 0⟩ = y) := hid (by rw [List.getD_eq_getElem?_getD, List.getElem?_eq_getElem hic, ← hy]; rfl)
    obtain ⟨q1, q2⟩ := hcol
    have ql := cell_lt q1
    have hi0 : ¬ (i : Int) < 0 := by omega
    have hil : (i : Int) < cs.length := by omega
    have hi1 : (0 : Int) ≤ i := by omega
    clear hi hf hel3 hy hk3 ho3
    go_upto_region 11 with (fail)
    rw [← hw3]
    clear n1 nl nz c2 cl hw3
    go_wp2_with fail
    refine bodyPost_ret (results_tmp rfl _ _ _) rfl ⟨HK3.out, ?_⟩
    unfold kindP
    rw [HF.out]
    simp only
    rw [HY.out]
    refine ⟨rfl, ?_⟩
    unfold NodeG
    exact ⟨N, _, HN.out, rfl, HO3.out, ⟨i, HF.out, rfl⟩⟩
end Go.Proofs.YtgajofkeidjbgaaGreatDoor
namespace Go.Proofs.YtgajofkeidjbgaaGreatDoor
set_option linter.unusedSimpArgs false
set_option linter.unusedVariables false
open Go.RowKit

attribute [local go_sem high] as_un as_bin no_un_lit no_un_name no_bin_lit no_bin_name no_bin_un
set_option maxRecDepth 100000 in
set_option maxHeartbeats 4000000 in
theorem kd_un (cs : List Col) (neg : Bool) (p : Nat) (x : Ex) (hx : KdC cs x) : KdC cs (.un neg p x) := by
  intro B ao c v w hn hel hlen ho hcost hB
  unfold NodeG at hn
  obtain ⟨N, u, hNB, rfl, hobj, hnx⟩ := hn
  unfold ExOk at ho
  unfold costP at hcost
  have HX := hid (hx B ao c u w hnx hel hlen ho (by omega) hB)
  have HN := hid hNB; have HOBJ := hid hobj
  obtain ⟨sv, hsv⟩ : ∃ s, s = strB (opW neg) := ⟨_, rfl⟩
  rw [← hsv] at hobj
  have c0 : w.cell? ⟨N, 0, none⟩ = some (.string sv) := cell_obj (i := 0) hobj rfl
  have c2 : w.cell? ⟨N, 2, none⟩ = some u := cell_obj (i := 2) hobj rfl
  have hlt := cell_lt c0
  clear hel hlen ho hcost hB hNB hobj hnx hx
  cases neg with
  | true =>
    have e1 : (sv.toList == [110, 111, 116]) = false := by rw [hsv, strB_toL']; rfl
    clear hsv
    go_enter Tryz.func55, Tryz.ntmps55
    go_wp2_with fail
    refine HX.out.mono ?_
    rintro e w1 ⟨hk, hm⟩
    have HK := hid hk
    have HO1 := hid (hk.obj HOBJ.out (by decide))
    have HM : Hid (kindP cs x = kindP cs x) := hid rfl
    cases hkp : kindP cs x with
    | error f =>
      rw [hkp] at hm
      simp only at hm
      have hfl := hm
      unfold Fails at hm
      subst hm
      simp only [Exit.then, Exit.inBlock]
      refine ⟨rfl, HK.out, ?_⟩
      unfold kindP
      rw [hkp]
      exact hfl
    | ok k =>
      rw [hkp] at hm
      obtain ⟨rfl, hn1⟩ := hm
      have HN1 := hid hn1; have HKP := hid hkp
      have q1 : w1.cell? ⟨N, 1, none⟩ = some (.int .i64 (p : Int)) := cell_obj (i := 1) HO1.out rfl
      have ql := cell_lt q1
      clear hk hn1 hkp c0 c2 hlt
      by_cases hk1 : k = 1
      · subst hk1
        go_wp2_with fail
        refine bodyPost_ret (results_tmp rfl _ _ _) rfl ⟨HK.out, ?_⟩
        unfold kindP
        rw [HKP.out]
        refine ⟨rfl, ?_⟩
        unfold NodeG
        exact ⟨N, u, HN.out, rfl, HO1.out, HN1.out⟩
      · have HK1 := hid hk1
        go_wp2_with fail
        refine (fail_any 3 p _).mono ?_
        rintro e w' ⟨hfl, hw'⟩
        subst w'
        have hfl' := hfl
        unfold Fails at hfl
        subst hfl
        simp only [Exit.then, Exit.inBlock]
        refine ⟨rfl, HK.out, ?_⟩
        unfold kindP
        rw [HKP.out]
        simp only [if_true]
        rw [if_neg HK1.out]
        exact hfl'
  | false =>
    have e1 : (sv.toList == [110, 111, 116]) = true := by rw [hsv, strB_toL']; rfl
    clear hsv
    go_enter Tryz.func55, Tryz.ntmps55
    go_wp2_with fail
    refine HX.out.mono ?_
    rintro e w1 ⟨hk, hm⟩
    have HK := hid hk
    have HO1 := hid (hk.obj HOBJ.out (by decide))
    cases hkp : kindP cs x with
    | error f =>
      rw [hkp] at hm
      simp only at hm
      have hfl := hm
      unfold Fails at hm
      subst hm
      simp only [Exit.then, Exit.inBlock]
      refine ⟨rfl, HK.out, ?_⟩
      unfold kindP
      rw [hkp]
      exact hfl
    | ok k =>
      rw [hkp] at hm
      obtain ⟨rfl, hn1⟩ := hm
      have HN1 := hid hn1; have HKP := hid hkp
      have q1 : w1.cell? ⟨N, 1, none⟩ = some (.int .i64 (p : Int)) := cell_obj (i := 1) HO1.out rfl
      have ql := cell_lt q1
      clear hk hn1 hkp c0 c2 hlt
      by_cases hk1 : k = 2
      · subst hk1
        go_wp2_with fail
        refine bodyPost_ret (results_tmp rfl _ _ _) rfl ⟨HK.out, ?_⟩
        unfold kindP
        rw [HKP.out]
        refine ⟨rfl, ?_⟩
        unfold NodeG
        exact ⟨N, u, HN.out, rfl, HO1.out, HN1.out⟩
      · have HK1 := hid hk1
        go_wp2_with fail
        refine (fail_any 3 p _).mono ?_
        rintro e w' ⟨hfl, hw'⟩
        subst w'
        have hfl' := hfl
        unfold Fails at hfl
        subst hfl
        simp only [Exit.then, Exit.inBlock]
        refine ⟨rfl, HK.out, ?_⟩
        unfold kindP
        rw [HKP.out]
        simp only [Bool.false_eq_true, if_false]
        rw [if_neg HK1.out]
        exact hfl'
/-- what a binary tree makes of its parts' kinds: what is wanted, what comes out. -/
def wantK (o : List UInt8) (a : Int) : Int × Int := if levelO o < 2 then (2, 2) else if levelO o = 2 then (a, 2) else if o = catW then (3, 3) else (1, 1)
theorem binK_want (o : List UInt8) (a b : Int) : binK o a b = if a = (wantK o a).1 ∧ b = (wantK o a).1 then some (wantK o a).2 else none := by
  unfold binK wantK
  split
  · rfl
  · split
    · simp
    · split <;> rfl
set_option maxRecDepth 100000 in
set_option maxHeartbeats 8000000 in
theorem kd_bin (cs : List Col) (o : List UInt8) (p : Nat) (x y : Ex) (hx : KdC cs x) (hy : KdC cs y) : KdC cs (.bin o p x y) := by
  intro B ao c v w hn hel hlen ho hcost hB
  unfold NodeG at hn
  obtain ⟨N, u1, u2, hNB, rfl, hobj, hn1, hn2⟩ := hn
  unfold ExOk at ho
  have HX := hid hx; have HY := hid hy; have HN1 := hid hn1; have HN2 := hid hn2; have HEL := hid hel; have HLN := hid hlen; have HO := hid ho; have HB := hid hB
  have HN := hid hNB; have HOBJ := hid hobj
  have HCO : Hid (costP x ≤ 1000000 ∧ costP y ≤ 1000000) := hid (by unfold costP at hcost; omega)
  clear hel hlen ho hcost hB hNB hobj hn1 hn2 hx hy
  go_enter Tryz.func55, Tryz.ntmps55
  go_upto_region 22 with (fail)
  have hC : ∀ w', NmKeep B cs w w' → w'.cell? ⟨N, 2, none⟩ = some u1 ∧ w'.cell? ⟨N, 3, none⟩ = some u2 := fun w' k => ⟨cell_obj (i := 2) (k.obj HOBJ.out (by decide)) rfl, cell_obj (i := 3) (k.obj HOBJ.out (by decide)) rfl⟩
  have HC := hid hC
  clear hC
  have HLD := hid (NmKeep.later (B := B) (cs := cs) (Later.drew w))
  refine wp_region_held_drew (S := fun w => w.cell? ⟨N, 2, none⟩ = some u1 ∧ w.cell? ⟨N, 3, none⟩ = some u2) (by kernel_rfl) (HC.out _ HLD.out) (fun hS => ?_)
  refine wpAnyH_take (i := 0) (v := .pointer (some ⟨N, 0, none⟩)) rfl (by kernel_rfl) (by kernel_rfl) (by kernel_rfl) (fun _ _ _ h => h) (Or.inl ⟨by rfl, ?_⟩) hS ?_
  · intro w hS
    clear hS
    go_simp
  try simp only [Act.put, List.setIfInBounds_toArray, List.set]
  refine wpAnyH_take (i := 4) (v := .slice ao cs.length c) rfl (by kernel_rfl) (by kernel_rfl) (by kernel_rfl) (fun _ _ _ h => h) (Or.inl ⟨by rfl, ?_⟩) hS ?_
  · intro w hS
    clear hS
    go_simp
  try simp only [Act.put, List.setIfInBounds_toArray, List.set]
  refine wpAnyH_take (i := 6) (v := .pointer (some ⟨N, 0, none⟩)) rfl (by kernel_rfl) (by kernel_rfl) (by kernel_rfl) (fun _ _ _ h => h) (Or.inl ⟨by rfl, ?_⟩) hS ?_
  · intro w hS
    clear hS
    go_simp
  try simp only [Act.put, List.setIfInBounds_toArray, List.set]
  refine wpAnyH_take (i := 10) (v := .slice ao cs.length c) rfl (by kernel_rfl) (by kernel_rfl) (by kernel_rfl) (fun _ _ _ h => h) (Or.inl ⟨by rfl, ?_⟩) hS ?_
  · intro w hS
    clear hS
    go_simp
  try simp only [Act.put, List.setIfInBounds_toArray, List.set]
  refine wpAnyH_take (i := 1) (v := .pointer (some ⟨N, 0, none⟩)) rfl (by kernel_rfl) (by kernel_rfl) (by kernel_rfl) (fun _ _ _ h => h) (Or.inl ⟨by rfl, ?_⟩) hS ?_
  · rintro w ⟨h0, -⟩
    try (have := cell_lt h0)
    go_simp
  try simp only [Act.put, List.setIfInBounds_toArray, List.set]
  refine wpAnyH_take (i := 7) (v := .pointer (some ⟨N, 0, none⟩)) rfl (by kernel_rfl) (by kernel_rfl) (by kernel_rfl) (fun _ _ _ h => h) (Or.inl ⟨by rfl, ?_⟩) hS ?_
  · rintro w ⟨h0, -⟩
    try (have := cell_lt h0)
    go_simp
  try simp only [Act.put, List.setIfInBounds_toArray, List.set]
  refine wpAnyH_take (i := 2) (v := .pointer (some ⟨N, 2, none⟩)) rfl (by kernel_rfl) (by kernel_rfl) (by kernel_rfl) (fun _ _ _ h => h) (Or.inl ⟨by rfl, ?_⟩) hS ?_
  · rintro w ⟨h0, -⟩
    try (have := cell_lt h0)
    go_simp
  try simp only [Act.put, List.setIfInBounds_toArray, List.set]
  refine wpAnyH_take (i := 8) (v := .pointer (some ⟨N, 3, none⟩)) rfl (by kernel_rfl) (by kernel_rfl) (by kernel_rfl) (fun _ _ _ h => h) (Or.inl ⟨by rfl, ?_⟩) hS ?_
  · rintro w ⟨h0, -⟩
    try (have := cell_lt h0)
    go_simp
  try simp only [Act.put, List.setIfInBounds_toArray, List.set]
  refine wpAnyH_take (i := 3) (v := u1) rfl (by kernel_rfl) (by kernel_rfl) (by kernel_rfl) (fun _ _ _ h => h) (Or.inl ⟨by rfl, ?_⟩) hS ?_
  · rintro w ⟨h0, -⟩
    try (have := cell_lt h0)
    go_simp
  try simp only [Act.put, List.setIfInBounds_toArray, List.set]
  refine wpAnyH_take (i := 9) (v := u2) rfl (by kernel_rfl) (by kernel_rfl) (by kernel_rfl) (fun _ _ _ h => h) (Or.inl ⟨by rfl, ?_⟩) hS ?_
  · rintro w ⟨-, h0⟩
    try (have := cell_lt h0)
    go_simp
  try simp only [Act.put, List.setIfInBounds_toArray, List.set]
  refine wpAnyH_ready (rs := [5]) (by kernel_rfl) (by simp) (AllReadyH.cons rfl (fun K hK => ?_) AllReadyH.nil)
  go_simp
  refine (HX.out B ao c u1 w.drew (NodeG.kept (fun s p i h => qMay_set h) HLD.out _ _ HN1.out) (HEL.out.named HLD.out) HLN.out HO.out.2.1 HCO.out.1 (Nat.le_trans HB.out HLD.out.size)).mono ?_
  rintro e w1 ⟨hk1, hm1⟩
  have HK1 := hid (HLD.out.trans hk1)
  cases hkx : kindP cs x with
  | error f =>
    rw [hkx] at hm1
    simp only at hm1
    have hfl := hm1
    unfold Fails at hm1
    subst hm1
    refine ⟨rfl, HK1.out, ?_⟩
    unfold kindP
    rw [hkx]
    exact hfl
  | ok ka =>
  rw [hkx] at hm1
  obtain ⟨rfl, hq1⟩ := hm1
  have HKX := hid hkx; have HQ1 := hid hq1
  clear hk1 hkx hq1 hS
  refine hK.out _ _ (HC.out _ HK1.out) (fun hS => ?_)
  clear hK K
  try simp only [Act.put, List.setIfInBounds_toArray, List.set]
  refine wpAnyH_ready (rs := [11]) (by kernel_rfl) (by simp) (AllReadyH.cons rfl (fun K hK => ?_) AllReadyH.nil)
  go_simp
  refine (HY.out B ao c u2 w1 (NodeG.kept (fun s p i h => qMay_set h) HK1.out _ _ HN2.out) (HEL.out.named HK1.out) HLN.out HO.out.2.2 HCO.out.2 (Nat.le_trans HB.out HK1.out.size)).mono ?_
  rintro e w2 ⟨hk2, hm2⟩
  have HK2 := hid (HK1.out.trans hk2)
  have HQ2 := hid (NodeG.kept (fun s p i h => qIdx_set h) hk2 _ _ HQ1.out)
  cases hky : kindP cs y with
  | error f =>
    rw [hky] at hm2
    simp only at hm2
    have hfl := hm2
    unfold Fails at hm2
    subst hm2
    refine ⟨rfl, HK2.out, ?_⟩
    unfold kindP
    rw [HKX.out]
    simp only
    rw [hky]
    exact hfl
  | ok kb =>
  rw [hky] at hm2
  obtain ⟨rfl, hq2⟩ := hm2
  have HKY := hid hky; have HR2 := hid hq2
  clear hk2 hky hq2 hS
  refine hK.out _ _ (HC.out _ HK2.out) (fun hS => ?_)
  clear hK K
  try simp only [Act.put, List.setIfInBounds_toArray, List.set]
  refine wpAnyH_take (i := 12) (v := .int .i64 ka) rfl (by kernel_rfl) (by kernel_rfl) (by kernel_rfl) (fun _ _ _ h => h) (Or.inl ⟨by rfl, ?_⟩) hS ?_
  · intro w hS
    clear hS
    go_simp
  try simp only [Act.put, List.setIfInBounds_toArray, List.set]
  refine wpAnyH_take (i := 13) (v := .int .i64 kb) rfl (by kernel_rfl) (by kernel_rfl) (by kernel_rfl) (fun _ _ _ h => h) (Or.inl ⟨by rfl, ?_⟩) hS ?_
  · intro w hS
    clear hS
    go_simp
  try simp only [Act.put, List.setIfInBounds_toArray, List.set]
  clear hS
  refine wpAnyH_done (by kernel_rfl) ?_ _
  try simp only [Act.put, List.setIfInBounds_toArray, List.set]
  have HP : Hid (kindP cs (.bin o p x y) = if ka = (wantK o ka).1 ∧ kb = (wantK o ka).1 then .ok (wantK o ka).2 else .error (3, p)) := hid (by
    conv => lhs; unfold kindP
    rw [HKX.out, HKY.out]
    simp only
    rw [binK_want]
    by_cases hq : ka = (wantK o ka).1 ∧ kb = (wantK o ka).1
    · rw [if_pos hq, if_pos hq]
    · rw [if_neg hq, if_neg hq])
  obtain ⟨w3, hw3⟩ : ∃ w3, w3 = w2 := ⟨_, rfl⟩
  have hL3 : Later w2 w3 := hw3 ▸ Later.refl w2
  have HK3 := hid (HK2.out.trans (NmKeep.later (B := B) (cs := cs) hL3))
  have HQ3 := hid (NodeG.kept (fun s p i h => qIdx_set h) (NmKeep.later (B := B) (cs := cs) hL3) _ _ HQ2.out)
  have HR3 := hid (NodeG.kept (fun s p i h => qIdx_set h) (NmKeep.later (B := B) (cs := cs) hL3) _ _ HR2.out)
  rw [← hw3]
  clear hL3 hw3
  have q0 : w3.cell? ⟨N, 0, none⟩ = some (.string (strB o)) := cell_obj (i := 0) (HK3.out.obj HOBJ.out (by decide)) rfl
  have ql := cell_lt q0
  go_wp2_with fail
  refine (levelOf_any o HO.out.1 w3).mono ?_
  rintro e w4 ⟨rfl, hL4⟩
  have HK4 := hid (HK3.out.trans (NmKeep.later (B := B) (cs := cs) hL4))
  have HQ4 := hid (NodeG.kept (fun s p i h => qIdx_set h) (NmKeep.later (B := B) (cs := cs) hL4) _ _ HQ3.out)
  have HR4 := hid (NodeG.kept (fun s p i h => qIdx_set h) (NmKeep.later (B := B) (cs := cs) hL4) _ _ HR3.out)
  have q1 : w4.cell? ⟨N, 1, none⟩ = some (.int .i64 (p : Int)) := cell_obj (i := 1) (HK4.out.obj HOBJ.out (by decide)) rfl
  clear q0 ql hL4
  have q0 : w4.cell? ⟨N, 0, none⟩ = some (.string (strB o)) := cell_obj (i := 0) (HK4.out.obj HOBJ.out (by decide)) rfl
  have ql := cell_lt q0
  obtain ⟨lv, hlv⟩ : ∃ n, levelO o = n := ⟨_, rfl⟩
  rw [hlv]
  obtain ⟨bc, hbc⟩ : ∃ b, decide (o = catW) = b := ⟨_, rfl⟩
  have e1 : ((strB o).toList == [43, 43]) = bc := by rw [strB_toL', ← hbc, Bool.eq_iff_iff]; simp
  have HW : Hid (wantK o ka = if lv < 2 then (2, 2) else if lv = 2 then (ka, 2) else if bc = true then (3, 3) else (1, 1)) := hid (by unfold wantK; rw [hlv, ← hbc]; simp only [decide_eq_true_eq])
  have HNODE : Hid (NodeG (qIdx cs) (fun b => B ≤ b) w4 (.iface 140 (.pointer (some ⟨N, 0, none⟩))) (.bin o p x y)) := hid (by
    unfold NodeG
    exact ⟨N, u1, u2, HN.out, rfl, HK4.out.obj HOBJ.out (by decide), HQ4.out, HR4.out⟩)
  clear hlv hbc
  by_cases h1 : lv < 2
  · have h1i : (lv : Int) < 2 := by omega
    have HWW : Hid (wantK o ka = (2, 2)) := hid (by rw [HW.out]; rw [if_pos h1])
    clear HW
    by_cases ha : ka = 2
    · subst ha
      by_cases hb : kb = 2
      · subst hb
        go_wp2_with fail
        refine bodyPost_ret (results_tmp rfl _ _ _) rfl ⟨HK4.out, ?_⟩
        rw [HP.out, HWW.out, if_pos ⟨rfl, rfl⟩]
        exact ⟨rfl, HNODE.out⟩
      · have HBN := hid hb
        go_wp2_with fail
        refine (fail_any 3 p _).mono ?_
        rintro e w' ⟨hfl, hw'⟩
        subst w'
        have hfl' := hfl
        unfold Fails at hfl
        subst hfl
        simp only [Exit.then, Exit.inBlock]
        refine ⟨rfl, HK4.out, ?_⟩
        rw [HP.out, HWW.out, if_neg (by rintro ⟨h1, h2⟩; exact HBN.out h2)]
        exact hfl'
    · have HAN := hid ha
      go_wp2_with fail
      refine (fail_any 3 p _).mono ?_
      rintro e w' ⟨hfl, hw'⟩
      subst w'
      have hfl' := hfl
      unfold Fails at hfl
      subst hfl
      simp only [Exit.then, Exit.inBlock]
      refine ⟨rfl, HK4.out, ?_⟩
      rw [HP.out, HWW.out, if_neg (by rintro ⟨h1, h2⟩; exact HAN.out h1)]
      exact hfl'
  · have h1i : ¬ (lv : Int) < 2 := by omega
    by_cases h2 : lv = 2
    · have h2i : (lv : Int) = 2 := by omega
      have HWW : Hid (wantK o ka = (ka, 2)) := hid (by rw [HW.out]; rw [if_neg h1, if_pos h2])
      clear HW
      by_cases hb : kb = ka
      · subst hb
        go_wp2_with fail
        refine bodyPost_ret (results_tmp rfl _ _ _) rfl ⟨HK4.out, ?_⟩
        rw [HP.out, HWW.out, if_pos ⟨rfl, rfl⟩]
        exact ⟨rfl, HNODE.out⟩
      · have HBN := hid hb
        go_wp2_with fail
        refine (fail_any 3 p _).mono ?_
        rintro e w' ⟨hfl, hw'⟩
        subst w'
        have hfl' := hfl
        unfold Fails at hfl
        subst hfl
        simp only [Exit.then, Exit.inBlock]
        refine ⟨rfl, HK4.out, ?_⟩
        rw [HP.out, HWW.out, if_neg (by rintro ⟨h1, h2⟩; exact HBN.out h2)]
        exact hfl'
    · have h2i : ¬ (lv : Int) = 2 := by omega
      cases bc with
      | true =>
        have HWW : Hid (wantK o ka = (3, 3)) := hid (by rw [HW.out]; rw [if_neg h1, if_neg h2]; rfl)
        clear HW
        by_cases ha : ka = 3
        · subst ha
          by_cases hb : kb = 3
          · subst hb
            go_wp2_with fail
            refine bodyPost_ret (results_tmp rfl _ _ _) rfl ⟨HK4.out, ?_⟩
            rw [HP.out, HWW.out, if_pos ⟨rfl, rfl⟩]
            exact ⟨rfl, HNODE.out⟩
          · have HBN := hid hb
            go_wp2_with fail
            refine (fail_any 3 p _).mono ?_
            rintro e w' ⟨hfl, hw'⟩
            subst w'
            have hfl' := hfl
            unfold Fails at hfl
            subst hfl
            simp only [Exit.then, Exit.inBlock]
            refine ⟨rfl, HK4.out, ?_⟩
            rw [HP.out, HWW.out, if_neg (by rintro ⟨h1, h2⟩; exact HBN.out h2)]
            exact hfl'
        · have HAN := hid ha
          go_wp2_with fail
          refine (fail_any 3 p _).mono ?_
          rintro e w' ⟨hfl, hw'⟩
          subst w'
          have hfl' := hfl
          unfold Fails at hfl
          subst hfl
          simp only [Exit.then, Exit.inBlock]
          refine ⟨rfl, HK4.out, ?_⟩
          rw [HP.out, HWW.out, if_neg (by rintro ⟨h1, h2⟩; exact HAN.out h1)]
          exact hfl'
      | false =>
        have HWW : Hid (wantK o ka = (1, 1)) := hid (by rw [HW.out]; rw [if_neg h1, if_neg h2]; rfl)
        clear HW
        by_cases ha : ka = 1
        · subst ha
          by_cases hb : kb = 1
          · subst hb
            go_wp2_with fail
            refine bodyPost_ret (results_tmp rfl _ _ _) rfl ⟨HK4.out, ?_⟩
            rw [HP.out, HWW.out, if_pos ⟨rfl, rfl⟩]
            exact ⟨rfl, HNODE.out⟩
          · have HBN := hid hb
            go_wp2_with fail
            refine (fail_any 3 p _).mono ?_
            rintro e w' ⟨hfl, hw'⟩
            subst w'
            have hfl' := hfl
            unfold Fails at hfl
            subst hfl
            simp only [Exit.then, Exit.inBlock]
            refine ⟨rfl, HK4.out, ?_⟩
            rw [HP.out, HWW.out, if_neg (by rintro ⟨h1, h2⟩; exact HBN.out h2)]
            exact hfl'
        · have HAN := hid ha
          go_wp2_with fail
          refine (fail_any 3 p _).mono ?_
          rintro e w' ⟨hfl, hw'⟩
          subst w'
          have hfl' := hfl
          unfold Fails at hfl
          subst hfl
          simp only [Exit.then, Exit.inBlock]
          refine ⟨rfl, HK4.out, ?_⟩
          rw [HP.out, HWW.out, if_neg (by rintro ⟨h1, h2⟩; exact HAN.out h1)]
          exact hfl'
end Go.Proofs.YtgajofkeidjbgaaGreatDoor
