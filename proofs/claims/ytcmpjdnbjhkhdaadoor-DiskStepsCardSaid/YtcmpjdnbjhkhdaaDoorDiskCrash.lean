/-
  PROVED HERE: the contract of disk.Crash.
-/
import Derived.Test.YtcmpjdnbjhkhdaaDoorDiskWrite
import Derived.Test.YtcmpjdnbjhkhdaaDoorFrame
namespace Go.Proofs.YtcmpjdnbjhkhdaaDoor
set_option linter.unusedSimpArgs false
set_option linter.unusedVariables false
open Go.RowKit

variable {B : Nat} {w w' : World} {A M n : Nat} {f : List UInt8 → Option Value} {lv : Value} {ns : List (List UInt8)}
def halfV : Value → Value
  | .slice a m _ => sliced a 0 (m / 2) (m / 2) 1
  | v => v
theorem wrap_half (q : Nat) (h : q ≤ 9223372036854775807) : wrap64 ((q : Int) / 2) = ((q / 2 : Nat) : Int) := by unfold wrap64; omega
theorem run_half (w : World) (a : Option Addr) (q c h : Nat) (hc : h ≤ c) : (Go.Instr.slice 45 (.slice a q c) none (some (.int .i64 (h : Int))) (some (.int .i64 (h : Int)))).run Tryd.prog w = .ok (sliced a 0 h h 1) w := by
  rw [run_slice_hm (w := w) 45 a q c (show Tryd.prog.underlying 45 = some (.slice (Tryd.prog.elem 45)) by kernel_rfl) .i64 .i64 h h (by omega) (by omega) (by omega), Int.toNat_natCast]
  have he : Tryd.prog.elem 45 = 5 := by kernel_rfl
  rw [he, Tryd.sizeOf5]
  rfl
theorem SliceOf.half {S : Nat → Prop} {w : World} {v : Value} {l : List UInt8} (h : BytesIn S w v l) : BytesIn S w (halfV v) (l.take (l.length / 2)) := by
  obtain ⟨a, c, rfl, hl, hc, hn, he⟩ := h
  show BytesIn S w (sliced a 0 (l.length / 2) (l.length / 2) 1) _
  have hlen : (l.take (l.length / 2)).length = l.length / 2 := by rw [List.length_take]; omega
  refine ⟨if l.length / 2 = 0 then a else a.map (·.add (0 * 1)), l.length / 2, by rw [hlen]; rfl, by omega, by omega, fun h0 => ?_, fun i hi => ?_⟩
  · split at h0
    · assumption
    · cases a with
      | none => have := hn rfl; omega
      | some a => simp at h0
  · rw [hlen] at hi
    obtain ⟨b, o, rfl, hS, hx⟩ := he i (by omega)
    refine ⟨b, o, ?_, hS, ?_⟩
    · rw [if_neg (by omega)]
      simp only [Option.map_some]
      rw [add_none rfl]
      simp
    · have e : (l.take (l.length / 2))[i]'(by rw [hlen]; exact hi) = l[i]'(by omega) := by simp
      rw [e]
      exact hx
def crashStep (whole : Int) (f : List UInt8 → Option Value) (i : Nat) (k : List UInt8) : List UInt8 → Option Value :=
  if (i : Int) < whole then f else if (i : Int) = max whole 0 then upd f k (some (halfV ((f k).getD nilS))) else upd f k none
def crashN (whole : Int) (ns : List (List UInt8)) (f : List UInt8 → Option Value) : Nat → List UInt8 → Option Value
  | 0 => f
  | i + 1 => crashStep whole (crashN whole ns f i) i (ns.getD i [])
theorem crashStep_other {whole : Int} {f : List UInt8 → Option Value} {i : Nat} {k x : List UInt8} (h : x ≠ k) : crashStep whole f i k x = f x := by
  unfold crashStep
  split
  · rfl
  split
  · unfold upd; rw [if_neg h]
  · unfold upd; rw [if_neg h]
theorem crashN_later {whole : Int} {ns : List (List UInt8)} {f : List UInt8 → Option Value} (hn : ns.Nodup) : ∀ (i : Nat) (x : List UInt8), (∀ j, j < i → ns.getD j [] ≠ x) → crashN whole ns f i x = f x
  | 0, _, _ => rfl
  | i + 1, x, h => by
    show crashStep whole (crashN whole ns f i) i (ns.getD i []) x = f x
    rw [crashStep_other (fun e => h i (by omega) e.symm), crashN_later hn i x fun j hj => h j (by omega)]
theorem crashN_at {whole : Int} {ns : List (List UInt8)} {f : List UInt8 → Option Value} (hn : ns.Nodup) {i : Nat} (hi : i < ns.length) : crashN whole ns f i ns[i] = f ns[i] := by
  refine crashN_later hn i _ fun j hj e => ?_
  have hjl : j < ns.length := by omega
  rw [List.getD_eq_getElem?_getD, List.getElem?_eq_getElem hjl] at e
  exact (List.pairwise_iff_getElem.1 hn j i hjl hi hj) (show ns[j] = ns[i] from e)
def DCrashTo (B : Nat) (w : World) (A M n : Nat) (f : List UInt8 → Option Value) (ns : List (List UInt8)) (whole : Int) (e : Ending) (w' : World) : Prop :=
  e = .returned (.tuple #[]) ∧ DiskAt B w' A M (n + 1) (crashN whole ns f ns.length) nilS [] ∧ Keeps (fun b => b ≠ A ∧ b ≠ M) w w'
set_option maxRecDepth 100000 in
set_option maxHeartbeats 4000000 in
theorem disk_crash (h : DiskAt B w A M n f lv ns) (hn : ns.Nodup) (hnl : ∀ k ∈ ns, k.length ≤ maxLen) (hs : ∀ k ∈ ns, ∃ a m c, f k = some (.slice a m c) ∧ m ≤ c ∧ c ≤ maxLen) (hm : n + 1 < maxLen) (whole : Int) :
    Calls Tryd.prog 20 #[.pointer (some ⟨A, 0, none⟩), .int .i64 whole] w (DCrashTo B w A M n f ns whole) := by
  have H := hid h; have HN := hid hn; have HNL := hid hnl; have HS := hid hs; have HM := hid hm
  obtain ⟨la, lc, hlv⟩ := h.own.slice
  have c1 := h.c1
  have hlt := h.lt
  rw [hlv] at c1
  have HOL : Hid (OwnS B w (.slice la ns.length lc) ns) := hid (by have h := h.own; rwa [hlv] at h)
  have HLV := hid hlv
  have HLEN := hid HOL.out.len
  clear h hn hnl hs hm hlv
  go_enter Tryd.func20, Tryd.ntmps20
  go_wp2_with fail
  clear c1 hlt
  obtain ⟨R1, hR1⟩ : ∃ RR_ : (Nat → Value) → World → Prop, RR_ = (fun us wx => ∃ (i m : Nat), us 13 = .int .i64 i ∧ i ≤ ns.length ∧ m ≤ n + (if max whole 0 < (i : Int) then 1 else 0) ∧ MapAt wx M m (crashN whole ns f i) ∧ Keeps (fun b => b ≠ M) w wx) := ⟨_, rfl⟩
  obtain ⟨mu1, hmu1⟩ : ∃ mu : (Nat → Value) → World → Nat, mu = (fun us _ => ns.length - (intOf (us 13)).toNat) := ⟨_, rfl⟩
  have HR1 := hid hR1; have Hmu1 := hid hmu1; clear hR1 hmu1
  refine wp_loop_frame' [false, false, false, false, true, true, true, true, false, false, false, false, false, true, true, true, true, true, true, true, true, true, true, true, true, true, true, true, true, true, true, true, true, true, true, true, true, true, true, true, true, true, true, true, true, true, true, true, true, true, true] R1 _ mu1 HR1.out ?_ ?_
  · refine ⟨0, n, rfl, Nat.zero_le _, ?_, H.out.map, Keeps.refl _ _⟩
    omega
  intro us1 wx hrel
  obtain ⟨i, m, h13, hi, hmm, hM, hk⟩ := hrel
  simp only [frameOf, Nat.reduceAdd, h13]
  have Hh13 := hid h13; clear h13
  have HI := hid hi; have HMM := hid hmm; have HMAP := hid hM; have HK := hid hk
  clear hi hmm hM hk
  by_cases hlt : i < ns.length
  · have HLT := hid hlt
    obtain ⟨k, hk⟩ : ∃ k, k = ns[i]'hlt := ⟨_, rfl⟩
    have hmem : k ∈ ns := by rw [hk]; exact List.getElem_mem hlt
    have hkl := HNL.out k hmem
    obtain ⟨a, q, c, hfk, hqc, hcm⟩ := HS.out k hmem
    have HFK : Hid (crashN whole ns f i k = some (.slice a q c)) := hid (by rw [hk, crashN_at HN.out hlt, ← hk, hfk])
    have HGD : Hid (ns.getD i [] = k) := hid (by rw [List.getD_eq_getElem?_getD, List.getElem?_eq_getElem hlt, hk]; rfl)
    obtain ⟨g, eg, hBg, p1, -⟩ := HOL.out.at hlt
    subst eg
    rw [← hk] at p1
    have hgM : g ≠ M := fun e => H.out.lvM (by rw [HLV.out, e]; rfl)
    have p1' := HK.out.cell (p := ⟨g, i, none⟩) hgM p1
    have c0 := HK.out.cell (p := ⟨A, 0, none⟩) H.out.ne H.out.c0
    have hlg := cell_lt p1'
    have hlA := cell_lt c0
    have HKL := hid hkl
    have HQ := hid (And.intro hqc hcm)
    have hgd : ((crashN whole ns f i) k).getD nilS = .slice a q c := by rw [HFK.out]; rfl
    clear hk hmem hkl hfk hqc hcm p1 hgM
    have HW := hid (show wrap64 ((i : Int) + 1) = ((i + 1 : Nat) : Int) by have := HLEN.out.2.1; have h2 := HLEN.out.2.2.1; unfold maxLen at h2; unfold wrap64; omega)
    by_cases h1 : (i : Int) < whole
    · have HN1 : Hid (crashN whole ns f (i + 1) = crashN whole ns f i) := hid (by show crashStep _ _ _ _ = _; unfold crashStep; rw [if_pos h1])
      go_wp2_with (at_lookup; refine wpList_map_get Tryd.underlying111 zeroBs rfl _ _ rfl rfl HMAP.out k HKL.out rfl ?_)
      try simp only [HW.out]
      refine Round.mk' HR1.out Hmu1.out rfl ?_ ?_
      · refine ⟨i + 1, m, rfl, hlt, ?_, by rw [HN1.out]; exact HMAP.out, HK.out⟩
        have := HMM.out
        split at this <;> split <;> omega
      · rw [Hh13.out]; simp [intOf, slots]; omega
    · by_cases h2 : (i : Int) = max whole 0
      · have HE := hid h2
        have HN1 : Hid (crashN whole ns f (i + 1) = upd (crashN whole ns f i) k (some (halfV (.slice a q c)))) := hid (by show crashStep _ _ _ _ = _; rw [HGD.out]; unfold crashStep; rw [if_neg h1, if_pos h2, hgd])
        obtain ⟨hh, hhq⟩ : ∃ hh, hh = q / 2 := ⟨_, rfl⟩
        have hhc : hh ≤ c := by have := HQ.out.1; omega
        have HSL : Hid (∀ w, (Go.Instr.slice 45 (.slice a q c) none (some (.int .i64 (hh : Int))) (some (.int .i64 (hh : Int)))).run Tryd.prog w = .ok (halfV (.slice a q c)) w) := hid fun w => by rw [run_half w a q c hh hhc, hhq]; rfl
        have HMN : Hid (m ≤ n) := hid (by have := HMM.out; rw [if_neg (by omega)] at this; exact this)
        have h2' := h2.symm
        have hwq : wrap64 ((q : Int) / 2) = (hh : Int) := by rw [hhq]; exact wrap_half q (Nat.le_trans HQ.out.1 HQ.out.2)
        clear h2 hhq hhc
        go_upto_region 8 with (at_lookup; refine wpList_map_get Tryd.underlying111 zeroBs rfl _ _ rfl rfl HMAP.out k HKL.out rfl ?_)
        try simp only [hwq]
        clear hwq
        generalize halfV (.slice a q c) = hv at HSL HN1
        refine wp_region_plan (by kernel_rfl) (by kernel_rfl) [] [9] (by kernel_rfl) (fun _ _ d _ _ h => by cases d <;> exact h) (Later) (Later.refl) (Later.trans) (fun _ => none) (fun _ _ _ _ _ h => by cases h) ?_
        simp only [body, tail, numbered, Nat.reduceAdd, List.filter_cons, List.filter_nil, List.contains_cons, List.contains_nil, Nat.reduceBEq, Bool.or_false, Bool.or_true, Bool.false_or, Bool.true_or, Bool.not_true, Bool.not_false, Bool.and_true, Bool.and_false, Bool.true_and, Bool.false_and, if_true, if_false, reduceIte, Bool.false_eq_true, List.map_cons, List.map_nil]
        simp only [Pures]
        refine LexS.out ?_
        iterate 8
          first
          | (refine LexS.skip rfl ?_; simp only [Act.put, List.setIfInBounds_toArray, List.set])
          | (refine LexS.one' rfl rfl ?_
             apply Exists.intro
             refine ⟨fun w hR hF => ?_, ?_⟩
             · have hP := hR
               repeat (first | replace hP := Later.of_drew hP | replace hP := Later.of_drewN hP | replace hP := Later.of_alloc hP)
               have hcs := hR.cells
               have zc0 := hP.cell c0
               clear hR hF hP
               go_simp
               first | done | rfl
             simp only [Act.put, List.setIfInBounds_toArray, List.set])
        iterate 1
          first
          | (refine LexS.skip rfl ?_; simp only [Act.put, List.setIfInBounds_toArray, List.set])
          | (refine LexS.one' rfl rfl ?_
             apply Exists.intro
             refine ⟨fun w hR hF => ?_, ?_⟩
             · have hP := hR
               repeat (first | replace hP := Later.of_drew hP | replace hP := Later.of_drewN hP | replace hP := Later.of_alloc hP)
               have hcs := hR.cells
               have zr0 := HSL.out w
               clear hR hF hP
               go_simp
               first | done | rfl
             simp only [Act.put, List.setIfInBounds_toArray, List.set])
        refine LexS.nil ?_
        intro w2 hR2 hF9
        clear hF9
        repeat (first | replace hR2 := Later.of_drew hR2 | replace hR2 := Later.of_drewN hR2 | replace hR2 := Later.of_alloc hR2)
        have HR2 := hid hR2
        clear hR2 c0 p1'
        change wpList _ _ _ _ _ _
        refine wpList_map_put Tryd.underlying111 rfl _ _ _ rfl rfl (HMAP.out.later HR2.out) (by have := HM.out; have := HMN.out; omega) k HKL.out rfl hv rfl ?_
        intro w3 hM3 hk3
        have HM3 := hid hM3
        have HK3 := hid ((HK.out.more HR2.out).trans hk3)
        clear hM3 hk3 h2'
        go_wp2_with fail
        try simp only [HW.out]
        refine Round.mk' HR1.out Hmu1.out rfl ?_ ?_
        · refine ⟨i + 1, m + 1, rfl, HLT.out, ?_, by rw [HN1.out]; exact HM3.out, HK3.out⟩
          have h3 := HMN.out
          have h4 := HE.out
          rw [if_pos (by omega)]
          omega
        · rw [Hh13.out]; have := HLT.out; simp [intOf, slots]; omega
      · have HN1 : Hid (crashN whole ns f (i + 1) = upd (crashN whole ns f i) k none) := hid (by show crashStep _ _ _ _ = _; rw [HGD.out]; unfold crashStep; rw [if_neg h1, if_neg h2])
        go_wp2_with (first | (at_lookup; refine wpList_map_get Tryd.underlying111 zeroBs rfl _ _ rfl rfl HMAP.out k HKL.out rfl ?_) | (at_delete; refine wpList_map_del Tryd.underlying111 rfl _ _ rfl rfl HMAP.out k HKL.out rfl ?_))
        intro w2 hM2 hk2
        have HM2 := hid hM2
        have HK2 := hid (HK.out.trans hk2)
        clear hM2 hk2 c0 p1'
        go_wp2_with fail
        try simp only [HW.out]
        refine Round.mk' HR1.out Hmu1.out rfl ?_ ?_
        · refine ⟨i + 1, m, rfl, hlt, ?_, by rw [HN1.out]; exact HM2.out, HK2.out⟩
          have := HMM.out
          split at this <;> split <;> omega
        · rw [Hh13.out]; simp [intOf, slots]; omega
  · have hie : i = ns.length := by have := HI.out; omega
    subst hie
    have HD := hid (HK.out.obj H.out.ne H.out.obj)
    have d1 := cell_obj (i := 1) HD.out rfl
    have f1 := free_obj (i := 1) HD.out
    have hl := cell_lt d1
    go_wp2_with fail
    refine bodyPost_end (v := .tuple #[]) (by simp [results, Tryd.results20, go_sem]) rfl ⟨rfl, ?_, ?_⟩
    · have hk2 := (Keeps.refl (fun b => b ≠ A) wx).setCell (p := ⟨A, 1, none⟩) (.inl fun h => h rfl) nilS
      refine ⟨obj_setCell (i := 1) HD.out nilS, (HMAP.out.mono ?_).kept hk2 (fun e => H.out.ne e.symm), OwnS.nil _ _, H.out.geA, H.out.geM, H.out.ne, (fun h => by cases h), (fun h => by cases h)⟩
      have := HMM.out
      split at this <;> omega
    · exact (HK.out.mono fun b _ hb => hb.2).trans ((Keeps.refl (fun b => b ≠ A ∧ b ≠ M) wx).setCell (p := ⟨A, 1, none⟩) (.inl fun h => h.1 rfl) nilS)
end Go.Proofs.YtcmpjdnbjhkhdaaDoor
