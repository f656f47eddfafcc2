/-
  PROVED HERE: the contract of disk.Remove.
-/
import Derived.Test.YtcmpjdnbjhkhdaaDoorDiskWrite
import Derived.Test.YtcmpjdnbjhkhdaaDoorStrDel
namespace Go.Proofs.YtcmpjdnbjhkhdaaDoor
set_option linter.unusedSimpArgs false
set_option linter.unusedVariables false
open Go.RowKit

variable {B : Nat} {w w' : World} {A M n : Nat} {f : List UInt8 → Option Value} {lv : Value} {ns : List (List UInt8)}
def DRemTo (B : Nat) (w : World) (A M n : Nat) (f : List UInt8 → Option Value) (lv : Value) (ns : List (List UInt8)) (k : List UInt8) (e : Ending) (w' : World) : Prop :=
  e = .returned (.bool (f k).isSome) ∧ ∃ lv', DiskAt B w' A M n (upd f k none) lv' (ns.filter (otherB k)) ∧ Keeps (fun b => b ≠ A ∧ b ≠ M ∧ some b ≠ lv.ownBlock) w w' ∧ lv'.ownBlock = lv.ownBlock
set_option maxRecDepth 100000 in
set_option maxHeartbeats 2000000 in
theorem disk_remove (h : DiskAt B w A M n f lv ns) (k : List UInt8) (hk : k.length ≤ maxLen) :
    Calls Tryd.prog 23 #[.pointer (some ⟨A, 0, none⟩), .string (strB k)] w (DRemTo B w A M n f lv ns k) := by
  have H := hid h; have HK := hid hk
  clear h hk
  go_enter Tryd.func23, Tryd.ntmps23
  go_upto_region 1 with (fail)
  obtain ⟨w0, hw0⟩ : ∃ w0, w0 = w.alloc (.cells #[.string (strB k)] 9 (0, 0)) := ⟨_, rfl⟩
  obtain ⟨X, hX⟩ : ∃ X, X = w.heap.size := ⟨_, rfl⟩
  have HL0 : Hid (Later w w0) := hid (by rw [hw0]; exact Later.alloc _ _)
  have HX0 : Hid (w0.cell? ⟨X, 0, none⟩ = some (.string (strB k))) := hid (by rw [hw0, hX]; exact cell_obj (obj_new _ _) rfl)
  have HXE := hid hX
  rw [← hw0, ← hX]
  clear hw0 hX
  have H0 := hid (H.out.later HL0.out)
  have c0 := H0.out.c0
  have x0 := HX0.out
  obtain ⟨u, hu⟩ : ∃ u, u = (f k).getD nilS := ⟨_, rfl⟩
  obtain ⟨b, hb⟩ : ∃ b, b = (f k).isSome := ⟨_, rfl⟩
  have HLK : Hid (∀ w', Later w0 w' → (Instr.lookup 111 (.map (some M)) (.string (strB k)) true).run Tryd.prog w' = .ok (.tuple #[u, .bool b]) w') := hid fun w' hL => by rw [hu, hb]; exact (H0.out.map.later hL).look Tryd.underlying111 zeroBs k HK.out
  have HB := hid hb
  clear hu hb
  refine wp_region_lex (by kernel_rfl) (by kernel_rfl) Later Later.refl Later.trans (fun _ => none) (fun _ _ _ _ _ h => by cases h) ?_
  simp only [numbered, Nat.reduceAdd]
  refine LexS.out ?_
  iterate 5
    first
    | (refine LexS.skip rfl ?_; simp only [Act.put, List.setIfInBounds_toArray, List.set])
    | (refine LexS.one' rfl rfl ?_
       apply Exists.intro
       refine ⟨fun w hR hF => ?_, ?_⟩
       · have hP := hR
         repeat (first | replace hP := Later.of_drew hP | replace hP := Later.of_drewN hP | replace hP := Later.of_alloc hP)
         have hcs := hR.cells
         have zc0 := hP.cell c0
         have zx0 := hP.cell x0
         clear hR hF hP
         go_simp
         first | done | rfl
       simp only [Act.put, List.setIfInBounds_toArray, List.set])
  iterate 1
    first
    | (refine LexS.skip rfl ?_; simp only [Act.put, List.setIfInBounds_toArray, List.set])
    | (refine LexS.one' rfl rfl ?_
       apply Exists.intro
       refine ⟨fun w hR hF => ?_, ?_⟩
       · have hP := hR
         repeat (first | replace hP := Later.of_drew hP | replace hP := Later.of_drewN hP | replace hP := Later.of_alloc hP)
         have hcs := hR.cells
         have zc0 := hP.cell c0
         have zx0 := hP.cell x0
         have zr0 := HLK.out _ hP
         clear hR hF hP
         go_simp
         first | done | rfl
       simp only [Act.put, List.setIfInBounds_toArray, List.set])
  iterate 5
    first
    | (refine LexS.skip rfl ?_; simp only [Act.put, List.setIfInBounds_toArray, List.set])
    | (refine LexS.one' rfl rfl ?_
       apply Exists.intro
       refine ⟨fun w hR hF => ?_, ?_⟩
       · have hP := hR
         repeat (first | replace hP := Later.of_drew hP | replace hP := Later.of_drewN hP | replace hP := Later.of_alloc hP)
         have hcs := hR.cells
         clear hR hF hP
         go_simp
         first | done | rfl
       simp only [Act.put, List.setIfInBounds_toArray, List.set])
  refine LexS.nil ?_
  intro w1 hR1 hF9
  clear hF9
  repeat (first | replace hR1 := Later.of_drew hR1 | replace hR1 := Later.of_drewN hR1 | replace hR1 := Later.of_alloc hR1)
  have HR1 := hid (Later.trans _ _ _ HL0.out hR1)
  have H1 := hid (H0.out.later hR1)
  have HX1 := hid (hR1.cell HX0.out)
  clear hR1 c0 x0 HLK
  go_upto_region 2 with (fail)
  have c0 := H1.out.c0
  have x0 := HX1.out
  refine wp_region_plan (by kernel_rfl) (by kernel_rfl) [] [5] (by kernel_rfl) (fun _ _ d _ _ h => by cases d <;> exact h) (Later) (Later.refl) (Later.trans) (fun _ => none) (fun _ _ _ _ _ h => by cases h) ?_
  simp only [body, tail, numbered, Nat.reduceAdd, List.filter_cons, List.filter_nil, List.contains_cons, List.contains_nil, Nat.reduceBEq, Bool.or_false, Bool.or_true, Bool.false_or, Bool.true_or, Bool.not_true, Bool.not_false, Bool.and_true, Bool.and_false, Bool.true_and, Bool.false_and, if_true, if_false, reduceIte, Bool.false_eq_true, List.map_cons, List.map_nil]
  simp only [Pures]
  refine LexS.out ?_
  iterate 5
    first
    | (refine LexS.skip rfl ?_; simp only [Act.put, List.setIfInBounds_toArray, List.set])
    | (refine LexS.one' rfl rfl ?_
       apply Exists.intro
       refine ⟨fun w hR hF => ?_, ?_⟩
       · have hP := hR
         repeat (first | replace hP := Later.of_drew hP | replace hP := Later.of_drewN hP | replace hP := Later.of_alloc hP)
         have hcs := hR.cells
         have zc0 := hP.cell c0
         have zx0 := hP.cell x0
         clear hR hF hP
         go_simp
         first | done | rfl
       simp only [Act.put, List.setIfInBounds_toArray, List.set])
  refine LexS.nil ?_
  intro w2 hR2 hF9
  clear hF9
  repeat (first | replace hR2 := Later.of_drew hR2 | replace hR2 := Later.of_drewN hR2 | replace hR2 := Later.of_alloc hR2)
  have HR2 := hid (Later.trans _ _ _ HR1.out hR2)
  have H2 := hid (H1.out.later hR2)
  have HX2 := hid (hR2.cell HX1.out)
  clear hR2 c0 x0
  change wpList _ _ _ _ _ _
  refine wpList_map_del Tryd.underlying111 rfl _ _ rfl rfl H2.out.map k HK.out rfl ?_
  intro w3 hM3 hk3
  have hXM : X ≠ M := by have := HXE.out; have := H.out.map.lt; omega
  have hXA : X ≠ A := by have := HXE.out; have := H.out.lt; omega
  have HX3 := hid (hk3.cell (p := ⟨X, 0, none⟩) hXM HX2.out)
  have H3 : Hid (DiskAt B w3 A M n (upd f k none) lv ns) := hid ⟨hk3.obj H2.out.ne H2.out.obj, hM3, H2.out.own.keep hk3 (fun g hg e => H2.out.lvM (by rw [hg, e])), H2.out.geA, H2.out.geM, H2.out.ne, H2.out.lvA, H2.out.lvM⟩
  have HK3 : Hid (Keeps (fun b => b ≠ A ∧ b ≠ M ∧ some b ≠ lv.ownBlock) w w3) := hid ((HR2.out.keeps _).trans (hk3.mono fun b _ hb => hb.2.1))
  have hXl : some X ≠ lv.ownBlock := fun e => by have := (ownb H.out.own X e.symm).2; have := HXE.out; omega
  obtain ⟨la, lc, hlv⟩ := H3.out.own.slice
  have HLV := hid hlv
  have c1 := H3.out.c1
  have hlt := H3.out.lt
  rw [hlv] at c1
  have HOL : Hid (OwnS B w3 (.slice la ns.length lc) ns) := hid (by have h := H3.out.own; rwa [hlv] at h)
  have HXL : Hid (some X ≠ (Value.slice la ns.length lc).ownBlock) := hid (by rwa [hlv] at hXl)
  clear hlv hXl hM3 hk3
  go_wp2_with fail
  refine (delete_strs B k X la lc ns w3 HOL.out HX3.out HXL.out).mono ?_
  rintro e w4 ⟨rfl, ho4, hk4⟩
  have HO4 := hid ho4
  have HK4 : Hid (Keeps (fun b => some b ≠ lv.ownBlock) w3 w4) := hid (by rw [HLV.out]; exact hk4)
  have HO := hid (HK4.out.obj H3.out.lvA H3.out.obj)
  have d1 := cell_obj (i := 1) HO.out rfl
  have f1 := free_obj (i := 1) HO.out
  have hl4 := cell_lt d1
  obtain ⟨L4, hL4⟩ : ∃ L4, L4 = (ns.filter (otherB k)).length := ⟨_, rfl⟩
  rw [← hL4] at HO4 ⊢
  clear ho4 hk4 c1 hlt hL4
  go_wp2_with fail
  obtain ⟨w5, hw5⟩ : ∃ w5, w5 = w4.setCell ⟨A, 1, none⟩ (.slice la L4 lc) := ⟨_, rfl⟩
  have HK5 : Hid (Keeps (fun b => b ≠ A) w4 w5) := hid (by rw [hw5]; exact (Keeps.refl (fun b => b ≠ A) w4).setCell (p := ⟨A, 1, none⟩) (.inl fun h => h rfl) _)
  have HO5 : Hid (w5.heap[A]? = some (.cells #[.map (some M), .slice la L4 lc] 113 (0, 0))) := hid (by rw [hw5]; exact obj_setCell (i := 1) HO.out _)
  rw [← hw5]
  clear hw5 d1 f1 hl4
  go_ret
  have hob : (Value.slice la L4 lc).ownBlock = lv.ownBlock := by rw [HLV.out]; cases la <;> rfl
  refine ⟨by rw [HB.out]; rfl, .slice la L4 lc, ⟨HO5.out, (H3.out.map.kept HK4.out H3.out.lvM).kept HK5.out (fun e => H.out.ne e.symm), HO4.out.keep HK5.out (fun g hg e => H3.out.lvA (by rw [← hob, hg, e])), H.out.geA, H.out.geM, H.out.ne, by rw [hob]; exact H3.out.lvA, by rw [hob]; exact H3.out.lvM⟩, ?_, hob⟩
  exact HK3.out.trans ((HK4.out.mono fun b _ hb => hb.2.2).trans (HK5.out.mono fun b _ hb => hb.1))
end Go.Proofs.YtcmpjdnbjhkhdaaDoor
