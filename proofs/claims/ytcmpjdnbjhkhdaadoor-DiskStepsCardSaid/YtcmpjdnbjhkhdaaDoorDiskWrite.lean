/-
  PROVED HERE: the contract of disk.Write.
-/
import Derived.Test.YtcmpjdnbjhkhdaaDoorDiskAt
namespace Go.Proofs.YtcmpjdnbjhkhdaaDoor
set_option linter.unusedSimpArgs false
set_option linter.unusedVariables false
open Go.RowKit

variable {B : Nat} {w w' : World} {A M n : Nat} {f : List UInt8 → Option Value} {lv : Value} {ns : List (List UInt8)}
theorem infoStr : (Tryd.prog.info? 9).map (fun i => (i.zero, i.size, i.bytes)) = some (some (.string ⟨#[]⟩), 1, 16) := by kernel_rfl
theorem strElem : ElemInfo Tryd.prog 9 1 16 := ElemInfo.of infoStr rfl (by decide)
def ClonedAt (B : Nat) (l : List UInt8) (v : Value) (w : World) : Prop := w.ownsRow B 5 1 v l.length (byteCells l)
theorem appx_keeps {w1 w' : World} {B s n m : Nat} {e : TypeId} {v v' : Value} {xs : List Value} (hx : AppX w1 B e s v n m xs v' w') : Keeps (fun b => some b ≠ v.ownBlock) w1 w' ∧ (v'.ownBlock = v.ownBlock ∨ ∀ g, v'.ownBlock = some g → w1.heap.size ≤ g) := by
  rcases hx.kind with ⟨g, cap, rfl, rfl, hk⟩ | ⟨hL, hn⟩
  · exact ⟨hk.mono fun b _ hb e => hb (by rw [e]; rfl), .inl rfl⟩
  · exact ⟨hL.keeps _, .inr hn⟩
def stateE : Value := .iface 30 (.int .i64 6)
theorem disk_write_no (h : DiskAt B w A M n f lv ns) (k : List UInt8) (hk : k.length ≤ maxLen) (hf : (f k).isSome = true) (v : Value) :
    Calls Tryd.prog 18 #[.pointer (some ⟨A, 0, none⟩), .string (strB k), v] w fun e w' => e = .returned stateE ∧ w' = w := by
  have H := hid h; have HK := hid hk; have HF := hid hf
  have c0 := h.c0
  have hlt := h.lt
  clear h hk
  go_enter Tryd.func18, Tryd.ntmps18
  go_wp2_with (at_lookup; refine wpList_map_ok Tryd.underlying111 zeroBs rfl _ _ rfl rfl H.out.map k HK.out rfl ?_)
  go_ret
  exact ⟨rfl, rfl⟩
def DWriteTo (B : Nat) (w : World) (A M n : Nat) (f : List UInt8 → Option Value) (lv : Value) (ns : List (List UInt8)) (k l : List UInt8) (e : Ending) (w' : World) : Prop :=
  e = .returned .nilIface ∧ ∃ u lv', DiskAt B w' A M (n + 1) (upd f k (some u)) lv' (ns ++ [k]) ∧ BytesIn (fun b => w.heap.size ≤ b ∧ some b ≠ lv'.ownBlock ∧ b < w'.heap.size) w' u l ∧
    Keeps (fun b => b ≠ A ∧ b ≠ M ∧ some b ≠ lv.ownBlock) w w' ∧ (lv'.ownBlock = lv.ownBlock ∨ ∀ g, lv'.ownBlock = some g → w.heap.size ≤ g)
set_option maxRecDepth 100000 in
set_option maxHeartbeats 2000000 in
theorem disk_write_new (h : DiskAt B w A M n f lv ns) (k : List UInt8) (hk : k.length ≤ maxLen) (hf : (f k).isSome = false) (v : Value) (l : List UInt8) (hv : IsBytes w v l) (hl : l.length ≤ 140737488355328) (hn : n < maxLen) (hns : (ns.length + 1) * 16 ≤ 140737488355328) :
    Calls Tryd.prog 18 #[.pointer (some ⟨A, 0, none⟩), .string (strB k), v] w (DWriteTo B w A M n f lv ns k l) := by
  have H := hid h; have HK := hid hk; have HF := hid hf; have HV := hid hv; have HL := hid hl; have HN := hid hn; have HNS := hid hns
  have c0 := h.c0
  have hlt := h.lt
  clear h hk hv hl hn hns
  go_enter Tryd.func18, Tryd.ntmps18
  go_upto_region 4 with (at_lookup; refine wpList_map_ok Tryd.underlying111 zeroBs rfl _ _ rfl rfl H.out.map k HK.out rfl ?_)
  generalize (f k).getD nilS = u
  clear hf
  refine wp_region_plan (by kernel_rfl) (by kernel_rfl) [] [7] (by kernel_rfl) (fun _ _ d _ _ h => by cases d <;> exact h) (Later) (Later.refl) (Later.trans) (kinds [(6, ClonedAt w.heap.size l)]) (kinds_still (by simp only [List.mem_cons, List.not_mem_nil, or_false, forall_eq_or_imp, forall_eq]; exact fun _ _ _ hR h => owns_at h hR)) ?_
  simp only [body, tail, numbered, Nat.reduceAdd, List.filter_cons, List.filter_nil, List.contains_cons, List.contains_nil, Nat.reduceBEq, Bool.or_false, Bool.or_true, Bool.false_or, Bool.true_or, Bool.not_true, Bool.not_false, Bool.and_true, Bool.and_false, Bool.true_and, Bool.false_and, if_true, if_false, reduceIte, Bool.false_eq_true, List.map_cons, List.map_nil]
  simp only [Pures]
  refine LexS.out ?_
  iterate 6
    first
    | (refine LexS.skip rfl ?_; simp only [Act.put, List.setIfInBounds_toArray, List.set])
    | (refine LexS.one' rfl rfl ?_
       apply Exists.intro
       refine ⟨fun w hR hF => ?_, ?_⟩
       · have hP := hR
         repeat (first | replace hP := Later.of_drew hP | replace hP := Later.of_drewN hP | replace hP := Later.of_alloc hP)
         have hcs := hR.cells
         have zc0 := hP.cell c0
         clear hR hF hP
         go_simp
         first | done | rfl
       simp only [Act.put, List.setIfInBounds_toArray, List.set])
  refine LexS.any rfl rfl (fun w hR hF => ?_) ?_
  · have hP := hR
    repeat (first | replace hP := Later.of_drew hP | replace hP := Later.of_drewN hP | replace hP := Later.of_alloc hP)
    have hsz := hP.size
    have zc0 := hP.cell c0
    clear hF hR c0
    unfold Runs
    go_simp
    refine yield_enter ?_
    refine (clone_bytes l v _ (SliceOf.bytes_later HV.out hP) HL.out).mono ?_
    rintro e w' ⟨v', rfl, ho, hL⟩
    exact ⟨_, rfl, hL, (ownsRow_base ho hsz)⟩
  rintro vk_ ⟨wk_, hRk_, hFk_⟩
  obtain - := hFk_ _ List.mem_cons_self _ rfl
  clear hFk_ hRk_ wk_
  simp only [Act.put, List.setIfInBounds_toArray, List.set]
  refine LexS.nil ?_
  intro w5 hR5 hF5
  have ho5 := hF5 _ List.mem_cons_self _ rfl
  repeat (first | replace hR5 := Later.of_drew hR5 | replace hR5 := Later.of_drewN hR5 | replace hR5 := Later.of_alloc hR5)
  clear hF5
  obtain ⟨u5, hu5⟩ : ∃ u5, u5 = vk_ := ⟨_, rfl⟩
  rw [← hu5] at ho5 ⊢
  clear hu5
  have HO5 : Hid (w5.ownsRow w.heap.size 5 1 u5 l.length (byteCells l)) := hid ho5
  have H5 := hid (H.out.later hR5)
  have HR5 := hid hR5
  clear ho5 hR5 c0 hlt
  change wpList _ _ _ _ _ _
  refine wpList_map_put Tryd.underlying111 rfl _ _ _ rfl rfl H5.out.map HN.out k HK.out rfl u5 rfl ?_
  intro w6 hM6 hk6
  have HO6 := hid (owns_keep HO5.out hk6 (fun g hg e => by have := (ownb HO5.out g hg).1; have := H.out.map.lt; omega))
  have H6 : Hid (DiskAt B w6 A M (n + 1) (upd f k (some u5)) lv ns) := hid ⟨hk6.obj H5.out.ne H5.out.obj, hM6, H5.out.own.keep hk6 (fun g hg e => H5.out.lvM (by rw [hg, e])), H5.out.geA, H5.out.geM, H5.out.ne, H5.out.lvA, H5.out.lvM⟩
  have HK6 : Hid (Keeps (fun b => b ≠ A ∧ b ≠ M ∧ some b ≠ lv.ownBlock) w w6) := hid ((HR5.out.keeps _).trans (hk6.mono fun b _ hb => hb.2.1))
  have HZ6 := hid hk6.size
  clear hM6 hk6 H5 HO5
  obtain ⟨la, lc, hlv⟩ := H6.out.own.slice
  have HLV := hid hlv
  have c1 := H6.out.c1
  have hlt := H6.out.lt
  rw [hlv] at c1
  have HOL : Hid ((w6.alloc (.cells #[.string (strB k)] 9 (0, 0))).ownsRow B 9 1 (.slice la ns.length lc) ns.length (strCells ns)) := hid (by have h := (H6.out.own.later (Later.alloc w6 (.cells #[.string (strB k)] 9 (0, 0)))); rw [hlv] at h; exact h)
  clear hlv
  have HBW : Hid (B ≤ (w6.alloc (.cells #[.string (strB k)] 9 (0, 0))).heap.size) := hid (by rw [World.size_alloc]; have := H6.out.geA; omega)
  go_wp2_with (at_builtin; refine wpList_append_objx rfl _ _ 58 rfl 9 1 16 Tryd.underlying58 strElem rfl HOL.out (news := [.string (strB k)]) rfl (obj_new w6 _) rfl (fun u hu => by obtain rfl := List.mem_singleton.1 hu; rfl) ?c1 ?c2 HBW.out ?_)
  case c1 => exact HNS.out
  case c2 => have := HNS.out; unfold maxLen; omega
  intro v7 w7 hx7
  obtain ⟨hk7, hb7⟩ := appx_keeps hx7
  have HK7 : Hid (Keeps (fun b => some b ≠ lv.ownBlock) w6 w7) := hid (((Later.alloc w6 _).keeps _).trans (hk7.mono fun b _ hb => by rw [HLV.out] at hb; exact hb))
  have HB7 : Hid (v7.ownBlock = lv.ownBlock ∨ ∀ g, v7.ownBlock = some g → w6.heap.size < g) := hid (hb7.imp (fun h => by rw [HLV.out]; exact h) fun h g hg => by have := h g hg; rw [World.size_alloc] at this; omega)
  have o7 := HK7.out.obj H6.out.lvA H6.out.obj
  have HOW7 : Hid (OwnS B w7 v7 (ns ++ [k])) := hid (by
    have h := hx7.own
    unfold OwnS
    have e : strCells (ns ++ [k]) = strCells ns ++ [.string (strB k)] := by unfold strCells; rw [List.map_append]; rfl
    rw [List.length_append, e]
    exact h)
  have HO7 := hid o7
  clear hx7 hk7 hb7 HOL
  have d1 := cell_obj (i := 1) o7 rfl
  have f1 := free_obj (i := 1) o7
  have hl7 := cell_lt d1
  clear o7 c1 hlt
  obtain ⟨a7, c7, hv7⟩ := HOW7.out.slice
  generalize (ns ++ [k]).length = L7 at hv7
  have HV7 := hid hv7
  rw [hv7]
  clear hv7
  go_wp2_with fail
  change bodyPost _ _ _ _ _ (w7.setCell ⟨A, 1, none⟩ (.slice a7 L7 c7))
  rw [← HV7.out]
  obtain ⟨w8, hw8⟩ : ∃ w8, w8 = w7.setCell ⟨A, 1, none⟩ v7 := ⟨_, rfl⟩
  have HK8 : Hid (Keeps (fun b => b ≠ A) w7 w8) := hid (by rw [hw8]; exact (Keeps.refl (fun b => b ≠ A) w7).setCell (p := ⟨A, 1, none⟩) (.inl fun h => h rfl) v7)
  have HO8 : Hid (w8.heap[A]? = some (.cells #[.map (some M), v7] 113 (0, 0))) := hid (by rw [hw8]; exact obj_setCell (i := 1) HO7.out v7)
  rw [← hw8]
  clear hw8 d1 f1 hl7
  go_ret
  have hlvlt : ∀ g, lv.ownBlock = some g → g < w.heap.size := fun g hg => (ownb H.out.own g hg).2
  have hAlt : A < w.heap.size := H.out.lt
  have hw56 : w.heap.size ≤ w6.heap.size := Nat.le_trans HR5.out.size HZ6.out
  have hv7A : some A ≠ v7.ownBlock := by
    rcases HB7.out with h | h
    · rw [h]; exact H.out.lvA
    · intro e; have := h A e.symm; omega
  have hv7M : some M ≠ v7.ownBlock := by
    rcases HB7.out with h | h
    · rw [h]; exact H.out.lvM
    · intro e; have := h M e.symm; have := H.out.map.lt; omega
  refine ⟨rfl, u5, v7, ⟨HO8.out, (H6.out.map.kept HK7.out H6.out.lvM).kept HK8.out (fun e => H.out.ne e.symm), HOW7.out.keep HK8.out (fun g hg e => hv7A (by rw [hg, e])), H.out.geA, H.out.geM, H.out.ne, hv7A, hv7M⟩, ?_, ?_, ?_⟩
  · have hb : BytesIn (fun b => w.heap.size ≤ b ∧ b < w6.heap.size) w6 u5 l := (owned_bytes HO6.out).map fun b o x hS hx => ⟨⟨hS, by have := cell_lt hx; exact this⟩, hx⟩
    have hb8 := (hb.bytes_kept HK7.out (fun b hS e => by have := hlvlt b e.symm; omega)).bytes_kept HK8.out (fun b hS e => by omega)
    refine hb8.bytes_mono fun b hS => ⟨hS.1, ?_, ?_⟩
    · rcases HB7.out with h | h
      · intro e; rw [h] at e; have := hlvlt b e.symm; omega
      · intro e; have := h b e.symm; omega
    · have := HK7.out.size; have := HK8.out.size; omega
  · exact HK6.out.trans ((HK7.out.mono fun b _ hb => hb.2.2).trans (HK8.out.mono fun b _ hb => hb.1))
  · rcases HB7.out with h | h
    · exact .inl h
    · exact .inr fun g hg => by have := h g hg; omega
end Go.Proofs.YtcmpjdnbjhkhdaaDoor
