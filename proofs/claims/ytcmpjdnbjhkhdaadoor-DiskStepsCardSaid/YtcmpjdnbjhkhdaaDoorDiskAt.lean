/-
  PROVED HERE: the contracts of disk.New, Sync, Loose, Read and Write.
-/
import Derived.Test.YtcmpjdnbjhkhdaaDoorMapRaw
import Derived.Test.YtcmpjdnbjhkhdaaDoorStrOwn
import Derived.Test.YtcmpjdnbjhkhdaaDoorByteClone
import Derived.Test.YtcmpjdnbjhkhdaaDoorLexS
import Derived.Test.YtcmpjdnbjhkhdaaDoorAppX
import Derived.Test.YtcmpjdnbjhkhdaaDoorErr
namespace Go.Proofs.YtcmpjdnbjhkhdaaDoor
set_option linter.unusedSimpArgs false
set_option linter.unusedVariables false
open Go.RowKit

theorem zeroBs (w : World) : (zeroValue 45).run Tryd.prog w = .ok (.slice none 0 0) w := by kernel_rfl
/-- a disk: its object, its map, the names that can be lost. -/
structure DiskAt (B : Nat) (w : World) (A M n : Nat) (f : List UInt8 → Option Value) (lv : Value) (ns : List (List UInt8)) : Prop where
  obj : w.heap[A]? = some (.cells #[.map (some M), lv] 113 (0, 0))
  map : MapAt w M n f
  own : OwnS B w lv ns
  geA : B ≤ A
  geM : B ≤ M
  ne : A ≠ M
  lvA : some A ≠ lv.ownBlock
  lvM : some M ≠ lv.ownBlock
variable {B : Nat} {w w' : World} {A M n : Nat} {f : List UInt8 → Option Value} {lv : Value} {ns : List (List UInt8)}
theorem DiskAt.later (h : DiskAt B w A M n f lv ns) (k : Later w w') : DiskAt B w' A M n f lv ns := ⟨k.obj h.obj, h.map.later k, h.own.later k, h.geA, h.geM, h.ne, h.lvA, h.lvM⟩
theorem DiskAt.keep {S : Nat → Prop} (h : DiskAt B w A M n f lv ns) (k : Keeps S w w') (hA : S A) (hM : S M) (hl : ∀ g, lv.ownBlock = some g → S g) : DiskAt B w' A M n f lv ns :=
  ⟨k.obj hA h.obj, h.map.kept k hM, h.own.keep k hl, h.geA, h.geM, h.ne, h.lvA, h.lvM⟩
theorem DiskAt.c0 (h : DiskAt B w A M n f lv ns) : w.cell? ⟨A, 0, none⟩ = some (.map (some M)) := cell_obj (i := 0) h.obj rfl
theorem DiskAt.c1 (h : DiskAt B w A M n f lv ns) : w.cell? ⟨A, 1, none⟩ = some lv := cell_obj (i := 1) h.obj rfl
theorem DiskAt.lt (h : DiskAt B w A M n f lv ns) : A < w.heap.size := (Array.getElem?_eq_some_iff.1 h.obj).1
theorem disk_new (w : World) : Calls Tryd.prog 16 #[] w fun e w' => ∃ A M, e = .returned (.pointer (some ⟨A, 0, none⟩)) ∧ DiskAt w.heap.size w' A M 0 (fun _ => none) nilS [] ∧ Later w w' := by
  have hmm := @run_makeMap Tryd.prog
  go_enter Tryd.func16, Tryd.ntmps16
  go_wp2_with fail
  go_ret
  have hM := MapAt.made w
  have hO := obj_new (w.alloc (.map #[] 0)) (.cells #[.map (some w.heap.size), .slice none 0 0] 113 (0, 0))
  rw [World.size_alloc] at hO
  refine ⟨_, w.heap.size, rfl, ⟨hO, hM.later (Later.alloc _ _), OwnS.nil _ _, ?_, Nat.le_refl _, ?_, (fun h => by cases h), (fun h => by cases h)⟩, (Later.alloc _ _).alloc' _⟩
  · omega
  · omega
theorem disk_sync (h : DiskAt B w A M n f lv ns) : Calls Tryd.prog 19 #[.pointer (some ⟨A, 0, none⟩)] w fun e w' => e = .returned (.tuple #[]) ∧ DiskAt B w' A M n f nilS [] ∧ Keeps (fun b => b ≠ A) w w' := by
  have H := hid h
  have c1 := h.c1
  have hlt := h.lt
  have f1 := free_obj (i := 1) h.obj
  clear h
  go_enter Tryd.func19, Tryd.ntmps19
  go_wp2_with fail
  refine bodyPost_end (v := .tuple #[]) (by simp [results, Tryd.results19, go_sem]) rfl ⟨rfl, ?_, (Keeps.refl (fun b => b ≠ A) w).setCell (p := ⟨A, 1, none⟩) (.inl fun h => h rfl) _⟩
  have hk := (Keeps.refl (fun b => b ≠ A) w).setCell (p := ⟨A, 1, none⟩) (.inl fun h => h rfl) nilS
  exact ⟨obj_setCell (i := 1) H.out.obj nilS, H.out.map.kept hk (fun e => H.out.ne e.symm), OwnS.nil _ _, H.out.geA, H.out.geM, H.out.ne, (fun h => by cases h), (fun h => by cases h)⟩
theorem disk_loose (h : DiskAt B w A M n f lv ns) : Calls Tryd.prog 25 #[.pointer (some ⟨A, 0, none⟩)] w fun e w' => e = .returned (.int .i64 ns.length) ∧ w' = w := by
  obtain ⟨a, c, rfl⟩ := h.own.slice
  have c1 := h.c1
  have hlt := h.lt
  clear h
  go_enter Tryd.func25, Tryd.ntmps25
  go_wp2_with fail
  go_ret
  exact ⟨rfl, rfl⟩
def DReadTo (w : World) (o : Option (List UInt8)) (e : Ending) (w' : World) : Prop := ∃ v, e = .returned (.tuple #[v, .bool o.isSome]) ∧ w'.ownsRow w.heap.size 5 1 v (o.getD []).length (byteCells (o.getD [])) ∧ Later w w'
theorem disk_read (h : DiskAt B w A M n f lv ns) (k : List UInt8) (hk : k.length ≤ maxLen) (o : Option (List UInt8)) (ho : o.isSome = (f k).isSome) (hb : IsBytes w ((f k).getD nilS) (o.getD [])) (hl : (o.getD []).length ≤ 140737488355328) :
    Calls Tryd.prog 22 #[.pointer (some ⟨A, 0, none⟩), .string (strB k)] w (DReadTo w o) := by
  have H := hid h; have HK := hid hk; have HB := hid hb; have HL := hid hl
  have c0 := h.c0
  have hlt := h.lt
  have HSO := hid ho
  clear h hk hb hl ho
  go_enter Tryd.func22, Tryd.ntmps22
  go_wp2_with (at_lookup; refine wpList_map_ok Tryd.underlying111 zeroBs rfl _ _ rfl rfl H.out.map k HK.out rfl ?_)
  rw [← HSO.out]
  generalize (f k).getD nilS = u at HB ⊢
  go_wp2_with fail
  refine (clone_bytes (o.getD []) u w HB.out HL.out).mono ?_
  rintro e w1 ⟨v, rfl, hv, hL⟩
  have HV := hid hv; have HL1 := hid hL
  clear hv hL
  go_wp2_with fail
  go_ret2
  exact ⟨v, rfl, HV.out, HL1.out⟩
end Go.Proofs.YtcmpjdnbjhkhdaaDoor
