/-
  PROVED HERE: the contract of disk.Names.
-/
import Derived.Test.YtcmpjdnbjhkhdaaDoorDiskAt
import Derived.Test.YtcmpjdnbjhkhdaaDoorShelf3
namespace Go.Proofs.YtcmpjdnbjhkhdaaDoor
set_option linter.unusedSimpArgs false
set_option linter.unusedVariables false
open Go.RowKit

variable {B : Nat} {w w' : World} {A M n : Nat} {f : List UInt8 → Option Value} {lv : Value} {ns : List (List UInt8)}
def sortN (L : List (List UInt8)) : List (List UInt8) := L.mergeSort leB
def DNamesTo (w : World) (L : List (List UInt8)) (e : Ending) (w' : World) : Prop := ∃ v, e = .returned v ∧ OwnS w.heap.size w' v (sortN L) ∧ Later w w'
set_option maxRecDepth 100000 in
theorem disk_names (h : DiskAt B w A M n f lv ns) {L : List (List UInt8)} (hn : L.Nodup) (hL : ∀ x, x ∈ L ↔ (f x).isSome = true) (hb : L.length * 16 ≤ 140737488355328) :
    Calls Tryd.prog 26 #[.pointer (some ⟨A, 0, none⟩)] w (DNamesTo w L) := by
  obtain ⟨D, hown, hperm, hsize⟩ := h.map.keys hn hL
  have HOWN := hid hown; have HP := hid hperm; have HZ := hid hsize; have HB := hid hb
  have c0 := h.c0
  have hlt := h.lt
  clear h hn hL hown hperm hsize hb
  go_enter Tryd.func26, Tryd.ntmps26
  go_wp2_with fail
  refine (callsIn_wide.1 (Tryd.maps_Keys_57 (some M) w)).mono ?_
  rintro e w1 ⟨rfl, rfl⟩
  clear c0
  go_wp2_with fail
  refine (callsIn_wide.1 (Tryd.slices_Sorted_keys_56_57 M n D rawR w HOWN.out (by rw [HZ.out]; have := HB.out; unfold maxLen; omega) (by rw [HZ.out]; exact HB.out))).mono ?_
  rintro e w2 ⟨v, ss, rfl, hS, hrow, -, hbel⟩
  have HS := hid hS; have HR := hid hrow; have HBE := hid hbel
  clear hS hrow hbel
  go_wp2_with fail
  go_ret
  refine ⟨v, rfl, ?_, Later.trans _ _ _ (Later.alloc _ _) HBE.out⟩
  have e1 : ss.mergeSort leB = sortN L := mergeSort_of_perm (HS.out.trans HP.out.symm)
  have hr := HR.out
  have e2 : (ss.mergeSort fun x y => decide (x ≤ y)) = sortN L := e1
  rw [e2] at hr
  have e3 : ss.length = (sortN L).length := by rw [← e1, List.length_mergeSort]
  rw [e3] at hr
  exact ownsRow_base hr (by rw [World.size_alloc]; omega)
end Go.Proofs.YtcmpjdnbjhkhdaaDoor
