/-
  DERIVED: THE SHELF's CONTRACTS AT THIS DUMP, IN PLAIN WORDS (tools/lay-plain.mjs out of 'TrydShelf3.lean', which tools/lay-shelf.mjs wrote): THE SAME DECLARATIONS UNDER THE SAME NAMES: 'import', 'namespace', 'open', 'def', 'theorem' AND NOTHING ELSE: no command of the shelf's: FOR A HAND-IN. Each laying: the table of numbers ('.._ren') and one theorem, a field a fact of the dump's own or the kernel's comparison; each contract: ONE APPLICATION.
-/
import Derived.Shelf.SlIter.Nil
import Derived.Shelf.SortM.Plain
import Derived.Shelf.SortM.SortNone
import Derived.Ground.GgzProg
import Derived.Ground.SlgmProg
import Derived.Test.YtcmpjdnbjhkhdaaDoorProg
namespace Go.Proofs
open Go.Shelf
def Tryd.keys57_ren : Go.Shelf.Ren := ⟨fun | 7 => 57 | 10 => 87 | n => n, fun | 23 => 111 | 26 => 9 | 3 => 45 | 28 => 117 | 0 => 0 | 27 => 116 | 33 => 56 | 4 => 4 | n => n, fun | n => n⟩
theorem Tryd.keys57 : Go.Proofs.SlLaysZ.n7 Tryd.prog Tryd.keys57_ren := {
  mixed := by kernel_rfl
  f7 := ⟨Tryd.f57.name, by decide, Tryd.func57.trans (congrArg some (by kernel_rfl))⟩
  f10 := ⟨Tryd.f87.name, by decide, Tryd.func87.trans (congrArg some (by kernel_rfl))⟩
  t0 := Tryd.underlying0
  a0 := Tryd.isAgg0
  z0 := Tryd.sizeOf0
  v0 := Tryd.zeroValue0
  t4 := Tryd.underlying4
  a4 := Tryd.isAgg4
  z4 := Tryd.sizeOf4
  v4 := Tryd.zeroValue4
  t23 := Tryd.underlying111
  a23 := Tryd.isAgg111
  z23 := Tryd.sizeOf111
  v23 := Tryd.zeroValue111
  t26 := Tryd.underlying9
  a26 := Tryd.isAgg9
  z26 := Tryd.sizeOf9
  v26 := Tryd.zeroValue9
  t27 := Tryd.underlying116
  a27 := Tryd.isAgg116
  z27 := Tryd.sizeOf116
  v27 := Tryd.zeroValue116
  t28 := Tryd.underlying117
  a28 := Tryd.isAgg117
  z28 := Tryd.sizeOf117
  v28 := Tryd.zeroValue117
  t33 := Tryd.underlying56
  a33 := Tryd.isAgg56
  z33 := Tryd.sizeOf56
  v33 := Tryd.zeroValue56 }
def Tryd.sorted56_ren : Go.Shelf.Ren := ⟨fun | 6 => 56 | 8 => 85 | 9 => 86 | 11 => 113 | 13 => 115 | 12 => 114 | 23 => 144 | 24 => 145 | 14 => 135 | 15 => 136 | 16 => 137 | 17 => 138 | 18 => 139 | 19 => 140 | 20 => 141 | 21 => 142 | 22 => 143 | 25 => 168 | 26 => 169 | 27 => 170 | 28 => 171 | 29 => 172 | 30 => 156 | 31 => 180 | n => n, fun | 26 => 9 | 28 => 117 | 24 => 58 | 0 => 0 | 3 => 3 | 37 => 128 | 48 => 239 | 50 => 174 | 4 => 4 | 40 => 232 | 39 => 231 | 45 => 133 | 5 => 5 | 9 => 9 | 51 => 255 | 55 => 259 | 57 => 267 | 58 => 268 | 33 => 56 | n => n, fun | n => n⟩
theorem Tryd.sorted56 : Go.Proofs.SlLaysZ.n6 Tryd.prog Tryd.sorted56_ren := {
  mixed := by kernel_rfl
  f6 := ⟨Tryd.f56.name, by decide, Tryd.func56.trans (congrArg some (by kernel_rfl))⟩
  f8 := ⟨Tryd.f85.name, by decide, Tryd.func85.trans (congrArg some (by kernel_rfl))⟩
  f11 := ⟨Tryd.f113.name, by decide, Tryd.func113.trans (congrArg some (by kernel_rfl))⟩
  t0 := Tryd.underlying0
  a0 := Tryd.isAgg0
  z0 := Tryd.sizeOf0
  v0 := Tryd.zeroValue0
  t24 := Tryd.underlying58
  a24 := Tryd.isAgg58
  z24 := Tryd.sizeOf58
  v24 := Tryd.zeroValue58
  t26 := Tryd.underlying9
  a26 := Tryd.isAgg9
  z26 := Tryd.sizeOf9
  v26 := Tryd.zeroValue9
  t28 := Tryd.underlying117
  a28 := Tryd.isAgg117
  z28 := Tryd.sizeOf117
  v28 := Tryd.zeroValue117
  i26 := by kernel_rfl }
def Tryd.sort86_ren : Go.Shelf.Ren := ⟨fun | 6 => 86 | 8 => 115 | 9 => 114 | 19 => 144 | 20 => 145 | 21 => 135 | 22 => 136 | 23 => 137 | 24 => 138 | 25 => 139 | 26 => 140 | 27 => 141 | 28 => 142 | 29 => 143 | 36 => 168 | 31 => 169 | 32 => 170 | 37 => 171 | 38 => 172 | 39 => 156 | 41 => 180 | n => n, fun | 27 => 58 | 29 => 9 | 3 => 3 | 32 => 128 | 26 => 58 | 0 => 0 | 44 => 239 | 46 => 174 | 4 => 4 | 36 => 232 | 35 => 231 | 41 => 133 | 5 => 5 | 9 => 9 | 53 => 255 | 57 => 259 | 63 => 267 | 64 => 268 | n => n, fun | n => n⟩
theorem Tryd.sort86 : Go.Proofs.SlLaysM.n6 Tryd.prog Tryd.sort86_ren := {
  mixed := by kernel_rfl
  f6 := ⟨Tryd.f86.name, by decide, Tryd.func86.trans (congrArg some (by kernel_rfl))⟩
  f8 := Tryd.func115.trans (congrArg some (by kernel_rfl))
  f9 := ⟨Tryd.f114.name, by decide, Tryd.func114.trans (congrArg some (by kernel_rfl))⟩
  f19 := Tryd.func144.trans (congrArg some (by kernel_rfl))
  f20 := Tryd.func145.trans (congrArg some (by kernel_rfl))
  f21 := ⟨Tryd.f135.name, by decide, Tryd.func135.trans (congrArg some (by kernel_rfl))⟩
  f22 := ⟨Tryd.f136.name, by decide, Tryd.func136.trans (congrArg some (by kernel_rfl))⟩
  f23 := ⟨Tryd.f137.name, by decide, Tryd.func137.trans (congrArg some (by kernel_rfl))⟩
  f24 := ⟨Tryd.f138.name, by decide, Tryd.func138.trans (congrArg some (by kernel_rfl))⟩
  f25 := ⟨Tryd.f139.name, by decide, Tryd.func139.trans (congrArg some (by kernel_rfl))⟩
  f26 := ⟨Tryd.f140.name, by decide, Tryd.func140.trans (congrArg some (by kernel_rfl))⟩
  f27 := ⟨Tryd.f141.name, by decide, Tryd.func141.trans (congrArg some (by kernel_rfl))⟩
  f28 := ⟨Tryd.f142.name, by decide, Tryd.func142.trans (congrArg some (by kernel_rfl))⟩
  f29 := ⟨Tryd.f143.name, by decide, Tryd.func143.trans (congrArg some (by kernel_rfl))⟩
  f31 := Tryd.func169.trans (congrArg some (by kernel_rfl))
  f32 := Tryd.func170.trans (congrArg some (by kernel_rfl))
  f36 := ⟨Tryd.f168.name, by decide, Tryd.func168.trans (congrArg some (by kernel_rfl))⟩
  f37 := ⟨Tryd.f171.name, by decide, Tryd.func171.trans (congrArg some (by kernel_rfl))⟩
  f38 := ⟨Tryd.f172.name, by decide, Tryd.func172.trans (congrArg some (by kernel_rfl))⟩
  f39 := ⟨Tryd.f156.name, by decide, Tryd.func156.trans (congrArg some (by kernel_rfl))⟩
  f41 := ⟨Tryd.f180.name, by decide, Tryd.func180.trans (congrArg some (by kernel_rfl))⟩
  t0 := Tryd.underlying0
  a0 := Tryd.isAgg0
  z0 := Tryd.sizeOf0
  v0 := Tryd.zeroValue0
  t3 := Tryd.underlying3
  a3 := Tryd.isAgg3
  z3 := Tryd.sizeOf3
  v3 := Tryd.zeroValue3
  t4 := Tryd.underlying4
  a4 := Tryd.isAgg4
  z4 := Tryd.sizeOf4
  v4 := Tryd.zeroValue4
  t5 := Tryd.underlying5
  a5 := Tryd.isAgg5
  z5 := Tryd.sizeOf5
  v5 := Tryd.zeroValue5
  t9 := Tryd.underlying9
  a9 := Tryd.isAgg9
  z9 := Tryd.sizeOf9
  v9 := Tryd.zeroValue9
  t26 := Tryd.underlying58
  a26 := Tryd.isAgg58
  z26 := Tryd.sizeOf58
  v26 := Tryd.zeroValue58
  t27 := Tryd.underlying58
  a27 := Tryd.isAgg58
  z27 := Tryd.sizeOf58
  v27 := Tryd.zeroValue58
  t29 := Tryd.underlying9
  a29 := Tryd.isAgg9
  z29 := Tryd.sizeOf9
  v29 := Tryd.zeroValue9
  t32 := Tryd.underlying128
  a32 := Tryd.isAgg128
  z32 := Tryd.sizeOf128
  v32 := Tryd.zeroValue128
  t35 := Tryd.underlying231
  a35 := Tryd.isAgg231
  z35 := Tryd.sizeOf231
  v35 := Tryd.zeroValue231
  t36 := Tryd.underlying232
  a36 := Tryd.isAgg232
  z36 := Tryd.sizeOf232
  v36 := Tryd.zeroValue232
  t41 := Tryd.underlying133
  a41 := Tryd.isAgg133
  z41 := Tryd.sizeOf133
  v41 := Tryd.zeroValue133
  t44 := Tryd.underlying239
  a44 := Tryd.isAgg239
  z44 := Tryd.sizeOf239
  v44 := Tryd.zeroValue239
  t46 := Tryd.underlying174
  a46 := Tryd.isAgg174
  z46 := Tryd.sizeOf174
  v46 := Tryd.zeroValue174
  t53 := Tryd.underlying255
  a53 := Tryd.isAgg255
  z53 := Tryd.sizeOf255
  v53 := Tryd.zeroValue255
  t57 := Tryd.underlying259
  a57 := Tryd.isAgg259
  z57 := Tryd.sizeOf259
  v57 := Tryd.zeroValue259
  t63 := Tryd.underlying267
  a63 := Tryd.isAgg267
  z63 := Tryd.sizeOf267
  v63 := Tryd.zeroValue267
  t64 := Tryd.underlying268
  a64 := Tryd.isAgg268
  z64 := Tryd.sizeOf268
  v64 := Tryd.zeroValue268 }
open Go.RowKit Go.Maps Go.Sort Go.Shelf

/-- slices.Sort's two contracts at this dump, at the fence that asks nothing. -/
theorem Tryd.sorts56 (m : Nat) : AnyZ.SortsIn Tryd.prog Tryd.sorted56_ren Fence.wide m :=
  ⟨fun blk off cap ss W hH hblk hsz => callsIn_wide.2 (AnyM.slices_Sort_string Tryd.sort86 blk off cap ss W hH hblk hsz),
   fun p cap W => callsIn_wide.2 (AnyM.slices_Sort_string_none Tryd.sort86 p cap W)⟩

/-- **maps.Keys[map[string][]byte,string,[]byte], at whatever map, the nil one too:** a function value over ONE NEW BLOCK, which holds the map. -/
theorem Tryd.maps_Keys_57 (mb : Option Nat) (W : World) : CallsIn Fence.wide 5 Tryd.prog 57 #[.map mb] W fun e w' => e = .returned (.func (.func 87) #[] #[.pointer (some ⟨W.heap.size, 0, none⟩)]) ∧ w' = W.alloc (.cells #[.map mb] 111) :=
  AnyZ.keys_in Tryd.keys57 Fence.wide 5 trivial rfl mb W

set_option maxHeartbeats 1000000 in
/-- **slices.Sorted[string] AT WHAT maps.Keys[map[string][]byte,string,[]byte] HANDED BACK FOR A MAP THAT IS NOT nil** ('w': the world AHEAD of maps.Keys' call): A NEW SLICE THAT HOLDS THE MAP's KEYS, SORTED; nil just where it has none; nothing that lay before has turned. -/
theorem Tryd.slices_Sorted_keys_56_57 {H : Type} (b nn : Nat) (D0 : DataW H) (R : Value → Option (DataW H × List MemPlace)) (w : World) (hown : w.ownsMap Tryd.prog 9 R b nn D0) (hmax : Maps.size D0 ≤ maxLen) (hbytes : Maps.size D0 * 16 ≤ 140737488355328) :
    CallsIn Fence.wide 5 Tryd.prog 56 #[.func (.func 87) #[] #[.pointer (some ⟨w.heap.size, 0, none⟩)]] (w.alloc (.cells #[.map (some b)] 111)) fun e w' => ∃ (v : Value) (ss : List (List UInt8)), e = .returned v ∧ ss.Perm (strKeys D0) ∧
      w'.ownsRow (w.alloc (.cells #[.map (some b)] 111)).heap.size 9 1 v ss.length ((ss.mergeSort (fun x y => decide (x ≤ y))).map encStr) ∧ (v = .slice none 0 0 ↔ ss = []) ∧ Below (w.alloc (.cells #[.map (some b)] 111)).heap.size (w.alloc (.cells #[.map (some b)] 111)) w' := by
  have hbl := hown.lt
  have hseq : SeqGives Fence.wide 2 Tryd.prog 87 #[.pointer (some ⟨w.heap.size, 0, none⟩)] encStr (fun ss => ss.Perm (strKeys D0)) (Maps.size D0) (w.alloc (.cells #[.map (some b)] 111)) :=
    AnyZ.keys_gives (ρ := Tryd.keys57_ren) { Tryd.keys57 with } Fence.wide _ trivial rfl (by omega) w.heap.size b nn D0 _ (by simp) (by simp) (by
      obtain ⟨es, clock, hb, Ft, hs, hD⟩ := hown
      exact ⟨es, clock, (Below.heap_alloc _ _ b hbl).trans hb, Ft, hs, hD⟩)
  exact AnyZ.sorted_in Tryd.sorted56 Fence.wide 5 trivial trivial trivial trivial rfl (by omega) (Tryd.sorts56 _) (enters_of Tryd.func86 (by kernel_rfl) rfl) 87 #[.pointer (some ⟨w.heap.size, 0, none⟩)] trivial (enters_of Tryd.func87 (by kernel_rfl) rfl) _ _ hmax hbytes _ hseq

set_option maxHeartbeats 1000000 in
/-- **.. AND FOR THE nil MAP: nil.** -/
theorem Tryd.slices_Sorted_keys_nil_56_57 (w : World) :
    CallsIn Fence.wide 5 Tryd.prog 56 #[.func (.func 87) #[] #[.pointer (some ⟨w.heap.size, 0, none⟩)]] (w.alloc (.cells #[.map none] 111)) fun e w' => ∃ (v : Value) (ss : List (List UInt8)), e = .returned v ∧ ss = [] ∧
      w'.ownsRow (w.alloc (.cells #[.map none] 111)).heap.size 9 1 v ss.length ((ss.mergeSort (fun x y => decide (x ≤ y))).map encStr) ∧ (v = .slice none 0 0 ↔ ss = []) ∧ Below (w.alloc (.cells #[.map none] 111)).heap.size (w.alloc (.cells #[.map none] 111)) w' := by
  have hseq : SeqGives Fence.wide 2 Tryd.prog 87 #[.pointer (some ⟨w.heap.size, 0, none⟩)] encStr (fun ss : List (List UInt8) => ss = []) 0 (w.alloc (.cells #[.map none] 111)) :=
    AnyZ.keys_gives_nil (ρ := Tryd.keys57_ren) { Tryd.keys57 with } Fence.wide _ trivial rfl w.heap.size _ (by simp) (by simp)
  exact AnyZ.sorted_in Tryd.sorted56 Fence.wide 5 trivial trivial trivial trivial rfl (by omega) (Tryd.sorts56 _) (enters_of Tryd.func86 (by kernel_rfl) rfl) 87 #[.pointer (some ⟨w.heap.size, 0, none⟩)] trivial (enters_of Tryd.func87 (by kernel_rfl) rfl) _ 0 (Nat.zero_le _) (by omega) _ hseq


end Go.Proofs
