/-
  PROVED HERE: '[]byte(s)' in a walk; what is written of a value, in plain Lean. No program of its own.
-/
import Derived.Test.YtbabfibmopfghaaGreatDoorPutLaws
import Derived.Test.YtbabfibmopfghaaGreatDoorApp
import Derived.Laws.IdiomStrings
import Derived.Lib.ItoaNum
import Derived.Lib.AppendIntMem
namespace Go.Proofs.YtbabfibmopfghaaGreatDoor
set_option linter.unusedSimpArgs false
set_option linter.unusedVariables false
open Go Go.RowKit

section
variable {P : Program} {w : World}
theorem wpList_bytes_of {ops : Array Oper} {rest : List Oper} {o : Oper} {a : Act} {Q : Exit → Act → World → Prop} (hgd : o.guard = none) (x : Operand) (src dst e : TypeId)
    (ho : o.op = .convert src dst x) (hs : P.underlying src = some .string) (hd : P.underlying dst = some (.slice e)) (he : P.underlying e = some (.int .u8)) (s : ByteArray) (hx : a.eval x = .string s)
    (h : ∀ c w', Later w w' → w'.heap.size = w.heap.size + 1 → (∀ k (hk : k < s.data.toList.length), w'.cell? ⟨w.heap.size, k, none⟩ = some (.int .u8 ((s.data.toList[k]).toNat : Int))) → wpList P ops Q rest (a.put o.dst (.slice (some ⟨w.heap.size, 0, none⟩) s.size c)) w') :
    wpList P ops Q (o :: rest) a w := by
  refine wpList_plain hgd fun K hK => ?_
  have hr := run_bytes_of_string (P := P) w src dst e s hs hd he
  unfold Oper.wp execOp
  simp only [ho, hx, Sem.run_bind, Sem.run_pure, Result.andThen_ok, hr]
  refine hK _ _ (h _ _ ((Later.drew w).alloc' _) (by simp [World.alloc]) fun k hk => ?_)
  have hsz : w.drew.heap.size = w.heap.size := rfl
  rw [← hsz]
  refine cell_obj (obj_new w.drew _) ?_
  unfold bytesRow
  have hk' : k < s.data.size := by simpa using hk
  rw [Array.getElem?_append_left (by simpa using hk')]
  simp
  exact ⟨s.data[k], by simp [hk'], rfl⟩
end

/-- a hexadecimal digit. -/
def hexD (n : Nat) : UInt8 := UInt8.ofNat (if n < 10 then 48 + n else 87 + n)
def oddB (c : UInt8) : Bool := decide (c.toNat < 32) || (decide (126 < c.toNat) || (decide (c.toNat = 39) || decide (c.toNat = 92)))
def quoteC (c : UInt8) : List UInt8 := if oddB c = true then [92, hexD (c.toNat / 16), hexD (c.toNat % 16)] else [c]
def quoteL (l : List UInt8) : List UInt8 := 39 :: (l.flatMap quoteC ++ [39])
theorem quoteC_len (c : UInt8) : (quoteC c).length ≤ 3 := by unfold quoteC; split <;> simp
theorem flat_len : ∀ l : List UInt8, (l.flatMap quoteC).length ≤ 3 * l.length
  | [] => by simp
  | c :: l => by
    have := flat_len l
    have := quoteC_len c
    simp only [List.flatMap_cons, List.length_append, List.length_cons]
    omega
theorem flat_snoc {l : List UInt8} {k : Nat} (h : k < l.length) : (l.take (k + 1)).flatMap quoteC = (l.take k).flatMap quoteC ++ quoteC l[k] := by
  rw [List.take_succ_eq_append_getElem h, List.flatMap_append, List.flatMap_cons, List.flatMap_nil, List.append_nil]
def StrTo (w : World) (l : List UInt8) (e : Ending) (w' : World) : Prop := e = .returned (.string (strB l)) ∧ Later w w'
theorem ret_str {a b : List UInt8} (h : a = b) : Ending.returned (.string (strB a)) = .returned (.string (strB b)) := by rw [h]
theorem grow_later (w : World) (k : Nat) (os : Array Obj) : Later w (Go.Sort.grow (w.drewN k) os) := Lib.below_grow _ w (Nat.le_refl _) k os
end Go.Proofs.YtbabfibmopfghaaGreatDoor
