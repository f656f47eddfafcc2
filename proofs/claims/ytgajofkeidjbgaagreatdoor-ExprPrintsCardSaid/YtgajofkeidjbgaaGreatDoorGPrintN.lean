/-
  PROVED HERE: a call of print through the interface of a tree.
  PROVED HERE: expr's writing of trees: what it leaves as it was; bracket; literals and names.
-/
import Derived.Test.YtgajofkeidjbgaaGreatDoorGParTok
import Derived.Test.YtgajofkeidjbgaaGreatDoorGLevelOf
import Derived.Test.YtgajofkeidjbgaaGreatDoorExprDoc
import Derived.Handy
namespace Go.Proofs.YtgajofkeidjbgaaGreatDoor
set_option linter.unusedSimpArgs false
set_option linter.unusedVariables false
open Go.RowKit

/-- the method that writes a tree. -/
def printF : Ex → FuncId
  | .lit _ => 210
  | .name _ _ => 211
  | .un _ _ _ => 191
  | .bin _ _ _ _ => 197
  | .call _ _ _ => 212
def nodeT : Ex → TypeId
  | .lit _ => 161
  | .name _ _ => 164
  | .un _ _ _ => 137
  | .bin _ _ _ _ => 140
  | .call _ _ _ => 168
theorem NodeIn.ptr {S : Nat → Prop} {w : World} {v : Value} {x : Ex} (h : NodeIn S w v x) : ∃ N, v = .iface (nodeT x) (.pointer (some ⟨N, 0, none⟩)) := by
  cases x <;> (unfold NodeIn at h)
  · obtain ⟨B, -, h, -⟩ := h; exact ⟨B, h⟩
  · obtain ⟨B, -, h, -⟩ := h; exact ⟨B, h⟩
  · obtain ⟨B, u, -, h, -⟩ := h; exact ⟨B, h⟩
  · obtain ⟨B, u1, u2, -, h, -⟩ := h; exact ⟨B, h⟩
  · obtain ⟨B, vs, a, -, h, -⟩ := h; exact ⟨B, h⟩
theorem print_lit (N : Nat) (u1 u2 : Value) (w : World) : (callMethod (.iface 161 (.pointer (some ⟨N, 0, none⟩))) "streamwright/expr.print" #[u1, u2]).run Tryz.prog w = .ok (.enter 210 #[.pointer (some ⟨N, 0, none⟩), u1, u2]) w := by kernel_rfl
theorem print_name (N : Nat) (u1 u2 : Value) (w : World) : (callMethod (.iface 164 (.pointer (some ⟨N, 0, none⟩))) "streamwright/expr.print" #[u1, u2]).run Tryz.prog w = .ok (.enter 211 #[.pointer (some ⟨N, 0, none⟩), u1, u2]) w := by kernel_rfl
theorem print_un (N : Nat) (u1 u2 : Value) (w : World) : (callMethod (.iface 137 (.pointer (some ⟨N, 0, none⟩))) "streamwright/expr.print" #[u1, u2]).run Tryz.prog w = .ok (.enter 191 #[.pointer (some ⟨N, 0, none⟩), u1, u2]) w := by kernel_rfl
theorem print_bin (N : Nat) (u1 u2 : Value) (w : World) : (callMethod (.iface 140 (.pointer (some ⟨N, 0, none⟩))) "streamwright/expr.print" #[u1, u2]).run Tryz.prog w = .ok (.enter 197 #[.pointer (some ⟨N, 0, none⟩), u1, u2]) w := by kernel_rfl
theorem print_call (N : Nat) (u1 u2 : Value) (w : World) : (callMethod (.iface 168 (.pointer (some ⟨N, 0, none⟩))) "streamwright/expr.print" #[u1, u2]).run Tryz.prog w = .ok (.enter 212 #[.pointer (some ⟨N, 0, none⟩), u1, u2]) w := by kernel_rfl
theorem print_at (x : Ex) (N : Nat) (u1 u2 : Value) (w : World) : (callMethod (.iface (nodeT x) (.pointer (some ⟨N, 0, none⟩))) "streamwright/expr.print" #[u1, u2]).run Tryz.prog w = .ok (.enter (printF x) #[.pointer (some ⟨N, 0, none⟩), u1, u2]) w := by
  cases x
  · exact print_lit N u1 u2 w
  · exact print_name N u1 u2 w
  · exact print_un N u1 u2 w
  · exact print_bin N u1 u2 w
  · exact print_call N u1 u2 w
theorem oper_print {o : Oper} {a : Act} {w : World} {K : Act → World → Prop} {Q : Exit → Act → World → Prop} (i x1 x2 : Operand)
    (ho : o.op = .call { callee := .invoke i "streamwright/expr.print", args := #[x1, x2], argTypes := #[54, 3] })
    {x : Ex} {N : Nat} {u1 u2 : Value} (hi : a.eval i = .iface (nodeT x) (.pointer (some ⟨N, 0, none⟩))) (h1 : a.eval x1 = u1) (h2 : a.eval x2 = u2)
    (hc : Calls Tryz.prog (printF x) #[.pointer (some ⟨N, 0, none⟩), u1, u2] w fun e w' => e = .returned (.tuple #[]) ∧ K (a.put o.dst (.tuple #[])) w') : Oper.wp Tryz.prog o a w K Q := by
  unfold Oper.wp execOp
  simp only [ho, resolve, invoke, Sem.run_bind, Sem.run_pure, Result.andThen_ok, List.map_toArray, List.map_cons, List.map_nil, hi, h1, h2]
  have h := print_at x N u1 u2 w
  show Oper.upon _ o a K Q ((callMethod (.iface (nodeT x) (.pointer (some ⟨N, 0, none⟩))) "streamwright/expr.print" #[u1, u2]).run Tryz.prog w)
  rw [h]
  simp only [Oper.upon]
  refine hc.mono ?_
  rintro e w' ⟨rfl, hK⟩
  exact hK
end Go.Proofs.YtgajofkeidjbgaaGreatDoor
namespace Go.Proofs.YtgajofkeidjbgaaGreatDoor
set_option linter.unusedSimpArgs false
set_option linter.unusedVariables false
open Go.RowKit

/-- but the builder and rows of bytes all is as it was. -/
def Fr (B b : Nat) (w w' : World) : Prop := Below B w w' ∧ Lib.OthersKept 5 (some b) w w'
theorem Fr.refl (B b : Nat) (w : World) : Fr B b w w := ⟨Below.refl _ _, Lib.OthersKept.refl _ _ _⟩
theorem Fr.trans {B b : Nat} {x y z : World} (h : Fr B b x y) (k : Fr B b y z) : Fr B b x z := ⟨h.1.trans k.1, h.2.trans k.2⟩
theorem Fr.later {B b : Nat} {w w' : World} (h : Later w w') (hB : B ≤ w.heap.size) : Fr B b w w' := ⟨Below.mono h hB, (Lib.OthersKept.refl _ _ _).below h⟩
theorem Fr.obj {B b : Nat} {w w' : World} (h : Fr B b w w') {k : Nat} {cs : Array Value} {T : TypeId} {f : Nat × Nat} (hk : w.heap[k]? = some (.cells cs T f)) (hb : k ≠ b) (hT : T ≠ 5) : w'.heap[k]? = some (.cells cs T f) :=
  h.2 k _ hk (fun e => hb (Option.some.inj e)) fun c fz e => by injection e with _ e; exact hT e
theorem Fr.size {B b : Nat} {w w' : World} (h : Fr B b w w') : w.heap.size ≤ w'.heap.size := h.1.size
theorem Wrote.fr {B b : Nat} {l s : List UInt8} {w w' : World} (h : Wrote B b l s w w') : Fr B b w w' := ⟨h.2.1, h.2.2⟩
theorem Wrote.at_ {B b : Nat} {l s : List UInt8} {w w' : World} (h : Wrote B b l s w w') : BdAt w' B b (l ++ s) := h.1
theorem Wrote.of {B b : Nat} {l s t : List UInt8} {w w' w2 : World} (h : Wrote B b l s w w') (k : Wrote B b (l ++ s) t w' w2) : Wrote B b l (s ++ t) w w2 := by
  refine ⟨?_, h.2.1.trans k.2.1, h.2.2.trans k.2.2⟩
  have := k.1
  rw [List.append_assoc] at this
  exact this
theorem Wrote.before {B b : Nat} {l s : List UInt8} {w0 w w' : World} (h : Wrote B b l s w w') (k : Fr B b w0 w) : Wrote B b l s w0 w' := ⟨h.1, k.1.trans h.2.1, k.2.trans h.2.2⟩
theorem Wrote.none {B b : Nat} {l : List UInt8} {w : World} (h : BdAt w B b l) : Wrote B b l [] w w := ⟨by rw [List.append_nil]; exact h, Below.refl _ _, Lib.OthersKept.refl _ _ _⟩
theorem BdAt.later {B b : Nat} {l : List UInt8} {w w' : World} (h : BdAt w B b l) (k : Later w w') : BdAt w' B b l := by
  have hat : ∀ p, Lib.BuilderAtF 57 5 B b p (Lib.byteCells l) w → Lib.BuilderAtF 57 5 B b p (Lib.byteCells l) w' := by
    rintro p ⟨hB, v, hbk, hown, hne⟩
    refine ⟨hB, v, k.obj hbk, ⟨hown.1, hown.2.imp id ?_⟩, hne⟩
    rintro ⟨g, cap, cur, fz, h1, h2, h3, h4⟩
    exact ⟨g, cap, cur, fz, h1, h2, k.obj h3, h4⟩
  exact h.imp (hat _) (hat _)
theorem BdAt.base {B b : Nat} {l : List UInt8} {w : World} (h : BdAt w B b l) : B ≤ b ∧ b < w.heap.size := by
  rcases h with ⟨hB, v, hbk, -⟩ | ⟨hB, v, hbk, -⟩ <;> exact ⟨hB, obj_lt hbk⟩
/-- the table that numbers are written by lies below the builder. -/
def EnvB (B : Nat) (w : World) : Prop := ∃ w0, Below w0.heap.size w0 w ∧ w0.heap.size ≤ B ∧ PowTab w0
theorem EnvB.fr {B b : Nat} {w w' : World} (h : EnvB B w) (k : Fr B b w w') : EnvB B w' := by
  obtain ⟨w0, h1, h2, h3⟩ := h
  exact ⟨w0, h1.trans (k.1.mono h2), h2, h3⟩
theorem EnvB.pow {B : Nat} {w : World} (h : EnvB B w) : PowTab w := by
  obtain ⟨w0, h1, h2, h3⟩ := h
  exact PowTab.later h3 h1
theorem ArgsIn.fr {B b : Nat} {w w' : World} {a : Value} {vs : List Value} (h : ArgsIn (fun g => g ≠ b) w a vs) (k : Fr B b w w') : ArgsIn (fun g => g ≠ b) w' a vs := by
  obtain ⟨⟨h1, h2⟩, h3⟩ := h
  refine ⟨⟨h1, h2.imp id ?_⟩, h3⟩
  rintro ⟨g, cap, cur, hv, hb, hg, hr⟩
  exact ⟨g, cap, cur, hv, hb, k.obj hg (h3 g (by rw [hv]; rfl)) (by decide), hr⟩
mutual
theorem NodeIn.fr {B b : Nat} {w w' : World} (k : Fr B b w w') : ∀ (v : Value) (x : Ex), NodeIn (fun g => g ≠ b) w v x → NodeIn (fun g => g ≠ b) w' v x
  | v, .lit x, h => by
    unfold NodeIn at h ⊢
    obtain ⟨N, h1, h2, h3⟩ := h
    exact ⟨N, h1, h2, k.obj h3 h1 (by decide)⟩
  | v, .name s p, h => by
    unfold NodeIn at h ⊢
    obtain ⟨N, h1, h2, h3⟩ := h
    exact ⟨N, h1, h2, k.obj h3 h1 (by decide)⟩
  | v, .un neg p x, h => by
    unfold NodeIn at h ⊢
    obtain ⟨N, u, h1, h2, h3, h4⟩ := h
    exact ⟨N, u, h1, h2, k.obj h3 h1 (by decide), NodeIn.fr k u x h4⟩
  | v, .bin o p x y, h => by
    unfold NodeIn at h ⊢
    obtain ⟨N, u1, u2, h1, h2, h3, h4, h5⟩ := h
    exact ⟨N, u1, u2, h1, h2, k.obj h3 h1 (by decide), NodeIn.fr k u1 x h4, NodeIn.fr k u2 y h5⟩
  | v, .call f p l, h => by
    unfold NodeIn at h ⊢
    obtain ⟨N, vs, a, h1, h2, h3, h4, h5⟩ := h
    exact ⟨N, vs, a, h1, h2, k.obj h3 h1 (by decide), h4.fr k, NodesIn.fr k vs l h5⟩
theorem NodesIn.fr {B b : Nat} {w w' : World} (k : Fr B b w w') : ∀ (vs : List Value) (l : List Ex), NodesIn (fun g => g ≠ b) w vs l → NodesIn (fun g => g ≠ b) w' vs l
  | [], [], h => by unfold NodesIn; trivial
  | v :: vs, x :: l, h => by
    unfold NodesIn at h ⊢
    exact ⟨NodeIn.fr k v x h.1, NodesIn.fr k vs l h.2⟩
  | [], _ :: _, h => by unfold NodesIn at h; exact h.elim
  | _ :: _, [], h => by unfold NodesIn at h; exact h.elim
end
mutual
/-- an upper bound of what is written of a tree. -/
def costP : Ex → Nat
  | .lit v => (showV v).length
  | .name s _ => s.length
  | .un _ _ x => 6 + costP x
  | .bin o _ x y => o.length + 4 + costP x + costP y
  | .call f _ l => f.length + 2 + costsP l
def costsP : List Ex → Nat
  | [] => 0
  | x :: l => 2 + costP x + costsP l
end
theorem brk_len (b : Bool) (l : List UInt8) : (brk b l).length ≤ l.length + 2 := by
  unfold brk
  split <;> simp
mutual
theorem print_len : ∀ (x : Ex) (L : Nat), (printP x L).length ≤ costP x
  | .lit v, L => by unfold printP costP; exact Nat.le_refl _
  | .name s p, L => by unfold printP costP; exact Nat.le_refl _
  | .un neg p x, L => by
    unfold printP costP
    refine Nat.le_trans (brk_len _ _) ?_
    have := print_len x (if neg = true then 5 else 2)
    rw [List.length_append]
    have h : (if neg = true then ([45] : List UInt8) else [110, 111, 116, 32]).length ≤ 4 := by cases neg <;> decide
    omega
  | .bin o p x y, L => by
    unfold printP costP
    refine Nat.le_trans (brk_len _ _) ?_
    have h1 := print_len x (if levelO o = 2 then 3 else levelO o)
    have h2 := print_len y (levelO o + 1)
    simp only [List.length_append, List.length_cons, List.length_nil]
    omega
  | .call f p l, L => by
    unfold printP costP
    have := prints_len l false
    simp only [List.length_append, List.length_cons, List.length_nil]
    omega
theorem prints_len : ∀ (l : List Ex) (m : Bool), (printsP m l).length ≤ costsP l
  | [], m => by unfold printsP costsP; exact Nat.le_refl _
  | x :: l, m => by
    unfold printsP costsP
    have h1 := print_len x 0
    have h2 := prints_len l true
    have h : (if m = true then ([44, 32] : List UInt8) else []).length ≤ 2 := by cases m <;> decide
    simp only [List.length_append]
    omega
end
def brkO (b : Bool) : List UInt8 := if b = true then [40] else []
/-- what writing a tree answers. -/
def PrTo (B b : Nat) (l s : List UInt8) (w : World) (e : Ending) (w' : World) : Prop := e = .returned (.tuple #[]) ∧ Wrote B b l s w w'
set_option maxRecDepth 100000 in
set_option maxHeartbeats 2000000 in
theorem bracket_any (F : FuncId) (hent : ∀ args w, (callFunc F args).run Tryz.prog w = .ok (.enter F args) w) (caps : Array Value) (nd : Bool) (B b : Nat) (l s : List UInt8) (w : World) (h : BdAt w B b l) (hB : B ≤ w.heap.size) (hlen : l.length + s.length + 2 ≤ 140737488355328)
    (hF : ∀ w1, Fr B b w w1 → BdAt w1 B b (l ++ brkO nd) → Calls Tryz.prog F caps w1 (PrTo B b (l ++ brkO nd) s w1)) :
    Calls Tryz.prog 192 #[.pointer (some ⟨b, 0, none⟩), .bool nd, .func (.func F) #[] caps] w (PrTo B b l (brk nd s) w) := by
  have HB := hid h; have HF := hid hF; have HBW := hid hB; have HL := hid hlen
  clear h hF hB hlen
  cases nd with
  | false =>
    go_enter Tryz.func192, Tryz.ntmps192
    go_wp2_with fail
    refine (HF.out w (Fr.refl _ _ _) (by rw [show brkO false = [] from rfl, List.append_nil]; exact HB.out)).mono ?_
    rintro e w1 ⟨rfl, hw⟩
    rw [show brkO false = [] from rfl, List.append_nil] at hw
    have HW := hid hw
    clear hw
    go_wp2_with fail
    exact bodyPost_end (results_none rfl _ _ _) rfl ⟨rfl, HW.out⟩
  | true =>
    go_enter Tryz.func192, Tryz.ntmps192
    go_wp2_with fail
    refine (write_any B b l [40] w HB.out (by have := HL.out; simp only [List.length_cons, List.length_nil]; omega) HBW.out).mono ?_
    rintro e w1 ⟨rfl, hw⟩
    have HW := hid hw
    clear hw
    go_wp2_with fail
    refine (HF.out w1 HW.out.fr HW.out.at_).mono ?_
    rintro e w2 ⟨rfl, hw⟩
    rw [show brkO true = [40] from rfl] at hw
    have HW2 := hid hw
    clear hw
    go_wp2_with fail
    refine (write_any B b (l ++ [40] ++ s) [41] w2 HW2.out.at_ (by have := HL.out; simp only [List.length_cons, List.length_nil, List.length_append]; omega) (by have := HBW.out; have := HW.out.fr.size; have := HW2.out.fr.size; omega)).mono ?_
    rintro e w3 ⟨rfl, hw⟩
    have HW3 := hid hw
    clear hw
    go_wp2_with fail
    refine bodyPost_end (results_none rfl _ _ _) rfl ⟨rfl, ?_⟩
    have h := (HW.out.of HW2.out).of (by rw [← List.append_assoc]; exact HW3.out)
    unfold brk
    rw [if_pos rfl]
    have e : [40] ++ s ++ [41] = 40 :: (s ++ [41]) := by simp
    rw [← e]
    exact h
end Go.Proofs.YtgajofkeidjbgaaGreatDoor
