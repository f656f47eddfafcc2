/-
  PROVED HERE: a region whose order is drawn, with a condition on the world that must hold only till one operation (which writes what the condition speaks of) comes up. No program of its own.
  PROVED HERE: the contract of expr's call, out of that of binary at fewer tokens.
-/
import Derived.Deep.RegionHeld
import Derived.Test.YtgajofkeidjbgaaGreatDoorGParBin
import Derived.Test.YtgajofkeidjbgaaGreatDoorGLexPlain
namespace Go.Proofs.YtgajofkeidjbgaaGreatDoor
set_option linter.unusedSimpArgs false
set_option linter.unusedVariables false
open Go

section
variable {P : Program} {ops : Array Oper} {Q : Exit → Act → World → Prop} {md : Region.Mode} {S : World → Prop} {k : Nat}

/-- whatever order is picked from here on; 'S' holds behind every operation that comes up ahead of operation 'k'. -/
def wpAnyK (P : Program) (md : Region.Mode) (ops : Array Oper) (Q : Exit → Act → World → Prop) (k : Nat) (S : World → Prop) : Nat → Array Bool → Act → World → Prop
  | 0, listed, a, w => Region.ready md ops listed = [] ∧ Q .normal a w
  | fuel + 1, listed, a, w =>
    (Region.ready md ops listed = [] → Q .normal a w) ∧
    ∀ i ∈ Region.ready md ops listed, wpOp P ops Q i (fun a' w' => (listed.getD k true = false → i ≠ k → S w') ∧ wpAnyK P md ops Q k S fuel (listed.setIfInBounds i true) a' w') a w
theorem wpAny_of_k : ∀ (fuel : Nat) (listed : Array Bool) (a : Act) (w : World), wpAnyK P md ops Q k S fuel listed a w → wpAny P md ops Q fuel listed a w
  | 0, _, _, _, h => h
  | fuel + 1, _, _, _, h => ⟨h.1, fun i hi => wpOp_mono (fun a' w' h' => wpAny_of_k fuel _ a' w' h'.2) (h.2 i hi)⟩
theorem wpAnyK_first {i : Nat} {oi : Oper} {v : Value} (hi : ops[i]? = some oi) (hsel : ∀ (j : Nat) (o : Oper) cs b, ops[j]? = some o → o.op ≠ .select cs b)
    (hQ : ∀ c a w, Q (.panic c) (a.put oi.dst v) w → Q (.panic c) a w) (hik : i ≠ k) (hwait : ∀ listed, k ∈ Region.ready md ops listed → listed.getD i true = true) :
    ∀ (fuel : Nat) (listed : Array Bool) (a : Act) (w : World),
      (∀ j oj, ops[j]? = some oj → j ≠ i → listed.getD j true = false → (∀ e ∈ oj.after, Region.binds md e = true → e.on ≠ i) → oi.apart ops oj = true) →
      i ∈ Region.ready md ops listed → listed.getD k true = false → YieldsIf P ops S oi v a → S w →
      wpAnyK P md ops Q k S fuel (listed.setIfInBounds i true) (a.put oi.dst v) w → wpAnyK P md ops Q k S (fuel + 1) listed a w := by
  intro fuel
  induction fuel with
  | zero =>
    intro listed a w _ hr hlk hy hS H
    refine ⟨fun h => (by rw [h] at hr; cases hr), fun j hj => ?_⟩
    by_cases hji : j = i
    · subst hji; exact hy.wpOp hi hS ⟨fun _ _ => hS, H⟩
    · have := ready_mono hj hji
      rw [H.1] at this
      cases this
  | succ fuel ih =>
    intro listed a w hfree hr hlk hy hS H
    refine ⟨fun h => (by rw [h] at hr; cases hr), fun j hj => ?_⟩
    by_cases hji : j = i
    · subst hji; exact hy.wpOp hi hS ⟨fun _ _ => hS, H⟩
    · have hiun : listed.getD i true = false := by
        have h0 := (mem_ready.1 hr).1
        simpa using h0
      have hjk : j ≠ k := fun e => by
        subst e
        rw [hwait listed hj] at hiun
        cases hiun
      have h1 := H.2 j (ready_mono hj hji)
      obtain ⟨hjun, oj, hoj, hall⟩ := mem_ready.1 hj
      have hnot : ∀ e ∈ oj.after, Region.binds md e = true → e.on ≠ i := fun e he hb heq => by
        have h1 := hall e he hb
        have h0 := (mem_ready.1 hr).1
        rw [heq] at h1
        rcases Nat.lt_or_ge i listed.size with h' | h'
        · simp [h'] at h0 h1; rw [h0] at h1; cases h1
        · simp [Array.getElem?_eq_none h'] at h1
      have h2 := wpOp_putIf hoj (hfree j oj hoj hji hjun hnot) (fun cs b => hsel i oi cs b hi) (fun cs b => hsel j oj cs b hoj) hQ hy h1
      have hfree' : ∀ k ok, ops[k]? = some ok → k ≠ i → (listed.setIfInBounds j true).getD k true = false →
          (∀ e ∈ ok.after, Region.binds md e = true → e.on ≠ i) → oi.apart ops ok = true := fun k ok hk hki hun hno => by
        refine hfree k ok hk hki ?_ hno
        by_cases hjk : j = k
        · subst hjk; exact hjun
        · rw [getD_set_ne true hjk] at hun; exact hun
      have hlk1 : (listed.setIfInBounds i true).getD k true = false := by rw [getD_set_ne true hik]; exact hlk
      have hlk2 : (listed.setIfInBounds j true).getD k true = false := by rw [getD_set_ne true hjk]; exact hlk
      refine wpOp_mono (fun a' w' h3 => ⟨fun _ _ => h3.2.1 hlk1 hjk, ih (listed.setIfInBounds j true) a' w' hfree' (ready_mono hr (Ne.symm hji)) hlk2 h3.1 (h3.2.1 hlk1 hjk) ?_⟩) h2
      rw [Array.setIfInBounds_comm _ _ hji]
      exact h3.2.2
/-- operation 'k' waits for operation 'i'. -/
def waitsB (md : Region.Mode) (ops : Array Oper) (k i : Nat) : Bool := match ops[k]? with
  | none => false
  | some o => o.after.any fun e => Region.binds md e && e.on == i
theorem waits_of {i : Nat} (h : waitsB md ops k i = true) (listed : Array Bool) (hk : k ∈ Region.ready md ops listed) : listed.getD i true = true := by
  obtain ⟨-, ok, hok, hall⟩ := mem_ready.1 hk
  unfold waitsB at h
  rw [hok] at h
  simp only [Array.any_eq_true] at h
  obtain ⟨j, hj, he⟩ := h
  simp only [Bool.and_eq_true, beq_iff_eq] at he
  have h1 := hall _ (Array.getElem_mem hj) he.1
  rw [he.2] at h1
  rcases Nat.lt_or_ge i listed.size with h' | h'
  · simp [h'] at h1 ⊢; exact h1
  · simp [Array.getElem?_eq_none h'] at h1
theorem wpAnyK_take {i : Nat} {oi : Oper} {v : Value} {fuel : Nat} {listed : Array Bool} {a : Act} {w : World} (hi : ops[i]? = some oi)
    (hs : Region.noSelect ops = true) (hf : Region.free md ops listed i = true) (hr : (Region.ready md ops listed).contains i = true) (hw : (waitsB md ops k i && (i != k && !listed.getD k true)) = true)
    (hQ : ∀ c a w, Q (.panic c) (a.put oi.dst v) w → Q (.panic c) a w) (hy : YieldsIf P ops S oi v a) (hS : S w)
    (h : wpAnyK P md ops Q k S fuel (listed.setIfInBounds i true) (a.put oi.dst v) w) : wpAnyK P md ops Q k S (fuel + 1) listed a w := by
  simp only [Bool.and_eq_true, bne_iff_ne, ne_eq, Bool.not_eq_true'] at hw
  exact wpAnyK_first hi (Region.noSelect_spec hs) hQ hw.2.1 (waits_of hw.1) fuel listed a w (Region.free_spec hi hf) (by simpa using hr) hw.2.2 hy hS h
def AllReadyK (P : Program) (md : Region.Mode) (ops : Array Oper) (Q : Exit → Act → World → Prop) (k : Nat) (S : World → Prop) (fuel : Nat) (listed : Array Bool) (a : Act) (w : World) (rs : List Nat) : Prop :=
  ∀ i ∈ rs, wpOp P ops Q i (fun a' w' => (listed.getD k true = false → i ≠ k → S w') ∧ wpAnyK P md ops Q k S fuel (listed.setIfInBounds i true) a' w') a w
theorem AllReadyK.nil {fuel : Nat} {listed : Array Bool} {a : Act} {w : World} : AllReadyK P md ops Q k S fuel listed a w [] := fun _ h => by cases h
theorem AllReadyK.cons {fuel : Nat} {listed : Array Bool} {a : Act} {w : World} {i : Nat} {o : Oper} {rs : List Nat} (ho : ops[i]? = some o)
    (h : ∀ K' : Act → World → Prop, Shut (∀ a w, S w → (S w → wpAnyK P md ops Q k S fuel (listed.setIfInBounds i true) a w) → K' a w) → if Region.wanted o (yielded ops a.tmps) = true then Oper.wp P o a w K' Q else K' (a.put o.dst undef) w)
    (hs : AllReadyK P md ops Q k S fuel listed a w rs) : AllReadyK P md ops Q k S fuel listed a w (i :: rs) := fun j hj => by
  rcases List.mem_cons.1 hj with rfl | hj
  · exact wpOp_step ho (fun K' hK => h K' (fun a w hS hW => hK a w ⟨fun _ _ => hS, hW hS⟩))
  · exact hs j hj
/-- operation 'k' itself, and those behind it: the condition is let go of. -/
theorem AllReadyK.late {fuel : Nat} {listed : Array Bool} {a : Act} {w : World} {i : Nat} {o : Oper} {rs : List Nat} (ho : ops[i]? = some o) (hl : (i == k || listed.getD k true) = true)
    (h : ∀ K' : Act → World → Prop, Shut (∀ a w, wpAnyK P md ops Q k S fuel (listed.setIfInBounds i true) a w → K' a w) → if Region.wanted o (yielded ops a.tmps) = true then Oper.wp P o a w K' Q else K' (a.put o.dst undef) w)
    (hs : AllReadyK P md ops Q k S fuel listed a w rs) : AllReadyK P md ops Q k S fuel listed a w (i :: rs) := fun j hj => by
  rcases List.mem_cons.1 hj with rfl | hj
  · refine wpOp_step ho (fun K' hK => h K' (fun a w hW => hK a w ⟨fun h1 h2 => ?_, hW⟩))
    simp only [Bool.or_eq_true, beq_iff_eq] at hl
    rcases hl with hl | hl
    · exact absurd hl h2
    · rw [hl] at h1; cases h1
  · exact hs j hj
theorem wpAnyK_ready {rs : List Nat} {fuel : Nat} {listed : Array Bool} {a : Act} {w : World} (hr : Region.ready md ops listed = rs) (hne : rs ≠ [])
    (h : AllReadyK P md ops Q k S fuel listed a w rs) : wpAnyK P md ops Q k S (fuel + 1) listed a w := ⟨fun h0 => absurd (hr ▸ h0) hne, hr ▸ h⟩
theorem wpAnyK_done {listed : Array Bool} {a : Act} {w : World} (hr : Region.ready md ops listed = []) (h : Q .normal a w) : ∀ fuel, wpAnyK P md ops Q k S fuel listed a w
  | 0 => ⟨hr, h⟩
  | _ + 1 => ⟨fun _ => h, by rw [hr]; simp⟩
theorem wp_region_k {id : Nat} {a : Act} {w : World} (k : Nat) (S : World → Prop) (hm : P.follows .mixedOrders = true) (hS : S w.drew)
    (h : S w.drew → wpAnyK P .any ops Q k S ops.size (Array.replicate ops.size false) a w.drew) : (Code.region id ops true).wp P Q a w :=
  wp_region_any hm (wpAny_of_k _ _ _ _ (h hS))
end
end Go.Proofs.YtgajofkeidjbgaaGreatDoor
namespace Go.Proofs.YtgajofkeidjbgaaGreatDoor
set_option linter.unusedSimpArgs false
set_option linter.unusedVariables false
open Go.RowKit

attribute [local go_sem high] tok_f0 tok_f1 tok_f2
section
variable {P : Program} {w : World}
/-- an append as one operation of a region. -/
theorem oper_append {o : Oper} {a : Act} {K : Act → World → Prop} {Q : Exit → Act → World → Prop} (s x : Operand) (t : TypeId)
    (ho : o.op = .call { callee := .builtin .append, args := #[s, x], argTypes := #[t, t] })
    (e : TypeId) (size bytes : Nat) (ht : P.underlying t = some (.slice e)) (hI : ElemInfo P e size bytes)
    {base : Nat} {v : Value} {n : Nat} {xs : List Value} (hs : a.eval s = v) (hown : w.ownsRow base e size v n xs)
    {b m c : Nat} {news : List Value} {T : TypeId} {f : Nat × Nat} (hx : a.eval x = .slice (some ⟨b, 0, none⟩) m c) (hsrc : w.heap[b]? = some (.cells news.toArray T f)) (hl : news.length = m * size) (h1 : ∀ u ∈ news, u.oneCell' = true)
    (hbytes : (n + m) * bytes ≤ 140737488355328) (h63 : n + m ≤ maxLen) (hbase : base ≤ w.heap.size)
    (h : ∀ v' w', AppX w base e size v n m (xs ++ news) v' w' → K (a.put o.dst v') w') : Oper.wp P o a w K Q := by
  obtain ⟨i, z, hi, hz, h3, h4, h5, h6⟩ := hI.ex
  have hnews : ∀ j u, news[j]? = some u → w.cell? ((⟨b, 0, none⟩ : Addr).add j) = some u := by
    intro j u hu
    rw [add_none rfl]
    exact cell_obj hsrc (by simpa using hu)
  obtain ⟨v', w', hr, k2, k3, _⟩ := run_append_own (P := P) w base t o.type e i z size bytes ht hi hz h3 h4 h5 h6 v n xs hown ⟨b, 0, none⟩ m c news hl hnews h1 h63 hbytes hbase
  have hb := append_x ht hi hz h3 h4 hown hl hnews h1 h63 hbytes hr k3
  unfold Oper.wp execOp
  simp only [ho, resolve, invoke, builtin, Sem.run_bind, Sem.run_pure, Result.andThen_ok, List.map_toArray, List.map_cons, List.map_nil, hs, hx, hr]
  exact h v' w' ⟨k2, hb⟩
end
theorem own_zero {w : World} {B s n : Nat} {e : TypeId} {v : Value} {xs : List Value} (h : w.ownsRow B e s v n xs) : w.ownsRow 0 e s v n xs := by
  obtain ⟨h1, h2⟩ := h
  refine ⟨h1, h2.imp id ?_⟩
  rintro ⟨g, cap, cur, hv, hb, hr⟩
  exact ⟨g, cap, cur, hv, Nat.zero_le _, hr⟩
theorem nodes_len {S : Nat → Prop} {w : World} : ∀ {vs : List Value} {l : List Ex}, NodesIn S w vs l → vs.length = l.length
  | [], [], _ => rfl
  | v :: vs, x :: l, h => by
    unfold NodesIn at h
    simp [nodes_len h.2]
  | [], _ :: _, h => by unfold NodesIn at h; exact h.elim
  | _ :: _, [], h => by unfold NodesIn at h; exact h.elim
theorem nodes_add {S : Nat → Prop} {w : World} {v : Value} {x : Ex} (hx : NodeIn S w v x) : ∀ {vs : List Value} {l : List Ex}, NodesIn S w vs l → NodesIn S w (vs ++ [v]) (l ++ [x])
  | [], [], _ => by show NodesIn S w [v] [x]; unfold NodesIn; exact ⟨hx, by unfold NodesIn; trivial⟩
  | u :: vs, y :: l, h => by
    unfold NodesIn at h
    show NodesIn S w (u :: (vs ++ [v])) (y :: (l ++ [x]))
    unfold NodesIn
    exact ⟨h.1, nodes_add hx h.2⟩
  | [], _ :: _, h => by unfold NodesIn at h; exact h.elim
  | _ :: _, [], h => by unfold NodesIn at h; exact h.elim
theorem own_keeps {S : Nat → Prop} {w w' : World} {B s n : Nat} {e : TypeId} {v : Value} {xs : List Value} (h : w.ownsRow B e s v n xs) (k : Keeps S w w') (hs : ∀ g, v.ownBlock = some g → S g) : w'.ownsRow B e s v n xs := by
  obtain ⟨h1, h2⟩ := h
  refine ⟨h1, h2.imp id ?_⟩
  rintro ⟨g, cap, cur, hv, hb, hg, hr⟩
  exact ⟨g, cap, cur, hv, hb, k.obj (hs g (by rw [hv]; rfl)) hg, hr⟩
theorem AppX.keeps {w w' : World} {B : Nat} {e : TypeId} {s n m : Nat} {v v' : Value} {xs : List Value} (h : AppX w B e s v n m xs v' w') : Keeps (fun b => v.ownBlock ≠ some b) w w' := by
  rcases h.kind with ⟨g, cap, hv, -, hk⟩ | ⟨hL, -⟩
  · exact hk.mono fun b _ hb e => hb (by rw [hv, e]; rfl)
  · exact hL.keeps _
theorem Keeps.under {S : Nat → Prop} {a b c : World} (h : Keeps S a b) (k : Keeps (fun x => x < a.heap.size) b c) : Keeps S a c :=
  ⟨k.os.trans h.os, k.tape.trans h.tape, k.output.trans h.output, Nat.le_trans h.size k.size, fun i hi hs => (k.block i (Nat.lt_of_lt_of_le hi h.size) hi).trans (h.block i hi hs)⟩
/-- an element appended to a call's arguments, and stored into the call. -/
theorem call_add {w w6 w7 : World} {P d C : Nat} {f : List UInt8} {p : Nat} {acc : List Ex} {vs : List Value} {a v' xv : Value} {x : Ex} {l : List Tok} (hPS : P < w.heap.size) (hCP : C ≠ P ∧ w.heap.size ≤ C)
    (hown : w6.ownsRow w.heap.size 59 1 a vs.length vs) (hC : w6.heap[C]? = some (.cells #[.string (strB f), .int .i64 (p : Int), a] 174 (0, 0)))
    (hns : NodesIn (fun b => b ≠ P ∧ w.heap.size ≤ b ∧ b ≠ C ∧ a.ownBlock ≠ some b) w6 vs acc) (hn : NodeIn (fun b => b ≠ P ∧ w.heap.size ≤ b ∧ b ≠ C ∧ a.ownBlock ≠ some b) w6 xv x) (hp : PAt w6 P d l) (hk : Keeps (fun b => b ≠ P) w w6)
    (hA : AppX w6 w.heap.size 59 1 a vs.length 1 (vs ++ [xv]) v' w7) :
    w7.heap[C]? = some (.cells #[.string (strB f), .int .i64 (p : Int), a] 174 (0, 0)) ∧
    (w7.setCell ⟨C, 2, none⟩ v').heap[C]? = some (.cells #[.string (strB f), .int .i64 (p : Int), v'] 174 (0, 0)) ∧ (w7.setCell ⟨C, 2, none⟩ v').ownsRow w.heap.size 59 1 v' (vs ++ [xv]).length (vs ++ [xv]) ∧
    NodesIn (fun b => b ≠ P ∧ w.heap.size ≤ b ∧ b ≠ C ∧ v'.ownBlock ≠ some b) (w7.setCell ⟨C, 2, none⟩ v') (vs ++ [xv]) (acc ++ [x]) ∧ PAt (w7.setCell ⟨C, 2, none⟩ v') P d l ∧ Keeps (fun b => b ≠ P) w (w7.setCell ⟨C, 2, none⟩ v') := by
  have hk7 := hA.keeps
  have hCa : a.ownBlock ≠ some C := own_ne hown hC (by decide)
  have hC7 := hk7.obj hCa hC
  have hCv : v'.ownBlock ≠ some C := own_ne hA.own hC7 (by decide)
  have hk8 : Keeps (fun b => b ≠ C) w7 (w7.setCell ⟨C, 2, none⟩ v') := (Keeps.refl _ w7).setCell (p := ⟨C, 2, none⟩) (.inl fun h => h rfl) _
  have hPa : a.ownBlock ≠ some P := fun e => by have := (hown.lt P e).1; omega
  have hp7 : PAt w7 P d l := hp.kept hk7 hPa fun g cs f _ hg => own_ne hown hg (by decide)
  have hT : ∀ g cs f, g ≠ P → w7.heap[g]? = some (.cells cs 102 f) → g ≠ C := fun g cs f _ hg e => by
    subst e
    rw [hC7] at hg
    injection hg with hg
    injection hg with _ hg
    exact absurd hg (by decide)
  have hall : NodesIn (fun b => b ≠ P ∧ w.heap.size ≤ b ∧ b ≠ C ∧ a.ownBlock ≠ some b ∧ v'.ownBlock ≠ some b) w6 (vs ++ [xv]) (acc ++ [x]) := by
    refine NodesIn.mono (fun b hb h => ⟨h.1, h.2.1, h.2.2.1, h.2.2.2, fun e => ?_⟩) _ _ (nodes_add hn hns)
    rcases hA.kind with ⟨g, cap, hv, hv', -⟩ | ⟨-, hnew⟩
    · rw [hv'] at e
      have : g = b := Option.some.inj e
      exact h.2.2.2 (by rw [hv, ← this]; rfl)
    · have := hnew b e
      omega
  refine ⟨hC7, obj_setCell (i := 2) hC7 v', ?_, ?_, hp7.kept hk8 (Ne.symm hCP.1) hT, (hk.under (hk7.mono fun b _ hb e => ?_)).under (hk8.mono fun b _ hb e => ?_)⟩
  · have h := own_set (p := ⟨C, 2, none⟩) hA.own hCv v'
    have e : (vs ++ [xv]).length = vs.length + 1 := by simp
    rw [e]
    exact h
  · refine NodesIn.mono (fun b _ h => ⟨h.1, h.2.1, h.2.2.1, h.2.2.2.2⟩) _ _ (NodesIn.kept hk8 (fun b h => h.2.2.1) _ _ (NodesIn.kept hk7 (fun b h => h.2.2.2.1) _ _ hall))
  · have := (hown.lt b e).1
    omega
  · have := hCP.2
    omega
/-- what the loop of 'call' has at its head. -/
def CallRel (w : World) (P d C : Nat) (f : List UInt8) (p : Nat) (l0 : List Tok) (wx : World) : Prop :=
  ∃ (acc : List Ex) (vs : List Value) (a : Value) (l' : List Tok), wx.heap[C]? = some (.cells #[.string (strB f), .int .i64 (p : Int), a] 174 (0, 0)) ∧ wx.ownsRow w.heap.size 59 1 a vs.length vs ∧
    NodesIn (fun b => b ≠ P ∧ w.heap.size ≤ b ∧ b ≠ C ∧ a.ownBlock ≠ some b) wx vs acc ∧ PAt wx P d l' ∧ EndL l' ∧ vs.length + l'.length ≤ l0.length ∧ (∀ s, Par true (.args f p acc) d l' s → Par true (.args f p []) d l0 s) ∧ Keeps (fun b => b ≠ P) w wx
set_option maxRecDepth 100000 in
set_option maxHeartbeats 4000000 in
theorem call_any (P d : Nat) (ft : Tok) (t : Tok) (l0 : List Tok) (w : World) (h : PAt w P d (t :: l0)) (hl : EndL (t :: l0)) (ho : isW t openW = true) (hd : d ≤ 12) (hlen : l0.length ≤ 1048576)
    (IHB : ∀ l' w1, Keeps (fun b => b ≠ P) w w1 → l'.length ≤ l0.length → PAt w1 P d l' → EndL l' → Calls Tryz.prog 39 #[.pointer (some ⟨P, 0, none⟩), .int .i64 0] w1 (POut w1 P d l' (Par true (.bin 0) d l'))) :
    Calls Tryz.prog 117 #[.pointer (some ⟨P, 0, none⟩), ft.v] w (POut w P d (t :: l0) (Par true (.args ft.t ft.p []) d l0)) := by
  have HIB := hid IHB; have HD := hid hd; have HLEN := hid hlen; have HO := hid ho
  obtain ⟨t', r', htr, htok, hend⟩ := hl.cons
  obtain ⟨rfl, rfl⟩ := List.cons.inj htr
  have HEL0 : Hid (EndL l0) := hid (hend (sign_k htok (by decide) ho))
  have HP := hid h
  have hPs : P < w.heap.size := by obtain ⟨v, h1, -⟩ := h; exact (Array.getElem?_eq_some_iff.1 h1).1
  have HPS := hid hPs
  clear IHB hd hl htok hend h hPs hlen ho htr
  unfold Tok.v
  go_enter Tryz.func117, Tryz.ntmps117
  go_wp2_with fail
  have HLW := hid (Later.alloc w (.cells #[.int .u8 (ft.k.toNat : Int), .string (strB ft.t), .int .i64 (ft.p : Int)] 102))
  have hf := obj_new w (.cells #[.int .u8 (ft.k.toNat : Int), .string (strB ft.t), .int .i64 (ft.p : Int)] 102)
  refine (must_any P d t l0 openW _ (HP.out.later HLW.out)).mono ?_
  rintro e w1 ⟨hk1, hm1⟩
  rw [if_pos HO.out] at hm1
  obtain ⟨rfl, hp1⟩ := hm1
  have HK1 := hid ((HLW.out.keeps (fun b => b ≠ P)).trans hk1)
  have HP1 := hid hp1
  have hf1 := hk1.obj (Nat.ne_of_gt HPS.out) hf
  have f0 := cell_obj (i := 0) hf1 rfl
  have f1 := cell_obj (i := 1) hf1 rfl
  have f2 := cell_obj (i := 2) hf1 rfl
  have hlt := cell_lt f0
  clear hk1 hp1 hf
  go_upto_region 3 with (fail)
  obtain ⟨C, hC⟩ : ∃ C, C = w1.heap.size := ⟨_, rfl⟩
  obtain ⟨w2, hw2⟩ : ∃ w2, w2 = w1.alloc (.cells #[.string (strB ft.t), .int .i64 (ft.p : Int), .slice none 0 0] 174) := ⟨_, rfl⟩
  have hC2 : w2.heap[C]? = some (.cells #[.string (strB ft.t), .int .i64 (ft.p : Int), .slice none 0 0] 174 (0, 0)) := by rw [hw2, hC]; exact obj_new _ _
  have hL2 : Later w1 w2 := hw2 ▸ Later.alloc _ _
  have HCP : Hid (C ≠ P ∧ w.heap.size ≤ C) := hid ⟨by have := HPS.out; have := HK1.out.size; omega, by have := HK1.out.size; omega⟩
  have HREL : Hid (CallRel w P d C ft.t ft.p l0 w2) := hid ⟨[], [], .slice none 0 0, l0, hC2, ⟨by simp, .inl ⟨rfl, rfl⟩⟩, by unfold NodesIn; trivial, HP1.out.later hL2, HEL0.out, by simp, fun s hs => hs, HK1.out.trans (hL2.keeps _)⟩
  rw [← hw2, ← hC]
  clear hw2 hC hC2 hL2 hf1 f0 f1 f2 hlt HP1
  obtain ⟨R1, hR1⟩ : ∃ RR_ : (Nat → Value) → World → Prop, RR_ = (fun us wx => CallRel w P d C ft.t ft.p l0 wx) := ⟨_, rfl⟩
  obtain ⟨mu1, hmu1⟩ : ∃ mu : (Nat → Value) → World → Nat, mu = (fun _ wx => toksLen wx P) := ⟨_, rfl⟩
  have HR1 := hid hR1; have Hmu1 := hid hmu1; clear hR1 hmu1
  refine wp_loop_frame' [false, false, false, false, false, false, false, false, false, false, false, false, false, false, true, true, true, true, true, true, true, true, true, true, true, true, true, true, true, true, true, true, true, true, true, true] R1 _ mu1 HR1.out ?_ ?_
  · exact HREL.out
  clear HREL
  intro us1 wx hrel
  obtain hrel := hrel
  simp only [frameOf, Nat.reduceAdd]
  obtain ⟨acc, vs, a, l', hCx, hown, hns, hp, he, hlen, hpar, hk⟩ := hrel
  obtain ⟨t2, r2, rfl, htk2, hen2⟩ := he.cons
  have HOWN := hid hown; have HNS := hid hns; have HP2 := hid hp; have HE2 := hid he; have HLN := hid hlen; have HPAR := hid hpar; have HK := hid hk; have HTK2 := hid htk2; have HEN2 := hid hen2
  have hsh : ∃ ao cap, a = .slice ao vs.length cap := by
    rcases hown.2 with ⟨hv, h0⟩ | ⟨g, cap, cur, hv, _⟩
    · exact ⟨none, 0, by rw [hv, h0]⟩
    · exact ⟨_, _, hv⟩
  clear hown hns hp he hlen hpar hk htk2 hen2
  go_wp2_with fail
  refine (is_any P d t2 r2 closeW _ HP2.out).mono ?_
  rintro e w3 ⟨rfl, hk3, hp3⟩
  have HK3 := hid hk3
  have hC3 := hk3.obj HCP.out.1 hCx
  clear hk3 hCx
  cases hw : isW t2 closeW with
  | true =>
    rw [if_pos hw] at hp3
    have HP3 := hid hp3; have HW := hid hw; have HC3 := hid hC3
    clear hp3 hw hC3
    go_wp2_with fail
    refine bodyPost_ret (results_tmp rfl _ _ _) rfl ⟨HK.out.trans HK3.out, .ok (.call ft.t ft.p acc, r2), HPAR.out _ (par_args_close HW.out), .iface 168 (.pointer (some ⟨C, 0, none⟩)), rfl, ?_, HP3.out, HEN2.out (sign_k HTK2.out (by decide) HW.out), ?_⟩
    · unfold NodeIn
      have hS : ∀ b, (b ≠ P ∧ w.heap.size ≤ b ∧ b ≠ C ∧ a.ownBlock ≠ some b) → (b ≠ P ∧ w.heap.size ≤ b) := fun b h => ⟨h.1, h.2.1⟩
      refine ⟨C, vs, a, HCP.out, rfl, HC3.out, ArgsIn.kept (S := fun b => b ≠ P ∧ w.heap.size ≤ b) ⟨own_zero HOWN.out, fun g hg => ?_⟩ HK3.out fun _ h => h.1, NodesIn.mono (fun b _ h => hS b h) _ _ (NodesIn.kept HK3.out (fun _ h => h.1) _ _ HNS.out)⟩
      have h1 := (HOWN.out.lt g hg).1
      have h2 := HPS.out
      exact ⟨by omega, h1⟩
    · have h1 := HLN.out
      simp only [List.length_cons] at h1 ⊢
      omega
  | false =>
    rw [if_neg (by rw [hw]; simp)] at hp3
    have HP3 := hid hp3; have HW := hid hw
    have c2 : w3.cell? ⟨C, 2, none⟩ = some a := cell_obj (i := 2) hC3 rfl
    have HC3 := hid hC3
    have hlc := cell_lt c2
    obtain ⟨ao, cap, ha⟩ := hsh
    have HA := hid ha
    rw [ha] at c2
    clear hp3 hw ha
    clear hC3
    have HVL := hid (nodes_len HNS.out)
    go_upto_if 22 with (fail)
    obtain ⟨R2, hR2⟩ : ∃ RR_ : (Nat → Value) → World → Prop, RR_ = (fun us wy => Keeps (fun b => b ≠ P) w3 wy ∧ PAt wy P d (if acc = [] then t2 :: r2 else r2) ∧ (acc = [] ∨ isW t2 commaW = true)) := ⟨_, rfl⟩
    have HR2 := hid hR2; clear hR2
    refine wp_cut_frame' [false, false, false, false, false, false, false, false, false, false, false, false, false, false, false, false, false, false, false, false, false, false, true, true, true] R2 _ HR2.out ?_ ?_
    · by_cases h0 : acc = []
      · have hv0 : vs.length = 0 := by rw [HVL.out, h0]; rfl
        have HV0 := hid hv0
        have H0 := hid h0
        have hvi : ¬ (0 : Int) < vs.length := by omega
        clear h0 hv0
        go_wp2_with fail
        refine Meet.mk' HR2.out rfl ?_
        refine ⟨Keeps.refl _ _, ?_, .inl H0.out⟩
        rw [if_pos H0.out]
        exact HP3.out
      · have HN0 := hid h0
        have hvp : 0 < vs.length := by
          rw [HVL.out]
          exact List.length_pos_iff.2 h0
        have hvi : (0 : Int) < vs.length := by omega
        clear h0
        go_wp2_with fail
        refine (must_any P d t2 r2 commaW _ HP3.out).mono ?_
        rintro e w4 ⟨hk4, hm4⟩
        have HK4 := hid hk4
        cases hcm : isW t2 commaW with
        | true =>
          rw [if_pos hcm] at hm4
          obtain ⟨rfl, hp4⟩ := hm4
          have HP4 := hid hp4; have HCM := hid hcm
          clear hk4 hp4 hcm
          go_wp2_with fail
          refine Meet.mk' HR2.out rfl ?_
          refine ⟨HK4.out, ?_, .inr HCM.out⟩
          rw [if_neg HN0.out]
          exact HP4.out
        | false =>
          rw [if_neg (by rw [hcm]; simp)] at hm4
          have HCM := hid hcm
          unfold Fails at hm4
          subst hm4
          simp only [Exit.then, Exit.inBlock]
          refine ⟨rfl, HK.out.trans (HK3.out.trans HK4.out), .error (1, t2.p), HPAR.out _ (par_args_bad HW.out HN0.out HCM.out), rfl⟩
    intro us2 wy hrel
    obtain ⟨hky, hpy, hcm⟩ := hrel
    simp only [frameOf, Nat.reduceAdd]
    have HKY := hid hky; have HPY := hid hpy; have HCM := hid hcm
    have hCy := hky.obj HCP.out.1 HC3.out
    have c2 : wy.cell? ⟨C, 2, none⟩ = some (.slice ao vs.length cap) := (cell_obj (i := 2) hCy rfl : wy.cell? ⟨C, 2, none⟩ = some a).trans (by rw [HA.out])
    clear hky hpy hcm
    go_upto_region 6 with (fail)
    have HCY := hid hCy
    have HELQ : Hid (EndL (if acc = [] then t2 :: r2 else r2)) := hid (by
      by_cases h0 : acc = []
      · rw [if_pos h0]; exact HE2.out
      · rw [if_neg h0]
        exact HEN2.out (sign_k HTK2.out (by decide) (HCM.out.resolve_left h0)))
    have HLQ : Hid ((if acc = [] then t2 :: r2 else r2).length ≤ r2.length + 1) := hid (by split <;> simp)
    obtain ⟨lq, hlq⟩ : ∃ lq, lq = (if acc = [] then t2 :: r2 else r2) := ⟨_, rfl⟩
    have HQ := hid hlq
    rw [← hlq] at HELQ HLQ HPY
    clear hlq hCy
    have hly : C < wy.heap.size := cell_lt c2
    refine wp_region_k 11 (fun wz => wz.cell? ⟨C, 2, none⟩ = some (.slice ao vs.length cap)) (by kernel_rfl) ((Later.drew wy).cell c2) (fun hS => ?_)
    refine wpAnyK_take (i := 0) (v := .pointer (some ⟨C, 0, none⟩)) rfl (by kernel_rfl) (by kernel_rfl) (by kernel_rfl) (by kernel_rfl) (fun _ _ _ h => h) (Or.inl ⟨by rfl, ?_⟩) hS ?_
    · intro w hS
      clear hS
      go_simp
    refine wpAnyK_take (i := 1) (v := .pointer (some ⟨C, 0, none⟩)) rfl (by kernel_rfl) (by kernel_rfl) (by kernel_rfl) (by kernel_rfl) (fun _ _ _ h => h) (Or.inl ⟨by rfl, ?_⟩) hS ?_
    · intro w hS
      clear hS
      go_simp
    try simp only [Act.put, List.setIfInBounds_toArray, List.set]
    refine wpAnyK_take (i := 2) (v := .pointer (some ⟨C, 0, none⟩)) rfl (by kernel_rfl) (by kernel_rfl) (by kernel_rfl) (by kernel_rfl) (fun _ _ _ h => h) (Or.inl ⟨by rfl, ?_⟩) hS ?_
    · intro w hS
      have := cell_lt hS
      go_simp
    try simp only [Act.put, List.setIfInBounds_toArray, List.set]
    refine wpAnyK_take (i := 3) (v := .pointer (some ⟨C, 2, none⟩)) rfl (by kernel_rfl) (by kernel_rfl) (by kernel_rfl) (by kernel_rfl) (fun _ _ _ h => h) (Or.inl ⟨by rfl, ?_⟩) hS ?_
    · intro w hS
      have := cell_lt hS
      go_simp
    try simp only [Act.put, List.setIfInBounds_toArray, List.set]
    refine wpAnyK_take (i := 4) (v := .slice ao vs.length cap) rfl (by kernel_rfl) (by kernel_rfl) (by kernel_rfl) (by kernel_rfl) (fun _ _ _ h => h) (Or.inl ⟨by rfl, ?_⟩) hS ?_
    · intro w hS
      go_simp
    refine wpAnyK_take (i := 5) (v := .pointer (some ⟨P, 0, none⟩)) rfl (by kernel_rfl) (by kernel_rfl) (by kernel_rfl) (by kernel_rfl) (fun _ _ _ h => h) (Or.inl ⟨by rfl, ?_⟩) hS ?_
    · intro w hS
      clear hS
      go_simp
    try simp only [Act.put, List.setIfInBounds_toArray, List.set]
    refine wpAnyK_ready (rs := [6]) (by kernel_rfl) (by simp) (AllReadyK.cons rfl (fun K hK => ?_) AllReadyK.nil)
    go_simp
    have HS := hid hS
    have HKD := hid (HK.out.trans (HK3.out.trans (HKY.out.trans ((Later.drew wy).keeps _))))
    clear hS c2
    refine (HIB.out lq wy.drew HKD.out (by have h1 := HLQ.out; have h2 := HLN.out; simp only [List.length_cons] at h2; omega) (HPY.out.later (Later.drew wy)) HELQ.out).mono ?_
    rintro e w5 ⟨hk5, rs, hr, hm⟩
    have HR : Hid (Par true (.bin 0) d (if acc = [] then t2 :: r2 else r2) rs) := hid (by rw [← HQ.out]; exact hr)
    cases rs with
    | error f =>
      simp only at hm
      unfold Fails at hm
      subst hm
      exact ⟨rfl, HKD.out.trans hk5, .error f, HPAR.out _ (par_args_err HW.out HCM.out HR.out), rfl⟩
    | ok z =>
      obtain ⟨zv, rfl, hzn, hzp, hze, hzl⟩ := hm
      have HZN := hid hzn; have HZP := hid hzp; have HZE := hid hze; have HZL := hid hzl
      obtain ⟨zT, zB, rfl⟩ := HZN.out.shape
      have hS5 := hk5.cell (p := ⟨C, 2, none⟩) HCP.out.1 HS.out
      have HK5 := hid hk5
      clear hr hzn hzp hze hzl hk5
      refine hK.out _ _ hS5 (fun hS => ?_)
      clear hK K hS5
      try simp only [Act.put, List.setIfInBounds_toArray, List.set]
      refine wpAnyK_ready (rs := [7]) (by kernel_rfl) (by simp) (AllReadyK.cons rfl (fun K hK => ?_) AllReadyK.nil)
      go_simp
      obtain ⟨G, hG⟩ : ∃ G, G = w5.heap.size := ⟨_, rfl⟩
      obtain ⟨w6, hw6⟩ : ∃ w6, w6 = w5.alloc (.cells #[.iface zT (.pointer (some ⟨zB, 0, none⟩))] 59) := ⟨_, rfl⟩
      have hG6 : w6.heap[G]? = some (.cells [Value.iface zT (.pointer (some ⟨zB, 0, none⟩))].toArray 59 (0, 0)) := by rw [hw6, hG]; exact obj_new _ _
      have hL6 : Later w5 w6 := hw6 ▸ Later.alloc _ _
      rw [← hw6, ← hG]
      refine hK.out _ _ (hL6.cell hS) (fun hS => ?_)
      clear hK K
      have HW6 := hid hw6; have HL6 := hid hL6
      have HK6 := hid (HKD.out.trans (HK5.out.trans (hL6.keeps _)))
      have HC6 := hid (hL6.obj (HK5.out.obj HCP.out.1 ((Later.drew wy).obj HCY.out)))
      have hgP : ∀ g, a.ownBlock = some g → g ≠ P ∧ g < wx.heap.size := fun g hg => by
        have h1 := HOWN.out.lt g hg
        have h2 := HPS.out
        exact ⟨by omega, h1.2⟩
      have kxy : Keeps (fun b => b ≠ P) wx wy := HK3.out.trans HKY.out
      have kx6 : Keeps (fun b => b ≠ P) wx w6 := kxy.trans (((Later.drew wy).keeps _).trans (HK5.out.trans (hL6.keeps _)))
      have HO6 := hid (own_keeps HOWN.out kx6 fun g hg => (hgP g hg).1)
      have HNS6 := hid (NodesIn.kept kx6 (fun b h => h.1) _ _ HNS.out)
      have HZN6 : Hid (NodeIn (fun b => b ≠ P ∧ w.heap.size ≤ b ∧ b ≠ C ∧ a.ownBlock ≠ some b) w6 (.iface zT (.pointer (some ⟨zB, 0, none⟩))) z.1) := hid (NodeIn.mono (fun b hb h => by
          have h1 : wy.heap.size ≤ b := h.2
          have h2 := HKD.out.size
          have h3 : wy.drew.heap.size = wy.heap.size := rfl
          exact ⟨h.1, by omega, by omega, fun e => by have := (hgP b e).2; have := kxy.size; omega⟩) _ _ (NodeIn.kept (hL6.keeps (fun b => b ≠ P)) (fun b h => h.1) _ _ HZN.out))
      have HZP6 := hid (HZP.out.later hL6)
      clear hgP kxy kx6 hw6 hL6
      try simp only [Act.put, List.setIfInBounds_toArray, List.set]
      refine wpAnyK_ready (rs := [8]) (by kernel_rfl) (by simp) (AllReadyK.cons rfl (fun K hK => ?_) AllReadyK.nil)
      rw [if_pos (by rfl)]
      have hvl : vs.length ≤ 1048576 := by have h1 := HLN.out; have h2 := HLEN.out; omega
      refine oper_append _ _ 172 rfl 59 1 16 (by kernel_rfl) (ElemInfo.of (z := .nilIface) (by kernel_rfl) rfl (by omega)) (v := .slice ao vs.length cap) (n := vs.length) (xs := vs) rfl (by rw [← HA.out]; exact HO6.out) rfl hG6 rfl (by simp [Value.oneCell']) (by omega) (by unfold maxLen; omega) HK6.out.size ?_
      intro v' w7 hA7
      rw [← HA.out] at hA7
      obtain ⟨hC7, hC8, ho8, hn8, hp8, hk8⟩ := call_add HPS.out HCP.out HO6.out HC6.out HNS6.out HZN6.out HZP6.out HK6.out hA7
      have hS7 : w7.cell? ⟨C, 2, none⟩ = some (.slice ao vs.length cap) := (cell_obj (i := 2) hC7 rfl : w7.cell? ⟨C, 2, none⟩ = some a).trans (by rw [HA.out])
      have hz7 := free_obj (i := 2) hC7
      have hl7 := cell_lt hS7
      obtain ⟨ao', cap', hv'⟩ : ∃ ao cap, v' = .slice ao (vs.length + 1) cap := by
        rcases hA7.own.2 with ⟨hv, h0⟩ | ⟨g, cap, cur, hv, _⟩
        · exact ⟨none, 0, by rw [hv, h0]⟩
        · exact ⟨_, _, hv⟩
      have HC8 := hid hC8; have HO8 := hid ho8; have HN8 := hid hn8; have HP8 := hid hp8; have HK8 := hid hk8
      clear hA7 hC7 hC8 ho8 hn8 hp8 hk8 hG6 hS
      refine hK.out _ _ hS7 (fun hS => ?_)
      clear hK K
      try simp only [Act.put, List.setIfInBounds_toArray, List.set]
      refine wpAnyK_ready (rs := [9]) (by kernel_rfl) (by simp) (AllReadyK.cons rfl (fun K hK => ?_) AllReadyK.nil)
      go_simp
      refine hK.out _ _ hS7 (fun hS => ?_)
      clear hK K
      try simp only [Act.put, List.setIfInBounds_toArray, List.set]
      refine wpAnyK_ready (rs := [10]) (by kernel_rfl) (by simp) (AllReadyK.cons rfl (fun K hK => ?_) AllReadyK.nil)
      go_simp
      refine hK.out _ _ hS7 (fun hS => ?_)
      clear hK K
      try simp only [Act.put, List.setIfInBounds_toArray, List.set]
      refine wpAnyK_ready (rs := [11]) (by kernel_rfl) (by simp) (AllReadyK.late rfl (by kernel_rfl) (fun K hK => ?_) AllReadyK.nil)
      subst hv'
      go_simp
      refine hK.out _ _ ?_
      clear hK K hS
      refine wpAnyK_done (by kernel_rfl) ?_ _
      try simp only [Act.put, List.setIfInBounds_toArray, List.set]
      clear hS7 hz7 hl7
      go_wp2_with fail
      refine Round.mk' HR1.out Hmu1.out rfl ?_ ?_
      · refine ⟨acc ++ [z.1], vs ++ [_], .slice ao' (vs.length + 1) cap', z.2, HC8.out, HO8.out, HN8.out, HP8.out, HZE.out, ?_, fun s hs => HPAR.out s (par_args_go HW.out HCM.out HR.out hs), HK8.out⟩
        have h1 := HLN.out
        have h2 := HZL.out
        have h3 := HLQ.out
        simp only [List.length_cons, List.length_append, List.length_nil] at h1 h2 h3 ⊢
        rw [HQ.out] at h2
        by_cases h0 : acc = []
        · rw [if_pos h0] at h2
          simp only [List.length_cons] at h2
          omega
        · rw [if_neg h0] at h2
          omega
      · rw [HP8.out.len, HP2.out.len]
        have h2 := HZL.out
        have h3 := HLQ.out
        simp only [List.length_cons] at h2 ⊢
        omega
end Go.Proofs.YtgajofkeidjbgaaGreatDoor
