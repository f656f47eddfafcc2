/-
  PROVED HERE: the contract of expr's parse: every text is read as the plain parser reads it.
  PROVED HERE: the contracts of expr's Compile and Check.
-/
import Derived.Test.YtgajofkeidjbgaaGreatDoorGParPrim
import Derived.Test.YtgajofkeidjbgaaGreatDoorGParText
import Derived.Test.YtgajofkeidjbgaaGreatDoorGKindCall
import Derived.Test.YtgajofkeidjbgaaGreatDoorGExprNamed
import Derived.Test.YtgajofkeidjbgaaGreatDoorGParUnP
namespace Go.Proofs.YtgajofkeidjbgaaGreatDoor
set_option linter.unusedSimpArgs false
set_option linter.unusedVariables false
open Go.RowKit

attribute [local go_sem high] tok_f0 tok_f1 tok_f2
theorem lexX_short : ∀ (n p : Nat) (s : List UInt8) (l : List Tok), lexX n p s = .ok l → s.length ≤ n → (∀ t ∈ l, t.t.length ≤ s.length) ∧ l.length ≤ s.length + 1
  | n, p, [], l, h, _ => by
    unfold lexX at h
    cases h
    refine ⟨fun t ht => ?_, by simp⟩
    obtain rfl := List.mem_singleton.1 ht
    simp
  | 0, p, c :: s, l, h, hl => absurd hl (by simp)
  | n + 1, p, c :: s, l, h, hl => by
    simp only [List.length_cons] at hl
    unfold lexX at h
    split at h
    · have ih := lexX_short n _ _ _ h (by omega)
      exact ⟨fun t ht => by have := ih.1 t ht; simp only [List.length_cons]; omega, by have := ih.2; simp only [List.length_cons]; omega⟩
    · cases ht : tokAt c s with
      | none => rw [ht] at h; cases h
      | some x =>
        obtain ⟨k, m⟩ := x
        rw [ht] at h
        simp only at h
        have hm := tokAt_len ht
        cases hr : lexX n (p + m) ((c :: s).drop m) with
        | error e => rw [hr] at h; cases h
        | ok l' =>
          rw [hr] at h
          cases h
          have ih := lexX_short n _ _ _ hr (by simp only [List.length_drop, List.length_cons]; omega)
          simp only [List.length_drop, List.length_cons] at ih
          refine ⟨fun t ht' => ?_, ?_⟩
          · rcases List.mem_cons.1 ht' with rfl | h1
            · simp only [List.length_take, List.length_cons]; omega
            · have := ih.1 t h1; simp only [List.length_cons]; omega
          · have := ih.2; simp only [List.length_cons]; omega
theorem parser_all (P : Nat) : ∀ (n : Nat) (l : List Tok) (d : Nat) (w : World), l.length ≤ n → n ≤ 1048576 → PAt w P d l → EndL l → d ≤ 12 → EnvP P w →
    (∀ L : Nat, L ≤ 5 → Calls Tryz.prog 39 #[.pointer (some ⟨P, 0, none⟩), .int .i64 (L : Int)] w (POut w P d l (Par true (.bin L) d l))) ∧
    Calls Tryz.prog 71 #[.pointer (some ⟨P, 0, none⟩)] w (POut w P d l (Par true .un d l))
  | 0, l, d, w, hn, _, _, hl, _, _ => absurd (List.eq_nil_of_length_eq_zero (Nat.le_zero.1 hn)) hl.2.1
  | n + 1, l, d, w, hn, hb, h, hl, hd, hE => by
    have ih := parser_all P n
    have hun : ∀ d w, PAt w P d l → d ≤ 12 → EnvP P w → Calls Tryz.prog 71 #[.pointer (some ⟨P, 0, none⟩)] w (POut w P d l (Par true .un d l)) := by
      intro d w h hd hE
      refine unary_any P d l w h hl hd (fun d' l' w1 k hlt hd' h1 hl1 => (ih l' d' w1 (by omega) (by omega) h1 hl1 hd' (hE.kept k)).2) (fun hm w1 k h1 => ?_)
      obtain ⟨t, r, rfl, -, -⟩ := hl.cons
      simp only [List.length_cons] at hn
      exact primary_any P d t r w1 h1 hl hd hm (by omega) (hE.kept k) (fun d' l' w2 k2 hlt hd' h2 hl2 => (ih l' d' w2 (by omega) (by omega) h2 hl2 hd' ((hE.kept k).kept k2)).1 0 (by omega))
    have hbin : ∀ k L : Nat, 5 ≤ L + k → L ≤ 5 → ∀ d w, PAt w P d l → d ≤ 12 → EnvP P w → Calls Tryz.prog 39 #[.pointer (some ⟨P, 0, none⟩), .int .i64 (L : Int)] w (POut w P d l (Par true (.bin L) d l)) := by
      intro k
      induction k with
      | zero =>
        intro L hL hL5 d w h hd hE
        refine binary_any P d L l w hL5 h hl hd (fun L' d' l' w1 k hlt hL' hd' h1 hl1 => ?_) (fun w1 k h1 => hun d w1 h1 hd (hE.kept k))
        rcases hlt with hlt | ⟨-, hlt⟩
        · exact (ih l' d' w1 (by omega) (by omega) h1 hl1 hd' (hE.kept k)).1 L' hL'
        · omega
      | succ k ihk =>
        intro L hL hL5 d w h hd hE
        refine binary_any P d L l w hL5 h hl hd (fun L' d' l' w1 kk hlt hL' hd' h1 hl1 => ?_) (fun w1 k h1 => hun d w1 h1 hd (hE.kept k))
        rcases hlt with hlt | ⟨rfl, hlt⟩
        · exact (ih l' d' w1 (by omega) (by omega) h1 hl1 hd' (hE.kept kk)).1 L' hL'
        · exact ihk L' (by omega) hL' d' w1 h1 hd' (hE.kept kk)
    exact ⟨fun L hL => hbin 5 L (by omega) hL d w h hd hE, hun d w h hd hE⟩
/-- what parse answers. -/
def ParseTo (w : World) (s : List UInt8) (e : Ending) (w' : World) : Prop :=
  Later w w' ∧ ∃ r, TextR true s r ∧ match r with
    | .error f => Fails f.1 f.2 e
    | .ok x => ∃ v, e = .returned v ∧ NodeIn (fun b => w.heap.size ≤ b) w' v x
theorem later_of {w w1 w' : World} {P : Nat} (h : Later w w1) (k : Keeps (fun b => b ≠ P) w1 w') (hP : w.heap.size ≤ P) : Later w w' :=
  (((h.keeps (fun _ => True)).under (k.mono fun b _ hb => by omega))).later
theorem lex_end {s : List UInt8} (hs : s.length ≤ 1048576) {l : List Tok} (h : lexX s.length 0 s = .ok l) : EndL l ∧ l.length ≤ s.length + 1 := by
  have h1 := lexX_ok _ _ _ _ h (Nat.le_refl _)
  have h2 := lexX_short _ _ _ _ h (Nat.le_refl _)
  exact ⟨⟨fun t ht => ⟨h1.1 t ht, by have := h2.1 t ht; omega⟩, h1.2⟩, h2.2⟩
set_option maxRecDepth 100000 in
set_option maxHeartbeats 4000000 in
theorem parse_any (s : List UInt8) (w : World) (hE : ErrVars w) (hT : PowTab w) (hS : SpaceTab w) : Calls Tryz.prog 19 #[.string (strB s)] w (ParseTo w s) := by
  have HE := hid hE; have HT := hid hT; have HS := hid hS
  have hsz : (strB s).size = s.length := strB_size _
  clear hE hT hS
  go_enter Tryz.func19, Tryz.ntmps19
  by_cases hl : 200 < s.length
  · have hl' : (200 : Int) < (strB s).size := by omega
    have HL := hid hl
    clear hl
    go_wp2_with fail
    refine (fail_any 5 0 _).mono ?_
    rintro e w' ⟨hfl, rfl⟩
    unfold Fails at hfl
    subst hfl
    simp only [Exit.then, Exit.inBlock]
    refine ⟨rfl, Later.refl _, .error (5, 0), ?_, rfl⟩
    unfold TextR
    rw [if_pos HL.out]
  · have hl' : ¬ (200 : Int) < (strB s).size := by omega
    have HL := hid hl
    clear hl hsz
    go_wp2_with fail
    refine (lex_any s w (by have := HL.out; omega) HS.out).mono ?_
    rintro e w1 ⟨hL1, hm⟩
    have HL1 := hid hL1
    clear hL1
    cases hx : lexX s.length 0 s with
    | error p =>
      rw [hx] at hm
      have HX := hid hx
      simp only at hm
      unfold Fails at hm
      subst hm
      simp only [Exit.then, Exit.inBlock]
      refine ⟨rfl, HL1.out, .error (1, p), ?_, rfl⟩
      unfold TextR
      rw [if_neg HL.out, HX.out]
    | ok l =>
      rw [hx] at hm
      obtain ⟨v, rfl, hown⟩ := hm
      have HX := hid hx; have HOWN := hid hown
      obtain ⟨a, c, rfl⟩ := own_sl hown
      clear hx hown
      go_wp2_with fail
      have hle := lex_end (by have := HL.out; omega) HX.out
      have HLE := hid hle
      obtain ⟨P, hP⟩ : ∃ P, P = w1.heap.size := ⟨_, rfl⟩
      obtain ⟨w2, hw2⟩ : ∃ w2, w2 = w1.alloc (.cells #[.slice a l.length c, .int .i64 0] 99) := ⟨_, rfl⟩
      have hL2 : Later w1 w2 := hw2 ▸ Later.alloc _ _
      have hob : w2.heap[P]? = some (.cells #[.slice a l.length c, .int .i64 ((0 : Nat) : Int)] 99 (0, 0)) := by rw [hw2, hP]; exact obj_new _ _
      have HP : Hid (PAt w2 P 0 l) := hid ⟨_, hob, toks_of_own (own_keeps HOWN.out (hL2.keeps fun _ => True) fun _ _ => trivial) fun g hg => by have := (HOWN.out.lt g hg).2; omega⟩
      have HENV : Hid (EnvP P w2) := hid ⟨w1, hL2, by omega, HE.out.later HL1.out, HT.out.later HL1.out⟩
      have HPW : Hid (w.heap.size ≤ P ∧ w2.heap.size = P + 1) := hid ⟨by rw [hP]; exact HL1.out.size, by rw [hw2, hP]; simp⟩
      have HL2 := hid (Later.trans _ _ _ HL1.out hL2)
      rw [← hw2, ← hP]
      clear hw2 hP hob hL2 hle
      refine ((parser_all P l.length l 0 w2 (Nat.le_refl _) (by have := HLE.out.2; have := HL.out; omega) HP.out HLE.out.1 (by omega) HENV.out).1 0 (by omega)).mono ?_
      rintro e w3 ⟨hk3, rs, hr, hm⟩
      have HL3 := hid (later_of HL2.out hk3 HPW.out.1)
      have HK3 := hid hk3
      have HR := hid hr
      have HTX : Hid (TextR true s (doneR rs)) := hid (by
        unfold TextR
        rw [if_neg HL.out, HX.out]
        exact ⟨rs, hr, rfl⟩)
      clear hk3 hr
      cases rs with
      | error f =>
        simp only at hm
        unfold Fails at hm
        subst hm
        exact ⟨rfl, HL3.out, .error f, HTX.out, rfl⟩
      | ok x =>
        obtain ⟨v, rfl, hn, hp, he, hl⟩ := hm
        obtain ⟨x, r⟩ := x
        simp only at hn hp he hl
        obtain ⟨t2, r2, rfl, htk, -⟩ := he.cons
        have HN := hid hn; have HP3 := hid hp
        clear hn hp he hl htk
        go_wp2_with fail
        refine (here_any P 0 t2 r2 _ HP3.out).mono ?_
        rintro e w4 ⟨rfl, hL4⟩
        have HL4 := hid hL4
        clear hL4
        unfold Tok.v
        by_cases hk : t2.k = 0
        · have e0 : ((t2.k.toNat : Int) == 0) = true := (byte_eq t2.k 0 (by omega)).trans (decide_eq_true hk)
          have e0' : ((t2.k.toNat : Int) != 0) = false := by rw [bne, e0]; rfl
          have HK := hid hk
          clear hk e0
          go_wp2_with fail
          refine bodyPost_ret (results_tmp rfl _ _ _) rfl ⟨Later.trans _ _ _ HL3.out HL4.out, .ok x, ?_, v, rfl, NodeIn.mono (fun b _ h => ?_) _ _ (NodeIn.kept (HL4.out.keeps (fun b => b ≠ P)) (fun _ h => h.1) _ _ HN.out)⟩
          · have h := HTX.out
            unfold doneR at h
            simp only at h
            rw [if_pos (show (hdT (t2 :: r2)).k = 0 from HK.out)] at h
            exact h
          · have h1 := h.2
            have h2 := HPW.out
            omega
        · have e0 : ((t2.k.toNat : Int) == 0) = false := (byte_eq t2.k 0 (by omega)).trans (decide_eq_false hk)
          have e0' : ((t2.k.toNat : Int) != 0) = true := by rw [bne, e0]; rfl
          have HK := hid hk
          clear hk e0
          go_wp2_with fail
          refine (here_any P 0 t2 r2 _ (HP3.out.later HL4.out)).mono ?_
          rintro e w5 ⟨rfl, hL5⟩
          have HL5 := hid hL5
          clear hL5
          unfold Tok.v
          go_wp2_with fail
          refine (fail_any 1 t2.p _).mono ?_
          rintro e w' ⟨hfl, rfl⟩
          unfold Fails at hfl
          subst hfl
          simp only [Exit.then, Exit.inBlock]
          refine ⟨rfl, Later.trans _ _ _ HL3.out (Later.trans _ _ _ HL4.out HL5.out), .error (1, t2.p), ?_, rfl⟩
          have h := HTX.out
          unfold doneR at h
          simp only at h
          rw [if_neg (show ¬ (hdT (t2 :: r2)).k = 0 from HK.out)] at h
          exact h
end Go.Proofs.YtgajofkeidjbgaaGreatDoor
namespace Go.Proofs.YtgajofkeidjbgaaGreatDoor
set_option linter.unusedSimpArgs false
set_option linter.unusedVariables false
open Go.RowKit

/-- what a text over columns comes to. -/
def checkR (cs : List Col) (r : Except Fault Ex) : Except Fault (Int × Ex) := match r with
  | .error f => .error f
  | .ok x => if colsP cs = true then (match kindP cs x with
    | .error f => .error f
    | .ok k => .ok (k, x)) else .error (4, 0)
theorem NodeG.iface {q : List UInt8 → Nat → Int → Prop} {S : Nat → Prop} {w : World} {v : Value} {x : Ex} (h : NodeG q S w v x) : ∃ N, v = .iface (nodeT x) (.pointer (some ⟨N, 0, none⟩)) := by
  cases x <;> (unfold NodeG at h)
  · obtain ⟨B, -, h, -⟩ := h; exact ⟨B, h⟩
  · obtain ⟨B, pos, -, h, -⟩ := h; exact ⟨B, h⟩
  · obtain ⟨B, u, -, h, -⟩ := h; exact ⟨B, h⟩
  · obtain ⟨B, u1, u2, -, h, -⟩ := h; exact ⟨B, h⟩
  · obtain ⟨B, vs, a, -, h, -⟩ := h; exact ⟨B, h⟩
mutual
theorem NodeG.keep {q : List UInt8 → Nat → Int → Prop} {S S' : Nat → Prop} {w w' : World} (k : Keeps S' w w') (hs : ∀ b, S b → S' b) : ∀ (v : Value) (x : Ex), NodeG q S w v x → NodeG q S w' v x
  | v, .lit x, h => by
    unfold NodeG at h ⊢
    obtain ⟨B, h1, h2, h3⟩ := h
    exact ⟨B, h1, h2, k.obj (hs _ h1) h3⟩
  | v, .name s p, h => by
    unfold NodeG at h ⊢
    obtain ⟨B, pos, h1, h2, h3, h4⟩ := h
    exact ⟨B, pos, h1, h2, k.obj (hs _ h1) h3, h4⟩
  | v, .un neg p x, h => by
    unfold NodeG at h ⊢
    obtain ⟨B, u, h1, h2, h3, h4⟩ := h
    exact ⟨B, u, h1, h2, k.obj (hs _ h1) h3, NodeG.keep k hs u x h4⟩
  | v, .bin o p x y, h => by
    unfold NodeG at h ⊢
    obtain ⟨B, u1, u2, h1, h2, h3, h4, h5⟩ := h
    exact ⟨B, u1, u2, h1, h2, k.obj (hs _ h1) h3, NodeG.keep k hs u1 x h4, NodeG.keep k hs u2 y h5⟩
  | v, .call f p l, h => by
    unfold NodeG at h ⊢
    obtain ⟨B, vs, a, h1, h2, h3, h4, h5⟩ := h
    exact ⟨B, vs, a, h1, h2, k.obj (hs _ h1) h3, h4.kept k hs, NodesG.keep k hs vs l h5⟩
theorem NodesG.keep {q : List UInt8 → Nat → Int → Prop} {S S' : Nat → Prop} {w w' : World} (k : Keeps S' w w') (hs : ∀ b, S b → S' b) : ∀ (vs : List Value) (l : List Ex), NodesG q S w vs l → NodesG q S w' vs l
  | [], [], h => by unfold NodesG; trivial
  | v :: vs, x :: l, h => by
    unfold NodesG at h ⊢
    exact ⟨NodeG.keep k hs v x h.1, NodesG.keep k hs vs l h.2⟩
  | [], _ :: _, h => by unfold NodesG at h; exact h.elim
  | _ :: _, [], h => by unfold NodesG at h; exact h.elim
end
mutual
theorem NodeG.mono {q : List UInt8 → Nat → Int → Prop} {S S' : Nat → Prop} {w : World} (hs : ∀ b, S b → S' b) : ∀ (v : Value) (x : Ex), NodeG q S w v x → NodeG q S' w v x
  | v, .lit x, h => by
    unfold NodeG at h ⊢
    obtain ⟨B, h1, h2, h3⟩ := h
    exact ⟨B, hs _ h1, h2, h3⟩
  | v, .name s p, h => by
    unfold NodeG at h ⊢
    obtain ⟨B, pos, h1, h2, h3, h4⟩ := h
    exact ⟨B, pos, hs _ h1, h2, h3, h4⟩
  | v, .un neg p x, h => by
    unfold NodeG at h ⊢
    obtain ⟨B, u, h1, h2, h3, h4⟩ := h
    exact ⟨B, u, hs _ h1, h2, h3, NodeG.mono hs u x h4⟩
  | v, .bin o p x y, h => by
    unfold NodeG at h ⊢
    obtain ⟨B, u1, u2, h1, h2, h3, h4, h5⟩ := h
    exact ⟨B, u1, u2, hs _ h1, h2, h3, NodeG.mono hs u1 x h4, NodeG.mono hs u2 y h5⟩
  | v, .call f p l, h => by
    unfold NodeG at h ⊢
    obtain ⟨B, vs, a, h1, h2, h3, h4, h5⟩ := h
    exact ⟨B, vs, a, hs _ h1, h2, h3, ⟨h4.1, fun g hg => hs _ (h4.2 g hg)⟩, NodesG.mono hs vs l h5⟩
theorem NodesG.mono {q : List UInt8 → Nat → Int → Prop} {S S' : Nat → Prop} {w : World} (hs : ∀ b, S b → S' b) : ∀ (vs : List Value) (l : List Ex), NodesG q S w vs l → NodesG q S' w vs l
  | [], [], h => by unfold NodesG; trivial
  | v :: vs, x :: l, h => by
    unfold NodesG at h ⊢
    exact ⟨NodeG.mono hs v x h.1, NodesG.mono hs vs l h.2⟩
  | [], _ :: _, h => by unfold NodesG at h; exact h.elim
  | _ :: _, [], h => by unfold NodesG at h; exact h.elim
end
theorem cols_below {w : World} {ao : Option Addr} {cs : List Col} (h : ColsEl w ao cs) : ColsB w.heap.size w ao cs := fun i hi => let ⟨b, o, ha, _, hx⟩ := h i hi; ⟨b, o, ha, cell_lt hx.1, hx⟩
abbrev compO (k : Int) (v : Value) : Obj := .cells #[.int .i64 k, v] 81 (0, 0)
/-- columns that a call may be handed. -/
structure ColsArg (w : World) (ao : Option Addr) (c : Nat) (cs : List Col) : Prop where
  el : ColsEl w ao cs
  cap : cs.length ≤ c ∧ cs.length ≤ 140737488355328
  str : ∀ x ∈ cs, x.s.length ≤ 140737488355328
theorem ColsArg.later {w w' : World} {ao : Option Addr} {c : Nat} {cs : List Col} (h : ColsArg w ao c cs) (k : Later w w') : ColsArg w' ao c cs := ⟨cols_later h.el k, h.cap, h.str⟩
/-- what the function that Compile hands to caught answers. -/
def Comp1To (cs : List Col) (s : List UInt8) (C : Nat) (w : World) (e : Ending) (w' : World) : Prop := Keeps (fun b => b ≠ C) w w' ∧ ∃ r, TextR true s r ∧ match checkR cs r with
  | .error f => Fails f.1 f.2 e ∧ w'.heap[C]? = some (compO 0 .nilIface)
  | .ok kx => e = .returned (.tuple #[]) ∧ ∃ v, w'.heap[C]? = some (compO kx.1 v) ∧ NodeG (qIdx cs) (fun b => w.heap.size ≤ b) w' v kx.2
set_option maxRecDepth 100000 in
set_option maxHeartbeats 4000000 in
theorem compile1_any (s : List UInt8) (ao : Option Addr) (c : Nat) (cs : List Col) (T CB C : Nat) (w : World) (hE : ErrVars w) (hT : PowTab w) (hS : SpaceTab w) (t0 : w.heap[T]? = some (.cells #[.string (strB s)] 9 (0, 0))) (b0 : w.heap[CB]? = some (.cells #[.slice ao cs.length c] 36 (0, 0)))
    (o0 : w.heap[C]? = some (compO 0 .nilIface)) (ha : ColsArg w ao c cs) : Calls Tryz.prog 53 #[.pointer (some ⟨T, 0, none⟩), .pointer (some ⟨CB, 0, none⟩), .pointer (some ⟨C, 0, none⟩)] w (Comp1To cs s C w) := by
  have HE := hid hE; have HT := hid hT; have HSP := hid hS; have HO0 := hid o0; have HB0 := hid b0; have HA := hid ha
  have c0 : w.cell? ⟨T, 0, none⟩ = some (.string (strB s)) := cell_obj (i := 0) t0 rfl
  have hlt := cell_lt c0
  clear hE hT hS t0 o0 b0 ha
  go_enter Tryz.func53, Tryz.ntmps53
  go_wp2_with fail
  refine (parse_any s w HE.out HT.out HSP.out).mono ?_
  rintro e w1 ⟨hL1, r, hr, hm⟩
  have HL1 := hid hL1; have HR := hid hr
  cases r with
  | error f =>
    simp only at hm
    have hfl := hm
    unfold Fails at hm
    subst hm
    exact ⟨rfl, HL1.out.keeps _, .error f, HR.out, hfl, HL1.out.obj HO0.out⟩
  | ok x =>
  obtain ⟨v, rfl, hn⟩ := hm
  have HN := hid (NodeIn.may cs _ _ hn)
  have HOK := hid (text_ok hr)
  have HCO : Hid (costP x ≤ 1000000) := hid (Nat.le_trans (text_cost hr) (by omega))
  have b1 : w1.cell? ⟨CB, 0, none⟩ = some (.slice ao cs.length c) := cell_obj (i := 0) (HL1.out.obj HB0.out) rfl
  have bl := cell_lt b1
  clear hL1 hr hn c0 hlt
  go_wp2_with fail
  refine (columns_any ao c cs w1 (HA.out.later HL1.out).el HA.out.cap HA.out.str).mono ?_
  rintro e w2 ⟨rfl, hL2⟩
  have HL2 := hid (Later.trans _ _ _ HL1.out hL2)
  have HN2 := hid (NodeG.keep (hL2.keeps (fun _ => True)) (fun _ _ => trivial) _ _ HN.out)
  have b2 : w2.cell? ⟨CB, 0, none⟩ = some (.slice ao cs.length c) := cell_obj (i := 0) (HL2.out.obj HB0.out) rfl
  have bl2 := cell_lt b2
  obtain ⟨bc, hbc⟩ : ∃ b, colsP cs = b := ⟨_, rfl⟩
  have HBC := hid hbc
  rw [hbc]
  clear hL2 b1 bl hbc
  cases bc with
  | false =>
    go_wp2_with fail
    refine (fail_any 4 0 _).mono ?_
    rintro e w' ⟨hfl, hw'⟩
    subst w'
    have hfl' := hfl
    unfold Fails at hfl
    subst hfl
    simp only [Exit.then, Exit.inBlock]
    refine ⟨rfl, HL2.out.keeps _, .ok x, HR.out, ?_⟩
    unfold checkR
    simp only
    rw [if_neg (by rw [HBC.out]; simp)]
    exact ⟨hfl', HL2.out.obj HO0.out⟩
  | true =>
  go_wp2_with fail
  refine (kd_all cs x w.heap.size ao c v w2 HN2.out (fun i hi => let ⟨b, o, ha, hb, hx⟩ := cols_below HA.out.el i hi; ⟨b, o, ha, hb, hx.later HL2.out⟩) (by have := HA.out.cap; omega) HOK.out HCO.out HL2.out.size).mono ?_
  rintro e w3 ⟨hk, hm⟩
  have HK : Hid (Keeps (fun b => b < w.heap.size) w2 w3) := hid hk.below
  have HK3 : Hid (Keeps (fun _ => True) w w3) := hid ((HL2.out.keeps _).under HK.out)
  have HR3 : Hid (∀ f, kindP cs x = .error f → checkR cs (.ok x) = .error f) := hid fun f h => by unfold checkR; simp only; rw [if_pos HBC.out, h]
  have HR4 : Hid (∀ k, kindP cs x = .ok k → checkR cs (.ok x) = .ok (k, x)) := hid fun f h => by unfold checkR; simp only; rw [if_pos HBC.out, h]
  clear hk
  cases hkp : kindP cs x with
  | error f =>
    rw [hkp] at hm
    simp only at hm
    have hfl := hm
    unfold Fails at hm
    subst hm
    simp only [Exit.then, Exit.inBlock]
    refine ⟨rfl, HK3.out.mono fun _ _ _ => trivial, .ok x, HR.out, ?_⟩
    rw [HR3.out f hkp]
    exact ⟨hfl, HK3.out.obj trivial HO0.out⟩
  | ok k =>
    rw [hkp] at hm
    obtain ⟨rfl, hn3⟩ := hm
    have HN3 := hid hn3; have HR5 := hid (HR4.out k hkp)
    obtain ⟨N, rfl⟩ := hn3.iface
    have HO3 := hid (HK3.out.obj trivial HO0.out)
    have z0 : w3.cell? ⟨C, 0, none⟩ = some (.int .i64 0) := cell_obj (i := 0) HO3.out rfl
    have z1 : w3.cell? ⟨C, 1, none⟩ = some .nilIface := cell_obj (i := 1) HO3.out rfl
    have f0 : w3.frozen? ⟨C, 0, none⟩ = false := free_obj (i := 0) HO3.out
    have f1 : w3.frozen? ⟨C, 1, none⟩ = false := free_obj (i := 1) HO3.out
    have zl := cell_lt z0
    have HCW : Hid (C < w.heap.size) := hid (obj_lt HO0.out)
    clear hn3 hkp b2 bl2
    go_wp2_with fail
    have h1 : (w3.setCell ⟨C, 0, none⟩ (.int .i64 k)).heap[C]? = some (compO k .nilIface) := obj_setCell (i := 0) HO3.out _
    have h2 : ((w3.setCell ⟨C, 0, none⟩ (.int .i64 k)).setCell ⟨C, 1, none⟩ (.iface (nodeT x) (.pointer (some ⟨N, 0, none⟩)))).heap[C]? = some (compO k (.iface (nodeT x) (.pointer (some ⟨N, 0, none⟩)))) := obj_setCell (i := 1) h1 _
    have hk5 : Keeps (fun b => b ≠ C) w3 ((w3.setCell ⟨C, 0, none⟩ (.int .i64 k)).setCell ⟨C, 1, none⟩ (.iface (nodeT x) (.pointer (some ⟨N, 0, none⟩)))) :=
      ((Keeps.refl _ w3).setCell (p := ⟨C, 0, none⟩) (.inl fun h => h rfl) _).setCell (p := ⟨C, 1, none⟩) (.inl fun h => h rfl) _
    refine bodyPost_end (results_none rfl _ _ _) rfl ⟨(HK3.out.mono fun _ _ _ => trivial).trans hk5, .ok x, HR.out, ?_⟩
    rw [HR5.out]
    exact ⟨rfl, _, h2, NodeG.keep hk5 (fun b hb => by have := HCW.out; omega) _ _ HN3.out⟩
theorem alloc3 {w w4 : World} {o1 o2 o3 : Obj} (h : w4 = ((w.alloc o1).alloc o2).alloc o3) : Later w w4 ∧ w4.heap[w.heap.size]? = some o1 ∧ w4.heap[w.heap.size + 1]? = some o2 ∧ w4.heap[w.heap.size + 2]? = some o3 ∧ w4.heap.size = w.heap.size + 3 := by
  subst h
  refine ⟨((Later.alloc _ _).alloc' _).alloc' _, ?_, ?_, ?_, by simp⟩
  · exact ((Later.alloc (w.alloc o1) o2).alloc' o3).obj (obj_new w o1)
  · exact (Later.alloc _ _).obj (obj_at (by simp))
  · exact obj_at (by simp)
/-- what Compile answers. -/
def CompileTo (cs : List Col) (s : List UInt8) (w : World) (e : Ending) (w' : World) : Prop := Later w w' ∧ ∃ r, TextR true s r ∧ match checkR cs r with
  | .error f => e = .returned (.tuple #[.agg #[.int .i64 0, .nilIface], .int .i64 (f.2 : Int), errV f.1])
  | .ok kx => ∃ v, e = .returned (.tuple #[.agg #[.int .i64 kx.1, v], .int .i64 0, .nilIface]) ∧ NodeG (qIdx cs) (fun _ => True) w' v kx.2
set_option maxRecDepth 100000 in
set_option maxHeartbeats 4000000 in
theorem compile_any (s : List UInt8) (ao : Option Addr) (c : Nat) (cs : List Col) (w : World) (hE : ErrVars w) (hT : PowTab w) (hS : SpaceTab w) (ha : ColsArg w ao c cs) :
    Calls Tryz.prog 27 #[.string (strB s), .slice ao cs.length c] w (CompileTo cs s w) := by
  have HE := hid hE; have HT := hid hT; have HS := hid hS; have HA := hid ha
  clear hE hT hS ha
  go_enter Tryz.func27, Tryz.ntmps27
  go_wp2_with fail
  obtain ⟨w2, hw2⟩ : ∃ w2, w2 = ((w.alloc (.cells #[.string (strB s)] 9)).alloc (.cells #[.slice ao cs.length c] 36)).alloc (compO 0 .nilIface) := ⟨_, rfl⟩
  obtain ⟨hL2, o1, o2, o3, hsz⟩ := alloc3 hw2
  have HSZ := hid hsz
  rw [← hw2]
  have HL2 := hid hL2; have O1 := hid o1; have O2 := hid o2; have O3 := hid o3
  clear hw2 hL2 o1 o2 o3 hsz
  refine (caught_any 53 (enters_of Tryz.func53 (by kernel_rfl) rfl) #[.pointer (some ⟨w.heap.size, 0, none⟩), .pointer (some ⟨w.heap.size + 1, 0, none⟩), .pointer (some ⟨w.heap.size + 2, 0, none⟩)] w2
    (fun w4 => Keeps (fun b => b ≠ w.heap.size + 2) w2 w4 ∧ ∃ r kx, TextR true s r ∧ checkR cs r = .ok kx ∧ ∃ v, w4.heap[w.heap.size + 2]? = some (compO kx.1 v) ∧ NodeG (qIdx cs) (fun b => w2.heap.size + 2 ≤ b) w4 v kx.2)
    (fun e p w4 => Keeps (fun b => b ≠ w.heap.size + 2) w2 w4 ∧ ∃ r, TextR true s r ∧ checkR cs r = .error (e, p) ∧ w4.heap[w.heap.size + 2]? = some (compO 0 .nilIface)) (fun w3 hL3 hs3 => ?_)).mono ?_
  · have h3 := Later.trans _ _ _ HL2.out hL3
    refine (compile1_any s ao c cs _ _ _ w3 (HE.out.later h3) (HT.out.later h3) (HS.out.later h3) (hL3.obj O1.out) (hL3.obj O2.out) (hL3.obj O3.out) (HA.out.later h3)).mono ?_
    rintro e w4 ⟨hk, r, hr, hm⟩
    refine ⟨hk.mono fun b hb h => by have := HSZ.out; omega, ?_⟩
    cases hc : checkR cs r with
    | error f =>
      rw [hc] at hm
      exact .inr ⟨f.1, f.2, hm.1, (hL3.keeps _).trans hk, r, hr, hc, hm.2⟩
    | ok kx =>
      rw [hc] at hm
      obtain ⟨he, v, h1, h2⟩ := hm
      exact .inl ⟨he, (hL3.keeps _).trans hk, r, kx, hr, hc, v, h1, NodeG.mono (fun b hb => by omega) _ _ h2⟩
  · rintro e w6 ⟨w4, hk, hc⟩
    have HK := hid hk
    rcases hc with ⟨rfl, hkk, r, kx, hr, hck, v, ho, hn⟩ | ⟨e4, p, rfl, hkk, r, hr, hck, ho⟩
    · have s6 := hk.obj (by have := HSZ.out; omega) ho
      have HL6 : Hid (Later w w6) := hid ((((HL2.out.keeps (fun _ => True)).under (hkk.mono fun b _ hb => by omega)).under (hk.mono fun b _ hb => by have := HSZ.out; omega)).later)
      have hn6 := NodeG.keep hk (S := fun b => w2.heap.size + 2 ≤ b) (fun b hb => ⟨by omega, by omega⟩) _ _ hn
      have HN6 := hid hn6
      obtain ⟨N, rfl⟩ := hn.iface
      have HR := hid hr; have HCK := hid hck; have HS6 := hid s6
      have q0 : w6.cell? ⟨w.heap.size + 2, 0, none⟩ = some (.int .i64 kx.1) := cell_obj (i := 0) s6 rfl
      have q1 : w6.cell? ⟨w.heap.size + 2, 1, none⟩ = some (.iface (nodeT kx.2) (.pointer (some ⟨N, 0, none⟩))) := cell_obj (i := 1) s6 rfl
      have f0 : w6.frozen? ⟨w.heap.size + 2, 0, none⟩ = false := free_obj (i := 0) s6
      have f1 : w6.frozen? ⟨w.heap.size + 2, 1, none⟩ = false := free_obj (i := 1) s6
      have ql := cell_lt q0
      clear hk hkk hr hck ho hn s6 hn6
      go_wp2_with fail
      obtain ⟨w8, hw8⟩ : ∃ w8, w8 = (w6.setCell ⟨w.heap.size + 2, 0, none⟩ (.int .i64 kx.1)).setCell ⟨w.heap.size + 2, 1, none⟩ (.iface (nodeT kx.2) (.pointer (some ⟨N, 0, none⟩))) := ⟨_, rfl⟩
      have h1 : (w6.setCell ⟨w.heap.size + 2, 0, none⟩ (.int .i64 kx.1)).heap[w.heap.size + 2]? = some (compO kx.1 (.iface (nodeT kx.2) (.pointer (some ⟨N, 0, none⟩)))) := obj_setCell (i := 0) HS6.out _
      have h2 : w8.heap[w.heap.size + 2]? = some (compO kx.1 (.iface (nodeT kx.2) (.pointer (some ⟨N, 0, none⟩)))) := by rw [hw8]; exact obj_setCell (i := 1) h1 _
      have hk8 : Keeps (fun b => b ≠ w.heap.size + 2) w6 w8 := by
        rw [hw8]
        exact ((Keeps.refl _ w6).setCell (p := ⟨w.heap.size + 2, 0, none⟩) (.inl fun h => h rfl) _).setCell (p := ⟨w.heap.size + 2, 1, none⟩) (.inl fun h => h rfl) _
      have hL8 : Later w w8 := later_put HL6.out (by omega) hk8
      have q7 : w8.cell? ⟨w.heap.size + 2, 0, none⟩ = some (.int .i64 kx.1) := cell_obj (i := 0) h2 rfl
      have q8 : w8.cell? ⟨w.heap.size + 2, 1, none⟩ = some (.iface (nodeT kx.2) (.pointer (some ⟨N, 0, none⟩))) := cell_obj (i := 1) h2 rfl
      rw [← hw8]
      refine bodyPost_ret (v := .tuple #[.agg #[.int .i64 kx.1, .iface (nodeT kx.2) (.pointer (some ⟨N, 0, none⟩))], .int .i64 0, .nilIface]) (by simp [results, Tryz.results27, go_sem, q7, q8]) rfl ⟨hL8, r, HR.out, ?_⟩
      rw [HCK.out]
      exact ⟨_, rfl, NodeG.mono (fun _ _ => trivial) _ _ (NodeG.keep hk8 (fun b hb => by have := HSZ.out; omega) _ _ HN6.out)⟩
    · have s6 := hk.obj (by have := HSZ.out; omega) ho
      have HL6 : Hid (Later w w6) := hid ((((HL2.out.keeps (fun _ => True)).under (hkk.mono fun b _ hb => by omega)).under (hk.mono fun b _ hb => by have := HSZ.out; omega)).later)
      have HR := hid hr; have HCK := hid hck; have HS6 := hid s6
      have q0 : w6.cell? ⟨w.heap.size + 2, 0, none⟩ = some (.int .i64 0) := cell_obj (i := 0) s6 rfl
      have q1 : w6.cell? ⟨w.heap.size + 2, 1, none⟩ = some .nilIface := cell_obj (i := 1) s6 rfl
      have f0 : w6.frozen? ⟨w.heap.size + 2, 0, none⟩ = false := free_obj (i := 0) s6
      have f1 : w6.frozen? ⟨w.heap.size + 2, 1, none⟩ = false := free_obj (i := 1) s6
      have ql := cell_lt q0
      clear hk hkk hr hck ho s6
      unfold errV
      go_wp2_with fail
      obtain ⟨w8, hw8⟩ : ∃ w8, w8 = (w6.setCell ⟨w.heap.size + 2, 0, none⟩ (.int .i64 0)).setCell ⟨w.heap.size + 2, 1, none⟩ .nilIface := ⟨_, rfl⟩
      have h1 : (w6.setCell ⟨w.heap.size + 2, 0, none⟩ (.int .i64 0)).heap[w.heap.size + 2]? = some (compO 0 .nilIface) := obj_setCell (i := 0) HS6.out _
      have h2 : w8.heap[w.heap.size + 2]? = some (compO 0 .nilIface) := by rw [hw8]; exact obj_setCell (i := 1) h1 _
      have hk8 : Keeps (fun b => b ≠ w.heap.size + 2) w6 w8 := by
        rw [hw8]
        exact ((Keeps.refl _ w6).setCell (p := ⟨w.heap.size + 2, 0, none⟩) (.inl fun h => h rfl) _).setCell (p := ⟨w.heap.size + 2, 1, none⟩) (.inl fun h => h rfl) _
      have hL8 : Later w w8 := later_put HL6.out (by omega) hk8
      have q7 : w8.cell? ⟨w.heap.size + 2, 0, none⟩ = some (.int .i64 0) := cell_obj (i := 0) h2 rfl
      have q8 : w8.cell? ⟨w.heap.size + 2, 1, none⟩ = some .nilIface := cell_obj (i := 1) h2 rfl
      rw [← hw8]
      refine bodyPost_ret (v := .tuple #[.agg #[.int .i64 0, .nilIface], .int .i64 (p : Int), .iface 29 (.int .i64 e4)]) (by simp [results, Tryz.results27, go_sem, q7, q8]) rfl ⟨hL8, r, HR.out, ?_⟩
      rw [HCK.out]
      rfl
/-- what Check answers. -/
def CheckTo (cs : List Col) (s : List UInt8) (w : World) (e : Ending) (w' : World) : Prop := Later w w' ∧ ∃ r, TextR true s r ∧ match checkR cs r with
  | .error f => e = .returned (.tuple #[.int .i64 0, .int .i64 (f.2 : Int), errV f.1])
  | .ok kx => e = .returned (.tuple #[.int .i64 kx.1, .int .i64 0, .nilIface])
set_option maxRecDepth 100000 in
set_option maxHeartbeats 4000000 in
theorem check_any (s : List UInt8) (ao : Option Addr) (c : Nat) (cs : List Col) (w : World) (hE : ErrVars w) (hT : PowTab w) (hS : SpaceTab w) (ha : ColsArg w ao c cs) :
    Calls Tryz.prog 13 #[.string (strB s), .slice ao cs.length c] w (CheckTo cs s w) := by
  have H := hid (compile_any s ao c cs w hE hT hS ha)
  clear hE hT hS ha
  go_enter Tryz.func13, Tryz.ntmps13
  go_wp2_with fail
  refine H.out.mono ?_
  rintro e w1 ⟨hL1, r, hr, hm⟩
  have HL1 := hid hL1; have HR := hid hr
  cases hc : checkR cs r with
  | error f =>
    rw [hc] at hm
    obtain rfl := hm
    have HC := hid hc
    clear hc hr hL1
    unfold errV
    go_wp2_with fail
    refine bodyPost_ret (v := .tuple #[.int .i64 0, .int .i64 (f.2 : Int), .iface 29 (.int .i64 f.1)]) (by simp [results, Tryz.results13, go_sem]) rfl ⟨?_, r, HR.out, ?_⟩
    · exact Later.trans _ _ _ HL1.out (Later.alloc _ _)
    · rw [HC.out]
      rfl
  | ok kx =>
    rw [hc] at hm
    obtain ⟨v, rfl, hn⟩ := hm
    obtain ⟨N, rfl⟩ := hn.iface
    have HC := hid hc
    clear hc hr hL1 hn
    go_wp2_with fail
    refine bodyPost_ret (v := .tuple #[.int .i64 kx.1, .int .i64 0, .nilIface]) (by simp [results, Tryz.results13, go_sem]) rfl ⟨?_, r, HR.out, ?_⟩
    · exact Later.trans _ _ _ HL1.out (Later.alloc _ _)
    · rw [HC.out]
end Go.Proofs.YtgajofkeidjbgaaGreatDoor
