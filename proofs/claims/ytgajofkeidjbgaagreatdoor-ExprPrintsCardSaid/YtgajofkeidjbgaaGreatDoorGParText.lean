/-
  PROVED HERE: in plain Lean: what a text is as an expression; the program's and the document's word agree.
  PROVED HERE: the contract of expr's parse: every text is read as the plain parser reads it.
-/
import Derived.Test.YtgajofkeidjbgaaGreatDoorGParOk
import Derived.Test.YtgajofkeidjbgaaGreatDoorParPrim
namespace Go.Proofs.YtgajofkeidjbgaaGreatDoor
set_option linter.unusedSimpArgs false
set_option linter.unusedVariables false
open Go Go.RowKit

def doneR (q : Res) : Except Fault Ex := match q with
  | .error e => .error e
  | .ok x => if (hdT x.2).k = 0 then .ok x.1 else .error (1, (hdT x.2).p)
/-- the expression of a text, or what is wrong, and where: 'true' as the program reads it, 'false' as the document does. -/
def TextR (R : Bool) (s : List UInt8) (r : Except Fault Ex) : Prop :=
  if 200 < s.length then r = .error (5, 0)
  else match lexX s.length 0 s with
    | .error p => r = .error (1, p)
    | .ok l => ∃ q, Par R (topJ R) 0 l q ∧ r = doneR q
theorem text_agree {s : List UInt8} {r r' : Except Fault Ex} (h : TextR true s r) (h' : TextR false s r') : r = r' := by
  unfold TextR at h h'
  split at h
  · rename_i hl
    rw [if_pos hl] at h'
    rw [h, h']
  · rename_i hl
    rw [if_neg hl] at h'
    cases hx : lexX s.length 0 s with
    | error p => rw [hx] at h h'; simp only at h h'; rw [h, h']
    | ok l =>
      rw [hx] at h h'
      obtain ⟨q, h1, rfl⟩ := h
      obtain ⟨q', h2, rfl⟩ := h'
      rw [par_agree h1 h2]
theorem text_one {s : List UInt8} {r r' : Except Fault Ex} (h : TextR true s r) (h' : TextR true s r') : r = r' := by
  unfold TextR at h h'
  split at h
  · rename_i hl
    rw [if_pos hl] at h'
    rw [h, h']
  · rename_i hl
    rw [if_neg hl] at h'
    cases hx : lexX s.length 0 s with
    | error p => rw [hx] at h h'; simp only at h h'; rw [h, h']
    | ok l =>
      rw [hx] at h h'
      obtain ⟨q, h1, rfl⟩ := h
      obtain ⟨q', h2, rfl⟩ := h'
      rw [h1.one h2]
theorem lexX_ok : ∀ (n p : Nat) (s : List UInt8) (l : List Tok), lexX n p s = .ok l → (s.length ≤ n → (∀ t ∈ l, TokOk t) ∧ ∃ h : l ≠ [], (l.getLast h).k = 0)
  | n, p, [], l, h, _ => by
    unfold lexX at h
    cases h
    refine ⟨fun t ht => ?_, by simp, rfl⟩
    obtain rfl := List.mem_singleton.1 ht
    exact .inl ⟨rfl, rfl⟩
  | 0, p, c :: s, l, h, hl => absurd hl (by simp)
  | n + 1, p, c :: s, l, h, hl => by
    simp only [List.length_cons] at hl
    unfold lexX at h
    split at h
    · exact lexX_ok n _ _ _ h (by omega)
    · cases ht : tokAt c s with
      | none => rw [ht] at h; cases h
      | some x =>
        obtain ⟨k, m⟩ := x
        rw [ht] at h
        simp only at h
        have hm := tokAt_len ht
        cases hr : lexX n (p + m) ((c :: s).drop m) with
        | error e => rw [hr] at h; cases h
        | ok l' =>
          rw [hr] at h
          cases h
          have ih := lexX_ok n _ _ _ hr (by simp only [List.length_drop, List.length_cons]; omega)
          refine ⟨fun t ht' => ?_, by simp, ?_⟩
          · rcases List.mem_cons.1 ht' with rfl | h1
            · exact tokAt_ok ht p
            · exact ih.1 t h1
          · rw [List.getLast_cons ih.2.1]
            exact ih.2.2
/-- what a text's expression is like. -/
theorem text_ok {s : List UInt8} {x : Ex} (h : TextR true s (.ok x)) : ExOk x := by
  unfold TextR at h
  split at h
  · cases h
  · cases hx : lexX s.length 0 s with
    | error p => rw [hx] at h; cases h
    | ok l =>
      rw [hx] at h
      obtain ⟨q, ⟨n, hn⟩, h2⟩ := h
      unfold doneR at h2
      cases q with
      | error e => cases h2
      | ok y =>
        obtain ⟨y, r⟩ := y
        simp only at h2
        split at h2
        · cases h2
          exact (parse_ok n _ 0 l x r (lexX_ok _ _ _ _ hx (Nat.le_refl _)).1 hn trivial).1
        · cases h2
end Go.Proofs.YtgajofkeidjbgaaGreatDoor
namespace Go.Proofs.YtgajofkeidjbgaaGreatDoor
set_option linter.unusedSimpArgs false
set_option linter.unusedVariables false
open Go.RowKit

attribute [local go_sem high] tok_f0 tok_f1 tok_f2
theorem lexX_short : ∀ (n p : Nat) (s : List UInt8) (l : List Tok), lexX n p s = .ok l → s.length ≤ n → (∀ t ∈ l, t.t.length ≤ s.length) ∧ l.length ≤ s.length + 1
  | n, p, [], l, h, _ => by
    unfold lexX at h
    cases h
    refine ⟨fun t ht => ?_, by simp⟩
    obtain rfl := List.mem_singleton.1 ht
    simp
  | 0, p, c :: s, l, h, hl => absurd hl (by simp)
  | n + 1, p, c :: s, l, h, hl => by
    simp only [List.length_cons] at hl
    unfold lexX at h
    split at h
    · have ih := lexX_short n _ _ _ h (by omega)
      exact ⟨fun t ht => by have := ih.1 t ht; simp only [List.length_cons]; omega, by have := ih.2; simp only [List.length_cons]; omega⟩
    · cases ht : tokAt c s with
      | none => rw [ht] at h; cases h
      | some x =>
        obtain ⟨k, m⟩ := x
        rw [ht] at h
        simp only at h
        have hm := tokAt_len ht
        cases hr : lexX n (p + m) ((c :: s).drop m) with
        | error e => rw [hr] at h; cases h
        | ok l' =>
          rw [hr] at h
          cases h
          have ih := lexX_short n _ _ _ hr (by simp only [List.length_drop, List.length_cons]; omega)
          simp only [List.length_drop, List.length_cons] at ih
          refine ⟨fun t ht' => ?_, ?_⟩
          · rcases List.mem_cons.1 ht' with rfl | h1
            · simp only [List.length_take, List.length_cons]; omega
            · have := ih.1 t h1; simp only [List.length_cons]; omega
          · have := ih.2; simp only [List.length_cons]; omega
theorem parser_all (P : Nat) : ∀ (n : Nat) (l : List Tok) (d : Nat) (w : World), l.length ≤ n → n ≤ 1048576 → PAt w P d l → EndL l → d ≤ 12 → EnvP P w →
    (∀ L : Nat, L ≤ 5 → Calls Tryz.prog 39 #[.pointer (some ⟨P, 0, none⟩), .int .i64 (L : Int)] w (POut w P d l (Par true (.bin L) d l))) ∧
    Calls Tryz.prog 71 #[.pointer (some ⟨P, 0, none⟩)] w (POut w P d l (Par true .un d l))
  | 0, l, d, w, hn, _, _, hl, _, _ => absurd (List.eq_nil_of_length_eq_zero (Nat.le_zero.1 hn)) hl.2.1
  | n + 1, l, d, w, hn, hb, h, hl, hd, hE => by
    have ih := parser_all P n
    have hun : ∀ d w, PAt w P d l → d ≤ 12 → EnvP P w → Calls Tryz.prog 71 #[.pointer (some ⟨P, 0, none⟩)] w (POut w P d l (Par true .un d l)) := by
      intro d w h hd hE
      refine unary_any P d l w h hl hd (fun d' l' w1 k hlt hd' h1 hl1 => (ih l' d' w1 (by omega) (by omega) h1 hl1 hd' (hE.kept k)).2) (fun hm w1 k h1 => ?_)
      obtain ⟨t, r, rfl, -, -⟩ := hl.cons
      simp only [List.length_cons] at hn
      exact primary_any P d t r w1 h1 hl hd hm (by omega) (hE.kept k) (fun d' l' w2 k2 hlt hd' h2 hl2 => (ih l' d' w2 (by omega) (by omega) h2 hl2 hd' ((hE.kept k).kept k2)).1 0 (by omega))
    have hbin : ∀ k L : Nat, 5 ≤ L + k → L ≤ 5 → ∀ d w, PAt w P d l → d ≤ 12 → EnvP P w → Calls Tryz.prog 39 #[.pointer (some ⟨P, 0, none⟩), .int .i64 (L : Int)] w (POut w P d l (Par true (.bin L) d l)) := by
      intro k
      induction k with
      | zero =>
        intro L hL hL5 d w h hd hE
        refine binary_any P d L l w hL5 h hl hd (fun L' d' l' w1 k hlt hL' hd' h1 hl1 => ?_) (fun w1 k h1 => hun d w1 h1 hd (hE.kept k))
        rcases hlt with hlt | ⟨-, hlt⟩
        · exact (ih l' d' w1 (by omega) (by omega) h1 hl1 hd' (hE.kept k)).1 L' hL'
        · omega
      | succ k ihk =>
        intro L hL hL5 d w h hd hE
        refine binary_any P d L l w hL5 h hl hd (fun L' d' l' w1 kk hlt hL' hd' h1 hl1 => ?_) (fun w1 k h1 => hun d w1 h1 hd (hE.kept k))
        rcases hlt with hlt | ⟨rfl, hlt⟩
        · exact (ih l' d' w1 (by omega) (by omega) h1 hl1 hd' (hE.kept kk)).1 L' hL'
        · exact ihk L' (by omega) hL' d' w1 h1 hd' (hE.kept kk)
    exact ⟨fun L hL => hbin 5 L (by omega) hL d w h hd hE, hun d w h hd hE⟩
/-- what parse answers. -/
def ParseTo (w : World) (s : List UInt8) (e : Ending) (w' : World) : Prop :=
  Later w w' ∧ ∃ r, TextR true s r ∧ match r with
    | .error f => Fails f.1 f.2 e
    | .ok x => ∃ v, e = .returned v ∧ NodeIn (fun b => w.heap.size ≤ b) w' v x
theorem later_of {w w1 w' : World} {P : Nat} (h : Later w w1) (k : Keeps (fun b => b ≠ P) w1 w') (hP : w.heap.size ≤ P) : Later w w' :=
  (((h.keeps (fun _ => True)).under (k.mono fun b _ hb => by omega))).later
theorem lex_end {s : List UInt8} (hs : s.length ≤ 1048576) {l : List Tok} (h : lexX s.length 0 s = .ok l) : EndL l ∧ l.length ≤ s.length + 1 := by
  have h1 := lexX_ok _ _ _ _ h (Nat.le_refl _)
  have h2 := lexX_short _ _ _ _ h (Nat.le_refl _)
  exact ⟨⟨fun t ht => ⟨h1.1 t ht, by have := h2.1 t ht; omega⟩, h1.2⟩, h2.2⟩
set_option maxRecDepth 100000 in
set_option maxHeartbeats 4000000 in
theorem parse_any (s : List UInt8) (w : World) (hE : ErrVars w) (hT : PowTab w) (hS : SpaceTab w) : Calls Tryz.prog 19 #[.string (strB s)] w (ParseTo w s) := by
  have HE := hid hE; have HT := hid hT; have HS := hid hS
  have hsz : (strB s).size = s.length := strB_size _
  clear hE hT hS
  go_enter Tryz.func19, Tryz.ntmps19
  by_cases hl : 200 < s.length
  · have hl' : (200 : Int) < (strB s).size := by omega
    have HL := hid hl
    clear hl
    go_wp2_with fail
    refine (fail_any 5 0 _).mono ?_
    rintro e w' ⟨hfl, rfl⟩
    unfold Fails at hfl
    subst hfl
    simp only [Exit.then, Exit.inBlock]
    refine ⟨rfl, Later.refl _, .error (5, 0), ?_, rfl⟩
    unfold TextR
    rw [if_pos HL.out]
  · have hl' : ¬ (200 : Int) < (strB s).size := by omega
    have HL := hid hl
    clear hl hsz
    go_wp2_with fail
    refine (lex_any s w (by have := HL.out; omega) HS.out).mono ?_
    rintro e w1 ⟨hL1, hm⟩
    have HL1 := hid hL1
    clear hL1
    cases hx : lexX s.length 0 s with
    | error p =>
      rw [hx] at hm
      have HX := hid hx
      simp only at hm
      unfold Fails at hm
      subst hm
      simp only [Exit.then, Exit.inBlock]
      refine ⟨rfl, HL1.out, .error (1, p), ?_, rfl⟩
      unfold TextR
      rw [if_neg HL.out, HX.out]
    | ok l =>
      rw [hx] at hm
      obtain ⟨v, rfl, hown⟩ := hm
      have HX := hid hx; have HOWN := hid hown
      obtain ⟨a, c, rfl⟩ := own_sl hown
      clear hx hown
      go_wp2_with fail
      have hle := lex_end (by have := HL.out; omega) HX.out
      have HLE := hid hle
      obtain ⟨P, hP⟩ : ∃ P, P = w1.heap.size := ⟨_, rfl⟩
      obtain ⟨w2, hw2⟩ : ∃ w2, w2 = w1.alloc (.cells #[.slice a l.length c, .int .i64 0] 99) := ⟨_, rfl⟩
      have hL2 : Later w1 w2 := hw2 ▸ Later.alloc _ _
      have hob : w2.heap[P]? = some (.cells #[.slice a l.length c, .int .i64 ((0 : Nat) : Int)] 99 (0, 0)) := by rw [hw2, hP]; exact obj_new _ _
      have HP : Hid (PAt w2 P 0 l) := hid ⟨_, hob, toks_of_own (own_keeps HOWN.out (hL2.keeps fun _ => True) fun _ _ => trivial) fun g hg => by have := (HOWN.out.lt g hg).2; omega⟩
      have HENV : Hid (EnvP P w2) := hid ⟨w1, hL2, by omega, HE.out.later HL1.out, HT.out.later HL1.out⟩
      have HPW : Hid (w.heap.size ≤ P ∧ w2.heap.size = P + 1) := hid ⟨by rw [hP]; exact HL1.out.size, by rw [hw2, hP]; simp⟩
      have HL2 := hid (Later.trans _ _ _ HL1.out hL2)
      rw [← hw2, ← hP]
      clear hw2 hP hob hL2 hle
      refine ((parser_all P l.length l 0 w2 (Nat.le_refl _) (by have := HLE.out.2; have := HL.out; omega) HP.out HLE.out.1 (by omega) HENV.out).1 0 (by omega)).mono ?_
      rintro e w3 ⟨hk3, rs, hr, hm⟩
      have HL3 := hid (later_of HL2.out hk3 HPW.out.1)
      have HK3 := hid hk3
      have HR := hid hr
      have HTX : Hid (TextR true s (doneR rs)) := hid (by
        unfold TextR
        rw [if_neg HL.out, HX.out]
        exact ⟨rs, hr, rfl⟩)
      clear hk3 hr
      cases rs with
      | error f =>
        simp only at hm
        unfold Fails at hm
        subst hm
        exact ⟨rfl, HL3.out, .error f, HTX.out, rfl⟩
      | ok x =>
        obtain ⟨v, rfl, hn, hp, he, hl⟩ := hm
        obtain ⟨x, r⟩ := x
        simp only at hn hp he hl
        obtain ⟨t2, r2, rfl, htk, -⟩ := he.cons
        have HN := hid hn; have HP3 := hid hp
        clear hn hp he hl htk
        go_wp2_with fail
        refine (here_any P 0 t2 r2 _ HP3.out).mono ?_
        rintro e w4 ⟨rfl, hL4⟩
        have HL4 := hid hL4
        clear hL4
        unfold Tok.v
        by_cases hk : t2.k = 0
        · have e0 : ((t2.k.toNat : Int) == 0) = true := (byte_eq t2.k 0 (by omega)).trans (decide_eq_true hk)
          have e0' : ((t2.k.toNat : Int) != 0) = false := by rw [bne, e0]; rfl
          have HK := hid hk
          clear hk e0
          go_wp2_with fail
          refine bodyPost_ret (results_tmp rfl _ _ _) rfl ⟨Later.trans _ _ _ HL3.out HL4.out, .ok x, ?_, v, rfl, NodeIn.mono (fun b _ h => ?_) _ _ (NodeIn.kept (HL4.out.keeps (fun b => b ≠ P)) (fun _ h => h.1) _ _ HN.out)⟩
          · have h := HTX.out
            unfold doneR at h
            simp only at h
            rw [if_pos (show (hdT (t2 :: r2)).k = 0 from HK.out)] at h
            exact h
          · have h1 := h.2
            have h2 := HPW.out
            omega
        · have e0 : ((t2.k.toNat : Int) == 0) = false := (byte_eq t2.k 0 (by omega)).trans (decide_eq_false hk)
          have e0' : ((t2.k.toNat : Int) != 0) = true := by rw [bne, e0]; rfl
          have HK := hid hk
          clear hk e0
          go_wp2_with fail
          refine (here_any P 0 t2 r2 _ (HP3.out.later HL4.out)).mono ?_
          rintro e w5 ⟨rfl, hL5⟩
          have HL5 := hid hL5
          clear hL5
          unfold Tok.v
          go_wp2_with fail
          refine (fail_any 1 t2.p _).mono ?_
          rintro e w' ⟨hfl, rfl⟩
          unfold Fails at hfl
          subst hfl
          simp only [Exit.then, Exit.inBlock]
          refine ⟨rfl, Later.trans _ _ _ HL3.out (Later.trans _ _ _ HL4.out HL5.out), .error (1, t2.p), ?_, rfl⟩
          have h := HTX.out
          unfold doneR at h
          simp only at h
          rw [if_neg (show ¬ (hdT (t2 :: r2)).k = 0 from HK.out)] at h
          exact h
end Go.Proofs.YtgajofkeidjbgaaGreatDoor
