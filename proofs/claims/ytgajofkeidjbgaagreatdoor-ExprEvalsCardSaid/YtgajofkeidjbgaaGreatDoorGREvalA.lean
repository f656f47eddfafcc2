/-
  PROVED HERE: a part of the proof of ExprEvals: REvalA.
-/
import Derived.Test.YtgajofkeidjbgaaGreatDoorShort
import Derived.Test.YtgajofkeidjbgaaGreatDoorGRStrict
import Derived.Test.YtgajofkeidjbgaaGreatDoorGRKind3
import Derived.Test.YtgajofkeidjbgaaGreatDoorGEval5
namespace Go.Proofs.YtgajofkeidjbgaaGreatDoor
set_option linter.unusedSimpArgs false
set_option linter.unusedVariables false
set_option maxHeartbeats 4000000
set_option maxRecDepth 100000
open Go.RowKit
def REC (cs : List Col) (row : List Val) (x : Ex) : Prop := ∀ (k : Int) (B : Nat) (S : Nat → Prop) (ao : Option Addr) (c : Nat) (rao : Option Addr) (rc : Nat) (w : World),EIn S w (.pointer (some ⟨B,0,none⟩)) x → ColsEl w ao cs → cs.length ≤ 140737488355328 → ColsOk cs → qcx w (.slice rao row.length rc) row → FitsOk cs row → qef x → qbj x ≤ 1000000 → kindP cs x = .ok k →
 Calls Tryz.prog 16 #[.pointer (some ⟨B,0,none⟩),.slice ao cs.length c,.slice rao row.length rc] w (qar (qby cs row x) w)
theorem argN_le {f : List UInt8} : argN f ≤ 3 := by
 unfold argN qem
 split
 ·omega
 ·rename_i a h
  repeat' split at h
  all_goals (cases h <;> decide)
theorem valOf_size {v : Val} {k : Int} (h : qdv v k) : v.t.size ≤ 1000 := by
 rcases valid_cases h.1 with h | ⟨-,h⟩ | h | h | ⟨-,h⟩
 ·rw [h]; exact (by decide : (0 : Nat) ≤ 1000)
 ·rw [h]; exact (by decide : (0 : Nat) ≤ 1000)
 ·rw [h]; exact (by decide : (0 : Nat) ≤ 1000)
 ·rw [h]; exact (by decide : (0 : Nat) ≤ 1000)
 ·omega
theorem evals_map {cs : List Col} {row : List Val} : ∀ l : List Ex,qbe cs row l = l.map (qby cs row)
 | [] => by unfold qbe; rfl
 | x :: l => by unfold qbe; rw [evals_map l]; rfl
theorem kinds_each {cs : List Col} : ∀ {l : List Ex} {ks : List Int},qbc cs l = .ok ks → ∀ y ∈ l,∃ k,kindP cs y = .ok k
 | [],_,_,y,hy => absurd hy (by simp)
 | x :: l,ks,h,y,hy => by
   unfold qbc at h
   cases hx : kindP cs x with
   | error e => rw [hx] at h; cases h
   | ok k =>
     rw [hx] at h
     simp only at h
     cases hl : qbc cs l with
     | error e => rw [hl] at h; cases h
     | ok ks' =>
       rcases List.mem_cons.1 hy with rfl | hy
       ·exact ⟨k,hx⟩
       ·exact kinds_each hl y hy
theorem rev_parts {cs : List Col} {row : List Val} (hc : ColsOk cs) (hf : FitsOk cs row) {x : Ex} (hi : isKid x = true) (ho : qef x) {k : Int} (hk : kindP cs x = .ok k) :
  (∀ y ∈ qbw x,∃ k,kindP cs y = .ok k) ∧ (qbw x).length ≤ 3 ∧ (isCallE x = true → ¬ argN (qdj x) < 0) ∧ (∀ v ∈ qbe cs row (qbw x),qdr v ∧ v.t.size ≤ 1000) ∧
  docV (qen x) (qdj x) ((qbe cs row (qbw x)).getD 0 qaa) ((qbe cs row (qbw x)).getD 1 qaa) ((qbe cs row (qbw x)).getD 2 qaa) (nullN (qbe cs row (qbw x))) = qby cs row x := by
 have hkk := kind_kids hc hi ho
 rw [hk] at hkk
 have hcall : ¬ (isCallE x = true ∧ argN (qdj x) < 0) := fun h => by rw [if_pos h] at hkk; cases hkk
 rw [if_neg hcall] at hkk
 cases hks : qbc cs (qbw x) with
 | error e => rw [hks] at hkk; cases hkk
 | ok ks =>
   rw [hks] at hkk
   simp only at hkk
   cases hr : resE x ks with
   | none => rw [hr] at hkk; cases hkk
   | some k' =>
     rw [hr] at hkk
     cases hkk
     obtain ⟨hl,h3,hv⟩ := evals_of hc hf (qbw x) ks (kids_ok ho) hks
     have hkl := kinds_len hks
     refine ⟨fun y hy => ?_,?_,fun h h' => hcall ⟨h,h'⟩,fun v hv' => ?_,?_⟩
     ·exact kinds_each hks y hy
     ·cases x with
      | lit v => cases hi
      | name s p => cases hi
      | un neg p y => show 1 ≤ 3; omega
      | bin o p y z => show 2 ≤ 3; omega
      | call f p l =>
        have hr : callD f ks = some k := hr
        have := callD_len hr
        have h4 := argN_le (f := f)
        rw [← hkl]
        omega
     ·obtain ⟨i,hi',rfl⟩ := List.getElem_of_mem hv'
      have := hv i hi' (by omega)
      exact ⟨this.2.1,valOf_size this⟩
     ·cases x with
      | lit v => cases hi
      | name s p => cases hi
      | un neg p y =>
        obtain ⟨a,rfl⟩ := list1 (show ks.length = 1 from by rw [hkl]; rfl)
        have hva : qdv (qby cs row y) a := by
         have h := hv 0 (by rw [hl]; simp) (by simp)
         simpa [qbw,evals_map] using h
        have hr : (if a = (if neg = true then 1 else 2) then some (if neg = true then (1 : Int) else 2) else none) = some k := hr
        by_cases hae : a = (if neg = true then 1 else 2)
        ·subst hae
         have hd := doc_un (neg := neg) (nm := []) hva
         rw [evals_map]
         show docV (unN neg) [] (qby cs row y) qaa qaa (nullN [qby cs row y]) = _
         conv => rhs; unfold qby
         exact hd
        ·rw [if_neg hae] at hr
         cases hr
      | bin o p y z =>
        unfold qef at ho
        obtain ⟨a,b,rfl⟩ : ∃ a b,ks = [a,b] := by
         have hl2 : ks.length = 2 := by rw [hkl]; rfl
         match ks,hl2 with
         | [a,b],_ => exact ⟨a,b,rfl⟩
        have hva : qdv (qby cs row y) a := by
         have h := hv 0 (by rw [hl]; simp) (by simp)
         simpa [qbw,evals_map] using h
        have hvb : qdv (qby cs row z) b := by
         have h := hv 1 (by rw [hl]; simp) (by simp)
         simpa [qbw,evals_map] using h
        have hr : binK o a b = some k := hr
        rw [evals_map]
        show docV o [] (qby cs row y) (qby cs row z) qaa (nullN [qby cs row y,qby cs row z]) = _
        conv => rhs; unfold qby
        exact doc_bin (nm := []) ho.1 hva hvb hr
      | call f p l =>
        have hr : callD f ks = some k := hr
        unfold qby
        exact doc_call hl hv h3 (by rw [call_same h3]; exact hr)
theorem nullN_append (l : List Val) (v : Val) : nullN (l ++ [v]) = nullN l + if v.k = 0 then 1 else 0 := by
 unfold nullN
 rw [List.filter_append,List.length_append]
 by_cases h : v.k = 0 <;> simp [h]
theorem rstrict_any {x : Ex} (hi : isKid x = true) (ho : qef x) (B : Nat) (a b : Val) (w : World) (hX : w.cell? ⟨B,0,none⟩ = some (.string (qah (qen x)))) (hN : isCallE x = true → w.cell? ⟨B,6,none⟩ = some (.string (qah (qdj x))) ∧ (qdj x = lenW ∨ qdj x = absW ∨ qdj x = cutW))
  (hn : qdr a) (hs : a.t.size ≤ 1000 ∧ b.t.size ≤ 1000) : Calls Tryz.prog 35 #[.pointer (some ⟨B,0,none⟩),a.v,b.v] w (qar (qat (qen x) (qdj x) a b) w) := by
 cases x with
 | lit v => cases hi
 | name s p => cases hi
 | un neg p y =>
   cases neg
   ·exact rs_not B [] a b w hX
   ·exact rs_minus B [] a b w hX
 | bin o p y z =>
   unfold qef at ho
   rcases opsW_cases ho.1 with rfl | rfl | rfl | rfl | rfl | rfl | rfl | rfl | rfl | rfl | rfl | rfl | rfl | rfl
   ·exact rs_or B [] a b w hX
   ·exact rs_and B [] a b w hX
   ·exact rs_eq B [] a b w hX
   ·exact rs_ne B [] a b w hX
   ·exact rs_lt B [] a b w hX
   ·exact rs_le B [] a b w hX
   ·exact rs_gt B [] a b w hX
   ·exact rs_ge B [] a b w hX
   ·exact rs_add B [] a b w hX
   ·exact rs_sub B [] a b w hX
   ·exact rs_cat B [] a b hs w hX
   ·exact rs_mul B [] a b w hX
   ·exact rs_quo B [] a b w hX
   ·exact rs_rem B [] a b hn w hX
 | call f p l =>
   obtain ⟨h6,hf⟩ := hN rfl
   have h6 : w.cell? ⟨B,6,none⟩ = some (.string (qah f)) := h6
   have hf : f = lenW ∨ f = absW ∨ f = cutW := hf
   rcases hf with rfl | rfl | rfl
   ·exact rs_len B a b w hX h6
   ·exact rs_abs B a b w hX h6
   ·exact rs_cut B a b w hX h6
theorem rec_lit (cs : List Col) (row : List Val) (v : Val) : REC cs row (.lit v) := by
 intro k B S ao c rao rc w hn hel hlen hc hr hf ho hcost hk
 unfold EIn at hn
 obtain ⟨B',p,a,nm,-,hB,hobj⟩ := hn
 obtain rfl := ptr_inj hB
 obtain ⟨sv,hsv⟩ : ∃ s,s = qah valueN := ⟨_,rfl⟩
 rw [← hsv] at hobj
 have e1 : (sv.toList == [118,97,108,117,101]) = true := qay valueN hsv
 obtain ⟨w1,hw1,hL1,hR1⟩ := qei w
 have hobj1 := hL1.obj hobj
 have c0 : w1.cell? ⟨B,0,none⟩ = some (.string sv) := qac (i := 0) hobj1 rfl
 have c3 : w1.cell? ⟨B,3,none⟩ = some (.int .i64 v.k) := qac (i := 3) hobj1 rfl
 have c4 : w1.cell? ⟨B,4,none⟩ = some (.int .i64 v.n) := qac (i := 4) hobj1 rfl
 have c5 : w1.cell? ⟨B,5,none⟩ = some (.string v.t) := qac (i := 5) hobj1 rfl
 have hlt := qad c0
 obtain ⟨r0,r1,r2,f0,f1,f2,rl⟩ := hR1.cells
 simp only [qaa] at r0 r1 r2
 have HL1 := hid hL1; have HR1 := hid hR1
 clear hel hlen hc ho hcost hobj hobj1 hB hsv hr hf hk hL1 hR1
 go_enter Tryz.func16,Tryz.ntmps16
 go_upto_region 1 with (fail)
 rw [← hw1]
 clear hw1
 go_wp2_with fail
 refine bodyPost_ret (qaf rfl rfl (HR1.out.set v)) rfl ⟨?_,qae HL1.out (Nat.le_refl _) v⟩
 unfold qby
 rfl
theorem rec_name (cs : List Col) (row : List Val) (s : List UInt8) (p : Nat) : REC cs row (.name s p) := by
 intro k B S ao c rao rc w hn hel hlen hc hr hf ho hcost hk
 unfold EIn at hn
 obtain ⟨B',a,v1,v2,v3,-,hB,hobj⟩ := hn
 obtain rfl := ptr_inj hB
 obtain ⟨sv,hsv⟩ : ∃ s,s = qah nameN := ⟨_,rfl⟩
 rw [← hsv] at hobj
 have e1 := qab [118,97,108,117,101] hsv (by decide)
 have e2 : (sv.toList == [110,97,109,101]) = true := qay nameN hsv
 unfold kindP at hk
 cases hi : colAt cs s with
 | none => rw [hi] at hk; cases hk
 | some i =>
   have HI := hid hi
   obtain ⟨hic,-⟩ := colAt_some hi
   have hir : i < row.length := by have := hf.1; omega
   obtain ⟨w1,hw1,hL1,hR1⟩ := qei w
   obtain ⟨a',c',hv,-,he⟩ := val_at (vals_go hr hL1)
   obtain ⟨b,o,hao,p0,p1,p2⟩ := he i hir
   simp only [Value.slice.injEq] at hv
   obtain ⟨rfl,-,rfl⟩ := hv
   subst hao
   obtain ⟨y,hy⟩ : ∃ y,row[i]'hir = y := ⟨_,rfl⟩
   rw [hy] at p0 p1 p2
   have HGY : Hid (row.getD i qaa = y) := hid (by rw [List.getD_eq_getElem?_getD,List.getElem?_eq_getElem hir,← hy]; rfl)
   have hpl := qad p0
   have hobj1 := hL1.obj hobj
   have c0 : w1.cell? ⟨B,0,none⟩ = some (.string sv) := qac (i := 0) hobj1 rfl
   have c6 : w1.cell? ⟨B,6,none⟩ = some (.string (qah s)) := qac (i := 6) hobj1 rfl
   have hlt := qad c0
   obtain ⟨r0,r1,r2,f0,f1,f2,rl⟩ := hR1.cells
   simp only [qaa] at r0 r1 r2
   have hii : idxI (some i) = (i : Int) := rfl
   have hi0 : (0 : Int) ≤ i := by omega
   have hi1 : (i : Int) < row.length := by omega
   have HAT := hid (rat_any ao c cs s w1 (cols_later hel hL1) hlen)
   have HL1 := hid hL1; have HR1 := hid hR1
   rw [hi,hii] at HAT
   clear hel hlen hc ho hcost hobj hobj1 hB hsv hr hf hk hL1 hR1 he hy hii hi hic
   go_enter Tryz.func16,Tryz.ntmps16
   go_upto_region 1 with (fail)
   rw [← hw1]
   clear hw1
   go_wp2_with fail
   refine HAT.out.mono ?_
   rintro e w' ⟨rfl,hw'⟩
   subst w'
   go_wp2_with fail
   refine bodyPost_ret (qaf rfl rfl (HR1.out.set y)) rfl ⟨?_,qae HL1.out (Nat.le_refl _) y⟩
   unfold qby
   rw [HI.out]
   simp only
   rw [HGY.out]
end Go.Proofs.YtgajofkeidjbgaaGreatDoor
