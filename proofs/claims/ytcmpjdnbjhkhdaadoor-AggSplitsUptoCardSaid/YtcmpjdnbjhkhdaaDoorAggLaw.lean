/-
  PROVED HERE: the contract of the law's own valid.
-/
import Derived.Test.YtcmpjdnbjhkhdaaDoorAggRef
import Derived.Test.YtcmpjdnbjhkhdaaDoorTold
namespace Go.Proofs.YtcmpjdnbjhkhdaaDoor
set_option linter.unusedSimpArgs false
set_option linter.unusedVariables false
open Go.RowKit

theorem fold_any (kind : Int) (l : List TV) (v : Value) (w : World) (hv : IsTimeds w v l) (hlen : l.length * 40 ≤ 140737488355328) : Calls Tryd.prog 10 #[.int .i64 kind, v] w (FoldTo kind l w) := by
  by_cases hk : 1 ≤ kind ∧ kind ≤ 7
  · exact fold_good kind hk.1 hk.2 l v w hv hlen
  · exact fold_bad kind l v w hk
set_option maxRecDepth 100000 in
theorem lvalid_any (l : List TV) (v : Value) (w : World) (hv : IsTimeds w v l) (hlen : l.length * 40 ≤ 140737488355328) : Calls Tryd.prog 12 #[v] w (BoolTo w (okT l)) := by
  obtain ⟨p, c, rfl, hlc, hcm, -, he⟩ := hv
  have HE := hid he; have HLEN := hid hlen
  clear he hlc hcm hlen
  go_enter Tryd.func12, Tryd.ntmps12
  go_wp2_with fail
  obtain ⟨R1, hR1⟩ : ∃ RR_ : (Nat → Value) → World → Prop, RR_ = (fun us wx => ∃ n : Nat, us 3 = .int .i64 n ∧ n ≤ l.length ∧ okT (l.take n) = true ∧ Later w wx) := ⟨_, rfl⟩
  obtain ⟨mu1, hmu1⟩ : ∃ mu : (Nat → Value) → World → Nat, mu = (fun us _ => l.length - (intOf (us 3)).toNat) := ⟨_, rfl⟩
  have HR1 := hid hR1; have Hmu1 := hid hmu1; clear hR1 hmu1
  refine wp_loop_frame' [false, false, true, true, true, true, true, true, true, true, true, true, true, true, true, true, true, true, true] R1 _ mu1 HR1.out ?_ ?_
  · exact ⟨0, rfl, Nat.zero_le _, rfl, Later.refl _⟩
  intro us1 wx hrel
  obtain ⟨n, h3, hn, hok, hL⟩ := hrel
  simp only [frameOf, Nat.reduceAdd, h3]
  have Hh3 := hid h3; clear h3
  have HN := hid hn; have HOK := hid hok; have HL := hid hL
  clear hn hok hL
  by_cases hnl : n < l.length
  · have HW : Hid (wrap64 ((n : Int) + 1) = ((n + 1 : Nat) : Int)) := hid (by have := HLEN.out; unfold wrap64; omega)
    obtain ⟨b1, o1, rfl, -, e1⟩ := HE.out n hnl
    obtain ⟨-, p1, p2, p3⟩ := e1.later HL.out
    clear e1
    have hl1 : b1 < wx.heap.size := cell_lt p1
    have HTK : Hid (okT (l.take (n + 1)) = (okT (l.take n) && validV l[n].val)) := hid (by
      unfold okT
      rw [List.take_succ_eq_append_getElem hnl, List.all_append]
      simp)
    have HNO : Hid (validV l[n].val = false → okT l = false) := hid (fun hval => by
      have h := HTK.out
      rw [hval, Bool.and_false] at h
      unfold okT at *
      rw [← Bool.not_eq_true, List.all_eq_true] at h ⊢
      exact fun k => h fun x hx => k x (List.mem_of_mem_take hx))
    generalize l[n] = t at *
    obtain ⟨ti, tk, tn, tt⟩ := t
    go_wp2_with fail
    refine (rvalid_any ⟨tk, tn, tt⟩ wx).mono ?_
    rintro e w2 ⟨rfl, hL2⟩
    have HL2 := hid (Later.trans _ _ _ HL.out hL2)
    clear hL2 p1 p2 p3 hl1
    cases hval : validV ⟨tk, tn, tt⟩ with
    | false =>
      have HF := hid (HNO.out hval)
      go_wp2_with fail
      go_ret
      exact ⟨ret_bool HF.out.symm, HL2.out⟩
    | true =>
      have HV := hid hval
      clear hval
      go_wp2_with fail
      rw [HW.out]
      refine Round.mk' HR1.out Hmu1.out rfl ?_ ?_
      · exact ⟨n + 1, rfl, hnl, by rw [HTK.out, HOK.out, HV.out]; rfl, HL2.out⟩
      · simp only [slots, List.getD_cons_succ, List.getD_cons_zero, Hh3.out, intOf, Int.toNat_natCast]
        omega
  · have hnl' : n = l.length := by have := HN.out; omega
    subst hnl'
    have HF : Hid (okT l = true) := hid (by have := HOK.out; rwa [List.take_length] at this)
    clear HOK
    go_wp2_with fail
    go_ret
    exact ⟨ret_bool HF.out.symm, HL.out⟩
end Go.Proofs.YtcmpjdnbjhkhdaaDoor
