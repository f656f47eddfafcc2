/-
  PROVED HERE: a part of the proof of ExprEvals: LevelOf, Caught, CostP, KindOf1.
-/
import Derived.Test.YtgajofkeidjbgaaGreatDoorShort
import Derived.Test.YtgajofkeidjbgaaGreatDoorGTabExpr
import Derived.Test.YtgajofkeidjbgaaGreatDoorShelf3
import Derived.Test.YtgajofkeidjbgaaGreatDoorGExprKind
import Derived.Test.YtgajofkeidjbgaaGreatDoorGParUn2
import Derived.Defers
import Derived.Recover
import Derived.Deep.RegionHeld
import Derived.Laws.Pointers
import Derived.Test.YtgajofkeidjbgaaGreatDoorGParCall
import Derived.Test.YtgajofkeidjbgaaGreatDoorGExprIdx
namespace Go.Proofs.YtgajofkeidjbgaaGreatDoor
set_option linter.unusedSimpArgs false
set_option linter.unusedVariables false
set_option maxHeartbeats 2000000
set_option maxRecDepth 100000
open Go.RowKit
theorem list_has (xs : List (List UInt8)) (l : List UInt8) : Lib.containsS (xs.map qah) (qah l) = decide (l ∈ xs) := by
 rw [Bool.eq_iff_iff,Lib.containsS_iff,decide_eq_true_eq]
 constructor
 ·intro h
  obtain ⟨x,hx,he⟩ := List.mem_map.1 h
  have : x = l := by rw [← qan x,he,qan]
  rw [← this]; exact hx
 ·exact fun h => List.mem_map.2 ⟨l,h,rfl⟩
theorem contains_any (b : Nat) (xs : List (List UInt8)) (l : List UInt8) (w : World) (hx : xs.length ≤ 1000) (h : qdh w b 0 xs) :
  Calls Tryz.prog 101 #[.slice (some ⟨b,0,none⟩) xs.length xs.length,.string (qah l)] w fun e w' => e = .returned (.bool (decide (l ∈ xs))) ∧ w' = w := by
 refine (Tryz.slices_Contains_string b 0 xs.length xs.length (xs.map qah) (qah l) w (by simp) (by omega) (fun j hj => ?_)).mono ?_
 ·have hj' : j < xs.length := by simpa using hj
  rw [h j hj',List.getD_eq_getElem?_getD,List.getElem?_map,List.getElem?_eq_getElem hj']
  rfl
 ·rintro e w' ⟨rfl,rfl⟩
  rw [List.take_of_length_le (by simp),list_has]
  exact ⟨rfl,rfl⟩
theorem level1_any (X b : Nat) (xs : List (List UInt8)) (o : List UInt8) (w : World) (hx : xs.length ≤ 1000) (hX : w.cell? ⟨X,0,none⟩ = some (.string (qah o))) (h : qdh w b 0 xs) :
  Calls Tryz.prog 103 #[.slice (some ⟨b,0,none⟩) xs.length xs.length,.pointer (some ⟨X,0,none⟩)] w fun e w' => e = .returned (.bool (decide (o ∈ xs))) ∧ w' = w := by
 have HS := hid h
 clear h
 go_enter Tryz.func103,Tryz.ntmps103
 go_wp2_with fail
 refine (contains_any b xs o w hx HS.out).mono ?_
 rintro e w' ⟨rfl,hw⟩
 subst hw
 obtain ⟨bb,hbb⟩ : ∃ b,decide (o ∈ xs) = b := ⟨_,rfl⟩
 rw [hbb]
 go_wp2_with fail
 exact bodyPost_ret (results_tmp rfl _ _ _) rfl ⟨by rw [hbb]; rfl,rfl⟩
theorem lvl_small : ∀ L,(qaw L).length ≤ 1000
 | 0 => by decide
 | 1 => by decide
 | 2 => by decide
 | 3 => by decide
 | 4 => by decide
 | _ + 5 => by show 0 ≤ _; omega
theorem level_first {o : List UInt8} (ho : o ∈ opsW) : qct o < 5 ∧ o ∈ qaw (qct o) ∧ ∀ j,j < qct o → o ∉ qaw j := by
 rcases opsW_cases ho with rfl | rfl | rfl | rfl | rfl | rfl | rfl | rfl | rfl | rfl | rfl | rfl | rfl | rfl <;> decide
theorem idxl (X B : Nat) (o : List UInt8) (ho : o ∈ opsW) (w : World) (S : Nat → Prop) (hX : w.cell? ⟨X,0,none⟩ = some (.string (qah o))) (hl : LevelsAt S w (.slice (some ⟨B,0,none⟩) 5 5)) :
  Calls Tryz.prog 102 #[.slice (some ⟨B,0,none⟩) 5 5,.func (.func 103) #[] #[.pointer (some ⟨X,0,none⟩)]] w fun e w' => e = .returned (.int .i64 (qct o : Int)) ∧ w' = w := by
 have HL := hid hl; have HX := hid hX; have HO := hid (level_first ho)
 have hent : ∀ args w,(callFunc 103 args).run Tryz.prog w = .ok (.enter 103 args) w := enters_of Tryz.func103 (by kernel_rfl) rfl
 clear hX hl ho
 go_enter Tryz.func102,Tryz.ntmps102
 go_wp2_with fail
 obtain ⟨R1,hR1⟩ : ∃ RR_ : (Nat → Value) → World → Prop,RR_ = (fun us wx => ∃ k : Nat,us 8 = .int .i64 k ∧ k ≤ qct o ∧ wx = w) := ⟨_,rfl⟩
 obtain ⟨mu1,hmu1⟩ : ∃ mu : (Nat → Value) → World → Nat,mu = (fun us _ => 5 - (intOf (us 8)).toNat) := ⟨_,rfl⟩
 have HR1 := hid hR1; have Hmu1 := hid hmu1; clear hR1 hmu1
 refine qal [ff,ff,ff,ff,true,true,ff,ff,true,true,true,true,true,true,true,true,true,true,true] R1 _ mu1 HR1.out ?_ ?_
 ·exact ⟨0,rfl,Nat.zero_le _,rfl⟩
 intro us1 wx hrel
 obtain ⟨k,h8,hk,hw⟩ := hrel
 simp only [qao,Nat.reduceAdd,h8]
 have Hh8 := hid h8; clear h8
 subst hw
 have HK := hid hk
 have hk5 : (k : Int) < 5 := by have := HO.out.1; omega
 have HK5 : Hid (k < 5) := hid (by omega)
 clear hk
 obtain ⟨b,hb,hstr⟩ : ∃ b,wx.cell? ⟨B,k,none⟩ = some (.slice (some ⟨b,0,none⟩) (qaw k).length (qaw k).length) ∧ qdh wx b 0 (qaw k) := by
  obtain ⟨B',hB',-,hk'⟩ := HL.out
  simp only [Value.slice.injEq,Option.some.injEq,Addr.mk.injEq,and_true] at hB'
  obtain rfl := hB'
  obtain ⟨b,-,h1,h2⟩ := hk' k HK5.out
  exact ⟨b,h1,h2⟩
 have HSTR := hid hstr
 have hg := qad hb
 have HWK : Hid (wrap64 ((k : Int) + 1) = ((k + 1 : Nat) : Int)) := hid (by have := HK5.out; unfold wrap64; omega)
 clear hstr
 go_wp2_with fail
 refine (level1_any X b (qaw k) o _ (lvl_small k) HX.out HSTR.out).mono ?_
 rintro e w1 ⟨rfl,hw1⟩
 subst hw1
 by_cases hq : o ∈ qaw k
 ·have hkl : k = qct o := by
   have h1 := HK.out
   have h2 := HO.out.2.2 k
   rcases Nat.lt_or_ge k (qct o) with h | h
   ·exact absurd hq (h2 h)
   ·omega
  have HKL := hid hkl
  rw [decide_eq_true hq]
  clear hq hkl hb
  go_wp2_with fail
  go_ret
  exact ⟨by rw [← HKL.out]; rfl,rfl⟩
 ·have hkl : k < qct o := by
   have h1 := HK.out
   rcases Nat.lt_or_ge k (qct o) with h | h
   ·exact h
   ·have : k = qct o := by omega
    exact absurd (this ▸ HO.out.2.1) hq
  have HKL := hid hkl
  rw [decide_eq_false hq]
  clear hq hkl hb
  go_wp2_with fail
  try simp only [HWK.out]
  refine Round.mk' HR1.out Hmu1.out rfl ?_ ?_
  ·exact ⟨k + 1,rfl,HKL.out,rfl⟩
  ·rw [Hh8.out]; have := HK5.out; simp [intOf,qas]; omega
theorem levelOf_any (o : List UInt8) (ho : o ∈ opsW) (w : World) : Calls Tryz.prog 87 #[.string (qah o)] w fun e w' => e = .returned (.int .i64 (qct o : Int)) ∧ qag w w' := by
 have HO := hid ho
 clear ho
 go_enter Tryz.func87,Tryz.ntmps87
 go_wp2_with fail
 refine (levels_any _).mono ?_
 rintro e w1 ⟨v,rfl,hlv,hL1⟩
 have hX := hL1.cell (qac (i := 0) (qap w (.cells #[.string (qah o)] 9)) rfl)
 have HLW := hid (qag.trans _ _ _ (qag.alloc w (.cells #[.string (qah o)] 9)) hL1)
 have HLV := hid hlv
 have HX := hid hX
 obtain ⟨B,rfl,-⟩ := id hlv
 clear hL1 hlv hX
 go_wp2_with fail
 refine (idxl w.heap.size B o HO.out w1 _ HX.out HLV.out).mono ?_
 rintro e w2 ⟨rfl,hw⟩
 subst hw
 go_wp2_with fail
 exact bodyPost_ret (results_tmp rfl _ _ _) rfl ⟨rfl,HLW.out⟩
def errV (c : Int) : Value := .iface 29 (.int .i64 c)
theorem assert_fault (c p : Int) (w : World) : (Instr.typeAssert (.iface 93 (.agg #[.int .i64 c,.int .i64 p])) 20 93 true).run Tryz.prog w = .ok (.tuple #[.agg #[.int .i64 c,.int .i64 p],.bool true]) w := by kernel_rfl
theorem assert_none (w : World) : (Instr.typeAssert .nilIface 20 93 true).run Tryz.prog w = .ok (.tuple #[.agg #[.int .i64 0,.int .i64 0],.bool false]) w := by kernel_rfl
attribute [local go_sem high] assert_fault assert_none
theorem caught1_panicking (A B : Nat) (x : Int) (y : Value) (c : Int) (p : Nat) (w : World) (hA : w.heap[A]? = some (.cells #[.int .i64 x] 3 (0,0))) (hB : w.heap[B]? = some (.cells #[y] 23 (0,0))) (hAB : A ≠ B) :
  CallsD Tryz.prog 36 #[.pointer (some ⟨A,0,none⟩),.pointer (some ⟨B,0,none⟩)] (.panicking [{ v := faultV c p,recovered := false }]) w fun e u' w' =>
   e = .returned (.tuple #[]) ∧ u' = .panicking [{ v := faultV c p,recovered := true }] ∧ Keeps (fun b => b ≠ A ∧ b ≠ B) w w' ∧ w'.heap[A]? = some (.cells #[.int .i64 (p : Int)] 3 (0,0)) ∧ w'.heap[B]? = some (.cells #[errV c] 23 (0,0)) := by
 refine callsD_of_wpS Tryz.func36 rfl fun c₀ cs hu => ?_
 apply wpS_seq
 apply wpS_region
 simp [wpOpsS,go_sem,recoverD,hu,Tryz.ntmps36,Exit.thenS]
 have hfr : ∀ v : Value,(#[.pointer (some ⟨A,0,none⟩),.pointer (some ⟨B,0,none⟩)] ++ (((Array.replicate 18 undef).setIfInBounds 3 v).setIfInBounds 0 v) : Array Value) = #[.pointer (some ⟨A,0,none⟩),.pointer (some ⟨B,0,none⟩),v,undef,undef,v,undef,undef,undef,undef,undef,undef,undef,undef,undef,undef,undef,undef,undef,undef] := fun v => by simp [Array.replicate,List.replicate]
 rw [hfr]
 clear hfr
 refine wpS_of_wp ?_
 unfold faultV
 have ha0 := qac (i := 0) hA rfl
 have hb0 := qac (i := 0) hB rfl
 have za := qaq (i := 0) hA
 have zb := qaq (i := 0) hB
 have hla := qad ha0
 have hlb := qad hb0
 go_wp2_with fail
 obtain ⟨w1,hw1⟩ : ∃ w1,w1 = w.alloc (.cells #[.int .i64 c,.int .i64 (p : Int)] 93 (0,0)) := ⟨_,rfl⟩
 obtain ⟨F,hF⟩ : ∃ F,F = w.heap.size := ⟨_,rfl⟩
 have hL : qag w w1 := hw1 ▸ qag.alloc _ _
 have hF1 : w1.heap[F]? = some (.cells #[.int .i64 c,.int .i64 (p : Int)] 93 (0,0)) := by rw [hw1,hF]; exact qap _ _
 have hFA : F ≠ A := by rw [hF]; omega
 have hFB : F ≠ B := by rw [hF]; omega
 rw [← hw1,← hF]
 clear hw1 hF ha0 hb0 za zb
 have HA := hid (hL.obj hA); have HB := hid (hL.obj hB); have HL := hid hL; have HFA := hid hFA; have HFB := hid hFB; have HAB := hid hAB
 clear hL hA hB hFA hFB hAB hla hlb
 refine wp_region_held_drew (S := fun w => w.cell? ⟨F,0,none⟩ = some (.int .i64 c) ∧ w.cell? ⟨F,1,none⟩ = some (.int .i64 (p : Int))) (by kernel_rfl) ⟨(qag.drew w1).cell (qac (i := 0) hF1 rfl),(qag.drew w1).cell (qac (i := 1) hF1 rfl)⟩ (fun hS => ?_)
 refine tH 0 (.pointer (some ⟨F,1,none⟩)) rfl (by kernel_rfl) (fun _ _ _ h => h) ⟨by rfl,?_⟩ hS ?_
 ·intro w hS
  go_simp
 refine tH 1 (.int .i64 (p : Int)) rfl (by kernel_rfl) (fun _ _ _ h => h) ⟨by rfl,?_⟩ hS ?_
 ·intro w hS
  obtain ⟨h0,h1⟩ := hS
  go_simp
 refine tH 2 (.pointer (some ⟨F,0,none⟩)) rfl (by kernel_rfl) (fun _ _ _ h => h) ⟨by rfl,?_⟩ hS ?_
 ·intro w hS
  go_simp
 refine tH 3 (.int .i64 c) rfl (by kernel_rfl) (fun _ _ _ h => h) ⟨by rfl,?_⟩ hS ?_
 ·intro w hS
  obtain ⟨h0,h1⟩ := hS
  go_simp
 refine tH 4 (errV c) rfl (by kernel_rfl) (fun _ _ _ h => h) ⟨by rfl,?_⟩ hS ?_
 ·intro w hS
  unfold errV
  go_simp
 try simp only [Act.put,sib,List.set]
 refine wpAnyH_ready (rs := [5]) (by kernel_rfl) (by simp) (AllReadyH.cons rfl (fun K hK => ?_) AllReadyH.nil)
 have za := qaq (i := 0) ((qag.drew w1).obj HA.out)
 have ha0 := qac (i := 0) ((qag.drew w1).obj HA.out) rfl
 go_simp
 have hk : Keeps (fun b => b ≠ A) w1 (w1.setCell ⟨A,0,none⟩ (.int .i64 (p : Int))).drew := ((Keeps.refl _ w1).setCell (p := ⟨A,0,none⟩) (.inl fun h => h rfl) _).trans ((qag.drew _).keeps _)
 have HA2 : Hid ((w1.setCell ⟨A,0,none⟩ (.int .i64 (p : Int))).drew.heap[A]? = some (.cells #[.int .i64 (p : Int)] 3 (0,0))) := hid ((qag.drew _).obj (qak (i := 0) HA.out _))
 have HB2 := hid (hk.obj (Ne.symm HAB.out) HB.out)
 have hF2 := hk.obj HFA.out hF1
 have HK2 := hid hk
 obtain ⟨w2,hw2⟩ : ∃ w2,w2 = (w1.setCell ⟨A,0,none⟩ (.int .i64 (p : Int))).drew := ⟨_,rfl⟩
 rw [← hw2] at HA2 HB2 hF2 HK2 ⊢
 clear hw2 hk za ha0 hS hF1
 refine hK.out _ _ ⟨qac (i := 0) hF2 rfl,qac (i := 1) hF2 rfl⟩ (fun hS => ?_)
 clear hK K
 try simp only [Act.put,sib,List.set]
 refine wpAnyH_ready (rs := [6]) (by kernel_rfl) (by simp) (AllReadyH.cons rfl (fun K hK => ?_) AllReadyH.nil)
 have zb := qaq (i := 0) HB2.out
 have hb0 := qac (i := 0) HB2.out rfl
 unfold errV
 go_simp
 have hk : Keeps (fun b => b ≠ B) w2 (w2.setCell ⟨B,0,none⟩ (.iface 29 (.int .i64 c))) := (Keeps.refl _ w2).setCell (p := ⟨B,0,none⟩) (.inl fun h => h rfl) _
 have HA3 := hid (hk.obj HAB.out HA2.out)
 have HB3 := hid (qak (i := 0) HB2.out (.iface 29 (.int .i64 c)))
 have hF3 := hk.obj HFB.out hF2
 have HK3 := hid hk
 refine hK.out _ _ ⟨qac (i := 0) hF3 rfl,qac (i := 1) hF3 rfl⟩ (fun hS => ?_)
 clear hK K hk hS zb hb0 hF2 hF3
 refine wpAnyH_done (by kernel_rfl) ?_ _
 go_wp2_with fail
 have hkk : Keeps (fun b => ¬ b = A ∧ ¬ b = B) w (w2.setCell ⟨B,0,none⟩ (.iface 29 (.int .i64 c))) := ((HL.out.keeps _).trans (HK2.out.mono fun b _ h => h.1)).trans (HK3.out.mono fun b _ h => h.2)
 have hA3 := HA3.out
 have hB3 := HB3.out
 simp [bodyPostS,results,Tryz.results36,go_sem,errV]
 exact ⟨hkk,hA3,hB3⟩
theorem caught1_idle (A B : Nat) (w : World) :
  CallsD Tryz.prog 36 #[.pointer (some ⟨A,0,none⟩),.pointer (some ⟨B,0,none⟩)] .returning w fun e u' w' => e = .returned (.tuple #[]) ∧ u' = .returning ∧ qag w w' := by
 refine callsD_of_wpS Tryz.func36 rfl fun c₀ cs hu => ?_
 apply wpS_seq
 apply wpS_region
 simp [wpOpsS,go_sem,recoverD,hu,Tryz.ntmps36,Exit.thenS]
 have hfr : ∀ v : Value,(#[.pointer (some ⟨A,0,none⟩),.pointer (some ⟨B,0,none⟩)] ++ (((Array.replicate 18 undef).setIfInBounds 3 v).setIfInBounds 0 v) : Array Value) = #[.pointer (some ⟨A,0,none⟩),.pointer (some ⟨B,0,none⟩),v,undef,undef,v,undef,undef,undef,undef,undef,undef,undef,undef,undef,undef,undef,undef,undef,undef] := fun v => by simp [Array.replicate,List.replicate]
 rw [hfr]
 clear hfr
 refine wpS_of_wp ?_
 go_wp2_with fail
 have hL := qag.alloc w (.cells #[.int .i64 0,.int .i64 0] 93 (0,0))
 cases c₀
 simp_all [bodyPostS,results,Tryz.results36]
def CaughtTo (w : World) (G : World → Prop) (Bd : Int → Nat → World → Prop) (e : Ending) (w' : World) : Prop :=
 ∃ w2,Keeps (fun b => b ≠ w.heap.size ∧ b ≠ w.heap.size + 1) w2 w' ∧ ((e = .returned (.tuple #[.int .i64 0,.nilIface]) ∧ G w2) ∨ ∃ c p,e = .returned (.tuple #[.int .i64 ((p : Nat) : Int),errV c]) ∧ Bd c p w2)
theorem caught_any (F : FuncId) (hent : ∀ args w,(callFunc F args).run Tryz.prog w = .ok (.enter F args) w) (caps : Array Value) (w : World) (G : World → Prop) (Bd : Int → Nat → World → Prop)
  (hdo : ∀ w1,qag w w1 → w1.heap.size = w.heap.size + 2 → Calls Tryz.prog F caps w1 (fun e w2 => Keeps (fun b => b = w.heap.size ∨ b = w.heap.size + 1) w1 w2 ∧ ((e = .returned (.tuple #[]) ∧ G w2) ∨ ∃ c p,qbr c p e ∧ Bd c p w2))) :
  Calls Tryz.prog 17 #[.func (.func F) #[] caps] w (CaughtTo w G Bd) := by
 have hmf : ∀ (fn : Fn) (first cap : Array Value) (w : World),(Instr.makeFunc fn first cap).run Tryz.prog w = .ok (.func fn first cap) w := fun _ _ _ _ => rfl
 have HDO := hid hdo
 clear hdo
 go_enter_defers Tryz.func17,Tryz.ntmps17
 go_wp2_with fail
 obtain ⟨w1,hw1⟩ : ∃ w1,w1 = (w.alloc (.cells #[.int .i64 0] 3)).alloc (.cells #[.nilIface] 23) := ⟨_,rfl⟩
 have hA : w1.heap[w.heap.size]? = some (.cells #[.int .i64 0] 3 (0,0)) := by rw [hw1]; exact (qag.alloc _ _).obj (qap w _)
 have hB : w1.heap[w.heap.size + 1]? = some (.cells #[.nilIface] 23 (0,0)) := by rw [hw1]; exact qcp (by simp)
 have hL : qag w w1 := by rw [hw1]; exact (qag.alloc w _).alloc' _
 have hS : w1.heap.size = w.heap.size + 2 := by rw [hw1]; simp
 rw [← hw1]
 clear hw1
 refine (HDO.out w1 hL hS).mono ?_
 rintro e w2 ⟨hk,hc⟩
 have HA2 := hid (hk.obj (.inl rfl) hA)
 have HB2 := hid (hk.obj (.inr rfl) hB)
 clear hk hA hB hL hS HDO
 rcases hc with ⟨rfl,hG⟩ | ⟨c,p,hf,hBd⟩
 ·have HG := hid hG
  have za := qaq (i := 0) HA2.out
  have zb := qaq (i := 0) HB2.out
  have a0 := qac (i := 0) HA2.out rfl
  have b0 := qac (i := 0) HB2.out rfl
  clear hG
  go_wp2_with fail
  have hkA : Keeps (fun b => b ≠ w.heap.size) w2 (w2.setCell ⟨w.heap.size,0,none⟩ (.int .i64 0)) := (Keeps.refl _ w2).setCell (p := ⟨w.heap.size,0,none⟩) (.inl fun h => h rfl) _
  have hkB : Keeps (fun b => b ≠ w.heap.size + 1) (w2.setCell ⟨w.heap.size,0,none⟩ (.int .i64 0)) ((w2.setCell ⟨w.heap.size,0,none⟩ (.int .i64 0)).setCell ⟨w.heap.size + 1,0,none⟩ .nilIface) := (Keeps.refl _ _).setCell (p := ⟨w.heap.size + 1,0,none⟩) (.inl fun h => h rfl) _
  have hA3 := hkB.obj (by omega) (qak (i := 0) HA2.out (.int .i64 0))
  have hB3 := qak (i := 0) (hkA.obj (by omega) HB2.out) .nilIface
  have HK3 := hid ((hkA.mono (S' := fun b => b ≠ w.heap.size ∧ b ≠ w.heap.size + 1) fun b _ h => h.1).trans (hkB.mono fun b _ h => h.2))
  refine leaves_cons (f := 36) (args := #[.pointer (some ⟨w.heap.size,0,none⟩),.pointer (some ⟨w.heap.size + 1,0,none⟩)]) (by simp) (by simp [go_sem]) ?_
  refine (caught1_idle w.heap.size (w.heap.size + 1) _).mono ?_
  rintro e u' w3 ⟨rfl,rfl,hL3⟩
  have ya := qac (i := 0) (hL3.obj hA3) rfl
  have yb := qac (i := 0) (hL3.obj hB3) rfl
  have HC : Hid (CaughtTo w G Bd (.returned (.tuple #[.int .i64 0,.nilIface])) w3) := hid ⟨w2,HK3.out.trans (hL3.keeps _),.inl ⟨rfl,HG.out⟩⟩
  simp [Leaves,settle,results,Tryz.results17,go_sem,ya,yb]
  exact HC.out
 ·unfold qbr at hf
  subst hf
  have HBD := hid hBd
  clear hBd
  refine leaves_cons (f := 36) (args := #[.pointer (some ⟨w.heap.size,0,none⟩),.pointer (some ⟨w.heap.size + 1,0,none⟩)]) (by simp) (by simp [go_sem]) ?_
  refine (caught1_panicking w.heap.size (w.heap.size + 1) 0 .nilIface c p w2 HA2.out HB2.out (by omega)).mono ?_
  rintro e u' w3 ⟨rfl,rfl,hk3,hA3,hB3⟩
  have ya := qac (i := 0) hA3 rfl
  have yb := qac (i := 0) hB3 rfl
  have HC : Hid (CaughtTo w G Bd (.returned (.tuple #[.int .i64 (p : Int),errV c])) w3) := hid ⟨w2,hk3,.inr ⟨c,p,rfl,HBD.out⟩⟩
  simp [Leaves,settle,results,Tryz.results17,go_sem,ya,yb]
  exact HC.out
end Go.Proofs.YtgajofkeidjbgaaGreatDoor
namespace Go.Proofs.YtgajofkeidjbgaaGreatDoor
set_option linter.unusedSimpArgs false
set_option linter.unusedVariables false
open Go Go.RowKit
mutual
def qbj : Ex → Nat
 | .lit v => (qbs v).length
 | .name s _ => s.length
 | .un _ _ x => 6 + qbj x
 | .bin o _ x y => o.length + 4 + qbj x + qbj y
 | .call f _ l => f.length + 2 + qck l
def qck : List Ex → Nat
 | [] => 0
 | x :: l => 2 + qbj x + qck l
end
end Go.Proofs.YtgajofkeidjbgaaGreatDoor
namespace Go.Proofs.YtgajofkeidjbgaaGreatDoor
set_option linter.unusedSimpArgs false
set_option linter.unusedVariables false
set_option maxHeartbeats 4000000
set_option maxRecDepth 100000
open Go.RowKit
abbrev ColsB (B : Nat) (w : World) (ao : Option Addr) (cs : List Col) : Prop := Elems (fun b => b < B) ColC 2 w ao cs
theorem ColsB.el {B : Nat} {w : World} {ao : Option Addr} {cs : List Col} (h : ColsB B w ao cs) : ColsEl w ao cs := fun i hi => let ⟨b,o,ha,_,hx⟩ := h i hi; ⟨b,o,ha,trivial,hx⟩
theorem ColsB.named {B : Nat} {cs' : List Col} {w w' : World} {ao : Option Addr} {cs : List Col} (h : ColsB B w ao cs) (k : NmKeep B cs' w w') : ColsB B w' ao cs := fun i hi =>
 let ⟨b,o,ha,hb,hx⟩ := h i hi; ⟨b,o,ha,hb,k.below.cell (p := ⟨b,o + i * 2,none⟩) hb hx.1,k.below.cell (p := ⟨b,o + i * 2 + 1,none⟩) hb hx.2⟩
def KindTo (B : Nat) (cs : List Col) (w : World) (v : Value) (x : Ex) (e : Ending) (w' : World) : Prop := NmKeep B cs w w' ∧ match kindP cs x with
 | .ok k => e = .returned (.int .i64 k) ∧ qbm (qIdx cs) (fun b => B ≤ b) w' v x
 | .error f => qbr f.1 f.2 e
def KdC (cs : List Col) (x : Ex) : Prop := ∀ (B : Nat) (ao : Option Addr) (c : Nat) (v : Value) (w : World),qbm (qMay cs) (fun b => B ≤ b) w v x → ColsB B w ao cs → cs.length ≤ 140737488355328 → qef x → qbj x ≤ 1000000 → B ≤ w.heap.size →
 Calls Tryz.prog 55 #[v,.slice ao cs.length c] w (KindTo B cs w v x)
theorem as_lit (N : Nat) (w : World) : (Instr.typeAssert (.iface 161 (.pointer (some ⟨N,0,none⟩))) 59 161 true).run Tryz.prog w = .ok (.tuple #[.pointer (some ⟨N,0,none⟩),.bool true]) w := by kernel_rfl
theorem as_name (N : Nat) (w : World) : (Instr.typeAssert (.iface 164 (.pointer (some ⟨N,0,none⟩))) 59 164 true).run Tryz.prog w = .ok (.tuple #[.pointer (some ⟨N,0,none⟩),.bool true]) w := by kernel_rfl
theorem as_un (N : Nat) (w : World) : (Instr.typeAssert (.iface 137 (.pointer (some ⟨N,0,none⟩))) 59 137 true).run Tryz.prog w = .ok (.tuple #[.pointer (some ⟨N,0,none⟩),.bool true]) w := by kernel_rfl
theorem as_bin (N : Nat) (w : World) : (Instr.typeAssert (.iface 140 (.pointer (some ⟨N,0,none⟩))) 59 140 true).run Tryz.prog w = .ok (.tuple #[.pointer (some ⟨N,0,none⟩),.bool true]) w := by kernel_rfl
theorem as_call (N : Nat) (w : World) : (Instr.typeAssert (.iface 168 (.pointer (some ⟨N,0,none⟩))) 59 168 true).run Tryz.prog w = .ok (.tuple #[.pointer (some ⟨N,0,none⟩),.bool true]) w := by kernel_rfl
theorem no_name_lit (N : Nat) (w : World) : (Instr.typeAssert (.iface 164 (.pointer (some ⟨N,0,none⟩))) 59 161 true).run Tryz.prog w = .ok (.tuple #[.pointer none,.bool false]) w := by kernel_rfl
theorem no_un_lit (N : Nat) (w : World) : (Instr.typeAssert (.iface 137 (.pointer (some ⟨N,0,none⟩))) 59 161 true).run Tryz.prog w = .ok (.tuple #[.pointer none,.bool false]) w := by kernel_rfl
theorem no_un_name (N : Nat) (w : World) : (Instr.typeAssert (.iface 137 (.pointer (some ⟨N,0,none⟩))) 59 164 true).run Tryz.prog w = .ok (.tuple #[.pointer none,.bool false]) w := by kernel_rfl
theorem no_bin_lit (N : Nat) (w : World) : (Instr.typeAssert (.iface 140 (.pointer (some ⟨N,0,none⟩))) 59 161 true).run Tryz.prog w = .ok (.tuple #[.pointer none,.bool false]) w := by kernel_rfl
theorem no_bin_name (N : Nat) (w : World) : (Instr.typeAssert (.iface 140 (.pointer (some ⟨N,0,none⟩))) 59 164 true).run Tryz.prog w = .ok (.tuple #[.pointer none,.bool false]) w := by kernel_rfl
theorem no_bin_un (N : Nat) (w : World) : (Instr.typeAssert (.iface 140 (.pointer (some ⟨N,0,none⟩))) 59 137 true).run Tryz.prog w = .ok (.tuple #[.pointer none,.bool false]) w := by kernel_rfl
theorem no_call_lit (N : Nat) (w : World) : (Instr.typeAssert (.iface 168 (.pointer (some ⟨N,0,none⟩))) 59 161 true).run Tryz.prog w = .ok (.tuple #[.pointer none,.bool false]) w := by kernel_rfl
theorem no_call_name (N : Nat) (w : World) : (Instr.typeAssert (.iface 168 (.pointer (some ⟨N,0,none⟩))) 59 164 true).run Tryz.prog w = .ok (.tuple #[.pointer none,.bool false]) w := by kernel_rfl
theorem no_call_un (N : Nat) (w : World) : (Instr.typeAssert (.iface 168 (.pointer (some ⟨N,0,none⟩))) 59 137 true).run Tryz.prog w = .ok (.tuple #[.pointer none,.bool false]) w := by kernel_rfl
theorem no_call_bin (N : Nat) (w : World) : (Instr.typeAssert (.iface 168 (.pointer (some ⟨N,0,none⟩))) 59 140 true).run Tryz.prog w = .ok (.tuple #[.pointer none,.bool false]) w := by kernel_rfl
attribute [local go_sem high] as_lit as_name as_un no_name_lit no_un_lit no_un_name
theorem kd_lit (cs : List Col) (x : Val) : KdC cs (.lit x) := by
 intro B ao c v w hn hel hlen ho hcost hB
 have HN := hid hn
 unfold qbm at hn
 obtain ⟨N,hNB,rfl,hobj⟩ := hn
 have c0 : w.cell? ⟨N,0,none⟩ = some (.int .i64 x.k) := qac (i := 0) hobj rfl
 have hlt := qad c0
 have HX := hid (And.intro hNB hobj)
 clear hel hlen ho hcost hB hobj hNB
 go_enter Tryz.func55,Tryz.ntmps55
 go_wp2_with fail
 refine bodyPost_ret (results_tmp rfl _ _ _) rfl ⟨NmKeep.refl _ _ _,?_⟩
 unfold kindP
 refine ⟨rfl,?_⟩
 unfold qbm
 exact ⟨N,HX.out.1,rfl,HX.out.2⟩
theorem kd_name (cs : List Col) (s : List UInt8) (p : Nat) : KdC cs (.name s p) := by
 intro B ao c v w hn hel hlen ho hcost hB
 unfold qbm at hn
 obtain ⟨N,pos,hNB,rfl,hobj,hq⟩ := hn
 have HN := hid hNB; have HOBJ := hid hobj; have HQ := hid hq; have HEL := hid hel; have HLN := hid hlen; have HB := hid hB
 clear hel hlen ho hcost hB hq hobj hNB
 go_enter Tryz.func55,Tryz.ntmps55
 go_upto_region 7 with (fail)
 obtain ⟨C,hC⟩ : ∃ C,C = w.heap.size := ⟨_,rfl⟩
 obtain ⟨w1,hw1⟩ : ∃ w1,w1 = w.alloc (.cells #[.pointer (some ⟨N,0,none⟩)] 164) := ⟨_,rfl⟩
 have hL1 : qag w w1 := hw1 ▸ qag.alloc _ _
 have hC1 : w1.heap[C]? = some (.cells #[.pointer (some ⟨N,0,none⟩)] 164 (0,0)) := by rw [hw1,hC]; exact qap _ _
 rw [← hw1,← hC]
 have HL1 := hid hL1; have HC1 := hid hC1
 have HO1 := hid (hL1.obj HOBJ.out)
 clear hw1 hC hL1 hC1
 go_wp2_with fail
 refine (idxc 86 (enters_of Tryz.func86 (by kernel_rfl) rfl) #[.pointer (some ⟨C,0,none⟩)] ao c cs w1 (fun d => d.s == s) (cols_later HEL.out.el HL1.out) HLN.out
  (fun x _ w' hw' => kindof1_any x s C N w' (hw'.cell (qac (i := 0) HC1.out rfl)) (hw'.cell (qac (i := 0) (show w1.heap[N]? = some (.cells #[.string (qah s),.int .i64 pos] _ _) from HO1.out) rfl)))).mono ?_
 rintro e w2 ⟨rfl,hL2⟩
 have HL2 := hid (qag.trans _ _ _ HL1.out hL2)
 have HO2 := hid (hL2.obj HO1.out)
 have c2 : w2.cell? ⟨C,0,none⟩ = some (.pointer (some ⟨N,0,none⟩)) := hL2.cell (qac (i := 0) HC1.out rfl)
 have n1 : w2.cell? ⟨N,1,none⟩ = some (.int .i64 pos) := qac (i := 1) (show w2.heap[N]? = some (.cells #[.string (qah s),.int .i64 pos] _ _) from HO2.out) rfl
 have nl := qad n1
 have cl := qad c2
 have nz := qaq (i := 1) (show w2.heap[N]? = some (.cells #[.string (qah s),.int .i64 pos] _ _) from HO2.out)
 clear hL2
 cases hf : colAt cs s with
 | none =>
   have hi : idxI (List.findIdx? (fun d => d.s == s) cs) = -1 := by
    have : List.findIdx? (fun d => d.s == s) cs = none := hf
    rw [this]; rfl
   rw [hi]
   have HF := hid hf
   have hpos : pos = (p : Int) := by
    rcases HQ.out with h | ⟨i,h,-⟩
    ·exact h
    ·rw [hf] at h; cases h
   subst hpos
   clear hi hf
   go_wp2_with fail
   refine (qbn 2 p _).mono ?_
   rintro e w' ⟨hfl,hw'⟩
   subst w'
   have hfl' := hfl
   unfold qbr at hfl
   subst hfl
   simp only [Exit.then,Exit.inBlock]
   refine ⟨rfl,NmKeep.later HL2.out,?_⟩
   unfold kindP
   rw [HF.out]
   exact hfl'
 | some i =>
   have hi : idxI (List.findIdx? (fun d => d.s == s) cs) = (i : Int) := by
    have : List.findIdx? (fun d => d.s == s) cs = some i := hf
    rw [this]; rfl
   rw [hi]
   have HF := hid hf
   obtain ⟨hic,-⟩ := colAt_some hf
   have HIC := hid hic
   obtain ⟨hk3,ho3⟩ := NmKeep.set (B := B) HO2.out HN.out hf
   obtain ⟨w3,hw3⟩ : ∃ w3,w3 = w2.setCell ⟨N,1,none⟩ (.int .i64 (i : Int)) := ⟨_,rfl⟩
   rw [← hw3] at hk3 ho3
   have HK3 := hid ((NmKeep.later HL2.out).trans hk3)
   have HO3 := hid ho3
   have hel3 := HEL.out.named HK3.out
   obtain ⟨b,o,rfl,-,hcol⟩ := hel3 i hic
   obtain ⟨y,hy⟩ : ∃ y,cs[i]'hic = y := ⟨_,rfl⟩
   rw [hy] at hcol
   have HY : Hid (cs.getD i ⟨[],0⟩ = y) := hid (by rw [List.getD_eq_getElem?_getD,List.getElem?_eq_getElem hic,← hy]; rfl)
   obtain ⟨q1,q2⟩ := hcol
   have ql := qad q1
   have hi0 : ¬ (i : Int) < 0 := by omega
   have hil : (i : Int) < cs.length := by omega
   have hi1 : (0 : Int) ≤ i := by omega
   clear hi hf hel3 hy hk3 ho3
   go_upto_region 11 with (fail)
   rw [← hw3]
   clear n1 nl nz c2 cl hw3
   go_wp2_with fail
   refine bodyPost_ret (results_tmp rfl _ _ _) rfl ⟨HK3.out,?_⟩
   unfold kindP
   rw [HF.out]
   simp only
   rw [HY.out]
   refine ⟨rfl,?_⟩
   unfold qbm
   exact ⟨N,_,HN.out,rfl,HO3.out,⟨i,HF.out,rfl⟩⟩
end Go.Proofs.YtgajofkeidjbgaaGreatDoor
