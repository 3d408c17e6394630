/- bindlelaw04.HeadCuts: the walk. -/
import Derived.Test.YtpapbnmacjoihaaDoorRefA
import Derived.Test.YtpapbnmacjoihaaDoorAns
namespace Go.Proofs.YtpapbnmacjoihaaDoor
open Go.RowKit Go.Shelf

theorem firstOk_is {l : List UInt8} {k : Nat} (h : firstOk l = some k) : k < l.length ∧ okCut l k = true := by
  unfold firstOk at h
  rw [List.find?_range_eq_some] at h
  exact ⟨by simpa using h.2.1, h.1⟩
/-- What is cut makes the name again. -/
theorem cut_cases (l : List UInt8) : cutS l = none ∨ cutS l = some ([], l) ∨ ∃ p r, cutS l = some (p, r) ∧ p ≠ [] ∧ p ++ [47] ++ r = l ∧ p.length ≤ l.length ∧ r.length ≤ l.length := by
  unfold cutS
  split
  · exact .inr (.inl rfl)
  · cases hf : firstOk l with
    | none => exact .inl rfl
    | some k =>
      obtain ⟨hk, ho⟩ := firstOk_is hf
      simp only [okCut, Bool.and_eq_true, decide_eq_true_eq] at ho
      refine .inr (.inr ⟨l.take k, l.drop (k + 1), rfl, ?_, ?_, ?_, ?_⟩)
      · intro e
        have := congrArg List.length e
        rw [List.length_take, List.length_nil] at this
        omega
      · have hg : l[k] = 47 := by have := ho.1; simpa [List.getD_eq_getElem?_getD, hk] using this
        rw [← hg, ← List.take_succ_eq_append_getElem hk, List.take_append_drop]
      · rw [List.length_take]; omega
      · rw [List.length_drop]; omega

set_option maxHeartbeats 4000000 in
set_option maxRecDepth 100000 in
theorem headCuts_walk (w : World) (hv : HV w) (l : List UInt8) :
    Calls Tryd.prog 6 #[.string (bs l)] w fun e w' => e = .returned (.bool true) ∧ Ext w w' := by
  have hsz := bs_size l
  by_cases h : 1000 < l.length
  · have h' : 1000 < (bs l).size := by omega
    have HA := Lib.hid (answers_ w hv)
    clear hv hsz
    go_enter Tryd.func6, Tryd.ntmps6
    go_wp2_with fail
    refine HA.out.mono ?_
    rintro e w1 ⟨rfl, hE⟩
    go_wp2
    go_ret
    exact ⟨rfl, hE⟩
  · have h' : ¬ 1000 < (bs l).size := by omega
    have HVw := Lib.hid hv
    have hC := head_Cut l w (by omega) hv
    have hR := fun w => ref_Cut l w (by omega)
    rcases cut_cases l with hc | hc | ⟨p, r, hc, hp, hj, hpl, hrl⟩
    · rw [hc] at hC hR
      simp only [cutV] at hC hR
      have HC := Lib.hid hC
      have HR := Lib.hid hR
      clear hc hC hR hv
      go_enter Tryd.func6, Tryd.ntmps6
      go_wp2_with fail
      refine HC.out.mono ?_
      rintro e w1 ⟨rfl, hE⟩
      have HE := Lib.hid hE
      clear hE
      go_wp2_with fail
      refine (HR.out w1).mono ?_
      rintro e w2 ⟨rfl, hE⟩
      have HE2 := Lib.hid (HE.out.trans hE)
      clear hE
      go_wp2_with fail
      refine (answers_ w2 (HVw.out.ext HE2.out)).mono ?_
      rintro e w3 ⟨rfl, hE⟩
      have HE3 := Lib.hid (HE2.out.trans hE)
      clear hE
      go_wp2
      go_ret
      exact ⟨rfl, HE3.out⟩
    · rw [hc] at hC hR
      simp only [cutV] at hC hR
      have HC := Lib.hid hC
      have HR := Lib.hid hR
      clear hc hC hR hv
      obtain ⟨s, hs⟩ : ∃ s, s = bs l := ⟨_, rfl⟩
      rw [show bs [] = (⟨#[]⟩ : ByteArray) from rfl, ← hs] at HC HR
      rw [← hs] at h' ⊢
      clear hs hsz h
      go_enter Tryd.func6, Tryd.ntmps6
      go_wp2_with fail
      refine HC.out.mono ?_
      rintro e w1 ⟨rfl, hE⟩
      have HE := Lib.hid hE
      clear hE
      go_wp2_with fail
      refine (HR.out w1).mono ?_
      rintro e w2 ⟨rfl, hE⟩
      have HE2 := Lib.hid (HE.out.trans hE)
      clear hE
      go_wp2_with fail
      refine (answers_ w2 (HVw.out.ext HE2.out)).mono ?_
      rintro e w3 ⟨rfl, hE⟩
      have HE3 := Lib.hid (HE2.out.trans hE)
      clear hE
      go_wp2
      go_ret
      exact ⟨rfl, HE3.out⟩
    · rw [hc] at hC hR
      simp only [cutV] at hC hR
      have HC := Lib.hid hC
      have HR := Lib.hid hR
      clear hc hC hR hv
      have hj2 : bs p ++ (⟨#[47]⟩ : ByteArray) ++ bs r = bs l := by rw [show (⟨#[47]⟩ : ByteArray) = bs [47] from rfl, bs_app, bs_app, hj]
      have hp2 : (bs p).toList.isEmpty = false := by
        rw [bs_toL]
        cases p with
        | nil => exact absurd rfl hp
        | cons _ _ => rfl
      have hpz : (bs p).size ≤ 1000 := by rw [bs_size]; omega
      have hrz : (bs r).size ≤ 1000 := by rw [bs_size]; omega
      obtain ⟨s, hs⟩ : ∃ s, s = bs l := ⟨_, rfl⟩
      obtain ⟨s1, hs1⟩ : ∃ s1, s1 = bs p := ⟨_, rfl⟩
      obtain ⟨s2, hs2⟩ : ∃ s2, s2 = bs r := ⟨_, rfl⟩
      rw [← hs1, ← hs2] at HC HR hj2
      rw [← hs] at h' HC HR hj2 ⊢
      rw [← hs1] at hp2 hpz
      rw [← hs2] at hrz
      clear hs hs1 hs2 hsz h hp hj hpl hrl
      go_enter Tryd.func6, Tryd.ntmps6
      go_wp2_with fail
      refine HC.out.mono ?_
      rintro e w1 ⟨rfl, hE⟩
      have HE := Lib.hid hE
      clear hE
      go_wp2_with fail
      refine (HR.out w1).mono ?_
      rintro e w2 ⟨rfl, hE⟩
      have HE2 := Lib.hid (HE.out.trans hE)
      clear hE
      go_wp2_with fail
      refine (answers_ w2 (HVw.out.ext HE2.out)).mono ?_
      rintro e w3 ⟨rfl, hE⟩
      have HE3 := Lib.hid (HE2.out.trans hE)
      clear hE
      go_wp2
      go_ret
      exact ⟨rfl, HE3.out⟩
end Go.Proofs.YtpapbnmacjoihaaDoor
