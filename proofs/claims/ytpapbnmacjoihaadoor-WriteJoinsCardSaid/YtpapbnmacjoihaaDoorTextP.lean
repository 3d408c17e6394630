/- Right texts, plain: a step of bindleref01.Text is a step of the decoder. No program in it. -/
import Derived.Test.YtpapbnmacjoihaaDoorPathP
namespace Go.Proofs.YtpapbnmacjoihaaDoor

/-- how many bytes the rune at the head has; none: it is no right one. -/
def goStep (n b0 b1 b2 b3 : Nat) : Option Nat :=
  if b0 = 0 then none
  else if b0 < 128 then some 1
  else if 194 ≤ b0 ∧ b0 < 224 then (if n < 2 ∨ b1 < 128 ∨ 191 < b1 then none else some 2)
  else if 224 ≤ b0 ∧ b0 < 240 then (if n < 3 ∨ b1 < 128 ∨ 191 < b1 ∨ b2 < 128 ∨ 191 < b2 ∨ (b0 = 224 ∧ b1 < 160) ∨ (b0 = 237 ∧ 159 < b1) then none else some 3)
  else if 240 ≤ b0 ∧ b0 < 245 then (if n < 4 ∨ b1 < 128 ∨ 191 < b1 ∨ b2 < 128 ∨ 191 < b2 ∨ b3 < 128 ∨ 191 < b3 ∨ (b0 = 240 ∧ b1 < 144) ∨ (b0 = 244 ∧ 143 < b1) then none else some 4)
  else none
theorem check_step (n b0 b1 b2 b3 : Nat) (h0 : 128 ≤ b0) (h1 : b0 < 256) : Lib.checkN n b1 b2 b3 (Lib.firstT b0 % 8) (Lib.accLo (Lib.firstT b0 / 16)) (Lib.accHi (Lib.firstT b0 / 16)) = goStep n b0 b1 b2 b3 := by
  unfold goStep
  rw [if_neg (by omega), if_neg (by omega)]
  by_cases c0 : b0 < 194
  · rw [if_neg (by omega), if_neg (by omega), if_neg (by omega)]
    simp [Lib.firstT, Lib.checkN, show ¬ b0 < 128 by omega, c0]
  by_cases c1 : b0 < 224
  · rw [if_pos (by omega)]
    have e : Lib.firstT b0 = 2 := by simp [Lib.firstT, show ¬ b0 < 128 by omega, c0, c1]
    rw [e]
    rfl
  by_cases c2 : b0 = 224
  · subst c2
    rw [if_neg (by omega), if_pos (by omega)]
    show Lib.checkN n b1 b2 b3 3 160 191 = _
    unfold Lib.checkN
    rw [if_neg (by omega), if_pos rfl]
    split <;> split <;> first | rfl | (exfalso; omega)
  by_cases c3 : b0 < 237
  · rw [if_neg (by omega), if_pos (by omega)]
    have e : Lib.firstT b0 = 3 := by simp [Lib.firstT, show ¬ b0 < 128 by omega, c0, c1, c2, c3]
    rw [e]
    show Lib.checkN n b1 b2 b3 3 128 191 = _
    unfold Lib.checkN
    rw [if_neg (by omega), if_pos rfl]
    split <;> split <;> first | rfl | (exfalso; omega)
  by_cases c4 : b0 = 237
  · subst c4
    rw [if_neg (by omega), if_pos (by omega)]
    show Lib.checkN n b1 b2 b3 3 128 159 = _
    unfold Lib.checkN
    rw [if_neg (by omega), if_pos rfl]
    split <;> split <;> first | rfl | (exfalso; omega)
  by_cases c5 : b0 < 240
  · rw [if_neg (by omega), if_pos (by omega)]
    have e : Lib.firstT b0 = 3 := by simp [Lib.firstT, show ¬ b0 < 128 by omega, c0, c1, c2, c3, c4, c5]
    rw [e]
    show Lib.checkN n b1 b2 b3 3 128 191 = _
    unfold Lib.checkN
    rw [if_neg (by omega), if_pos rfl]
    split <;> split <;> first | rfl | (exfalso; omega)
  by_cases c6 : b0 = 240
  · subst c6
    rw [if_neg (by omega), if_neg (by omega), if_pos (by omega)]
    show Lib.checkN n b1 b2 b3 4 144 191 = _
    unfold Lib.checkN
    rw [if_neg (by omega), if_neg (by omega), if_pos rfl]
    split <;> split <;> first | rfl | (exfalso; omega)
  by_cases c7 : b0 < 244
  · rw [if_neg (by omega), if_neg (by omega), if_pos (by omega)]
    have e : Lib.firstT b0 = 4 := by simp [Lib.firstT, show ¬ b0 < 128 by omega, c0, c1, c2, c3, c4, c5, c6, c7]
    rw [e]
    show Lib.checkN n b1 b2 b3 4 128 191 = _
    unfold Lib.checkN
    rw [if_neg (by omega), if_neg (by omega), if_pos rfl]
    split <;> split <;> first | rfl | (exfalso; omega)
  by_cases c8 : b0 = 244
  · subst c8
    rw [if_neg (by omega), if_neg (by omega), if_pos (by omega)]
    show Lib.checkN n b1 b2 b3 4 128 143 = _
    unfold Lib.checkN
    rw [if_neg (by omega), if_neg (by omega), if_pos rfl]
    split <;> split <;> first | rfl | (exfalso; omega)
  · rw [if_neg (by omega), if_neg (by omega), if_neg (by omega)]
    simp [Lib.firstT, Lib.checkN, show ¬ b0 < 128 by omega, c0, c1, c2, c3, c4, c5, c6, c7, c8]
theorem step_bytes {n b0 b1 b2 b3 k : Nat} (h : goStep n b0 b1 b2 b3 = some k) (h0 : 128 ≤ b0) : 2 ≤ k ∧ k ≤ 4 ∧ k ≤ n ∧ 128 ≤ b1 ∧ (3 ≤ k → 128 ≤ b2) ∧ (4 ≤ k → 128 ≤ b3) := by
  unfold goStep at h
  rw [if_neg (by omega), if_neg (by omega)] at h
  split at h
  · split at h
    · cases h
    · cases h; omega
  · split at h
    · split at h
      · cases h
      · cases h; omega
    · split at h
      · split at h
        · cases h
        · cases h; omega
      · cases h
theorem contains_drop (l : List UInt8) : ∀ (k : Nat), (∀ j, j < k → (l.getD j 0).toNat ≠ 0) → k ≤ l.length → l.contains 0 = (l.drop k).contains 0
  | 0, _, _ => rfl
  | k + 1, h, hk => by
    rw [contains_drop l k (fun j hj => h j (by omega)) (by omega), List.drop_eq_getElem_cons (show k < l.length by omega)]
    have h1 := h k (by omega)
    rw [List.getD_eq_getElem?_getD, List.getElem?_eq_getElem (by omega), Option.getD_some] at h1
    rw [List.contains_cons]
    have : (0 == l[k]) = false := beq_eq_false_iff_ne.2 fun e => h1 (by rw [← e]; rfl)
    rw [this, Bool.false_or]
theorem textS_nil : textS [] = true := rfl
theorem textS_step (l : List UInt8) (hne : l ≠ []) :
    textS l = match goStep l.length (l.getD 0 0).toNat (l.getD 1 0).toNat (l.getD 2 0).toNat (l.getD 3 0).toNat with
      | none => false
      | some k => textS (l.drop k) := by
  have hl : 0 < l.length := List.length_pos_iff.2 hne
  unfold textS
  by_cases h0 : (l.getD 0 0).toNat < 128
  · by_cases hz : (l.getD 0 0).toNat = 0
    · have : goStep l.length (l.getD 0 0).toNat (l.getD 1 0).toNat (l.getD 2 0).toNat (l.getD 3 0).toNat = none := by unfold goStep; rw [if_pos hz]
      rw [this]
      have hm : l.contains 0 = true := by
        rw [List.contains_iff_mem]
        have e : l.getD 0 0 = 0 := UInt8.toNat_inj.1 (by simpa using hz)
        rw [List.getD_eq_getElem?_getD, List.getElem?_eq_getElem hl, Option.getD_some] at e
        rw [← e]
        exact List.getElem_mem hl
      rw [hm]
      simp
    · have : goStep l.length (l.getD 0 0).toNat (l.getD 1 0).toNat (l.getD 2 0).toNat (l.getD 3 0).toNat = some 1 := by unfold goStep; rw [if_neg hz, if_pos h0]
      rw [this]
      simp only
      rw [contains_drop l 1 (fun j hj => by rw [show j = 0 from by omega]; exact hz) (by omega)]
      cases l with
      | nil => exact absurd rfl hne
      | cons x t => rw [Lib.validD_cons x t h0]; rfl
  · have hb := (l.getD 0 0).toNat_lt
    rw [Lib.validD_lead l hne (by omega), check_step _ _ _ _ _ (by omega) hb]
    cases hg : goStep l.length (l.getD 0 0).toNat (l.getD 1 0).toNat (l.getD 2 0).toNat (l.getD 3 0).toNat with
    | none => rfl
    | some k =>
      obtain ⟨k1, k2, k3, k4, k5, k6⟩ := step_bytes hg (by omega)
      simp only
      rw [contains_drop l k (fun j hj => by
        match j, (show j < 4 by omega) with
        | 0, _ => omega
        | 1, _ => omega
        | 2, _ => have := k5 (by omega); omega
        | 3, _ => have := k6 (by omega); omega) k3]
end Go.Proofs.YtpapbnmacjoihaaDoor
