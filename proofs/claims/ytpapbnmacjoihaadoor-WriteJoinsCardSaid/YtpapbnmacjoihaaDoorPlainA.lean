/- Plain words on lists of bytes: cutting at a byte. No program in it. -/
import Derived.Test.YtpapbnmacjoihaaDoorBase
import Derived.Lib.IndexMore
namespace Go.Proofs.YtpapbnmacjoihaaDoor

def cut1 (c : UInt8) : List UInt8 → List UInt8 × List UInt8 × Bool
  | [] => ([], [], false)
  | x :: r => if x = c then ([], r, true) else (x :: (cut1 c r).1, (cut1 c r).2.1, (cut1 c r).2.2)
theorem lib_cut (c : UInt8) (l : List UInt8) : Lib.cut l [c] = cut1 c l := by
  induction l with
  | nil => rfl
  | cons b l ih =>
    unfold Lib.cut at ih ⊢
    have hge := Lib.index_ge l [c]
    unfold Lib.index
    simp only [List.isPrefixOf, Bool.and_true, cut1]
    by_cases e : b = c
    · subst e
      simp
    · have e' : (c == b) = false := by rw [beq_eq_false_iff_ne]; exact fun h => e h.symm
      rw [e', if_neg e, ← ih]
      by_cases h : Lib.index l [c] = -1
      · simp [h]
      · have h' : (Lib.index l [c] == -1) = false := by rw [beq_eq_false_iff_ne]; exact h
        have h0 : 0 ≤ Lib.index l [c] := by omega
        simp only [h', Bool.false_eq_true, if_false]
        rw [if_pos (by omega), if_pos h0]
        have ht : (Lib.index l [c] + 1).toNat = (Lib.index l [c]).toNat + 1 := by omega
        rw [ht]
        simp [Nat.add_right_comm]
theorem cut1_found {c : UInt8} {l : List UInt8} (h : (cut1 c l).2.2 = true) : l = (cut1 c l).1 ++ c :: (cut1 c l).2.1 := by
  induction l with
  | nil => simp [cut1] at h
  | cons x r ih =>
    simp only [cut1] at h ⊢
    by_cases e : x = c
    · subst e; simp
    · rw [if_neg e] at h ⊢
      simp only at h ⊢
      rw [List.cons_append, ← ih h]
theorem cut1_not {c : UInt8} {l : List UInt8} (h : (cut1 c l).2.2 = false) : (cut1 c l).1 = l ∧ (cut1 c l).2.1 = [] := by
  induction l with
  | nil => simp [cut1]
  | cons x r ih =>
    simp only [cut1] at h ⊢
    by_cases e : x = c
    · rw [if_pos e] at h; simp at h
    · rw [if_neg e] at h ⊢
      simp only at h ⊢
      exact ⟨by rw [(ih h).1], (ih h).2⟩
theorem cut1_none (c : UInt8) (l : List UInt8) : c ∉ (cut1 c l).1 := by
  induction l with
  | nil => simp [cut1]
  | cons x r ih =>
    simp only [cut1]
    by_cases e : x = c
    · simp [e]
    · rw [if_neg e]
      simp only [List.mem_cons, not_or]
      exact ⟨fun h => e h.symm, ih⟩
theorem cut1_mem {c : UInt8} {l : List UInt8} : (cut1 c l).2.2 = true ↔ c ∈ l := by
  induction l with
  | nil => simp [cut1]
  | cons x r ih =>
    simp only [cut1]
    by_cases e : x = c
    · simp [e]
    · rw [if_neg e]
      simp only [List.mem_cons, ih]
      exact ⟨.inr, fun h => h.resolve_left (fun h' => e h'.symm)⟩
theorem cut1_app {c : UInt8} {a r : List UInt8} (h : c ∉ a) : cut1 c (a ++ c :: r) = (a, r, true) := by
  induction a with
  | nil => simp [cut1]
  | cons x a ih =>
    simp only [List.mem_cons, not_or] at h
    simp only [List.cons_append, cut1, if_neg (Ne.symm h.1), ih h.2]
theorem cut1_id {c : UInt8} {a : List UInt8} (h : c ∉ a) : cut1 c a = (a, [], false) := by
  induction a with
  | nil => simp [cut1]
  | cons x a ih =>
    simp only [List.mem_cons, not_or] at h
    simp only [cut1, if_neg (Ne.symm h.1), ih h.2]
/-- a text in a field: up to its first byte 0, or to its end. -/
def untilS (l : List UInt8) : List UInt8 := (cut1 0 l).1
theorem untilS_length (l : List UInt8) : (untilS l).length ≤ l.length := by
  unfold untilS
  induction l with
  | nil => simp [cut1]
  | cons x r ih =>
    simp only [cut1]
    split
    · simp
    · simp; exact ih
/-- a field's bytes. -/
def fld (l : List UInt8) (a n : Nat) : List UInt8 := (l.drop a).take n
theorem fld_length {l : List UInt8} {a n : Nat} (h : a + n ≤ l.length) : (fld l a n).length = n := by simp [fld]; omega
/-- does it lie in the field of the sum? -/
def sumF (n : Nat) (k : Nat) : List UInt8 → Nat
  | [] => n
  | c :: r => sumF (if k < 148 ∨ 156 ≤ k then n + c.toNat else n) (k + 1) r
/-- the sum of a block, as if the bytes of its sum were blanks. -/
def sumS (l : List UInt8) : Nat := sumF 256 0 l
theorem sumF_le (l : List UInt8) : ∀ n k, sumF n k l ≤ n + 255 * l.length := by
  induction l with
  | nil => intro n k; simp [sumF]
  | cons c r ih =>
    intro n k
    simp only [sumF, List.length_cons]
    have := c.toNat_lt
    split
    · have := ih (n + c.toNat) (k + 1); omega
    · have := ih n (k + 1); omega
theorem sumF_step {n k : Nat} {l : List UInt8} (hk : k < l.length) : sumF n k (l.drop k) = sumF (if k < 148 ∨ 156 ≤ k then n + (l.getD k 0).toNat else n) (k + 1) (l.drop (k + 1)) := by
  rw [List.drop_eq_getElem_cons hk]
  simp only [sumF]
  simp [List.getD_eq_getElem?_getD, List.getElem?_eq_getElem hk]
end Go.Proofs.YtpapbnmacjoihaaDoor
