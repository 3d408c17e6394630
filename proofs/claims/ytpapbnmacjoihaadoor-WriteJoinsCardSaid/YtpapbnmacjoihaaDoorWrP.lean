/- Records' lines and short names, plain. No program in it. -/
import Derived.Test.YtpapbnmacjoihaaDoorPathP
import Derived.Lib.ItoaNum
import Derived.Lib.ItoaLen
namespace Go.Proofs.YtpapbnmacjoihaaDoor
open Lib

def plainS (l : List UInt8) : Bool := l.all fun c => decide (c.toNat < 128)
theorem plainS_drop {l : List UInt8} {k : Nat} (h : k < l.length) : plainS (l.drop k) = (decide ((l.getD k 0).toNat < 128) && plainS (l.drop (k + 1))) := by
  unfold plainS
  rw [List.drop_eq_getElem_cons h, List.all_cons, List.getD_eq_getElem?_getD, List.getElem?_eq_getElem h, Option.getD_some]
theorem nDigits_pos (n : Nat) : 1 ≤ nDigits n := by
  rw [nDigits]; split <;> omega
theorem nDigits_mono : ∀ (b a : Nat), a ≤ b → nDigits a ≤ nDigits b := by
  intro b
  induction b using Nat.strongRecOn with
  | ind b ih =>
    intro a h
    by_cases hb : b < 10
    · rw [nDigits_small hb, nDigits_small (by omega)]; exact Nat.le_refl _
    · by_cases ha : a < 10
      · rw [nDigits_small ha]; exact nDigits_pos b
      · have e1 : nDigits a = nDigits (a / 10) + 1 := by rw [nDigits, dif_neg ha]
        have e2 : nDigits b = nDigits (b / 10) + 1 := by rw [nDigits, dif_neg hb]
        have := ih (b / 10) (by omega) (a / 10) (by omega)
        omega
theorem nDigits_le {n : Nat} (h : n ≤ 9223372036854775807) : nDigits n ≤ 21 := by
  have := itoa_length_le (n : Int) (by omega) (by omega)
  unfold itoa at this
  rw [if_neg (by omega), Int.toNat_natCast, decDigits_length] at this
  exact this
/-- n is the number of a line whose rest has b bytes. -/
def LineN (b n : Nat) : Prop := b ≤ n ∧ nDigits n + b ≤ n ∧ ∀ j, b ≤ j → j < n → j < nDigits j + b
def lineGo : Nat → Nat → Nat → Nat
  | 0, n, _ => n
  | f + 1, n, b => if nDigits n + b ≤ n then n else lineGo f (n + 1) b
def lineNum (b : Nat) : Nat := lineGo 22 b b
theorem lineGo_eq {b n : Nat} (h : LineN b n) : ∀ (f m : Nat), b ≤ m → m ≤ n → n ≤ m + f → lineGo f m b = n
  | 0, m, _, h2, h3 => by unfold lineGo; omega
  | f + 1, m, h1, h2, h3 => by
    unfold lineGo
    by_cases hm : m = n
    · subst hm
      rw [if_pos h.2.1]
    · have := h.2.2 m h1 (by omega)
      rw [if_neg (by omega)]
      exact lineGo_eq h f (m + 1) (by omega) (by omega) (by omega)
theorem LineN.bound {b n : Nat} (h : LineN b n) (hb : b ≤ 1000000000) : n ≤ b + 21 := by
  refine Classical.byContradiction fun hc => ?_
  have h1 := h.2.2 (b + 21) (by omega) (by omega)
  have h2 := nDigits_le (n := b + 21) (by omega)
  omega
theorem LineN.eq {b n : Nat} (h : LineN b n) (hb : b ≤ 1000000000) : n = lineNum b := (lineGo_eq h 22 b (Nat.le_refl _) h.1 (by have := h.bound hb; omega)).symm
/-- the reference's way: the first at which it is just right. -/
theorem LineN.of_eq {b n : Nat} (h1 : b ≤ n) (h2 : nDigits n + b = n) (h3 : ∀ j, b ≤ j → j < n → nDigits j + b ≠ j) : LineN b n := by
  refine ⟨h1, by omega, ?_⟩
  have key : ∀ d, b + d < n → b + d < nDigits (b + d) + b := by
    intro d
    induction d with
    | zero => intro _; have := nDigits_pos (b + 0); omega
    | succ d ih =>
      intro hd
      have h4 := ih (by omega)
      have h5 := h3 (b + (d + 1)) (by omega) hd
      have h6 := nDigits_mono (b + (d + 1)) (b + d) (by omega)
      omega
  intro j hj hjn
  have := key (j - b) (by omega)
  rw [show b + (j - b) = j from by omega] at this
  exact this
theorem below_eq {b n : Nat} (h3 : ∀ j, b ≤ j → j < n → nDigits j + b ≠ j) (j : Nat) (hj : b ≤ j) (hjn : j < n) : j < nDigits j + b := by
  have key : ∀ d, b + d < n → b + d < nDigits (b + d) + b := by
    intro d
    induction d with
    | zero => intro _; have := nDigits_pos (b + 0); omega
    | succ d ih =>
      intro hd
      have h4 := ih (by omega)
      have h5 := h3 (b + (d + 1)) (by omega) hd
      have h6 := nDigits_mono (b + (d + 1)) (b + d) (by omega)
      omega
  have := key (j - b) (by omega)
  rw [show b + (j - b) = j from by omega] at this
  exact this
def bodyS (k v : List UInt8) : List UInt8 := [32] ++ k ++ [61] ++ v ++ [10]
theorem bodyS_len (k v : List UInt8) : (bodyS k v).length = k.length + v.length + 3 := by
  unfold bodyS
  simp only [List.length_append, List.length_cons, List.length_nil]
  omega
/-- A record's line. -/
def lineS (k v : List UInt8) : List UInt8 := decDigits (lineNum (bodyS k v).length) ++ bodyS k v
def mayS (k v : List UInt8) : Bool := k != [] && (!k.contains 61 && (textS k && (textS v && decide (k.length + v.length ≤ 100000))))
theorem target_text (l : List UInt8) : (targetS l != 9) = textS l := by
  unfold targetS
  cases textS l
  · rfl
  · simp only [Bool.true_eq_false, if_false]
    split <;> rfl
end Go.Proofs.YtpapbnmacjoihaaDoor
