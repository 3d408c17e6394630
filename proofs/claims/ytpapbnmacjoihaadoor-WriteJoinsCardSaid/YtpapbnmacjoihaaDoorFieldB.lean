/- bindle, part FieldB: contracts of the program, walked. -/
import Derived.Test.YtpapbnmacjoihaaDoorFieldA
namespace Go.Proofs.YtpapbnmacjoihaaDoor
open Go.RowKit

/-- what digits of a base say. -/
def rdF (base : Nat) : Nat → List UInt8 → Nat × Bool
  | n, [] => (n, decide (n ≤ 4611686018427387904))
  | n, d :: ds => if base ≤ d.toNat ∨ 4611686018427387904 / base < n then (0, false) else rdF base (n * base + d.toNat) ds
theorem rdF_bad {base n : Nat} {l : List UInt8} {k : Nat} (hk : k < l.length) (h : base ≤ (l.getD k 0).toNat ∨ 4611686018427387904 / base < n) : rdF base n (l.drop k) = (0, false) := by
  rw [List.drop_eq_getElem_cons hk]
  have : l.getD k 0 = l[k] := by simp [List.getD_eq_getElem?_getD, List.getElem?_eq_getElem hk]
  rw [this] at h
  simp only [rdF]; rw [if_pos h]
theorem rdF_go {base n : Nat} {l : List UInt8} {k : Nat} (hk : k < l.length) (h1 : (l.getD k 0).toNat < base) (h2 : n ≤ 4611686018427387904 / base) :
    rdF base n (l.drop k) = rdF base (n * base + (l.getD k 0).toNat) (l.drop (k + 1)) := by
  have : l.getD k 0 = l[k] := by simp [List.getD_eq_getElem?_getD, List.getElem?_eq_getElem hk]
  rw [this] at h1
  rw [List.drop_eq_getElem_cons hk, this]
  simp only [rdF]; rw [if_neg (by omega)]
theorem rdF_end {base n : Nat} {l : List UInt8} : rdF base n (l.drop l.length) = (n, decide (n ≤ 4611686018427387904)) := by simp [rdF]
theorem rdF_bd {base n d : Nat} (hb : 2 ≤ base) (hb2 : base ≤ 256) (h1 : d < base) (h2 : n ≤ 4611686018427387904 / base) : n * base + d ≤ 4611686018427387904 + 255 := by
  have : n * base ≤ 4611686018427387904 / base * base := Nat.mul_le_mul_right _ h2
  have := Nat.div_mul_le_self 4611686018427387904 base
  omega

theorem quo_lt (base m : Nat) : (4611686018427387904 : Int) / (base : Int) < (m : Int) ↔ 4611686018427387904 / base < m := by
  rw [show (4611686018427387904 : Int) = ((4611686018427387904 : Nat) : Int) from rfl, ← Int.natCast_ediv]
  exact Int.ofNat_lt
theorem rdF_bdI {base n d : Nat} (hb : 2 ≤ base) (hb2 : base ≤ 256) (h1 : d < base) (h2 : n ≤ 4611686018427387904 / base) : (0 : Int) ≤ (n : Int) * (base : Int) ∧ (n : Int) * (base : Int) + (d : Int) ≤ 4611686018427388159 := by
  have h := rdF_bd hb hb2 h1 h2
  have h' : ((n * base + d : Nat) : Int) ≤ ((4611686018427387904 + 255 : Nat) : Int) := Int.ofNat_le.mpr h
  rw [Int.natCast_add, Int.natCast_mul] at h'
  exact ⟨Int.mul_nonneg (Int.natCast_nonneg _) (Int.natCast_nonneg _), h'⟩

theorem dec62 (m : Nat) : decide ((m : Int) ≤ 4611686018427387904) = decide (m ≤ 4611686018427387904) := by
  rw [decide_eq_decide]
  exact Int.ofNat_le (n := 4611686018427387904)
set_option maxHeartbeats 1000000 in
theorem field_read (base : Nat) (hb : 2 ≤ base) (hb2 : base ≤ 256) (p : Option Addr) (c : Nat) (l : List UInt8) (w : World) (hl : l.length ≤ 9223372036854775807) (hr : By w p l) :
    Calls Tryd.prog 56 #[.int .i64 (base : Nat), .slice p l.length c] w fun e w' => e = .returned (.tuple #[.int .i64 (rdF base 0 l).1, .bool (rdF base 0 l).2]) ∧ w = w' := by
  obtain ⟨r1, r2, hres⟩ : ∃ r1 r2, rdF base 0 l = (r1, r2) := ⟨_, _, rfl⟩
  rw [hres]
  have HR := Lib.hid hr; clear hr
  have HS := Lib.hid hres; clear hres
  go_enter Tryd.func56, Tryd.ntmps56
  go_wp2
  go_loop [6, 11] (fun n i => ∃ k m : Nat, k ≤ l.length ∧ i = .int .i64 k ∧ n = .int .i64 m ∧ m ≤ 4611686018427387904 + 255 ∧ Hid (rdF base m (l.drop k) = (r1, r2))) (fun _ i => l.length - (intOf i).toNat)
  case atStart => exact ⟨0, 0, Nat.zero_le _, rfl, rfl, by omega, by simpa using HS⟩
  case round =>
    obtain ⟨k, m, hk, rfl, rfl, hm, HM⟩ := hrel
    by_cases hlt : k < l.length
    · obtain ⟨b, o, rfl, hc⟩ := HR.out (by omega)
      have hcell := hc k hlt
      clear hc
      have hd := (l.getD k 0).toNat_lt
      obtain ⟨d, hdd⟩ : ∃ d : Nat, d = (l.getD k 0).toNat := ⟨_, rfl⟩
      rw [← hdd] at hcell hd
      have HD := Lib.hid hdd; clear hdd
      by_cases c1 : (base : Int) ≤ (d : Int)
      · have e := HM.out
        rw [rdF_bad hlt (.inl (by rw [← HD.out]; omega))] at e
        injection e with e1 e2
        subst e1 e2
        go_wp2
        go_ret2
        exact ⟨rfl, rfl⟩
      · by_cases c2 : (4611686018427387904 : Int) / (base : Int) < (m : Int)
        · have e := HM.out
          rw [rdF_bad hlt (.inr ((quo_lt _ _).1 c2))] at e
          injection e with e1 e2
          subst e1 e2
          go_wp2
          go_ret2
          exact ⟨rfl, rfl⟩
        · have e := HM.out
          have c2' : m ≤ 4611686018427387904 / base := Nat.le_of_not_lt fun h => c2 ((quo_lt _ _).2 h)
          rw [rdF_go hlt (by rw [← HD.out]; omega) c2', ← HD.out] at e
          obtain ⟨hp, hbd'⟩ := rdF_bdI (n := m) (d := d) hb hb2 (by omega) c2'
          have hbd : m * base + d ≤ 4611686018427387904 + 255 := rdF_bd hb hb2 (by omega) c2'
          have HB := Lib.hid hbd; clear hbd c2'
          have HE := Lib.hid e; clear e
          go_wp2
          go_round
          case rel => exact ⟨k + 1, m * base + d, by omega, by go_num, by go_num, HB.out, HE⟩
          case measure => simp [intOf]; omega
    · obtain rfl : k = l.length := by omega
      have e := HM.out
      rw [rdF_end] at e
      injection e with e1 e2
      subst e1 e2
      go_wp2
      go_ret2
      exact ⟨by rw [dec62]; rfl, rfl⟩
end Go.Proofs.YtpapbnmacjoihaaDoor
