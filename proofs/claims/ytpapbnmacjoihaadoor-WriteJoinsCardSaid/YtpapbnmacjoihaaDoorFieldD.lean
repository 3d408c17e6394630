/- bindle, part FieldD: contracts of the program, walked. -/
import Derived.Test.YtpapbnmacjoihaaDoorFieldC
namespace Go.Proofs.YtpapbnmacjoihaaDoor
open Go.RowKit Go.Shelf

/-! ### plain: digits of a base, the lowest m of them, the highest first; a stretch of a list laid anew -/
def low (base : Nat) : Nat → Nat → List Nat
  | 0, _ => []
  | m + 1, n => (n / base ^ m % base) :: low base m n
theorem low_length (base m n : Nat) : (low base m n).length = m := by
  induction m with
  | zero => rfl
  | succ m ih => simp [low, ih]
def lay (L : List UInt8) (off : Nat) (D : List UInt8) : List UInt8 := L.take off ++ D ++ L.drop (off + D.length)
theorem lay_length {L : List UInt8} {off : Nat} {D : List UInt8} (h : off + D.length ≤ L.length) : (lay L off D).length = L.length := by
  simp [lay]; omega
theorem lay_nil (L : List UInt8) (off : Nat) : lay L off [] = L := by simp [lay]
theorem lay_cons {L : List UInt8} {off : Nat} {D : List UInt8} {x : UInt8} (h : off + 1 + D.length ≤ L.length) : (lay L (off + 1) D).set off x = lay L off (x :: D) := by
  unfold lay
  have h1 : off < L.length := by omega
  rw [List.take_succ_eq_append_getElem h1]
  rw [List.append_assoc, List.append_assoc, List.set_append_right _ _ (by rw [List.length_take]; omega)]
  rw [List.length_take, Nat.min_eq_left (Nat.le_of_lt h1), Nat.sub_self]
  simp [show off + 1 + D.length = off + (D.length + 1) from by omega]
theorem u8_digit (z : UInt8) (d : Nat) (hd : d ≤ 255) : ((z.toNat : Int) + (d : Int)) % 256 = ((z + UInt8.ofNat d : UInt8).toNat : Int) := by
  rw [UInt8.toNat_add]
  simp
theorem low_step (base n k : Nat) : n / base ^ k / base = n / base ^ (k + 1) := by rw [Nat.div_div_eq_div_mul, ← Nat.pow_succ]

theorem grown_set {w0 w : World} {row : Nat} (h : w0.grownBy w (some row)) (i : Nat) (v : Value) : w0.grownBy (w.setCell ⟨row, i, none⟩ v) (some row) := by
  refine ⟨h.os, h.tape, h.output, ?_, fun k hk hne => ?_⟩
  · have := h.size; simp [World.setCell]; exact this
  · rw [Below.heap_setCell _ _ _ _ (by intro e; exact hne (by rw [e]))]
    exact h.block k hk hne

set_option maxHeartbeats 2000000 in
theorem field_write (n base : Nat) (hb : base = 8 ∨ base = 256) (z : UInt8) (hn : n ≤ 4611686018427387904) (g off len c : Nat) (L : List UInt8) (w : World) (hL : off + len ≤ L.length) (hlc : len ≤ 1000) (h : Blk 5 w g L) :
    Calls Tryd.prog 62 #[.int .i64 n, .int .i64 base, .slice (some ⟨g, off, none⟩) len c, .int .u8 (z.toNat : Int)] w fun e w' =>
      e = .returned (.bool (decide (n / base ^ len = 0))) ∧ Blk 5 w' g (lay L off ((low base len n).map fun d => z + UInt8.ofNat d)) ∧ w.grownBy w' (some g) := by
  have hz := z.toNat_lt
  have hb0 : ((base : Int) == 0) = false := beq_eq_false_iff_ne.2 (by omega)
  have hb2 : base ≤ 256 := by omega
  have hb1 : 2 ≤ base := by omega
  have HL := Lib.hid h
  clear h
  go_enter Tryd.func62, Tryd.ntmps62
  go_wp2_with fail
  go_loopw [0, 9] (fun a i wr => ∃ j m : Nat, j ≤ len ∧ m ≤ 4611686018427387904 ∧ i = .int .i64 ((j : Int) - 1) ∧ a = .int .i64 m ∧ Hid (m = n / base ^ (len - j) ∧ Blk 5 wr g (lay L (off + j) ((low base (len - j) n).map fun d => z + UInt8.ofNat d)) ∧ w.grownBy wr (some g))) (fun _ i _ => ((intOf i) + 1).toNat)
  case atStart => exact ⟨len, n, Nat.le_refl _, hn, by go_num, rfl, by simp, by simpa [low, lay_nil] using HL.out, World.grownBy.refl _ _⟩
  case round =>
    obtain ⟨j, m, hj, hm, rfl, rfl, HR⟩ := hrel
    by_cases hj0 : 0 < j
    · obtain ⟨i, rfl⟩ : ∃ i, j = i + 1 := ⟨j - 1, by omega⟩
      have hlen : ((low base (len - (i + 1)) n).map fun d => z + UInt8.ofNat d).length = len - (i + 1) := by rw [List.length_map, low_length]
      have hc2 := HR.out.2.1.cell (i := off + i) (by rw [lay_length (by rw [hlen]; omega)]; omega)
      have hf2 := HR.out.2.1.frozen (off + i)
      have hmod : (m : Int) % (base : Int) ≤ 255 ∧ 0 ≤ (m : Int) % (base : Int) := by
        have h1 : ((m % base : Nat) : Int) = (m : Int) % (base : Int) := Int.natCast_emod ..
        have h2 : m % base < base := Nat.mod_lt _ (by omega)
        omega
      have hdiv : 0 ≤ (m : Int) / (base : Int) ∧ (m : Int) / (base : Int) ≤ 4611686018427387904 := by
        have h1 : ((m / base : Nat) : Int) = (m : Int) / (base : Int) := Int.natCast_ediv ..
        have h2 : m / base ≤ m := Nat.div_le_self _ _
        have h3 : (0 : Int) ≤ ((m / base : Nat) : Int) := Int.natCast_nonneg _
        exact ⟨by rw [← h1]; exact h3, by rw [← h1]; exact Int.ofNat_le.2 (Nat.le_trans h2 hm)⟩
      go_wp2
      go_roundw
      case rel =>
        refine ⟨i, m / base, by omega, Nat.le_trans (Nat.div_le_self _ _) hm, rfl, by rw [Int.natCast_ediv], ?_, ?_, ?_⟩
        · rw [HR.out.1, low_step, show len - (i + 1) + 1 = len - i from by omega]
        · rw [← Int.natCast_emod, u8_digit z (m % base) (by have := Nat.mod_lt m (show 0 < base by omega); omega)]
          have e : low base (len - i) n = (m % base) :: low base (len - (i + 1)) n := by
            rw [show len - i = len - (i + 1) + 1 from by omega, HR.out.1]; rfl
          rw [e, List.map_cons, ← lay_cons (by rw [hlen]; omega)]
          exact HR.out.2.1.set _ _
        · exact grown_set HR.out.2.2 _ _
      case measure => simp [intOf]
    · obtain rfl : j = 0 := by omega
      have hres : ((m : Int) == 0) = decide (n / base ^ len = 0) := by
        have := HR.out.1
        rw [Nat.sub_zero] at this
        rw [← this]
        by_cases e : m = 0
        · subst e; rfl
        · rw [decide_eq_false e, beq_eq_false_iff_ne]; omega
      have HH := Lib.hid hres
      clear hres
      go_wp2
      go_ret
      refine ⟨by rw [← HH.out]; rfl, ?_, HR.out.2.2⟩
      have := HR.out.2.1
      rwa [Nat.add_zero, Nat.sub_zero] at this
end Go.Proofs.YtpapbnmacjoihaaDoor
