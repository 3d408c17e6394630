/- num.Pad, write.plain, fits, Dec. -/
import Derived.Test.YtpapbnmacjoihaaDoorWrP
import Derived.Test.YtpapbnmacjoihaaDoorGoodA
import Derived.Test.YtpapbnmacjoihaaDoorOwnZ
import Derived.Laws.RangeAny
import Derived.Lib.AppendIntMem
namespace Go.Proofs.YtpapbnmacjoihaaDoor
open Go.RowKit Go.Shelf

def padN (n : Nat) : Nat := (n + 511) / 512 * 512
set_option maxHeartbeats 2000000 in
set_option maxRecDepth 100000 in
theorem num_Pad (n : Nat) (w : World) (hn : n ≤ 1000000000000) :
    Calls Tryd.prog 78 #[.int .i64 n] w fun e w' => e = .returned (.tuple #[.int .i64 (padN n), .bool true]) ∧ w = w' := by
  have hin := num_In_ (n : Int) 0 4611686018427387904 w
  rw [show decide ((0 : Int) ≤ (n : Int) ∧ (n : Int) ≤ 4611686018427387904) = true from decide_eq_true (by omega)] at hin
  have HI := Lib.hid hin
  clear hin
  go_enter Tryd.func78, Tryd.ntmps78
  go_wp2_with fail
  refine HI.out.mono ?_
  rintro e w' ⟨rfl, rfl⟩
  go_wp2
  go_ret2
  have hp : ((padN n : Nat) : Int) = ((n : Int) + 512 - 1) / 512 * 512 := by unfold padN; omega
  rw [hp]
  exact ⟨rfl, rfl⟩

set_option maxHeartbeats 2000000 in
set_option maxRecDepth 100000 in
theorem write_plain (l : List UInt8) (w : World) (hl : l.length ≤ 1000000000) :
    Calls Tryd.prog 74 #[.string (bs l)] w fun e w' => e = .returned (.bool (plainS l)) ∧ Ext w w' := by
  obtain ⟨s, hs⟩ : ∃ s, s = bs l := ⟨_, rfl⟩
  have hsl : s.size = l.length := by rw [hs, bs_size]
  rw [← hs]
  obtain ⟨r, hr⟩ : ∃ r, r = plainS l := ⟨_, rfl⟩
  rw [← hr]
  have Hs := Lib.hid (And.intro hs hsl)
  have HR := Lib.hid hr
  have hss : s.size ≤ 1000000000 := by omega
  clear hs hsl hr
  go_enter Tryd.func74, Tryd.ntmps74
  go_wp2
  go_loopw [4] (fun _ wr => ∃ pos : Nat, wr = w.iter s pos ∧ pos ≤ s.size ∧ Hid (plainS (l.drop pos) = r)) (fun _ wr => s.size - wr.iterPos w.heap.size)
  case atStart => exact ⟨0, rfl, Nat.zero_le _, HR.out.symm⟩
  case round =>
    obtain ⟨pos, rfl, hps, HM⟩ := hrel
    by_cases hp : pos < s.size
    · have hg := get_bs' Hs.out.1 pos hp
      have hd := plainS_drop (l := l) (k := pos) (by rw [← Hs.out.2]; exact hp)
      rw [HM.out, ← hg] at hd
      by_cases ha : s[pos].toNat < 128
      · have HN : Hid (plainS (l.drop (pos + 1)) = r) := Lib.hid (by rw [hd, decide_eq_true ha]; rfl)
        have hnx : ∀ ty, (Instr.next (.pointer (some ⟨w.heap.size, 0, none⟩)) true ty).run Tryd.prog (w.iter s pos) = _ := fun ty => run_next_ascii w s pos ty hp ha
        have hc : ¬ (127 : Int) < (s[pos].toNat : Int) := by omega
        clear hd hg
        go_wp2
        go_roundw
        case rel => exact ⟨pos + 1, rfl, by omega, HN.out⟩
        case measure => simp; omega
      · have e0 : r = false := by rw [hd, decide_eq_false ha]; rfl
        subst e0
        have hnx : ∀ ty, (Instr.next (.pointer (some ⟨w.heap.size, 0, none⟩)) true ty).run Tryd.prog (w.iter s pos) = _ := fun ty => run_next_any w s pos ty hp
        have hh := (decode_high s pos hp (by omega)).1
        have hc : (127 : Int) < ((Utf8.decode s pos).1 : Int) := by omega
        clear hd hg hh
        go_wp2
        go_ret
        exact ⟨rfl, Ext.alloc _ _⟩
    · obtain rfl : pos = s.size := by omega
      have e1 : r = true := by rw [← HM.out, List.drop_eq_nil_of_le (by rw [← Hs.out.2]; exact Nat.le_refl _)]; rfl
      subst e1
      have hnx : ∀ ty, (Instr.next (.pointer (some ⟨w.heap.size, 0, none⟩)) true ty).run Tryd.prog (w.iter s s.size) = _ := fun ty => run_next_end w s s.size ty hp
      go_wp2
      go_ret
      exact ⟨rfl, Ext.alloc _ _⟩

set_option maxHeartbeats 2000000 in
set_option maxRecDepth 100000 in
theorem ref_fits (l : List UInt8) (w : World) (hl : l.length ≤ 1000000000) :
    Calls Tryd.prog 50 #[.string (bs l)] w fun e w' => e = .returned (.bool (plainS l)) ∧ w = w' := by
  obtain ⟨s, hs⟩ : ∃ s, s = bs l := ⟨_, rfl⟩
  have hsl : s.size = l.length := by rw [hs, bs_size]
  rw [← hs]
  obtain ⟨r, hr⟩ : ∃ r, r = plainS l := ⟨_, rfl⟩
  rw [← hr]
  have Hs := Lib.hid (And.intro hs hsl)
  have HR := Lib.hid hr
  have hss : s.size ≤ 1000000000 := by omega
  clear hs hsl hr
  go_enter Tryd.func50, Tryd.ntmps50
  go_wp2_with fail
  go_loop [3] (fun i => ∃ k : Nat, k ≤ s.size ∧ i = .int .i64 k ∧ Hid (plainS (l.drop k) = r)) (fun i => s.size - (intOf i).toNat)
  case atStart => exact ⟨0, Nat.zero_le _, rfl, HR.out.symm⟩
  case round =>
    obtain ⟨k, hk, rfl, HM⟩ := hrel
    by_cases hlt : k < s.size
    · have hg := get_bs' Hs.out.1 k hlt
      have hd := plainS_drop (l := l) (k := k) (by rw [← Hs.out.2]; exact hlt)
      rw [HM.out, ← hg] at hd
      by_cases ha : s[k].toNat < 128
      · have HN : Hid (plainS (l.drop (k + 1)) = r) := Lib.hid (by rw [hd, decide_eq_true ha]; rfl)
        have hc : ¬ (127 : Int) < (s[k].toNat : Int) := by omega
        clear hd hg ha
        go_wp2
        go_round
        case rel => exact ⟨k + 1, by omega, by go_num, HN.out⟩
        case measure => simp [intOf]; omega
      · have e0 : r = false := by rw [hd, decide_eq_false ha]; rfl
        subst e0
        have hc : (127 : Int) < (s[k].toNat : Int) := by omega
        clear hd hg ha
        go_wp2
        go_ret
        exact ⟨rfl, rfl⟩
    · obtain rfl : k = s.size := by omega
      have e1 : r = true := by rw [← HM.out, List.drop_eq_nil_of_le (by rw [← Hs.out.2]; exact Nat.le_refl _)]; rfl
      subst e1
      go_wp2
      go_ret
      exact ⟨rfl, rfl⟩

/-- strconv.Itoa. -/
theorem strconv_Itoa (n : Nat) (w : World) (hn : n ≤ 9223372036854775807) (hw : HW w) :
    Calls Tryd.prog 75 #[.int .i64 n] w fun e w' => e = .returned (.string (bs (Lib.decDigits n))) ∧ Ext w w' := by
  refine (Tryd.strconv_Itoa (n : Int) (by omega) (by omega) w hw.pow).mono fun e w' h => ?_
  obtain ⟨he, k, os, hw'⟩ := h
  refine ⟨?_, ?_⟩
  · rw [he]
    unfold Lib.itoa
    rw [if_neg (by omega), Int.toNat_natCast]
    rfl
  · rw [hw']
    exact Lib.below_grow _ w (Nat.le_refl _) k os
end Go.Proofs.YtpapbnmacjoihaaDoor
