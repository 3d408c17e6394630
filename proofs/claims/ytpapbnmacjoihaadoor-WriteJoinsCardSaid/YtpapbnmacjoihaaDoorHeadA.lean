/- bindle, part HeadA: contracts of the program, walked. -/
import Derived.Test.YtpapbnmacjoihaaDoorFieldE
import Derived.Test.YtpapbnmacjoihaaDoorPlainA
namespace Go.Proofs.YtpapbnmacjoihaaDoor
open Go.RowKit Go.Shelf

/-! ### head's variables -/
def SpanAt (w : World) (g a b : Nat) : Prop := w.cell? ⟨g, 0, none⟩ = some (.int .i64 a) ∧ w.cell? ⟨g, 1, none⟩ = some (.int .i64 b)
theorem SpanAt.ext {w w' : World} {g a b : Nat} (h : SpanAt w g a b) (hE : Ext w w') : SpanAt w' g a b := ⟨hE.cell h.1, hE.cell h.2⟩
structure HV (w : World) : Prop where
  name : SpanAt w 1 0 100
  mode : SpanAt w 5 100 8
  user : SpanAt w 6 108 8
  group : SpanAt w 7 116 8
  size : SpanAt w 9 124 12
  clock : SpanAt w 8 136 12
  sum : SpanAt w 0 148 8
  link : SpanAt w 2 157 100
  magic : SpanAt w 3 257 8
  prefix_ : SpanAt w 4 345 155
  mlen : ∃ m : Int, w.cell? ⟨10, 0, none⟩ = some (.int .i64 m)
theorem HV.ext {w w' : World} (h : HV w) (hE : Ext w w') : HV w' :=
  ⟨h.name.ext hE, h.mode.ext hE, h.user.ext hE, h.group.ext hE, h.size.ext hE, h.clock.ext hE, h.sum.ext hE, h.link.ext hE, h.magic.ext hE, h.prefix_.ext hE, by obtain ⟨m, hm⟩ := h.mlen; exact ⟨m, hE.cell hm⟩⟩

set_option maxHeartbeats 1000000 in
theorem span_of (a n : Nat) (p : Option Addr) (len c : Nat) (w : World) (h : a + n ≤ len) (hc : len ≤ c) (hc2 : c ≤ 9223372036854775807) :
    Calls Tryd.prog 30 #[.agg #[.int .i64 a, .int .i64 n], .slice p len c] w fun e w' => e = .returned (.slice (cutA p c a) n (c - a)) ∧ Ext w w' := by
  have k1 := run_cut_mid (P := Tryd.prog) Tryd.underlying22 info_u8 .i64 .i64 p len c (a : Int) ((a : Int) + (n : Int)) (by omega) (by omega) (by omega)
  rw [show ((a : Int) + (n : Int)).toNat - (a : Int).toNat = n from by omega, Int.toNat_natCast] at k1
  go_enter Tryd.func30, Tryd.ntmps30
  go_wp2
  go_ret
  exact ⟨rfl, Ext.alloc _ _⟩
theorem By.fld {w : World} {p : Option Addr} {l : List UInt8} {c : Nat} (h : By w p l) (hl : l.length ≤ c) (a n : Nat) : By w (cutA p c a) (fld l a n) := (h.cut hl a).take n


set_option maxHeartbeats 1000000 in
theorem span_text (a n : Nat) (p : Option Addr) (l : List UInt8) (c : Nat) (w : World) (h : a + n ≤ l.length) (hc : l.length ≤ c) (hc2 : c ≤ 9223372036854775807) (hn : n < 4294967281) (hb : By w p l) (hv : HV w) :
    Calls Tryd.prog 32 #[.agg #[.int .i64 a, .int .i64 n], .slice p l.length c] w fun e w' => e = .returned (.string (bs (untilS (fld l a n)))) ∧ Ext w w' := by
  have HB := Lib.hid hb
  have HVv := Lib.hid hv
  clear hb hv
  go_enter Tryd.func32, Tryd.ntmps32
  go_wp2_with fail
  refine (span_of a n p l.length c _ h hc hc2).mono ?_
  rintro e w1 ⟨rfl, hE⟩
  have hE1 : Ext w w1 := (Ext.alloc w _).trans hE
  have ks := run_string_of (P := Tryd.prog) Tryd.underlying22 Tryd.underlying5 Tryd.underlying9 ((HB.out.ext hE1).fld hc a n) (c - a)
  rw [fld_length h] at ks
  obtain ⟨m, hm⟩ := (HVv.out.ext hE1).mlen
  have HE := Lib.hid hE1
  clear hE1 hE
  have hcut := Tryd.strings_Cut (bs (fld l a n)) ⟨#[0]⟩ m w1 (by rw [bs_size, fld_length h]; exact hn) hm
  rw [bs_data, show (⟨#[0]⟩ : ByteArray).data.toList = [0] from rfl, lib_cut] at hcut
  have HC := Lib.hid hcut
  clear hcut hm
  go_wp2_with fail
  refine HC.out.mono ?_
  rintro e w2 ⟨rfl, k, rfl⟩
  go_wp2
  go_ret
  exact ⟨rfl, HE.out.trans (Ext.drewN _ _)⟩

set_option maxHeartbeats 1000000 in
theorem head_total (p : Option Addr) (l : List UInt8) (c : Nat) (w : World) (hc : l.length ≤ 1000000) (hb : By w p l) (hv : HV w) :
    Calls Tryd.prog 31 #[.slice p l.length c] w fun e w' => e = .returned (.int .i64 (sumS l)) ∧ w = w' := by
  obtain ⟨hs0, hs1⟩ := hv.sum
  have HB := Lib.hid hb
  clear hb hv
  go_enter Tryd.func31, Tryd.ntmps31
  go_wp2_with fail
  go_loop [3, 11] (fun n i => ∃ k m : Nat, k ≤ l.length ∧ i = .int .i64 k ∧ n = .int .i64 m ∧ m ≤ 256 + 255 * k ∧ Hid (sumF m k (l.drop k) = sumS l)) (fun _ i => l.length - (intOf i).toNat)
  case atStart => exact ⟨0, 256, Nat.zero_le _, rfl, rfl, by omega, rfl⟩
  case round =>
    obtain ⟨k, m, hk, rfl, rfl, hm, HM⟩ := hrel
    by_cases hlt : k < l.length
    · obtain ⟨b, o, hp, hcell⟩ := HB.out.at_ hlt
      subst hp
      have hst := sumF_step (n := m) hlt
      obtain ⟨y, hy⟩ : ∃ y, y = l.getD k 0 := ⟨_, rfl⟩
      rw [← hy] at hcell hst
      rw [HM.out] at hst
      have hyl := y.toNat_lt
      have HS := Lib.hid hst
      clear hy hst
      by_cases c1 : k < 148
      · go_wp2
        go_round
        case rel => exact ⟨k + 1, m + y.toNat, by omega, by go_num, by go_num, by omega, by have := HS.out; rw [if_pos (.inl c1)] at this; exact this.symm⟩
        case measure => simp [intOf]; omega
      · by_cases c2 : 156 ≤ k
        · go_wp2
          go_round
          case rel => exact ⟨k + 1, m + y.toNat, by omega, by go_num, by go_num, by omega, by have := HS.out; rw [if_pos (.inr c2)] at this; exact this.symm⟩
          case measure => simp [intOf]; omega
        · go_wp2
          go_round
          case rel => exact ⟨k + 1, m, by omega, by go_num, rfl, by omega, by have := HS.out; rw [if_neg (by omega)] at this; exact this.symm⟩
          case measure => simp [intOf]; omega
    · obtain rfl : k = l.length := by omega
      have hr : m = sumS l := by have := HM.out; rw [List.drop_length] at this; exact this
      subst hr
      go_wp2
      go_ret
      exact ⟨rfl, rfl⟩
end Go.Proofs.YtpapbnmacjoihaaDoor
