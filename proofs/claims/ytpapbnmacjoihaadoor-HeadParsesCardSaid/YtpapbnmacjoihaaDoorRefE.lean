/- bindleref01.Field. -/
import Derived.Test.YtpapbnmacjoihaaDoorRefD
namespace Go.Proofs.YtpapbnmacjoihaaDoor
open Go.RowKit Go.Shelf

def rfS (l : List UInt8) : Nat × Bool :=
  if l.length = 0 then (0, false) else if l.getD 0 0 = 128 then rdF 256 0 (l.drop 1) else rdF 8 0 ((trimF l).map (· - 48))
theorem fieldS_rf (l : List UInt8) : fieldS l = keepN (rfS l) := by
  unfold fieldS rfS
  split
  · rfl
  · split <;> rfl
set_option maxHeartbeats 2000000 in
set_option maxRecDepth 100000 in
theorem ref_Field_bin (p : Option Addr) (l : List UInt8) (c : Nat) (w : World) (hl : l.length ≤ 1000000) (hc : l.length ≤ c) (hb : By w p l) (h0 : 0 < l.length) (h128 : l.getD 0 0 = 128) :
    Calls Tryd.prog 34 #[.slice p l.length c] w fun e w' => e = .returned (.tuple #[.int .i64 (rfS l).1, .bool (rfS l).2]) ∧ w = w' := by
  have hr : rfS l = rdF 256 0 (l.drop 1) := by unfold rfS; rw [if_neg (by omega), if_pos h128]
  obtain ⟨b, o, rfl, hx⟩ := hb.at_ h0
  rw [h128, Nat.add_zero] at hx
  have hx' : w.cell? ⟨b, o, none⟩ = some (.int .u8 128) := hx
  have hn0 : ((l.length : Int) == 0) = false := beq_eq_false_iff_ne.2 (by omega)
  obtain ⟨r, hrr⟩ : ∃ r, r = rdF 256 0 (l.drop 1) := ⟨_, rfl⟩
  rw [hr, ← hrr]
  have HB := Lib.hid hb
  have HR := Lib.hid hrr
  clear hb hx hr hrr h128
  go_enter Tryd.func34, Tryd.ntmps34
  go_wp2_with fail
  go_loop [4, 5] (fun n i => ∃ k m : Nat, 1 ≤ k ∧ k ≤ l.length ∧ i = .int .i64 k ∧ n = .int .i64 m ∧ m ≤ 4611686018427388159 ∧ Hid (rdF 256 m (l.drop k) = r)) (fun _ i => l.length - (intOf i).toNat)
  case atStart => exact ⟨1, 0, Nat.le_refl _, by omega, rfl, rfl, by omega, by rw [HR.out]; trivial⟩
  case round =>
    obtain ⟨k, m, hk1, hk, rfl, rfl, hm, HM⟩ := hrel
    by_cases hlt : k < l.length
    · obtain ⟨b', o', hp, hcell⟩ := HB.out.at_ hlt
      injection hp with hp
      injection hp with hp1 hp2
      subst hp1 hp2
      obtain ⟨y, hy⟩ : ∃ y, y = l.getD k 0 := ⟨_, rfl⟩
      rw [← hy] at hcell
      have hyl := y.toNat_lt
      by_cases c1 : 18014398509481984 < m
      · have hbad := rdF_bad (base := 256) (n := m) hlt (.inr c1)
        rw [HM.out] at hbad
        subst hbad
        clear hy
        go_wp2
        go_ret2
        exact ⟨rfl, rfl⟩
      · have c1' : ¬ (18014398509481984 : Int) < m := by omega
        have hgo := rdF_go (base := 256) (n := m) hlt (UInt8.toNat_lt _) (by omega)
        rw [HM.out, ← hy] at hgo
        have HGO := Lib.hid hgo
        clear hgo hy c1
        go_wp2
        go_round
        case rel => exact ⟨k + 1, m * 256 + y.toNat, by omega, by omega, by go_num, by congr 1, by omega, HGO.out.symm⟩
        case measure => simp [intOf]; omega
    · obtain rfl : k = l.length := by omega
      have hend : r = (m, decide (m ≤ 4611686018427387904)) := by
        have := HM.out
        rw [List.drop_length] at this
        exact this.symm
      subst hend
      have hdec := dec62 m
      go_wp2
      go_ret2
      exact ⟨rfl, rfl⟩

set_option maxHeartbeats 4000000 in
set_option maxRecDepth 100000 in
theorem ref_Field_oct (p : Option Addr) (l : List UInt8) (c : Nat) (w : World) (hl : l.length ≤ 1000000) (hc : l.length ≤ c) (hc2 : c ≤ 9223372036854775807) (hb : By w p l) (h0 : 0 < l.length) (h128 : l.getD 0 0 ≠ 128) :
    Calls Tryd.prog 34 #[.slice p l.length c] w fun e w' => e = .returned (.tuple #[.int .i64 (rfS l).1, .bool (rfS l).2]) ∧ w = w' := by
  have hr : rfS l = rdF 8 0 ((trimF l).map (· - 48)) := by unfold rfS; rw [if_neg (by omega), if_neg h128]
  obtain ⟨b, o, rfl, hx⟩ := hb.at_ h0
  obtain ⟨y0, hy0⟩ : ∃ y0, y0 = l.getD 0 0 := ⟨_, rfl⟩
  rw [← hy0, Nat.add_zero] at hx
  have h128' : ((y0.toNat : Int) == 128) = false := beq_eq_false_iff_ne.2 fun e => h128 (by rw [← hy0]; exact UInt8.toNat_inj.1 (by simpa using Int.ofNat_inj.1 e))
  have hn0 : ((l.length : Int) == 0) = false := beq_eq_false_iff_ne.2 (by omega)
  obtain ⟨r, hrr⟩ : ∃ r, r = rdF 8 0 ((trimF l).map (· - 48)) := ⟨_, rfl⟩
  rw [hr, ← hrr]
  have Hrr := Lib.hid hrr
  have HB := Lib.hid hb
  clear hb hr h128 hy0 hrr
  go_enter Tryd.func34, Tryd.ntmps34
  go_wp2_with fail
  go_loop [6] (fun i => ∃ k : Nat, k ≤ l.length ∧ i = .int .i64 k ∧ Hid (∀ j x, j < k → l[j]? = some x → x = 32)) (fun i => l.length - (intOf i).toNat)
  case atStart => exact ⟨0, Nat.zero_le _, rfl, fun j x hj => absurd hj (Nat.not_lt_zero _)⟩
  case round =>
    obtain ⟨k, hk, rfl, HM⟩ := hrel
    have hleft : (k = l.length ∨ (k < l.length ∧ l.getD k 0 ≠ 32)) → Lib.trimLeftS l [32] = l.drop k := by
      intro h
      refine Lib.trimLeftS_drop l [32] k hk (fun j x hj hx => by rw [HM.out j x hj hx]; decide) (fun x hx => ?_)
      have hlt : k < l.length := (List.getElem?_eq_some_iff.1 hx).1
      have : l.getD k 0 = x := by rw [List.getD_eq_getElem?_getD, hx]; rfl
      have hne := (h.resolve_left (by omega)).2
      rw [this] at hne
      simp [hne]
    have HL := Lib.hid hleft
    clear hleft
    by_cases c1 : k < l.length ∧ l.getD k 0 = 32
    · obtain ⟨hlt, hy⟩ := c1
      obtain ⟨b', o', hp, hcell⟩ := HB.out.at_ hlt
      injection hp with hp
      injection hp with hp1 hp2
      subst hp1 hp2
      rw [hy] at hcell
      have hcell' : w.cell? ⟨b, o + k, none⟩ = some (.int .u8 32) := hcell
      have HM2 : Hid (∀ j x, j < k + 1 → l[j]? = some x → x = 32) := fun j x hj hx => by
        by_cases e : j = k
        · subst e
          rw [← hy, List.getD_eq_getElem?_getD, hx]; rfl
        · exact HM.out j x (by omega) hx
      clear hcell hy HL
      go_wp2
      go_round
      case rel => exact ⟨k + 1, by omega, by go_num, HM2.out⟩
      case measure => simp [intOf]; omega
    · have htl : Lib.trimLeftS l [32] = l.drop k := HL.out (by
        by_cases e : k = l.length
        · exact .inl e
        · exact .inr ⟨by omega, fun h => c1 ⟨by omega, h⟩⟩)
      have HTL := Lib.hid htl
      clear htl HL
      by_cases ek : k = l.length
      · have hkl : ¬ k < l.length := by omega
        clear c1 ek
        go_wp2_with fail
        go_loop [7] (fun i => ∃ j : Nat, k ≤ j ∧ j ≤ l.length ∧ i = .int .i64 j ∧ Hid (∀ i x, j ≤ i → l[i]? = some x → x = 32 ∨ x = 0)) (fun i => (intOf i).toNat)
        case atStart => exact ⟨l.length, by omega, Nat.le_refl _, rfl, fun i x hi hx => by have := (List.getElem?_eq_some_iff.1 hx).1; omega⟩
        case round =>
          obtain ⟨j, hkj, hjl, rfl, HJ⟩ := hrel
          have hright : (j = k ∨ (k < j ∧ l.getD (j - 1) 0 ≠ 32 ∧ l.getD (j - 1) 0 ≠ 0)) → trimF l = (l.drop k).take (j - k) := by
            intro h
            unfold trimF
            rw [HTL.out]
            refine Lib.trimRightS_take (l.drop k) [32, 0] (j - k) (by rw [List.length_drop]; omega) (fun i x hi hx => ?_) (fun x h0 hx => ?_)
            · rw [List.getElem?_drop] at hx
              rcases HJ.out (k + i) x (by omega) hx with rfl | rfl <;> decide
            · rw [List.getElem?_drop, show k + (j - k - 1) = j - 1 from by omega] at hx
              obtain ⟨_, h1, h2⟩ := h.resolve_left (by omega)
              have : l.getD (j - 1) 0 = x := by rw [List.getD_eq_getElem?_getD, hx]; rfl
              rw [this] at h1 h2
              simp [h1, h2]
          have HRR := Lib.hid hright
          clear hright
          by_cases c2 : k < j ∧ (l.getD (j - 1) 0 = 32 ∨ l.getD (j - 1) 0 = 0)
          · exact absurd c2.1 (by omega)
          · have htf : trimF l = (l.drop k).take (j - k) := HRR.out (by
              by_cases e : j = k
              · exact .inl e
              · exact .inr ⟨by omega, fun h => c2 ⟨by omega, .inl h⟩, fun h => c2 ⟨by omega, .inr h⟩⟩)
            have k1 := run_cut_mid (P := Tryd.prog) Tryd.underlying22 info_u8 .i64 .i64 (some ⟨b, o, none⟩) l.length c (k : Int) (j : Int) (by omega) (by omega) (by omega)
            rw [Int.toNat_natCast, Int.toNat_natCast] at k1
            have hln : ((l.drop k).take (j - k)).length = j - k := by rw [List.length_take, List.length_drop]; omega
            have ks := run_string_of (P := Tryd.prog) Tryd.underlying22 Tryd.underlying5 Tryd.underlying9 ((HB.out.cut hc k).take (j - k)) (c - k)
            rw [hln] at ks
            have hoc := ref_Octal ((l.drop k).take (j - k)) w (by omega)
            rw [← htf] at hoc ks
            rw [← Hrr.out] at hoc
            obtain ⟨ss, hss⟩ : ∃ ss, ss = bs (trimF l) := ⟨_, rfl⟩
            rw [← hss] at hoc ks
            obtain ⟨ca, hca⟩ : ∃ ca, ca = cutA (some ⟨b, o, none⟩) c k := ⟨_, rfl⟩
            rw [← hca] at k1 ks
            have HO := Lib.hid hoc
            clear htf hln hoc hss HRR hca
            have e : j = k := by omega
            subst e
            rw [Nat.sub_self] at k1 ks
            clear c2
            go_wp2_with fail
            refine HO.out.mono ?_
            rintro e w' ⟨rfl, rfl⟩
            go_wp2
            go_ret2
            exact ⟨rfl, rfl⟩
      · obtain ⟨b', o', hp, hcell⟩ := HB.out.at_ (i := k) (by omega)
        injection hp with hp
        injection hp with hp1 hp2
        subst hp1 hp2
        obtain ⟨y1, hy1⟩ : ∃ y1, y1 = l.getD k 0 := ⟨_, rfl⟩
        rw [← hy1] at hcell
        have m32 : ((y1.toNat : Int) == 32) = false := beq_eq_false_iff_ne.2 fun e' => c1 ⟨by omega, by rw [← hy1]; exact UInt8.toNat_inj.1 (by simpa using Int.ofNat_inj.1 e')⟩
        clear c1 hy1
        go_wp2_with fail
        go_loop [7] (fun i => ∃ j : Nat, k ≤ j ∧ j ≤ l.length ∧ i = .int .i64 j ∧ Hid (∀ i x, j ≤ i → l[i]? = some x → x = 32 ∨ x = 0)) (fun i => (intOf i).toNat)
        case atStart => exact ⟨l.length, by omega, Nat.le_refl _, rfl, fun i x hi hx => by have := (List.getElem?_eq_some_iff.1 hx).1; omega⟩
        case round =>
          obtain ⟨j, hkj, hjl, rfl, HJ⟩ := hrel
          have hright : (j = k ∨ (k < j ∧ l.getD (j - 1) 0 ≠ 32 ∧ l.getD (j - 1) 0 ≠ 0)) → trimF l = (l.drop k).take (j - k) := by
            intro h
            unfold trimF
            rw [HTL.out]
            refine Lib.trimRightS_take (l.drop k) [32, 0] (j - k) (by rw [List.length_drop]; omega) (fun i x hi hx => ?_) (fun x h0 hx => ?_)
            · rw [List.getElem?_drop] at hx
              rcases HJ.out (k + i) x (by omega) hx with rfl | rfl <;> decide
            · rw [List.getElem?_drop, show k + (j - k - 1) = j - 1 from by omega] at hx
              obtain ⟨_, h1, h2⟩ := h.resolve_left (by omega)
              have : l.getD (j - 1) 0 = x := by rw [List.getD_eq_getElem?_getD, hx]; rfl
              rw [this] at h1 h2
              simp [h1, h2]
          have HRR := Lib.hid hright
          clear hright
          by_cases c2 : k < j ∧ (l.getD (j - 1) 0 = 32 ∨ l.getD (j - 1) 0 = 0)
          · obtain ⟨hlt, hz⟩ := c2
            obtain ⟨i, rfl⟩ : ∃ i, j = i + 1 := ⟨j - 1, by omega⟩
            rw [Nat.add_sub_cancel] at hz
            obtain ⟨b', o', hp, hcell⟩ := HB.out.at_ (i := i) (by omega)
            injection hp with hp
            injection hp with hp1 hp2
            subst hp1 hp2
            have HJ2 : Hid (∀ i' x, i ≤ i' → l[i']? = some x → x = 32 ∨ x = 0) := fun i' x hi hx => by
              by_cases e : i' = i
              · subst e
                have : l.getD i' 0 = x := by rw [List.getD_eq_getElem?_getD, hx]; rfl
                rw [this] at hz
                exact hz
              · exact HJ.out i' x (by omega) hx
            rcases hz with hz | hz
            · rw [hz] at hcell
              have hcell' : w.cell? ⟨b, o + i, none⟩ = some (.int .u8 32) := hcell
              clear hcell hz HRR
              go_wp2
              go_round
              case rel => exact ⟨i, by omega, by omega, by go_num, HJ2.out⟩
              case measure => simp [intOf]
            · rw [hz] at hcell
              have hcell' : w.cell? ⟨b, o + i, none⟩ = some (.int .u8 0) := hcell
              clear hcell hz HRR
              go_wp2
              go_round
              case rel => exact ⟨i, by omega, by omega, by go_num, HJ2.out⟩
              case measure => simp [intOf]
          · have htf : trimF l = (l.drop k).take (j - k) := HRR.out (by
              by_cases e : j = k
              · exact .inl e
              · exact .inr ⟨by omega, fun h => c2 ⟨by omega, .inl h⟩, fun h => c2 ⟨by omega, .inr h⟩⟩)
            have k1 := run_cut_mid (P := Tryd.prog) Tryd.underlying22 info_u8 .i64 .i64 (some ⟨b, o, none⟩) l.length c (k : Int) (j : Int) (by omega) (by omega) (by omega)
            rw [Int.toNat_natCast, Int.toNat_natCast] at k1
            have hln : ((l.drop k).take (j - k)).length = j - k := by rw [List.length_take, List.length_drop]; omega
            have ks := run_string_of (P := Tryd.prog) Tryd.underlying22 Tryd.underlying5 Tryd.underlying9 ((HB.out.cut hc k).take (j - k)) (c - k)
            rw [hln] at ks
            have hoc := ref_Octal ((l.drop k).take (j - k)) w (by omega)
            rw [← htf] at hoc ks
            rw [← Hrr.out] at hoc
            obtain ⟨ss, hss⟩ : ∃ ss, ss = bs (trimF l) := ⟨_, rfl⟩
            rw [← hss] at hoc ks
            obtain ⟨ca, hca⟩ : ∃ ca, ca = cutA (some ⟨b, o, none⟩) c k := ⟨_, rfl⟩
            rw [← hca] at k1 ks
            have HO := Lib.hid hoc
            clear htf hln hoc hss HRR hca
            by_cases e : j = k
            · subst e
              rw [Nat.sub_self] at k1 ks
              clear c2
              go_wp2_with fail
              refine HO.out.mono ?_
              rintro e w' ⟨rfl, rfl⟩
              go_wp2
              go_ret2
              exact ⟨rfl, rfl⟩
            · obtain ⟨i, rfl⟩ : ∃ i, j = i + 1 := ⟨j - 1, by omega⟩
              obtain ⟨b', o', hp, hcell⟩ := HB.out.at_ (i := i) (by omega)
              injection hp with hp
              injection hp with hp1 hp2
              subst hp1 hp2
              obtain ⟨y, hy⟩ : ∃ y, y = l.getD i 0 := ⟨_, rfl⟩
              rw [← hy] at hcell
              have n32 : ((y.toNat : Int) == 32) = false := beq_eq_false_iff_ne.2 fun e' => c2 ⟨by omega, .inl (by rw [Nat.add_sub_cancel, ← hy]; exact UInt8.toNat_inj.1 (by simpa using Int.ofNat_inj.1 e'))⟩
              have n0 : ((y.toNat : Int) == 0) = false := beq_eq_false_iff_ne.2 fun e' => c2 ⟨by omega, .inr (by rw [Nat.add_sub_cancel, ← hy]; exact UInt8.toNat_inj.1 (by simpa using e'))⟩
              rw [show ((i + 1 : Nat) : Int) = (i : Int) + 1 from by omega] at k1
              clear c2 hy
              go_wp2_with fail
              refine HO.out.mono ?_
              rintro e w' ⟨rfl, rfl⟩
              go_wp2
              go_ret2
              exact ⟨rfl, rfl⟩

theorem ref_Field (p : Option Addr) (l : List UInt8) (c : Nat) (w : World) (hl : l.length ≤ 1000000) (hc : l.length ≤ c) (hc2 : c ≤ 9223372036854775807) (hb : By w p l) (h0 : 0 < l.length) :
    Calls Tryd.prog 34 #[.slice p l.length c] w fun e w' => e = .returned (.tuple #[.int .i64 (rfS l).1, .bool (rfS l).2]) ∧ w = w' := by
  by_cases h : l.getD 0 0 = 128
  · exact ref_Field_bin p l c w hl hc hb h0 h
  · exact ref_Field_oct p l c w hl hc hc2 hb h0 h
end Go.Proofs.YtpapbnmacjoihaaDoor
