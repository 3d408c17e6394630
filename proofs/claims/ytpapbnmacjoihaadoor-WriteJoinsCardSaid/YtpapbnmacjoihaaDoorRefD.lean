/- bindleref01: until, Octal. -/
import Derived.Test.YtpapbnmacjoihaaDoorFieldC
import Derived.Test.YtpapbnmacjoihaaDoorPlainA
namespace Go.Proofs.YtpapbnmacjoihaaDoor
open Go.RowKit Go.Shelf

theorem untilS_at {l : List UInt8} {k : Nat} (hk : k < l.length) (h0 : l.getD k 0 = 0) (hn : (0 : UInt8) ∉ l.take k) : untilS l = l.take k := by
  have hg : l[k] = 0 := by simpa [List.getD_eq_getElem?_getD, hk] using h0
  have e : l = l.take k ++ 0 :: l.drop (k + 1) := by
    rw [← hg, ← List.drop_eq_getElem_cons hk, List.take_append_drop]
  unfold untilS
  rw [show cut1 0 l = cut1 0 (l.take k ++ 0 :: l.drop (k + 1)) from by rw [← e], cut1_app hn]
theorem untilS_end {l : List UInt8} (hn : (0 : UInt8) ∉ l) : untilS l = l := by unfold untilS; rw [cut1_id hn]
set_option maxHeartbeats 1000000 in
set_option maxRecDepth 100000 in
theorem ref_until (p : Option Addr) (l : List UInt8) (c : Nat) (w : World) (hl : l.length ≤ 1000000) (hc : l.length ≤ c) (hb : By w p l) :
    Calls Tryd.prog 35 #[.slice p l.length c] w fun e w' => e = .returned (.string (bs (untilS l))) ∧ w = w' := by
  have HB := Lib.hid hb
  clear hb
  go_enter Tryd.func35, Tryd.ntmps35
  go_wp2_with fail
  go_loop [3] (fun i => ∃ k : Nat, k ≤ l.length ∧ i = .int .i64 k ∧ Hid ((0 : UInt8) ∉ l.take k)) (fun i => l.length - (intOf i).toNat)
  case atStart => exact ⟨0, Nat.zero_le _, rfl, by rw [List.take_zero]; exact fun h => by cases h⟩
  case round =>
    obtain ⟨k, hk, rfl, HM⟩ := hrel
    by_cases hlt : k < l.length
    · obtain ⟨b, o, hp, hcell⟩ := HB.out.at_ hlt
      subst hp
      obtain ⟨y, hy⟩ : ∃ y, y = l.getD k 0 := ⟨_, rfl⟩
      rw [← hy] at hcell
      have Hy := Lib.hid hy
      clear hy
      by_cases c0 : y = 0
      · subst c0
        have hu := untilS_at hlt Hy.out.symm HM.out
        have HU := Lib.hid hu
        have k1 := run_cut_to (P := Tryd.prog) Tryd.underlying22 info_u8 .i64 (some ⟨b, o, none⟩) l.length c (k : Int) (by omega) (by omega)
        rw [Int.toNat_natCast] at k1
        have ks := run_string_of (P := Tryd.prog) Tryd.underlying22 Tryd.underlying5 Tryd.underlying9 (HB.out.take k) c
        rw [List.length_take, Nat.min_eq_left (Nat.le_of_lt hlt)] at ks
        clear hu
        go_wp2
        go_ret
        exact ⟨by rw [HU.out]; rfl, rfl⟩
      · have c0' : ((y.toNat : Int) == 0) = false := beq_eq_false_iff_ne.2 fun e => c0 (UInt8.toNat_inj.1 (by simpa using e))
        have hn : (0 : UInt8) ∉ l.take (k + 1) := by
          rw [List.take_add_one, List.mem_append]
          rintro (h | h)
          · exact HM.out h
          · have : l[k]? = some 0 := by simpa [Option.mem_toList] using h
            apply c0
            rw [Hy.out, List.getD_eq_getElem?_getD, this]
            rfl
        have HN := Lib.hid hn
        clear hn c0
        go_wp2
        go_round
        case rel => exact ⟨k + 1, by omega, by go_num, HN.out⟩
        case measure => simp [intOf]; omega
    · obtain rfl : k = l.length := by omega
      have hu := untilS_end (by have := HM.out; rwa [List.take_length] at this)
      have HU := Lib.hid hu
      have ks := run_string_of (P := Tryd.prog) Tryd.underlying22 Tryd.underlying5 Tryd.underlying9 HB.out c
      clear hu
      go_wp2
      go_ret
      exact ⟨by rw [HU.out]; rfl, rfl⟩
theorem sub48 (y : UInt8) : (8 ≤ (y - 48 : UInt8).toNat ↔ ((y.toNat : Int) < 48 ∨ 55 < (y.toNat : Int))) ∧ (48 ≤ y.toNat → (y - 48 : UInt8).toNat = y.toNat - 48) := by
  have hy := y.toNat_lt
  rw [UInt8.toNat_sub, show (48 : UInt8).toNat = 48 from rfl]
  omega
theorem get_bs' {s : ByteArray} {l : List UInt8} (hs : s = bs l) (k : Nat) (h : k < s.size) : s[k] = l.getD k 0 := by
  subst hs
  have : k < l.length := by rw [bs_size] at h; exact h
  simp [bs, List.getD_eq_getElem?_getD, this]
  rfl
set_option maxHeartbeats 2000000 in
set_option maxRecDepth 100000 in
theorem ref_Octal (l : List UInt8) (w : World) (hl : l.length ≤ 1000000) :
    Calls Tryd.prog 60 #[.string (bs l)] w fun e w' => e = .returned (.tuple #[.int .i64 (rdF 8 0 (l.map (· - 48))).1, .bool (rdF 8 0 (l.map (· - 48))).2]) ∧ w = w' := by
  obtain ⟨s, hs⟩ : ∃ s, s = bs l := ⟨_, rfl⟩
  have hsl : s.size = l.length := by rw [hs, bs_size]
  rw [← hs]
  obtain ⟨r, hr⟩ : ∃ r, r = rdF 8 0 (l.map (· - 48)) := ⟨_, rfl⟩
  rw [← hr]
  have hss : s.size ≤ 1000000 := by omega
  have HR := Lib.hid hr
  have Hs := Lib.hid (And.intro hs hsl)
  clear hs hsl hr
  go_enter Tryd.func60, Tryd.ntmps60
  go_wp2_with fail
  go_loop [4, 5] (fun n i => ∃ k m : Nat, k ≤ s.size ∧ i = .int .i64 k ∧ n = .int .i64 m ∧ m ≤ 4611686018427388159 ∧ Hid (rdF 8 m ((l.map (· - 48)).drop k) = r)) (fun _ i => s.size - (intOf i).toNat)
  case atStart => exact ⟨0, 0, Nat.zero_le _, rfl, rfl, by omega, by rw [HR.out]; trivial⟩
  case round =>
    obtain ⟨k, m, hk, rfl, rfl, hm, HM⟩ := hrel
    by_cases hlt : k < s.size
    · have hg := get_bs' Hs.out.1 k hlt
      have hmk : k < (l.map (· - 48)).length := by rw [List.length_map, ← Hs.out.2]; exact hlt
      have hd : (l.map (· - 48)).getD k 0 = s[k] - 48 := by
        rw [hg]
        have : k < l.length := by rw [← Hs.out.2]; exact hlt
        simp [List.getD_eq_getElem?_getD, this]
      obtain ⟨h8, h9⟩ := sub48 s[k]
      have HK := Lib.hid (And.intro hmk (And.intro hd (And.intro h8 h9)))
      have hyl := s[k].toNat_lt
      clear hg hmk hd h8 h9
      by_cases c1 : ((s[k].toNat : Int) < 48 ∨ 55 < (s[k].toNat : Int)) ∨ 576460752303423488 < m
      · have hbad := rdF_bad (base := 8) (n := m) HK.out.1 (by rw [HK.out.2.1]; rcases c1 with c1 | c1; exact .inl (HK.out.2.2.1.2 c1); exact .inr c1)
        rw [HM.out] at hbad
        subst hbad
        by_cases d1 : (s[k].toNat : Int) < 48
        · clear c1
          go_wp2
          go_ret2
          exact ⟨rfl, rfl⟩
        · by_cases d2 : 55 < (s[k].toNat : Int)
          · clear c1
            go_wp2
            go_ret2
            exact ⟨rfl, rfl⟩
          · have d3 : (576460752303423488 : Int) < m := by omega
            clear c1
            go_wp2
            go_ret2
            exact ⟨rfl, rfl⟩
      · have d1 : ¬ (s[k].toNat : Int) < 48 := fun h => c1 (.inl (.inl h))
        have d2 : ¬ 55 < (s[k].toNat : Int) := fun h => c1 (.inl (.inr h))
        have d3 : ¬ (576460752303423488 : Int) < m := fun h => c1 (.inr (by omega))
        have hv : (s[k] - 48 : UInt8).toNat = s[k].toNat - 48 := HK.out.2.2.2 (by omega)
        have hgo := rdF_go (base := 8) (n := m) HK.out.1 (by rw [HK.out.2.1, hv]; omega) (by omega)
        rw [HM.out, HK.out.2.1, hv] at hgo
        have HGO := Lib.hid hgo
        clear c1 hgo hv
        go_wp2
        go_round
        case rel =>
          exact ⟨k + 1, m * 8 + (s[k].toNat - 48), by omega, by go_num, by congr 1; omega, by omega, HGO.out.symm⟩
        case measure => simp [intOf]; omega
    · obtain rfl : k = s.size := by omega
      have hend : r = (m, decide (m ≤ 4611686018427387904)) := by
        have := HM.out
        rw [List.drop_eq_nil_of_le (by rw [List.length_map, ← Hs.out.2]; exact Nat.le_refl _)] at this
        exact this.symm
      subst hend
      have hdec := dec62 m
      go_wp2
      go_ret2
      exact ⟨rfl, rfl⟩
end Go.Proofs.YtpapbnmacjoihaaDoor
