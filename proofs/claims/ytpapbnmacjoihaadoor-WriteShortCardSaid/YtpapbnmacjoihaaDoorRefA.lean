/- bindleref01: Cut. -/
import Derived.Test.YtpapbnmacjoihaaDoorHeadB
namespace Go.Proofs.YtpapbnmacjoihaaDoor
open Go.RowKit Go.Shelf

set_option maxHeartbeats 2000000 in
set_option maxRecDepth 100000 in
theorem ref_Cut (l : List UInt8) (w : World) (hl : l.length ≤ 1000000) :
    Calls Tryd.prog 18 #[.string (bs l)] w fun e w' => e = .returned (cutV (cutS l)) ∧ Ext w w' := by
  have hsz := bs_size l
  by_cases h100 : l.length ≤ 100
  · have e0 : cutS l = some ([], l) := by unfold cutS; rw [if_pos h100]
    rw [e0]
    have h100' : (bs l).size ≤ 100 := by omega
    have Hsz := Lib.hid hsz
    clear hsz
    obtain ⟨s, hs⟩ : ∃ s, s = bs l := ⟨_, rfl⟩
    rw [show cutV (some ([], l)) = .tuple #[.string (bs []), .string (bs l), .bool true] from rfl]
    rw [← hs] at h100' ⊢
    clear hs Hsz
    go_enter Tryd.func18, Tryd.ntmps18
    go_wp2
    go_ret3
    exact ⟨rfl, Ext.refl _⟩
  · have e0 : cutS l = (firstOk l).map fun k => (l.take k, l.drop (k + 1)) := by unfold cutS; rw [if_neg h100]
    rw [e0]
    have h100' : ¬ (bs l).size ≤ 100 := by omega
    have hl' : (bs l).size ≤ 1000000 := by omega
    have Hsz := Lib.hid hsz
    clear hsz e0
    obtain ⟨s, hs⟩ : ∃ s, s = bs l := ⟨_, rfl⟩
    rw [← hs] at h100' hl' ⊢
    have hlen : s.size = l.length := by rw [hs, bs_size]
    have hget : ∀ k (h : k < s.size), s[k] = l.getD k 0 := by
      intro k h
      subst hs
      have : k < l.length := by omega
      simp [bs, List.getD_eq_getElem?_getD, this]
      rfl
    have Hs := Lib.hid hs
    have HG := Lib.hid hget
    clear hs hget
    have Hlen := Lib.hid hlen
    clear hlen
    go_enter Tryd.func18, Tryd.ntmps18
    go_wp2_with fail
    go_loop [5] (fun i => ∃ k : Nat, k ≤ s.size ∧ i = .int .i64 k ∧ Hid (∀ j, j < k → okCut l j = false)) (fun i => s.size - (intOf i).toNat)
    case atStart => exact ⟨0, Nat.zero_le _, rfl, fun j hj => absurd hj (Nat.not_lt_zero _)⟩
    case round =>
      obtain ⟨k, hk, rfl, HM⟩ := hrel
      by_cases hlt : k < s.size
      · have ho : okCut l k = true ↔ ((s[k].toNat : Int) = 47 ∧ 0 < k ∧ k ≤ 155 ∧ (s.size : Int) - k - 1 ≤ 100 ∧ 1 < (s.size : Int) - k) := by
          unfold okCut
          simp only [Bool.and_eq_true, decide_eq_true_eq]
          rw [← HG.out k hlt, ← Hlen.out]
          have h47 : s[k] = 47 ↔ (s[k].toNat : Int) = 47 := ⟨fun e => by rw [e]; rfl, fun e => UInt8.toNat_inj.1 (by simpa using Int.ofNat_inj.1 e)⟩
          rw [h47]
          omega
        have HO := Lib.hid ho
        have HK := Lib.hid hlt
        clear ho
        have kw1 : IntKind.i64.wrap ((k : Int) + 1) = (k : Int) + 1 := IntWalk.i64_in _ (by omega)
        have kt1 : ((k : Int) + 1).toNat = k + 1 := by omega
        have kn1 : (0 : Int) ≤ (k : Int) + 1 := by omega
        go_wp2
        · have hok : firstOk l = some k := firstOk_some (by rw [← Hlen.out]; exact hlt) (HO.out.2 (by refine ⟨‹_›, ‹_›, ?_, ‹_›, ‹_›⟩; omega)) HM.out
          have HF := Lib.hid hok
          clear hok
          go_quiet (fail)
          go_wp2
          go_ret3
          refine ⟨?_, Ext.drewN _ _⟩
          rw [HF.out]
          show Ending.returned (.tuple #[.string (s.extract 0 k), .string (s.extract (k + 1) s.size), .bool true]) = _
          rw [Hlen.out, Hs.out, bs_extract, bs_extract, List.take_length, List.drop_zero]
          rfl
        all_goals
          refine ⟨⟨k + 1, by omega, by go_num, fun j hj => ?_⟩, by simp [intOf]; omega⟩
          by_cases e : j = k
          · rw [e]
            exact Bool.eq_false_iff.2 fun h => by have := HO.out.1 h; omega
          · exact HM.out j (by omega)
      · obtain rfl : k = s.size := by omega
        have hno : firstOk l = none := firstOk_none (by rw [← Hlen.out]; exact HM.out)
        have HO := Lib.hid hno
        clear hno
        go_wp2
        go_ret3
        exact ⟨by rw [HO.out]; rfl, Ext.refl _⟩
end Go.Proofs.YtpapbnmacjoihaaDoor
