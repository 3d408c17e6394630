/- bindleref01.Text. -/
/- bindleref01.Clean. -/
import Derived.Test.YtpapbnmacjoihaaDoorTextP
import Derived.Test.YtpapbnmacjoihaaDoorRefD
namespace Go.Proofs.YtpapbnmacjoihaaDoor
open Go.RowKit Go.Shelf

/-- s[k] as the walk has it. -/
theorem at_drop (l : List UInt8) (i j : Nat) : (l.drop i).getD j 0 = l.getD (i + j) 0 := by
  simp [List.getD_eq_getElem?_getD, List.getElem?_drop]
theorem textS_drop {l : List UInt8} {i : Nat} (hi : i < l.length) : textS (l.drop i) = match goStep (l.length - i) (l.getD i 0).toNat (l.getD (i + 1) 0).toNat (l.getD (i + 2) 0).toNat (l.getD (i + 3) 0).toNat with
      | none => false
      | some k => textS (l.drop (i + k)) := by
  have hne : l.drop i ≠ [] := by
    intro e
    have := congrArg List.length e
    rw [List.length_drop, List.length_nil] at this
    omega
  rw [textS_step _ hne, List.length_drop, at_drop, at_drop, at_drop, at_drop, Nat.add_zero]
  cases goStep (l.length - i) (l.getD i 0).toNat (l.getD (i + 1) 0).toNat (l.getD (i + 2) 0).toNat (l.getD (i + 3) 0).toNat with
  | none => rfl
  | some k => simp only; rw [List.drop_drop]

set_option maxHeartbeats 4000000 in
set_option maxRecDepth 100000 in
theorem ref_Text (l : List UInt8) (w : World) (hl : l.length ≤ 1000000000) :
    Calls Tryd.prog 82 #[.string (bs l)] w fun e w' => e = .returned (.bool (textS l)) ∧ w = w' := by
  obtain ⟨s, hs⟩ : ∃ s, s = bs l := ⟨_, rfl⟩
  have hsl : s.size = l.length := by rw [hs, bs_size]
  rw [← hs]
  obtain ⟨r, hr⟩ : ∃ r, r = textS l := ⟨_, rfl⟩
  rw [← hr]
  have hss : s.size ≤ 1000000000 := by omega
  have HR := Lib.hid hr
  have Hs := Lib.hid (And.intro hs hsl)
  clear hs hsl hr
  go_enter Tryd.func82, Tryd.ntmps82
  go_wp2_with fail
  go_loop [3] (fun i => ∃ k : Nat, k ≤ s.size ∧ i = .int .i64 k ∧ Hid (textS (l.drop k) = r)) (fun i => s.size - (intOf i).toNat)
  case atStart => exact ⟨0, Nat.zero_le _, rfl, HR.out.symm⟩
  case round =>
    obtain ⟨k, hk, rfl, HM⟩ := hrel
    by_cases hlt : k < s.size
    · have hg := get_bs' Hs.out.1 k hlt
      have hst := textS_drop (l := l) (i := k) (by rw [← Hs.out.2]; exact hlt)
      rw [HM.out, ← hg] at hst
      have hc := s[k].toNat_lt
      have HST := Lib.hid hst
      clear hg hst
      by_cases c0 : s[k].toNat = 0
      · have e0 : r = false := by rw [HST.out]; unfold goStep; rw [if_pos c0]
        subst e0
        have c0' : ((s[k].toNat : Int) == 0) = true := by rw [c0]; rfl
        clear c0
        go_wp2
        go_ret
        exact ⟨rfl, rfl⟩
      · have c0' : ((s[k].toNat : Int) == 0) = false := beq_eq_false_iff_ne.2 (by omega)
        by_cases c1 : s[k].toNat < 128
        · have e1 : textS (l.drop (k + 1)) = r := by
            have := HST.out
            unfold goStep at this
            rw [if_neg c0, if_pos c1] at this
            exact this.symm
          have c1' : (s[k].toNat : Int) < 128 := by omega
          have E1 := Lib.hid e1
          clear c0 c1 e1 HST
          go_wp2_with fail
          go_loop [6] (fun j => j = .int .i64 1) (fun _ => 0)
          case atStart => rfl
          case round =>
            subst hrel
            go_wp2
            go_round
            case rel => exact ⟨k + 1, by omega, by go_num, E1.out⟩
            case measure => simp [intOf]; omega
        · have c1' : ¬ (s[k].toNat : Int) < 128 := by omega
          by_cases c2 : 194 ≤ s[k].toNat ∧ s[k].toNat < 224
          · have ca : (194 : Int) ≤ (s[k].toNat : Int) := by omega
            have cb : (s[k].toNat : Int) < 224 := by omega
            have hst := HST.out
            unfold goStep at hst
            rw [if_neg c0, if_neg c1, if_pos c2] at hst
            have H2 := Lib.hid hst
            clear hst HST c0 c1 c2
            by_cases d : l.length - k < 2
            · have e0 : r = false := by rw [H2.out, if_pos (.inl d)]
              subst e0
              have d' : ((s.size : Int) - (k : Int)) < 2 := by have := Hs.out.2; omega
              clear d
              go_wp2
              go_ret
              exact ⟨rfl, rfl⟩
            · have d' : ¬ ((s.size : Int) - (k : Int)) < 2 := by have := Hs.out.2; omega
              have hk1 : k + 1 < s.size := by have := Hs.out.2; omega
              have hkn : k + 1 < s.size := by have := Hs.out.2; omega
              have D := Lib.hid d
              clear d
              go_wp2_with fail
              go_loop [6] (fun i => ∃ j : Nat, 1 ≤ j ∧ j ≤ 2 ∧ i = .int .i64 j ∧ Hid (∀ i, 1 ≤ i → i < j → 128 ≤ (l.getD (k + i) 0).toNat ∧ (l.getD (k + i) 0).toNat ≤ 191)) (fun i => 2 - (intOf i).toNat)
              case atStart => exact ⟨1, by omega, by omega, rfl, fun i h1 h2 => by omega⟩
              case round =>
                obtain ⟨j, hj1, hj2, rfl, HJ⟩ := hrel
                by_cases hj : j < 2
                · have hkj : k + j < s.size := by omega
                  have hg := get_bs' Hs.out.1 (k + j) hkj
                  by_cases e1 : s[k + j].toNat < 128
                  · have e0 : r = false := by
                      have hj' : j = 1 := by omega
                      rw [H2.out, if_pos (by rw [hg] at e1; rcases hj' with rfl <;> omega)]
                    subst e0
                    have e1' : (s[k + j].toNat : Int) < 128 := by omega
                    clear e1 hg
                    go_wp2
                    go_ret
                    exact ⟨rfl, rfl⟩
                  · have e1' : ¬ (s[k + j].toNat : Int) < 128 := by omega
                    by_cases e2 : 191 < s[k + j].toNat
                    · have e0 : r = false := by
                        have hj' : j = 1 := by omega
                        rw [H2.out, if_pos (by rw [hg] at e2; rcases hj' with rfl <;> omega)]
                      subst e0
                      have e2' : (191 : Int) < (s[k + j].toNat : Int) := by omega
                      clear e1 e2 hg
                      go_wp2
                      go_ret
                      exact ⟨rfl, rfl⟩
                    · have e2' : ¬ (191 : Int) < (s[k + j].toNat : Int) := by omega
                      have HJ2 : Hid (∀ i, 1 ≤ i → i < j + 1 → 128 ≤ (l.getD (k + i) 0).toNat ∧ (l.getD (k + i) 0).toNat ≤ 191) := fun i h1 h2 => by
                        by_cases ei : i = j
                        · subst ei; rw [hg] at e1 e2; omega
                        · exact HJ.out i h1 (by omega)
                      clear e1 e2 hg
                      go_wp2
                      go_round
                      case rel => exact ⟨j + 1, by omega, by omega, by go_num, HJ2.out⟩
                      case measure => simp [intOf]; omega
                · obtain rfl : j = 2 := by omega
                  go_wp2
                  go_round
                  case rel => exact ⟨k + 2, by omega, by go_num, by rw [H2.out, if_neg (by have h1 := HJ.out 1 (by omega) (by omega); have := D.out; omega)]; rfl⟩
                  case measure => simp [intOf]; omega
          · by_cases c3 : 224 ≤ s[k].toNat ∧ s[k].toNat < 240
            · have ca : (224 : Int) ≤ (s[k].toNat : Int) := by omega
              have cb : (s[k].toNat : Int) < 240 := by omega
              have hst := HST.out
              unfold goStep at hst
              rw [if_neg c0, if_neg c1, if_neg c2, if_pos c3] at hst
              have H2 := Lib.hid hst
              clear hst HST c0 c1 c2 c3
              have x2a : (194 : Int) ≤ (s[k].toNat : Int) := by omega
              have x2b : ¬ (s[k].toNat : Int) < 224 := by omega
              by_cases d : l.length - k < 3
              · have e0 : r = false := by rw [H2.out, if_pos (.inl d)]
                subst e0
                have d' : ((s.size : Int) - (k : Int)) < 3 := by have := Hs.out.2; omega
                clear d
                go_wp2
                go_ret
                exact ⟨rfl, rfl⟩
              · have d' : ¬ ((s.size : Int) - (k : Int)) < 3 := by have := Hs.out.2; omega
                have hk1 : k + 1 < s.size := by have := Hs.out.2; omega
                have hkn : k + 2 < s.size := by have := Hs.out.2; omega
                have D := Lib.hid d
                clear d
                go_wp2_with fail
                go_loop [6] (fun i => ∃ j : Nat, 1 ≤ j ∧ j ≤ 3 ∧ i = .int .i64 j ∧ Hid (∀ i, 1 ≤ i → i < j → 128 ≤ (l.getD (k + i) 0).toNat ∧ (l.getD (k + i) 0).toNat ≤ 191)) (fun i => 3 - (intOf i).toNat)
                case atStart => exact ⟨1, by omega, by omega, rfl, fun i h1 h2 => by omega⟩
                case round =>
                  obtain ⟨j, hj1, hj2, rfl, HJ⟩ := hrel
                  by_cases hj : j < 3
                  · have hkj : k + j < s.size := by omega
                    have hg := get_bs' Hs.out.1 (k + j) hkj
                    by_cases e1 : s[k + j].toNat < 128
                    · have e0 : r = false := by
                        have hj' : j = 1 ∨ j = 2 := by omega
                        rw [H2.out, if_pos (by rw [hg] at e1; rcases hj' with rfl | rfl <;> omega)]
                      subst e0
                      have e1' : (s[k + j].toNat : Int) < 128 := by omega
                      clear e1 hg
                      go_wp2
                      go_ret
                      exact ⟨rfl, rfl⟩
                    · have e1' : ¬ (s[k + j].toNat : Int) < 128 := by omega
                      by_cases e2 : 191 < s[k + j].toNat
                      · have e0 : r = false := by
                          have hj' : j = 1 ∨ j = 2 := by omega
                          rw [H2.out, if_pos (by rw [hg] at e2; rcases hj' with rfl | rfl <;> omega)]
                        subst e0
                        have e2' : (191 : Int) < (s[k + j].toNat : Int) := by omega
                        clear e1 e2 hg
                        go_wp2
                        go_ret
                        exact ⟨rfl, rfl⟩
                      · have e2' : ¬ (191 : Int) < (s[k + j].toNat : Int) := by omega
                        have HJ2 : Hid (∀ i, 1 ≤ i → i < j + 1 → 128 ≤ (l.getD (k + i) 0).toNat ∧ (l.getD (k + i) 0).toNat ≤ 191) := fun i h1 h2 => by
                          by_cases ei : i = j
                          · subst ei; rw [hg] at e1 e2; omega
                          · exact HJ.out i h1 (by omega)
                        clear e1 e2 hg
                        go_wp2
                        go_round
                        case rel => exact ⟨j + 1, by omega, by omega, by go_num, HJ2.out⟩
                        case measure => simp [intOf]; omega
                  · obtain rfl : j = 3 := by omega
                    have hg := get_bs' Hs.out.1 (k + 1) hk1
                    by_cases f1 : s[k].toNat = 224
                    · have f1' : ((s[k].toNat : Int) == 224) = true := by rw [f1]; rfl
                      have f2' : ((s[k].toNat : Int) == 237) = false := beq_eq_false_iff_ne.2 (by omega)
                      by_cases g1 : s[k + 1].toNat < 160
                      · have e0 : r = false := by rw [H2.out, if_pos (by rw [hg] at g1; omega)]
                        subst e0
                        have g1' : (s[k + 1].toNat : Int) < 160 := by omega
                        clear g1 hg f1
                        go_wp2
                        go_ret
                        exact ⟨rfl, rfl⟩
                      · have g1' : ¬ (s[k + 1].toNat : Int) < 160 := by omega
                        have G := Lib.hid (And.intro g1 (And.intro hg f1))
                        clear g1 hg f1
                        go_wp2
                        go_round
                        case rel => exact ⟨k + 3, by omega, by go_num, by rw [H2.out, if_neg (by have h1 := HJ.out 1 (by omega) (by omega); have h2 := HJ.out 2 (by omega) (by omega); have := D.out; have g1 := G.out.1; rw [G.out.2.1] at g1; have f1 := G.out.2.2; omega)]; rfl⟩
                        case measure => simp [intOf]; omega
                    · have f1' : ((s[k].toNat : Int) == 224) = false := beq_eq_false_iff_ne.2 (by omega)
                      by_cases f2 : s[k].toNat = 237
                      · have f2' : ((s[k].toNat : Int) == 237) = true := by rw [f2]; rfl
                        by_cases g1 : 159 < s[k + 1].toNat
                        · have e0 : r = false := by rw [H2.out, if_pos (by rw [hg] at g1; omega)]
                          subst e0
                          have g1' : (159 : Int) < (s[k + 1].toNat : Int) := by omega
                          clear g1 hg f1 f2
                          go_wp2
                          go_ret
                          exact ⟨rfl, rfl⟩
                        · have g1' : ¬ (159 : Int) < (s[k + 1].toNat : Int) := by omega
                          have G := Lib.hid (And.intro g1 (And.intro hg f2))
                          clear g1 hg f1 f2
                          go_wp2
                          go_round
                          case rel => exact ⟨k + 3, by omega, by go_num, by rw [H2.out, if_neg (by have h1 := HJ.out 1 (by omega) (by omega); have h2 := HJ.out 2 (by omega) (by omega); have := D.out; have g1 := G.out.1; rw [G.out.2.1] at g1; have f2 := G.out.2.2; omega)]; rfl⟩
                          case measure => simp [intOf]; omega
                      · have f2' : ((s[k].toNat : Int) == 237) = false := beq_eq_false_iff_ne.2 (by omega)
                        have G := Lib.hid (And.intro f1 f2)
                        clear f1 f2 hg
                        go_wp2
                        go_round
                        case rel => exact ⟨k + 3, by omega, by go_num, by rw [H2.out, if_neg (by have h1 := HJ.out 1 (by omega) (by omega); have h2 := HJ.out 2 (by omega) (by omega); have := D.out; have f1 := G.out.1; have f2 := G.out.2; omega)]; rfl⟩
                        case measure => simp [intOf]; omega
            · by_cases c4 : 240 ≤ s[k].toNat ∧ s[k].toNat < 245
              · have ca : (240 : Int) ≤ (s[k].toNat : Int) := by omega
                have cb : (s[k].toNat : Int) < 245 := by omega
                have hst := HST.out
                unfold goStep at hst
                rw [if_neg c0, if_neg c1, if_neg c2, if_neg c3, if_pos c4] at hst
                have H2 := Lib.hid hst
                clear hst HST c0 c1 c2 c3 c4
                have x2a : (194 : Int) ≤ (s[k].toNat : Int) := by omega
                have x2b : ¬ (s[k].toNat : Int) < 224 := by omega
                have x3a : (224 : Int) ≤ (s[k].toNat : Int) := by omega
                have x3b : ¬ (s[k].toNat : Int) < 240 := by omega
                by_cases d : l.length - k < 4
                · have e0 : r = false := by rw [H2.out, if_pos (.inl d)]
                  subst e0
                  have d' : ((s.size : Int) - (k : Int)) < 4 := by have := Hs.out.2; omega
                  clear d
                  go_wp2
                  go_ret
                  exact ⟨rfl, rfl⟩
                · have d' : ¬ ((s.size : Int) - (k : Int)) < 4 := by have := Hs.out.2; omega
                  have hk1 : k + 1 < s.size := by have := Hs.out.2; omega
                  have hkn : k + 3 < s.size := by have := Hs.out.2; omega
                  have D := Lib.hid d
                  clear d
                  go_wp2_with fail
                  go_loop [6] (fun i => ∃ j : Nat, 1 ≤ j ∧ j ≤ 4 ∧ i = .int .i64 j ∧ Hid (∀ i, 1 ≤ i → i < j → 128 ≤ (l.getD (k + i) 0).toNat ∧ (l.getD (k + i) 0).toNat ≤ 191)) (fun i => 4 - (intOf i).toNat)
                  case atStart => exact ⟨1, by omega, by omega, rfl, fun i h1 h2 => by omega⟩
                  case round =>
                    obtain ⟨j, hj1, hj2, rfl, HJ⟩ := hrel
                    by_cases hj : j < 4
                    · have hkj : k + j < s.size := by omega
                      have hg := get_bs' Hs.out.1 (k + j) hkj
                      by_cases e1 : s[k + j].toNat < 128
                      · have e0 : r = false := by
                          have hj' : j = 1 ∨ j = 2 ∨ j = 3 := by omega
                          rw [H2.out, if_pos (by rw [hg] at e1; rcases hj' with rfl | rfl | rfl <;> omega)]
                        subst e0
                        have e1' : (s[k + j].toNat : Int) < 128 := by omega
                        clear e1 hg
                        go_wp2
                        go_ret
                        exact ⟨rfl, rfl⟩
                      · have e1' : ¬ (s[k + j].toNat : Int) < 128 := by omega
                        by_cases e2 : 191 < s[k + j].toNat
                        · have e0 : r = false := by
                            have hj' : j = 1 ∨ j = 2 ∨ j = 3 := by omega
                            rw [H2.out, if_pos (by rw [hg] at e2; rcases hj' with rfl | rfl | rfl <;> omega)]
                          subst e0
                          have e2' : (191 : Int) < (s[k + j].toNat : Int) := by omega
                          clear e1 e2 hg
                          go_wp2
                          go_ret
                          exact ⟨rfl, rfl⟩
                        · have e2' : ¬ (191 : Int) < (s[k + j].toNat : Int) := by omega
                          have HJ2 : Hid (∀ i, 1 ≤ i → i < j + 1 → 128 ≤ (l.getD (k + i) 0).toNat ∧ (l.getD (k + i) 0).toNat ≤ 191) := fun i h1 h2 => by
                            by_cases ei : i = j
                            · subst ei; rw [hg] at e1 e2; omega
                            · exact HJ.out i h1 (by omega)
                          clear e1 e2 hg
                          go_wp2
                          go_round
                          case rel => exact ⟨j + 1, by omega, by omega, by go_num, HJ2.out⟩
                          case measure => simp [intOf]; omega
                    · obtain rfl : j = 4 := by omega
                      have hg := get_bs' Hs.out.1 (k + 1) hk1
                      by_cases f1 : s[k].toNat = 240
                      · have f1' : ((s[k].toNat : Int) == 240) = true := by rw [f1]; rfl
                        have f2' : ((s[k].toNat : Int) == 244) = false := beq_eq_false_iff_ne.2 (by omega)
                        by_cases g1 : s[k + 1].toNat < 144
                        · have e0 : r = false := by rw [H2.out, if_pos (by rw [hg] at g1; omega)]
                          subst e0
                          have g1' : (s[k + 1].toNat : Int) < 144 := by omega
                          clear g1 hg f1
                          go_wp2
                          go_ret
                          exact ⟨rfl, rfl⟩
                        · have g1' : ¬ (s[k + 1].toNat : Int) < 144 := by omega
                          have G := Lib.hid (And.intro g1 (And.intro hg f1))
                          clear g1 hg f1
                          go_wp2
                          go_round
                          case rel => exact ⟨k + 4, by omega, by go_num, by rw [H2.out, if_neg (by have h1 := HJ.out 1 (by omega) (by omega); have h2 := HJ.out 2 (by omega) (by omega); have h3 := HJ.out 3 (by omega) (by omega); have := D.out; have g1 := G.out.1; rw [G.out.2.1] at g1; have f1 := G.out.2.2; omega)]; rfl⟩
                          case measure => simp [intOf]; omega
                      · have f1' : ((s[k].toNat : Int) == 240) = false := beq_eq_false_iff_ne.2 (by omega)
                        by_cases f2 : s[k].toNat = 244
                        · have f2' : ((s[k].toNat : Int) == 244) = true := by rw [f2]; rfl
                          by_cases g1 : 143 < s[k + 1].toNat
                          · have e0 : r = false := by rw [H2.out, if_pos (by rw [hg] at g1; omega)]
                            subst e0
                            have g1' : (143 : Int) < (s[k + 1].toNat : Int) := by omega
                            clear g1 hg f1 f2
                            go_wp2
                            go_ret
                            exact ⟨rfl, rfl⟩
                          · have g1' : ¬ (143 : Int) < (s[k + 1].toNat : Int) := by omega
                            have G := Lib.hid (And.intro g1 (And.intro hg f2))
                            clear g1 hg f1 f2
                            go_wp2
                            go_round
                            case rel => exact ⟨k + 4, by omega, by go_num, by rw [H2.out, if_neg (by have h1 := HJ.out 1 (by omega) (by omega); have h2 := HJ.out 2 (by omega) (by omega); have h3 := HJ.out 3 (by omega) (by omega); have := D.out; have g1 := G.out.1; rw [G.out.2.1] at g1; have f2 := G.out.2.2; omega)]; rfl⟩
                            case measure => simp [intOf]; omega
                        · have f2' : ((s[k].toNat : Int) == 244) = false := beq_eq_false_iff_ne.2 (by omega)
                          have G := Lib.hid (And.intro f1 f2)
                          clear f1 f2 hg
                          go_wp2
                          go_round
                          case rel => exact ⟨k + 4, by omega, by go_num, by rw [H2.out, if_neg (by have h1 := HJ.out 1 (by omega) (by omega); have h2 := HJ.out 2 (by omega) (by omega); have h3 := HJ.out 3 (by omega) (by omega); have := D.out; have f1 := G.out.1; have f2 := G.out.2; omega)]; rfl⟩
                          case measure => simp [intOf]; omega
              · have e0 : r = false := by
                  rw [HST.out]
                  unfold goStep
                  rw [if_neg c0, if_neg c1, if_neg c2, if_neg c3, if_neg c4]
                subst e0
                by_cases cl : s[k].toNat < 194
                · have cl' : ¬ (194 : Int) ≤ (s[k].toNat : Int) := by omega
                  have cl2 : ¬ (224 : Int) ≤ (s[k].toNat : Int) := by omega
                  have cl3 : ¬ (240 : Int) ≤ (s[k].toNat : Int) := by omega
                  clear c0 c1 c2 c3 c4 cl
                  go_wp2
                  go_ret
                  exact ⟨rfl, rfl⟩
                · have c1a : (194 : Int) ≤ (s[k].toNat : Int) := by omega
                  have c1b : ¬ (s[k].toNat : Int) < 224 := by omega
                  have c2a : (224 : Int) ≤ (s[k].toNat : Int) := by omega
                  have c2b : ¬ (s[k].toNat : Int) < 240 := by omega
                  have c3a : (240 : Int) ≤ (s[k].toNat : Int) := by omega
                  have c3b : ¬ (s[k].toNat : Int) < 245 := by omega
                  clear c0 c1 c2 c3 c4 cl
                  go_wp2
                  go_ret
                  exact ⟨rfl, rfl⟩
    · obtain rfl : k = s.size := by omega
      have hend : r = true := by
        have := HM.out
        rw [List.drop_eq_nil_of_le (by rw [← Hs.out.2]; exact Nat.le_refl _)] at this
        exact this.symm
      subst hend
      go_wp2
      go_ret
      exact ⟨rfl, rfl⟩
end Go.Proofs.YtpapbnmacjoihaaDoor

namespace Go.Proofs.YtpapbnmacjoihaaDoor
open Go.RowKit Go.Shelf

/-- What the loop of Clean has gathered: the parts ds, of which none is '..'. -/
def Gd (ds : List (List UInt8)) (o : List UInt8) : Prop := [46, 46] ∉ ds ∧ o = Lib.join (ds.filter keepB) [47]
def ClR (l : List UInt8) (k a : Nat) (o : List UInt8) : Prop :=
  (k ≤ l.length ∧ a ≤ k ∧ (47 : UInt8) ∉ (l.take k).drop a ∧ ∃ ds, splitB 47 l = ds ++ splitB 47 (l.drop a) ∧ Gd ds o) ∨ (k = l.length + 1 ∧ Gd (splitB 47 l) o)
theorem ClR.len {l : List UInt8} {k a : Nat} {o : List UInt8} (h : ClR l k a o) : o.length ≤ l.length + 1 := by
  have hj : ∀ ds : List (List UInt8), Lib.lens ds + ds.length ≤ l.length + 1 → Gd ds o → o.length ≤ l.length + 1 := by
    intro ds h1 h2
    rw [h2.2]
    have h3 := join_len (ds.filter keepB)
    have h4 := lens_filter keepB ds
    omega
  have hs := splitB_sum (c := 47) l
  rcases h with ⟨_, _, _, ds, h1, h2⟩ | ⟨_, h2⟩
  · rw [h1] at hs
    simp only [Lib.lens, List.map_append, List.sum_append, List.length_append] at hs
    exact hj ds (by unfold Lib.lens; omega) h2
  · exact hj _ (by omega) h2
theorem ClR.go {l : List UInt8} {k a : Nat} {o : List UInt8} (h : ClR l k a o) (hk : k < l.length) (hx : l.getD k 0 ≠ 47) : ClR l (k + 1) a o := by
  rcases h with ⟨h1, h2, h3, h4⟩ | ⟨h1, _⟩
  · refine .inl ⟨by omega, by omega, ?_, h4⟩
    rw [List.take_add_one, List.drop_append_of_le_length (by rw [List.length_take]; omega), List.mem_append]
    rintro (hm | hm)
    · exact h3 hm
    · rw [List.getElem?_eq_getElem hk] at hm
      simp only [Option.toList_some, List.mem_singleton] at hm
      exact hx (by rw [List.getD_eq_getElem?_getD, List.getElem?_eq_getElem hk, Option.getD_some]; exact hm.symm)
  · omega
/-- one part more: at a byte '/', or at the end. -/
theorem ClR.part {l : List UInt8} {k a : Nat} {o : List UInt8} (h : ClR l k a o) (hk : k ≤ l.length) (hx : k = l.length ∨ l.getD k 0 = 47) :
    ∃ ds, ((l.take k).drop a ∈ splitB 47 l) ∧ Gd ds o ∧ ∀ o', Gd (ds ++ [(l.take k).drop a]) o' → ClR l (k + 1) (k + 1) o' := by
  rcases h with ⟨h1, h2, h3, ds, h4, h5⟩ | ⟨h1, _⟩
  · have hsplit : l.drop a = (l.take k).drop a ++ l.drop k := by
      have : l.drop a = (l.take k ++ l.drop k).drop a := by rw [List.take_append_drop]
      rw [this, List.drop_append_of_le_length (by rw [List.length_take]; omega)]
    by_cases hke : k = l.length
    · have e : splitB 47 (l.drop a) = [(l.take k).drop a] := by
        rw [hsplit, hke, List.drop_length, List.append_nil]
        rw [hke] at h3
        exact splitB_no h3
      refine ⟨ds, by rw [h4, e]; simp, h5, fun o' ho => .inr ⟨by omega, ?_⟩⟩
      rw [h4, e]; exact ho
    · have hkl : k < l.length := by omega
      have h47 := hx.resolve_left hke
      rw [List.getD_eq_getElem?_getD, List.getElem?_eq_getElem hkl, Option.getD_some] at h47
      have e : splitB 47 (l.drop a) = (l.take k).drop a :: splitB 47 (l.drop (k + 1)) := by
        rw [hsplit, List.drop_eq_getElem_cons hkl, h47, splitB_app h3]
      refine ⟨ds, by rw [h4, e]; simp, h5, fun o' ho => .inl ⟨by omega, Nat.le_refl _, ?_, ds ++ [(l.take k).drop a], ?_, ho⟩⟩
      · rw [List.drop_eq_nil_of_le (by rw [List.length_take]; omega)]; simp
      · rw [h4, e, List.append_assoc]; rfl
  · omega
theorem Gd.skip {ds : List (List UInt8)} {o p : List UInt8} (h : Gd ds o) (hp : keepB p = false) (h2 : p ≠ [46, 46]) : Gd (ds ++ [p]) o := by
  refine ⟨?_, ?_⟩
  · rw [List.mem_append, List.mem_singleton]
    exact fun hm => hm.elim h.1 (fun e => h2 e.symm)
  · rw [List.filter_append, List.filter_cons, hp, h.2]; simp
theorem Gd.keep {ds : List (List UInt8)} {o p : List UInt8} (h : Gd ds o) (hp : keepB p = true) (h2 : p ≠ [46, 46]) : Gd (ds ++ [p]) (if o = [] then p else o ++ [47] ++ p) := by
  refine ⟨?_, ?_⟩
  · rw [List.mem_append, List.mem_singleton]
    exact fun hm => hm.elim h.1 (fun e => h2 e.symm)
  · rw [List.filter_append, List.filter_cons, hp]
    simp only [if_true, List.filter_nil]
    rw [join_snoc]
    by_cases e : ds.filter keepB = []
    · rw [if_pos e, h.2, e, Lib.join_nil, if_pos rfl]
    · rw [if_neg e, if_neg, h.2]
      rw [h.2]
      refine join_ne (fun p hp => ?_) e
      have := (List.mem_filter.1 hp).2
      unfold keepB at this
      intro e'
      rw [e'] at this
      simp at this

set_option maxHeartbeats 4000000 in
set_option maxRecDepth 100000 in
theorem ref_Clean (l : List UInt8) (w : World) (hl : l.length ≤ 1000000) :
    Calls Tryd.prog 81 #[.string (bs l)] w fun e w' => e = .returned (.tuple #[.string (bs (cleanS l).1), .int .i64 (cleanS l).2]) ∧ w = w' := by
  obtain ⟨s, hs⟩ : ∃ s, s = bs l := ⟨_, rfl⟩
  have hsl : s.size = l.length := by rw [hs, bs_size]
  have hrt := ref_Text l w (by omega)
  obtain ⟨t, ht⟩ : ∃ t, t = textS l := ⟨_, rfl⟩
  rw [← hs, ← ht] at hrt
  rw [← hs]
  have hss : s.size ≤ 1000000 := by omega
  have Hs := Lib.hid (And.intro hs hsl)
  have HT := Lib.hid hrt
  have Ht := Lib.hid ht
  clear hs hsl hrt ht hl
  cases t
  · have e9 : cleanS l = ([], 9) := by unfold cleanS; rw [if_pos Ht.out.symm]
    have E9 := Lib.hid e9
    clear e9
    go_enter Tryd.func81, Tryd.ntmps81
    go_wp2_with fail
    refine HT.out.mono ?_
    rintro e w' ⟨rfl, rfl⟩
    go_wp2
    go_ret2
    exact ⟨by rw [E9.out]; rfl, rfl⟩
  · by_cases h0 : l = []
    · have t0 : s.toList.isEmpty = true := by rw [Hs.out.1, bs_toL, h0]; rfl
      have e6 : cleanS l = ([], 6) := by rw [h0]; rfl
      have E6 := Lib.hid e6
      clear e6 h0
      go_enter Tryd.func81, Tryd.ntmps81
      go_wp2_with fail
      refine HT.out.mono ?_
      rintro e w' ⟨rfl, rfl⟩
      go_wp2
      go_ret2
      exact ⟨by rw [E6.out]; rfl, rfl⟩
    · have t0 : s.toList.isEmpty = false := by rw [Hs.out.1, bs_toL]; cases l; exact absurd rfl h0; rfl
      have hpos : 0 < s.size := by rw [Hs.out.2]; exact List.length_pos_iff.2 h0
      have hg := get_bs' Hs.out.1 0 hpos
      clear h0
      by_cases h47 : l.getD 0 0 = 47
      · have t1 : ((s[0].toNat : Int) == 47) = true := by rw [hg, h47]; rfl
        have e6 : cleanS l = ([], 6) := by unfold cleanS; rw [if_neg (by rw [← Ht.out]; simp), if_pos (.inl h47)]
        have E6 := Lib.hid e6
        clear e6 h47 hg
        go_enter Tryd.func81, Tryd.ntmps81
        go_wp2_with fail
        refine HT.out.mono ?_
        rintro e w' ⟨rfl, rfl⟩
        go_wp2
        go_ret2
        exact ⟨by rw [E6.out]; rfl, rfl⟩
      · have t1 : ((s[0].toNat : Int) == 47) = false := beq_eq_false_iff_ne.2 fun e => h47 (by rw [← hg]; exact UInt8.toNat_inj.1 (by simpa using Int.ofNat_inj.1 e))
        have ec : cleanS l = if [46, 46] ∈ splitB 47 l then ([], 6) else if Lib.join ((splitB 47 l).filter keepB) [47] = [] ∨ 200 < (Lib.join ((splitB 47 l).filter keepB) [47]).length then ([], 6) else (Lib.join ((splitB 47 l).filter keepB) [47], 0) := by
          unfold cleanS
          rw [if_neg (by rw [← Ht.out]; simp)]
          by_cases hd : [46, 46] ∈ splitB 47 l
          · rw [if_pos (.inr hd), if_pos hd]
          · rw [if_neg (fun h => h.elim h47 hd), if_neg hd]
        have EC := Lib.hid ec
        clear ec h47 hg
        go_enter Tryd.func81, Tryd.ntmps81
        go_wp2_with fail
        refine HT.out.mono ?_
        rintro e w' ⟨rfl, rfl⟩
        go_wp2_with fail
        clear t0 t1 HT
        go_loop [4, 5, 6] (fun ov av i => ∃ (k a : Nat) (o : List UInt8), k ≤ s.size + 1 ∧ i = .int .i64 k ∧ av = .int .i64 a ∧ a ≤ k ∧ ov = .string (bs o) ∧ Hid (ClR l k a o)) (fun _ _ i => s.size + 1 - (intOf i).toNat)
        case atStart => exact ⟨0, 0, [], by omega, rfl, rfl, Nat.le_refl _, rfl, .inl ⟨Nat.zero_le _, Nat.le_refl _, by simp, [], rfl, by simp, rfl⟩⟩
        case round =>
          obtain ⟨k, a, o, hk, rfl, rfl, hak, rfl, HM⟩ := hrel
          have hol := HM.out.len
          have hos : (bs o).size ≤ 1000001 := by rw [bs_size]; have := Hs.out.2; omega
          clear hol
          by_cases hle : k ≤ s.size
          · by_cases hgo : k < s.size ∧ l.getD k 0 ≠ 47
            · obtain ⟨hlt, hne⟩ := hgo
              have hg := get_bs' Hs.out.1 k hlt
              have t1 : ((s[k].toNat : Int) != 47) = true := by rw [bne_iff_ne]; exact fun e => hne (by rw [← hg]; exact UInt8.toNat_inj.1 (by simpa using Int.ofNat_inj.1 e))
              have HG : Hid (ClR l (k + 1) a o) := HM.out.go (by rw [← Hs.out.2]; exact hlt) hne
              clear hg hne
              go_wp2
              go_round
              case rel => exact ⟨k + 1, a, o, by omega, by go_num, rfl, by omega, rfl, HG.out⟩
              case measure => simp [intOf]; omega
            · have hx : k = l.length ∨ l.getD k 0 = 47 := by
                by_cases e : k < s.size
                · exact .inr (Classical.byContradiction fun h => hgo ⟨e, h⟩)
                · exact .inl (by have := Hs.out.2; omega)
              obtain ⟨ds, hp1, hp2, hp3⟩ := HM.out.part (by have := Hs.out.2; omega) hx
              have hpe : s.extract a k = bs ((l.take k).drop a) := by rw [Hs.out.1, bs_extract]
              obtain ⟨p, hp⟩ : ∃ p, p = (l.take k).drop a := ⟨_, rfl⟩
              rw [← hp] at hp1 hp3 hpe
              have hps : (s.extract a k).size ≤ 1000000 := by
                rw [hpe, bs_size, hp, List.length_drop, List.length_take]; have := Hs.out.2; omega
              have HP := Lib.hid (And.intro hp1 (And.intro hp2 (And.intro hp3 hpe)))
              have HX := Lib.hid hx
              clear hp1 hp2 hp3 hp hx hgo
              by_cases x2 : p = [46, 46]
              · have t2 : ((s.extract a k).toList == [46, 46]) = true := by rw [hpe, bs_toL, x2]; rfl
                have e6 : cleanS l = ([], 6) := by rw [EC.out, if_pos (by rw [← x2]; exact HP.out.1)]
                have E6 := Lib.hid e6
                clear e6 x2 hpe
                by_cases hlt : k < s.size
                · have hg := get_bs' Hs.out.1 k hlt
                  have t1 : ((s[k].toNat : Int) != 47) = false := by rw [hg, HX.out.resolve_left (by have := Hs.out.2; omega)]; rfl
                  clear hg
                  go_wp2
                  go_ret2
                  exact ⟨by rw [E6.out]; rfl, rfl⟩
                · go_wp2
                  go_ret2
                  exact ⟨by rw [E6.out]; rfl, rfl⟩
              · have t2 : ((s.extract a k).toList == [46, 46]) = false := by rw [hpe, bs_toL]; exact beq_eq_false_iff_ne.2 x2
                by_cases x0 : p = []
                · have t3 : (s.extract a k).toList.isEmpty = true := by rw [hpe, bs_toL, x0]; rfl
                  have HN : Hid (ClR l (k + 1) (k + 1) o) := HP.out.2.2.1 _ (HP.out.2.1.skip (by rw [x0]; rfl) x2)
                  clear x2 x0 hpe
                  by_cases hlt : k < s.size
                  · have hg := get_bs' Hs.out.1 k hlt
                    have t1 : ((s[k].toNat : Int) != 47) = false := by rw [hg, HX.out.resolve_left (by have := Hs.out.2; omega)]; rfl
                    clear hg
                    go_wp2
                    go_round
                    case rel => exact ⟨k + 1, k + 1, o, by omega, by go_num, by go_num, by omega, rfl, HN.out⟩
                    case measure => simp [intOf]; omega
                  · go_wp2
                    go_round
                    case rel => exact ⟨k + 1, k + 1, o, by omega, by go_num, by go_num, by omega, rfl, HN.out⟩
                    case measure => simp [intOf]; omega
                · have t3 : (s.extract a k).toList.isEmpty = false := by rw [hpe, bs_toL]; cases p; exact absurd rfl x0; rfl
                  by_cases x1 : p = [46]
                  · have t4 : ((s.extract a k).toList == [46]) = true := by rw [hpe, bs_toL, x1]; rfl
                    have HN : Hid (ClR l (k + 1) (k + 1) o) := HP.out.2.2.1 _ (HP.out.2.1.skip (by rw [x1]; rfl) x2)
                    clear x2 x0 x1 hpe
                    by_cases hlt : k < s.size
                    · have hg := get_bs' Hs.out.1 k hlt
                      have t1 : ((s[k].toNat : Int) != 47) = false := by rw [hg, HX.out.resolve_left (by have := Hs.out.2; omega)]; rfl
                      clear hg
                      go_wp2
                      go_round
                      case rel => exact ⟨k + 1, k + 1, o, by omega, by go_num, by go_num, by omega, rfl, HN.out⟩
                      case measure => simp [intOf]; omega
                    · go_wp2
                      go_round
                      case rel => exact ⟨k + 1, k + 1, o, by omega, by go_num, by go_num, by omega, rfl, HN.out⟩
                      case measure => simp [intOf]; omega
                  · have t4 : ((s.extract a k).toList == [46]) = false := by rw [hpe, bs_toL]; exact beq_eq_false_iff_ne.2 x1
                    have hk2 := HP.out.2.2.1 _ (HP.out.2.1.keep (by unfold keepB; simp [x0, x1]) x2)
                    by_cases y0 : o = []
                    · have t5 : (bs o).toList.isEmpty = true := by rw [bs_toL, y0]; rfl
                      rw [if_pos y0] at hk2
                      have HN := Lib.hid hk2
                      have Hy := Lib.hid (And.intro y0 hpe)
                      clear x2 x0 x1 hpe hk2 y0
                      by_cases hlt : k < s.size
                      · have hg := get_bs' Hs.out.1 k hlt
                        have t1 : ((s[k].toNat : Int) != 47) = false := by rw [hg, HX.out.resolve_left (by have := Hs.out.2; omega)]; rfl
                        clear hg
                        go_wp2
                        go_round
                        case rel => exact ⟨k + 1, k + 1, p, by omega, by go_num, by go_num, by omega, by rw [Hy.out.1, Hy.out.2]; rfl, HN.out⟩
                        case measure => simp [intOf]; omega
                      · go_wp2
                        go_round
                        case rel => exact ⟨k + 1, k + 1, p, by omega, by go_num, by go_num, by omega, by rw [Hy.out.1, Hy.out.2]; rfl, HN.out⟩
                        case measure => simp [intOf]; omega
                    · have t5 : (bs o).toList.isEmpty = false := by rw [bs_toL]; cases o; exact absurd rfl y0; rfl
                      rw [if_neg y0] at hk2
                      have HN := Lib.hid hk2
                      have hso : (bs o ++ ⟨#[47]⟩).size ≤ 1000002 := by rw [show (⟨#[47]⟩ : ByteArray) = bs [47] from rfl, bs_app, bs_size, List.length_append]; rw [bs_size] at hos; simp; omega
                      have Hy := Lib.hid hpe
                      clear x2 x0 x1 hpe hk2 y0
                      by_cases hlt : k < s.size
                      · have hg := get_bs' Hs.out.1 k hlt
                        have t1 : ((s[k].toNat : Int) != 47) = false := by rw [hg, HX.out.resolve_left (by have := Hs.out.2; omega)]; rfl
                        clear hg
                        go_wp2
                        go_round
                        case rel => exact ⟨k + 1, k + 1, o ++ [47] ++ p, by omega, by go_num, by go_num, by omega, by rw [Hy.out, show (⟨#[47]⟩ : ByteArray) = bs [47] from rfl, bs_app, bs_app], HN.out⟩
                        case measure => simp [intOf]; omega
                      · go_wp2
                        go_round
                        case rel => exact ⟨k + 1, k + 1, o ++ [47] ++ p, by omega, by go_num, by go_num, by omega, by rw [Hy.out, show (⟨#[47]⟩ : ByteArray) = bs [47] from rfl, bs_app, bs_app], HN.out⟩
                        case measure => simp [intOf]; omega
          · obtain rfl : k = s.size + 1 := by omega
            have hgd : Gd (splitB 47 l) o := by
              rcases HM.out with ⟨h1, _⟩ | ⟨_, h2⟩
              · have := Hs.out.2; omega
              · exact h2
            have ec : cleanS l = if o = [] ∨ 200 < o.length then ([], 6) else (o, 0) := by rw [EC.out, if_neg hgd.1, ← hgd.2]
            have E := Lib.hid ec
            clear ec hgd
            by_cases y0 : o = []
            · have t5 : (bs o).toList.isEmpty = true := by rw [bs_toL, y0]; rfl
              have e6 : cleanS l = ([], 6) := by rw [E.out, if_pos (.inl y0)]
              have E6 := Lib.hid e6
              clear e6 y0
              go_wp2
              go_ret2
              exact ⟨by rw [E6.out]; rfl, rfl⟩
            · have t5 : (bs o).toList.isEmpty = false := by rw [bs_toL]; cases o; exact absurd rfl y0; rfl
              by_cases y1 : 200 < o.length
              · have t6 : 200 < (bs o).size := by rw [bs_size]; exact y1
                have e6 : cleanS l = ([], 6) := by rw [E.out, if_pos (.inr y1)]
                have E6 := Lib.hid e6
                clear e6 y0 y1
                go_wp2
                go_ret2
                exact ⟨by rw [E6.out]; rfl, rfl⟩
              · have t6 : ¬ 200 < (bs o).size := by rw [bs_size]; exact y1
                have e6 : cleanS l = (o, 0) := by rw [E.out, if_neg (fun h => h.elim y0 y1)]
                have E6 := Lib.hid e6
                clear e6 y0 y1
                go_wp2
                go_ret2
                exact ⟨by rw [E6.out]; rfl, rfl⟩
end Go.Proofs.YtpapbnmacjoihaaDoor
