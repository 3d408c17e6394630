/- bindleref01: May, Sum, PutField. -/
import Derived.Test.YtpapbnmacjoihaaDoorFieldE
import Derived.Test.YtpapbnmacjoihaaDoorPlainA
namespace Go.Proofs.YtpapbnmacjoihaaDoor
open Go.RowKit Go.Shelf

theorem ref_May_yes (n : Int) (w : World) (h0 : 0 ≤ n) (h1 : n ≤ 4611686018427387904) :
    Calls Tryd.prog 40 #[.int .i64 n] w fun e w' => e = .returned (.bool true) ∧ w = w' := by
  go_enter Tryd.func40, Tryd.ntmps40
  go_wp2
  go_ret
  exact ⟨rfl, rfl⟩
theorem ref_May_no (n : Int) (w : World) (h : ¬ (0 ≤ n ∧ n ≤ 4611686018427387904)) :
    Calls Tryd.prog 40 #[.int .i64 n] w fun e w' => e = .returned (.bool false) ∧ w = w' := by
  by_cases h0 : 0 ≤ n
  · have h1 : ¬ n ≤ 4611686018427387904 := fun e => h ⟨h0, e⟩
    go_enter Tryd.func40, Tryd.ntmps40
    go_wp2
    go_ret
    exact ⟨rfl, rfl⟩
  · clear h
    go_enter Tryd.func40, Tryd.ntmps40
    go_wp2
    go_ret
    exact ⟨rfl, rfl⟩

/-- The blanks that are yet to be told of. -/
def bl (k : Nat) : Nat := if k ≤ 148 then 256 else if k ≤ 156 then 32 * (156 - k) else 0
theorem bl_in {k : Nat} (h : 148 ≤ k) (h' : k < 156) : bl k = 32 + bl (k + 1) := by
  unfold bl
  repeat' split
  all_goals omega
theorem bl_out {k : Nat} (h : ¬ (148 ≤ k ∧ k < 156)) : bl k = bl (k + 1) := by
  unfold bl
  repeat' split
  all_goals omega
set_option maxHeartbeats 1000000 in
set_option maxRecDepth 100000 in
theorem ref_Sum (p : Option Addr) (l : List UInt8) (c : Nat) (w : World) (hl : l.length = 512) (hb : By w p l) :
    Calls Tryd.prog 21 #[.slice p 512 c] w fun e w' => e = .returned (.int .i64 (sumS l)) ∧ w = w' := by
  have HB := Lib.hid hb
  have HL := Lib.hid hl
  clear hb hl
  go_enter Tryd.func21, Tryd.ntmps21
  go_wp2_with fail
  go_loop [3, 4] (fun n i => ∃ k m : Nat, k ≤ 512 ∧ i = .int .i64 k ∧ n = .int .i64 m ∧ m ≤ 255 * k ∧ Hid (sumF (m + bl k) k (l.drop k) = sumS l)) (fun _ i => 512 - (intOf i).toNat)
  case atStart => exact ⟨0, 0, Nat.zero_le _, rfl, rfl, by omega, rfl⟩
  case round =>
    obtain ⟨k, m, hk, rfl, rfl, hm, HM⟩ := hrel
    by_cases hlt : k < 512
    · obtain ⟨b, o, hp, hcell⟩ := HB.out.at_ (i := k) (by rw [HL.out]; exact hlt)
      subst hp
      have hst := sumF_step (n := m + bl k) (k := k) (l := l) (by rw [HL.out]; exact hlt)
      obtain ⟨y, hy⟩ : ∃ y, y = l.getD k 0 := ⟨_, rfl⟩
      rw [← hy] at hcell hst
      rw [HM.out] at hst
      have hyl := y.toNat_lt
      have HS := Lib.hid hst
      clear hy hst
      by_cases c1 : 148 ≤ k ∧ k < 156
      · obtain ⟨c1a, c1b⟩ := c1
        go_wp2
        go_round
        case rel => 
          refine ⟨k + 1, m + 32, by omega, by go_num, by go_num, by omega, ?_⟩
          have := HS.out
          rw [if_neg (by omega)] at this
          have e : m + bl k = m + 32 + bl (k + 1) := by rw [bl_in c1a c1b]; omega
          rw [e] at this
          exact this.symm
        case measure => simp [intOf]; omega
      · have hh : m + bl k + y.toNat = m + y.toNat + bl (k + 1) := by rw [← bl_out c1]; omega
        have HH := Lib.hid hh
        clear hh
        by_cases c2 : 148 ≤ k
        · have c3 : ¬ k < 156 := fun h => c1 ⟨c2, h⟩
          clear c1
          go_wp2
          go_round
          case rel =>
            refine ⟨k + 1, m + y.toNat, by omega, by go_num, by go_num, by omega, ?_⟩
            have := HS.out
            rw [if_pos (by omega), HH.out] at this
            exact this.symm
          case measure => simp [intOf]; omega
        · clear c1
          go_wp2
          go_round
          case rel =>
            refine ⟨k + 1, m + y.toNat, by omega, by go_num, by go_num, by omega, ?_⟩
            have := HS.out
            rw [if_pos (by omega), HH.out] at this
            exact this.symm
          case measure => simp [intOf]; omega
    · obtain rfl : k = 512 := by omega
      have hr : m = sumS l := by
        have := HM.out
        rw [List.drop_eq_nil_of_le (by rw [HL.out]; omega)] at this
        exact this
      subst hr
      go_wp2
      go_ret
      exact ⟨rfl, rfl⟩

set_option maxHeartbeats 2000000 in
theorem ref_PutField_bad (n : Int) (wide : Nat) (w : World) (h2 : 2 ≤ wide) (h3 : wide ≤ 100) (h : ¬ (0 ≤ n ∧ n ≤ 4611686018427387904)) :
    Calls Tryd.prog 20 #[.int .i64 n, .int .i64 wide] w (PutPost w (putS n wide)) := by
  have e0 : putS n wide = none := by unfold putS; rw [if_neg h]
  rw [e0]
  have HM := Lib.hid (ref_May_no n w h)
  clear h
  go_enter Tryd.func20, Tryd.ntmps20
  go_wp2_with fail
  refine HM.out.mono ?_
  rintro e w' ⟨rfl, rfl⟩
  go_wp2
  go_ret2
  exact ⟨fun D h => (by cases h), fun _ => rfl, Ext.refl _⟩

theorem lay_bin2 (L : List UInt8) (wide n : Nat) (hw : 2 ≤ wide) (hL : L.length = wide) : (lay L (0 + 1) ((low 256 (wide - 1 - 0) n).map fun d => (0 : UInt8) + UInt8.ofNat d)).set 0 128 = binD wide n := by
  rcases L with _ | ⟨a, L⟩
  · simp at hL; omega
  · simp only [lay, binD, Nat.zero_add, Nat.sub_zero, List.take_succ_cons, List.take_zero, List.cons_append, List.nil_append, List.set_cons_zero]
    rw [List.drop_eq_nil_of_le (by simp [low_length] at hL ⊢; omega), List.append_nil]
set_option maxHeartbeats 4000000 in
set_option maxRecDepth 100000 in
theorem ref_PutField_ok (n : Nat) (wide : Nat) (w : World) (h2 : 2 ≤ wide) (h3 : wide ≤ 100) (hn : n ≤ 4611686018427387904) :
    Calls Tryd.prog 20 #[.int .i64 (n : Int), .int .i64 wide] w (PutPost w (putS n wide)) := by
  have km := Go.run_make_row' (P := Tryd.prog) 22 5 (.int .u8 0) 1 Tryd.underlying22 info_u8 rfl .i64 .i64 wide (by omega) (by omega)
  have hp : putS (n : Int) wide = if n / 8 ^ (wide - 1) = 0 then some (octD wide n) else if n / 256 ^ (wide - 1) = 0 then some (binD wide n) else none := by
    unfold putS; rw [if_pos ⟨by omega, by omega⟩]; rfl
  have HP := Lib.hid hp
  have hB := Blk.made 5 w wide
  have hE := Ext.alloc w (.cells (madeCells #[.int .u8 0] wide) 5)
  have HB := Lib.hid (And.intro hB hE)
  have HM := Lib.hid (ref_May_yes n w (by omega) (by omega))
  clear hp hB hE
  go_enter Tryd.func20, Tryd.ntmps20
  go_wp2_with fail
  refine HM.out.mono ?_
  rintro e w' ⟨rfl, rfl⟩
  clear HM
  go_wp2_with fail
  go_loopw [7, 8] (fun a i wr => ∃ j m : Nat, j ≤ wide - 1 ∧ m ≤ 4611686018427387904 ∧ i = .int .i64 ((j : Int) - 1) ∧ a = .int .i64 m ∧ Hid (m = n / 8 ^ (wide - 1 - j) ∧ Blk 5 wr w.heap.size (lay (List.replicate wide 0) j ((low 8 (wide - 1 - j) n).map fun d => (48 : UInt8) + UInt8.ofNat d)) ∧ Ext w wr)) (fun _ i _ => ((intOf i) + 1).toNat)
  case atStart => exact ⟨wide - 1, n, Nat.le_refl _, hn, by go_num, rfl, by simp, by simpa [low, lay_nil] using HB.out.1, HB.out.2⟩
  case round =>
    obtain ⟨j, m, hj, hm, rfl, rfl, HR⟩ := hrel
    by_cases hj0 : 0 < j
    · obtain ⟨i, rfl⟩ : ∃ i, j = i + 1 := ⟨j - 1, by omega⟩
      have hlen : ((low 8 (wide - 1 - (i + 1)) n).map fun d => (48 : UInt8) + UInt8.ofNat d).length = wide - 1 - (i + 1) := by rw [List.length_map, low_length]
      have hc2 := HR.out.2.1.cell (i := i) (by rw [lay_length (by rw [hlen, List.length_replicate]; omega), List.length_replicate]; omega)
      have hf2 := HR.out.2.1.frozen i
      go_wp2
      go_roundw
      case rel =>
        refine ⟨i, m / 8, by omega, Nat.le_trans (Nat.div_le_self _ _) hm, rfl, by rw [Int.natCast_ediv]; rfl, ?_, ?_, ?_⟩
        · rw [HR.out.1, low_step, show wide - 1 - (i + 1) + 1 = wide - 1 - i from by omega]
        · have e : low 8 (wide - 1 - i) n = (m % 8) :: low 8 (wide - 1 - (i + 1)) n := by
            rw [show wide - 1 - i = wide - 1 - (i + 1) + 1 from by omega, HR.out.1]; rfl
          have e2 : (48 : Int) + (m : Int) % 8 = (((48 : UInt8) + UInt8.ofNat (m % 8)).toNat : Int) := by
            rw [UInt8.toNat_add, UInt8.toNat_ofNat', show (48 : UInt8).toNat = 48 from rfl]
            omega
          rw [e, List.map_cons, ← lay_cons (by rw [hlen, List.length_replicate]; omega), e2]
          exact HR.out.2.1.set _ _
        · exact HR.out.2.2.setCell (Nat.le_refl _) _
      case measure => simp [intOf]
    · obtain rfl : j = 0 := by omega
      have hm0 : m = n / 8 ^ (wide - 1) := by have := HR.out.1; rwa [Nat.sub_zero] at this
      have hBo : Blk 5 wr w.heap.size (octD wide n) := by
        have := HR.out.2.1
        rwa [Nat.sub_zero, lay_oct _ _ (by omega)] at this
      have hol : (octD wide n).length = wide := octD_length _ _ (by omega)
      by_cases c1 : m = 0
      · subst c1
        have hr : putS (n : Int) wide = some (octD wide n) := by rw [HP.out, if_pos hm0.symm]
        have HH := Lib.hid (And.intro hr (And.intro hBo hol))
        clear hr hBo hol hm0
        go_wp2
        go_ret2
        rw [HH.out.1]
        refine ⟨fun D hD => ?_, fun h => (by cases h), HR.out.2.2⟩
        cases hD
        exact ⟨by rw [HH.out.2.2]; rfl, HH.out.2.1⟩
      · have c1' : ((m : Int) == 0) = false := beq_eq_false_iff_ne.2 (by omega)
        have hr : putS (n : Int) wide = if n / 256 ^ (wide - 1) = 0 then some (binD wide n) else none := by rw [HP.out, if_neg (by rw [← hm0]; exact c1)]
        have HQ := Lib.hid (And.intro hr (And.intro hBo hol))
        have HX := Lib.hid HR.out.2.2
        obtain ⟨L0, hL0⟩ : ∃ L0, L0 = octD wide n := ⟨_, rfl⟩
        rw [← hL0] at hBo hol
        have HB2 := Lib.hid (And.intro hBo hol)
        clear HP HB hr hBo hol hm0 HR hm hL0 c1
        go_wp2_with fail
        go_loopw [7, 9] (fun a i wq => ∃ j m : Nat, j ≤ wide - 1 ∧ m ≤ 4611686018427387904 ∧ i = .int .i64 (j : Int) ∧ a = .int .i64 m ∧ Hid (m = n / 256 ^ (wide - 1 - j) ∧ Blk 5 wq w.heap.size (lay L0 (j + 1) ((low 256 (wide - 1 - j) n).map fun d => (0 : UInt8) + UInt8.ofNat d)) ∧ Ext w wq)) (fun _ i _ => (intOf i).toNat)
        case atStart => exact ⟨wide - 1, n, Nat.le_refl _, hn, by go_num, rfl, by simp, by simpa [low, lay_nil] using HB2.out.1, HX.out⟩
        case round =>
          obtain ⟨j, m, hj, hm, rfl, rfl, HR⟩ := hrel
          by_cases hj0 : 0 < j
          · obtain ⟨i, rfl⟩ : ∃ i, j = i + 1 := ⟨j - 1, by omega⟩
            have hlen : ((low 256 (wide - 1 - (i + 1)) n).map fun d => (0 : UInt8) + UInt8.ofNat d).length = wide - 1 - (i + 1) := by rw [List.length_map, low_length]
            have hc2 := HR.out.2.1.cell (i := i + 1) (by rw [lay_length (by rw [hlen, HB2.out.2]; omega), HB2.out.2]; omega)
            have hf2 := HR.out.2.1.frozen (i + 1)
            go_wp2
            go_roundw
            case rel =>
              refine ⟨i, m / 256, by omega, Nat.le_trans (Nat.div_le_self _ _) hm, rfl, by rw [Int.natCast_ediv]; rfl, ?_, ?_, ?_⟩
              · rw [HR.out.1, low_step, show wide - 1 - (i + 1) + 1 = wide - 1 - i from by omega]
              · have e : low 256 (wide - 1 - i) n = (m % 256) :: low 256 (wide - 1 - (i + 1)) n := by
                  rw [show wide - 1 - i = wide - 1 - (i + 1) + 1 from by omega, HR.out.1]; rfl
                have e2 : (m : Int) % 256 = (((0 : UInt8) + UInt8.ofNat (m % 256)).toNat : Int) := by
                  rw [UInt8.toNat_add, UInt8.toNat_ofNat', show (0 : UInt8).toNat = 0 from rfl]
                  omega
                rw [e, List.map_cons, ← lay_cons (by rw [hlen, HB2.out.2]; omega), e2]
                exact HR.out.2.1.set _ _
              · exact HR.out.2.2.setCell (Nat.le_refl _) _
            case measure => simp [intOf]
          · obtain rfl : j = 0 := by omega
            have hm0 : m = n / 256 ^ (wide - 1) := by have := HR.out.1; rwa [Nat.sub_zero] at this
            have hln : (lay L0 (0 + 1) ((low 256 (wide - 1 - 0) n).map fun d => (0 : UInt8) + UInt8.ofNat d)).length = wide := by
              rw [lay_length (by rw [List.length_map, low_length, HB2.out.2]; omega), HB2.out.2]
            have hc0 := HR.out.2.1.cell (i := 0) (by rw [hln]; omega)
            have hf0 := HR.out.2.1.frozen 0
            have hBo : Blk 5 (wr.setCell ⟨w.heap.size, 0, none⟩ (.int .u8 128)) w.heap.size (binD wide n) := by
              have := HR.out.2.1.set 0 128
              rwa [lay_bin2 L0 wide n (by omega) HB2.out.2] at this
            have hbl : (binD wide n).length = wide := binD_length _ _ (by omega)
            have hEo := HR.out.2.2.setCell (p := ⟨w.heap.size, 0, none⟩) (Nat.le_refl _) (.int .u8 128)
            have HO := Lib.hid (And.intro hBo (And.intro hbl hEo))
            clear hBo hbl hEo hln HB2 HX
            by_cases c1 : m = 0
            · subst c1
              have hr : putS (n : Int) wide = some (binD wide n) := by rw [HQ.out.1, if_pos hm0.symm]
              have HH := Lib.hid hr
              clear hr hm0
              go_wp2
              go_ret2
              rw [HH.out]
              refine ⟨fun D hD => ?_, fun h => (by cases h), HO.out.2.2⟩
              cases hD
              exact ⟨by rw [HO.out.2.1]; rfl, HO.out.1⟩
            · have c1' : (0 : Int) < m := by omega
              have hr : putS (n : Int) wide = none := by rw [HQ.out.1, if_neg (by rw [← hm0]; exact c1)]
              have HH := Lib.hid hr
              clear hr hm0 c1
              go_wp2
              go_ret2
              rw [HH.out]
              exact ⟨fun D h => (by cases h), fun _ => rfl, HO.out.2.2⟩

theorem ref_PutField (n : Int) (wide : Nat) (w : World) (h2 : 2 ≤ wide) (h3 : wide ≤ 100) :
    Calls Tryd.prog 20 #[.int .i64 n, .int .i64 wide] w (PutPost w (putS n wide)) := by
  by_cases h : 0 ≤ n ∧ n ≤ 4611686018427387904
  · obtain ⟨m, rfl⟩ := Int.eq_ofNat_of_zero_le h.1
    exact ref_PutField_ok m wide w h2 h3 (by omega)
  · exact ref_PutField_bad n wide w h2 h3 h
end Go.Proofs.YtpapbnmacjoihaaDoor
