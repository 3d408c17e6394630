import Derived.Test.YtpapbnmacjoihaaDoorAns
/- bindlelaw04.HeadZero: the walk. -/
namespace Go.Proofs.YtpapbnmacjoihaaDoor
open Go.RowKit Go.Shelf

theorem dropWhile_nil {p : UInt8 → Bool} : ∀ {l : List UInt8}, l.dropWhile p = [] ↔ ∀ x ∈ l, p x = true
  | [] => by simp
  | a :: l => by
    rw [List.dropWhile_cons]
    by_cases h : p a = true
    · rw [if_pos h, dropWhile_nil (l := l)]
      simp [h]
    · rw [if_neg h]
      simp [h]
theorem zeroS_iff (l : List UInt8) : zeroS l = true ↔ ∀ x ∈ l, x = 0 := by
  unfold zeroS Lib.trimS Lib.trimLeftS Lib.trimRightS
  rw [decide_eq_true_eq]
  constructor
  · intro h x hx
    have h1 : List.dropWhile (fun x => ([0] : List UInt8).contains x) (List.dropWhile (fun x => ([0] : List UInt8).contains x) l.reverse).reverse = [] := List.eq_nil_of_length_eq_zero h
    rw [dropWhile_nil] at h1
    have h2 : List.dropWhile (fun x => ([0] : List UInt8).contains x) l.reverse = [] := by
      cases hd : List.dropWhile (fun x => ([0] : List UInt8).contains x) l.reverse with
      | nil => rfl
      | cons a r =>
        have ha := List.head?_dropWhile_not (fun x => ([0] : List UInt8).contains x) l.reverse
        rw [hd] at ha
        simp only [List.head?_cons] at ha
        have := h1 a (by rw [hd]; simp)
        rw [this] at ha
        cases ha
    rw [dropWhile_nil] at h2
    have := h2 x (by simpa using hx)
    simpa using this
  · intro h
    have h2 : List.dropWhile (fun x => ([0] : List UInt8).contains x) l.reverse = [] := by
      rw [dropWhile_nil]
      intro x hx
      rw [h x (by simpa using hx)]; rfl
    rw [h2]; rfl
def allZ (l : List UInt8) (k : Nat) : Bool := (l.take k).all (· == 0)
theorem allZ_step (l : List UInt8) (k : Nat) (h : k < l.length) : allZ l (k + 1) = (allZ l k && (l.getD k 0 == 0)) := by
  unfold allZ
  rw [List.take_add_one, List.all_append, List.getElem?_eq_getElem h, List.getD_eq_getElem?_getD, List.getElem?_eq_getElem h]
  simp only [Option.toList_some, List.all_cons, List.all_nil, Bool.and_true, Option.getD_some]
theorem allZ_end (l : List UInt8) : allZ l l.length = zeroS l := by
  unfold allZ
  rw [List.take_length, Bool.eq_iff_iff, zeroS_iff, List.all_eq_true]
  simp
theorem zero_set (k : Nat) (b : UInt8) (h : k < 512) : zeroS ((List.replicate 512 0).set k b) = (b == 0) := by
  rw [Bool.eq_iff_iff, zeroS_iff, beq_iff_eq]
  constructor
  · intro h'
    refine h' b ?_
    refine List.mem_iff_getElem?.2 ⟨k, ?_⟩
    rw [List.getElem?_set_self (by rw [List.length_replicate]; exact h)]
  · rintro rfl x hx
    rcases List.mem_or_eq_of_mem_set hx with h1 | h1
    · exact (List.mem_replicate.1 h1).2
    · exact h1
theorem zero_nil : zeroS [] = true := by decide

set_option maxHeartbeats 4000000 in
set_option maxRecDepth 100000 in
theorem headZero_long (p : Option Addr) (l : List UInt8) (c : Nat) (at_ : Nat) (by_ : UInt8) (w : World) (h : 2000 < l.length) (hv : HV w) :
    Calls Tryd.prog 7 #[.slice p l.length c, .int .u16 at_, .int .u8 (by_.toNat : Int)] w fun e w' => e = .returned (.bool true) ∧ Ext w w' := by
  have HA := Lib.hid (answers_ w hv)
  clear hv
  go_enter Tryd.func7, Tryd.ntmps7
  go_wp2_with fail
  refine HA.out.mono ?_
  rintro e w1 ⟨rfl, hE⟩
  go_wp2
  go_ret
  exact ⟨rfl, hE⟩

set_option maxHeartbeats 4000000 in
set_option maxRecDepth 100000 in
theorem headZero_short (p : Option Addr) (l : List UInt8) (c : Nat) (at_ : Nat) (by_ : UInt8) (w : World) (h : ¬ 2000 < l.length) (hl : l.length ≤ c) (hc : c ≤ 9223372036854775807) (ha : at_ < 65536) (hv : HV w) (hb : By w p l) :
    Calls Tryd.prog 7 #[.slice p l.length c, .int .u16 at_, .int .u8 (by_.toNat : Int)] w fun e w' => e = .returned (.bool true) ∧ Ext w w' := by
  have HVw := Lib.hid hv
  have HB := Lib.hid hb
  have hby := by_.toNat_lt
  clear hv hb
  have km := Go.run_make_row' (P := Tryd.prog) 22 5 (.int .u8 0) 1 Tryd.underlying22 info_u8 rfl .i64 .i64 512 (by omega) (by omega)
  rw [show ((512 : Nat) : Int) = 512 from rfl] at km
  go_enter Tryd.func7, Tryd.ntmps7
  go_wp2_with fail
  go_loop [7, 8] (fun z i => ∃ (k : Nat) (zb : Bool), k ≤ l.length ∧ i = .int .i64 k ∧ z = .bool zb ∧ Hid (zb = allZ l k)) (fun _ i => l.length - (intOf i).toNat)
  case atStart => exact ⟨0, true, Nat.zero_le _, rfl, rfl, rfl⟩
  case round =>
    obtain ⟨k, zb, hk, rfl, rfl, HM⟩ := hrel
    by_cases hlt : k < l.length
    · obtain ⟨b, o, hp, hcell⟩ := HB.out.at_ hlt
      subst hp
      obtain ⟨y, hy⟩ : ∃ y, y = l.getD k 0 := ⟨_, rfl⟩
      have hst := allZ_step l k hlt
      rw [← hy] at hcell hst
      have HS := Lib.hid hst
      clear hst hy
      have hyb : ((y.toNat : Int) == 0) = (y == 0) := by
        rw [Bool.eq_iff_iff, beq_iff_eq, beq_iff_eq]
        exact ⟨fun e => UInt8.toNat_inj.1 (by simpa using e), fun e => by rw [e]; rfl⟩
      cases zb
      · go_wp2
        go_round
        case rel => exact ⟨k + 1, false, by omega, by go_num, rfl, by rw [HS.out, ← HM.out]; trivial⟩
        case measure => simp [intOf]; omega
      · go_wp2
        go_round
        case rel => exact ⟨k + 1, (y == 0), by omega, by go_num, rfl, by rw [HS.out, ← HM.out]; trivial⟩
        case measure => simp [intOf]; omega
    · obtain rfl : k = l.length := by omega
      have hz : zb = zeroS l := by rw [HM.out]; exact allZ_end l
      have HZ := Lib.hid hz
      clear HM hz
      have hBk := Blk.made 5 w 512
      have hEk := Ext.alloc w (.cells (madeCells #[.int .u8 0] 512) 5)
      have hkm : at_ % 512 < 512 := Nat.mod_lt _ (by omega)
      have hck := hBk.cell (i := at_ % 512) (by rw [List.length_replicate]; exact hkm)
      have hfk := hBk.frozen (at_ % 512)
      have hBs := hBk.set (at_ % 512) by_
      have hEs := hEk.setCell (p := ⟨w.heap.size, at_ % 512, none⟩) (Nat.le_refl _) (.int .u8 (by_.toNat : Int))
      have HS := Lib.hid (And.intro hBs (And.intro hEs hkm))
      have hmg : (w.alloc (.cells (madeCells #[.int .u8 0] 512) 5)).setCell ⟨w.heap.size, at_ % 512, none⟩ (.int .u8 (by_.toNat : Int)) = w.alloc (.cells ((madeCells #[.int .u8 0] 512).setIfInBounds (at_ % 512) (.int .u8 (by_.toNat : Int))) 5) := by go_simp
      rw [hmg] at HS
      clear hBk hEk hBs hEs hkm hmg
      go_wp2_with fail
      obtain ⟨w1, hw1⟩ : ∃ w1, w1 = w.alloc (.cells ((madeCells #[.int .u8 0] 512).setIfInBounds (at_ % 512) (.int .u8 (by_.toNat : Int))) 5) := ⟨_, rfl⟩
      rw [← hw1] at HS
      rw [← hw1]
      clear hw1 hck hfk
      refine (answers_ w1 (HVw.out.ext HS.out.2.1)).mono ?_
      rintro e w2 ⟨rfl, hE2⟩
      have HE2 := Lib.hid (HS.out.2.1.trans hE2)
      have HS2 := Lib.hid (HS.out.1.ext hE2)
      clear hE2
      go_wp2_with fail
      refine (head_Zero p l c w2 hl (by omega) (HB.out.ext HE2.out)).mono ?_
      rintro e w3 ⟨rfl, hE3⟩
      rw [← HZ.out]
      have hzz : (zb == zb) = true := by simp
      have hz3 := head_Zero (some ⟨w.heap.size, 0, none⟩) ((List.replicate 512 0).set (at_ % 512) by_) 512 w3 (by rw [List.length_set, List.length_replicate]; omega) (by omega) (HS2.out.ext hE3).by_
      rw [zero_set _ _ HS.out.2.2, List.length_set, List.length_replicate] at hz3
      have HZ3 := Lib.hid hz3
      have HE3 := Lib.hid (HE2.out.trans hE3)
      clear hE3 hz3
      go_wp2_with fail
      refine HZ3.out.mono ?_
      rintro e w4 ⟨rfl, hE4⟩
      have hyb : ((by_.toNat : Int) == 0) = (by_ == 0) := by
        rw [Bool.eq_iff_iff, beq_iff_eq, beq_iff_eq]
        exact ⟨fun e => UInt8.toNat_inj.1 (by simpa using e), fun e => by rw [e]; rfl⟩
      have hyy : ((by_ == 0) == (by_ == 0)) = true := by simp
      have hz4 := head_Zero none [] 0 w4 (by simp) (by omega) (By.nil _ _)
      rw [zero_nil, List.length_nil] at hz4
      have HZ4 := Lib.hid hz4
      have HE4 := Lib.hid (HE3.out.trans hE4)
      clear hE4 hz4
      go_wp2_with fail
      refine HZ4.out.mono ?_
      rintro e w5 ⟨rfl, hE5⟩
      go_wp2
      go_ret
      exact ⟨rfl, HE4.out.trans hE5⟩

theorem headZero_walk (p : Option Addr) (l : List UInt8) (c : Nat) (at_ : Nat) (by_ : UInt8) (w : World) (hl : l.length ≤ c) (hc : c ≤ 9223372036854775807) (ha : at_ < 65536) (hv : HV w) (hb : By w p l) :
    Calls Tryd.prog 7 #[.slice p l.length c, .int .u16 at_, .int .u8 (by_.toNat : Int)] w fun e w' => e = .returned (.bool true) ∧ Ext w w' := by
  by_cases h : 2000 < l.length
  · exact headZero_long p l c at_ by_ w h hv
  · exact headZero_short p l c at_ by_ w h hl hc ha hv hb
end Go.Proofs.YtpapbnmacjoihaaDoor
