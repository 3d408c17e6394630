/- path.right, path.Target. -/
import Derived.Test.YtpapbnmacjoihaaDoorHeadA
import Derived.Test.YtpapbnmacjoihaaDoorPathP
import Derived.Test.YtpapbnmacjoihaaDoorShelf2
import Derived.Lib.IndexAny
namespace Go.Proofs.YtpapbnmacjoihaaDoor
open Go.RowKit Go.Shelf

/-- What the tables hold that the paths and the records read. -/
structure HW (w : World) : Prop where
  hv : HV w
  tabs : Lib.Utf8Tabs 11 12 w
  pow : Lib.TabIs Tryd.prog w "internal/strconv.uint64pow10" .u64 Lib.pow10Tab
theorem pow_ext {w w' : World} (h : Lib.TabIs Tryd.prog w "internal/strconv.uint64pow10" .u64 Lib.pow10Tab) (hE : Ext w w') : Lib.TabIs Tryd.prog w' "internal/strconv.uint64pow10" .u64 Lib.pow10Tab := by
  have hg : Tryd.prog.globalNamed "internal/strconv.uint64pow10" = some 13 := by kernel_rfl
  unfold Lib.TabIs World.var? at h ⊢
  rw [hg] at h ⊢
  simp only [Option.bind_eq_bind, Option.bind_some] at h ⊢
  cases ho : w.heap[13]? with
  | none => rw [ho] at h; simp at h
  | some o => rw [Ext.heap hE ho]; rw [ho] at h; exact h
theorem HW.ext {w w' : World} (h : HW w) (hE : Ext w w') : HW w' := ⟨h.hv.ext hE, Utf8Tabs_below h.tabs hE, pow_ext h.pow hE⟩
theorem contains_zero (l : List UInt8) : decide (0 ≤ Lib.indexByte l 0) = l.contains 0 := (Lib.contains_iff_indexByte l 0).symm

set_option maxHeartbeats 2000000 in
set_option maxRecDepth 100000 in
theorem path_right (l : List UInt8) (w : World) (hl : l.length ≤ 9223372036854775807) (hw : HW w) :
    Calls Tryd.prog 90 #[.string (bs l)] w fun e w' => e = .returned (.bool (textS l)) ∧ Ext w w' := by
  obtain ⟨b1, hb1⟩ : ∃ b1, b1 = Lib.validD l := ⟨_, rfl⟩
  obtain ⟨b2, hb2⟩ : ∃ b2, b2 = l.contains 0 := ⟨_, rfl⟩
  have ht : textS l = (b1 && !b2) := by unfold textS; rw [hb1, hb2]
  have hV : Hid (∀ W, Ext w W → Calls Tryd.prog 103 #[.string (bs l)] W fun e w' => e = .returned (.bool b1) ∧ Ext W w') := by
    intro W hW
    have := Any.utf8_ValidString Tryd.layst196 (bs l) W (by rw [bs_size]; exact hl) (hw.ext hW).tabs
    rw [bs_data, ← hb1] at this
    exact this
  have hC : Hid (∀ W, Calls Tryd.prog 36 #[.string (bs l), .string ⟨#[0]⟩] W fun e w' => e = .returned (.bool b2) ∧ W = w') := by
    intro W
    have := Tryd.strings_Contains_one (bs l) 0 W
    rw [bs_data, contains_zero, ← hb2] at this
    exact this.mono fun e w' h => ⟨h.1, h.2.symm⟩
  have HT := Lib.hid ht
  clear hb1 hb2 hw ht
  cases b1
  · go_enter Tryd.func90, Tryd.ntmps90
    go_wp2_with fail
    refine (hV.out _ (Ext.refl _)).mono ?_
    rintro e w1 ⟨rfl, hE⟩
    go_wp2
    go_ret
    exact ⟨by rw [HT.out]; rfl, hE⟩
  · go_enter Tryd.func90, Tryd.ntmps90
    go_wp2_with fail
    refine (hV.out _ (Ext.refl _)).mono ?_
    rintro e w1 ⟨rfl, hE⟩
    go_wp2_with fail
    refine (hC.out _).mono ?_
    rintro e w2 ⟨rfl, rfl⟩
    go_wp2
    go_ret
    exact ⟨by rw [HT.out]; rfl, hE⟩

set_option maxHeartbeats 2000000 in
set_option maxRecDepth 100000 in
theorem path_Target (l : List UInt8) (w : World) (hl : l.length ≤ 9223372036854775807) (hw : HW w) :
    Calls Tryd.prog 72 #[.string (bs l)] w fun e w' => e = .returned (.int .i64 (targetS l)) ∧ Ext w w' := by
  obtain ⟨t, ht⟩ : ∃ t, t = textS l := ⟨_, rfl⟩
  have hR := path_right l w hl hw
  rw [← ht] at hR
  have hT : targetS l = if t = false then 9 else if l = [] ∨ 200 < l.length then 6 else 0 := by unfold targetS; rw [ht]
  have HR := Lib.hid hR
  have HT := Lib.hid hT
  clear hR hT ht hw
  cases t
  · go_enter Tryd.func72, Tryd.ntmps72
    go_wp2_with fail
    refine HR.out.mono ?_
    rintro e w1 ⟨rfl, hE⟩
    go_wp2
    go_ret
    exact ⟨by rw [HT.out]; rfl, hE⟩
  · by_cases h0 : l = []
    · have e0 : (bs l).toList.isEmpty = true := by rw [bs_toL, h0]; rfl
      have e1 : targetS l = 6 := by rw [HT.out, if_neg (by simp), if_pos (.inl h0)]
      have E1 := Lib.hid e1
      clear h0 e1
      go_enter Tryd.func72, Tryd.ntmps72
      go_wp2_with fail
      refine HR.out.mono ?_
      rintro e w1 ⟨rfl, hE⟩
      go_wp2
      go_ret
      exact ⟨by rw [E1.out]; rfl, hE⟩
    · have e0 : (bs l).toList.isEmpty = false := by rw [bs_toL]; cases l; exact absurd rfl h0; rfl
      by_cases h1 : 200 < l.length
      · have e2 : 200 < (bs l).size := by rw [bs_size]; exact h1
        have e1 : targetS l = 6 := by rw [HT.out, if_neg (by simp), if_pos (.inr h1)]
        have E1 := Lib.hid e1
        clear h0 e1 h1
        go_enter Tryd.func72, Tryd.ntmps72
        go_wp2_with fail
        refine HR.out.mono ?_
        rintro e w1 ⟨rfl, hE⟩
        go_wp2
        go_ret
        exact ⟨by rw [E1.out]; rfl, hE⟩
      · have e2 : ¬ 200 < (bs l).size := by rw [bs_size]; exact h1
        have e1 : targetS l = 0 := by rw [HT.out, if_neg (by simp), if_neg (fun h => h.elim h0 h1)]
        have E1 := Lib.hid e1
        clear h0 e1 h1
        go_enter Tryd.func72, Tryd.ntmps72
        go_wp2_with fail
        refine HR.out.mono ?_
        rintro e w1 ⟨rfl, hE⟩
        go_wp2
        go_ret
        exact ⟨by rw [E1.out]; rfl, hE⟩
end Go.Proofs.YtpapbnmacjoihaaDoor
