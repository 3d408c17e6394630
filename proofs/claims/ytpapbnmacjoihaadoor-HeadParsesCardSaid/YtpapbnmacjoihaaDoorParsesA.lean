/- bindlelaw04.HeadParses: the walk. -/
import Derived.Test.YtpapbnmacjoihaaDoorRefG
import Derived.Test.YtpapbnmacjoihaaDoorAns
import Derived.Test.YtpapbnmacjoihaaDoorOwn
namespace Go.Proofs.YtpapbnmacjoihaaDoor
open Go.RowKit Go.Shelf

set_option maxHeartbeats 4000000 in
set_option maxRecDepth 100000 in
theorem headParses_long (p : Option Addr) (l : List UInt8) (c : Nat) (w : World) (h : 2000 < l.length) (hv : HV w) :
    Calls Tryd.prog 3 #[.slice p l.length c] w fun e w' => e = .returned (.bool true) ∧ Ext w w' := by
  have HA := Lib.hid (answers_ w hv)
  clear hv
  go_enter Tryd.func3, Tryd.ntmps3
  go_wp2_with fail
  refine HA.out.mono ?_
  rintro e w1 ⟨rfl, hE⟩
  go_wp2
  go_ret
  exact ⟨rfl, hE⟩

set_option maxHeartbeats 4000000 in
set_option maxRecDepth 100000 in
theorem headParses_short (p : Option Addr) (l : List UInt8) (c : Nat) (w : World) (h : ¬ 2000 < l.length) (hl : l.length ≤ c) (hc : c ≤ 9223372036854775807) (hv : HV w) (hb : By w p l) :
    Calls Tryd.prog 3 #[.slice p l.length c] w fun e w' => e = .returned (.bool true) ∧ Ext w w' := by
  have HB := Lib.hid hb
  have HVw := Lib.hid hv
  clear hb hv
  have hemp := Rw.empty (base := w.heap.size) w (Nat.le_refl _)
  have hby := HB.out.ext (Ext.alloc w (.cells #[] 5))
  go_enter Tryd.func3, Tryd.ntmps3
  go_wp2_with (at_builtin; refine wpList_app rfl _ _ rfl hemp hby (by rw [List.length_nil]; omega) (by simp) rfl rfl ?_; intro v' w' hR hg _)
  rw [List.nil_append] at hR
  have hE := Ext.own (Ext.alloc w _) hemp hg (Nat.le_refl _)
  obtain ⟨p', c', rfl, hBy, hc1, hc2, -, -⟩ := hR.shape
  have HE := Lib.hid (And.intro hE hBy)
  clear hemp hR hg hE hBy hby
  go_wp2_with fail
  refine (head_Parse p' l c' w' hc1 hc2 HE.out.2 (HVw.out.ext HE.out.1)).mono ?_
  rintro e w2 ⟨rfl, hE2⟩
  have hE2' := HE.out.1.trans hE2
  obtain ⟨hd, hhd⟩ : ∃ hd, hd = (parseS l).1 := ⟨_, rfl⟩
  obtain ⟨ed, hed⟩ : ∃ ed, ed = (parseS l).2 := ⟨_, rfl⟩
  have hrf := ref_Head p l c
  unfold ParsePost at hrf
  rw [← hhd, ← hed] at hrf
  rw [← hhd, ← hed]
  have HRF := Lib.hid hrf
  have HE2 := Lib.hid hE2'
  clear hE2 hE2' hrf hhd hed
  unfold Hd.val Hd.cells at HRF ⊢
  go_wp2_with fail
  have hz := HdBlk.made w2 hd
  have hEz : Ext w2 (w2.alloc (.cells hd.cells 27 (0, 0))) := Ext.alloc _ _
  refine (HRF.out _ hl hc (HB.out.ext (HE2.out.trans hEz))).mono ?_
  rintro e w3 ⟨rfl, hE3⟩
  have HZ3 := Lib.hid (HdBlk.ext hz hE3)
  have HE3 := Lib.hid (HE2.out.trans (hEz.trans hE3))
  clear hz hEz hE3
  go_wp2_with fail
  have hz := HdBlk.made w3 hd
  have hEz : Ext w3 (w3.alloc (.cells hd.cells 27 (0, 0))) := Ext.alloc _ _
  refine (answers_ _ (HVw.out.ext (HE3.out.trans hEz))).mono ?_
  rintro e w4 ⟨rfl, hE4⟩
  obtain ⟨y0, y1, y2, y3, y4, y5, y6, y7, y8⟩ := (HdBlk.ext hz hE4).cells
  obtain ⟨z0, z1, z2, z3, z4, z5, z6, z7, z8⟩ := (HdBlk.ext HZ3.out (hEz.trans hE4)).cells
  have HE4 := Lib.hid (HE3.out.trans (hEz.trans hE4))
  clear hz hEz hE4
  go_wp2
  go_ret
  exact ⟨rfl, HE4.out⟩

theorem headParses_walk (w : World) (hv : HV w) (p : Option Addr) (l : List UInt8) (c : Nat) (hl : l.length ≤ c) (hc : c ≤ 9223372036854775807) (hb : By w p l) :
    Calls Tryd.prog 3 #[.slice p l.length c] w fun e w' => e = .returned (.bool true) ∧ Ext w w' := by
  by_cases h : 2000 < l.length
  · exact headParses_long p l c w h hv
  · exact headParses_short p l c w h hl hc hv hb
end Go.Proofs.YtpapbnmacjoihaaDoor
