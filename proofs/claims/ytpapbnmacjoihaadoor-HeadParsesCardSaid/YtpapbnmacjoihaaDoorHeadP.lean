/- bindle, part HeadP: contracts of the program, walked. -/
import Derived.Test.YtpapbnmacjoihaaDoorHeadN
import Derived.Test.YtpapbnmacjoihaaDoorHeadH
namespace Go.Proofs.YtpapbnmacjoihaaDoor
open Go.RowKit Go.Shelf

set_option maxHeartbeats 2000000 in
set_option maxRecDepth 100000 in
theorem head_Parse_arg (p : Option Addr) (l : List UInt8) (c : Nat) (w : World) (h : l.length ≠ 512) :
    Calls Tryd.prog 13 #[.slice p l.length c] w (ParsePost w l) := by
  have e0 : parseS l = (Hd.zero, 1) := by unfold parseS; rw [if_pos h]
  have h' : ((l.length : Int) != 512) = true := bne_iff_ne.2 (by omega)
  have E0 := Lib.hid e0
  clear e0 h
  go_enter Tryd.func13, Tryd.ntmps13
  go_wp2
  refine bodyPost_ret (v := .tuple #[Hd.zero.val, .int .i64 1]) ?_ rfl ⟨by rw [E0.out]; rfl, ?_⟩
  · simp [results, Tryd.results13, go_sem]
    rfl
  · exact Ext.alloc _ _

theorem fld_take {l : List UInt8} {a n : Nat} (h : a + n ≤ l.length) : (fld l a n).length = n := fld_length h
set_option maxHeartbeats 2000000 in
set_option maxRecDepth 100000 in
theorem head_Parse_sum (p : Option Addr) (l : List UInt8) (c : Nat) (w : World) (h : l.length = 512) (hc : l.length ≤ c) (hc2 : c ≤ 9223372036854775807) (hb : By w p l) (hv : HV w)
    (hs : ¬ ((fieldS (fld l 148 8)).2 = true ∧ (fieldS (fld l 148 8)).1 = sumS l)) :
    Calls Tryd.prog 13 #[.slice p l.length c] w (ParsePost w l) := by
  have e0 : parseS l = (Hd.zero, 3) := by unfold parseS; rw [if_neg (by omega), if_pos hs]
  have h' : ((l.length : Int) != 512) = false := bne_eq_false_iff_eq.2 (by omega)
  have E0 := Lib.hid e0
  have hs0 : ∀ o, (w.alloc o).cell? ⟨0, 0, none⟩ = some (.int .i64 148) := fun o => (hv.ext (Ext.alloc w o)).sum.1
  have hs1 : ∀ o, (w.alloc o).cell? ⟨0, 1, none⟩ = some (.int .i64 8) := fun o => (hv.ext (Ext.alloc w o)).sum.2
  have HH := Lib.hid h
  have HB := Lib.hid hb
  have HVw := Lib.hid hv
  obtain ⟨r, hr⟩ : ∃ r, r = fieldS (fld l 148 8) := ⟨_, rfl⟩
  rw [← hr] at hs
  have Hr := Lib.hid hr
  clear e0 h hb hv hr
  rcases r with ⟨r1, _ | _⟩
  · clear hs
    go_enter Tryd.func13, Tryd.ntmps13
    go_wp2_with fail
    refine (span_of 148 8 p l.length c _ (by rw [HH.out]; omega) hc hc2).mono ?_
    rintro e w1 ⟨rfl, hE1⟩
    have HE1 := Lib.hid hE1
    clear hE1
    go_wp2_with fail
    have hfp := field_Parse (cutA p c 148) (c - 148) (fld l 148 8) w1 (by rw [fld_length (by rw [HH.out]; omega), ]; have := HH.out; omega) (by omega) (by rw [fld_length (by rw [HH.out]; omega)]; omega) ((HB.out.ext ((Ext.alloc w _).trans HE1.out)).fld hc 148 8)
    rw [fld_length (by rw [HH.out]; omega), ← Hr.out] at hfp
    refine hfp.mono ?_
    clear hfp
    rintro e w2 ⟨rfl, hE2⟩
    have hE3 := HE1.out.trans hE2
    have hblk : HdBlk w2 w.heap.size Hd.zero := Ext.heap hE3 (heap_alloc_new w _)
    obtain ⟨q0, q1, q2, q3, q4, q5, q6, q7, q8⟩ := hblk.cells
    have qf := hblk.frozen
    have HE2 := Lib.hid ((Ext.alloc w _).trans hE3)
    clear hE2 hE3 hblk
    go_wp2
    refine bodyPost_ret (v := .tuple #[Hd.zero.val, .int .i64 3]) ?_ rfl ⟨by rw [E0.out]; rfl, ?_⟩
    · simp [results, Tryd.results13, go_sem, q0, q1, q2, q3, q4, q5, q6, q7, q8]
      rfl
    · exact HE2.out.setHd
  · have hne : ((r1 : Int) != (sumS l : Int)) = true := bne_iff_ne.2 fun e => hs ⟨rfl, Int.ofNat_inj.1 e⟩
    clear hs
    go_enter Tryd.func13, Tryd.ntmps13
    go_wp2_with fail
    refine (span_of 148 8 p l.length c _ (by rw [HH.out]; omega) hc hc2).mono ?_
    rintro e w1 ⟨rfl, hE1⟩
    have HE1 := Lib.hid hE1
    clear hE1
    go_wp2_with fail
    have hfp := field_Parse (cutA p c 148) (c - 148) (fld l 148 8) w1 (by rw [fld_length (by rw [HH.out]; omega), ]; have := HH.out; omega) (by omega) (by rw [fld_length (by rw [HH.out]; omega)]; omega) ((HB.out.ext ((Ext.alloc w _).trans HE1.out)).fld hc 148 8)
    rw [fld_length (by rw [HH.out]; omega), ← Hr.out] at hfp
    refine hfp.mono ?_
    clear hfp
    rintro e w2 ⟨rfl, hE2⟩
    have hE3 := HE1.out.trans hE2
    have hblk : HdBlk w2 w.heap.size Hd.zero := Ext.heap hE3 (heap_alloc_new w _)
    obtain ⟨q0, q1, q2, q3, q4, q5, q6, q7, q8⟩ := hblk.cells
    have qf := hblk.frozen
    have HE2 := Lib.hid ((Ext.alloc w _).trans hE3)
    clear hE2 hE3 hblk
    go_wp2_with fail
    refine (head_total p l c w2 (by rw [HH.out]; omega) (HB.out.ext HE2.out) (HVw.out.ext HE2.out)).mono ?_
    rintro e w3 ⟨rfl, rfl⟩
    go_wp2
    refine bodyPost_ret (v := .tuple #[Hd.zero.val, .int .i64 3]) ?_ rfl ⟨by rw [E0.out]; rfl, ?_⟩
    · simp [results, Tryd.results13, go_sem, q0, q1, q2, q3, q4, q5, q6, q7, q8]
      rfl
    · exact HE2.out.setHd

end Go.Proofs.YtpapbnmacjoihaaDoor
