/- bindle, part PutA: contracts of the program, walked. -/
import Derived.Test.YtpapbnmacjoihaaDoorCopy
import Derived.Test.YtpapbnmacjoihaaDoorPlainB
import Derived.Test.YtpapbnmacjoihaaDoorHeadN
namespace Go.Proofs.YtpapbnmacjoihaaDoor
open Go.RowKit Go.Shelf

/-- What is handed back: a row of one's own; or nothing. -/
def RowPost (w : World) (r : Option (List UInt8)) (e : Ending) (w' : World) : Prop :=
  (∀ D, r = some D → ∃ g, w.heap.size ≤ g ∧ e = .returned (.tuple #[.slice (some ⟨g, 0, none⟩) D.length D.length, .bool true]) ∧ Blk 5 w' g D) ∧
  (r = none → e = .returned (.tuple #[.slice none 0 0, .bool false])) ∧ Ext w w'
theorem contains0 (l : List UInt8) : decide (0 ≤ Lib.indexByte l 0) = decide ((0 : UInt8) ∈ l) := by
  rw [← Lib.contains_iff_indexByte, List.contains_eq_mem]
theorem HdBlk.made (w : World) (h : Hd) : HdBlk (w.alloc (.cells h.cells 27 (0, 0))) w.heap.size h := by
  unfold HdBlk; rw [heap_alloc_new]

set_option maxHeartbeats 2000000 in
set_option maxRecDepth 100000 in
theorem head_Put_cut (h : Hd) (w : World) (hl : h.name.length ≤ 1000000) (hv : HV w) (hc : cutS h.name = none) :
    Calls Tryd.prog 15 #[h.val] w (RowPost w (putHeadS h)) := by
  have e0 : putHeadS h = none := by unfold putHeadS; rw [hc]
  rw [e0]
  have hz := HdBlk.made w h
  have hE := Ext.alloc w (.cells h.cells 27 (0, 0))
  have hcut := head_Cut h.name _ hl (hv.ext hE)
  rw [hc] at hcut
  obtain ⟨z0, z1, z2, z3, z4, z5, z6, z7, z8⟩ := hz.cells
  have HC := Lib.hid hcut
  have HE := Lib.hid hE
  clear hv hc hcut hz hE
  unfold Hd.val
  go_enter Tryd.func15, Tryd.ntmps15
  go_wp2_with fail
  refine HC.out.mono ?_
  rintro e w1 ⟨rfl, hE1⟩
  have HE1 := Lib.hid (HE.out.trans hE1)
  clear hE1
  simp only [cutV]
  go_wp2
  go_ret2
  exact ⟨fun D h => (by cases h), fun _ => rfl, HE1.out⟩

set_option maxHeartbeats 4000000 in
set_option maxRecDepth 100000 in
theorem head_Put_bad (h : Hd) (w : World) (hl : h.name.length ≤ 1000000) (hv : HV w) (p rest : List UInt8) (hc : cutS h.name = some (p, rest))
    (hbad : ¬ (h.gnu = false ∧ h.kind ≠ 0 ∧ h.link.length ≤ 100 ∧ (0 : UInt8) ∉ h.name ++ h.link)) :
    Calls Tryd.prog 15 #[h.val] w (RowPost w (putHeadS h)) := by
  have e0 : putHeadS h = none := by
    unfold putHeadS; rw [hc]
    simp only
    rw [if_neg (fun e => hbad ⟨e.1, e.2.1, e.2.2.1, e.2.2.2.1⟩)]
  rw [e0]
  have hz := HdBlk.made w h
  have hE := Ext.alloc w (.cells h.cells 27 (0, 0))
  have hcut := head_Cut h.name _ hl (hv.ext hE)
  rw [hc] at hcut
  obtain ⟨z0, z1, z2, z3, z4, z5, z6, z7, z8⟩ := hz.cells
  have HZ := Lib.hid hz
  have HC := Lib.hid hcut
  have HE := Lib.hid hE
  have HVw := Lib.hid hv
  have HBAD := Lib.hid hbad
  clear hv hc hcut hz hE hbad
  unfold Hd.val
  go_enter Tryd.func15, Tryd.ntmps15
  go_wp2_with fail
  refine HC.out.mono ?_
  rintro e w1 ⟨rfl, hE1⟩
  simp only [cutV]
  have hz1 := HdBlk.ext HZ.out hE1
  clear z0 z1 z2 z3 z4 z5 z6 z7 z8
  obtain ⟨z0, z1, z2, z3, z4, z5, z6, z7, z8⟩ := hz1.cells
  have hV1 := HVw.out.ext (HE.out.trans hE1)
  obtain ⟨l0, l1⟩ := hV1.link
  have HE1 := Lib.hid (HE.out.trans hE1)
  have HZ1 := Lib.hid hz1
  have HV1 := Lib.hid hV1
  clear hE1 hz1 hV1
  by_cases c1 : h.gnu = true
  · rw [c1] at z8
    clear HBAD c1
    go_wp2
    go_ret2
    exact ⟨fun D h => (by cases h), fun _ => rfl, HE1.out⟩
  · have c1 : h.gnu = false := by simpa using c1
    rw [c1] at z8
    by_cases c2 : h.kind = 0
    · have c2' : ((h.kind.toNat : Int) == 0) = true := by rw [c2]; rfl
      clear HBAD c1 c2
      go_wp2
      go_ret2
      exact ⟨fun D h => (by cases h), fun _ => rfl, HE1.out⟩
    · have c2' : ((h.kind.toNat : Int) == 0) = false := beq_eq_false_iff_ne.2 fun e => c2 (UInt8.toNat_inj.1 (by simpa using e))
      by_cases c3 : h.link.length ≤ 100
      · have c4 : (0 : UInt8) ∈ h.name ++ h.link := by
          refine Classical.byContradiction fun h' => HBAD.out ⟨c1, c2, c3, h'⟩
        have c3' : ¬ 100 < (bs h.link).size := by rw [bs_size]; omega
        have hk := Tryd.strings_Contains_one (bs (h.name ++ h.link)) 0 w1
        rw [bs_data, contains0, decide_eq_true c4, ← bs_app] at hk
        have HK := Lib.hid hk
        have s1 : (bs h.name).size ≤ 1000000 := by rw [bs_size]; exact hl
        have s2 : (bs h.link).size ≤ 100 := by rw [bs_size]; exact c3
        clear HBAD c1 c2 c3 c4 hk
        go_wp2_with fail
        refine HK.out.mono ?_
        rintro e w2 ⟨rfl, rfl⟩
        go_wp2
        go_ret2
        exact ⟨fun D h => (by cases h), fun _ => rfl, HE1.out⟩
      · have c3' : 100 < (bs h.link).size := by rw [bs_size]; omega
        clear HBAD c1 c2 c3
        go_wp2
        go_ret2
        exact ⟨fun D h => (by cases h), fun _ => rfl, HE1.out⟩
end Go.Proofs.YtpapbnmacjoihaaDoor
