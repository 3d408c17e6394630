/- what a program that does nothing does not answer. -/
import Derived.Test.YtpapbnmacjoihaaDoorPutB
import Derived.Test.YtpapbnmacjoihaaDoorHeadQ
namespace Go.Proofs.YtpapbnmacjoihaaDoor
open Go.RowKit Go.Shelf

def h1 : Hd := ⟨[97], [], 48, 0, 0, 0, 0, 9, false⟩
def blk1 : List UInt8 := blockS h1 [] [97]
theorem put1 : putHeadS h1 = some blk1 := by
  unfold putHeadS
  rw [show cutS h1.name = some ([], [97]) from rfl]
  simp only
  rw [if_pos (by decide +kernel)]
  rfl
theorem parse1 : parseS blk1 = (h1, 0) := by decide +kernel
theorem len1 : blk1.length = 512 := by decide +kernel
theorem at1 : blk1.getD 0 0 = 97 := by decide +kernel
theorem zero1 : zeroS blk1 = false := by decide +kernel
theorem zero9 : zeroS (List.replicate 9 0) = true := by decide +kernel

set_option maxHeartbeats 2000000 in
set_option maxRecDepth 100000 in
theorem answers_ (w : World) (hv : HV w) : Calls Tryd.prog 12 #[] w fun e w' => e = .returned (.bool true) ∧ Ext w w' := by
  have hp := head_Put h1 w (by decide) hv
  rw [put1] at hp
  have hp' : Calls Tryd.prog 15 #[.agg #[.string ⟨#[97]⟩, .string ⟨#[]⟩, .int .u8 48, .int .i64 0, .int .i64 0, .int .i64 0, .int .i64 0, .int .i64 9, .bool false]] w (RowPost w (some blk1)) := hp
  have HP := Lib.hid hp'
  have HVw := Lib.hid hv
  clear hp hp' hv
  go_enter Tryd.func12, Tryd.ntmps12
  go_wp2_with fail
  refine HP.out.mono ?_
  rintro e w1 ⟨h1, -, hE1⟩
  obtain ⟨g, hg, rfl, hB⟩ := h1 _ rfl
  have HB := Lib.hid (And.intro hg (And.intro hB hE1))
  clear h1 hg hB hE1
  rw [len1]
  go_wp2_with fail
  have hps := head_Parse (some ⟨g, 0, none⟩) blk1 512 w1 (by rw [len1]; omega) (by omega) HB.out.2.1.by_ (HVw.out.ext HB.out.2.2)
  rw [len1] at hps
  refine hps.mono ?_
  clear hps
  rintro e w2 ⟨rfl, hE2⟩
  rw [show (parseS blk1).fst.val = .agg #[.string ⟨#[97]⟩, .string ⟨#[]⟩, .int .u8 48, .int .i64 0, .int .i64 0, .int .i64 0, .int .i64 0, .int .i64 9, .bool false] from by rw [parse1]; rfl, show ((parseS blk1).snd : Int) = 0 from by rw [parse1]; rfl]
  have hc0 : ∀ o, (w2.alloc o).cell? ⟨g, 0, none⟩ = some (.int .u8 97) := by
    intro o
    have := (hE2.trans (Ext.alloc w2 o)).cell (HB.out.2.1.cell (i := 0) (by rw [len1]; omega))
    rw [at1] at this
    exact this
  have HE2 := Lib.hid hE2
  clear hE2
  have km := Go.run_make_row' (P := Tryd.prog) 22 5 (.int .u8 0) 1 Tryd.underlying22 info_u8 rfl .i64 .i64 9 (by omega) (by omega)
  rw [show ((9 : Nat) : Int) = 9 from rfl] at km
  go_wp2_with fail
  obtain ⟨wa, hwa⟩ : ∃ wa, wa = w2.alloc (.cells #[.string ⟨#[97]⟩, .string ⟨#[]⟩, .int .u8 48, .int .i64 0, .int .i64 0, .int .i64 0, .int .i64 0, .int .i64 9, .bool false] 27) := ⟨_, rfl⟩
  have hEa : Ext w2 wa := by rw [hwa]; exact Ext.alloc _ _
  have hsz : wa.heap.size = w2.heap.size + 1 := by rw [hwa]; simp
  rw [← hwa]
  have hB9 := Blk.made 5 wa 9
  have hz9 := head_Zero (some ⟨wa.heap.size, 0, none⟩) (List.replicate 9 0) 9 _ (by simp) (by omega) hB9.by_
  rw [zero9, List.length_replicate, hsz] at hz9
  have HEa := Lib.hid (hEa.trans (Ext.alloc wa (.cells (madeCells #[.int .u8 0] 9) 5)))
  refine hz9.mono ?_
  clear hz9 hB9 hsz hEa hwa
  rintro e w3 ⟨rfl, hE3⟩
  have hE3' := HE2.out.trans (HEa.out.trans hE3)
  have hz := head_Zero (some ⟨g, 0, none⟩) blk1 512 w3 (by rw [len1]; omega) (by omega) (HB.out.2.1.ext hE3').by_
  rw [zero1, len1] at hz
  have HZ := Lib.hid hz
  have HE3 := Lib.hid hE3'
  clear hE3 hE3' hz
  go_wp2_with fail
  refine HZ.out.mono ?_
  rintro e w4 ⟨rfl, hE4⟩
  go_wp2
  go_ret
  exact ⟨rfl, HB.out.2.2.trans (HE3.out.trans hE4)⟩
end Go.Proofs.YtpapbnmacjoihaaDoor
