/- bindlelaw04.HeadPuts: the walk. -/
import Derived.Test.YtpapbnmacjoihaaDoorRefC
import Derived.Test.YtpapbnmacjoihaaDoorPlainD
import Derived.Test.YtpapbnmacjoihaaDoorAns
namespace Go.Proofs.YtpapbnmacjoihaaDoor
open Go.RowKit Go.Shelf

set_option maxHeartbeats 4000000 in
set_option maxRecDepth 100000 in
theorem headPuts_long (h : Hd) (w : World) (hv : HV w) (hl : 1000 < h.name.length ∨ 1000 < h.link.length) :
    Calls Tryd.prog 4 #[h.val] w fun e w' => e = .returned (.bool true) ∧ Ext w w' := by
  have hz := HdBlk.made w h
  have hE := Ext.alloc w (.cells h.cells 27 (0, 0))
  obtain ⟨z0, z1, z2, z3, z4, z5, z6, z7, z8⟩ := hz.cells
  have HA := Lib.hid (answers_ _ (hv.ext hE))
  have HE := Lib.hid hE
  clear hv hz hE
  unfold Hd.val
  by_cases c1 : 1000 < h.name.length
  · have c1' : 1000 < (bs h.name).size := by rw [bs_size]; exact c1
    clear hl c1
    go_enter Tryd.func4, Tryd.ntmps4
    go_wp2_with fail
    refine HA.out.mono ?_
    rintro e w1 ⟨rfl, hE1⟩
    go_wp2
    go_ret
    exact ⟨rfl, HE.out.trans hE1⟩
  · have c1' : ¬ 1000 < (bs h.name).size := by rw [bs_size]; exact c1
    have c2' : 1000 < (bs h.link).size := by rw [bs_size]; exact hl.resolve_left c1
    clear hl c1
    go_enter Tryd.func4, Tryd.ntmps4
    go_wp2_with fail
    refine HA.out.mono ?_
    rintro e w1 ⟨rfl, hE1⟩
    go_wp2
    go_ret
    exact ⟨rfl, HE.out.trans hE1⟩

set_option maxHeartbeats 8000000 in
set_option maxRecDepth 100000 in
theorem headPuts_none (h : Hd) (w : World) (hv : HV w) (hl1 : h.name.length ≤ 1000) (hl2 : h.link.length ≤ 1000) (hb : putHeadS h = none) :
    Calls Tryd.prog 4 #[h.val] w fun e w' => e = .returned (.bool true) ∧ Ext w w' := by
  have hz := HdBlk.made w h
  have hE := Ext.alloc w (.cells h.cells 27 (0, 0))
  obtain ⟨z0, z1, z2, z3, z4, z5, z6, z7, z8⟩ := hz.cells
  have HZ := Lib.hid hz
  have HVw := Lib.hid hv
  have HE := Lib.hid hE
  have HP1 : Hid (∀ w, HV w → Calls Tryd.prog 15 #[.agg #[.string (bs h.name), .string (bs h.link), .int .u8 (h.kind.toNat : Int), .int .i64 h.mode, .int .i64 h.uid, .int .i64 h.gid, .int .i64 h.time, .int .i64 h.size, .bool h.gnu]] w (RowPost w none)) := by
    intro w hv
    have := head_Put h w (by omega) hv
    rw [hb] at this
    exact this
  have HP2 : Hid (∀ w, Calls Tryd.prog 16 #[.agg #[.string (bs h.name), .string (bs h.link), .int .u8 (h.kind.toNat : Int), .int .i64 h.mode, .int .i64 h.uid, .int .i64 h.gid, .int .i64 h.time, .int .i64 h.size, .bool h.gnu]] w (RowPost w none)) := by
    intro w
    have := ref_PutHead h w (by omega)
    rw [hb] at this
    exact this
  have c1' : ¬ 1000 < (bs h.name).size := by rw [bs_size]; omega
  have c2' : ¬ 1000 < (bs h.link).size := by rw [bs_size]; omega
  clear hv hz hE hl1 hl2 hb
  unfold Hd.val
  go_enter Tryd.func4, Tryd.ntmps4
  go_wp2_with fail
  refine (HP1.out _ (HVw.out.ext HE.out)).mono ?_
  rintro e w1 ⟨-, h2, hE1⟩
  obtain rfl := h2 rfl
  have hz1 := HdBlk.ext HZ.out hE1
  clear z0 z1 z2 z3 z4 z5 z6 z7 z8 h2
  obtain ⟨z0, z1, z2, z3, z4, z5, z6, z7, z8⟩ := hz1.cells
  have HE1 := Lib.hid (HE.out.trans hE1)
  clear hE1 hz1
  go_wp2_with fail
  refine (HP2.out _).mono ?_
  rintro e w2 ⟨-, h2, hE2⟩
  obtain rfl := h2 rfl
  have HE2 := Lib.hid (HE1.out.trans hE2)
  clear h2 hE2
  have kn := run_string_of (P := Tryd.prog) Tryd.underlying22 Tryd.underlying5 Tryd.underlying9 (By.nil w2 none) 0
  rw [List.length_nil, show bs [] = (⟨#[]⟩ : ByteArray) from rfl] at kn
  go_wp2_with fail
  refine (answers_ w2 (HVw.out.ext HE2.out)).mono ?_
  rintro e w3 ⟨rfl, hE3⟩
  go_wp2
  go_ret
  exact ⟨rfl, HE2.out.trans hE3⟩

set_option maxHeartbeats 8000000 in
set_option maxRecDepth 100000 in
theorem headPuts_some (h : Hd) (b : List UInt8) (w : World) (hv : HV w) (hl1 : h.name.length ≤ 1000) (hl2 : h.link.length ≤ 1000) (hb : putHeadS h = some b) :
    Calls Tryd.prog 4 #[h.val] w fun e w' => e = .returned (.bool true) ∧ Ext w w' := by
  have hz := HdBlk.made w h
  have hE := Ext.alloc w (.cells h.cells 27 (0, 0))
  obtain ⟨z0, z1, z2, z3, z4, z5, z6, z7, z8⟩ := hz.cells
  have HZ := Lib.hid hz
  have HVw := Lib.hid hv
  have HE := Lib.hid hE
  have HP1 : Hid (∀ w, HV w → Calls Tryd.prog 15 #[.agg #[.string (bs h.name), .string (bs h.link), .int .u8 (h.kind.toNat : Int), .int .i64 h.mode, .int .i64 h.uid, .int .i64 h.gid, .int .i64 h.time, .int .i64 h.size, .bool h.gnu]] w (RowPost w (some b))) := by
    intro w hv
    have := head_Put h w (by omega) hv
    rw [hb] at this
    exact this
  have HP2 : Hid (∀ w, Calls Tryd.prog 16 #[.agg #[.string (bs h.name), .string (bs h.link), .int .u8 (h.kind.toNat : Int), .int .i64 h.mode, .int .i64 h.uid, .int .i64 h.gid, .int .i64 h.time, .int .i64 h.size, .bool h.gnu]] w (RowPost w (some b))) := by
    intro w
    have := ref_PutHead h w (by omega)
    rw [hb] at this
    exact this
  obtain ⟨hps, hlen⟩ := parse_put hb
  have HPS := Lib.hid (And.intro hps hlen)
  have c1' : ¬ 1000 < (bs h.name).size := by rw [bs_size]; omega
  have c2' : ¬ 1000 < (bs h.link).size := by rw [bs_size]; omega
  clear hv hz hE hl1 hl2 hb hps hlen
  unfold Hd.val
  go_enter Tryd.func4, Tryd.ntmps4
  go_wp2_with fail
  refine (HP1.out _ (HVw.out.ext HE.out)).mono ?_
  rintro e w1 ⟨h1, -, hE1⟩
  obtain ⟨g1, hg1, rfl, hB1⟩ := h1 _ rfl
  have hz1 := HdBlk.ext HZ.out hE1
  clear z0 z1 z2 z3 z4 z5 z6 z7 z8 h1
  obtain ⟨z0, z1, z2, z3, z4, z5, z6, z7, z8⟩ := hz1.cells
  have HE1 := Lib.hid (And.intro hB1 (HE.out.trans hE1))
  have HZ1 := Lib.hid hz1
  clear hE1 hz1 hB1 hg1
  rw [HPS.out.2]
  go_wp2_with fail
  refine (HP2.out _).mono ?_
  rintro e w2 ⟨h1, -, hE2⟩
  obtain ⟨g2, hg2, rfl, hB2⟩ := h1 _ rfl
  have hB1 := HE1.out.1.ext hE2
  have HE2 := Lib.hid (And.intro hB1 (HE1.out.2.trans hE2))
  have hz2 := HdBlk.ext HZ1.out hE2
  have HZ2 := Lib.hid hz2
  rw [HPS.out.2]
  have kn1 := run_string_of (P := Tryd.prog) Tryd.underlying22 Tryd.underlying5 Tryd.underlying9 hB1.by_ 512
  have kn2 := run_string_of (P := Tryd.prog) Tryd.underlying22 Tryd.underlying5 Tryd.underlying9 hB2.by_ 512
  rw [HPS.out.2] at kn1 kn2
  clear z0 z1 z2 z3 z4 z5 z6 z7 z8 h1 hE2 hB1 hB2 hg2 hz2
  go_wp2_with fail
  have hps := head_Parse (some ⟨g1, 0, none⟩) b 512 w2 (by rw [HPS.out.2]; omega) (by omega) HE2.out.1.by_ (HVw.out.ext HE2.out.2)
  rw [HPS.out.2] at hps
  refine hps.mono ?_
  rintro e w3 ⟨rfl, hE3⟩
  rw [show (parseS b).fst.val = .agg #[.string (bs h.name), .string (bs h.link), .int .u8 (h.kind.toNat : Int), .int .i64 h.mode, .int .i64 h.uid, .int .i64 h.gid, .int .i64 h.time, .int .i64 h.size, .bool h.gnu] from by rw [HPS.out.1]; rfl, show ((parseS b).snd : Int) = 0 from by rw [HPS.out.1]; rfl]
  have HE3 := Lib.hid (HE2.out.2.trans hE3)
  have HZ3 := Lib.hid (HdBlk.ext HZ2.out hE3)
  clear hps hE3 kn1 kn2
  go_wp2_with fail
  have hza : HdBlk (w3.alloc (.cells #[.string (bs h.name), .string (bs h.link), .int .u8 (h.kind.toNat : Int), .int .i64 h.mode, .int .i64 h.uid, .int .i64 h.gid, .int .i64 h.time, .int .i64 h.size, .bool h.gnu] 27)) w3.heap.size h := HdBlk.made w3 h
  have hEa := Ext.alloc w3 (.cells #[.string (bs h.name), .string (bs h.link), .int .u8 (h.kind.toNat : Int), .int .i64 h.mode, .int .i64 h.uid, .int .i64 h.gid, .int .i64 h.time, .int .i64 h.size, .bool h.gnu] 27)
  refine (answers_ _ (HVw.out.ext (HE3.out.trans hEa))).mono ?_
  rintro e w4 ⟨rfl, hE4⟩
  obtain ⟨y0, y1, y2, y3, y4, y5, y6, y7, y8⟩ := (HdBlk.ext hza hE4).cells
  obtain ⟨z0, z1, z2, z3, z4, z5, z6, z7, z8⟩ := (HdBlk.ext HZ3.out (hEa.trans hE4)).cells
  have HE4 := Lib.hid (HE3.out.trans (hEa.trans hE4))
  clear hza hEa hE4
  go_wp2
  go_ret
  exact ⟨rfl, HE4.out⟩

theorem headPuts_walk (w : World) (hv : HV w) (h : Hd) :
    Calls Tryd.prog 4 #[h.val] w fun e w' => e = .returned (.bool true) ∧ Ext w w' := by
  by_cases hl : 1000 < h.name.length ∨ 1000 < h.link.length
  · exact headPuts_long h w hv hl
  · cases hb : putHeadS h with
    | none => exact headPuts_none h w hv (by omega) (by omega) hb
    | some b => exact headPuts_some h b w hv (by omega) (by omega) hb
end Go.Proofs.YtpapbnmacjoihaaDoor
