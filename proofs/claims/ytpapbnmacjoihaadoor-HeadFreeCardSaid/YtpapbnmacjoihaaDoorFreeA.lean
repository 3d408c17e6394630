/- bindlelaw04.HeadFree: the walk. -/
import Derived.Test.YtpapbnmacjoihaaDoorRefC
import Derived.Test.YtpapbnmacjoihaaDoorPlainD
import Derived.Test.YtpapbnmacjoihaaDoorAns
namespace Go.Proofs.YtpapbnmacjoihaaDoor
open Go.RowKit Go.Shelf

def freeL : List Nat := [265, 290, 296, 300, 328, 329, 336, 344, 500, 511]
theorem free_row (w : World) (j : Nat) : ∃ k : Nat, ((265 ≤ k ∧ k < 345) ∨ (500 ≤ k ∧ k < 512)) ∧ (w.alloc (.cells #[.int .i64 265, .int .i64 290, .int .i64 296, .int .i64 300, .int .i64 328, .int .i64 329, .int .i64 336, .int .i64 344, .int .i64 500, .int .i64 511] 3)).cell? ⟨w.heap.size, j % 10, none⟩ = some (.int .i64 (k : Int)) := by
  have hj : j % 10 < 10 := Nat.mod_lt _ (by omega)
  have e := heap_alloc_new w (.cells #[.int .i64 265, .int .i64 290, .int .i64 296, .int .i64 300, .int .i64 328, .int .i64 329, .int .i64 336, .int .i64 344, .int .i64 500, .int .i64 511] 3)
  generalize j % 10 = i at hj
  match i, hj with
  | 0, _ => exact ⟨265, by omega, cell_of e rfl⟩
  | 1, _ => exact ⟨290, by omega, cell_of e rfl⟩
  | 2, _ => exact ⟨296, by omega, cell_of e rfl⟩
  | 3, _ => exact ⟨300, by omega, cell_of e rfl⟩
  | 4, _ => exact ⟨328, by omega, cell_of e rfl⟩
  | 5, _ => exact ⟨329, by omega, cell_of e rfl⟩
  | 6, _ => exact ⟨336, by omega, cell_of e rfl⟩
  | 7, _ => exact ⟨344, by omega, cell_of e rfl⟩
  | 8, _ => exact ⟨500, by omega, cell_of e rfl⟩
  | 9, _ => exact ⟨511, by omega, cell_of e rfl⟩
set_option maxHeartbeats 4000000 in
set_option maxRecDepth 100000 in
theorem headFree_long (h : Hd) (at_ : Nat) (by_ : UInt8) (w : World) (hv : HV w) (hl : 1000 < h.name.length ∨ 1000 < h.link.length) :
    Calls Tryd.prog 8 #[h.val, .int .u16 at_, .int .u8 (by_.toNat : Int)] w fun e w' => e = .returned (.bool true) ∧ Ext w w' := by
  have hz := HdBlk.made w h
  have hE := Ext.alloc w (.cells h.cells 27 (0, 0))
  obtain ⟨z0, z1, z2, z3, z4, z5, z6, z7, z8⟩ := hz.cells
  have HA := Lib.hid (answers_ _ (hv.ext hE))
  have HE := Lib.hid hE
  clear hv hz hE
  unfold Hd.val
  by_cases c1 : 1000 < h.name.length
  · have c1' : 1000 < (bs h.name).size := by rw [bs_size]; exact c1
    clear hl c1
    go_enter Tryd.func8, Tryd.ntmps8
    go_wp2_with fail
    refine HA.out.mono ?_
    rintro e w1 ⟨rfl, hE1⟩
    go_wp2
    go_ret
    exact ⟨rfl, HE.out.trans hE1⟩
  · have c1' : ¬ 1000 < (bs h.name).size := by rw [bs_size]; exact c1
    have c2' : 1000 < (bs h.link).size := by rw [bs_size]; exact hl.resolve_left c1
    clear hl c1
    go_enter Tryd.func8, Tryd.ntmps8
    go_wp2_with fail
    refine HA.out.mono ?_
    rintro e w1 ⟨rfl, hE1⟩
    go_wp2
    go_ret
    exact ⟨rfl, HE.out.trans hE1⟩

set_option maxHeartbeats 8000000 in
set_option maxRecDepth 100000 in
theorem headFree_none (h : Hd) (at_ : Nat) (by_ : UInt8) (w : World) (hv : HV w) (ha : at_ < 65536) (hl1 : h.name.length ≤ 1000) (hl2 : h.link.length ≤ 1000) (hb : putHeadS h = none) :
    Calls Tryd.prog 8 #[h.val, .int .u16 at_, .int .u8 (by_.toNat : Int)] w fun e w' => e = .returned (.bool true) ∧ Ext w w' := by
  have hz := HdBlk.made w h
  have hE := Ext.alloc w (.cells h.cells 27 (0, 0))
  obtain ⟨z0, z1, z2, z3, z4, z5, z6, z7, z8⟩ := hz.cells
  have HZ := Lib.hid hz
  have HVw := Lib.hid hv
  have HE := Lib.hid hE
  have hby := by_.toNat_lt
  have c1' : ¬ 1000 < (bs h.name).size := by rw [bs_size]; omega
  have c2' : ¬ 1000 < (bs h.link).size := by rw [bs_size]; omega
  have HP2 : Hid (∀ w, Calls Tryd.prog 16 #[.agg #[.string (bs h.name), .string (bs h.link), .int .u8 (h.kind.toNat : Int), .int .i64 h.mode, .int .i64 h.uid, .int .i64 h.gid, .int .i64 h.time, .int .i64 h.size, .bool h.gnu]] w (RowPost w none)) := by
    intro w
    have := ref_PutHead h w (by omega)
    rw [hb] at this
    exact this
  clear hv hz hE hl1 hl2 hb
  unfold Hd.val
  go_enter Tryd.func8, Tryd.ntmps8
  go_wp2_with fail
  refine (HP2.out _).mono ?_
  rintro e w2 ⟨-, h2, hE2⟩
  obtain rfl := h2 rfl
  have HE2 := Lib.hid (HE.out.trans hE2)
  clear h2 hE2
  go_wp2_with fail
  refine (answers_ w2 (HVw.out.ext HE2.out)).mono ?_
  rintro e w3 ⟨rfl, hE3⟩
  go_wp2
  go_ret
  exact ⟨rfl, HE2.out.trans hE3⟩

set_option maxHeartbeats 8000000 in
set_option maxRecDepth 100000 in
theorem headFree_some (h : Hd) (at_ : Nat) (by_ : UInt8) (b : List UInt8) (w : World) (hv : HV w) (ha : at_ < 65536) (hl1 : h.name.length ≤ 1000) (hl2 : h.link.length ≤ 1000) (hb : putHeadS h = some b) :
    Calls Tryd.prog 8 #[h.val, .int .u16 at_, .int .u8 (by_.toNat : Int)] w fun e w' => e = .returned (.bool true) ∧ Ext w w' := by
  have hz := HdBlk.made w h
  have hE := Ext.alloc w (.cells h.cells 27 (0, 0))
  obtain ⟨z0, z1, z2, z3, z4, z5, z6, z7, z8⟩ := hz.cells
  have HZ := Lib.hid hz
  have HVw := Lib.hid hv
  have HE := Lib.hid hE
  have hby := by_.toNat_lt
  have c1' : ¬ 1000 < (bs h.name).size := by rw [bs_size]; omega
  have c2' : ¬ 1000 < (bs h.link).size := by rw [bs_size]; omega
  have HP2 : Hid (∀ w, Calls Tryd.prog 16 #[.agg #[.string (bs h.name), .string (bs h.link), .int .u8 (h.kind.toNat : Int), .int .i64 h.mode, .int .i64 h.uid, .int .i64 h.gid, .int .i64 h.time, .int .i64 h.size, .bool h.gnu]] w (RowPost w (some b))) := by
    intro w
    have := ref_PutHead h w (by omega)
    rw [hb] at this
    exact this
  have HPF : Hid (∀ k, (265 ≤ k ∧ k < 345) ∨ (500 ≤ k ∧ k < 512) → parseS (lay (b.set k by_) 148 (octD 7 (sumS (b.set k by_)))) = (h, 0)) := fun k hk => parse_free hb hk by_
  obtain ⟨hps, hlen⟩ := parse_put hb
  have HPS := Lib.hid (And.intro hps hlen)
  clear hv hz hE hl1 hl2 hb hps hlen
  unfold Hd.val
  go_enter Tryd.func8, Tryd.ntmps8
  go_wp2_with fail
  refine (HP2.out _).mono ?_
  rintro e w2 ⟨h1, -, hE2⟩
  obtain ⟨g, hg, rfl, hB⟩ := h1 _ rfl
  rw [HPS.out.2]
  have hgw : w.heap.size ≤ g := Nat.le_trans HE.out.size hg
  obtain ⟨kf, hkf, hcf⟩ := free_row w2 at_
  obtain ⟨wa, hwa⟩ : ∃ wa, wa = w2.alloc (.cells #[.int .i64 265, .int .i64 290, .int .i64 296, .int .i64 300, .int .i64 328, .int .i64 329, .int .i64 336, .int .i64 344, .int .i64 500, .int .i64 511] 3) := ⟨_, rfl⟩
  have hEa : Ext w2 wa := by rw [hwa]; exact Ext.alloc _ _
  have hBa := hB.ext hEa
  have hkf5 : kf < 512 := by omega
  have hck := hBa.cell (i := kf) (by rw [HPS.out.2]; exact hkf5)
  have hfk := hBa.frozen kf
  have hBs := hBa.set kf by_
  have hEs := (HE.out.trans (hE2.trans hEa)).setCell (p := ⟨g, kf, none⟩) hgw (.int .u8 (by_.toNat : Int))
  have hgz : w.heap.size ≠ g := by have h1 := HZ.out.lt; have := hg; omega
  have hzs : HdBlk (wa.setCell ⟨g, kf, none⟩ (.int .u8 (by_.toNat : Int))) w.heap.size h := (HdBlk.ext HZ.out (hE2.trans hEa)).other (Ne.symm hgz) _
  have HS := Lib.hid (And.intro hBs (And.intro hEs (And.intro hkf (And.intro hgw (And.intro hgz hzs)))))
  have k148 := run_cut_from (P := Tryd.prog) Tryd.underlying22 info_u8 .i64 (some ⟨g, 0, none⟩) 512 512 148 (by omega) (by omega)
  rw [show (148 : Int).toNat = 148 from rfl, cutA_at (by omega), Nat.zero_add] at k148
  simp only [Nat.reduceSub] at k148
  rw [hwa] at hck hfk HS
  clear h1 hE2 hB hg hgw hEa hBa hBs hEs hkf hwa hgz hzs wa
  go_wp2_with fail
  obtain ⟨w3, hw3⟩ : ∃ w3, w3 = (w2.alloc (.cells #[.int .i64 265, .int .i64 290, .int .i64 296, .int .i64 300, .int .i64 328, .int .i64 329, .int .i64 336, .int .i64 344, .int .i64 500, .int .i64 511] 3)).setCell ⟨g, kf, none⟩ (.int .u8 (by_.toNat : Int)) := ⟨_, rfl⟩
  rw [← hw3] at HS
  rw [← hw3]
  clear hw3 hck hfk hcf
  have hpf := HPF.out kf HS.out.2.2.1
  obtain ⟨B, hB⟩ : ∃ B, B = b.set kf by_ := ⟨_, rfl⟩
  rw [← hB] at HS hpf
  have hBl : B.length = 512 := by rw [hB, List.length_set]; exact HPS.out.2
  have HB := Lib.hid (And.intro hpf hBl)
  clear hpf hB HPF
  refine (ref_Sum (some ⟨g, 0, none⟩) B 512 w3 hBl HS.out.1.by_).mono ?_
  rintro e wS ⟨rfl, rfl⟩
  have hsp := sum_put hBl
  obtain ⟨sm, hsm⟩ : ∃ sm, sm = sumS B := ⟨_, rfl⟩
  rw [← hsm] at hsp ⊢
  rw [← hsm] at HB
  have hpt := ref_PutField sm 7 w3 (by omega) (by omega)
  rw [hsp] at hpt
  have HPT := Lib.hid hpt
  clear hsp hsm hpt hBl
  go_wp2_with fail
  refine HPT.out.mono ?_
  rintro e w4 ⟨h41, -, hE4⟩
  obtain ⟨rfl, hD4⟩ := h41 _ rfl
  have hol : (octD 7 sm).length = 7 := octD_length 7 sm (by omega)
  rw [hol]
  obtain ⟨w5, hcp, hB5, hg5⟩ := run_copy_by (P := Tryd.prog) (dT := 22) (sT := 22) (off := 148) (dLen := 364) (dCap := 364) (sCap := 7) Tryd.underlying22 info_u8 (HS.out.1.ext hE4) hD4.by_ (by rw [hol, HB.out.2]; omega) (by omega)
  rw [hol] at hcp
  have hE5 : Ext w w5 := Below.grown (HS.out.2.1.trans hE4) hg5 (HS.out.2.1.trans hE4).size (fun k hk => by cases hk; exact HS.out.2.2.2.1)
  have hz5 : HdBlk w5 w.heap.size h := HdBlk.kept (HdBlk.ext HS.out.2.2.2.2.2 hE4) hg5 HS.out.2.2.2.2.1
  have hl5 : (lay B 148 (octD 7 sm)).length = 512 := by rw [lay_length (by rw [hol, HB.out.2]; omega), HB.out.2]
  have H5 := Lib.hid (And.intro hB5 (And.intro hE5 (And.intro hz5 hl5)))
  clear h41 hD4 hol hB5 hg5 hE5 hz5 hl5 hE4 HPT
  go_wp2_with fail
  have hps := head_Parse (some ⟨g, 0, none⟩) (lay B 148 (octD 7 sm)) 512 w5 (by rw [H5.out.2.2.2]; omega) (by omega) H5.out.1.by_ (HVw.out.ext H5.out.2.1)
  rw [H5.out.2.2.2] at hps
  refine hps.mono ?_
  rintro e w6 ⟨rfl, hE6⟩
  rw [show (parseS (lay B 148 (octD 7 sm))).fst.val = .agg #[.string (bs h.name), .string (bs h.link), .int .u8 (h.kind.toNat : Int), .int .i64 h.mode, .int .i64 h.uid, .int .i64 h.gid, .int .i64 h.time, .int .i64 h.size, .bool h.gnu] from by rw [HB.out.1]; rfl, show ((parseS (lay B 148 (octD 7 sm))).snd : Int) = 0 from by rw [HB.out.1]; rfl]
  have HE6 := Lib.hid (H5.out.2.1.trans hE6)
  have HZ6 := Lib.hid (HdBlk.ext H5.out.2.2.1 hE6)
  clear hps hE6 hcp k148
  go_wp2_with fail
  have hza : HdBlk (w6.alloc (.cells #[.string (bs h.name), .string (bs h.link), .int .u8 (h.kind.toNat : Int), .int .i64 h.mode, .int .i64 h.uid, .int .i64 h.gid, .int .i64 h.time, .int .i64 h.size, .bool h.gnu] 27)) w6.heap.size h := HdBlk.made w6 h
  have hEa := Ext.alloc w6 (.cells #[.string (bs h.name), .string (bs h.link), .int .u8 (h.kind.toNat : Int), .int .i64 h.mode, .int .i64 h.uid, .int .i64 h.gid, .int .i64 h.time, .int .i64 h.size, .bool h.gnu] 27)
  refine (answers_ _ (HVw.out.ext (HE6.out.trans hEa))).mono ?_
  rintro e w7 ⟨rfl, hE7⟩
  obtain ⟨y0, y1, y2, y3, y4, y5, y6, y7, y8⟩ := (HdBlk.ext hza hE7).cells
  obtain ⟨z0, z1, z2, z3, z4, z5, z6, z7, z8⟩ := (HdBlk.ext HZ6.out (hEa.trans hE7)).cells
  have HE7 := Lib.hid (HE6.out.trans (hEa.trans hE7))
  clear hza hEa hE7
  go_wp2
  go_ret
  exact ⟨rfl, HE7.out⟩

theorem headFree_walk (w : World) (hv : HV w) (h : Hd) (at_ : Nat) (ha : at_ < 65536) (by_ : UInt8) :
    Calls Tryd.prog 8 #[h.val, .int .u16 at_, .int .u8 (by_.toNat : Int)] w fun e w' => e = .returned (.bool true) ∧ Ext w w' := by
  by_cases hl : 1000 < h.name.length ∨ 1000 < h.link.length
  · exact headFree_long h at_ by_ w hv hl
  · cases hb : putHeadS h with
    | none => exact headFree_none h at_ by_ w hv ha (by omega) (by omega) hb
    | some b => exact headFree_some h at_ by_ b w hv ha (by omega) (by omega) hb
end Go.Proofs.YtpapbnmacjoihaaDoor
