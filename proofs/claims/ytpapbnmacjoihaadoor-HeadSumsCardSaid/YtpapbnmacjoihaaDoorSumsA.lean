/- bindlelaw04.HeadSums: the walk. -/
import Derived.Test.YtpapbnmacjoihaaDoorRefC
import Derived.Test.YtpapbnmacjoihaaDoorPlainD
import Derived.Test.YtpapbnmacjoihaaDoorAns
namespace Go.Proofs.YtpapbnmacjoihaaDoor
open Go.RowKit Go.Shelf

set_option maxHeartbeats 4000000 in
set_option maxRecDepth 100000 in
theorem headSums_long (h : Hd) (at_ : Nat) (by_ : UInt8) (w : World) (hv : HV w) (hl : 1000 < h.name.length ∨ 1000 < h.link.length) :
    Calls Tryd.prog 5 #[h.val, .int .u16 at_, .int .u8 (by_.toNat : Int)] w fun e w' => e = .returned (.bool true) ∧ Ext w w' := by
  have hz := HdBlk.made w h
  have hE := Ext.alloc w (.cells h.cells 27 (0, 0))
  obtain ⟨z0, z1, z2, z3, z4, z5, z6, z7, z8⟩ := hz.cells
  have HA := Lib.hid (answers_ _ (hv.ext hE))
  have HE := Lib.hid hE
  clear hv hz hE
  unfold Hd.val
  by_cases c1 : 1000 < h.name.length
  · have c1' : 1000 < (bs h.name).size := by rw [bs_size]; exact c1
    clear hl c1
    go_enter Tryd.func5, Tryd.ntmps5
    go_wp2_with fail
    refine HA.out.mono ?_
    rintro e w1 ⟨rfl, hE1⟩
    go_wp2
    go_ret
    exact ⟨rfl, HE.out.trans hE1⟩
  · have c1' : ¬ 1000 < (bs h.name).size := by rw [bs_size]; exact c1
    have c2' : 1000 < (bs h.link).size := by rw [bs_size]; exact hl.resolve_left c1
    clear hl c1
    go_enter Tryd.func5, Tryd.ntmps5
    go_wp2_with fail
    refine HA.out.mono ?_
    rintro e w1 ⟨rfl, hE1⟩
    go_wp2
    go_ret
    exact ⟨rfl, HE.out.trans hE1⟩

set_option maxHeartbeats 8000000 in
set_option maxRecDepth 100000 in
theorem headSums_none (h : Hd) (at_ : Nat) (by_ : UInt8) (w : World) (hv : HV w) (ha : at_ < 65536) (hl1 : h.name.length ≤ 1000) (hl2 : h.link.length ≤ 1000) (hb : putHeadS h = none) :
    Calls Tryd.prog 5 #[h.val, .int .u16 at_, .int .u8 (by_.toNat : Int)] w fun e w' => e = .returned (.bool true) ∧ Ext w w' := by
  have hz := HdBlk.made w h
  have hE := Ext.alloc w (.cells h.cells 27 (0, 0))
  obtain ⟨z0, z1, z2, z3, z4, z5, z6, z7, z8⟩ := hz.cells
  have HZ := Lib.hid hz
  have HVw := Lib.hid hv
  have HE := Lib.hid hE
  have hby := by_.toNat_lt
  have c1' : ¬ 1000 < (bs h.name).size := by rw [bs_size]; omega
  have c2' : ¬ 1000 < (bs h.link).size := by rw [bs_size]; omega
  have HP2 : Hid (∀ w, Calls Tryd.prog 16 #[.agg #[.string (bs h.name), .string (bs h.link), .int .u8 (h.kind.toNat : Int), .int .i64 h.mode, .int .i64 h.uid, .int .i64 h.gid, .int .i64 h.time, .int .i64 h.size, .bool h.gnu]] w (RowPost w none)) := by
    intro w
    have := ref_PutHead h w (by omega)
    rw [hb] at this
    exact this
  clear hv hz hE hl1 hl2 hb
  unfold Hd.val
  go_enter Tryd.func5, Tryd.ntmps5
  go_wp2_with fail
  refine (HP2.out _).mono ?_
  rintro e w2 ⟨-, h2, hE2⟩
  obtain rfl := h2 rfl
  have HE2 := Lib.hid (HE.out.trans hE2)
  clear h2 hE2
  go_wp2_with fail
  refine (answers_ w2 (HVw.out.ext HE2.out)).mono ?_
  rintro e w3 ⟨rfl, hE3⟩
  go_wp2
  go_ret
  exact ⟨rfl, HE2.out.trans hE3⟩

set_option maxHeartbeats 8000000 in
set_option maxRecDepth 100000 in
theorem headSums_quiet (h : Hd) (at_ : Nat) (by_ : UInt8) (b : List UInt8) (w : World) (hv : HV w) (ha : at_ < 65536) (hl1 : h.name.length ≤ 1000) (hl2 : h.link.length ≤ 1000) (hb : putHeadS h = some b) (hq : by_ = 0 ∨ (148 ≤ at_ % 512 ∧ at_ % 512 < 156)) :
    Calls Tryd.prog 5 #[h.val, .int .u16 at_, .int .u8 (by_.toNat : Int)] w fun e w' => e = .returned (.bool true) ∧ Ext w w' := by
  have hz := HdBlk.made w h
  have hE := Ext.alloc w (.cells h.cells 27 (0, 0))
  obtain ⟨z0, z1, z2, z3, z4, z5, z6, z7, z8⟩ := hz.cells
  have HZ := Lib.hid hz
  have HVw := Lib.hid hv
  have HE := Lib.hid hE
  have hby := by_.toNat_lt
  have c1' : ¬ 1000 < (bs h.name).size := by rw [bs_size]; omega
  have c2' : ¬ 1000 < (bs h.link).size := by rw [bs_size]; omega
  have HP2 : Hid (∀ w, Calls Tryd.prog 16 #[.agg #[.string (bs h.name), .string (bs h.link), .int .u8 (h.kind.toNat : Int), .int .i64 h.mode, .int .i64 h.uid, .int .i64 h.gid, .int .i64 h.time, .int .i64 h.size, .bool h.gnu]] w (RowPost w (some b))) := by
    intro w
    have := ref_PutHead h w (by omega)
    rw [hb] at this
    exact this
  obtain ⟨hps, hlen⟩ := parse_put hb
  have HPS := Lib.hid (And.intro hps hlen)
  clear hv hz hE hl1 hl2 hb hps hlen
  by_cases c0 : by_ = 0
  · subst c0
    unfold Hd.val
    go_enter Tryd.func5, Tryd.ntmps5
    go_wp2_with fail
    refine (HP2.out _).mono ?_
    rintro e w2 ⟨h1, -, hE2⟩
    obtain ⟨g, hg, rfl, hB⟩ := h1 _ rfl
    rw [HPS.out.2]
    have hgw : w.heap.size ≤ g := Nat.le_trans HE.out.size hg
    have HE2 := Lib.hid (HE.out.trans hE2)
    clear h1 hE2 hB hg hgw hq
    go_wp2_with fail
    refine (answers_ w2 (HVw.out.ext HE2.out)).mono ?_
    rintro e w3 ⟨rfl, hE3⟩
    go_wp2
    go_ret
    exact ⟨rfl, HE2.out.trans hE3⟩
  · obtain ⟨q1, q2⟩ := hq.resolve_left c0
    have c0' : ((by_.toNat : Int) == 0) = false := beq_eq_false_iff_ne.2 fun e => c0 (UInt8.toNat_inj.1 (by simpa using e))
    have q1' : (148 : Int) ≤ (at_ : Int) % 512 := by omega
    have q2' : (at_ : Int) % 512 < 156 := by omega
    clear hq c0
    unfold Hd.val
    go_enter Tryd.func5, Tryd.ntmps5
    go_wp2_with fail
    refine (HP2.out _).mono ?_
    rintro e w2 ⟨h1, -, hE2⟩
    obtain ⟨g, hg, rfl, hB⟩ := h1 _ rfl
    rw [HPS.out.2]
    have hgw : w.heap.size ≤ g := Nat.le_trans HE.out.size hg
    have HE2 := Lib.hid (HE.out.trans hE2)
    clear h1 hE2 hB hg hgw
    go_wp2_with fail
    refine (answers_ w2 (HVw.out.ext HE2.out)).mono ?_
    rintro e w3 ⟨rfl, hE3⟩
    go_wp2
    go_ret
    exact ⟨rfl, HE2.out.trans hE3⟩

set_option maxHeartbeats 8000000 in
set_option maxRecDepth 100000 in
theorem headSums_turned (h : Hd) (at_ : Nat) (by_ : UInt8) (b : List UInt8) (w : World) (hv : HV w) (ha : at_ < 65536) (hl1 : h.name.length ≤ 1000) (hl2 : h.link.length ≤ 1000) (hb : putHeadS h = some b) (c0 : by_ ≠ 0) (hq : at_ % 512 < 148 ∨ 156 ≤ at_ % 512) :
    Calls Tryd.prog 5 #[h.val, .int .u16 at_, .int .u8 (by_.toNat : Int)] w fun e w' => e = .returned (.bool true) ∧ Ext w w' := by
  have hz := HdBlk.made w h
  have hE := Ext.alloc w (.cells h.cells 27 (0, 0))
  obtain ⟨z0, z1, z2, z3, z4, z5, z6, z7, z8⟩ := hz.cells
  have HZ := Lib.hid hz
  have HVw := Lib.hid hv
  have HE := Lib.hid hE
  have hby := by_.toNat_lt
  have c1' : ¬ 1000 < (bs h.name).size := by rw [bs_size]; omega
  have c2' : ¬ 1000 < (bs h.link).size := by rw [bs_size]; omega
  have HP2 : Hid (∀ w, Calls Tryd.prog 16 #[.agg #[.string (bs h.name), .string (bs h.link), .int .u8 (h.kind.toNat : Int), .int .i64 h.mode, .int .i64 h.uid, .int .i64 h.gid, .int .i64 h.time, .int .i64 h.size, .bool h.gnu]] w (RowPost w (some b))) := by
    intro w
    have := ref_PutHead h w (by omega)
    rw [hb] at this
    exact this
  obtain ⟨hps, hlen⟩ := parse_put hb
  have HPS := Lib.hid (And.intro hps hlen)
  have hkm : at_ % 512 < 512 := Nat.mod_lt _ (by omega)
  have hturn : parseS (b.set (at_ % 512) (b.getD (at_ % 512) 0 + by_)) = (Hd.zero, 3) := parse_turned hb hkm hq (fun e => c0 (by
    have : b.getD (at_ % 512) 0 + by_ = b.getD (at_ % 512) 0 + 0 := by rw [e, UInt8.add_zero]
    exact (UInt8.add_right_inj _).1 this))
  have HT := Lib.hid hturn
  have c0' : ((by_.toNat : Int) == 0) = false := beq_eq_false_iff_ne.2 fun e => c0 (UInt8.toNat_inj.1 (by simpa using e))
  clear hv hz hE hl1 hl2 hb hps hlen hturn c0
  unfold Hd.val
  go_enter Tryd.func5, Tryd.ntmps5
  go_wp2_with fail
  refine (HP2.out _).mono ?_
  rintro e w2 ⟨h1, -, hE2⟩
  obtain ⟨g, hg, rfl, hB⟩ := h1 _ rfl
  rw [HPS.out.2]
  have hgw : w.heap.size ≤ g := Nat.le_trans HE.out.size hg
  have hck := hB.cell (i := at_ % 512) (by rw [HPS.out.2]; exact hkm)
  have hfk := hB.frozen (at_ % 512)
  have hBs := hB.set (at_ % 512) (b.getD (at_ % 512) 0 + by_)
  have hEs := (HE.out.trans hE2).setCell (p := ⟨g, at_ % 512, none⟩) hgw (.int .u8 ((b.getD (at_ % 512) 0 + by_).toNat : Int))
  have HS := Lib.hid (And.intro hBs hEs)
  obtain ⟨y, hy⟩ : ∃ y, y = b.getD (at_ % 512) 0 := ⟨_, rfl⟩
  rw [← hy] at hck HS HT
  have hadd : ((y + by_).toNat : Int) = ((y.toNat : Int) + (by_.toNat : Int)) % 256 := by rw [UInt8.toNat_add]; omega
  rw [hadd] at HS
  clear hadd
  have hyl := y.toNat_lt
  clear h1 hE2 hB hg hgw hBs hEs hy
  by_cases q : at_ % 512 < 148
  · have q1' : ¬ (148 : Int) ≤ (at_ : Int) % 512 := by omega
    clear hq
    go_wp2_with fail
    obtain ⟨w3, hw3⟩ : ∃ w3, w3 = w2.setCell ⟨g, at_ % 512, none⟩ (.int .u8 (((y.toNat : Int) + (by_.toNat : Int)) % 256)) := ⟨_, rfl⟩
    rw [← hw3] at HS
    rw [← hw3]
    clear hw3 hck hfk
    obtain ⟨B, hB⟩ : ∃ B, B = b.set (at_ % 512) (y + by_) := ⟨_, rfl⟩
    rw [← hB] at HS HT
    have hBl : B.length = 512 := by rw [hB, List.length_set]; exact HPS.out.2
    have hps := head_Parse (some ⟨g, 0, none⟩) B 512 w3 (by omega) (by omega) HS.out.1.by_ (HVw.out.ext HS.out.2)
    rw [hBl] at hps
    refine hps.mono ?_
    rintro e w4 ⟨rfl, hE4⟩
    rw [show (parseS B).fst.val = .agg #[.string ⟨#[]⟩, .string ⟨#[]⟩, .int .u8 0, .int .i64 0, .int .i64 0, .int .i64 0, .int .i64 0, .int .i64 0, .bool false] from by rw [HT.out]; rfl, show ((parseS B).snd : Int) = 3 from by rw [HT.out]; rfl]
    have HE4 := Lib.hid (HS.out.2.trans hE4)
    clear hps hE4 hB hBl
    go_wp2_with fail
    refine (answers_ _ (HVw.out.ext (HE4.out.trans (Ext.alloc _ _)))).mono ?_
    rintro e w5 ⟨rfl, hE5⟩
    have HE5 := Lib.hid (HE4.out.trans ((Ext.alloc _ _).trans hE5))
    clear hE5
    go_wp2
    go_ret
    exact ⟨rfl, HE5.out⟩
  · have q1' : (148 : Int) ≤ (at_ : Int) % 512 := by omega
    have q2' : ¬ (at_ : Int) % 512 < 156 := by omega
    clear hq
    go_wp2_with fail
    obtain ⟨w3, hw3⟩ : ∃ w3, w3 = w2.setCell ⟨g, at_ % 512, none⟩ (.int .u8 (((y.toNat : Int) + (by_.toNat : Int)) % 256)) := ⟨_, rfl⟩
    rw [← hw3] at HS
    rw [← hw3]
    clear hw3 hck hfk
    obtain ⟨B, hB⟩ : ∃ B, B = b.set (at_ % 512) (y + by_) := ⟨_, rfl⟩
    rw [← hB] at HS HT
    have hBl : B.length = 512 := by rw [hB, List.length_set]; exact HPS.out.2
    have hps := head_Parse (some ⟨g, 0, none⟩) B 512 w3 (by omega) (by omega) HS.out.1.by_ (HVw.out.ext HS.out.2)
    rw [hBl] at hps
    refine hps.mono ?_
    rintro e w4 ⟨rfl, hE4⟩
    rw [show (parseS B).fst.val = .agg #[.string ⟨#[]⟩, .string ⟨#[]⟩, .int .u8 0, .int .i64 0, .int .i64 0, .int .i64 0, .int .i64 0, .int .i64 0, .bool false] from by rw [HT.out]; rfl, show ((parseS B).snd : Int) = 3 from by rw [HT.out]; rfl]
    have HE4 := Lib.hid (HS.out.2.trans hE4)
    clear hps hE4 hB hBl
    go_wp2_with fail
    refine (answers_ _ (HVw.out.ext (HE4.out.trans (Ext.alloc _ _)))).mono ?_
    rintro e w5 ⟨rfl, hE5⟩
    have HE5 := Lib.hid (HE4.out.trans ((Ext.alloc _ _).trans hE5))
    clear hE5
    go_wp2
    go_ret
    exact ⟨rfl, HE5.out⟩

theorem headSums_walk (w : World) (hv : HV w) (h : Hd) (at_ : Nat) (ha : at_ < 65536) (by_ : UInt8) :
    Calls Tryd.prog 5 #[h.val, .int .u16 at_, .int .u8 (by_.toNat : Int)] w fun e w' => e = .returned (.bool true) ∧ Ext w w' := by
  by_cases hl : 1000 < h.name.length ∨ 1000 < h.link.length
  · exact headSums_long h at_ by_ w hv hl
  · cases hb : putHeadS h with
    | none => exact headSums_none h at_ by_ w hv ha (by omega) (by omega) hb
    | some b => 
      by_cases hq : by_ = 0 ∨ (148 ≤ at_ % 512 ∧ at_ % 512 < 156)
      · exact headSums_quiet h at_ by_ b w hv ha (by omega) (by omega) hb hq
      · exact headSums_turned h at_ by_ b w hv ha (by omega) (by omega) hb (fun e => hq (.inl e)) (by omega)
end Go.Proofs.YtpapbnmacjoihaaDoor
