/- bindlelaw09.WriteJoins: the walk. -/
import Derived.Test.YtpapbnmacjoihaaDoorOwnR
import Derived.Test.YtpapbnmacjoihaaDoorRegionG
namespace Go.Proofs.YtpapbnmacjoihaaDoor
open Go.RowKit Go.Shelf

theorem MbsAt.by_ {w : World} {p : Option Addr} {l : List Me} (h : MbsAt w p l) {e : Me} (he : e ∈ l) : By w e.p e.m.body := by
  obtain ⟨k, hk⟩ := List.getElem?_of_mem he
  obtain ⟨g, o, _, hc⟩ := h (List.length_pos_of_mem he)
  exact (hc k e hk).2
theorem light_small {l : List Me} (h : lightS l = true) : (∀ e ∈ l, Small e.m) ∧ (0 < l.length → l.length ≤ 60) ∧ sumB l ≤ 200000 := by
  unfold lightS at h
  simp only [Bool.and_eq_true, decide_eq_true_eq] at h
  refine ⟨fun e he => ?_, fun h0 => ?_, h.2⟩
  · have := fineB_iff.1 (List.all_eq_true.1 h.1 e he)
    exact ⟨by omega, by omega, by omega⟩
  · cases l with
    | nil => simp at h0
    | cons e t => exact (fineB_iff.1 (List.all_eq_true.1 h.1 e List.mem_cons_self)).1
theorem light_len {l : List Me} (h : lightS l = true) : l.length ≤ 60 := by
  rcases Nat.eq_zero_or_pos l.length with h0 | h0
  · omega
  · exact (light_small h).2.1 h0
theorem bodyL_app (a b : List Me) : bodyL (a ++ b) = bodyL a ++ bodyL b := by unfold bodyL; rw [List.flatMap_append]
theorem allG_app (a b : List Me) : allG (a ++ b) = (allG a && allG b) := by unfold allG; rw [List.all_append]
theorem arch_len (l : List Me) : (archS l).length = (bodyL l).length + 1024 := by unfold archS; rw [List.length_append, List.length_replicate]
theorem arch_le {l : List Me} (h : l.length ≤ 4096) : (archS l).length ≤ 10000000000 := by rw [arch_len, bodyL_len]; have := sizeL_le l; omega
theorem arch_app (a b : List Me) : archS (a ++ b) = (archS a).take ((archS a).length - 1024) ++ archS b := by
  have : (archS a).take ((archS a).length - 1024) = bodyL a := by
    rw [arch_len, Nat.add_sub_cancel]
    unfold archS
    rw [List.take_left' rfl]
  rw [this]
  unfold archS
  rw [bodyL_app, List.append_assoc]

set_option maxHeartbeats 4000000 in
set_option maxRecDepth 100000 in
theorem writeJoins_dark (pa pb : Option Addr) (ca cb : Nat) (la lb : List Me) (w : World) (hw : HW w) (ha : MbsAt w pa la) (hb : MbsAt w pb lb) (hl : lightS la = false ∨ lightS lb = false) :
    Calls Tryd.prog 10 #[.slice pa la.length ca, .slice pb lb.length cb] w fun x w' => x = .returned (.bool true) ∧ Ext w w' := by
  have hA := law_light pa ca la w ha
  have hB := law_light pb cb lb w hb
  have HH := Lib.hid hw
  clear hw ha hb
  cases hla : lightS la with
  | false =>
    rw [hla] at hA
    have HA := Lib.hid hA
    clear hA hB hla hl
    go_enter Tryd.func10, Tryd.ntmps10
    go_wp2_with fail
    refine HA.out.mono ?_
    rintro x w1 ⟨rfl, rfl⟩
    go_wp2_with fail
    refine (answers9 _ HH.out).mono ?_
    rintro x w2 ⟨rfl, hE⟩
    go_wp2
    go_ret
    exact ⟨rfl, hE⟩
  | true =>
    have hlb : lightS lb = false := by rcases hl with h | h; (rw [hla] at h; cases h); exact h
    rw [hla] at hA
    rw [hlb] at hB
    have HA := Lib.hid (And.intro hA hB)
    clear hA hB hla hl hlb
    go_enter Tryd.func10, Tryd.ntmps10
    go_wp2_with fail
    refine HA.out.1.mono ?_
    rintro x w1 ⟨rfl, rfl⟩
    go_wp2_with fail
    refine HA.out.2.mono ?_
    rintro x w1 ⟨rfl, rfl⟩
    go_wp2_with fail
    refine (answers9 _ HH.out).mono ?_
    rintro x w2 ⟨rfl, hE⟩
    go_wp2
    go_ret
    exact ⟨rfl, hE⟩
def joVs (zv xv yv : Value) (X Y Z : List UInt8) (xp : Option Addr) (xc : Nat) (_ : Unit) : List Value :=
  [.bool true, .bool true, .int .i64 0, .bool true, .bool true, .bool true, zv, .string (bs Z), xv, xv, .int .i64 (X.length : Int), .int .i64 ((X.length : Int) - 1024), .slice xp (X.length - 1024) xc, .string (bs (X.take (X.length - 1024))), yv, .string (bs Y), .string (bs Z), .bool true, .bool true, .bool true]
def JoWI (W0 : World) (_ : Unit) (_ : Nat → Bool) (w' : World) : Prop := Ext W0 w'

set_option maxHeartbeats 8000000 in
set_option maxRecDepth 100000 in
theorem writeJoins_light (pa pb : Option Addr) (ca cb : Nat) (la lb : List Me) (w : World) (hw : HW w) (ha : MbsAt w pa la) (hb : MbsAt w pb lb) (hla : lightS la = true) (hlb : lightS lb = true) :
    Calls Tryd.prog 10 #[.slice pa la.length ca, .slice pb lb.length cb] w fun x w' => x = .returned (.bool true) ∧ Ext w w' := by
  have hA := law_light pa ca la w ha
  have hB := law_light pb cb lb w hb
  rw [hla] at hA
  rw [hlb] at hB
  have hna := light_len hla
  have hnb := light_len hlb
  have hsa := (light_small hla).1
  have hsb := (light_small hlb).1
  have HL := Lib.hid (And.intro hA hB)
  have HH := Lib.hid (And.intro hw (And.intro ha (And.intro hb (And.intro hsa hsb))))
  clear hw ha hb hA hB hla hlb hsa hsb
  go_enter Tryd.func10, Tryd.ntmps10
  go_wp2_with fail
  refine HL.out.1.mono ?_
  rintro x w1 ⟨rfl, rfl⟩
  go_wp2_with fail
  refine HL.out.2.mono ?_
  rintro x w1 ⟨rfl, rfl⟩
  go_wp2_with fail
  refine (write_Archive pa ca la w HH.out.2.1 (by omega) HH.out.2.2.2.1 HH.out.1).mono ?_
  intro x w1 H
  obtain ⟨v, rfl, hR, hE⟩ := H.out
  obtain ⟨xp, xc, rfl, hxb, hxl, hxc, -, -⟩ := hR.shape
  have hE1 := hE
  have HX := Lib.hid (And.intro hE hxb)
  clear hR hE hE1 H hxb
  cases ga : allG la with
  | false =>
    rw [ga] at HX hxl
    simp only [Bool.false_eq_true, if_false] at HX hxl ⊢
    clear HL
    go_wp2_with fail
    refine (write_Archive pb cb lb w1 (HH.out.2.2.1.ext HX.out.1) (by omega) HH.out.2.2.2.2 (HH.out.1.ext HX.out.1)).mono ?_
    intro x w2 H
    obtain ⟨v, rfl, hR, hE⟩ := H.out
    generalize (if allG lb = true then (0 : Int) else 1) = er at *
    generalize (if allG lb = true then archS lb else []) = YY at *
    obtain ⟨yp, yc, rfl, -, -, -, -, -⟩ := hR.shape
    have HY := Lib.hid (HX.out.1.trans hE)
    clear hR hE H
    go_wp2_with fail
    refine (answers9 _ (HH.out.1.ext HY.out)).mono ?_
    rintro x w3 ⟨rfl, hE⟩
    go_wp2
    go_ret
    exact ⟨rfl, HY.out.trans hE⟩
  | true =>
    rw [ga] at HX hxl
    simp only [if_true] at HX hxl ⊢
    clear HL
    go_wp2_with fail
    refine (write_Archive pb cb lb w1 (HH.out.2.2.1.ext HX.out.1) (by omega) HH.out.2.2.2.2 (HH.out.1.ext HX.out.1)).mono ?_
    intro x w2 H
    obtain ⟨v, rfl, hR, hE⟩ := H.out
    obtain ⟨yp, yc, rfl, hyb, hyl, hyc, -, -⟩ := hR.shape
    have HY := Lib.hid (And.intro (HX.out.1.trans hE) (And.intro (HX.out.2.ext hE) hyb))
    clear hR hE H hyb HX
    cases gb : allG lb with
    | false =>
      rw [gb] at HY hyl
      simp only [Bool.false_eq_true, if_false] at HY hyl ⊢
      go_wp2_with fail
      refine (answers9 _ (HH.out.1.ext HY.out.1)).mono ?_
      rintro x w3 ⟨rfl, hE⟩
      go_wp2
      go_ret
      exact ⟨rfl, HY.out.1.trans hE⟩
    | true =>
      rw [gb] at HY hyl
      simp only [if_true] at HY hyl ⊢
      have hXl := arch_le (l := la) (by omega)
      have hYl := arch_le (l := lb) (by omega)
      have hX0 := arch_len la
      have hzz := arch_app la lb
      have hgg : allG (la ++ lb) = true := by rw [allG_app, ga, gb]; rfl
      obtain ⟨X, hX⟩ : ∃ X, X = archS la := ⟨_, rfl⟩
      obtain ⟨Y, hY⟩ : ∃ Y, Y = archS lb := ⟨_, rfl⟩
      rw [← hX] at HY hxl hXl hX0 hzz ⊢
      rw [← hY] at HY hyl hYl hzz ⊢
      have hX1 : ¬ (X.length : Int) < 1024 := by omega
      have HZ := Lib.hid (And.intro hzz hgg)
      clear hX hY hzz hgg ga gb hX0
      have hrow := MbRow.empty (base := w2.heap.size) w2 (Nat.le_refl _)
      have hEa := Ext.alloc w2 (.cells #[] 45)
      have hsza : (w2.alloc (.cells #[] 45)).heap.size = w2.heap.size + 1 := by simp
      have hma := HH.out.2.1.ext (HY.out.1.trans hEa)
      have hlna : la.length ≤ 60 := hna
      have hmb := HH.out.2.2.1.ext (HY.out.1.trans hEa)
      have HM := Lib.hid (And.intro hEa hmb)
      clear hEa hmb
      go_wp2_with (at_builtin; (first
        | (refine wpList_appR rfl _ _ rfl Tryd.underlying47 info_mb rfl (by decide) (base := w2.heap.size) (n := 0) (xs := []) (m := la.length) (news := mbCells la) hrow.1 (mbCells_len la) (fun h0 => hma.row h0) (mbCells_one la) (by omega) (by omega) (by simp) rfl rfl ?_; intro v1 w3 hr1 hg1 hn1; rw [Nat.zero_add, List.nil_append] at hr1; obtain ⟨p1, c1, rfl, hc1, hc2, hc3, hc4⟩ := ownsRow_shape hr1; have hb1 : w2.heap.size ≤ w3.heap.size := Nat.le_trans (by simp) hg1.size; have hE3 := Below.grown (HM.out.1) hg1 (Nat.le_trans (by simp) (Nat.le_refl _)) (fun k hk => (hrow.1.lt k hk).1); have hmb3 := HH.out.2.2.1.ext (HY.out.1.trans hE3); clear hma)
        | (refine wpList_appR rfl _ _ rfl Tryd.underlying47 info_mb rfl (by decide) (base := w2.heap.size) (n := la.length) (xs := mbCells la) (m := lb.length) (news := mbCells lb) hr1 (mbCells_len lb) (fun h0 => hmb3.row h0) (mbCells_one lb) (by omega) (by omega) (by omega) rfl rfl ?_; intro v2 w4 hr2 hg2 hn2; obtain ⟨p2, c2, rfl, hd1, hd2, hd3, hd4⟩ := ownsRow_shape hr2; have hE4 := Below.grown hE3 hg2 hE3.size (fun k hk => (hr1.lt k hk).1))))
      have hE5 := HY.out.1.trans hE4
      have hrow2 : MbRow w2.heap.size w4 (.slice p2 (la.length + lb.length) c2) (la ++ lb) := by
        refine ⟨by rw [List.length_append, mbCells_app]; exact hr2, fun e he => ?_⟩
        rcases List.mem_append.1 he with he | he
        · exact (HH.out.2.1.by_ he).ext hE5
        · exact (HH.out.2.2.1.by_ he).ext hE5
      obtain ⟨p3, c3, hv, hm3, -, -, -⟩ := hrow2.mbs
      injection hv with e1 e2 e3
      subst e1
      subst e3
      have HE5 := Lib.hid (And.intro hE5 (HY.out.1.trans hE4))
      have hX4 := HY.out.2.1.ext hE4
      have hY4 := HY.out.2.2.ext hE4
      have HXY := Lib.hid (And.intro hX4 hY4)
      clear hrow hr1 hg1 hn1 hc1 hc2 hc3 hc4 hb1 hE3 hmb3 hr2 hg2 hn2 hd1 hd2 hd3 hd4 hE4 hE5 hrow2 hX4 hY4 HM HY hsza e2
      rw [← List.length_append]
      refine (write_Archive p2 c2 (la ++ lb) w4 hm3 (by rw [List.length_append]; omega) (fun e he => by rcases List.mem_append.1 he with he | he; exact HH.out.2.2.2.1 e he; exact HH.out.2.2.2.2 e he) (HH.out.1.ext HE5.out.1)).mono ?_
      clear hm3
      intro x w5 H
      obtain ⟨v, rfl, hR, hE⟩ := H.out
      rw [HZ.out.2] at hR ⊢
      simp only [if_true] at hR ⊢
      rw [HZ.out.1] at hR
      obtain ⟨zp, zc, rfl, hzb, hzl, hzc, -, -⟩ := hR.shape
      have HF := Lib.hid (And.intro (HE5.out.1.trans hE) (And.intro (HXY.out.1.ext hE) (And.intro (HXY.out.2.ext hE) hzb)))
      have hZl : (X.take (X.length - 1024) ++ Y).length = X.length - 1024 + Y.length := by rw [List.length_append, List.length_take]; omega
      obtain ⟨Z, hZ⟩ : ∃ Z, Z = X.take (X.length - 1024) ++ Y := ⟨_, rfl⟩
      rw [← hZ] at HF hzl hZl ⊢
      have HZ2 := Lib.hid (And.intro hZ hZl)
      clear hR hE H hzb HXY HE5 hZ hZl
      go_wp2_with fail
      apply wp_region_genlG (joVs (.slice zp Z.length zc) (.slice xp X.length xc) (.slice yp Y.length yc) X Y Z xp xc) (JoWI w5) ()
      case hm => kernel_rfl
      case hB => kernel_rfl
      case hlen => exact fun g => rfl
      case hG =>
        intro g
        simp only [AllO]
        refine ⟨?_, ?_, ?_, ?_, ?_, ?_, ?_, ?_, ?_, ?_, ?_, ?_, ?_, ?_, ?_, ?_, ?_, ?_, ?_, ?_, trivial⟩ <;> first | trivial | rfl
      case hds => rfl
      case h0 => exact Ext.drew w5
      case hF =>
        intro g
        simp only [finalF, joVs, Act.put, List.setIfInBounds_toArray, List.set_cons_succ, List.set_cons_zero]
        rfl
      case hstep =>
        simp only [AllO, Nat.zero_add, Nat.reduceAdd]
        refine ⟨?_, ?_, ?_, ?_, ?_, ?_, ?_, ?_, ?_, ?_, ?_, ?_, ?_, ?_, ?_, ?_, ?_, ?_, ?_, ?_, trivial⟩
        all_goals
          intro g L w' hW0 hi hd
          have hW := Lib.hid hW0
          clear hW0
        case refine_1 =>
          refine .inr (.inr ⟨23, #[], w', ?_, ?_⟩)
          · go_simp
          · refine (answers9 w' (HH.out.1.ext (HF.out.1.trans hW.out))).mono ?_
            rintro x w'' ⟨rfl, hE⟩
            exact ⟨_, rfl, g, hW.out.trans hE, fun _ _ => trivial, rfl⟩
        case refine_8 =>
          have ks := run_string_of (P := Tryd.prog) Tryd.underlying22 Tryd.underlying5 Tryd.underlying9 (HF.out.2.2.2.ext hW.out) zc
          refine .inl ⟨_, w', ?_, g, hW.out, fun _ _ => trivial, rfl⟩
          go_simp
        case refine_12 =>
          have kw := IntWalk.i64_in ((X.length : Int) - 1024) (by omega)
          refine .inl ⟨_, w', ?_, g, hW.out, fun _ _ => trivial, rfl⟩
          go_simp
        case refine_13 =>
          have ks := run_cut_to (P := Tryd.prog) Tryd.underlying22 info_u8 .i64 xp X.length xc ((X.length : Int) - 1024) (by omega) (by omega)
          rw [show ((X.length : Int) - 1024).toNat = X.length - 1024 from by omega] at ks
          refine .inl ⟨_, w', ?_, g, hW.out, fun _ _ => trivial, rfl⟩
          go_simp
        case refine_14 =>
          have ks := run_string_of (P := Tryd.prog) Tryd.underlying22 Tryd.underlying5 Tryd.underlying9 ((HF.out.2.1.ext hW.out).take (X.length - 1024)) xc
          rw [show (X.take (X.length - 1024)).length = X.length - 1024 from by rw [List.length_take]; omega] at ks
          refine .inl ⟨_, w', ?_, g, hW.out, fun _ _ => trivial, rfl⟩
          go_simp
        case refine_16 =>
          have ks := run_string_of (P := Tryd.prog) Tryd.underlying22 Tryd.underlying5 Tryd.underlying9 (HF.out.2.2.1.ext hW.out) yc
          refine .inl ⟨_, w', ?_, g, hW.out, fun _ _ => trivial, rfl⟩
          go_simp
        case refine_17 =>
          have q1 : (bs (X.take (X.length - 1024))).size ≤ 10000000000 := by rw [bs_size, List.length_take]; omega
          have q2 : (bs Y).size ≤ 10000000000 := by rw [bs_size]; exact hYl
          have q3 : (bs (X.take (X.length - 1024))).size + (bs Y).size ≤ 9223372036854775807 := by omega
          refine .inl ⟨.string (bs (X.take (X.length - 1024)) ++ bs Y), w', ?_, g, hW.out, fun _ _ => trivial, ?_⟩
          · go_simp
          · rw [bs_app, ← HZ2.out.1]; rfl
        all_goals
          refine .inl ⟨_, w', ?_, g, hW.out, fun _ _ => trivial, rfl⟩
          go_simp
      case hend =>
        intro g L w6 hall' hW
        have HQ := Lib.hid (HF.out.1.trans hW)
        clear hW hall'
        go_wp2
        go_ret
        exact ⟨rfl, HQ.out⟩
theorem writeJoins_walk (w : World) (hw : HW w) (pa : Option Addr) (la : List Me) (ca : Nat) (ha : MbsAt w pa la) (pb : Option Addr) (lb : List Me) (cb : Nat) (hb : MbsAt w pb lb) :
    Calls Tryd.prog 10 #[.slice pa la.length ca, .slice pb lb.length cb] w fun x w' => x = .returned (.bool true) ∧ Ext w w' := by
  cases hla : lightS la with
  | false => exact writeJoins_dark pa pb ca cb la lb w hw ha hb (.inl hla)
  | true =>
    cases hlb : lightS lb with
    | false => exact writeJoins_dark pa pb ca cb la lb w hw ha hb (.inr hlb)
    | true => exact writeJoins_light pa pb ca cb la lb w hw ha hb hla hlb
end Go.Proofs.YtpapbnmacjoihaaDoor
