/- bindle, part HeadQ: contracts of the program, walked. -/
import Derived.Test.YtpapbnmacjoihaaDoorHeadP
namespace Go.Proofs.YtpapbnmacjoihaaDoor
open Go.RowKit Go.Shelf

/-- The header as it is first read. -/
def hd0 (b : List UInt8) : Hd := ⟨untilS (fld b 0 100), untilS (fld b 157 100), b.getD 156 0, 0, 0, 0, 0, 0, false⟩
def HdWI (w0 : World) (b : List UInt8) (g : Nat) (L : Nat → Bool) (w : World) : Prop :=
  Ext w0 w ∧ (L 11 = true → L 10 = true) ∧ (L 10 = true → w0.heap.size ≤ g ∧ HdBlk w g (if L 11 then hd0 b else Hd.zero))
theorem HdWI.quiet {w0 w w' : World} {b : List UInt8} {g : Nat} {L : Nat → Bool} (hW : HdWI w0 b g L w) (hE : Ext w w') (i : Nat) (h10 : i ≠ 10) (h11 : i ≠ 11) : HdWI w0 b g (fun j => if j = i then true else L j) w' := by
  refine ⟨hW.1.trans hE, ?_, ?_⟩
  · simp only [if_neg (Ne.symm h10), if_neg (Ne.symm h11)]; exact hW.2.1
  · simp only [if_neg (Ne.symm h10), if_neg (Ne.symm h11)]; exact fun e => ⟨(hW.2.2 e).1, (hW.2.2 e).2.ext hE⟩
def hdVs (v : Value) (b : List UInt8) (bb o : Nat) (g : Nat) : List Value :=
  [.agg #[.int .i64 0, .int .i64 100], v, .string (bs (untilS (fld b 0 100))), .agg #[.int .i64 157, .int .i64 100], v, .string (bs (untilS (fld b 157 100))), v, .pointer (some ⟨bb, o + 156, none⟩), .int .u8 ((b.getD 156 0).toNat : Int), (hd0 b).val, .pointer (some ⟨g, 0, none⟩), undef]

set_option maxHeartbeats 4000000 in
set_option maxRecDepth 100000 in
theorem head_Parse_go (p : Option Addr) (l : List UInt8) (c : Nat) (w : World) (h : l.length = 512) (hc : l.length ≤ c) (hc2 : c ≤ 9223372036854775807) (hb : By w p l) (hv : HV w)
    (hs1 : (fieldS (fld l 148 8)).2 = true) (hs2 : (fieldS (fld l 148 8)).1 = sumS l) :
    Calls Tryd.prog 13 #[.slice p l.length c] w (ParsePost w l) := by
  have h' : ((l.length : Int) != 512) = false := bne_eq_false_iff_eq.2 (by omega)
  have hs0 : ∀ o, (w.alloc o).cell? ⟨0, 0, none⟩ = some (.int .i64 148) := fun o => (hv.ext (Ext.alloc w o)).sum.1
  have hs1' : ∀ o, (w.alloc o).cell? ⟨0, 1, none⟩ = some (.int .i64 8) := fun o => (hv.ext (Ext.alloc w o)).sum.2
  have hne : ((sumS l : Int) != (sumS l : Int)) = false := by simp
  obtain ⟨bb, o, hp, hcell⟩ := hb.at_ (i := 156) (by omega)
  subst hp
  have HH := Lib.hid h
  have HB := Lib.hid hb
  have HVw := Lib.hid hv
  have Hr : Hid (fieldS (fld l 148 8) = (sumS l, true)) := Prod.ext hs2 hs1
  have HC := Lib.hid hcell
  clear h hb hv hs1 hs2 hcell
  go_enter Tryd.func13, Tryd.ntmps13
  go_wp2_with fail
  refine (span_of 148 8 (some ⟨bb, o, none⟩) l.length c _ (by rw [HH.out]; omega) hc hc2).mono ?_
  rintro e w1 ⟨rfl, hE1⟩
  have HE1 := Lib.hid hE1
  clear hE1
  go_wp2_with fail
  have hfp := field_Parse (cutA (some ⟨bb, o, none⟩) c 148) (c - 148) (fld l 148 8) w1 (by rw [fld_length (by rw [HH.out]; omega), ]; have := HH.out; omega) (by omega) (by rw [fld_length (by rw [HH.out]; omega)]; omega) ((HB.out.ext ((Ext.alloc w _).trans HE1.out)).fld hc 148 8)
  rw [fld_length (by rw [HH.out]; omega), Hr.out] at hfp
  refine hfp.mono ?_
  clear hfp
  rintro e w2 ⟨rfl, hE2⟩
  have hE3 := HE1.out.trans hE2
  have hblk : HdBlk w2 w.heap.size Hd.zero := Ext.heap hE3 (heap_alloc_new w _)
  have HBk := Lib.hid hblk
  have HE2 := Lib.hid ((Ext.alloc w _).trans hE3)
  clear hE2 hE3 hblk
  go_wp2_with fail
  refine (head_total (some ⟨bb, o, none⟩) l c w2 (by rw [HH.out]; omega) (HB.out.ext HE2.out) (HVw.out.ext HE2.out)).mono ?_
  rintro e w3 ⟨rfl, rfl⟩
  go_wp2_with fail
  apply wp_region_genl (hdVs (.slice (some ⟨bb, o, none⟩) l.length c) l bb o) (HdWI w2 l) 0
  case hm => kernel_rfl
  case hB => kernel_rfl
  case hlen => exact fun g => rfl
  case hds => rfl
  case h0 => exact ⟨Ext.drew w2, fun e => (by cases e), fun e => (by cases e)⟩
  case hF =>
    intro g
    simp only [finalF, hdVs, Act.put, List.setIfInBounds_toArray, List.set_cons_succ, List.set_cons_zero]
    rfl
  case hstep =>
    simp only [AllO, Nat.zero_add, Nat.reduceAdd]
    refine ⟨?_, ?_, ?_, ?_, ?_, ?_, ?_, ?_, ?_, ?_, ?_, ?_, trivial⟩
    all_goals
      intro g L w' hW0 hi hd
      have V := HVw.out.ext (HE2.out.trans hW0.1)
      obtain ⟨vn0, vn1⟩ := V.name
      obtain ⟨vl0, vl1⟩ := V.link
      have HV' := Lib.hid V
      have hcell := Ext.cell (HE2.out.trans hW0.1) HC.out
      have hW := Lib.hid hW0
      clear hW0 V
    · refine .inl ⟨_, w', ?_, g, hW.out.quiet (Ext.refl _) _ (by decide) (by decide), fun _ _ => rfl, rfl⟩
      go_simp
    · refine .inl ⟨_, w', ?_, g, hW.out.quiet (Ext.refl _) _ (by decide) (by decide), fun _ _ => rfl, rfl⟩
      go_simp
    · refine .inr (.inr ⟨32, #[.agg #[.int .i64 0, .int .i64 100], .slice (some ⟨bb, o, none⟩) l.length c], w', .string (bs (untilS (fld l 0 100))), ?_, ?_⟩)
      · go_simp
      · refine (span_text 0 100 _ l c w' (by rw [HH.out]; omega) hc hc2 (by omega) (HB.out.ext (HE2.out.trans hW.out.1)) HV'.out).mono ?_
        rintro e w'' ⟨rfl, hE⟩
        exact ⟨rfl, g, hW.out.quiet hE _ (by decide) (by decide), fun _ _ => rfl, rfl⟩
    · refine .inl ⟨_, w', ?_, g, hW.out.quiet (Ext.refl _) _ (by decide) (by decide), fun _ _ => rfl, rfl⟩
      go_simp
    · refine .inl ⟨_, w', ?_, g, hW.out.quiet (Ext.refl _) _ (by decide) (by decide), fun _ _ => rfl, rfl⟩
      go_simp
    · refine .inr (.inr ⟨32, #[.agg #[.int .i64 157, .int .i64 100], .slice (some ⟨bb, o, none⟩) l.length c], w', .string (bs (untilS (fld l 157 100))), ?_, ?_⟩)
      · go_simp
      · refine (span_text 157 100 _ l c w' (by rw [HH.out]; omega) hc hc2 (by omega) (HB.out.ext (HE2.out.trans hW.out.1)) HV'.out).mono ?_
        rintro e w'' ⟨rfl, hE⟩
        exact ⟨rfl, g, hW.out.quiet hE _ (by decide) (by decide), fun _ _ => rfl, rfl⟩
    · refine .inl ⟨_, w', ?_, g, hW.out.quiet (Ext.refl _) _ (by decide) (by decide), fun _ _ => rfl, rfl⟩
      go_simp
    · have hlt : (156 : Int) < (l.length : Int) := by have := HH.out; omega
      refine .inl ⟨_, w', ?_, g, hW.out.quiet (Ext.refl _) _ (by decide) (by decide), fun _ _ => rfl, rfl⟩
      go_simp
    · refine .inl ⟨_, w', ?_, g, hW.out.quiet (Ext.refl _) _ (by decide) (by decide), fun _ _ => rfl, rfl⟩
      go_simp
    · refine .inl ⟨_, w', ?_, g, hW.out.quiet (Ext.refl _) _ (by decide) (by decide), fun _ _ => rfl, rfl⟩
      go_simp
      rfl
    · have h11 : L 11 = false := by
        cases hh : L 11 with
        | false => rfl
        | true => have := hW.out.2.1 hh; rw [hi] at this; cases this
      refine .inl ⟨_, w'.alloc (.cells Hd.zero.cells 27), ?_, w'.heap.size, ⟨hW.out.1.trans (Ext.alloc _ _), ?_, ?_⟩, ?_, rfl⟩
      · go_simp
        rfl
      · intro e; simp
      · intro _
        refine ⟨hW.out.1.size, ?_⟩
        rw [if_neg (by simp [h11])]
        exact heap_alloc_new _ _
      · intro j hj
        have : j ≠ 10 := fun e => by rw [e, hi] at hj; cases hj
        rcases j with _ | _ | _ | _ | _ | _ | _ | _ | _ | _ | _ | _ | j <;> first | rfl | exact absurd rfl this
    · have h10 : L 10 = true := hd ⟨10, .data⟩ (by simp) rfl
      have hB := (hW.out.2.2 h10).2
      rw [if_neg (by rw [hi]; decide)] at hB
      obtain ⟨q0, q1, q2, q3, q4, q5, q6, q7, q8⟩ := hB.cells
      have qf := hB.frozen
      obtain ⟨w1', hw1, hB1, hg1⟩ := hB.put_ex (hd0 l)
      have hE1 : Ext w2 w1' := Below.grown hW.out.1 hg1 hW.out.1.size (fun k hk => by cases hk; exact (hW.out.2.2 h10).1)
      have HX := Lib.hid (And.intro hB1 hE1)
      have HY := Lib.hid hw1
      clear hB hB1 hE1 hg1 hw1
      refine .inr (.inl ⟨undef, w1', ?_, rfl, g, ⟨HX.out.2, ?_, ?_⟩, fun _ _ => rfl, rfl⟩)
      rotate_left
      · exact fun _ => by simp [h10]
      · intro _
        refine ⟨(hW.out.2.2 h10).1, ?_⟩
        rw [if_pos (by simp)]
        exact HX.out.1
      · rw [← HY.out]
        unfold hd0 Hd.val Hd.cells
        go_simp
  case hend =>
    intro g L w4 hall' hW
    have hall : ∀ i, i < 12 → L i = true := hall'
    obtain ⟨hEw, _, hX⟩ := hW
    have hX' := hX (hall 10 (by decide))
    rw [if_pos (hall 11 (by decide))] at hX'
    have hE4 := HE2.out.trans hEw
    have HG := Lib.hid (And.intro hX'.2 hE4)
    have HGg := Lib.hid (And.intro hX'.1 hEw)
    have HBk4 := Lib.hid (HdBlk.ext HBk.out hEw)
    have V := HVw.out.ext hE4
    obtain ⟨vm0, vm1⟩ := V.magic
    clear hX hX' hall hall' hEw hE4 V
    go_wp2_with fail
    refine (span_of 257 8 (some ⟨bb, o, none⟩) l.length c _ (by rw [HH.out]; omega) hc hc2).mono ?_
    rintro e w5 ⟨rfl, hE5⟩
    have ks := run_string_of (P := Tryd.prog) Tryd.underlying22 Tryd.underlying5 Tryd.underlying9 ((HB.out.ext (HG.out.2.trans hE5)).fld hc 257 8) (c - 257)
    rw [fld_length (by rw [HH.out]; omega)] at ks
    have HE5 := Lib.hid hE5
    obtain ⟨mg, hmg⟩ : ∃ mg, mg = fld l 257 8 := ⟨_, rfl⟩
    rw [← hmg] at ks
    have Hmg := Lib.hid hmg
    clear hE5 hmg
    have hbp : HV w5 := HVw.out.ext (HG.out.2.trans HE5.out)
    obtain ⟨vp0, vp1⟩ := hbp.prefix_
    have HV5 := Lib.hid hbp
    clear hbp vm0 vm1
    go_upto_block 0 with (fail)
    go_cut [6] (fun s6 wc => s6 = .pointer (some ⟨g, 0, none⟩) ∧ Hid (HdBlk wc g { hd0 l with name := nameS l, gnu := decide (fld l 257 8 = gnuL) } ∧ Ext w wc ∧ Ext w2 wc ∧ (fld l 257 8 = posixL ∨ fld l 257 8 = gnuL)))
    case first =>
      by_cases c1 : mg = posixL
      · have hq1 : ((bs mg).toList == [117, 115, 116, 97, 114, 0, 48, 48]) = true := by rw [bs_toL, c1]; rfl
        have C1 := Lib.hid c1
        clear c1
        obtain ⟨pr, hpr⟩ : ∃ pr, pr = untilS (fld l 345 155) := ⟨_, rfl⟩
        have hprl : (bs pr).size ≤ 155 := by
          rw [bs_size, hpr]
          exact Nat.le_trans (untilS_length _) (by rw [fld_length (by rw [HH.out]; omega)]; omega)
        have hnl : (bs (hd0 l).name).size ≤ 100 := by
          rw [bs_size]
          exact Nat.le_trans (untilS_length _) (by rw [fld_length (by rw [HH.out]; omega)]; omega)
        have Hpr := Lib.hid hpr
        by_cases c2 : pr = []
        · have hq2 : (bs pr).toList.isEmpty = true := by rw [bs_toL, c2]; rfl
          have C2 := Lib.hid c2
          clear c2 hpr
          go_wp2_with fail
          have hsp := span_text 345 155 (some ⟨bb, o, none⟩) l c w5 (by rw [HH.out]; omega) hc hc2 (by omega) (HB.out.ext (HG.out.2.trans HE5.out)) HV5.out
          rw [← Hpr.out] at hsp
          refine hsp.mono ?_
          clear hsp
          rintro e w6 ⟨rfl, hE6⟩
          have HE6 := Lib.hid hE6
          clear hE6
          go_wp2_with fail
          go_meet
          refine ⟨rfl, ?_, HG.out.2.trans (HE5.out.trans HE6.out), HGg.out.2.trans (HE5.out.trans HE6.out), .inl (by rw [← Hmg.out]; exact C1.out)⟩
          have e1 : nameS l = (hd0 l).name := by unfold nameS; rw [if_neg (fun h => h.2 (by rw [← Hpr.out]; exact C2.out))]; rfl
          have e2 : decide (fld l 257 8 = gnuL) = (hd0 l).gnu := by rw [← Hmg.out, C1.out]; rfl
          rw [e1, e2]
          exact HdBlk.ext HG.out.1 (HE5.out.trans HE6.out)
        · have hq2 : (bs pr).toList.isEmpty = false := by
            rw [bs_toL]
            cases pr with
            | nil => exact absurd rfl c2
            | cons _ _ => rfl
          have C2 := Lib.hid c2
          clear c2 hpr
          go_wp2_with fail
          have hsp := span_text 345 155 (some ⟨bb, o, none⟩) l c w5 (by rw [HH.out]; omega) hc hc2 (by omega) (HB.out.ext (HG.out.2.trans HE5.out)) HV5.out
          rw [← Hpr.out] at hsp
          refine hsp.mono ?_
          clear hsp
          rintro e w6 ⟨rfl, hE6⟩
          have hblk := HdBlk.ext HG.out.1 (HE5.out.trans hE6)
          have q0 := hblk.cells.1
          have qf := hblk.frozen
          have HE6 := Lib.hid (And.intro hE6 hblk)
          clear hE6 hblk
          go_wp2_with fail
          go_meet
          have hgw : w.heap.size ≤ g := Nat.le_trans HE2.out.size HGg.out.1
          refine ⟨rfl, ?_, (HG.out.2.trans (HE5.out.trans HE6.out.1)).setCell hgw _, (HGg.out.2.trans (HE5.out.trans HE6.out.1)).setCell HGg.out.1 _, .inl (by rw [← Hmg.out]; exact C1.out)⟩
          have e1 : nameS l = pr ++ [47] ++ (hd0 l).name := by unfold nameS; rw [if_pos ⟨by rw [← Hmg.out]; exact C1.out, by rw [← Hpr.out]; exact C2.out⟩, ← Hpr.out]; rfl
          have e2 : decide (fld l 257 8 = gnuL) = (hd0 l).gnu := by rw [← Hmg.out, C1.out]; rfl
          have e3 : bs pr ++ (⟨#[47]⟩ : ByteArray) ++ bs (hd0 l).name = bs (pr ++ [47] ++ (hd0 l).name) := by
            rw [show (⟨#[47]⟩ : ByteArray) = bs [47] from rfl, bs_app, bs_app]
          rw [e1, e2, e3]
          exact HdBlk.set_name HE6.out.2 _
      · have hq1 : ((bs mg).toList == [117, 115, 116, 97, 114, 0, 48, 48]) = false := by rw [bs_toL, beq_eq_false_iff_ne]; exact c1
        have hblk := HdBlk.ext HG.out.1 HE5.out
        by_cases c2 : mg = gnuL
        · have hq2 : ((bs mg).toList == [117, 115, 116, 97, 114, 32, 32, 0]) = true := by rw [bs_toL, c2]; rfl
          have q8 := hblk.cells.2.2.2.2.2.2.2.2
          have qf := hblk.frozen
          have C1 := Lib.hid c1
          have C2 := Lib.hid c2
          have HX := Lib.hid hblk
          clear c1 c2 hblk
          go_wp2_with fail
          go_meet
          have hgw : w.heap.size ≤ g := Nat.le_trans HE2.out.size HGg.out.1
          refine ⟨rfl, ?_, (HG.out.2.trans HE5.out).setCell hgw _, (HGg.out.2.trans HE5.out).setCell HGg.out.1 _, .inr (by rw [← Hmg.out]; exact C2.out)⟩
          have e1 : nameS l = (hd0 l).name := by unfold nameS; rw [if_neg (fun h => C1.out (by rw [Hmg.out]; exact h.1))]; rfl
          have e2 : decide (fld l 257 8 = gnuL) = true := by rw [← Hmg.out, C2.out]; rfl
          rw [e1, e2]
          exact HdBlk.set_gnu HX.out _
        · have hq2 : ((bs mg).toList == [117, 115, 116, 97, 114, 32, 32, 0]) = false := by rw [bs_toL, beq_eq_false_iff_ne]; exact c2
          have hz := HdBlk.ext HBk4.out HE5.out
          obtain ⟨q0, q1, q2, q3, q4, q5, q6, q7, q8⟩ := hz.cells
          have qf := hz.frozen
          have e0 : parseS l = (Hd.zero, 9) := by
            unfold parseS
            rw [if_neg (by have := HH.out; omega), if_neg (by rw [Hr.out]; simp), if_pos (by rw [← Hmg.out]; exact fun h => h.elim c1 c2)]
          have E0 := Lib.hid e0
          clear c1 c2 hblk hz e0
          go_wp2
          refine bodyPost_ret (v := .tuple #[Hd.zero.val, .int .i64 9]) ?_ rfl ⟨by rw [E0.out]; rfl, ?_⟩
          · simp [results, Tryd.results13, go_sem, q0, q1, q2, q3, q4, q5, q6, q7, q8]
            rfl
          · exact (HG.out.2.trans HE5.out).setHd
    case rest =>
      obtain ⟨rfl, Hc⟩ := hcut
      have q2 := Hc.out.1.cells.2.2.1
      have qf := Hc.out.1.frozen
      obtain ⟨kd, hkd⟩ : ∃ kd, kd = l.getD 156 0 := ⟨_, rfl⟩
      have q2' : wc.cell? ⟨g, 2, none⟩ = some (.int .u8 (kd.toNat : Int)) := by rw [hkd]; exact q2
      have Hkd := Lib.hid hkd
      clear q2 hkd
      obtain ⟨wk, rfl⟩ : ∃ wk, wk = wc := ⟨_, rfl⟩
      go_upto_if 63 with (fail)
      go_cut [6] (fun s6 wd => s6 = .pointer (some ⟨g, 0, none⟩) ∧ Hid (HdBlk wd g { hd0 l with name := nameS l, kind := kindS l, gnu := decide (fld l 257 8 = gnuL) } ∧ Ext w wd ∧ Ext w2 wd))
      case first =>
        by_cases c1 : kd = 0
        · subst c1
          go_wp2_with fail
          go_meet
          have hgw : w.heap.size ≤ g := Nat.le_trans HE2.out.size HGg.out.1
          refine ⟨rfl, ?_, Hc.out.2.1.setCell hgw _, Hc.out.2.2.1.setCell HGg.out.1 _⟩
          have e1 : kindS l = 48 := by unfold kindS; rw [← Hkd.out]; rfl
          rw [e1]
          exact HdBlk.set_kind Hc.out.1 48
        · have c1' : ((kd.toNat : Int) == 0) = false := beq_eq_false_iff_ne.2 fun e => c1 (UInt8.toNat_inj.1 (by simpa using e))
          have C1 := Lib.hid c1
          clear c1
          go_wp2_with fail
          go_meet
          refine ⟨rfl, ?_, Hc.out.2.1, Hc.out.2.2.1⟩
          have e1 : kindS l = (hd0 l).kind := by unfold kindS; rw [← Hkd.out, if_neg C1.out, Hkd.out]; rfl
          rw [e1]
          exact Hc.out.1
      case rest =>
        obtain ⟨rfl, HDD⟩ := hcut
        have V := HVw.out.ext HDD.out.2.1
        have HVd := Lib.hid V
        clear V q2' qf
        go_wp2_with fail
        refine (head_numbers g wc HVd.out).mono ?_
        rintro e wn ⟨rfl, hM, hEn⟩
        obtain ⟨wi, left0, cnt0, hrun, hR, hleft, hgi, hszi⟩ := hM.range spanK Tryd.underlying61
        have hEi : Ext wc wi := hEn.trans (Below.grown (Ext.refl wn) hgi (Nat.le_refl _) (fun k hk => by cases hk))
        have hgc := HDD.out.1.lt
        have hrr : wc.heap.size < wn.heap.size := hM.lt
        obtain ⟨b, hb⟩ : ∃ b, b = wc.heap.size := ⟨_, rfl⟩
        obtain ⟨r, hr⟩ : ∃ r, r = wn.heap.size := ⟨_, rfl⟩
        have HR := Lib.hid (And.intro hR (And.intro hleft (And.intro hEi (And.intro hgc hrr))))
        clear hM hR hleft hgi hEi hgc hrr hszi hEn hb hr
        go_wp2_with fail
        go_loopw [5] (fun _ wr => Hid (∃ C left cnt, wr.heap[g]? = some (.cells C 27 (0, 0)) ∧ NumCells l left C ∧ Rg Tryd.prog 58 wr wc.heap.size wn.heap.size 5 (numF g) left cnt ∧ Ext w wr ∧ Ext w2 wr)) (fun _ wr => wr.rangeLeft wc.heap.size wn.heap.size)
        case atStart =>
          refine ⟨_, left0, cnt0, Ext.heap HR.out.2.2.1 HDD.out.1, NumCells.start l left0 (fun a n i hm => ?_) 0 0 0 0 0, HR.out.1, HDD.out.2.1.trans HR.out.2.2.1, HDD.out.2.2.trans HR.out.2.2.1⟩
          rw [HR.out.2.1 _ (by unfold kl; trivial)]
          exact num_left hm
        case round =>
          obtain ⟨C, left, cnt, hC, hN, hG, hE, hE2⟩ := hrel
          have hms := hG.left_eq
          rcases hG.next spanK 0 with ⟨h0, hl, hnx⟩ | ⟨key, v, x, w', cnt', hk, hl, hf, hnx, hG', hlt, hg', hsz', hen⟩
          · obtain ⟨eC, hok⟩ := hN.done hl
            have hbg : HdBlk wr g (headS l) := by unfold HdBlk; rw [hC, eC]
            obtain ⟨q0, q1, q2, q3, q4, q5, q6, q7, q8⟩ := hbg.cells
            have hz := HdBlk.ext HBk.out hE2
            obtain ⟨z0, z1, z2, z3, z4, z5, z6, z7, z8⟩ := hz.cells
            have zf := hz.frozen
            have e0 : parseS l = (headS l, 0) := by
              unfold parseS
              rw [if_neg (by have := HH.out; omega), if_neg (by rw [Hr.out]; simp), if_neg (fun h => h Hc.out.2.2.2), if_neg (by rw [hok]; simp)]
            have E0 := Lib.hid e0
            have HEw := Lib.hid hE
            obtain ⟨hh, hhh⟩ : ∃ hh, hh = headS l := ⟨_, rfl⟩
            rw [← hhh] at q0 q1 q2 q3 q4 q5 q6 q7 q8
            have Hhh := Lib.hid hhh
            clear eC hbg hz e0 hC hN hG hE hE2 hl hok hms h0 hhh
            go_wp2
            refine bodyPost_ret (v := .tuple #[hh.val, .int .i64 0]) ?_ rfl ⟨by rw [E0.out, ← Hhh.out]; rfl, ?_⟩
            · simp [results, Tryd.results13, go_sem, z0, z1, z2, z3, z4, z5, z6, z7, z8]
              rfl
            · exact HEw.out.setHd
          · obtain ⟨a, n, ii, hm, rfl, rfl, rfl⟩ := num_cases hk hf
            obtain ⟨bd1, bd2, bd3, bd4, bd5⟩ := flds_bd hm
            have hrw : w.heap.size ≤ wn.heap.size := Nat.le_trans HDD.out.2.1.size (Nat.le_of_lt HR.out.2.2.2.2)
            have hrw2 : w2.heap.size ≤ wn.heap.size := Nat.le_trans HDD.out.2.2.size (Nat.le_of_lt HR.out.2.2.2.2)
            have hgr : g ≠ wn.heap.size := by have := HR.out.2.2.2; omega
            have hgb : g ≠ wc.heap.size := by have := HR.out.2.2.2; omega
            have hE' : Ext w w' := Below.grown hE hg' hE.size (fun k hk => by cases hk; exact hrw)
            have hE2' : Ext w2 w' := Below.grown hE2 hg' hE2.size (fun k hk => by cases hk; exact hrw2)
            have hC' : w'.heap[g]? = some (.cells C 27 (0, 0)) := by
              rw [hg'.block g (Array.getElem?_eq_some_iff.1 hC).1 (by intro e; cases e; exact hgr rfl)]; exact hC
            have HK := Lib.hid (And.intro hm (And.intro hN (And.intro hG' (And.intro hE' (And.intro hE2' (And.intro hC' (And.intro hlt (And.intro hms (And.intro hgr hgb)))))))))
            simp only [spanV, ptrV] at hnx hen
            clear hm hN hG' hE' hE2' hC' hlt hms hgr hgb hrw hrw2 hC hG hE hE2 hk hl hf hg' hsz'
            go_wp2_with fail
            refine (span_of a n (some ⟨bb, o, none⟩) l.length c _ (by rw [HH.out]; omega) hc hc2).mono ?_
            rintro e w6 ⟨rfl, hE6⟩
            have HE6 := Lib.hid hE6
            clear hE6
            go_wp2_with fail
            have hE6' := (Ext.alloc w' _).trans HE6.out
            have hfp := field_Parse (cutA (some ⟨bb, o, none⟩) c a) (c - a) (fld l a n) w6 (by rw [fld_length (by rw [HH.out]; omega)]; have := HH.out; omega) (by omega) (by rw [fld_length (by rw [HH.out]; omega)]; omega) ((HB.out.ext (HK.out.2.2.2.1.trans hE6')).fld hc a n)
            rw [fld_length (by rw [HH.out]; omega)] at hfp
            obtain ⟨rr, hrr⟩ : ∃ rr, rr = fieldS (fld l a n) := ⟨_, rfl⟩
            rw [← hrr] at hfp
            refine hfp.mono ?_
            clear hfp
            rintro e w7 ⟨rfl, hE7⟩
            have hE7' := hE6'.trans hE7
            have hC7 := Ext.heap hE7' HK.out.2.2.2.2.2.1
            have hCsz : ii < C.size := by have := HK.out.2.1.1; omega
            have qg := cell_of hC7 (i := ii) (v := C[ii]) (by simp [hCsz])
            have qf := frozen_of hC7 ii
            have HC7 := Lib.hid (And.intro hC7 hE7')
            have Hrr := Lib.hid hrr
            clear hC7 hE7 hE7' hE6' hrr
            rcases rr with ⟨r1, _ | _⟩
            · have hz := HdBlk.ext HBk.out (HK.out.2.2.2.2.1.trans HC7.out.2)
              have hgz : g ≠ w.heap.size := by have := HGg.out.1; have := HBk.out.lt; omega
              have hz' := HdBlk.other (p := ⟨g, ii, none⟩) hz hgz (.int .i64 (r1 : Int))
              obtain ⟨z0, z1, z2, z3, z4, z5, z6, z7, z8⟩ := hz'.cells
              have zf := hz'.frozen
              have hno : ¬ numOk l = true := fun h => by
                have := (numOk_iff l).1 h a n ii HK.out.1
                rw [← Hrr.out] at this
                cases this
              have e0 : parseS l = (Hd.zero, 4) := by
                unfold parseS
                rw [if_neg (by have := HH.out; omega), if_neg (by rw [Hr.out]; simp), if_neg (fun h => h Hc.out.2.2.2), if_pos hno]
              have E0 := Lib.hid e0
              have hgw : w.heap.size ≤ g := Nat.le_trans HE2.out.size HGg.out.1
              have HEe := Lib.hid (Ext.setCell (HK.out.2.2.2.1.trans HC7.out.2) (p := ⟨g, ii, none⟩) hgw (.int .i64 (r1 : Int)))
              clear hz hz' hno e0 hgw hgz
              go_wp2
              refine bodyPost_ret (v := .tuple #[Hd.zero.val, .int .i64 4]) ?_ rfl ⟨by rw [E0.out]; rfl, ?_⟩
              · simp [results, Tryd.results13, go_sem, z0, z1, z2, z3, z4, z5, z6, z7, z8]
                rfl
              · exact HEe.out.setHd
            · go_wp2
              go_roundw
              case rel =>
                have hgw : w.heap.size ≤ g := Nat.le_trans HE2.out.size HGg.out.1
                refine ⟨C.setIfInBounds ii (.int .i64 (r1 : Int)), fun x => left x && !x.sameKey (kl a n), cnt', heap_set1 HC7.out.1 ii _, ?_, ?_, (HK.out.2.2.2.1.trans HC7.out.2).setCell hgw _, (HK.out.2.2.2.2.1.trans HC7.out.2).setCell HGg.out.1 _⟩
                · have := HK.out.2.1.set HK.out.1 (by rw [← Hrr.out])
                  rw [← Hrr.out] at this
                  exact this
                · exact (HK.out.2.2.1.ext HC7.out.2).kept (grown_set (World.grownBy.refl _ (some g)) ii _) (by intro e; cases e; exact HK.out.2.2.2.2.2.2.2.2.2 rfl) (by intro e; cases e; exact HK.out.2.2.2.2.2.2.2.2.1 rfl)
              case measure =>
                have h1 := ((HK.out.2.2.1.ext HC7.out.2).kept (grown_set (World.grownBy.refl _ (some g)) ii (.int .i64 (r1 : Int))) (by intro e; cases e; exact HK.out.2.2.2.2.2.2.2.2.2 rfl) (by intro e; cases e; exact HK.out.2.2.2.2.2.2.2.2.1 rfl)).left_eq
                rw [h1, HK.out.2.2.2.2.2.2.2.1]
                exact HK.out.2.2.2.2.2.2.1

theorem head_Parse (p : Option Addr) (l : List UInt8) (c : Nat) (w : World) (hc : l.length ≤ c) (hc2 : c ≤ 9223372036854775807) (hb : By w p l) (hv : HV w) :
    Calls Tryd.prog 13 #[.slice p l.length c] w (ParsePost w l) := by
  by_cases h : l.length = 512
  · by_cases hs : (fieldS (fld l 148 8)).2 = true ∧ (fieldS (fld l 148 8)).1 = sumS l
    · exact head_Parse_go p l c w h hc hc2 hb hv hs.1 hs.2
    · exact head_Parse_sum p l c w h hc hc2 hb hv hs
  · exact head_Parse_arg p l c w h
end Go.Proofs.YtpapbnmacjoihaaDoor
