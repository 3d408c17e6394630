/- bindleref01.Head: the good way, once for each magic (printed by genG.py). -/
import Derived.Test.YtpapbnmacjoihaaDoorRefF
namespace Go.Proofs.YtpapbnmacjoihaaDoor
open Go.RowKit Go.Shelf

def hdG (l : List UInt8) (gnu : Bool) : Hd := ⟨untilS (fld l 0 100), untilS (fld l 157 100), l.getD 156 0, 0, 0, 0, 0, 0, gnu⟩
def hdGVs (v : Value) (l : List UInt8) (gnu : Bool) (mg : ByteArray) (s0 s1 : Value) (bb o : Nat) (g : Nat) : List Value :=
  [.string mg, .bool gnu, v, .pointer (some ⟨bb, o + 156, none⟩), .int .u8 ((l.getD 156 0).toNat : Int), v, s0, .string (bs (untilS (fld l 0 100))), v, s1, .string (bs (untilS (fld l 157 100))), (hdG l gnu).val, .pointer (some ⟨g, 0, none⟩), undef]
def hdF (l : List UInt8) (gnu : Bool) : Hd := { hdG l gnu with kind := kindS l, name := nameS l }
/-- The first k numbers. -/
def numA (l : List UInt8) (k : Nat) : Array Value := ((flds.take k).map fun e => Value.int .i64 ((fieldS (fld l e.1 e.2.1)).1 : Int)).toArray ++ Array.replicate (5 - k) (.int .i64 0)
theorem numA_at (l : List UInt8) {k : Nat} (h : k < 5) : (numA l k)[k]? = some (.int .i64 0) := by
  match k, h with
  | 0, _ => rfl
  | 1, _ => rfl
  | 2, _ => rfl
  | 3, _ => rfl
  | 4, _ => rfl
theorem numA_set (l : List UInt8) {k a m i : Nat} (h : flds[k]? = some (a, m, i)) : (numA l k).setIfInBounds k (.int .i64 ((fieldS (fld l a m)).1 : Int)) = numA l (k + 1) := by
  have hk : k < 5 := by have := (List.getElem?_eq_some_iff.1 h).1; simpa [flds] using this
  match k, hk with
  | 0, _ => cases h; rfl
  | 1, _ => cases h; rfl
  | 2, _ => cases h; rfl
  | 3, _ => cases h; rfl
  | 4, _ => cases h; rfl
def plcA (p : Option Addr) (c : Nat) : Array Value := #[.slice (cutA p c 100) 8 (c - 100), .slice (cutA p c 108) 8 (c - 108), .slice (cutA p c 116) 8 (c - 116), .slice (cutA p c 136) 12 (c - 136), .slice (cutA p c 124) 12 (c - 124)]
theorem plcA_at {p : Option Addr} {c k a m i : Nat} (h : flds[k]? = some (a, m, i)) : (plcA p c)[k]? = some (.slice (cutA p c a) m (c - a)) := by
  have hk : k < 5 := by have := (List.getElem?_eq_some_iff.1 h).1; simpa [flds] using this
  match k, hk with
  | 0, _ => cases h; rfl
  | 1, _ => cases h; rfl
  | 2, _ => cases h; rfl
  | 3, _ => cases h; rfl
  | 4, _ => cases h; rfl
def plcVs (v : Value) (p : Option Addr) (c : Nat) (g : Nat) : List Value :=
  [v, .slice (cutA p c 100) 8 (c - 100), v, .slice (cutA p c 108) 8 (c - 108), v, .slice (cutA p c 116) 8 (c - 116), v, .slice (cutA p c 136) 12 (c - 136), v, .slice (cutA p c 124) 12 (c - 124), .slice (some ⟨g, 0, none⟩) 5 5, .slice (some ⟨g, 0, none⟩) 5 5]
/-- A row that a region makes at its operation i, and assigns at s. -/
def MkRowI (w0 : World) (cs : Array Value) (e : TypeId) (i s : Nat) (g : Nat) (L : Nat → Bool) (w : World) : Prop :=
  Ext w0 w ∧ (L s = true → L i = true) ∧ (L i = true → w0.heap.size ≤ g ∧ w.heap[g]? = some (.cells cs e (0, 0)))
theorem MkRowI.quiet {w0 w w' : World} {cs : Array Value} {e : TypeId} {i s g : Nat} {L : Nat → Bool} (hW : MkRowI w0 cs e i s g L w) (hE : Ext w w') (k : Nat) (hk : k ≠ i) (hs : k = s → L i = true) : MkRowI w0 cs e i s g (fun j => if j = k then true else L j) w' := by
  refine ⟨hW.1.trans hE, ?_, ?_⟩
  · simp only [if_neg (Ne.symm hk)]
    intro h
    by_cases e : s = k
    · exact hs e.symm
    · rw [if_neg e] at h; exact hW.2.1 h
  · simp only [if_neg (Ne.symm hk)]
    exact fun e => ⟨(hW.2.2 e).1, Ext.heap hE (hW.2.2 e).2⟩

set_option maxHeartbeats 16000000 in
set_option maxRecDepth 100000 in
theorem ref_Head_posix0 (p : Option Addr) (l : List UInt8) (c : Nat) (w : World) (h : l.length = 512) (hc : l.length ≤ c) (hc2 : c ≤ 9223372036854775807) (hb : By w p l)
    (hs1 : (fieldS (fld l 148 8)).2 = true) (hs2 : (fieldS (fld l 148 8)).1 = sumS l) (ht : fld l 257 8 = posixL) (hp0 : untilS (fld l 345 155) = []) :
    Calls Tryd.prog 14 #[.slice p l.length c] w (ParsePost w l) := by
  have h' : ((l.length : Int) != 512) = false := bne_eq_false_iff_eq.2 (by omega)
  have hrf : rfS (fld l 148 8) = (sumS l, true) := by
    rw [fieldS_rf] at hs1 hs2
    unfold keepN at hs1 hs2
    simp only at hs1 hs2
    rw [if_pos hs1] at hs2
    exact Prod.ext hs2 hs1
  have HF : Hid (∀ W, Res w W → Calls Tryd.prog 34 #[.slice (cutA p c 148) 8 (c - 148)] W fun e w' => e = .returned (.tuple #[.int .i64 (sumS l), .bool true]) ∧ Res w w') := by
    intro W hW
    have hfp := ref_Field (cutA p c 148) (fld l 148 8) (c - 148) W (by rw [fld_length (by omega)]; omega) (by rw [fld_length (by omega)]; omega) (by omega) ((hb.ext hW.2).fld hc 148 8) (by rw [fld_length (by omega)]; omega)
    rw [fld_length (by omega), hrf] at hfp
    refine hfp.mono ?_
    rintro e w' ⟨rfl, rfl⟩
    exact ⟨rfl, hW⟩
  have HS : Hid (∀ W, Res w W → Calls Tryd.prog 21 #[.slice p l.length c] W fun e w' => e = .returned (.int .i64 (sumS l)) ∧ Res w w') := by
    intro W hW
    have hsm := ref_Sum p l c W h (hb.ext hW.2)
    rw [← h] at hsm
    refine hsm.mono ?_
    rintro e w' ⟨rfl, rfl⟩
    exact ⟨rfl, hW⟩
  have k148 := cut_mid 148 8 p c (by omega) l.length
  rw [show ((148 : Nat) : Int) + ((8 : Nat) : Int) = 156 from rfl, show ((148 : Nat) : Int) = 148 from rfl] at k148
  have k257 := cut_mid 257 8 p c (by omega) l.length
  rw [show ((257 : Nat) : Int) + ((8 : Nat) : Int) = 265 from rfl, show ((257 : Nat) : Int) = 257 from rfl] at k257
  have hne : ((sumS l : Int) != (sumS l : Int)) = false := by simp
  obtain ⟨bb, o, hp, hcell⟩ := hb.at_ (i := 156) (by omega)
  subst hp
  have HB := Lib.hid hb
  have HH := Lib.hid h
  have HC := Lib.hid hcell
  obtain ⟨mg, hmg⟩ : ∃ mg, mg = fld l 257 8 := ⟨_, rfl⟩
  rw [← hmg] at ht
  have hq1 : ((bs mg).toList == [117, 115, 116, 97, 114, 0, 48, 48]) = true := by rw [bs_toL, ht]; rfl
  have hq2 : ((bs mg).toList == [117, 115, 116, 97, 114, 32, 32, 0]) = false := by rw [bs_toL, ht]; decide
  have hgn : decide (fld l 257 8 = gnuL) = false := by rw [← hmg, ht]; decide
  have Hht := Lib.hid (And.intro ht hgn)
  have Hmg := Lib.hid hmg
  have Hsum := Lib.hid (And.intro hs1 hs2)
  obtain ⟨pr, hpr⟩ : ∃ pr, pr = untilS (fld l 345 155) := ⟨_, rfl⟩
  have hpq : (bs pr).toList.isEmpty = true := by rw [bs_toL, hpr, hp0]; rfl
  have Hp0 := Lib.hid hp0
  clear hp0
  have hprl : (bs pr).size ≤ 155 := by rw [bs_size, hpr]; exact Nat.le_trans (untilS_length _) (by rw [fld_length (by omega)]; exact Nat.le_refl _)
  have hnml : (bs (untilS (fld l 0 100))).size ≤ 100 := by rw [bs_size]; exact Nat.le_trans (untilS_length _) (by rw [fld_length (by omega)]; exact Nat.le_refl _)
  have Hpr := Lib.hid hpr
  clear h hb hs1 hs2 hrf ht hmg hcell hgn hpr
  go_enter Tryd.func14, Tryd.ntmps14
  go_wp2_with fail
  refine (HF.out _ (Res.made w)).mono ?_
  rintro e w2 ⟨rfl, hR⟩
  have HR := Lib.hid hR
  clear hR
  go_wp2_with fail
  refine (HS.out _ HR.out).mono ?_
  rintro e w3 ⟨rfl, hR3⟩
  have ks := run_string_of (P := Tryd.prog) Tryd.underlying22 Tryd.underlying5 Tryd.underlying9 ((HB.out.ext hR3.2).fld hc 257 8) (c - 257)
  rw [fld_length (by rw [HH.out]; omega), ← Hmg.out] at ks
  have HR3 := Lib.hid hR3
  clear hR3 HF HS HR k148 hne
  have k100 := run_cut_to (P := Tryd.prog) Tryd.underlying22 info_u8 .i64 (some ⟨bb, o, none⟩) l.length c 100 (by omega) (by have := HH.out; omega)
  rw [show (100 : Int).toNat = 100 from rfl] at k100
  have k157 := cut_mid 157 100 (some ⟨bb, o, none⟩) c (by have := HH.out; omega) l.length
  rw [show ((157 : Nat) : Int) + ((100 : Nat) : Int) = 257 from rfl, show ((157 : Nat) : Int) = 157 from rfl] at k157
  go_wp2_with fail
  clear ks k257
  apply wp_region_genl (hdGVs (.slice (some ⟨bb, o, none⟩) l.length c) l false (bs mg) (.slice (some ⟨bb, o, none⟩) 100 c) (.slice (cutA (some ⟨bb, o, none⟩) c 157) 100 (c - 157)) bb o) (MkWI w3 (hdG l false) 12 13) 0
  case hm => kernel_rfl
  case hB => kernel_rfl
  case hlen => exact fun g => rfl
  case hds => rfl
  case h0 => exact ⟨Ext.drew w3, fun e => (by cases e), fun e => (by cases e)⟩
  case hF =>
    intro g
    simp only [finalF, hdGVs, Act.put, List.setIfInBounds_toArray, List.set_cons_succ, List.set_cons_zero]
    rfl
  case hstep =>
    simp only [AllO, Nat.zero_add, Nat.reduceAdd]
    refine ⟨?_, ?_, ?_, ?_, ?_, ?_, ?_, ?_, ?_, ?_, ?_, ?_, ?_, ?_, trivial⟩
    all_goals
      intro g L w' hW0 hi hd
      have hcell := Ext.cell (HR3.out.2.trans hW0.1) HC.out
      have hW := Lib.hid hW0
      have hlt : (156 : Int) < (l.length : Int) := by have := HH.out; omega
      clear hW0
    case refine_8 =>
      refine .inr (.inr ⟨35, #[.slice (some ⟨bb, o, none⟩) 100 c], w', .string (bs (untilS (fld l 0 100))), ?_, ?_⟩)
      · go_simp
      · have hl1 : (fld l 0 100).length = 100 := fld_length (by rw [HH.out]; omega)
        have hu := ref_until (some ⟨bb, o, none⟩) (fld l 0 100) c w' (by rw [hl1]; omega) (by rw [hl1]; have := HH.out; omega) (by
          have := ((HB.out.ext (HR3.out.2.trans hW.out.1)).take 100)
          unfold fld
          rw [List.drop_zero]
          exact this)
        rw [hl1] at hu
        refine hu.mono ?_
        rintro e w'' ⟨rfl, rfl⟩
        exact ⟨rfl, g, hW.out.quiet (Ext.refl _) _ (by decide) (by decide), fun _ _ => rfl, rfl⟩
    case refine_11 =>
      refine .inr (.inr ⟨35, #[.slice (cutA (some ⟨bb, o, none⟩) c 157) 100 (c - 157)], w', .string (bs (untilS (fld l 157 100))), ?_, ?_⟩)
      · go_simp
      · have hl1 : (fld l 157 100).length = 100 := fld_length (by rw [HH.out]; omega)
        have hu := ref_until (cutA (some ⟨bb, o, none⟩) c 157) (fld l 157 100) (c - 157) w' (by rw [hl1]; omega) (by rw [hl1]; have := HH.out; omega) ((HB.out.ext (HR3.out.2.trans hW.out.1)).fld hc 157 100)
        rw [hl1] at hu
        refine hu.mono ?_
        rintro e w'' ⟨rfl, rfl⟩
        exact ⟨rfl, g, hW.out.quiet (Ext.refl _) _ (by decide) (by decide), fun _ _ => rfl, rfl⟩
    case refine_12 =>
      refine .inl ⟨_, w', ?_, g, hW.out.quiet (Ext.refl _) _ (by decide) (by decide), fun _ _ => rfl, rfl⟩
      go_simp
      rfl
    case refine_13 =>
      have h13 : L 13 = false := by
        cases hh : L 13 with
        | false => rfl
        | true => have := hW.out.2.1 hh; rw [hi] at this; cases this
      refine .inl ⟨_, w'.alloc (.cells Hd.zero.cells 27), ?_, w'.heap.size, ⟨hW.out.1.trans (Ext.alloc _ _), ?_, ?_⟩, ?_, rfl⟩
      · go_simp
        rfl
      · intro e; simp
      · intro _
        refine ⟨hW.out.1.size, ?_⟩
        rw [if_neg (by simp [h13])]
        exact heap_alloc_new _ _
      · intro j hj
        have : j ≠ 12 := fun e => by rw [e, hi] at hj; cases hj
        rcases j with _ | _ | _ | _ | _ | _ | _ | _ | _ | _ | _ | _ | _ | _ | j <;> first | rfl | exact absurd rfl this
    case refine_14 =>
      have h12 : L 12 = true := hd ⟨12, .data⟩ (by simp) rfl
      have hB := (hW.out.2.2 h12).2
      rw [if_neg (by rw [hi]; decide)] at hB
      obtain ⟨q0, q1, q2, q3, q4, q5, q6, q7, q8⟩ := hB.cells
      have qf := hB.frozen
      obtain ⟨w1', hw1, hB1, hg1⟩ := hB.put_ex (hdG l false)
      have hE1 : Ext w3 w1' := Below.grown hW.out.1 hg1 hW.out.1.size (fun k hk => by cases hk; exact (hW.out.2.2 h12).1)
      have HX := Lib.hid (And.intro hB1 hE1)
      have HY := Lib.hid hw1
      clear hB hB1 hE1 hg1 hw1
      refine .inr (.inl ⟨undef, w1', ?_, rfl, g, ⟨HX.out.2, ?_, ?_⟩, fun _ _ => rfl, rfl⟩)
      rotate_left
      · exact fun _ => by simp [h12]
      · intro _
        refine ⟨(hW.out.2.2 h12).1, ?_⟩
        rw [if_pos (by simp)]
        exact HX.out.1
      · rw [← HY.out]
        unfold hdG Hd.val Hd.cells
        go_simp
    all_goals
      refine .inl ⟨_, w', ?_, g, hW.out.quiet (Ext.refl _) _ (by decide) (by decide), fun _ _ => rfl, rfl⟩
      go_simp
  case hend =>
    intro g L w4 hall' hW
    have hall : ∀ i, i < 14 → L i = true := hall'
    obtain ⟨hEw, _, hX⟩ := hW
    have hX' := hX (hall 12 (by decide))
    rw [if_pos (hall 13 (by decide))] at hX'
    have HG := Lib.hid (And.intro hX'.2 (And.intro hX'.1 (HR3.out.2.trans hEw)))
    have HZ4 := Lib.hid (HdBlk.ext HR3.out.1 hEw)
    clear hX hX' hall hall' hEw k157 k100 hq1 hq2
    have q2 := HG.out.1.cells.2.2.1
    have qf := HG.out.1.frozen
    obtain ⟨kd, hkd⟩ : ∃ kd, kd = l.getD 156 0 := ⟨_, rfl⟩
    have q2' : w4.cell? ⟨g, 2, none⟩ = some (.int .u8 (kd.toNat : Int)) := by rw [hkd]; exact q2
    have Hkd := Lib.hid hkd
    clear q2 hkd
    have hgw : w.heap.size ≤ g := Nat.le_trans HR3.out.2.size HG.out.2.1
    have hgz : w.heap.size ≠ g := by have h1 := HR3.out.1.lt; have h2 := HG.out.2.1; omega
    have HGW := Lib.hid (And.intro hgw hgz)
    clear hgw hgz
    go_upto_if 57 with (fail)
    go_cut [7] (fun s7 wd => s7 = .pointer (some ⟨g, 0, none⟩) ∧ Hid (HdBlk wd g { hdG l false with kind := kindS l } ∧ Ext w wd ∧ HdBlk wd w.heap.size Hd.zero))
    case first =>
      by_cases c1 : kd = 0
      · subst c1
        go_wp2_with fail
        go_meet
        refine ⟨rfl, ?_, HG.out.2.2.setCell HGW.out.1 _, HdBlk.other HZ4.out (Ne.symm HGW.out.2) _⟩
        have e1 : kindS l = 48 := by unfold kindS; rw [← Hkd.out]; rfl
        rw [e1]
        exact HdBlk.set_kind HG.out.1 48
      · have c1' : ((kd.toNat : Int) == 0) = false := beq_eq_false_iff_ne.2 fun e => c1 (UInt8.toNat_inj.1 (by simpa using e))
        have C1 := Lib.hid c1
        clear c1
        go_wp2_with fail
        go_meet
        refine ⟨rfl, ?_, HG.out.2.2, HZ4.out⟩
        have e1 : kindS l = (hdG l false).kind := by unfold kindS; rw [← Hkd.out, if_neg C1.out, Hkd.out]; rfl
        rw [e1]
        exact HG.out.1
    case rest =>
      obtain ⟨rfl, HDD⟩ := hcut
      clear qf q2' Hkd HG HZ4
      have k345 := cut_mid 345 155 (some ⟨bb, o, none⟩) c (by have := HH.out; omega) l.length
      rw [show ((345 : Nat) : Int) + ((155 : Nat) : Int) = 500 from rfl, show ((345 : Nat) : Int) = 345 from rfl] at k345
      have q0 : wc.cell? ⟨g, 0, none⟩ = some (.string (bs (untilS (fld l 0 100)))) := HDD.out.1.cells.1
      have q8 : wc.cell? ⟨g, 8, none⟩ = some (.bool false) := HDD.out.1.cells.2.2.2.2.2.2.2.2
      have qf := HDD.out.1.frozen
      go_wp2_with fail
      have hl1 : (fld l 345 155).length = 155 := fld_length (by rw [HH.out]; omega)
      have hu := ref_until (cutA (some ⟨bb, o, none⟩) c 345) (fld l 345 155) (c - 345) wc (by rw [hl1]; omega) (by rw [hl1]; have := HH.out; omega) ((HB.out.ext HDD.out.2.1).fld hc 345 155)
      rw [hl1, ← Hpr.out] at hu
      refine hu.mono ?_
      rintro e w' ⟨rfl, rfl⟩
      clear hu hl1
      go_wp2_with fail
      clear q0 q8 qf k345
      obtain ⟨W, hWW⟩ : ∃ W, W = wc := ⟨_, rfl⟩
      have hnm : nameS l = untilS (fld l 0 100) := by unfold nameS; rw [if_neg (fun h => h.2 Hp0.out)]
      have HF : Hid (HdBlk W g (hdF l false) ∧ Ext w W ∧ HdBlk W w.heap.size Hd.zero) := by
        rw [hWW]
        unfold hdF
        rw [hnm]
        exact ⟨HDD.out.1, HDD.out.2⟩
      rw [← hWW]
      clear hnm hWW
      clear HDD
      obtain ⟨n, hn⟩ : ∃ n, n = W.heap.size := ⟨_, rfl⟩
      obtain ⟨Wa, hWa⟩ : ∃ Wa, Wa = W.alloc (.cells #[.int .i64 0, .int .i64 0, .int .i64 0, .int .i64 0, .int .i64 0] 65) := ⟨_, rfl⟩
      rw [← hWa, ← hn]
      have hA : Wa.heap[n]? = some (.cells (numA l 0) 65 (0, 0)) := by rw [hWa, hn]; exact heap_alloc_new _ _
      have hEa : Ext W Wa := by rw [hWa]; exact Ext.alloc _ _
      have hnl : n < Wa.heap.size := (Array.getElem?_eq_some_iff.1 hA).1
      have hng : g < n ∧ w.heap.size < n ∧ w.heap.size ≤ g ∧ w.heap.size ≠ g := ⟨by rw [hn]; exact HF.out.1.lt, by rw [hn]; exact HF.out.2.2.lt, HGW.out⟩
      have HFa := Lib.hid (And.intro (HdBlk.ext HF.out.1 hEa) (And.intro (HF.out.2.1.trans hEa) (And.intro (HdBlk.ext HF.out.2.2 hEa) (And.intro hA hng))))
      clear HF hn hWa hA hEa hng HGW
      have k100 := cut_mid 100 8 (some ⟨bb, o, none⟩) c (by have := HH.out; omega) l.length
      rw [show ((100 : Nat) : Int) + ((8 : Nat) : Int) = 108 from rfl, show ((100 : Nat) : Int) = 100 from rfl] at k100
      have k108 := cut_mid 108 8 (some ⟨bb, o, none⟩) c (by have := HH.out; omega) l.length
      rw [show ((108 : Nat) : Int) + ((8 : Nat) : Int) = 116 from rfl, show ((108 : Nat) : Int) = 108 from rfl] at k108
      have k116 := cut_mid 116 8 (some ⟨bb, o, none⟩) c (by have := HH.out; omega) l.length
      rw [show ((116 : Nat) : Int) + ((8 : Nat) : Int) = 124 from rfl, show ((116 : Nat) : Int) = 116 from rfl] at k116
      have k136 := cut_mid 136 12 (some ⟨bb, o, none⟩) c (by have := HH.out; omega) l.length
      rw [show ((136 : Nat) : Int) + ((12 : Nat) : Int) = 148 from rfl, show ((136 : Nat) : Int) = 136 from rfl] at k136
      have k124 := cut_mid 124 12 (some ⟨bb, o, none⟩) c (by have := HH.out; omega) l.length
      rw [show ((124 : Nat) : Int) + ((12 : Nat) : Int) = 136 from rfl, show ((124 : Nat) : Int) = 124 from rfl] at k124
      apply wp_region_genl (plcVs (.slice (some ⟨bb, o, none⟩) l.length c) (some ⟨bb, o, none⟩) c) (MkRowI Wa (plcA (some ⟨bb, o, none⟩) c) 22 10 11) 0
      case hm => kernel_rfl
      case hB => kernel_rfl
      case hlen => exact fun g => rfl
      case hds => rfl
      case h0 => exact ⟨Ext.drew Wa, fun e => (by cases e), fun e => (by cases e)⟩
      case hF =>
        intro g2
        simp only [finalF, plcVs, Act.put, List.setIfInBounds_toArray, List.set_cons_succ, List.set_cons_zero]
        rfl
      case hstep =>
        simp only [AllO, Nat.zero_add, Nat.reduceAdd]
        refine ⟨?_, ?_, ?_, ?_, ?_, ?_, ?_, ?_, ?_, ?_, ?_, ?_, trivial⟩
        all_goals
          intro g2 L w' hW0 hi hd
          have hW := Lib.hid hW0
          clear hW0
        case refine_11 =>
          refine .inl ⟨_, w'.alloc (.cells (plcA (some ⟨bb, o, none⟩) c) 22), ?_, w'.heap.size, ⟨hW.out.1.trans (Ext.alloc _ _), ?_, ?_⟩, ?_, rfl⟩
          · go_simp
            rfl
          · intro _
            simp
          · intro _
            exact ⟨hW.out.1.size, heap_alloc_new _ _⟩
          · intro j hj
            have : j ≠ 10 := fun e => by rw [e, hi] at hj; cases hj
            have h11 : j ≠ 11 := fun e => by rw [e] at hj; have := hW.out.2.1 hj; rw [hi] at this; cases this
            rcases j with _ | _ | _ | _ | _ | _ | _ | _ | _ | _ | _ | _ | j <;> first | rfl | exact absurd rfl this | (exfalso; omega)
        case refine_12 =>
          refine .inl ⟨_, w', ?_, g2, hW.out.quiet (Ext.refl _) _ (by decide) (fun _ => hd ⟨10, .data⟩ (by simp) rfl), fun _ _ => rfl, rfl⟩
          go_simp
        all_goals
          refine .inl ⟨_, w', ?_, g2, hW.out.quiet (Ext.refl _) _ (by decide) (fun e => absurd e (by decide)), fun _ _ => rfl, rfl⟩
          go_simp
      case hend =>
        intro g2 L w5 hall' hW5
        have hpl := hW5.2.2 (hall' 10 (by decide))
        have hg2 : Wa.heap.size ≤ g2 := hpl.1
        have HG2 := Lib.hid (And.intro hg2 hnl)
        have H0 : Hid (HdBlk w5 g (hdF l false) ∧ Ext w w5 ∧ HdBlk w5 w.heap.size Hd.zero ∧ w5.heap[n]? = some (.cells (numA l 0) 65 (0, 0)) ∧ w5.heap[g2]? = some (.cells (plcA (some ⟨bb, o, none⟩) c) 22 (0, 0))) :=
          ⟨HdBlk.ext HFa.out.1 hW5.1, HFa.out.2.1.trans hW5.1, HdBlk.ext HFa.out.2.2.1 hW5.1, Ext.heap hW5.1 HFa.out.2.2.2.1, hpl.2⟩
        clear hpl hall' hW5 k100 k108 k116 k124 k136 hg2 hnl
        go_wp2_with fail
        go_loopw [11] (fun i wr => ∃ k : Nat, k ≤ 5 ∧ i = .int .i64 k ∧ Hid (HdBlk wr g (hdF l false) ∧ Ext w wr ∧ HdBlk wr w.heap.size Hd.zero ∧ wr.heap[n]? = some (.cells (numA l k) 65 (0, 0)) ∧ wr.heap[g2]? = some (.cells (plcA (some ⟨bb, o, none⟩) c) 22 (0, 0)) ∧ ∀ j e, j < k → flds[j]? = some e → (fieldS (fld l e.1 e.2.1)).2 = true)) (fun i _ => 5 - (intOf i).toNat)
        case atStart => exact ⟨0, by omega, rfl, H0.out.1, H0.out.2.1, H0.out.2.2.1, H0.out.2.2.2.1, H0.out.2.2.2.2, fun j e hj => absurd hj (by omega)⟩
        case round =>
          obtain ⟨k, hk, rfl, HR⟩ := hrel
          by_cases hlt : k < 5
          · obtain ⟨e, he⟩ : ∃ e, flds[k]? = some e := ⟨flds[k]'(by simpa [flds] using hlt), by simp [show k < flds.length by simpa [flds] using hlt]⟩
            obtain ⟨a, m, ii⟩ := e
            have hm : (a, m, ii) ∈ flds := List.mem_of_getElem? he
            obtain ⟨bd1, bd2, bd3, bd4, bd5⟩ := flds_bd hm
            have qp : wr.cell? ⟨g2, k, none⟩ = some (.slice (cutA (some ⟨bb, o, none⟩) c a) m (c - a)) := cell_of HR.out.2.2.2.2.1 (plcA_at he)
            have HK := Lib.hid (And.intro hm he)
            clear hm he
            go_wp2_with fail
            obtain ⟨r, hr⟩ : ∃ r, r = rfS (fld l a m) := ⟨_, rfl⟩
            obtain ⟨r1, ok⟩ := r
            have hfl : (fld l a m).length = m := fld_length (by rw [HH.out]; omega)
            have hcl : 512 ≤ c := by have := HH.out; omega
            have hfp := ref_Field (cutA (some ⟨bb, o, none⟩) c a) (fld l a m) (c - a) wr (by omega) (by omega) (by omega) ((HB.out.ext HR.out.2.1).fld hc a m) (by omega)
            rw [hfl, ← hr] at hfp
            have HR1 := Lib.hid hr
            refine hfp.mono ?_
            clear hfp hr hfl qp
            rintro e w' ⟨rfl, rfl⟩
            cases ok
            · have e0 : parseS l = (Hd.zero, 4) := by
                unfold parseS
                rw [if_neg (by have := HH.out; omega), if_neg (by rw [Hsum.out.1, Hsum.out.2]; simp), if_neg (fun h => h (by rw [← Hmg.out, Hht.out.1]; simp)), if_pos]
                intro h
                have := (numOk_iff l).1 h a m ii HK.out.1
                rw [rf_field HR1.out] at this
                cases this
              have E0 := Lib.hid e0
              obtain ⟨q0, q1, q2, q3, q4, q5, q6, q7, q8⟩ := HR.out.2.2.1.cells
              have qf := HR.out.2.2.1.frozen
              clear e0
              go_wp2
              refine bodyPost_ret (v := .tuple #[Hd.zero.val, .int .i64 4]) ?_ rfl ⟨by rw [E0.out]; rfl, ?_⟩
              · simp [results, Tryd.results14, go_sem, q0, q1, q2, q3, q4, q5, q6, q7, q8]
                rfl
              · exact HR.out.2.1.setHd
            · have qn := cell_of HR.out.2.2.2.1 (numA_at l hlt)
              have qnf := frozen_of HR.out.2.2.2.1
              go_wp2
              refine ⟨⟨k + 1, by omega, by go_num, HdBlk.other HR.out.1 (by have := HFa.out.2.2.2.2; simp; omega) _, HR.out.2.1.setCell (by have := HFa.out.2.2.2.2; simp; omega) _, HdBlk.other HR.out.2.2.1 (by have := HFa.out.2.2.2.2; simp; omega) _, ?_, ?_, ?_⟩, by simp [intOf]; omega⟩
              · rw [heap_set1 HR.out.2.2.2.1, ← numA_set l HK.out.2, rf_field HR1.out]
                rfl
              · rw [Below.heap_setCell _ _ _ _ (by have := HG2.out; simp; omega)]
                exact HR.out.2.2.2.2.1
              · intro j e hj he
                by_cases ej : j = k
                · subst ej
                  rw [HK.out.2] at he
                  cases he
                  show (fieldS (fld l a m)).2 = true
                  rw [rf_field HR1.out]
                · exact HR.out.2.2.2.2.2 j e (by omega) he
          · obtain rfl : k = 5 := by omega
            have hnf : numOk l = true := (numOk_iff l).2 fun a m i hm => by
              obtain ⟨j, hj⟩ := List.getElem?_of_mem hm
              exact HR.out.2.2.2.2.2 j _ (by have := (List.getElem?_eq_some_iff.1 hj).1; simpa [flds] using this) hj
            have e0 : parseS l = (headS l, 0) := by
              unfold parseS
              rw [if_neg (by have := HH.out; omega), if_neg (by rw [Hsum.out.1, Hsum.out.2]; simp), if_neg (fun h => h (by rw [← Hmg.out, Hht.out.1]; simp)), if_neg (fun h => h hnf)]
            have E0 := Lib.hid e0
            have n0 : wr.cell? ⟨n, 0, none⟩ = some (.int .i64 ((fieldS (fld l 100 8)).1 : Int)) := cell_of HR.out.2.2.2.1 rfl
            have n1 : wr.cell? ⟨n, 1, none⟩ = some (.int .i64 ((fieldS (fld l 108 8)).1 : Int)) := cell_of HR.out.2.2.2.1 rfl
            have n2 : wr.cell? ⟨n, 2, none⟩ = some (.int .i64 ((fieldS (fld l 116 8)).1 : Int)) := cell_of HR.out.2.2.2.1 rfl
            have n3 : wr.cell? ⟨n, 3, none⟩ = some (.int .i64 ((fieldS (fld l 136 12)).1 : Int)) := cell_of HR.out.2.2.2.1 rfl
            have n4 : wr.cell? ⟨n, 4, none⟩ = some (.int .i64 ((fieldS (fld l 124 12)).1 : Int)) := cell_of HR.out.2.2.2.1 rfl
            obtain ⟨q0, q1, q2, q3, q4, q5, q6, q7, q8⟩ := HR.out.1.cells
            have qf := HR.out.1.frozen
            have hne : n ≠ g := by have := HFa.out.2.2.2.2; omega
            have hzg : w.heap.size ≠ g := HFa.out.2.2.2.2.2.2.2
            obtain ⟨z0, z1, z2, z3, z4, z5, z6, z7, z8⟩ := HR.out.2.2.1.cells
            have zf := HR.out.2.2.1.frozen
            clear e0 hnf
            go_wp2
            have hgw := HFa.out.2.2.2.2.2.2.1
            refine bodyPost_ret (v := .tuple #[(headS l).val, .int .i64 0]) ?_ rfl ⟨by rw [E0.out]; rfl, ?_⟩
            · have eh : (headS l).val = .agg #[.string (bs (hdF l false).name), .string (bs (hdF l false).link), .int .u8 ((hdF l false).kind.toNat : Int), .int .i64 (fieldS (fld l 100 8)).1, .int .i64 (fieldS (fld l 108 8)).1, .int .i64 (fieldS (fld l 116 8)).1, .int .i64 (fieldS (fld l 136 12)).1, .int .i64 (fieldS (fld l 124 12)).1, .bool (hdF l false).gnu] := by
                unfold Hd.val Hd.cells headS
                rw [Hht.out.2]
                rfl
              rw [eh]
              simp [results, Tryd.results14, go_sem, z0, z1, z2, z3, z4, z5, z6, z7, z8]
            · exact (((((HR.out.2.1.setCell (p := ⟨g, 3, none⟩) hgw _).setCell (p := ⟨g, 4, none⟩) hgw _).setCell (p := ⟨g, 5, none⟩) hgw _).setCell (p := ⟨g, 6, none⟩) hgw _).setCell (p := ⟨g, 7, none⟩) hgw _).setHd

set_option maxHeartbeats 16000000 in
set_option maxRecDepth 100000 in
theorem ref_Head_posix1 (p : Option Addr) (l : List UInt8) (c : Nat) (w : World) (h : l.length = 512) (hc : l.length ≤ c) (hc2 : c ≤ 9223372036854775807) (hb : By w p l)
    (hs1 : (fieldS (fld l 148 8)).2 = true) (hs2 : (fieldS (fld l 148 8)).1 = sumS l) (ht : fld l 257 8 = posixL) (hp0 : untilS (fld l 345 155) ≠ []) :
    Calls Tryd.prog 14 #[.slice p l.length c] w (ParsePost w l) := by
  have h' : ((l.length : Int) != 512) = false := bne_eq_false_iff_eq.2 (by omega)
  have hrf : rfS (fld l 148 8) = (sumS l, true) := by
    rw [fieldS_rf] at hs1 hs2
    unfold keepN at hs1 hs2
    simp only at hs1 hs2
    rw [if_pos hs1] at hs2
    exact Prod.ext hs2 hs1
  have HF : Hid (∀ W, Res w W → Calls Tryd.prog 34 #[.slice (cutA p c 148) 8 (c - 148)] W fun e w' => e = .returned (.tuple #[.int .i64 (sumS l), .bool true]) ∧ Res w w') := by
    intro W hW
    have hfp := ref_Field (cutA p c 148) (fld l 148 8) (c - 148) W (by rw [fld_length (by omega)]; omega) (by rw [fld_length (by omega)]; omega) (by omega) ((hb.ext hW.2).fld hc 148 8) (by rw [fld_length (by omega)]; omega)
    rw [fld_length (by omega), hrf] at hfp
    refine hfp.mono ?_
    rintro e w' ⟨rfl, rfl⟩
    exact ⟨rfl, hW⟩
  have HS : Hid (∀ W, Res w W → Calls Tryd.prog 21 #[.slice p l.length c] W fun e w' => e = .returned (.int .i64 (sumS l)) ∧ Res w w') := by
    intro W hW
    have hsm := ref_Sum p l c W h (hb.ext hW.2)
    rw [← h] at hsm
    refine hsm.mono ?_
    rintro e w' ⟨rfl, rfl⟩
    exact ⟨rfl, hW⟩
  have k148 := cut_mid 148 8 p c (by omega) l.length
  rw [show ((148 : Nat) : Int) + ((8 : Nat) : Int) = 156 from rfl, show ((148 : Nat) : Int) = 148 from rfl] at k148
  have k257 := cut_mid 257 8 p c (by omega) l.length
  rw [show ((257 : Nat) : Int) + ((8 : Nat) : Int) = 265 from rfl, show ((257 : Nat) : Int) = 257 from rfl] at k257
  have hne : ((sumS l : Int) != (sumS l : Int)) = false := by simp
  obtain ⟨bb, o, hp, hcell⟩ := hb.at_ (i := 156) (by omega)
  subst hp
  have HB := Lib.hid hb
  have HH := Lib.hid h
  have HC := Lib.hid hcell
  obtain ⟨mg, hmg⟩ : ∃ mg, mg = fld l 257 8 := ⟨_, rfl⟩
  rw [← hmg] at ht
  have hq1 : ((bs mg).toList == [117, 115, 116, 97, 114, 0, 48, 48]) = true := by rw [bs_toL, ht]; rfl
  have hq2 : ((bs mg).toList == [117, 115, 116, 97, 114, 32, 32, 0]) = false := by rw [bs_toL, ht]; decide
  have hgn : decide (fld l 257 8 = gnuL) = false := by rw [← hmg, ht]; decide
  have Hht := Lib.hid (And.intro ht hgn)
  have Hmg := Lib.hid hmg
  have Hsum := Lib.hid (And.intro hs1 hs2)
  obtain ⟨pr, hpr⟩ : ∃ pr, pr = untilS (fld l 345 155) := ⟨_, rfl⟩
  have hpq : (bs pr).toList.isEmpty = false := by
    rw [bs_toL, hpr]
    cases hu : untilS (fld l 345 155) with
    | nil => exact absurd hu hp0
    | cons _ _ => rfl
  have Hp0 := Lib.hid hp0
  clear hp0
  have hprl : (bs pr).size ≤ 155 := by rw [bs_size, hpr]; exact Nat.le_trans (untilS_length _) (by rw [fld_length (by omega)]; exact Nat.le_refl _)
  have hnml : (bs (untilS (fld l 0 100))).size ≤ 100 := by rw [bs_size]; exact Nat.le_trans (untilS_length _) (by rw [fld_length (by omega)]; exact Nat.le_refl _)
  have Hpr := Lib.hid hpr
  clear h hb hs1 hs2 hrf ht hmg hcell hgn hpr
  go_enter Tryd.func14, Tryd.ntmps14
  go_wp2_with fail
  refine (HF.out _ (Res.made w)).mono ?_
  rintro e w2 ⟨rfl, hR⟩
  have HR := Lib.hid hR
  clear hR
  go_wp2_with fail
  refine (HS.out _ HR.out).mono ?_
  rintro e w3 ⟨rfl, hR3⟩
  have ks := run_string_of (P := Tryd.prog) Tryd.underlying22 Tryd.underlying5 Tryd.underlying9 ((HB.out.ext hR3.2).fld hc 257 8) (c - 257)
  rw [fld_length (by rw [HH.out]; omega), ← Hmg.out] at ks
  have HR3 := Lib.hid hR3
  clear hR3 HF HS HR k148 hne
  have k100 := run_cut_to (P := Tryd.prog) Tryd.underlying22 info_u8 .i64 (some ⟨bb, o, none⟩) l.length c 100 (by omega) (by have := HH.out; omega)
  rw [show (100 : Int).toNat = 100 from rfl] at k100
  have k157 := cut_mid 157 100 (some ⟨bb, o, none⟩) c (by have := HH.out; omega) l.length
  rw [show ((157 : Nat) : Int) + ((100 : Nat) : Int) = 257 from rfl, show ((157 : Nat) : Int) = 157 from rfl] at k157
  go_wp2_with fail
  clear ks k257
  apply wp_region_genl (hdGVs (.slice (some ⟨bb, o, none⟩) l.length c) l false (bs mg) (.slice (some ⟨bb, o, none⟩) 100 c) (.slice (cutA (some ⟨bb, o, none⟩) c 157) 100 (c - 157)) bb o) (MkWI w3 (hdG l false) 12 13) 0
  case hm => kernel_rfl
  case hB => kernel_rfl
  case hlen => exact fun g => rfl
  case hds => rfl
  case h0 => exact ⟨Ext.drew w3, fun e => (by cases e), fun e => (by cases e)⟩
  case hF =>
    intro g
    simp only [finalF, hdGVs, Act.put, List.setIfInBounds_toArray, List.set_cons_succ, List.set_cons_zero]
    rfl
  case hstep =>
    simp only [AllO, Nat.zero_add, Nat.reduceAdd]
    refine ⟨?_, ?_, ?_, ?_, ?_, ?_, ?_, ?_, ?_, ?_, ?_, ?_, ?_, ?_, trivial⟩
    all_goals
      intro g L w' hW0 hi hd
      have hcell := Ext.cell (HR3.out.2.trans hW0.1) HC.out
      have hW := Lib.hid hW0
      have hlt : (156 : Int) < (l.length : Int) := by have := HH.out; omega
      clear hW0
    case refine_8 =>
      refine .inr (.inr ⟨35, #[.slice (some ⟨bb, o, none⟩) 100 c], w', .string (bs (untilS (fld l 0 100))), ?_, ?_⟩)
      · go_simp
      · have hl1 : (fld l 0 100).length = 100 := fld_length (by rw [HH.out]; omega)
        have hu := ref_until (some ⟨bb, o, none⟩) (fld l 0 100) c w' (by rw [hl1]; omega) (by rw [hl1]; have := HH.out; omega) (by
          have := ((HB.out.ext (HR3.out.2.trans hW.out.1)).take 100)
          unfold fld
          rw [List.drop_zero]
          exact this)
        rw [hl1] at hu
        refine hu.mono ?_
        rintro e w'' ⟨rfl, rfl⟩
        exact ⟨rfl, g, hW.out.quiet (Ext.refl _) _ (by decide) (by decide), fun _ _ => rfl, rfl⟩
    case refine_11 =>
      refine .inr (.inr ⟨35, #[.slice (cutA (some ⟨bb, o, none⟩) c 157) 100 (c - 157)], w', .string (bs (untilS (fld l 157 100))), ?_, ?_⟩)
      · go_simp
      · have hl1 : (fld l 157 100).length = 100 := fld_length (by rw [HH.out]; omega)
        have hu := ref_until (cutA (some ⟨bb, o, none⟩) c 157) (fld l 157 100) (c - 157) w' (by rw [hl1]; omega) (by rw [hl1]; have := HH.out; omega) ((HB.out.ext (HR3.out.2.trans hW.out.1)).fld hc 157 100)
        rw [hl1] at hu
        refine hu.mono ?_
        rintro e w'' ⟨rfl, rfl⟩
        exact ⟨rfl, g, hW.out.quiet (Ext.refl _) _ (by decide) (by decide), fun _ _ => rfl, rfl⟩
    case refine_12 =>
      refine .inl ⟨_, w', ?_, g, hW.out.quiet (Ext.refl _) _ (by decide) (by decide), fun _ _ => rfl, rfl⟩
      go_simp
      rfl
    case refine_13 =>
      have h13 : L 13 = false := by
        cases hh : L 13 with
        | false => rfl
        | true => have := hW.out.2.1 hh; rw [hi] at this; cases this
      refine .inl ⟨_, w'.alloc (.cells Hd.zero.cells 27), ?_, w'.heap.size, ⟨hW.out.1.trans (Ext.alloc _ _), ?_, ?_⟩, ?_, rfl⟩
      · go_simp
        rfl
      · intro e; simp
      · intro _
        refine ⟨hW.out.1.size, ?_⟩
        rw [if_neg (by simp [h13])]
        exact heap_alloc_new _ _
      · intro j hj
        have : j ≠ 12 := fun e => by rw [e, hi] at hj; cases hj
        rcases j with _ | _ | _ | _ | _ | _ | _ | _ | _ | _ | _ | _ | _ | _ | j <;> first | rfl | exact absurd rfl this
    case refine_14 =>
      have h12 : L 12 = true := hd ⟨12, .data⟩ (by simp) rfl
      have hB := (hW.out.2.2 h12).2
      rw [if_neg (by rw [hi]; decide)] at hB
      obtain ⟨q0, q1, q2, q3, q4, q5, q6, q7, q8⟩ := hB.cells
      have qf := hB.frozen
      obtain ⟨w1', hw1, hB1, hg1⟩ := hB.put_ex (hdG l false)
      have hE1 : Ext w3 w1' := Below.grown hW.out.1 hg1 hW.out.1.size (fun k hk => by cases hk; exact (hW.out.2.2 h12).1)
      have HX := Lib.hid (And.intro hB1 hE1)
      have HY := Lib.hid hw1
      clear hB hB1 hE1 hg1 hw1
      refine .inr (.inl ⟨undef, w1', ?_, rfl, g, ⟨HX.out.2, ?_, ?_⟩, fun _ _ => rfl, rfl⟩)
      rotate_left
      · exact fun _ => by simp [h12]
      · intro _
        refine ⟨(hW.out.2.2 h12).1, ?_⟩
        rw [if_pos (by simp)]
        exact HX.out.1
      · rw [← HY.out]
        unfold hdG Hd.val Hd.cells
        go_simp
    all_goals
      refine .inl ⟨_, w', ?_, g, hW.out.quiet (Ext.refl _) _ (by decide) (by decide), fun _ _ => rfl, rfl⟩
      go_simp
  case hend =>
    intro g L w4 hall' hW
    have hall : ∀ i, i < 14 → L i = true := hall'
    obtain ⟨hEw, _, hX⟩ := hW
    have hX' := hX (hall 12 (by decide))
    rw [if_pos (hall 13 (by decide))] at hX'
    have HG := Lib.hid (And.intro hX'.2 (And.intro hX'.1 (HR3.out.2.trans hEw)))
    have HZ4 := Lib.hid (HdBlk.ext HR3.out.1 hEw)
    clear hX hX' hall hall' hEw k157 k100 hq1 hq2
    have q2 := HG.out.1.cells.2.2.1
    have qf := HG.out.1.frozen
    obtain ⟨kd, hkd⟩ : ∃ kd, kd = l.getD 156 0 := ⟨_, rfl⟩
    have q2' : w4.cell? ⟨g, 2, none⟩ = some (.int .u8 (kd.toNat : Int)) := by rw [hkd]; exact q2
    have Hkd := Lib.hid hkd
    clear q2 hkd
    have hgw : w.heap.size ≤ g := Nat.le_trans HR3.out.2.size HG.out.2.1
    have hgz : w.heap.size ≠ g := by have h1 := HR3.out.1.lt; have h2 := HG.out.2.1; omega
    have HGW := Lib.hid (And.intro hgw hgz)
    clear hgw hgz
    go_upto_if 57 with (fail)
    go_cut [7] (fun s7 wd => s7 = .pointer (some ⟨g, 0, none⟩) ∧ Hid (HdBlk wd g { hdG l false with kind := kindS l } ∧ Ext w wd ∧ HdBlk wd w.heap.size Hd.zero))
    case first =>
      by_cases c1 : kd = 0
      · subst c1
        go_wp2_with fail
        go_meet
        refine ⟨rfl, ?_, HG.out.2.2.setCell HGW.out.1 _, HdBlk.other HZ4.out (Ne.symm HGW.out.2) _⟩
        have e1 : kindS l = 48 := by unfold kindS; rw [← Hkd.out]; rfl
        rw [e1]
        exact HdBlk.set_kind HG.out.1 48
      · have c1' : ((kd.toNat : Int) == 0) = false := beq_eq_false_iff_ne.2 fun e => c1 (UInt8.toNat_inj.1 (by simpa using e))
        have C1 := Lib.hid c1
        clear c1
        go_wp2_with fail
        go_meet
        refine ⟨rfl, ?_, HG.out.2.2, HZ4.out⟩
        have e1 : kindS l = (hdG l false).kind := by unfold kindS; rw [← Hkd.out, if_neg C1.out, Hkd.out]; rfl
        rw [e1]
        exact HG.out.1
    case rest =>
      obtain ⟨rfl, HDD⟩ := hcut
      clear qf q2' Hkd HG HZ4
      have k345 := cut_mid 345 155 (some ⟨bb, o, none⟩) c (by have := HH.out; omega) l.length
      rw [show ((345 : Nat) : Int) + ((155 : Nat) : Int) = 500 from rfl, show ((345 : Nat) : Int) = 345 from rfl] at k345
      have q0 : wc.cell? ⟨g, 0, none⟩ = some (.string (bs (untilS (fld l 0 100)))) := HDD.out.1.cells.1
      have q8 : wc.cell? ⟨g, 8, none⟩ = some (.bool false) := HDD.out.1.cells.2.2.2.2.2.2.2.2
      have qf := HDD.out.1.frozen
      go_wp2_with fail
      have hl1 : (fld l 345 155).length = 155 := fld_length (by rw [HH.out]; omega)
      have hu := ref_until (cutA (some ⟨bb, o, none⟩) c 345) (fld l 345 155) (c - 345) wc (by rw [hl1]; omega) (by rw [hl1]; have := HH.out; omega) ((HB.out.ext HDD.out.2.1).fld hc 345 155)
      rw [hl1, ← Hpr.out] at hu
      refine hu.mono ?_
      rintro e w' ⟨rfl, rfl⟩
      clear hu hl1
      go_wp2_with fail
      clear q0 q8 qf k345
      obtain ⟨W, hWW⟩ : ∃ W, W = wc.setCell ⟨g, 0, none⟩ (.string (bs pr ++ ⟨#[47]⟩ ++ bs (untilS (fld l 0 100)))) := ⟨_, rfl⟩
      have hnm : nameS l = pr ++ [47] ++ untilS (fld l 0 100) := by unfold nameS; rw [if_pos ⟨by rw [← Hmg.out, Hht.out.1], Hp0.out⟩, Hpr.out]
      have HF : Hid (HdBlk W g (hdF l false) ∧ Ext w W ∧ HdBlk W w.heap.size Hd.zero) := by
        rw [hWW]
        unfold hdF
        rw [hnm, show (⟨#[47]⟩ : ByteArray) = bs [47] from rfl, bs_app, bs_app]
        exact ⟨HdBlk.set_name HDD.out.1 _, HDD.out.2.1.setCell HGW.out.1 _, HdBlk.other HDD.out.2.2 (Ne.symm HGW.out.2) _⟩
      have hsz : wc.heap.size = W.heap.size := by rw [hWW]; simp
      rw [← hWW, hsz]
      clear hnm hWW hsz
      clear HDD
      obtain ⟨n, hn⟩ : ∃ n, n = W.heap.size := ⟨_, rfl⟩
      obtain ⟨Wa, hWa⟩ : ∃ Wa, Wa = W.alloc (.cells #[.int .i64 0, .int .i64 0, .int .i64 0, .int .i64 0, .int .i64 0] 65) := ⟨_, rfl⟩
      rw [← hWa, ← hn]
      have hA : Wa.heap[n]? = some (.cells (numA l 0) 65 (0, 0)) := by rw [hWa, hn]; exact heap_alloc_new _ _
      have hEa : Ext W Wa := by rw [hWa]; exact Ext.alloc _ _
      have hnl : n < Wa.heap.size := (Array.getElem?_eq_some_iff.1 hA).1
      have hng : g < n ∧ w.heap.size < n ∧ w.heap.size ≤ g ∧ w.heap.size ≠ g := ⟨by rw [hn]; exact HF.out.1.lt, by rw [hn]; exact HF.out.2.2.lt, HGW.out⟩
      have HFa := Lib.hid (And.intro (HdBlk.ext HF.out.1 hEa) (And.intro (HF.out.2.1.trans hEa) (And.intro (HdBlk.ext HF.out.2.2 hEa) (And.intro hA hng))))
      clear HF hn hWa hA hEa hng HGW
      have k100 := cut_mid 100 8 (some ⟨bb, o, none⟩) c (by have := HH.out; omega) l.length
      rw [show ((100 : Nat) : Int) + ((8 : Nat) : Int) = 108 from rfl, show ((100 : Nat) : Int) = 100 from rfl] at k100
      have k108 := cut_mid 108 8 (some ⟨bb, o, none⟩) c (by have := HH.out; omega) l.length
      rw [show ((108 : Nat) : Int) + ((8 : Nat) : Int) = 116 from rfl, show ((108 : Nat) : Int) = 108 from rfl] at k108
      have k116 := cut_mid 116 8 (some ⟨bb, o, none⟩) c (by have := HH.out; omega) l.length
      rw [show ((116 : Nat) : Int) + ((8 : Nat) : Int) = 124 from rfl, show ((116 : Nat) : Int) = 116 from rfl] at k116
      have k136 := cut_mid 136 12 (some ⟨bb, o, none⟩) c (by have := HH.out; omega) l.length
      rw [show ((136 : Nat) : Int) + ((12 : Nat) : Int) = 148 from rfl, show ((136 : Nat) : Int) = 136 from rfl] at k136
      have k124 := cut_mid 124 12 (some ⟨bb, o, none⟩) c (by have := HH.out; omega) l.length
      rw [show ((124 : Nat) : Int) + ((12 : Nat) : Int) = 136 from rfl, show ((124 : Nat) : Int) = 124 from rfl] at k124
      apply wp_region_genl (plcVs (.slice (some ⟨bb, o, none⟩) l.length c) (some ⟨bb, o, none⟩) c) (MkRowI Wa (plcA (some ⟨bb, o, none⟩) c) 22 10 11) 0
      case hm => kernel_rfl
      case hB => kernel_rfl
      case hlen => exact fun g => rfl
      case hds => rfl
      case h0 => exact ⟨Ext.drew Wa, fun e => (by cases e), fun e => (by cases e)⟩
      case hF =>
        intro g2
        simp only [finalF, plcVs, Act.put, List.setIfInBounds_toArray, List.set_cons_succ, List.set_cons_zero]
        rfl
      case hstep =>
        simp only [AllO, Nat.zero_add, Nat.reduceAdd]
        refine ⟨?_, ?_, ?_, ?_, ?_, ?_, ?_, ?_, ?_, ?_, ?_, ?_, trivial⟩
        all_goals
          intro g2 L w' hW0 hi hd
          have hW := Lib.hid hW0
          clear hW0
        case refine_11 =>
          refine .inl ⟨_, w'.alloc (.cells (plcA (some ⟨bb, o, none⟩) c) 22), ?_, w'.heap.size, ⟨hW.out.1.trans (Ext.alloc _ _), ?_, ?_⟩, ?_, rfl⟩
          · go_simp
            rfl
          · intro _
            simp
          · intro _
            exact ⟨hW.out.1.size, heap_alloc_new _ _⟩
          · intro j hj
            have : j ≠ 10 := fun e => by rw [e, hi] at hj; cases hj
            have h11 : j ≠ 11 := fun e => by rw [e] at hj; have := hW.out.2.1 hj; rw [hi] at this; cases this
            rcases j with _ | _ | _ | _ | _ | _ | _ | _ | _ | _ | _ | _ | j <;> first | rfl | exact absurd rfl this | (exfalso; omega)
        case refine_12 =>
          refine .inl ⟨_, w', ?_, g2, hW.out.quiet (Ext.refl _) _ (by decide) (fun _ => hd ⟨10, .data⟩ (by simp) rfl), fun _ _ => rfl, rfl⟩
          go_simp
        all_goals
          refine .inl ⟨_, w', ?_, g2, hW.out.quiet (Ext.refl _) _ (by decide) (fun e => absurd e (by decide)), fun _ _ => rfl, rfl⟩
          go_simp
      case hend =>
        intro g2 L w5 hall' hW5
        have hpl := hW5.2.2 (hall' 10 (by decide))
        have hg2 : Wa.heap.size ≤ g2 := hpl.1
        have HG2 := Lib.hid (And.intro hg2 hnl)
        have H0 : Hid (HdBlk w5 g (hdF l false) ∧ Ext w w5 ∧ HdBlk w5 w.heap.size Hd.zero ∧ w5.heap[n]? = some (.cells (numA l 0) 65 (0, 0)) ∧ w5.heap[g2]? = some (.cells (plcA (some ⟨bb, o, none⟩) c) 22 (0, 0))) :=
          ⟨HdBlk.ext HFa.out.1 hW5.1, HFa.out.2.1.trans hW5.1, HdBlk.ext HFa.out.2.2.1 hW5.1, Ext.heap hW5.1 HFa.out.2.2.2.1, hpl.2⟩
        clear hpl hall' hW5 k100 k108 k116 k124 k136 hg2 hnl
        go_wp2_with fail
        go_loopw [11] (fun i wr => ∃ k : Nat, k ≤ 5 ∧ i = .int .i64 k ∧ Hid (HdBlk wr g (hdF l false) ∧ Ext w wr ∧ HdBlk wr w.heap.size Hd.zero ∧ wr.heap[n]? = some (.cells (numA l k) 65 (0, 0)) ∧ wr.heap[g2]? = some (.cells (plcA (some ⟨bb, o, none⟩) c) 22 (0, 0)) ∧ ∀ j e, j < k → flds[j]? = some e → (fieldS (fld l e.1 e.2.1)).2 = true)) (fun i _ => 5 - (intOf i).toNat)
        case atStart => exact ⟨0, by omega, rfl, H0.out.1, H0.out.2.1, H0.out.2.2.1, H0.out.2.2.2.1, H0.out.2.2.2.2, fun j e hj => absurd hj (by omega)⟩
        case round =>
          obtain ⟨k, hk, rfl, HR⟩ := hrel
          by_cases hlt : k < 5
          · obtain ⟨e, he⟩ : ∃ e, flds[k]? = some e := ⟨flds[k]'(by simpa [flds] using hlt), by simp [show k < flds.length by simpa [flds] using hlt]⟩
            obtain ⟨a, m, ii⟩ := e
            have hm : (a, m, ii) ∈ flds := List.mem_of_getElem? he
            obtain ⟨bd1, bd2, bd3, bd4, bd5⟩ := flds_bd hm
            have qp : wr.cell? ⟨g2, k, none⟩ = some (.slice (cutA (some ⟨bb, o, none⟩) c a) m (c - a)) := cell_of HR.out.2.2.2.2.1 (plcA_at he)
            have HK := Lib.hid (And.intro hm he)
            clear hm he
            go_wp2_with fail
            obtain ⟨r, hr⟩ : ∃ r, r = rfS (fld l a m) := ⟨_, rfl⟩
            obtain ⟨r1, ok⟩ := r
            have hfl : (fld l a m).length = m := fld_length (by rw [HH.out]; omega)
            have hcl : 512 ≤ c := by have := HH.out; omega
            have hfp := ref_Field (cutA (some ⟨bb, o, none⟩) c a) (fld l a m) (c - a) wr (by omega) (by omega) (by omega) ((HB.out.ext HR.out.2.1).fld hc a m) (by omega)
            rw [hfl, ← hr] at hfp
            have HR1 := Lib.hid hr
            refine hfp.mono ?_
            clear hfp hr hfl qp
            rintro e w' ⟨rfl, rfl⟩
            cases ok
            · have e0 : parseS l = (Hd.zero, 4) := by
                unfold parseS
                rw [if_neg (by have := HH.out; omega), if_neg (by rw [Hsum.out.1, Hsum.out.2]; simp), if_neg (fun h => h (by rw [← Hmg.out, Hht.out.1]; simp)), if_pos]
                intro h
                have := (numOk_iff l).1 h a m ii HK.out.1
                rw [rf_field HR1.out] at this
                cases this
              have E0 := Lib.hid e0
              obtain ⟨q0, q1, q2, q3, q4, q5, q6, q7, q8⟩ := HR.out.2.2.1.cells
              have qf := HR.out.2.2.1.frozen
              clear e0
              go_wp2
              refine bodyPost_ret (v := .tuple #[Hd.zero.val, .int .i64 4]) ?_ rfl ⟨by rw [E0.out]; rfl, ?_⟩
              · simp [results, Tryd.results14, go_sem, q0, q1, q2, q3, q4, q5, q6, q7, q8]
                rfl
              · exact HR.out.2.1.setHd
            · have qn := cell_of HR.out.2.2.2.1 (numA_at l hlt)
              have qnf := frozen_of HR.out.2.2.2.1
              go_wp2
              refine ⟨⟨k + 1, by omega, by go_num, HdBlk.other HR.out.1 (by have := HFa.out.2.2.2.2; simp; omega) _, HR.out.2.1.setCell (by have := HFa.out.2.2.2.2; simp; omega) _, HdBlk.other HR.out.2.2.1 (by have := HFa.out.2.2.2.2; simp; omega) _, ?_, ?_, ?_⟩, by simp [intOf]; omega⟩
              · rw [heap_set1 HR.out.2.2.2.1, ← numA_set l HK.out.2, rf_field HR1.out]
                rfl
              · rw [Below.heap_setCell _ _ _ _ (by have := HG2.out; simp; omega)]
                exact HR.out.2.2.2.2.1
              · intro j e hj he
                by_cases ej : j = k
                · subst ej
                  rw [HK.out.2] at he
                  cases he
                  show (fieldS (fld l a m)).2 = true
                  rw [rf_field HR1.out]
                · exact HR.out.2.2.2.2.2 j e (by omega) he
          · obtain rfl : k = 5 := by omega
            have hnf : numOk l = true := (numOk_iff l).2 fun a m i hm => by
              obtain ⟨j, hj⟩ := List.getElem?_of_mem hm
              exact HR.out.2.2.2.2.2 j _ (by have := (List.getElem?_eq_some_iff.1 hj).1; simpa [flds] using this) hj
            have e0 : parseS l = (headS l, 0) := by
              unfold parseS
              rw [if_neg (by have := HH.out; omega), if_neg (by rw [Hsum.out.1, Hsum.out.2]; simp), if_neg (fun h => h (by rw [← Hmg.out, Hht.out.1]; simp)), if_neg (fun h => h hnf)]
            have E0 := Lib.hid e0
            have n0 : wr.cell? ⟨n, 0, none⟩ = some (.int .i64 ((fieldS (fld l 100 8)).1 : Int)) := cell_of HR.out.2.2.2.1 rfl
            have n1 : wr.cell? ⟨n, 1, none⟩ = some (.int .i64 ((fieldS (fld l 108 8)).1 : Int)) := cell_of HR.out.2.2.2.1 rfl
            have n2 : wr.cell? ⟨n, 2, none⟩ = some (.int .i64 ((fieldS (fld l 116 8)).1 : Int)) := cell_of HR.out.2.2.2.1 rfl
            have n3 : wr.cell? ⟨n, 3, none⟩ = some (.int .i64 ((fieldS (fld l 136 12)).1 : Int)) := cell_of HR.out.2.2.2.1 rfl
            have n4 : wr.cell? ⟨n, 4, none⟩ = some (.int .i64 ((fieldS (fld l 124 12)).1 : Int)) := cell_of HR.out.2.2.2.1 rfl
            obtain ⟨q0, q1, q2, q3, q4, q5, q6, q7, q8⟩ := HR.out.1.cells
            have qf := HR.out.1.frozen
            have hne : n ≠ g := by have := HFa.out.2.2.2.2; omega
            have hzg : w.heap.size ≠ g := HFa.out.2.2.2.2.2.2.2
            obtain ⟨z0, z1, z2, z3, z4, z5, z6, z7, z8⟩ := HR.out.2.2.1.cells
            have zf := HR.out.2.2.1.frozen
            clear e0 hnf
            go_wp2
            have hgw := HFa.out.2.2.2.2.2.2.1
            refine bodyPost_ret (v := .tuple #[(headS l).val, .int .i64 0]) ?_ rfl ⟨by rw [E0.out]; rfl, ?_⟩
            · have eh : (headS l).val = .agg #[.string (bs (hdF l false).name), .string (bs (hdF l false).link), .int .u8 ((hdF l false).kind.toNat : Int), .int .i64 (fieldS (fld l 100 8)).1, .int .i64 (fieldS (fld l 108 8)).1, .int .i64 (fieldS (fld l 116 8)).1, .int .i64 (fieldS (fld l 136 12)).1, .int .i64 (fieldS (fld l 124 12)).1, .bool (hdF l false).gnu] := by
                unfold Hd.val Hd.cells headS
                rw [Hht.out.2]
                rfl
              rw [eh]
              simp [results, Tryd.results14, go_sem, z0, z1, z2, z3, z4, z5, z6, z7, z8]
            · exact (((((HR.out.2.1.setCell (p := ⟨g, 3, none⟩) hgw _).setCell (p := ⟨g, 4, none⟩) hgw _).setCell (p := ⟨g, 5, none⟩) hgw _).setCell (p := ⟨g, 6, none⟩) hgw _).setCell (p := ⟨g, 7, none⟩) hgw _).setHd

set_option maxHeartbeats 16000000 in
set_option maxRecDepth 100000 in
theorem ref_Head_gnu (p : Option Addr) (l : List UInt8) (c : Nat) (w : World) (h : l.length = 512) (hc : l.length ≤ c) (hc2 : c ≤ 9223372036854775807) (hb : By w p l)
    (hs1 : (fieldS (fld l 148 8)).2 = true) (hs2 : (fieldS (fld l 148 8)).1 = sumS l) (ht : fld l 257 8 = gnuL) :
    Calls Tryd.prog 14 #[.slice p l.length c] w (ParsePost w l) := by
  have h' : ((l.length : Int) != 512) = false := bne_eq_false_iff_eq.2 (by omega)
  have hrf : rfS (fld l 148 8) = (sumS l, true) := by
    rw [fieldS_rf] at hs1 hs2
    unfold keepN at hs1 hs2
    simp only at hs1 hs2
    rw [if_pos hs1] at hs2
    exact Prod.ext hs2 hs1
  have HF : Hid (∀ W, Res w W → Calls Tryd.prog 34 #[.slice (cutA p c 148) 8 (c - 148)] W fun e w' => e = .returned (.tuple #[.int .i64 (sumS l), .bool true]) ∧ Res w w') := by
    intro W hW
    have hfp := ref_Field (cutA p c 148) (fld l 148 8) (c - 148) W (by rw [fld_length (by omega)]; omega) (by rw [fld_length (by omega)]; omega) (by omega) ((hb.ext hW.2).fld hc 148 8) (by rw [fld_length (by omega)]; omega)
    rw [fld_length (by omega), hrf] at hfp
    refine hfp.mono ?_
    rintro e w' ⟨rfl, rfl⟩
    exact ⟨rfl, hW⟩
  have HS : Hid (∀ W, Res w W → Calls Tryd.prog 21 #[.slice p l.length c] W fun e w' => e = .returned (.int .i64 (sumS l)) ∧ Res w w') := by
    intro W hW
    have hsm := ref_Sum p l c W h (hb.ext hW.2)
    rw [← h] at hsm
    refine hsm.mono ?_
    rintro e w' ⟨rfl, rfl⟩
    exact ⟨rfl, hW⟩
  have k148 := cut_mid 148 8 p c (by omega) l.length
  rw [show ((148 : Nat) : Int) + ((8 : Nat) : Int) = 156 from rfl, show ((148 : Nat) : Int) = 148 from rfl] at k148
  have k257 := cut_mid 257 8 p c (by omega) l.length
  rw [show ((257 : Nat) : Int) + ((8 : Nat) : Int) = 265 from rfl, show ((257 : Nat) : Int) = 257 from rfl] at k257
  have hne : ((sumS l : Int) != (sumS l : Int)) = false := by simp
  obtain ⟨bb, o, hp, hcell⟩ := hb.at_ (i := 156) (by omega)
  subst hp
  have HB := Lib.hid hb
  have HH := Lib.hid h
  have HC := Lib.hid hcell
  obtain ⟨mg, hmg⟩ : ∃ mg, mg = fld l 257 8 := ⟨_, rfl⟩
  rw [← hmg] at ht
  have hq1 : ((bs mg).toList == [117, 115, 116, 97, 114, 0, 48, 48]) = false := by rw [bs_toL, ht]; decide
  have hq2 : ((bs mg).toList == [117, 115, 116, 97, 114, 32, 32, 0]) = true := by rw [bs_toL, ht]; rfl
  have hgn : decide (fld l 257 8 = gnuL) = true := by rw [← hmg, ht]; decide
  have Hht := Lib.hid (And.intro ht hgn)
  have Hmg := Lib.hid hmg
  have Hsum := Lib.hid (And.intro hs1 hs2)
  obtain ⟨pr, hpr⟩ : ∃ pr, pr = untilS (fld l 345 155) := ⟨_, rfl⟩
  have hprl : (bs pr).size ≤ 155 := by rw [bs_size, hpr]; exact Nat.le_trans (untilS_length _) (by rw [fld_length (by omega)]; exact Nat.le_refl _)
  have hnml : (bs (untilS (fld l 0 100))).size ≤ 100 := by rw [bs_size]; exact Nat.le_trans (untilS_length _) (by rw [fld_length (by omega)]; exact Nat.le_refl _)
  have Hpr := Lib.hid hpr
  clear h hb hs1 hs2 hrf ht hmg hcell hgn hpr
  go_enter Tryd.func14, Tryd.ntmps14
  go_wp2_with fail
  refine (HF.out _ (Res.made w)).mono ?_
  rintro e w2 ⟨rfl, hR⟩
  have HR := Lib.hid hR
  clear hR
  go_wp2_with fail
  refine (HS.out _ HR.out).mono ?_
  rintro e w3 ⟨rfl, hR3⟩
  have ks := run_string_of (P := Tryd.prog) Tryd.underlying22 Tryd.underlying5 Tryd.underlying9 ((HB.out.ext hR3.2).fld hc 257 8) (c - 257)
  rw [fld_length (by rw [HH.out]; omega), ← Hmg.out] at ks
  have HR3 := Lib.hid hR3
  clear hR3 HF HS HR k148 hne
  have k100 := run_cut_to (P := Tryd.prog) Tryd.underlying22 info_u8 .i64 (some ⟨bb, o, none⟩) l.length c 100 (by omega) (by have := HH.out; omega)
  rw [show (100 : Int).toNat = 100 from rfl] at k100
  have k157 := cut_mid 157 100 (some ⟨bb, o, none⟩) c (by have := HH.out; omega) l.length
  rw [show ((157 : Nat) : Int) + ((100 : Nat) : Int) = 257 from rfl, show ((157 : Nat) : Int) = 157 from rfl] at k157
  go_wp2_with fail
  clear ks k257
  apply wp_region_genl (hdGVs (.slice (some ⟨bb, o, none⟩) l.length c) l true (bs mg) (.slice (some ⟨bb, o, none⟩) 100 c) (.slice (cutA (some ⟨bb, o, none⟩) c 157) 100 (c - 157)) bb o) (MkWI w3 (hdG l true) 12 13) 0
  case hm => kernel_rfl
  case hB => kernel_rfl
  case hlen => exact fun g => rfl
  case hds => rfl
  case h0 => exact ⟨Ext.drew w3, fun e => (by cases e), fun e => (by cases e)⟩
  case hF =>
    intro g
    simp only [finalF, hdGVs, Act.put, List.setIfInBounds_toArray, List.set_cons_succ, List.set_cons_zero]
    rfl
  case hstep =>
    simp only [AllO, Nat.zero_add, Nat.reduceAdd]
    refine ⟨?_, ?_, ?_, ?_, ?_, ?_, ?_, ?_, ?_, ?_, ?_, ?_, ?_, ?_, trivial⟩
    all_goals
      intro g L w' hW0 hi hd
      have hcell := Ext.cell (HR3.out.2.trans hW0.1) HC.out
      have hW := Lib.hid hW0
      have hlt : (156 : Int) < (l.length : Int) := by have := HH.out; omega
      clear hW0
    case refine_8 =>
      refine .inr (.inr ⟨35, #[.slice (some ⟨bb, o, none⟩) 100 c], w', .string (bs (untilS (fld l 0 100))), ?_, ?_⟩)
      · go_simp
      · have hl1 : (fld l 0 100).length = 100 := fld_length (by rw [HH.out]; omega)
        have hu := ref_until (some ⟨bb, o, none⟩) (fld l 0 100) c w' (by rw [hl1]; omega) (by rw [hl1]; have := HH.out; omega) (by
          have := ((HB.out.ext (HR3.out.2.trans hW.out.1)).take 100)
          unfold fld
          rw [List.drop_zero]
          exact this)
        rw [hl1] at hu
        refine hu.mono ?_
        rintro e w'' ⟨rfl, rfl⟩
        exact ⟨rfl, g, hW.out.quiet (Ext.refl _) _ (by decide) (by decide), fun _ _ => rfl, rfl⟩
    case refine_11 =>
      refine .inr (.inr ⟨35, #[.slice (cutA (some ⟨bb, o, none⟩) c 157) 100 (c - 157)], w', .string (bs (untilS (fld l 157 100))), ?_, ?_⟩)
      · go_simp
      · have hl1 : (fld l 157 100).length = 100 := fld_length (by rw [HH.out]; omega)
        have hu := ref_until (cutA (some ⟨bb, o, none⟩) c 157) (fld l 157 100) (c - 157) w' (by rw [hl1]; omega) (by rw [hl1]; have := HH.out; omega) ((HB.out.ext (HR3.out.2.trans hW.out.1)).fld hc 157 100)
        rw [hl1] at hu
        refine hu.mono ?_
        rintro e w'' ⟨rfl, rfl⟩
        exact ⟨rfl, g, hW.out.quiet (Ext.refl _) _ (by decide) (by decide), fun _ _ => rfl, rfl⟩
    case refine_12 =>
      refine .inl ⟨_, w', ?_, g, hW.out.quiet (Ext.refl _) _ (by decide) (by decide), fun _ _ => rfl, rfl⟩
      go_simp
      rfl
    case refine_13 =>
      have h13 : L 13 = false := by
        cases hh : L 13 with
        | false => rfl
        | true => have := hW.out.2.1 hh; rw [hi] at this; cases this
      refine .inl ⟨_, w'.alloc (.cells Hd.zero.cells 27), ?_, w'.heap.size, ⟨hW.out.1.trans (Ext.alloc _ _), ?_, ?_⟩, ?_, rfl⟩
      · go_simp
        rfl
      · intro e; simp
      · intro _
        refine ⟨hW.out.1.size, ?_⟩
        rw [if_neg (by simp [h13])]
        exact heap_alloc_new _ _
      · intro j hj
        have : j ≠ 12 := fun e => by rw [e, hi] at hj; cases hj
        rcases j with _ | _ | _ | _ | _ | _ | _ | _ | _ | _ | _ | _ | _ | _ | j <;> first | rfl | exact absurd rfl this
    case refine_14 =>
      have h12 : L 12 = true := hd ⟨12, .data⟩ (by simp) rfl
      have hB := (hW.out.2.2 h12).2
      rw [if_neg (by rw [hi]; decide)] at hB
      obtain ⟨q0, q1, q2, q3, q4, q5, q6, q7, q8⟩ := hB.cells
      have qf := hB.frozen
      obtain ⟨w1', hw1, hB1, hg1⟩ := hB.put_ex (hdG l true)
      have hE1 : Ext w3 w1' := Below.grown hW.out.1 hg1 hW.out.1.size (fun k hk => by cases hk; exact (hW.out.2.2 h12).1)
      have HX := Lib.hid (And.intro hB1 hE1)
      have HY := Lib.hid hw1
      clear hB hB1 hE1 hg1 hw1
      refine .inr (.inl ⟨undef, w1', ?_, rfl, g, ⟨HX.out.2, ?_, ?_⟩, fun _ _ => rfl, rfl⟩)
      rotate_left
      · exact fun _ => by simp [h12]
      · intro _
        refine ⟨(hW.out.2.2 h12).1, ?_⟩
        rw [if_pos (by simp)]
        exact HX.out.1
      · rw [← HY.out]
        unfold hdG Hd.val Hd.cells
        go_simp
    all_goals
      refine .inl ⟨_, w', ?_, g, hW.out.quiet (Ext.refl _) _ (by decide) (by decide), fun _ _ => rfl, rfl⟩
      go_simp
  case hend =>
    intro g L w4 hall' hW
    have hall : ∀ i, i < 14 → L i = true := hall'
    obtain ⟨hEw, _, hX⟩ := hW
    have hX' := hX (hall 12 (by decide))
    rw [if_pos (hall 13 (by decide))] at hX'
    have HG := Lib.hid (And.intro hX'.2 (And.intro hX'.1 (HR3.out.2.trans hEw)))
    have HZ4 := Lib.hid (HdBlk.ext HR3.out.1 hEw)
    clear hX hX' hall hall' hEw k157 k100 hq1 hq2
    have q2 := HG.out.1.cells.2.2.1
    have qf := HG.out.1.frozen
    obtain ⟨kd, hkd⟩ : ∃ kd, kd = l.getD 156 0 := ⟨_, rfl⟩
    have q2' : w4.cell? ⟨g, 2, none⟩ = some (.int .u8 (kd.toNat : Int)) := by rw [hkd]; exact q2
    have Hkd := Lib.hid hkd
    clear q2 hkd
    have hgw : w.heap.size ≤ g := Nat.le_trans HR3.out.2.size HG.out.2.1
    have hgz : w.heap.size ≠ g := by have h1 := HR3.out.1.lt; have h2 := HG.out.2.1; omega
    have HGW := Lib.hid (And.intro hgw hgz)
    clear hgw hgz
    go_upto_if 57 with (fail)
    go_cut [7] (fun s7 wd => s7 = .pointer (some ⟨g, 0, none⟩) ∧ Hid (HdBlk wd g { hdG l true with kind := kindS l } ∧ Ext w wd ∧ HdBlk wd w.heap.size Hd.zero))
    case first =>
      by_cases c1 : kd = 0
      · subst c1
        go_wp2_with fail
        go_meet
        refine ⟨rfl, ?_, HG.out.2.2.setCell HGW.out.1 _, HdBlk.other HZ4.out (Ne.symm HGW.out.2) _⟩
        have e1 : kindS l = 48 := by unfold kindS; rw [← Hkd.out]; rfl
        rw [e1]
        exact HdBlk.set_kind HG.out.1 48
      · have c1' : ((kd.toNat : Int) == 0) = false := beq_eq_false_iff_ne.2 fun e => c1 (UInt8.toNat_inj.1 (by simpa using e))
        have C1 := Lib.hid c1
        clear c1
        go_wp2_with fail
        go_meet
        refine ⟨rfl, ?_, HG.out.2.2, HZ4.out⟩
        have e1 : kindS l = (hdG l true).kind := by unfold kindS; rw [← Hkd.out, if_neg C1.out, Hkd.out]; rfl
        rw [e1]
        exact HG.out.1
    case rest =>
      obtain ⟨rfl, HDD⟩ := hcut
      clear qf q2' Hkd HG HZ4
      have k345 := cut_mid 345 155 (some ⟨bb, o, none⟩) c (by have := HH.out; omega) l.length
      rw [show ((345 : Nat) : Int) + ((155 : Nat) : Int) = 500 from rfl, show ((345 : Nat) : Int) = 345 from rfl] at k345
      have q0 : wc.cell? ⟨g, 0, none⟩ = some (.string (bs (untilS (fld l 0 100)))) := HDD.out.1.cells.1
      have q8 : wc.cell? ⟨g, 8, none⟩ = some (.bool true) := HDD.out.1.cells.2.2.2.2.2.2.2.2
      have qf := HDD.out.1.frozen
      go_wp2_with fail
      have hl1 : (fld l 345 155).length = 155 := fld_length (by rw [HH.out]; omega)
      have hu := ref_until (cutA (some ⟨bb, o, none⟩) c 345) (fld l 345 155) (c - 345) wc (by rw [hl1]; omega) (by rw [hl1]; have := HH.out; omega) ((HB.out.ext HDD.out.2.1).fld hc 345 155)
      rw [hl1, ← Hpr.out] at hu
      refine hu.mono ?_
      rintro e w' ⟨rfl, rfl⟩
      clear hu hl1
      go_wp2_with fail
      clear q0 q8 qf k345
      obtain ⟨W, hWW⟩ : ∃ W, W = wc := ⟨_, rfl⟩
      have hnm : nameS l = untilS (fld l 0 100) := by unfold nameS; rw [if_neg (fun h => by rw [← Hmg.out, Hht.out.1] at h; exact absurd h.1 (by decide))]
      have HF : Hid (HdBlk W g (hdF l true) ∧ Ext w W ∧ HdBlk W w.heap.size Hd.zero) := by
        rw [hWW]
        unfold hdF
        rw [hnm]
        exact ⟨HDD.out.1, HDD.out.2⟩
      rw [← hWW]
      clear hnm hWW
      clear HDD
      obtain ⟨n, hn⟩ : ∃ n, n = W.heap.size := ⟨_, rfl⟩
      obtain ⟨Wa, hWa⟩ : ∃ Wa, Wa = W.alloc (.cells #[.int .i64 0, .int .i64 0, .int .i64 0, .int .i64 0, .int .i64 0] 65) := ⟨_, rfl⟩
      rw [← hWa, ← hn]
      have hA : Wa.heap[n]? = some (.cells (numA l 0) 65 (0, 0)) := by rw [hWa, hn]; exact heap_alloc_new _ _
      have hEa : Ext W Wa := by rw [hWa]; exact Ext.alloc _ _
      have hnl : n < Wa.heap.size := (Array.getElem?_eq_some_iff.1 hA).1
      have hng : g < n ∧ w.heap.size < n ∧ w.heap.size ≤ g ∧ w.heap.size ≠ g := ⟨by rw [hn]; exact HF.out.1.lt, by rw [hn]; exact HF.out.2.2.lt, HGW.out⟩
      have HFa := Lib.hid (And.intro (HdBlk.ext HF.out.1 hEa) (And.intro (HF.out.2.1.trans hEa) (And.intro (HdBlk.ext HF.out.2.2 hEa) (And.intro hA hng))))
      clear HF hn hWa hA hEa hng HGW
      have k100 := cut_mid 100 8 (some ⟨bb, o, none⟩) c (by have := HH.out; omega) l.length
      rw [show ((100 : Nat) : Int) + ((8 : Nat) : Int) = 108 from rfl, show ((100 : Nat) : Int) = 100 from rfl] at k100
      have k108 := cut_mid 108 8 (some ⟨bb, o, none⟩) c (by have := HH.out; omega) l.length
      rw [show ((108 : Nat) : Int) + ((8 : Nat) : Int) = 116 from rfl, show ((108 : Nat) : Int) = 108 from rfl] at k108
      have k116 := cut_mid 116 8 (some ⟨bb, o, none⟩) c (by have := HH.out; omega) l.length
      rw [show ((116 : Nat) : Int) + ((8 : Nat) : Int) = 124 from rfl, show ((116 : Nat) : Int) = 116 from rfl] at k116
      have k136 := cut_mid 136 12 (some ⟨bb, o, none⟩) c (by have := HH.out; omega) l.length
      rw [show ((136 : Nat) : Int) + ((12 : Nat) : Int) = 148 from rfl, show ((136 : Nat) : Int) = 136 from rfl] at k136
      have k124 := cut_mid 124 12 (some ⟨bb, o, none⟩) c (by have := HH.out; omega) l.length
      rw [show ((124 : Nat) : Int) + ((12 : Nat) : Int) = 136 from rfl, show ((124 : Nat) : Int) = 124 from rfl] at k124
      apply wp_region_genl (plcVs (.slice (some ⟨bb, o, none⟩) l.length c) (some ⟨bb, o, none⟩) c) (MkRowI Wa (plcA (some ⟨bb, o, none⟩) c) 22 10 11) 0
      case hm => kernel_rfl
      case hB => kernel_rfl
      case hlen => exact fun g => rfl
      case hds => rfl
      case h0 => exact ⟨Ext.drew Wa, fun e => (by cases e), fun e => (by cases e)⟩
      case hF =>
        intro g2
        simp only [finalF, plcVs, Act.put, List.setIfInBounds_toArray, List.set_cons_succ, List.set_cons_zero]
        rfl
      case hstep =>
        simp only [AllO, Nat.zero_add, Nat.reduceAdd]
        refine ⟨?_, ?_, ?_, ?_, ?_, ?_, ?_, ?_, ?_, ?_, ?_, ?_, trivial⟩
        all_goals
          intro g2 L w' hW0 hi hd
          have hW := Lib.hid hW0
          clear hW0
        case refine_11 =>
          refine .inl ⟨_, w'.alloc (.cells (plcA (some ⟨bb, o, none⟩) c) 22), ?_, w'.heap.size, ⟨hW.out.1.trans (Ext.alloc _ _), ?_, ?_⟩, ?_, rfl⟩
          · go_simp
            rfl
          · intro _
            simp
          · intro _
            exact ⟨hW.out.1.size, heap_alloc_new _ _⟩
          · intro j hj
            have : j ≠ 10 := fun e => by rw [e, hi] at hj; cases hj
            have h11 : j ≠ 11 := fun e => by rw [e] at hj; have := hW.out.2.1 hj; rw [hi] at this; cases this
            rcases j with _ | _ | _ | _ | _ | _ | _ | _ | _ | _ | _ | _ | j <;> first | rfl | exact absurd rfl this | (exfalso; omega)
        case refine_12 =>
          refine .inl ⟨_, w', ?_, g2, hW.out.quiet (Ext.refl _) _ (by decide) (fun _ => hd ⟨10, .data⟩ (by simp) rfl), fun _ _ => rfl, rfl⟩
          go_simp
        all_goals
          refine .inl ⟨_, w', ?_, g2, hW.out.quiet (Ext.refl _) _ (by decide) (fun e => absurd e (by decide)), fun _ _ => rfl, rfl⟩
          go_simp
      case hend =>
        intro g2 L w5 hall' hW5
        have hpl := hW5.2.2 (hall' 10 (by decide))
        have hg2 : Wa.heap.size ≤ g2 := hpl.1
        have HG2 := Lib.hid (And.intro hg2 hnl)
        have H0 : Hid (HdBlk w5 g (hdF l true) ∧ Ext w w5 ∧ HdBlk w5 w.heap.size Hd.zero ∧ w5.heap[n]? = some (.cells (numA l 0) 65 (0, 0)) ∧ w5.heap[g2]? = some (.cells (plcA (some ⟨bb, o, none⟩) c) 22 (0, 0))) :=
          ⟨HdBlk.ext HFa.out.1 hW5.1, HFa.out.2.1.trans hW5.1, HdBlk.ext HFa.out.2.2.1 hW5.1, Ext.heap hW5.1 HFa.out.2.2.2.1, hpl.2⟩
        clear hpl hall' hW5 k100 k108 k116 k124 k136 hg2 hnl
        go_wp2_with fail
        go_loopw [11] (fun i wr => ∃ k : Nat, k ≤ 5 ∧ i = .int .i64 k ∧ Hid (HdBlk wr g (hdF l true) ∧ Ext w wr ∧ HdBlk wr w.heap.size Hd.zero ∧ wr.heap[n]? = some (.cells (numA l k) 65 (0, 0)) ∧ wr.heap[g2]? = some (.cells (plcA (some ⟨bb, o, none⟩) c) 22 (0, 0)) ∧ ∀ j e, j < k → flds[j]? = some e → (fieldS (fld l e.1 e.2.1)).2 = true)) (fun i _ => 5 - (intOf i).toNat)
        case atStart => exact ⟨0, by omega, rfl, H0.out.1, H0.out.2.1, H0.out.2.2.1, H0.out.2.2.2.1, H0.out.2.2.2.2, fun j e hj => absurd hj (by omega)⟩
        case round =>
          obtain ⟨k, hk, rfl, HR⟩ := hrel
          by_cases hlt : k < 5
          · obtain ⟨e, he⟩ : ∃ e, flds[k]? = some e := ⟨flds[k]'(by simpa [flds] using hlt), by simp [show k < flds.length by simpa [flds] using hlt]⟩
            obtain ⟨a, m, ii⟩ := e
            have hm : (a, m, ii) ∈ flds := List.mem_of_getElem? he
            obtain ⟨bd1, bd2, bd3, bd4, bd5⟩ := flds_bd hm
            have qp : wr.cell? ⟨g2, k, none⟩ = some (.slice (cutA (some ⟨bb, o, none⟩) c a) m (c - a)) := cell_of HR.out.2.2.2.2.1 (plcA_at he)
            have HK := Lib.hid (And.intro hm he)
            clear hm he
            go_wp2_with fail
            obtain ⟨r, hr⟩ : ∃ r, r = rfS (fld l a m) := ⟨_, rfl⟩
            obtain ⟨r1, ok⟩ := r
            have hfl : (fld l a m).length = m := fld_length (by rw [HH.out]; omega)
            have hcl : 512 ≤ c := by have := HH.out; omega
            have hfp := ref_Field (cutA (some ⟨bb, o, none⟩) c a) (fld l a m) (c - a) wr (by omega) (by omega) (by omega) ((HB.out.ext HR.out.2.1).fld hc a m) (by omega)
            rw [hfl, ← hr] at hfp
            have HR1 := Lib.hid hr
            refine hfp.mono ?_
            clear hfp hr hfl qp
            rintro e w' ⟨rfl, rfl⟩
            cases ok
            · have e0 : parseS l = (Hd.zero, 4) := by
                unfold parseS
                rw [if_neg (by have := HH.out; omega), if_neg (by rw [Hsum.out.1, Hsum.out.2]; simp), if_neg (fun h => h (by rw [← Hmg.out, Hht.out.1]; simp)), if_pos]
                intro h
                have := (numOk_iff l).1 h a m ii HK.out.1
                rw [rf_field HR1.out] at this
                cases this
              have E0 := Lib.hid e0
              obtain ⟨q0, q1, q2, q3, q4, q5, q6, q7, q8⟩ := HR.out.2.2.1.cells
              have qf := HR.out.2.2.1.frozen
              clear e0
              go_wp2
              refine bodyPost_ret (v := .tuple #[Hd.zero.val, .int .i64 4]) ?_ rfl ⟨by rw [E0.out]; rfl, ?_⟩
              · simp [results, Tryd.results14, go_sem, q0, q1, q2, q3, q4, q5, q6, q7, q8]
                rfl
              · exact HR.out.2.1.setHd
            · have qn := cell_of HR.out.2.2.2.1 (numA_at l hlt)
              have qnf := frozen_of HR.out.2.2.2.1
              go_wp2
              refine ⟨⟨k + 1, by omega, by go_num, HdBlk.other HR.out.1 (by have := HFa.out.2.2.2.2; simp; omega) _, HR.out.2.1.setCell (by have := HFa.out.2.2.2.2; simp; omega) _, HdBlk.other HR.out.2.2.1 (by have := HFa.out.2.2.2.2; simp; omega) _, ?_, ?_, ?_⟩, by simp [intOf]; omega⟩
              · rw [heap_set1 HR.out.2.2.2.1, ← numA_set l HK.out.2, rf_field HR1.out]
                rfl
              · rw [Below.heap_setCell _ _ _ _ (by have := HG2.out; simp; omega)]
                exact HR.out.2.2.2.2.1
              · intro j e hj he
                by_cases ej : j = k
                · subst ej
                  rw [HK.out.2] at he
                  cases he
                  show (fieldS (fld l a m)).2 = true
                  rw [rf_field HR1.out]
                · exact HR.out.2.2.2.2.2 j e (by omega) he
          · obtain rfl : k = 5 := by omega
            have hnf : numOk l = true := (numOk_iff l).2 fun a m i hm => by
              obtain ⟨j, hj⟩ := List.getElem?_of_mem hm
              exact HR.out.2.2.2.2.2 j _ (by have := (List.getElem?_eq_some_iff.1 hj).1; simpa [flds] using this) hj
            have e0 : parseS l = (headS l, 0) := by
              unfold parseS
              rw [if_neg (by have := HH.out; omega), if_neg (by rw [Hsum.out.1, Hsum.out.2]; simp), if_neg (fun h => h (by rw [← Hmg.out, Hht.out.1]; simp)), if_neg (fun h => h hnf)]
            have E0 := Lib.hid e0
            have n0 : wr.cell? ⟨n, 0, none⟩ = some (.int .i64 ((fieldS (fld l 100 8)).1 : Int)) := cell_of HR.out.2.2.2.1 rfl
            have n1 : wr.cell? ⟨n, 1, none⟩ = some (.int .i64 ((fieldS (fld l 108 8)).1 : Int)) := cell_of HR.out.2.2.2.1 rfl
            have n2 : wr.cell? ⟨n, 2, none⟩ = some (.int .i64 ((fieldS (fld l 116 8)).1 : Int)) := cell_of HR.out.2.2.2.1 rfl
            have n3 : wr.cell? ⟨n, 3, none⟩ = some (.int .i64 ((fieldS (fld l 136 12)).1 : Int)) := cell_of HR.out.2.2.2.1 rfl
            have n4 : wr.cell? ⟨n, 4, none⟩ = some (.int .i64 ((fieldS (fld l 124 12)).1 : Int)) := cell_of HR.out.2.2.2.1 rfl
            obtain ⟨q0, q1, q2, q3, q4, q5, q6, q7, q8⟩ := HR.out.1.cells
            have qf := HR.out.1.frozen
            have hne : n ≠ g := by have := HFa.out.2.2.2.2; omega
            have hzg : w.heap.size ≠ g := HFa.out.2.2.2.2.2.2.2
            obtain ⟨z0, z1, z2, z3, z4, z5, z6, z7, z8⟩ := HR.out.2.2.1.cells
            have zf := HR.out.2.2.1.frozen
            clear e0 hnf
            go_wp2
            have hgw := HFa.out.2.2.2.2.2.2.1
            refine bodyPost_ret (v := .tuple #[(headS l).val, .int .i64 0]) ?_ rfl ⟨by rw [E0.out]; rfl, ?_⟩
            · have eh : (headS l).val = .agg #[.string (bs (hdF l true).name), .string (bs (hdF l true).link), .int .u8 ((hdF l true).kind.toNat : Int), .int .i64 (fieldS (fld l 100 8)).1, .int .i64 (fieldS (fld l 108 8)).1, .int .i64 (fieldS (fld l 116 8)).1, .int .i64 (fieldS (fld l 136 12)).1, .int .i64 (fieldS (fld l 124 12)).1, .bool (hdF l true).gnu] := by
                unfold Hd.val Hd.cells headS
                rw [Hht.out.2]
                rfl
              rw [eh]
              simp [results, Tryd.results14, go_sem, z0, z1, z2, z3, z4, z5, z6, z7, z8]
            · exact (((((HR.out.2.1.setCell (p := ⟨g, 3, none⟩) hgw _).setCell (p := ⟨g, 4, none⟩) hgw _).setCell (p := ⟨g, 5, none⟩) hgw _).setCell (p := ⟨g, 6, none⟩) hgw _).setCell (p := ⟨g, 7, none⟩) hgw _).setHd

theorem ref_Head (p : Option Addr) (l : List UInt8) (c : Nat) (w : World) (hc : l.length ≤ c) (hc2 : c ≤ 9223372036854775807) (hb : By w p l) :
    Calls Tryd.prog 14 #[.slice p l.length c] w (ParsePost w l) := by
  by_cases h : l.length = 512
  · by_cases hs : (fieldS (fld l 148 8)).2 = true ∧ (fieldS (fld l 148 8)).1 = sumS l
    · by_cases h1 : fld l 257 8 = posixL
      · by_cases h2 : untilS (fld l 345 155) = []
        · exact ref_Head_posix0 p l c w h hc hc2 hb hs.1 hs.2 h1 h2
        · exact ref_Head_posix1 p l c w h hc hc2 hb hs.1 hs.2 h1 h2
      · by_cases h2 : fld l 257 8 = gnuL
        · exact ref_Head_gnu p l c w h hc hc2 hb hs.1 hs.2 h2
        · exact ref_Head_text p l c w h hc hc2 hb hs.1 hs.2 (fun e => e.elim h1 h2)
    · exact ref_Head_sum p l c w h hc hc2 hb hs
  · exact ref_Head_arg p l c w h
end Go.Proofs.YtpapbnmacjoihaaDoor
