/- bindlelaw09.WritePuts: the walk. -/
/- bindlelaw09.WritePuts: a good member. -/
import Derived.Test.YtpapbnmacjoihaaDoorPutT
import Derived.Test.YtpapbnmacjoihaaDoorPutR
import Derived.Test.YtpapbnmacjoihaaDoorRegionG
namespace Go.Proofs.YtpapbnmacjoihaaDoor
open Go.RowKit Go.Shelf

theorem light_one {e : Me} (h : lightS [e] = true) : Small e.m := by
  unfold lightS at h
  simp only [List.all_cons, List.all_nil, Bool.and_true, Bool.and_eq_true] at h
  have := fineB_iff.1 h.1
  exact ⟨by omega, by omega, by omega⟩
/-- the law's first blocks: the member, and a list of it. -/
theorem puts_made (w : World) (e : Me) (hb : By w e.p e.m.body) :
    MbBlk (w.alloc (.cells (e.m.cells e.v) 45)) w.heap.size e.m e.v ∧
    MbsAt ((w.alloc (.cells (e.m.cells e.v) 45)).alloc (.cells (e.m.cells e.v) 45)) (some ⟨w.heap.size + 1, 0, none⟩) [e] := by
  have E1 := Ext.alloc w (.cells (e.m.cells e.v) 45)
  have b1 : MbBlk (w.alloc (.cells (e.m.cells e.v) 45)) w.heap.size e.m e.v := heap_alloc_new _ _
  have s1 : (w.alloc (.cells (e.m.cells e.v) 45)).heap.size = w.heap.size + 1 := by simp
  refine ⟨b1, ?_⟩
  generalize w.alloc (.cells (e.m.cells e.v) 45) = w1 at *
  rw [← s1]
  exact MbsAt.one (heap_alloc_new _ _) (hb.ext (E1.trans (Ext.alloc _ _)))

set_option maxHeartbeats 4000000 in
set_option maxRecDepth 100000 in
theorem writePuts_dark (e : Me) (w : World) (hw : HW w) (hb : By w e.p e.m.body) (hl : lightS [e] = false) :
    Calls Tryd.prog 9 #[e.m.val e.v] w fun x w' => x = .returned (.bool true) ∧ Ext w w' := by
  obtain ⟨h1, h2⟩ := puts_made w e hb
  have hE := (Ext.alloc w (.cells (e.m.cells e.v) 45)).trans (Ext.alloc _ (.cells (e.m.cells e.v) 45))
  have hli := law_light (some ⟨w.heap.size + 1, 0, none⟩) 1 [e] _ h2
  rw [hl] at hli
  have HL := Lib.hid (And.intro hli hE)
  have HH := Lib.hid hw
  clear hli h1 h2 hE hw hb hl
  unfold Mb.val Me.v Mb.cells at *
  go_enter Tryd.func9, Tryd.ntmps9
  go_wp2_with fail
  refine HL.out.1.mono ?_
  rintro x w1 ⟨rfl, rfl⟩
  go_wp2_with fail
  refine (answers9 _ (HH.out.ext HL.out.2)).mono ?_
  rintro x w2 ⟨rfl, hE⟩
  go_wp2
  go_ret
  exact ⟨rfl, HL.out.2.trans hE⟩

set_option maxHeartbeats 4000000 in
set_option maxRecDepth 100000 in
theorem writePuts_bad (e : Me) (w : World) (hw : HW w) (hb : By w e.p e.m.body) (hl : lightS [e] = true) (hg : goodS e.m = false) :
    Calls Tryd.prog 9 #[e.m.val e.v] w fun x w' => x = .returned (.bool true) ∧ Ext w w' := by
  obtain ⟨h1, h2⟩ := puts_made w e hb
  have hsm := light_one hl
  have hE := (Ext.alloc w (.cells (e.m.cells e.v) 45)).trans (Ext.alloc _ (.cells (e.m.cells e.v) 45))
  have hli := law_light (some ⟨w.heap.size + 1, 0, none⟩) 1 [e] _ h2
  rw [hl] at hli
  have hmb := MbBlk.ext h1 (Ext.alloc _ (.cells (e.m.cells e.v) 45))
  have HL := Lib.hid (And.intro hli (And.intro hE hmb))
  have HH := Lib.hid (And.intro hw (And.intro hb (And.intro hsm hg)))
  have hsz0 : sizeL [e] = 0 := by unfold sizeL putM; simp [hg]
  have HS := Lib.hid hsz0
  obtain ⟨z0, z1, z2, z3, z4, z5, z6, z7⟩ := hmb.cells
  clear hli h1 h2 hE hw hb hl hsm hg hmb hsz0
  unfold Mb.val Me.v Mb.cells at *
  go_enter Tryd.func9, Tryd.ntmps9
  go_wp2_with fail
  refine HL.out.1.mono ?_
  rintro x w1 ⟨rfl, rfl⟩
  go_wp2_with fail
  refine (write_Put_bad e.m e.p e.c _ HH.out.2.2.1.pl HH.out.2.2.1.tl HH.out.2.2.1.bl (HH.out.1.ext HL.out.2.1) HH.out.2.2.2).mono ?_
  rintro x w2 ⟨rfl, hE2⟩
  have hG := ref_Good e.m e.p e.c w2 HH.out.2.2.1.pl HH.out.2.2.1.tl HH.out.2.2.1.bl
  rw [HH.out.2.2.2] at hG
  have HG := Lib.hid hG
  have hm2 := MbBlk.ext HL.out.2.2 hE2
  have HE := Lib.hid (And.intro (HL.out.2.1.trans hE2) hm2)
  obtain ⟨z0, z1, z2, z3, z4, z5, z6, z7⟩ := hm2.cells
  clear hE2 hm2 hG
  unfold Me.v at *
  go_wp2_with fail
  refine HG.out.mono ?_
  rintro x w3 ⟨rfl, hE3⟩
  have HE3 := Lib.hid (And.intro (HE.out.1.trans hE3) (HE.out.2.ext hE3))
  clear hE3 z0 z1 z2 z3 z4 z5 z6 z7
  go_wp2_with fail
  refine (answers9 _ (HH.out.1.ext HE3.out.1)).mono ?_
  rintro x w4 ⟨rfl, hE4⟩
  have hm4 := HE3.out.2.ext hE4
  have HE4 := Lib.hid (HE3.out.1.trans hE4)
  obtain ⟨z0, z1, z2, z3, z4, z5, z6, z7⟩ := hm4.cells
  clear hE4 hm4
  unfold Me.v at *
  go_wp2_with fail
  have hM : MbsAt (w4.alloc (.cells (e.m.cells e.v) 45)) (some ⟨w4.heap.size, 0, none⟩) [e] := MbsAt.one (heap_alloc_new _ _) (HH.out.2.1.ext (HE4.out.trans (Ext.alloc _ _)))
  refine (write_Size (some ⟨w4.heap.size, 0, none⟩) 1 [e] _ hM (by simp) (by intro x he; obtain rfl := List.mem_singleton.1 he; exact HH.out.2.2.1) (HH.out.1.ext (HE4.out.trans (Ext.alloc _ _)))).mono ?_
  clear hM
  rintro x w5 ⟨rfl, hE5⟩
  rw [HS.out]
  go_wp2
  go_ret
  exact ⟨rfl, HE4.out.trans ((Ext.alloc _ _).trans hE5)⟩
end Go.Proofs.YtpapbnmacjoihaaDoor

namespace Go.Proofs.YtpapbnmacjoihaaDoor
open Go.RowKit Go.Shelf

def goodVs (bv : Value) (X : List UInt8) (mv : Value) (g : Value × Nat) : List Value :=
  [.bool true, .bool true, .int .i64 0, .bool true, .bool true, .bool true, bv, .string (bs X), mv, g.1, .string (bs X), .bool true, .bool true, .bool true, mv, .slice (some ⟨g.2, 0, none⟩) 1 1, .int .i64 (X.length : Int), bv, .int .i64 (X.length : Int), .bool true, .bool true, .bool true, bv, .int .i64 (X.length : Int), .int .i64 0, .bool true, .bool true, .bool true]
theorem goodVs_one (bv : Value) (X : List UInt8) (mv a a' : Value) (n : Nat) (j : Nat) (h : j ≠ 9) : (goodVs bv X mv (a', n))[j]? = (goodVs bv X mv (a, n))[j]? := by
  rcases j with _ | _ | _ | _ | _ | _ | _ | _ | _ | _ | j <;> first | rfl | exact absurd rfl h
theorem goodVs_two (bv : Value) (X : List UInt8) (mv a : Value) (n n' : Nat) (j : Nat) (h : j ≠ 15) : (goodVs bv X mv (a, n'))[j]? = (goodVs bv X mv (a, n))[j]? := by
  rcases j with _ | _ | _ | _ | _ | _ | _ | _ | _ | _ | _ | _ | _ | _ | _ | _ | j <;> first | rfl | exact absurd rfl h
def GoodWI (W0 : World) (e : Me) (X : List UInt8) (g : Value × Nat) (L : Nat → Bool) (w' : World) : Prop :=
  Ext W0 w' ∧ (L 9 = true → Rw W0.heap.size w' g.1 X) ∧ (L 15 = true → MbsAt w' (some ⟨g.2, 0, none⟩) [e])
theorem GoodWI.quiet {W0 w' w2 : World} {e : Me} {X : List UInt8} {g : Value × Nat} {L : Nat → Bool} (h : GoodWI W0 e X g L w') (i : Nat) (h9 : i ≠ 9) (h15 : i ≠ 15) (hE : Ext w' w2) :
    GoodWI W0 e X g (fun j => if j = i then true else L j) w2 := by
  unfold GoodWI
  simp only [if_neg (Ne.symm h9), if_neg (Ne.symm h15)]
  exact ⟨h.1.trans hE, fun x => (h.2.1 x).ext hE, fun x => (h.2.2 x).ext hE⟩

set_option maxHeartbeats 8000000 in
set_option maxRecDepth 100000 in
theorem writePuts_good (e : Me) (w : World) (hw : HW w) (hb : By w e.p e.m.body) (hl : lightS [e] = true) (hg : goodS e.m = true) :
    Calls Tryd.prog 9 #[e.m.val e.v] w fun x w' => x = .returned (.bool true) ∧ Ext w w' := by
  obtain ⟨h1, h2⟩ := puts_made w e hb
  have hsm := light_one hl
  have hE := (Ext.alloc w (.cells (e.m.cells e.v) 45)).trans (Ext.alloc _ (.cells (e.m.cells e.v) 45))
  have hli := law_light (some ⟨w.heap.size + 1, 0, none⟩) 1 [e] _ h2
  rw [hl] at hli
  have hmb := MbBlk.ext h1 (Ext.alloc _ (.cells (e.m.cells e.v) 45))
  have HL := Lib.hid (And.intro hli (And.intro hE hmb))
  have HH := Lib.hid (And.intro hw (And.intro hb (And.intro hsm hg)))
  have hsz0 : sizeL [e] = (memS e.m).length := by unfold sizeL putM; simp [hg]
  have hgm := good_parts hg
  have hlen : (memS e.m).length % 512 = 0 := by
    rw [memS_len hgm]
    have h3 := padN_ge e.m.body.length
    have : (paxS e.m).length % 512 = 0 := by
      unfold paxS
      split
      · rfl
      · rw [List.length_append, padL_length, rowS_len (pax_fits _ (by have := lines_le hgm; omega))]
        have := padN_ge (linesS (rc5 e.m)).length
        omega
    omega
  have hle := putM_le e.m
  unfold putM at hle
  rw [if_pos hg] at hle
  have HS := Lib.hid (And.intro hsz0 (And.intro hgm (And.intro hlen hle)))
  obtain ⟨z0, z1, z2, z3, z4, z5, z6, z7⟩ := hmb.cells
  clear hli h1 h2 hE hw hb hl hsm hg hmb hsz0 hgm hlen hle
  unfold Mb.val Me.v Mb.cells at *
  go_enter Tryd.func9, Tryd.ntmps9
  go_wp2_with fail
  refine HL.out.1.mono ?_
  rintro x w1 ⟨rfl, rfl⟩
  go_wp2_with fail
  refine (write_Put e.m e.p e.c _ (HH.out.1.ext HL.out.2.1) HH.out.2.2.2 (HH.out.2.1.ext HL.out.2.1)).mono ?_
  intro x w2 H
  obtain ⟨v, rfl, hR, hE2⟩ := H.out
  obtain ⟨vp, vc, rfl, hvb, -, -, -, -⟩ := hR.shape
  have hG := ref_Good e.m e.p e.c w2 HH.out.2.2.1.pl HH.out.2.2.1.tl HH.out.2.2.1.bl
  rw [HH.out.2.2.2] at hG
  have HG := Lib.hid (And.intro hG hvb)
  have hm2 := MbBlk.ext HL.out.2.2 hE2
  have HE := Lib.hid (And.intro (HL.out.2.1.trans hE2) hm2)
  obtain ⟨z0, z1, z2, z3, z4, z5, z6, z7⟩ := hm2.cells
  clear hE2 hm2 hG hR hvb H
  unfold Me.v at *
  generalize hX : memS e.m = X at *
  have HX := Lib.hid hX
  clear hX
  go_wp2_with fail
  refine HG.out.1.mono ?_
  rintro x w3 ⟨rfl, hE3⟩
  have HE3 := Lib.hid (And.intro (HE.out.1.trans hE3) (And.intro (HE.out.2.ext hE3) (HG.out.2.ext hE3)))
  clear hE3 z0 z1 z2 z3 z4 z5 z6 z7
  go_wp2_with fail
  apply wp_region_genlG (goodVs (.slice vp X.length vc) X (e.m.val e.v)) (GoodWI w3 e X) (undef, 0)
  case hm => kernel_rfl
  case hB => kernel_rfl
  case hlen => exact fun g => rfl
  case hG =>
    intro g
    simp only [AllO]
    exact ⟨trivial, trivial, rfl, rfl, trivial, trivial, rfl, rfl, rfl, rfl, rfl, rfl, trivial, trivial, rfl, rfl, rfl, rfl, rfl, rfl, trivial, trivial, rfl, rfl, rfl, rfl, trivial, trivial, trivial⟩
  case hds => rfl
  case h0 => exact ⟨Ext.drew w3, fun x => (by cases x), fun x => (by cases x)⟩
  case hF =>
    intro g
    simp only [finalF, goodVs, Act.put, List.setIfInBounds_toArray, List.set_cons_succ, List.set_cons_zero]
    rfl
  case hstep =>
    simp only [AllO, Nat.zero_add, Nat.reduceAdd]
    refine ⟨?_, ?_, ?_, ?_, ?_, ?_, ?_, ?_, ?_, ?_, ?_, ?_, ?_, ?_, ?_, ?_, ?_, ?_, ?_, ?_, ?_, ?_, ?_, ?_, ?_, ?_, ?_, ?_, trivial⟩
    all_goals
      intro g L w' hW0 hi hd
      have hW := Lib.hid hW0
      clear hW0
    case refine_1 =>
      refine .inr (.inr ⟨23, #[], w', ?_, ?_⟩)
      · go_simp
      · refine (answers9 w' (HH.out.1.ext (HE3.out.1.trans hW.out.1))).mono ?_
        rintro x w'' ⟨rfl, hE⟩
        exact ⟨_, rfl, g, hW.out.quiet 0 (by decide) (by decide) hE, fun _ _ => rfl, rfl⟩
    case refine_8 =>
      have ks := run_string_of (P := Tryd.prog) Tryd.underlying22 Tryd.underlying5 Tryd.underlying9 (HE3.out.2.2.ext hW.out.1) vc
      refine .inl ⟨_, w', ?_, g, hW.out.quiet _ (by decide) (by decide) (Ext.refl _), fun _ _ => rfl, rfl⟩
      go_simp
    case refine_9 =>
      obtain ⟨z0, z1, z2, z3, z4, z5, z6, z7⟩ := (HE3.out.2.1.ext hW.out.1).cells
      refine .inl ⟨_, w', ?_, g, hW.out.quiet _ (by decide) (by decide) (Ext.refl _), fun _ _ => rfl, rfl⟩
      unfold Mb.val Mb.cells Me.v at *
      go_simp
    case refine_10 =>
      obtain ⟨g1, g2⟩ := g
      refine .inr (.inr ⟨27, #[e.m.val e.v], w', ?_, ?_⟩)
      · go_simp
      · refine (ref_Put e.m e.p e.c w' HS.out.2.1 (HH.out.2.1.ext (HE3.out.1.trans hW.out.1))).mono ?_
        intro x w'' H
        obtain ⟨v', rfl, hR, hE⟩ := H.out
        rw [HX.out] at hR
        refine ⟨v', rfl, (v', g2), ⟨hW.out.1.trans hE, fun _ => hR.mono hW.out.1.size, fun h15 => (hW.out.2.2 (by simpa using h15)).ext hE⟩, ?_, rfl⟩
        intro j hj
        have : j ≠ 9 := fun x => by rw [x, hi] at hj; cases hj
        exact goodVs_one _ _ _ _ _ _ _ this
    case refine_11 =>
      have h9 : L 9 = true := hd ⟨9, .data⟩ (by simp) rfl
      obtain ⟨g1, g2⟩ := g
      obtain ⟨q, k, hq, hqb, -, -, -, -⟩ := Rw.shape (hW.out.2.1 h9)
      have hq : g1 = .slice q X.length k := hq
      subst hq
      have ks := run_string_of (P := Tryd.prog) Tryd.underlying22 Tryd.underlying5 Tryd.underlying9 hqb k
      refine .inl ⟨_, w', ?_, (_, g2), hW.out.quiet _ (by decide) (by decide) (Ext.refl _), fun _ _ => rfl, rfl⟩
      go_simp
    case refine_15 =>
      obtain ⟨z0, z1, z2, z3, z4, z5, z6, z7⟩ := (HE3.out.2.1.ext hW.out.1).cells
      refine .inl ⟨_, w', ?_, g, hW.out.quiet _ (by decide) (by decide) (Ext.refl _), fun _ _ => rfl, rfl⟩
      unfold Mb.val Mb.cells Me.v at *
      go_simp
    case refine_16 =>
      obtain ⟨g1, g2⟩ := g
      have hEa := Ext.alloc w' (.cells (e.m.cells e.v) 45)
      have hM : MbsAt (w'.alloc (.cells (e.m.cells e.v) 45)) (some ⟨w'.heap.size, 0, none⟩) [e] := MbsAt.one (heap_alloc_new _ _) (HH.out.2.1.ext ((HE3.out.1.trans hW.out.1).trans hEa))
      refine .inl ⟨_, w'.alloc (.cells (e.m.cells e.v) 45), ?_, (g1, w'.heap.size), ⟨hW.out.1.trans hEa, fun h9 => (hW.out.2.1 (by simpa using h9)).ext hEa, fun _ => hM⟩, ?_, rfl⟩
      · unfold Mb.val Mb.cells Me.v
        clear hM hEa
        go_simp
        try rfl
      · intro j hj
        have : j ≠ 15 := fun x => by rw [x, hi] at hj; cases hj
        exact goodVs_two _ _ _ _ _ _ _ this
    case refine_17 =>
      have h15 : L 15 = true := hd ⟨15, .data⟩ (by simp) rfl
      refine .inr (.inr ⟨26, #[.slice (some ⟨g.2, 0, none⟩) 1 1], w', ?_, ?_⟩)
      · go_simp
      · refine (write_Size (some ⟨g.2, 0, none⟩) 1 [e] w' (hW.out.2.2 h15) (by simp) (by intro x he; obtain rfl := List.mem_singleton.1 he; exact HH.out.2.2.1) (HH.out.1.ext (HE3.out.1.trans hW.out.1))).mono ?_
        rintro x w'' ⟨rfl, hE⟩
        rw [HS.out.1]
        exact ⟨_, rfl, g, hW.out.quiet _ (by decide) (by decide) hE, fun _ _ => rfl, rfl⟩
    case refine_25 =>
      have h512 : ((X.length : Int) % 512) = 0 := by have := HS.out.2.2.1; omega
      have h512' : ((X.length : Int).tmod 512) = 0 := by rw [Int.tmod_eq_emod_of_nonneg (by omega)]; exact h512
      refine .inl ⟨_, w', ?_, g, hW.out.quiet _ (by decide) (by decide) (Ext.refl _), fun _ _ => rfl, rfl⟩
      go_simp
    all_goals
      refine .inl ⟨_, w', ?_, g, hW.out.quiet _ (by decide) (by decide) (Ext.refl _), fun _ _ => rfl, rfl⟩
      go_simp
  case hend =>
    intro g L w4 hall' hW
    have HQ := Lib.hid (HE3.out.1.trans hW.1)
    clear hW hall'
    go_wp2
    go_ret
    exact ⟨rfl, HQ.out⟩
theorem writePuts_walk (w : World) (hw : HW w) (e : Me) (hb : By w e.p e.m.body) :
    Calls Tryd.prog 9 #[e.m.val e.v] w fun x w' => x = .returned (.bool true) ∧ Ext w w' := by
  cases hl : lightS [e] with
  | false => exact writePuts_dark e w hw hb hl
  | true =>
    cases hg : goodS e.m with
    | false => exact writePuts_bad e w hw hb hl hg
    | true => exact writePuts_good e w hw hb hl hg
end Go.Proofs.YtpapbnmacjoihaaDoor
