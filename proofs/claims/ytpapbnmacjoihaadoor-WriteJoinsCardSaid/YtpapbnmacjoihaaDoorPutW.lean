/- write.Put. -/
import Derived.Test.YtpapbnmacjoihaaDoorPutQ
import Derived.Test.YtpapbnmacjoihaaDoorSplB
import Derived.Test.YtpapbnmacjoihaaDoorPutB
namespace Go.Proofs.YtpapbnmacjoihaaDoor
open Go.RowKit Go.Shelf

theorem RowPost.row {w : World} {h : Hd} {e : Ending} {w' : World} (H : RowPost w (putHeadS h) e w') :
    ∃ p c ok, e = .returned (.tuple #[.slice p (rowS h).length c, .bool ok]) ∧ By w' p (rowS h) ∧ (∀ a, p = some a → w.heap.size ≤ a.block) ∧ Ext w w' := by
  obtain ⟨h1, h2, h3⟩ := H
  cases hr : putHeadS h with
  | none =>
    have e0 : rowS h = [] := by unfold rowS; rw [hr]; rfl
    rw [e0]
    exact ⟨none, 0, false, h2 hr, By.nil _ _, fun a e => (by cases e), h3⟩
  | some D =>
    have e0 : rowS h = D := by unfold rowS; rw [hr]; rfl
    rw [e0]
    obtain ⟨g, hg, he, hb⟩ := h1 D hr
    exact ⟨some ⟨g, 0, none⟩, D.length, true, he, hb.by_, fun a e => (by cases e; exact hg), h3⟩
theorem By.fr {base sk : Nat} {w w' : World} {p : Option Addr} {l : List UInt8} (h : By w p l) (hF : Fr base sk w w') (hp : ∀ a, p = some a → a.block < base ∧ a.block ≠ sk) : By w' p l := fun h0 => by
  obtain ⟨b, o, rfl, hc⟩ := h h0
  refine ⟨b, o, rfl, fun i hi => ?_⟩
  have := hp _ rfl
  exact (World.cell?_of_block (w := w) (hF.block b this.1 this.2)).trans (hc i hi)
theorem Snk.mono {base B sk : Nat} {w : World} {l : List UInt8} (h : Snk base w sk l) (hB : B ≤ base) (hs : sk < B) : Snk B w sk l := by
  obtain ⟨_, h2, v, h3, h4⟩ := h
  exact ⟨hs, Nat.le_trans hB h2, v, h3, h4.mono hB⟩
/-- write.Put's blocks: the member, the header, the sink. -/
def PutI (w : World) (m : Mb) (v : Value) (gh : Nat) (l : List UInt8) (wx : World) : Prop :=
  Ext w wx ∧ w.heap.size < gh ∧ MbBlk wx w.heap.size m v ∧ HdBlk wx gh (hm5 m) ∧ Snk (gh + 1 + 1) wx (gh + 1) l
theorem PutI.ext {w : World} {m : Mb} {v : Value} {gh : Nat} {l : List UInt8} {wx w2 : World} (h : PutI w m v gh l wx) (hE : Ext wx w2) : PutI w m v gh l w2 :=
  ⟨h.1.trans hE, h.2.1, h.2.2.1.ext hE, h.2.2.2.1.ext hE, h.2.2.2.2.ext hE⟩
theorem PutI.fr {w : World} {m : Mb} {v : Value} {gh base : Nat} {l l' : List UInt8} {wx w2 : World} (h : PutI w m v gh l wx) (hb : gh + 1 + 1 ≤ base) (hF : Fr base (gh + 1) wx w2) (hS : Snk base w2 (gh + 1) l') : PutI w m v gh l' w2 := by
  have := h.2.1
  exact ⟨hF.ext h.1 (by omega) (by omega), h.2.1, hF.heap h.2.2.1 (by omega) (by omega), hF.heap h.2.2.2.1 (by omega) (by omega), hS.mono hb (by omega)⟩
set_option maxHeartbeats 4000000 in
set_option maxRecDepth 100000 in
theorem write_Put_bad (m : Mb) (p : Option Addr) (c : Nat) (w : World) (hp : m.path.length ≤ 1000000) (ht : m.target.length ≤ 1000000) (hbl : m.body.length ≤ 9000000000000000000) (hw : HW w) (hg : goodS m = false) :
    Calls Tryd.prog 24 #[m.val (.slice p m.body.length c)] w fun e w' => e = .returned (.tuple #[.slice none 0 0, .int .i64 1]) ∧ Ext w w' := by
  have hE0 := Ext.alloc w (.cells (m.cells (.slice p m.body.length c)) 45)
  have hG := member_Good m p c _ hp ht hbl (hw.ext hE0)
  rw [hg] at hG
  have HG := Lib.hid hG
  have HE := Lib.hid hE0
  clear hG hg hw hE0
  unfold Mb.val Mb.cells at *
  go_enter Tryd.func24, Tryd.ntmps24
  go_wp2_with fail
  refine HG.out.mono ?_
  rintro e w1 ⟨rfl, hE⟩
  go_wp2
  go_ret2
  exact ⟨rfl, HE.out.trans hE⟩

set_option maxHeartbeats 8000000 in
set_option maxRecDepth 100000 in
theorem write_Put (m : Mb) (p : Option Addr) (c : Nat) (w : World) (hw : HW w) (hg : goodS m = true) (hb : By w p m.body) :
    Calls Tryd.prog 24 #[m.val (.slice p m.body.length c)] w fun e w' => Hid (∃ v, e = .returned (.tuple #[v, .int .i64 0]) ∧ Rw w.heap.size w' v (memS m) ∧ Ext w w') := by
  have hgm := good_parts hg
  have hE0 := Ext.alloc w (.cells (m.cells (.slice p m.body.length c)) 45)
  have hB0 : MbBlk (w.alloc (.cells (m.cells (.slice p m.body.length c)) 45)) w.heap.size m (.slice p m.body.length c) := heap_alloc_new _ _
  have hG := member_Good m p c _ (by have := hgm.pl; omega) (by have := hgm.tl; omega) (by have := hgm.body; omega) (hw.ext hE0)
  rw [hg] at hG
  have HG := Lib.hid (And.intro hE0 (And.intro hB0 hG))
  have HM := Lib.hid hgm
  have HW' := Lib.hid (And.intro hw hb)
  clear hG hg hw hE0 hB0 hgm hb
  unfold Mb.val Mb.cells at *
  go_enter Tryd.func24, Tryd.ntmps24
  go_wp2_with fail
  refine HG.out.2.2.mono ?_
  rintro e w1 ⟨rfl, hE1⟩
  have HB1 := Lib.hid (And.intro (HG.out.1.trans hE1) (HG.out.2.1.ext hE1))
  clear HG hE1
  obtain ⟨z0, z1, z2, z3, z4, z5, z6, z7⟩ := HB1.out.2.cells
  go_wp2_with fail
  refine (write_split m p c w1 (by have := HM.out.pl; omega) (by have := HM.out.tl; omega) (HW'.out.1.ext HB1.out.1) HM.out.uid.1 HM.out.gid.1 HM.out.time.1 (by have := HM.out.uid; omega) (by have := HM.out.gid; omega) (by have := HM.out.time; omega)).mono ?_
  intro e w2 H
  obtain ⟨lv, rfl, hrow, hE2⟩ := H.out
  obtain ⟨lp, lc, rfl, hat, -, -⟩ := hrow.shape
  have hE3 := Ext.alloc w2 (.cells (hm5 m).cells 27)
  have hh : HdBlk (w2.alloc (.cells (hm5 m).cells 27)) w2.heap.size (hm5 m) := heap_alloc_new _ _
  have hE4 := Ext.alloc (w2.alloc (.cells (hm5 m).cells 27)) (.cells #[.slice none 0 0] 77)
  have hsk : ((w2.alloc (.cells (hm5 m).cells 27)).alloc (.cells #[.slice none 0 0] 77)).heap[w2.heap.size + 1]? = some (.cells #[.slice none 0 0] 77 (0, 0)) := by
    have := heap_alloc_new (w2.alloc (.cells (hm5 m).cells 27)) (.cells #[.slice none 0 0] 77)
    rwa [show (w2.alloc (.cells (hm5 m).cells 27)).heap.size = w2.heap.size + 1 from by simp] at this
  have hI : PutI w m (.slice p m.body.length c) w2.heap.size [] ((w2.alloc (.cells (hm5 m).cells 27)).alloc (.cells #[.slice none 0 0] 77)) := by
    refine ⟨(HB1.out.1.trans hE2).trans (hE3.trans hE4), ?_, HB1.out.2.ext (hE2.trans (hE3.trans hE4)), hh.ext hE4, by omega, by simp, _, hsk, Rw.nil _ _⟩
    exact Nat.lt_of_lt_of_le HB1.out.2.lt hE2.size
  have HI := Lib.hid (And.intro hI (And.intro hsk (hat.ext (hE3.trans hE4))))
  clear hI hsk hat hE2 hE3 hE4 hh hrow H z0 z1 z2 z3 z4 z5 z6 z7
  unfold Hd.val Hd.cells
  go_upto_if 24 with fail
  go_cut [] (fun wd => Hid (PutI w m (.slice p m.body.length c) w2.heap.size (paxS m) wd))
  case first =>
    by_cases hnil : rc5 m = []
    · have h0 : ¬ (0 : Int) < ((rc5 m).length : Int) := by rw [hnil]; simp
      have e0 : paxS m = [] := by unfold paxS; rw [if_pos ((linesS_nil _).2 hnil)]
      have HN := Lib.hid e0
      clear hnil e0
      go_wp2_with fail
      go_meet
      rw [HN.out]
      exact HI.out.1
    · have h0 : (0 : Int) < ((rc5 m).length : Int) := by have := List.length_pos_iff.2 hnil; omega
      have e0 : paxS m = rowS (paxHd (linesS (rc5 m)).length) ++ padL (linesS (rc5 m)) := by unfold paxS; rw [if_neg (fun e => hnil ((linesS_nil _).1 e))]
      have HN := Lib.hid e0
      clear hnil e0
      go_wp2_with fail
      refine (record_Put lp lc (rc5 m) _ HI.out.2.2 (by have := rc5_len m; omega) (rc5_may HM.out) (HW'.out.1.ext HI.out.1.1)).mono ?_
      intro e wa H
      obtain ⟨v, rfl, hR, hE⟩ := H.out
      obtain ⟨lq, lk, rfl, hby, -, -, -, hpl⟩ := hR.shape
      have HA := Lib.hid (And.intro (HI.out.1.ext hE) (And.intro (Ext.heap hE HI.out.2.1) (And.intro hby (And.intro hpl hE.size))))
      clear hR hE hby hpl H h0
      have hlen := lines_le HM.out
      generalize hLL : linesS (rc5 m) = LL at *
      have HL := Lib.hid (And.intro hlen hLL)
      clear hlen hLL
      go_wp2_with fail
      refine (head_Put (paxHd LL.length) wa (by show paxB.length ≤ 1000000; decide) (HW'.out.1.ext HA.out.1.1).hv).mono ?_
      intro e wb H
      obtain ⟨xp, xc, ok, rfl, hxb, hxp, hE⟩ := H.row
      have HB := Lib.hid (And.intro (HA.out.1.ext hE) (And.intro (Ext.heap hE HA.out.2.1) (And.intro (HA.out.2.2.1.ext hE) (And.intro hxb hE.size))))
      clear hxb hxp hE H
      have hSk : Snk wb.heap.size wb (w2.heap.size + 1) [] := ⟨Go.lt_of_block HB.out.2.1, Nat.le_refl _, _, HB.out.2.1, Rw.nil _ _⟩
      have HS := Lib.hid hSk
      clear hSk
      go_wp2_with fail
      refine (sink_Put1 wb.heap.size (w2.heap.size + 1) xp xc (rowS (paxHd LL.length)) [] wb HS.out (by have := rowS_le (paxHd LL.length); rw [List.length_nil]; omega) HB.out.2.2.2.1).mono ?_
      intro e wd H
      obtain ⟨rfl, h2, h3⟩ := H.out
      have hbl : By wd lq LL := HB.out.2.2.1.fr h3 (fun a ha => by
        have h1 := HA.out.2.2.2.1 a ha
        have h4 := HA.out.2.2.2.2
        have h5 := HB.out.2.2.2.2
        have h6 := HI.out.1.2.2.2.2.2.1
        omega)
      have HD := Lib.hid (And.intro h2 (And.intro h3 hbl))
      clear h2 h3 hbl H
      go_wp2_with fail
      refine (sink_Body wb.heap.size (w2.heap.size + 1) lq lk LL ([] ++ rowS (paxHd LL.length)) wd HD.out.1 (by have := HL.out.1; omega) (by have := rowS_le (paxHd LL.length); rw [List.nil_append]; omega) HD.out.2.2).mono ?_
      intro e we H
      obtain ⟨rfl, h2, h3⟩ := H.out
      have hfin := HB.out.1.fr (Nat.le_trans HI.out.1.2.2.2.2.2.1 (Nat.le_trans HA.out.2.2.2.2 HB.out.2.2.2.2)) (HD.out.2.1.trans h3) h2
      have HF := Lib.hid hfin
      clear hfin h2 h3 H
      go_wp2_with fail
      go_meet
      rw [HN.out]
      exact HF.out
  case rest =>
    have HI2 : Hid (PutI w m (.slice p m.body.length c) w2.heap.size (paxS m) wc) := hcut
    clear HI hcut
    obtain ⟨q0, q1, q2, q3, q4, q5, q6, q7, q8⟩ := HI2.out.2.2.2.1.cells
    go_wp2_with fail
    refine (head_Put (hm5 m) wc ?_ (HW'.out.1.ext HI2.out.1).hv).mono ?_
    · rw [hm5_eq]
      show (if needP m then longB else m.path).length ≤ 1000000
      split
      · decide
      · have := HM.out.pl; omega
    intro e wa H
    obtain ⟨xp, xc, ok, rfl, hxb, hxp, hE⟩ := H.row
    have HA := Lib.hid (And.intro (HI2.out.ext hE) hxb)
    clear hxb hxp hE H q0 q1 q2 q3 q4 q5 q6 q7 q8
    go_wp2_with fail
    refine (sink_Put1 (w2.heap.size + 1 + 1) (w2.heap.size + 1) xp xc (rowS (hm5 m)) (paxS m) wa HA.out.1.2.2.2.2 (by have := rowS_le (hm5 m); have := paxS_le HM.out; omega) HA.out.2).mono ?_
    intro e wb H
    obtain ⟨rfl, h2, h3⟩ := H.out
    have HB := Lib.hid (HA.out.1.fr (Nat.le_refl _) h3 h2)
    clear h2 h3 H
    obtain ⟨z0, z1, z2, z3, z4, z5, z6, z7⟩ := HB.out.2.2.1.cells
    go_wp2_with fail
    refine (sink_Body (w2.heap.size + 1 + 1) (w2.heap.size + 1) p c m.body (paxS m ++ rowS (hm5 m)) wb HB.out.2.2.2.2 (by have := HM.out.body; omega) (by have := rowS_le (hm5 m); have := paxS_le HM.out; rw [List.length_append]; omega) (HW'.out.2.ext HB.out.1)).mono ?_
    intro e wd H
    obtain ⟨rfl, h2, h3⟩ := H.out
    have HD := Lib.hid (HB.out.fr (Nat.le_refl _) h3 h2)
    clear h2 h3 H z0 z1 z2 z3 z4 z5 z6 z7
    go_wp2_with fail
    refine (sink_Out (w2.heap.size + 1 + 1) (w2.heap.size + 1) _ wd HD.out.2.2.2.2 ?_).mono ?_
    · have h1 := rowS_le (hm5 m)
      have h2 := paxS_le HM.out
      have h3 := padN_ge m.body.length
      have h4 := HM.out.body
      rw [List.length_append, List.length_append, padL_length]
      omega
    intro e we H
    obtain ⟨v, rfl, h2, h3⟩ := H.out
    have e0 : paxS m ++ rowS (hm5 m) ++ padL m.body = memS m := by rw [List.append_assoc]; rfl
    rw [e0] at h2
    have HF := Lib.hid (And.intro (h2.mono HD.out.1.size) (HD.out.1.trans h3))
    clear h2 h3 H e0
    go_wp2
    go_ret2
    exact ⟨_, rfl, HF.out.1, HF.out.2⟩
end Go.Proofs.YtpapbnmacjoihaaDoor
