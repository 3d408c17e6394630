/- bindleref08.Put. -/
import Derived.Test.YtpapbnmacjoihaaDoorPutQ
import Derived.Test.YtpapbnmacjoihaaDoorSplB
import Derived.Test.YtpapbnmacjoihaaDoorRefC
import Derived.Test.YtpapbnmacjoihaaDoorRefA
import Derived.Test.YtpapbnmacjoihaaDoorRegionG
namespace Go.Proofs.YtpapbnmacjoihaaDoor
open Go.RowKit Go.Shelf

theorem RowPost.rw {w : World} {h : Hd} {e : Ending} {w' : World} (H : RowPost w (putHeadS h) e w') :
    ∃ v ok, e = .returned (.tuple #[v, .bool ok]) ∧ Rw w.heap.size w' v (rowS h) ∧ Ext w w' := by
  obtain ⟨h1, h2, h3⟩ := H
  cases hr : putHeadS h with
  | none =>
    have e0 : rowS h = [] := by unfold rowS; rw [hr]; rfl
    rw [e0]
    exact ⟨_, _, h2 hr, Rw.nil _ _, h3⟩
  | some D =>
    have e0 : rowS h = D := by unfold rowS; rw [hr]; rfl
    have hl : D.length = 512 := (parse_put hr).2
    rw [e0]
    obtain ⟨g, hg, he, hb⟩ := h1 D hr
    exact ⟨_, _, he, Rw.of_blk hb hg (by rw [hl]; unfold maxLen; omega), h3⟩
/-- bindleref08.Put's blocks: the member, the header. -/
def RpI (w : World) (m : Mb) (v : Value) (h : Hd) (wx : World) : Prop :=
  Ext w wx ∧ w.heap.size + 1 + 1 ≤ wx.heap.size ∧ MbBlk wx w.heap.size m v ∧ HdBlk wx (w.heap.size + 1) h
theorem RpI.ext {w : World} {m : Mb} {v : Value} {h : Hd} {wx w2 : World} (hS : RpI w m v h wx) (hE : Ext wx w2) : RpI w m v h w2 :=
  ⟨hS.1.trans hE, Nat.le_trans hS.2.1 hE.size, hS.2.2.1.ext hE, hS.2.2.2.ext hE⟩
theorem RpI.store {w : World} {m : Mb} {v : Value} {h h' : Hd} {wx : World} (hS : RpI w m v h wx) (i : Nat) (u : Value) (hB : HdBlk (wx.setCell ⟨w.heap.size + 1, i, none⟩ u) (w.heap.size + 1) h') : RpI w m v h' (wx.setCell ⟨w.heap.size + 1, i, none⟩ u) := by
  obtain ⟨h1, h2, h3, h4⟩ := hS
  refine ⟨h1.setCell (by show w.heap.size ≤ w.heap.size + 1; omega) u, ?_, ?_, hB⟩
  · have : (wx.setCell ⟨w.heap.size + 1, i, none⟩ u).heap.size = wx.heap.size := by simp [World.setCell]
    rw [this]; exact h2
  · unfold MbBlk at h3 ⊢
    rw [Below.heap_setCell _ _ _ _ (by show w.heap.size ≠ w.heap.size + 1; omega)]; exact h3
theorem RpI.below {w : World} {m : Mb} {v : Value} {h : Hd} {wx w2 : World} (hS : RpI w m v h wx) (hB : Below (w.heap.size + 1 + 1) wx w2) : RpI w m v h w2 := by
  obtain ⟨h1, h2, h3, h4⟩ := hS
  refine ⟨⟨hB.os.trans h1.os, hB.tape.trans h1.tape, hB.output.trans h1.output, Nat.le_trans h1.size hB.size, fun k hk => (hB.block k (by omega)).trans (Below.block h1 k hk)⟩, Nat.le_trans h2 hB.size, ?_, ?_⟩
  · unfold MbBlk at h3 ⊢
    rw [hB.block _ (by omega)]; exact h3
  · unfold HdBlk at h4 ⊢
    rw [hB.block _ (by omega)]; exact h4
/-- the last statement: what is so when L has come up: the values: 'out' and the header; the padded body; all. -/
def LastWI (b : Nat) (wx : World) (ov : Value) (yp : Option Addr) (o y x : List UInt8) (g : Value × Value × Value) (L : Nat → Bool) (w' : World) : Prop :=
  (L 6 = true → L 2 = true ∧ L 5 = true) ∧ (L 7 = true → L 6 = true) ∧ Below b wx w' ∧ b ≤ w'.heap.size ∧
  (L 2 = false → Rw b w' ov o ∧ By w' yp y) ∧ (L 2 = true → L 6 = false → Rw b w' g.1 (o ++ y)) ∧
  (L 5 = true → L 6 = false → Rw b w' g.2.1 x ∧ (L 2 = false → ∀ k, ov.ownBlock = some k → g.2.1.ownBlock ≠ some k)) ∧
  (L 6 = true → Rw b w' g.2.2 (o ++ y ++ x))
def lastVs (ov yv : Value) (n : Nat) (bv : Value) (g : Value × Value × Value) : List Value := [ov, yv, g.1, .pointer (some ⟨n, 7, none⟩), bv, g.2.1, g.2.2, g.2.2]
section
variable {b : Nat} {wx w' w2 : World} {ov : Value} {yp : Option Addr} {o y x : List UInt8} {L : Nat → Bool}
theorem LastWI.quiet {g : Value × Value × Value} (h : LastWI b wx ov yp o y x g L w') (i : Nat) (h2 : i ≠ 2) (h5 : i ≠ 5) (h6 : i ≠ 6) (h7 : i ≠ 7) : LastWI b wx ov yp o y x g (fun j => if j = i then true else L j) w' := by
  unfold LastWI at h ⊢
  simp only [if_neg (Ne.symm h2), if_neg (Ne.symm h5), if_neg (Ne.symm h6), if_neg (Ne.symm h7)]
  exact h
theorem LastWI.asg {g : Value × Value × Value} (h : LastWI b wx ov yp o y x g L w') (h6 : L 6 = true) : LastWI b wx ov yp o y x g (fun j => if j = 7 then true else L j) w' := by
  unfold LastWI at h ⊢
  simp only [show ¬ (2 = 7) by decide, show ¬ (5 = 7) by decide, show ¬ (6 = 7) by decide, if_false]
  exact ⟨h.1, fun _ => h6, h.2.2⟩
theorem LastWI.app {a1 a2 a3 v : Value} (h : LastWI b wx ov yp o y x (a1, a2, a3) L w') (hv : Rw b w2 v (o ++ y)) (_ : L 2 = false) (h6 : L 6 = false) (hB : Below b w' w2) (h5 : L 5 = true → Rw b w2 a2 x) :
    LastWI b wx ov yp o y x (v, a2, a3) (fun j => if j = 2 then true else L j) w2 := by
  unfold LastWI at h ⊢
  simp only [show ¬ (5 = 2) by decide, show ¬ (6 = 2) by decide, show ¬ (7 = 2) by decide, if_false, if_true]
  refine ⟨fun e => ⟨trivial, (h.1 e).2⟩, h.2.1, Below.trans h.2.2.1 hB, Nat.le_trans h.2.2.2.1 hB.size, fun e => (by cases e), fun _ _ => hv, fun e5 _ => ⟨h5 e5, fun e => (by cases e)⟩, fun e => (by rw [h6] at e; cases e)⟩
theorem LastWI.pad {a1 a2 a3 v : Value} (h : LastWI b wx ov yp o y x (a1, a2, a3) L w') (hv : Rw w'.heap.size w2 v x) (_ : L 5 = false) (h6 : L 6 = false) (hE : Ext w' w2) :
    LastWI b wx ov yp o y x (a1, v, a3) (fun j => if j = 5 then true else L j) w2 := by
  unfold LastWI at h ⊢
  simp only [show ¬ (2 = 5) by decide, show ¬ (6 = 5) by decide, show ¬ (7 = 5) by decide, if_false, if_true]
  refine ⟨fun e => ⟨(h.1 e).1, trivial⟩, h.2.1, Below.trans h.2.2.1 (Below.mono hE h.2.2.2.1), Nat.le_trans h.2.2.2.1 hE.size, fun e => ⟨(h.2.2.2.2.1 e).1.ext hE, (h.2.2.2.2.1 e).2.ext hE⟩, fun e1 e2 => (h.2.2.2.2.2.1 e1 e2).ext hE, fun _ _ => ⟨hv.mono h.2.2.2.1, fun e2 k hk hk2 => ?_⟩, fun e => (by rw [h6] at e; cases e)⟩
  have h1 := ((h.2.2.2.2.1 e2).1.lt k hk).2
  have h2 := (hv.lt k hk2).1
  omega
theorem LastWI.fin {a1 a2 a3 v : Value} (h : LastWI b wx ov yp o y x (a1, a2, a3) L w') (hv : Rw b w2 v (o ++ y ++ x)) (h2 : L 2 = true) (h5 : L 5 = true) (hB : Below b w' w2) :
    LastWI b wx ov yp o y x (a1, a2, v) (fun j => if j = 6 then true else L j) w2 := by
  unfold LastWI at h ⊢
  simp only [show ¬ (2 = 6) by decide, show ¬ (5 = 6) by decide, show ¬ (7 = 6) by decide, if_false, if_true]
  exact ⟨fun _ => ⟨h2, h5⟩, fun _ => trivial, Below.trans h.2.2.1 hB, Nat.le_trans h.2.2.2.1 hB.size, fun e => (by rw [h2] at e; cases e), fun _ e => (by cases e), fun _ e => (by cases e), fun _ => hv⟩
end
theorem RpI.made (w : World) (m : Mb) (v : Value) : RpI w m v (hm0 m) ((w.alloc (.cells (m.cells v) 45)).alloc (.cells (hm0 m).cells 27)) := by
  have E1 := Ext.alloc w (.cells (m.cells v) 45)
  have b1 : MbBlk (w.alloc (.cells (m.cells v) 45)) w.heap.size m v := heap_alloc_new _ _
  have s1 : (w.alloc (.cells (m.cells v) 45)).heap.size = w.heap.size + 1 := by simp
  generalize w.alloc (.cells (m.cells v) 45) = w1 at *
  have E2 := Ext.alloc w1 (.cells (hm0 m).cells 27)
  have b2 : HdBlk (w1.alloc (.cells (hm0 m).cells 27)) w1.heap.size (hm0 m) := heap_alloc_new _ _
  have s2 : (w1.alloc (.cells (hm0 m).cells 27)).heap.size = w1.heap.size + 1 := by simp
  rw [s1] at b2
  exact ⟨E1.trans E2, by rw [s2, s1]; omega, b1.ext E2, b2⟩
theorem linesS_snoc (rs : Rcs) (k v : List UInt8) : linesS (rs ++ [(k, v)]) = linesS rs ++ lineS k v := by
  unfold linesS
  rw [List.flatMap_append]
  simp

theorem rc_bd {m : Mb} (h : GoodM m) : (linesS (rc1 m)).length ≤ 500500 ∧ (linesS (rc2 m)).length ≤ 500500 ∧ (linesS (rc3 m)).length ≤ 500500 ∧ (linesS (rc4 m)).length ≤ 500500 ∧ (linesS (rc5 m)).length ≤ 500500 := by
  have h5 := lines_le h
  have h4 : (linesS (rc4 m)).length ≤ (linesS (rc5 m)).length := by rw [rc5]; split <;> (try rw [linesS_snoc, List.length_append]) <;> omega
  have h3 : (linesS (rc3 m)).length ≤ (linesS (rc4 m)).length := by rw [rc4]; split <;> (try rw [linesS_snoc, List.length_append]) <;> omega
  have h2 : (linesS (rc2 m)).length ≤ (linesS (rc3 m)).length := by rw [rc3]; split <;> (try rw [linesS_snoc, List.length_append]) <;> omega
  have h1 : (linesS (rc1 m)).length ≤ (linesS (rc2 m)).length := by rw [rc2]; split <;> (try rw [linesS_snoc, List.length_append]) <;> omega
  omega

set_option maxHeartbeats 8000000 in
set_option maxRecDepth 100000 in
theorem ref_Put (m : Mb) (p : Option Addr) (c : Nat) (w : World) (hgm : GoodM m) (hb : By w p m.body) :
    Calls Tryd.prog 27 #[m.val (.slice p m.body.length c)] w fun e w' => Hid (∃ v, e = .returned v ∧ Rw w.heap.size w' v (memS m) ∧ Ext w w') := by
  have HI := Lib.hid (RpI.made w m (.slice p m.body.length c))
  have HM := Lib.hid (And.intro hgm hb)
  have HC : Hid (∀ W, Calls Tryd.prog 18 #[.string (bs m.path)] W fun e w' => e = .returned (cutV (cutS m.path)) ∧ Ext W w') := fun W => ref_Cut m.path W (by have := hgm.pl; omega)
  clear hgm hb
  unfold Mb.val Mb.cells
  go_enter Tryd.func27, Tryd.ntmps27
  go_upto_region 3 with fail
  go_cut [7] (fun s7 wd => s7 = .bool (cutS m.path).isSome ∧ Hid (RpI w m (.slice p m.body.length c) (hm0 m) wd))
  case first =>
    go_wp2_with fail
    refine (HC.out _).mono ?_
    rintro e w1 ⟨rfl, hE⟩
    have HN := Lib.hid (HI.out.ext hE)
    clear hE
    cases hc : cutS m.path with
    | none =>
      unfold cutV
      simp only []
      go_wp2_with fail
      go_meet
      exact ⟨by rw [hc]; rfl, HN.out⟩
    | some x =>
      obtain ⟨x1, x2⟩ := x
      unfold cutV
      simp only []
      go_wp2_with fail
      go_meet
      exact ⟨by rw [hc]; rfl, HN.out⟩
  case rest =>
    obtain ⟨rfl, HD⟩ := hcut
    clear HI HC
    obtain ⟨b, hb⟩ : ∃ b, b = (cutS m.path).isSome := ⟨_, rfl⟩
    obtain ⟨b2, hb2⟩ : ∃ b2, b2 = plainS m.path := ⟨_, rfl⟩
    have hnd : needP m = (!b || !b2) := by unfold needP; rw [hb, hb2]
    rw [← hb]
    have HB := Lib.hid hb2
    have HND := Lib.hid hnd
    clear hb hb2 hnd
    obtain ⟨z0, z1, z2, z3, z4, z5, z6, z7⟩ := HD.out.2.2.1.cells
    go_upto_region 4 with fail
    go_cut [39] (fun s39 wd => s39 = .bool (!b || !b2) ∧ Hid (RpI w m (.slice p m.body.length c) (hm0 m) wd))
    case first =>
      cases b with
      | false =>
        go_wp2_with fail
        go_meet
        exact ⟨rfl, HD.out⟩
      | true =>
        go_wp2_with fail
        refine (ref_fits m.path _ (by have := HM.out.1.pl; omega)).mono ?_
        rw [← HB.out]
        rintro e w1 ⟨rfl, rfl⟩
        go_wp2_with fail
        go_meet
        exact ⟨rfl, HD.out⟩
    case rest =>
      obtain ⟨rfl, HD2⟩ := hcut
      clear HD z0 z1 z2 z3 z4 z5 z6 z7
      rw [← HND.out]
      clear HB HND
      go_upto_if 39 with fail
      go_cut [4] (fun s4 wd => s4 = .string (bs (linesS (rc1 m))) ∧ Hid (RpI w m (.slice p m.body.length c) (hm1 m) wd))
      case first =>
        cases hn : needP m with
        | false =>
          have e1 : hm1 m = hm0 m := by unfold hm1; rw [hn]; rfl
          have e2 : rc1 m = [] := by unfold rc1; rw [hn]; rfl
          have HE := Lib.hid (And.intro e1 e2)
          clear e1 e2 hn
          go_wp2_with fail
          go_meet
          rw [HE.out.1, HE.out.2]
          exact ⟨rfl, HD2.out⟩
        | true =>
          have e1 : hm1 m = { hm0 m with name := longB } := by unfold hm1; rw [hn]; rfl
          have e2 : rc1 m = [] ++ [(kPath, m.path)] := by unfold rc1; rw [hn]; rfl
          have HE := Lib.hid (And.intro e1 e2)
          clear e1 e2 hn
          obtain ⟨z0, z1, z2, z3, z4, z5, z6, z7⟩ := HD2.out.2.2.1.cells
          go_wp2_with fail
          refine (ref_Line kPath m.path wc (by have := HM.out.1.pl; show 4 + _ ≤ 100000; omega)).mono ?_
          rintro e w1 ⟨rfl, hE⟩
          have HN := Lib.hid (HD2.out.ext hE)
          clear hE z0 z1 z2 z3 z4 z5 z6 z7
          obtain ⟨q0, q1, q2, q3, q4, q5, q6, q7, q8⟩ := HN.out.2.2.2.cells
          have qf := HN.out.2.2.2.frozen
          have hs2 : (bs (lineS kPath m.path)).size ≤ 200000 := by rw [bs_size]; have := lineS_len kPath m.path (by have := HM.out.1.pl; show 4 + _ ≤ 100000; omega); omega
          go_wp2_with fail
          go_meet
          rw [HE.out.1, HE.out.2, linesS_snoc]
          exact ⟨rfl, HN.out.store 0 _ (HN.out.2.2.2.set_name longB)⟩
      case rest =>
        obtain ⟨rfl, HD3⟩ := hcut
        clear HD2
        -- STAGES-BEGIN (printed by genputr.py)
        have hbd := rc_bd HM.out.1
        have HBD := Lib.hid hbd
        clear hbd
        obtain ⟨z0, z1, z2, z3, z4, z5, z6, z7⟩ := HD3.out.2.2.1.cells
        have hsz := bs_size m.target
        go_upto_region 7 with fail
        go_cut [56] (fun s56 wd => s56 = .bool (needT m) ∧ Hid (RpI w m (.slice p m.body.length c) (hm1 m) wd))
        case first =>
          by_cases h100 : 100 < m.target.length
          · have h100' : (100 : Int) < (m.target.length : Int) := by omega
            have hn : needT m = true := by unfold needT; rw [decide_eq_true h100]; rfl
            have HN := Lib.hid hn
            clear hn h100
            go_wp2_with fail
            go_meet
            exact ⟨by rw [HN.out], HD3.out⟩
          · have h100' : ¬ (100 : Int) < (m.target.length : Int) := by omega
            have hn : needT m = !plainS m.target := by unfold needT; rw [decide_eq_false h100]; rfl
            have HN := Lib.hid hn
            clear hn h100
            go_wp2_with fail
            refine (ref_fits m.target _ (by have := HM.out.1.tl; omega)).mono ?_
            rintro e w1 ⟨rfl, rfl⟩
            go_wp2_with fail
            go_meet
            exact ⟨by rw [HN.out], HD3.out⟩
        case rest =>
          obtain ⟨rfl, HD4⟩ := hcut
          clear HD3 z0 z1 z2 z3 z4 z5 z6 z7 hsz
          go_upto_if 56 with fail
          go_cut [4] (fun s4 wd => s4 = .string (bs (linesS (rc2 m))) ∧ Hid (RpI w m (.slice p m.body.length c) (hm2 m) wd))
          case first =>
            cases hn : needT m with
            | false =>
              have e1 : hm2 m = hm1 m := by unfold hm2; rw [hn]; rfl
              have e2 : rc2 m = rc1 m := by unfold rc2; rw [hn]; rfl
              have HE := Lib.hid (And.intro e1 e2)
              clear e1 e2 hn
              go_wp2_with fail
              go_meet
              rw [HE.out.1, HE.out.2]
              exact ⟨rfl, HD4.out⟩
            | true =>
              have e1 : hm2 m = { hm1 m with link := longB } := by unfold hm2; rw [hn]; rfl
              have e2 : rc2 m = rc1 m ++ [(kLink, m.target)] := by unfold rc2; rw [hn]; rfl
              have HE := Lib.hid (And.intro e1 e2)
              clear e1 e2 hn
              obtain ⟨z0, z1, z2, z3, z4, z5, z6, z7⟩ := HD4.out.2.2.1.cells
              go_wp2_with fail
              refine (ref_Line kLink m.target wc (by have := HM.out.1.tl; show 8 + _ ≤ 100000; omega)).mono ?_
              rintro e w1 ⟨rfl, hE⟩
              have HN := Lib.hid (HD4.out.ext hE)
              clear hE z0 z1 z2 z3 z4 z5 z6 z7
              obtain ⟨q0, q1, q2, q3, q4, q5, q6, q7, q8⟩ := HN.out.2.2.2.cells
              have qf := HN.out.2.2.2.frozen
              have hs1 : (bs (linesS (rc1 m))).size ≤ 600000 := by rw [bs_size]; exact Nat.le_trans HBD.out.1 (by omega)
              have hs2 : (bs (lineS kLink m.target)).size ≤ 200000 := by rw [bs_size]; have := lineS_len kLink m.target (by have := HM.out.1.tl; show 8 + _ ≤ 100000; omega); omega
              go_wp2_with fail
              go_meet
              rw [HE.out.1, HE.out.2, linesS_snoc, ← bs_app]
              exact ⟨rfl, HN.out.store 1 _ (HN.out.2.2.2.set_link longB)⟩
          case rest =>
            obtain ⟨rfl, HD5⟩ := hcut
            clear HD4
            obtain ⟨z0, z1, z2, z3, z4, z5, z6, z7⟩ := HD5.out.2.2.1.cells
            go_upto_if 67 with fail
            go_cut [4] (fun s4 wd => s4 = .string (bs (linesS (rc3 m))) ∧ Hid (RpI w m (.slice p m.body.length c) (hm3 m) wd))
            case first =>
              by_cases hbig : 2097151 < m.uid
              · have hn : needU m = true := by unfold needU; exact decide_eq_true hbig
                have e1 : hm3 m = { hm2 m with uid := 0 } := by unfold hm3; rw [hn]; rfl
                have e2 : rc3 m = rc2 m ++ [(kUid, Lib.decDigits m.uid.toNat)] := by unfold rc3; rw [hn]; rfl
                have HE := Lib.hid (And.intro e1 e2)
                have hdec : ∀ W, Calls Tryd.prog 52 #[.int .i64 m.uid] W fun e w' => e = .returned (.string (bs (Lib.decDigits m.uid.toNat))) ∧ Ext W w' := fun W => by
                  have := ref_Dec m.uid.toNat W (by have := HM.out.1.uid; omega)
                  rw [show ((m.uid.toNat : Nat) : Int) = m.uid from by have := HM.out.1.uid; omega] at this
                  exact this
                have HDC := Lib.hid hdec
                have hdl := nDig21 m.uid.toNat (by have := HM.out.1.uid; omega)
                have HDL := Lib.hid hdl
                clear e1 e2 hn hdec hdl
                go_wp2_with fail
                refine (HDC.out _).mono ?_
                rintro e w1 ⟨rfl, hE⟩
                have HN := Lib.hid (HD5.out.ext hE)
                clear hE
                go_wp2_with fail
                refine (ref_Line kUid (Lib.decDigits m.uid.toNat) w1 (by have := HDL.out; show 3 + _ ≤ 100000; omega)).mono ?_
                rintro e w2 ⟨rfl, hE⟩
                have HN2 := Lib.hid (HN.out.ext hE)
                clear hE z0 z1 z2 z3 z4 z5 z6 z7
                obtain ⟨q0, q1, q2, q3, q4, q5, q6, q7, q8⟩ := HN2.out.2.2.2.cells
                have qf := HN2.out.2.2.2.frozen
                have hs1 : (bs (linesS (rc2 m))).size ≤ 600000 := by rw [bs_size]; exact Nat.le_trans HBD.out.2.1 (by omega)
                have hs2 : (bs (lineS kUid (Lib.decDigits m.uid.toNat))).size ≤ 200000 := by rw [bs_size]; have := lineS_len kUid (Lib.decDigits m.uid.toNat) (by have := HDL.out; show 3 + _ ≤ 100000; omega); omega
                go_wp2_with fail
                go_meet
                rw [HE.out.1, HE.out.2, linesS_snoc, ← bs_app]
                exact ⟨rfl, HN2.out.store 4 _ (HN2.out.2.2.2.set_uid 0)⟩
              · have hn : needU m = false := by unfold needU; exact decide_eq_false hbig
                have e1 : hm3 m = hm2 m := by unfold hm3; rw [hn]; rfl
                have e2 : rc3 m = rc2 m := by unfold rc3; rw [hn]; rfl
                have HE := Lib.hid (And.intro e1 e2)
                clear e1 e2 hn
                go_wp2_with fail
                go_meet
                rw [HE.out.1, HE.out.2]
                exact ⟨rfl, HD5.out⟩
            case rest =>
              obtain ⟨rfl, HD6⟩ := hcut
              clear HD5 z0 z1 z2 z3 z4 z5 z6 z7
              obtain ⟨z0, z1, z2, z3, z4, z5, z6, z7⟩ := HD6.out.2.2.1.cells
              go_upto_if 81 with fail
              go_cut [4] (fun s4 wd => s4 = .string (bs (linesS (rc4 m))) ∧ Hid (RpI w m (.slice p m.body.length c) (hm4 m) wd))
              case first =>
                by_cases hbig : 2097151 < m.gid
                · have hn : needG m = true := by unfold needG; exact decide_eq_true hbig
                  have e1 : hm4 m = { hm3 m with gid := 0 } := by unfold hm4; rw [hn]; rfl
                  have e2 : rc4 m = rc3 m ++ [(kGid, Lib.decDigits m.gid.toNat)] := by unfold rc4; rw [hn]; rfl
                  have HE := Lib.hid (And.intro e1 e2)
                  have hdec : ∀ W, Calls Tryd.prog 52 #[.int .i64 m.gid] W fun e w' => e = .returned (.string (bs (Lib.decDigits m.gid.toNat))) ∧ Ext W w' := fun W => by
                    have := ref_Dec m.gid.toNat W (by have := HM.out.1.gid; omega)
                    rw [show ((m.gid.toNat : Nat) : Int) = m.gid from by have := HM.out.1.gid; omega] at this
                    exact this
                  have HDC := Lib.hid hdec
                  have hdl := nDig21 m.gid.toNat (by have := HM.out.1.gid; omega)
                  have HDL := Lib.hid hdl
                  clear e1 e2 hn hdec hdl
                  go_wp2_with fail
                  refine (HDC.out _).mono ?_
                  rintro e w1 ⟨rfl, hE⟩
                  have HN := Lib.hid (HD6.out.ext hE)
                  clear hE
                  go_wp2_with fail
                  refine (ref_Line kGid (Lib.decDigits m.gid.toNat) w1 (by have := HDL.out; show 3 + _ ≤ 100000; omega)).mono ?_
                  rintro e w2 ⟨rfl, hE⟩
                  have HN2 := Lib.hid (HN.out.ext hE)
                  clear hE z0 z1 z2 z3 z4 z5 z6 z7
                  obtain ⟨q0, q1, q2, q3, q4, q5, q6, q7, q8⟩ := HN2.out.2.2.2.cells
                  have qf := HN2.out.2.2.2.frozen
                  have hs1 : (bs (linesS (rc3 m))).size ≤ 600000 := by rw [bs_size]; exact Nat.le_trans HBD.out.2.2.1 (by omega)
                  have hs2 : (bs (lineS kGid (Lib.decDigits m.gid.toNat))).size ≤ 200000 := by rw [bs_size]; have := lineS_len kGid (Lib.decDigits m.gid.toNat) (by have := HDL.out; show 3 + _ ≤ 100000; omega); omega
                  go_wp2_with fail
                  go_meet
                  rw [HE.out.1, HE.out.2, linesS_snoc, ← bs_app]
                  exact ⟨rfl, HN2.out.store 5 _ (HN2.out.2.2.2.set_gid 0)⟩
                · have hn : needG m = false := by unfold needG; exact decide_eq_false hbig
                  have e1 : hm4 m = hm3 m := by unfold hm4; rw [hn]; rfl
                  have e2 : rc4 m = rc3 m := by unfold rc4; rw [hn]; rfl
                  have HE := Lib.hid (And.intro e1 e2)
                  clear e1 e2 hn
                  go_wp2_with fail
                  go_meet
                  rw [HE.out.1, HE.out.2]
                  exact ⟨rfl, HD6.out⟩
              case rest =>
                obtain ⟨rfl, HD7⟩ := hcut
                clear HD6 z0 z1 z2 z3 z4 z5 z6 z7
                obtain ⟨z0, z1, z2, z3, z4, z5, z6, z7⟩ := HD7.out.2.2.1.cells
                go_upto_if 95 with fail
                go_cut [4] (fun s4 wd => s4 = .string (bs (linesS (rc5 m))) ∧ Hid (RpI w m (.slice p m.body.length c) (hm5 m) wd))
                case first =>
                  by_cases hbig : 8589934591 < m.time
                  · have hn : needM m = true := by unfold needM; exact decide_eq_true hbig
                    have e1 : hm5 m = { hm4 m with time := 0 } := by unfold hm5; rw [hn]; rfl
                    have e2 : rc5 m = rc4 m ++ [(kTime, Lib.decDigits m.time.toNat)] := by unfold rc5; rw [hn]; rfl
                    have HE := Lib.hid (And.intro e1 e2)
                    have hdec : ∀ W, Calls Tryd.prog 52 #[.int .i64 m.time] W fun e w' => e = .returned (.string (bs (Lib.decDigits m.time.toNat))) ∧ Ext W w' := fun W => by
                      have := ref_Dec m.time.toNat W (by have := HM.out.1.time; omega)
                      rw [show ((m.time.toNat : Nat) : Int) = m.time from by have := HM.out.1.time; omega] at this
                      exact this
                    have HDC := Lib.hid hdec
                    have hdl := nDig21 m.time.toNat (by have := HM.out.1.time; omega)
                    have HDL := Lib.hid hdl
                    clear e1 e2 hn hdec hdl
                    go_wp2_with fail
                    refine (HDC.out _).mono ?_
                    rintro e w1 ⟨rfl, hE⟩
                    have HN := Lib.hid (HD7.out.ext hE)
                    clear hE
                    go_wp2_with fail
                    refine (ref_Line kTime (Lib.decDigits m.time.toNat) w1 (by have := HDL.out; show 5 + _ ≤ 100000; omega)).mono ?_
                    rintro e w2 ⟨rfl, hE⟩
                    have HN2 := Lib.hid (HN.out.ext hE)
                    clear hE z0 z1 z2 z3 z4 z5 z6 z7
                    obtain ⟨q0, q1, q2, q3, q4, q5, q6, q7, q8⟩ := HN2.out.2.2.2.cells
                    have qf := HN2.out.2.2.2.frozen
                    have hs1 : (bs (linesS (rc4 m))).size ≤ 600000 := by rw [bs_size]; exact Nat.le_trans HBD.out.2.2.2.1 (by omega)
                    have hs2 : (bs (lineS kTime (Lib.decDigits m.time.toNat))).size ≤ 200000 := by rw [bs_size]; have := lineS_len kTime (Lib.decDigits m.time.toNat) (by have := HDL.out; show 5 + _ ≤ 100000; omega); omega
                    go_wp2_with fail
                    go_meet
                    rw [HE.out.1, HE.out.2, linesS_snoc, ← bs_app]
                    exact ⟨rfl, HN2.out.store 6 _ (HN2.out.2.2.2.set_time 0)⟩
                  · have hn : needM m = false := by unfold needM; exact decide_eq_false hbig
                    have e1 : hm5 m = hm4 m := by unfold hm5; rw [hn]; rfl
                    have e2 : rc5 m = rc4 m := by unfold rc5; rw [hn]; rfl
                    have HE := Lib.hid (And.intro e1 e2)
                    clear e1 e2 hn
                    go_wp2_with fail
                    go_meet
                    rw [HE.out.1, HE.out.2]
                    exact ⟨rfl, HD7.out⟩
                case rest =>
                  obtain ⟨rfl, HD8⟩ := hcut
                  clear HD7 z0 z1 z2 z3 z4 z5 z6 z7
                  go_upto_region 20 with fail
                  go_cut [107] (fun s107 wd => s107 = .bool (!decide (linesS (rc5 m) = [])) ∧ Hid (RpI w m (.slice p m.body.length c) (hm5 m) wd))
                  case first =>
                    go_wp2_with fail
                    go_meet
                    refine ⟨?_, HD8.out⟩
                    congr 1
                    rw [bs_toL]
                    cases linesS (rc5 m) <;> rfl
                  case rest =>
                    obtain ⟨rfl, HD9⟩ := hcut
                    clear HD8
                    generalize hLL : linesS (rc5 m) = LL at *
                    have hlen := lines_le HM.out.1
                    rw [hLL] at hlen
                    have HL := Lib.hid (And.intro hlen hLL)
                    clear hlen hLL
                    go_upto_if 107 with fail
                    go_cut [8] (fun s8 wd => Hid (RpI w m (.slice p m.body.length c) (hm5 m) wd ∧ Rw (w.heap.size + 1 + 1) wd s8 (paxS m)))
                    case first =>
                      by_cases hnil : LL = []
                      · have e0 : paxS m = [] := by unfold paxS; rw [if_pos (HL.out.2.trans hnil)]
                        have HN := Lib.hid e0
                        rw [decide_eq_true hnil]
                        clear hnil e0
                        go_wp2_with fail
                        go_meet
                        rw [HN.out]
                        exact ⟨HD9.out, Rw.nil _ _⟩
                      · have e0 : paxS m = rowS (paxHd LL.length) ++ padL LL := by unfold paxS; rw [if_neg (fun e => hnil (HL.out.2.symm.trans e)), HL.out.2]
                        have HN := Lib.hid e0
                        rw [decide_eq_false hnil]
                        clear hnil e0
                        have hsz := bs_size LL
                        go_wp2_with fail
                        refine (ref_PutHead (paxHd LL.length) wc (by show paxB.length ≤ 1000000; decide)).mono ?_
                        intro e wb H
                        obtain ⟨xv, ok, rfl, hxr, hE⟩ := H.rw
                        have HB := Lib.hid (And.intro (HD9.out.ext hE) (And.intro hxr hE.size))
                        clear hxr hE H
                        have kb := fun W : World => Lib.run_convert_string_bytes (P := Tryd.prog) W 9 22 5 (bs LL) Tryd.underlying9 Tryd.underlying22 Tryd.underlying5
                        have hE2 := bytesWorld_ext wb 5 (bs LL)
                        have hBy := bytesWorld_by wb 5 LL
                        have HK := Lib.hid (And.intro hE2 hBy)
                        clear hE2 hBy
                        go_wp2_with fail
                        refine (ref_padded _ _ LL _ (by have := HL.out.1; omega) HK.out.2).mono ?_
                        intro e wd H
                        obtain ⟨pv, rfl, hpr, hE⟩ := H.out
                        obtain ⟨pq, pk, rfl, hpb, -, -, -, -⟩ := hpr.shape
                        rw [padL_length] at *
                        have hxv := ((HB.out.2.1.ext HK.out.1).ext hE).mono HD9.out.2.1
                        have HX := Lib.hid (And.intro (HB.out.1.ext (HK.out.1.trans hE)) (And.intro hxv hpb))
                        have h1 := rowS_le (paxHd LL.length)
                        have h2 := padN_ge LL.length
                        have hLn : (rowS (paxHd LL.length)).length + (padL LL).length ≤ 140737488355328 := by rw [padL_length]; have := HL.out.1; omega
                        have HLn := Lib.hid hLn
                        rw [← padL_length] at *
                        clear hxv hpr hpb hE H HB HK kb hsz h1 h2 hLn
                        go_wp2_with (at_builtin; go_must (refine wpList_app rfl _ _ rfl HX.out.2.1 HX.out.2.2 HLn.out HX.out.1.2.1 rfl rfl ?_); intro v' w' hR hg _; have HN2 := Lib.hid (And.intro hR (Below.grown (Below.refl _ _) hg HX.out.1.2.1 (fun k hk => (HX.out.2.1.lt k hk).1))); clear hR hg)
                        go_meet
                        rw [HN.out]
                        exact ⟨HX.out.1.below HN2.out.2, HN2.out.1⟩
                    case rest =>
                      have HD10 : Hid (RpI w m (.slice p m.body.length c) (hm5 m) wc ∧ Rw (w.heap.size + 1 + 1) wc u8 (paxS m)) := hcut
                      clear HD9 hcut
                      obtain ⟨q0, q1, q2, q3, q4, q5, q6, q7, q8⟩ := HD10.out.1.2.2.2.cells
                      go_wp2_with fail
                      refine (ref_PutHead (hm5 m) wc ?_).mono ?_
                      · rw [hm5_eq]
                        show (if needP m then longB else m.path).length ≤ 1000000
                        split
                        · decide
                        · have := HM.out.1.pl; omega
                      intro e wb H
                      obtain ⟨yv, ok, rfl, hyr, hE⟩ := H.rw
                      obtain ⟨yp, yc, rfl, hyb, -, -, -, -⟩ := hyr.shape
                      have HB := Lib.hid (And.intro (HD10.out.1.ext hE) (And.intro (HD10.out.2.ext hE) hyb))
                      clear hyr hyb hE H q0 q1 q2 q3 q4 q5 q6 q7 q8
                      have h1 := paxS_le HM.out.1
                      have h2 := rowS_le (hm5 m)
                      have h3 := padN_ge m.body.length
                      have h4 := HM.out.1.body
                      have HBd : Hid ((paxS m).length + (rowS (hm5 m)).length ≤ 1000000 ∧ (paxS m ++ rowS (hm5 m)).length + (padL m.body).length ≤ 140737488355328) := ⟨by omega, by rw [List.length_append, padL_length]; omega⟩
                      clear h1 h2 h3 h4
                      obtain ⟨op, oc, hov, -, -, -, -, -⟩ := HB.out.2.1.shape
                      have HOV := Lib.hid hov
                      clear hov
                      go_wp2_with fail
                      apply wp_region_genlX (lastVs u8 (.slice yp (rowS (hm5 m)).length yc) w.heap.size (.slice p m.body.length c)) (LastWI (w.heap.size + 1 + 1) wb u8 yp (paxS m) (rowS (hm5 m)) (padL m.body)) (undef, undef, undef)
                      case hm => kernel_rfl
                      case hB => kernel_rfl
                      case hlen => exact fun g => rfl
                      case hds => rfl
                      case h0 => exact ⟨fun e => (by cases e), fun e => (by cases e), Below.drew (Below.refl _ _), HB.out.1.2.1, fun _ => ⟨HB.out.2.1.ext (Ext.drew wb), HB.out.2.2.ext (Ext.drew wb)⟩, fun e => (by cases e), fun e => (by cases e), fun e => (by cases e)⟩
                      case hF =>
                        intro g
                        simp only [finalF, lastVs, Act.put, List.setIfInBounds_toArray, List.set_cons_succ, List.set_cons_zero]
                        rfl
                      case hstep =>
                        simp only [AllO, Nat.zero_add, Nat.reduceAdd]
                        refine ⟨?_, ?_, ?_, ?_, ?_, ?_, ?_, ?_, trivial⟩
                        all_goals
                          intro g L w' hW0 hi hd
                          have hW := Lib.hid hW0
                          clear hW0
                        case refine_3 =>
                          have h6 : L 6 = false := by
                            cases hh : L 6 with
                            | false => rfl
                            | true => have := (hW.out.1 hh).1; rw [hi] at this; cases this
                          obtain ⟨a1, a2, a3⟩ := g
                          have hR0 := (hW.out.2.2.2.2.1 hi).1
                          obtain ⟨v', w'', hr, h2, h3, _⟩ := run_app 22 yc hR0 (hW.out.2.2.2.2.1 hi).2 (Nat.le_trans HBd.out.1 (by omega)) hW.out.2.2.2.1
                          have hB2 := Below.grown (Below.refl _ _) h3 hW.out.2.2.2.1 (fun k hk => (hR0.lt k hk).1)
                          refine .inl ⟨v', w'', ?_, (v', a2, a3), hW.out.app h2 hi h6 hB2 (fun h5 => ((hW.out.2.2.2.2.2.2.1 h5 h6).1.kept h3 (by
                            cases hx : a2.ownBlock with
                            | none => exact .inl rfl
                            | some k0 => right; intro e; exact (hW.out.2.2.2.2.2.2.1 h5 h6).2 hi k0 e.symm hx))), ?_, rfl⟩
                          · unfold execOp
                            simp only [resolve, invoke, builtin, Sem.run_bind, Sem.run_pure, Result.andThen_ok, List.map_toArray, List.map_cons, List.map_nil]
                            exact congrArg (fun r => r.andThen fun a w' => Result.ok (Next.value a) w') hr
                          · intro j hj
                            have : j ≠ 2 := fun e => by rw [e, hi] at hj; cases hj
                            rcases j with _ | _ | _ | _ | _ | _ | _ | _ | j
                            all_goals first | rfl | exact absurd rfl this | skip
                        case refine_5 =>
                          have hmb : MbBlk w' w.heap.size m (.slice p m.body.length c) := by
                            unfold MbBlk
                            rw [Below.block hW.out.2.2.1 _ (by omega)]
                            exact HB.out.1.2.2.1
                          obtain ⟨z0, z1, z2, z3, z4, z5, z6, z7⟩ := hmb.cells
                          clear hmb
                          refine .inl ⟨_, w', ?_, g, hW.out.quiet 4 (by decide) (by decide) (by decide) (by decide), fun _ _ => rfl, rfl⟩
                          go_simp
                        case refine_6 =>
                          have h6 : L 6 = false := by
                            cases hh : L 6 with
                            | false => rfl
                            | true => have := (hW.out.1 hh).2; rw [hi] at this; cases this
                          obtain ⟨a1, a2, a3⟩ := g
                          have hExt : Ext w w' := (HB.out.1.below hW.out.2.2.1).1
                          refine .inr (.inr ⟨53, #[.slice p m.body.length c], w', ?_, ?_⟩)
                          · go_simp
                          · refine (ref_padded p c m.body w' (by have := HM.out.1.body; omega) (HM.out.2.ext hExt)).mono ?_
                            intro e w'' H
                            obtain ⟨pv, rfl, hpr, hE⟩ := H.out
                            refine ⟨pv, rfl, (a1, pv, a3), hW.out.pad hpr hi h6 hE, ?_, rfl⟩
                            intro j hj
                            have : j ≠ 5 := fun e => by rw [e, hi] at hj; cases hj
                            rcases j with _ | _ | _ | _ | _ | _ | _ | _ | j
                            all_goals first | rfl | exact absurd rfl this | skip
                        case refine_7 =>
                          have h2 : L 2 = true := hd ⟨2, .data⟩ (by simp) rfl
                          have h5 : L 5 = true := hd ⟨5, .data⟩ (by simp) rfl
                          obtain ⟨a1, a2, a3⟩ := g
                          have hR1 := hW.out.2.2.2.2.2.1 h2 hi
                          have hR2 := (hW.out.2.2.2.2.2.2.1 h5 hi).1
                          obtain ⟨pq, pk, hpv, hpb, -, -, -, -⟩ := Rw.shape hR2
                          obtain ⟨v', w'', hr, h2', h3, _⟩ := run_app 22 pk hR1 hpb HBd.out.2 hW.out.2.2.2.1
                          rw [← hpv] at hr
                          have hB2 := Below.grown (Below.refl _ _) h3 hW.out.2.2.2.1 (fun k hk => (hR1.lt k hk).1)
                          refine .inl ⟨v', w'', ?_, (a1, a2, v'), hW.out.fin h2' h2 h5 hB2, ?_, rfl⟩
                          · unfold execOp
                            simp only [resolve, invoke, builtin, Sem.run_bind, Sem.run_pure, Result.andThen_ok, List.map_toArray, List.map_cons, List.map_nil]
                            exact congrArg (fun r => r.andThen fun a w' => Result.ok (Next.value a) w') hr
                          · intro j hj
                            have : j ≠ 6 := fun e => by rw [e, hi] at hj; cases hj
                            have h7 : j ≠ 7 := fun e => by rw [e] at hj; have := hW.out.2.1 hj; rw [hi] at this; cases this
                            rcases j with _ | _ | _ | _ | _ | _ | _ | _ | j
                            all_goals first | rfl | exact absurd rfl this | exact absurd rfl h7 | skip
                        case refine_8 =>
                          have h6 : L 6 = true := hd ⟨6, .data⟩ (by simp) rfl
                          refine .inl ⟨_, w', ?_, g, hW.out.asg h6, fun _ _ => rfl, rfl⟩
                          go_simp
                        all_goals
                          refine .inl ⟨_, w', ?_, g, hW.out.quiet _ (by decide) (by decide) (by decide) (by decide), fun _ _ => rfl, rfl⟩
                          go_simp
                      case hend =>
                        intro g L w4 hall' hW
                        have hall : ∀ i, i < 8 → L i = true := hall'
                        have hG := hW.2.2.2.2.2.2.2 (hall 6 (by decide))
                        have hBl := hW.2.2.1
                        have e0 : paxS m ++ rowS (hm5 m) ++ padL m.body = memS m := by rw [List.append_assoc]; unfold memS paxS; rw [HL.out.2]
                        rw [e0] at hG
                        have hEw : Ext w w4 := ⟨hBl.os.trans HB.out.1.1.os, hBl.tape.trans HB.out.1.1.tape, hBl.output.trans HB.out.1.1.output, Nat.le_trans HB.out.1.1.size hBl.size, fun k hk => (hBl.block k (by omega)).trans (Below.block HB.out.1.1 k hk)⟩
                        have HG := Lib.hid (And.intro (hG.mono (show w.heap.size ≤ w.heap.size + 1 + 1 by omega)) hEw)
                        clear hW hall hall' hG hBl e0 hEw
                        go_wp2
                        go_ret
                        exact ⟨_, rfl, HG.out.1, HG.out.2⟩
end Go.Proofs.YtpapbnmacjoihaaDoor
