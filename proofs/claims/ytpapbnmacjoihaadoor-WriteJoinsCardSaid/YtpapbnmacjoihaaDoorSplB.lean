/- write.split. -/
import Derived.Test.YtpapbnmacjoihaaDoorPutQ
namespace Go.Proofs.YtpapbnmacjoihaaDoor
open Go.RowKit Go.Shelf

/-- the four blocks of write.split: the member, the result, the header, the list. -/
def SpI (w0 : World) (m : Mb) (v : Value) (h : Hd) (rs : Rcs) (wx : World) : Prop :=
  Ext w0 wx ∧ MbBlk wx w0.heap.size m v ∧ HdBlk wx (w0.heap.size + 1) Hd.zero ∧ HdBlk wx (w0.heap.size + 1 + 1) h ∧ RcL (w0.heap.size + 1 + 1 + 1 + 1) wx (w0.heap.size + 1 + 1 + 1) rs
theorem SpI.ext {w0 : World} {m : Mb} {v : Value} {h : Hd} {rs : Rcs} {wx w2 : World} (hS : SpI w0 m v h rs wx) (hE : Ext wx w2) : SpI w0 m v h rs w2 :=
  ⟨hS.1.trans hE, hS.2.1.ext hE, hS.2.2.1.ext hE, hS.2.2.2.1.ext hE, hS.2.2.2.2.ext hE⟩
theorem SpI.fr {w0 : World} {m : Mb} {v : Value} {h : Hd} {rs rs' : Rcs} {wx w2 : World} (hS : SpI w0 m v h rs wx) (hF : Fr (w0.heap.size + 1 + 1 + 1 + 1) (w0.heap.size + 1 + 1 + 1) wx w2) (hR : RcL (w0.heap.size + 1 + 1 + 1 + 1) w2 (w0.heap.size + 1 + 1 + 1) rs') : SpI w0 m v h rs' w2 :=
  ⟨hF.ext hS.1 (by omega) (by omega), hF.heap hS.2.1 (by omega) (by omega), hF.heap hS.2.2.1 (by omega) (by omega), hF.heap hS.2.2.2.1 (by omega) (by omega), hR⟩
theorem SpI.store {w0 : World} {m : Mb} {v : Value} {h h' : Hd} {rs : Rcs} {wx : World} (hS : SpI w0 m v h rs wx) (i : Nat) (u : Value) (hB : HdBlk (wx.setCell ⟨w0.heap.size + 1 + 1, i, none⟩ u) (w0.heap.size + 1 + 1) h') : SpI w0 m v h' rs (wx.setCell ⟨w0.heap.size + 1 + 1, i, none⟩ u) := by
  obtain ⟨h1, h2, h3, h4, a1, a2, lv, a3, a4⟩ := hS
  refine ⟨h1.setCell (by show w0.heap.size ≤ w0.heap.size + 1 + 1; omega) u, ?_, h3.other (by show w0.heap.size + 1 + 1 ≠ w0.heap.size + 1; omega) u, hB, a1, ?_, lv, ?_, RcRow.below a4 (by omega) rfl⟩
  · unfold MbBlk at h2 ⊢
    rw [Below.heap_setCell _ _ _ _ (by show w0.heap.size ≠ w0.heap.size + 1 + 1; omega)]; exact h2
  · have : (wx.setCell ⟨w0.heap.size + 1 + 1, i, none⟩ u).heap.size = wx.heap.size := by simp [World.setCell]
    rw [this]; exact a2
  · rw [Below.heap_setCell _ _ _ _ (by show w0.heap.size + 1 + 1 + 1 ≠ w0.heap.size + 1 + 1; omega)]; exact a3
theorem HdBlk.set_link {w : World} {g : Nat} {h : Hd} (hB : HdBlk w g h) (n : List UInt8) : HdBlk (w.setCell ⟨g, 1, none⟩ (.string (bs n))) g { h with link := n } := by
  unfold HdBlk at hB ⊢
  rw [heap_set1 hB]
  simp only [Hd.cells, List.setIfInBounds_toArray, List.set_cons_zero, List.set_cons_succ]
/-- the loop's table. -/
def tabC (n : Nat) : Array Value := #[.string (bs kUid), .pointer (some ⟨n + 1 + 1, 4, none⟩), .int .i64 2097151, .string (bs kGid), .pointer (some ⟨n + 1 + 1, 5, none⟩), .int .i64 2097151, .string (bs kTime), .pointer (some ⟨n + 1 + 1, 6, none⟩), .int .i64 8589934591]
def hdK (m : Mb) : Nat → Hd | 0 => hm2 m | 1 => hm3 m | 2 => hm4 m | _ => hm5 m
def rcK (m : Mb) : Nat → Rcs | 0 => rc2 m | 1 => rc3 m | 2 => rc4 m | _ => rc5 m
theorem hm1_all (m : Mb) : (hm1 m).uid = m.uid ∧ (hm1 m).gid = m.gid ∧ (hm1 m).time = m.time := by unfold hm1; split <;> exact ⟨rfl, rfl, rfl⟩
theorem hm2_all (m : Mb) : (hm2 m).uid = m.uid ∧ (hm2 m).gid = m.gid ∧ (hm2 m).time = m.time := by unfold hm2; split <;> exact hm1_all m
theorem hm2_uid (m : Mb) : (hm2 m).uid = m.uid := (hm2_all m).1
theorem hm3_all (m : Mb) : (hm3 m).gid = m.gid ∧ (hm3 m).time = m.time := by unfold hm3; split <;> exact (hm2_all m).2
theorem hm3_gid (m : Mb) : (hm3 m).gid = m.gid := (hm3_all m).1
theorem hm4_time (m : Mb) : (hm4 m).time = m.time := by unfold hm4; split <;> exact (hm3_all m).2
def addPar : Nat → List Nat | 2 => [1] | 4 => [3] | 5 => [4] | 6 => [5] | 7 => [6] | 8 => [0, 2, 7] | _ => []
def AddWI (W0 : World) (R : World → Prop) (_ : Unit) (L : Nat → Bool) (w' : World) : Prop :=
  (∀ i, L i = true → ∀ j ∈ addPar i, L j = true) ∧ (L 8 = false → Ext W0 w') ∧ (L 8 = true → R w')
theorem AddWI.no8 {W0 : World} {R : World → Prop} {g : Unit} {L : Nat → Bool} {w' : World} (h : AddWI W0 R g L w') (i : Nat) (hi : i < 8) (hL : L i = false) : L 8 = false := by
  cases h8 : L 8 with
  | false => rfl
  | true =>
    have p := h.1
    have l0 := p 8 h8 0 (by decide)
    have l2 := p 8 h8 2 (by decide)
    have l7 := p 8 h8 7 (by decide)
    have l1 := p 2 l2 1 (by decide)
    have l6 := p 7 l7 6 (by decide)
    have l5 := p 6 l6 5 (by decide)
    have l4 := p 5 l5 4 (by decide)
    have l3 := p 4 l4 3 (by decide)
    have : L i = true := by
      rcases i with _ | _ | _ | _ | _ | _ | _ | _ | i <;> first | assumption | omega
    rw [this] at hL; cases hL
theorem AddWI.quiet {W0 : World} {R : World → Prop} {g : Unit} {L : Nat → Bool} {w' w2 : World} (h : AddWI W0 R g L w') (i : Nat) (hi : i < 8) (hL : L i = false) (hE : Ext w' w2) (hp : ∀ j ∈ addPar i, L j = true) :
    AddWI W0 R g (fun j => if j = i then true else L j) w2 := by
  have h8 := h.no8 i hi hL
  refine ⟨fun k hk j hj => ?_, fun _ => (h.2.1 h8).trans hE, fun e => ?_⟩
  · by_cases e : j = i
    · simp [e]
    · simp only [if_neg e]
      by_cases e2 : k = i
      · subst e2; exact hp j hj
      · simp only [if_neg e2] at hk; exact h.1 k hk j hj
  · simp only [if_neg (show ¬ 8 = i by omega)] at e
    rw [h8] at e; cases e
theorem AddWI.last {W0 : World} {R : World → Prop} {g : Unit} {L : Nat → Bool} {w' w2 : World} (h : AddWI W0 R g L w') (_ : L 8 = false) (hp : ∀ j ∈ addPar 8, L j = true) (hR : R w2) :
    AddWI W0 R g (fun j => if j = 8 then true else L j) w2 := by
  refine ⟨fun k hk j hj => ?_, fun e => ?_, fun _ => hR⟩
  · by_cases e : j = 8
    · simp [e]
    · simp only [if_neg e]
      by_cases e2 : k = 8
      · subst e2; exact hp j hj
      · simp only [if_neg e2] at hk; exact h.1 k hk j hj
  · simp at e
def addVs (n C : Nat) (key : List UInt8) (s : ByteArray) (o D : Nat) (_ : Unit) : List Value :=
  [.func (.func 73) #[] #[.pointer (some ⟨n + 1 + 1 + 1, 0, none⟩)], .pointer (some ⟨C, 0, none⟩), .string (bs key), .pointer (some ⟨C, 1, none⟩), .pointer (some ⟨n + 1 + 1, o, none⟩), .pointer (some ⟨n + 1 + 1, o, none⟩), .int .i64 D, .string s, .tuple #[]]
def EndWI (W0 : World) (R : World → Prop) (_ : Unit) (L : Nat → Bool) (w' : World) : Prop :=
  (L 2 = true → L 0 = true) ∧ (L 2 = false → Ext W0 w') ∧ (L 2 = true → R w')
theorem EndWI.quiet {W0 : World} {R : World → Prop} {g : Unit} {L : Nat → Bool} {w' : World} (h : EndWI W0 R g L w') (i : Nat) (hi : i ≠ 2) (_ : i = 0 → i = 0) :
    EndWI W0 R g (fun j => if j = i then true else L j) w' := by
  unfold EndWI at h ⊢
  simp only [if_neg (Ne.symm hi)]
  refine ⟨fun e => ?_, h.2⟩
  by_cases e0 : 0 = i
  · rw [if_pos e0]
  · rw [if_neg e0]; exact h.1 e
theorem EndWI.last {W0 : World} {R : World → Prop} {g : Unit} {L : Nat → Bool} {w' w2 : World} (_ : EndWI W0 R g L w') (h0 : L 0 = true) (hR : R w2) :
    EndWI W0 R g (fun j => if j = 2 then true else L j) w2 := by
  unfold EndWI
  refine ⟨fun _ => by simp [h0], fun e => by simp at e, fun _ => hR⟩
def endVs (h : Hd) (lv : Value) (_ : Unit) : List Value := [h.val, lv, undef, lv]
theorem SpI.made (w : World) (m : Mb) (v : Value) : SpI w m v (hm0 m) [] ((((w.alloc (.cells (m.cells v) 45)).alloc (.cells Hd.zero.cells 27)).alloc (.cells (hm0 m).cells 27)).alloc (.cells #[.slice none 0 0] 72)) := by
  have E1 := Ext.alloc w (.cells (m.cells v) 45)
  have b1 : MbBlk (w.alloc (.cells (m.cells v) 45)) w.heap.size m v := heap_alloc_new _ _
  have s1 : (w.alloc (.cells (m.cells v) 45)).heap.size = w.heap.size + 1 := by simp
  generalize w.alloc (.cells (m.cells v) 45) = w1 at *
  have E2 := Ext.alloc w1 (.cells Hd.zero.cells 27)
  have b2 : HdBlk (w1.alloc (.cells Hd.zero.cells 27)) w1.heap.size Hd.zero := heap_alloc_new _ _
  have s2 : (w1.alloc (.cells Hd.zero.cells 27)).heap.size = w1.heap.size + 1 := by simp
  generalize w1.alloc (.cells Hd.zero.cells 27) = w2 at *
  have E3 := Ext.alloc w2 (.cells (hm0 m).cells 27)
  have b3 : HdBlk (w2.alloc (.cells (hm0 m).cells 27)) w2.heap.size (hm0 m) := heap_alloc_new _ _
  have s3 : (w2.alloc (.cells (hm0 m).cells 27)).heap.size = w2.heap.size + 1 := by simp
  generalize w2.alloc (.cells (hm0 m).cells 27) = w3 at *
  have E4 := Ext.alloc w3 (.cells #[.slice none 0 0] 72)
  have b4 : (w3.alloc (.cells #[.slice none 0 0] 72)).heap[w3.heap.size]? = some (.cells #[.slice none 0 0] 72 (0, 0)) := heap_alloc_new _ _
  have s4 : (w3.alloc (.cells #[.slice none 0 0] 72)).heap.size = w3.heap.size + 1 := by simp
  rw [s3, s2, s1] at b4
  rw [s2, s1] at b3
  rw [s1] at b2
  exact ⟨((E1.trans E2).trans E3).trans E4, ((b1.ext E2).ext E3).ext E4, (b2.ext E3).ext E4, b3.ext E4, by omega, by rw [s4, s3, s2, s1]; omega, _, b4, RcRow.nil _ _⟩

set_option maxHeartbeats 8000000 in
set_option maxRecDepth 100000 in
theorem write_split (m : Mb) (p : Option Addr) (c : Nat) (w : World) (hp : m.path.length ≤ 1000000) (ht : m.target.length ≤ 1000000) (hw : HW w) (hu0 : 0 ≤ m.uid) (hg0 : 0 ≤ m.gid) (ht0 : 0 ≤ m.time) (hu1 : m.uid ≤ 9000000000000000000) (hg1 : m.gid ≤ 9000000000000000000) (ht1 : m.time ≤ 9000000000000000000) :
    Calls Tryd.prog 42 #[m.val (.slice p m.body.length c)] w fun e w' => Hid (∃ lv, e = .returned (.tuple #[(hm5 m).val, lv]) ∧ RcRow w.heap.size w' lv (rc5 m) ∧ Ext w w') := by
  have HM := Lib.hid (SpI.made w m (.slice p m.body.length c))
  have HC : Hid (∀ W, Ext w W → Calls Tryd.prog 17 #[.string (bs m.path)] W fun e w' => e = .returned (cutV (cutS m.path)) ∧ Ext W w') := fun W hW => head_Cut m.path W hp (hw.ext hW).hv
  have HP : Hid (∀ l W, Ext w W → l.length ≤ 1000000000 → Calls Tryd.prog 74 #[.string (bs l)] W fun e w' => e = .returned (.bool (plainS l)) ∧ Ext W w') := fun l W hW hl => write_plain l W hl
  have HI : Hid (∀ (n : Nat) W, Ext w W → n ≤ 9223372036854775807 → Calls Tryd.prog 75 #[.int .i64 n] W fun e w' => e = .returned (.string (bs (Lib.decDigits n))) ∧ Ext W w') := fun n W hW hn => strconv_Itoa n W hn (hw.ext hW)
  clear hw
  unfold Mb.val Mb.cells
  go_enter Tryd.func42, Tryd.ntmps42
  go_upto_region 4 with fail
  go_cut [9] (fun s9 wd => s9 = .bool (cutS m.path).isSome ∧ Hid (SpI w m (.slice p m.body.length c) (hm0 m) [] wd))
  case first =>
    go_wp2_with fail
    refine (HC.out _ HM.out.1).mono ?_
    rintro e w1 ⟨rfl, hE⟩
    have HN := Lib.hid (HM.out.ext hE)
    clear hE
    cases hc : cutS m.path with
    | none =>
      unfold cutV
      simp only []
      go_wp2_with fail
      go_meet
      exact ⟨by rw [hc]; rfl, HN.out⟩
    | some x =>
      obtain ⟨x1, x2⟩ := x
      unfold cutV
      simp only []
      go_wp2_with fail
      go_meet
      exact ⟨by rw [hc]; rfl, HN.out⟩
  case rest =>
    obtain ⟨rfl, HD⟩ := hcut
    clear HM HC
    obtain ⟨b, hb⟩ : ∃ b, b = (cutS m.path).isSome := ⟨_, rfl⟩
    obtain ⟨b2, hb2⟩ : ∃ b2, b2 = plainS m.path := ⟨_, rfl⟩
    have hnd : needP m = (!b || !b2) := by unfold needP; rw [hb, hb2]
    rw [← hb]
    have HB := Lib.hid hb2
    have HND := Lib.hid hnd
    clear hb hb2 hnd
    obtain ⟨z0, z1, z2, z3, z4, z5, z6, z7⟩ := HD.out.2.1.cells
    go_upto_region 5 with fail
    go_cut [39] (fun s39 wd => s39 = .bool (!b || !b2) ∧ Hid (SpI w m (.slice p m.body.length c) (hm0 m) [] wd))
    case first =>
      cases b with
      | false =>
        go_wp2_with fail
        go_meet
        exact ⟨rfl, HD.out⟩
      | true =>
        go_wp2_with fail
        refine (HP.out m.path _ HD.out.1 (by omega)).mono ?_
        rw [← HB.out]
        rintro e w1 ⟨rfl, hE⟩
        have HN := Lib.hid (HD.out.ext hE)
        clear hE
        go_wp2_with fail
        go_meet
        exact ⟨rfl, HN.out⟩
    case rest =>
      obtain ⟨rfl, HD2⟩ := hcut
      clear HD z0 z1 z2 z3 z4 z5 z6 z7
      rw [← HND.out]
      clear HB HND
      go_upto_if 39 with fail
      go_cut [] (fun wd => Hid (SpI w m (.slice p m.body.length c) (hm1 m) (rc1 m) wd))
      case first =>
        cases hn : needP m with
        | false =>
          have e1 : hm1 m = hm0 m := by unfold hm1; rw [hn]; rfl
          have e2 : rc1 m = [] := by unfold rc1; rw [hn]; rfl
          have HE := Lib.hid (And.intro e1 e2)
          clear e1 e2 hn
          go_wp2_with fail
          go_meet
          rw [HE.out.1, HE.out.2]
          exact HD2.out
        | true =>
          have e1 : hm1 m = { hm0 m with name := longB } := by unfold hm1; rw [hn]; rfl
          have e2 : rc1 m = [(kPath, m.path)] := by unfold rc1; rw [hn]; rfl
          have HE := Lib.hid (And.intro e1 e2)
          clear e1 e2 hn
          obtain ⟨z0, z1, z2, z3, z4, z5, z6, z7⟩ := HD2.out.2.1.cells
          go_wp2_with fail
          refine (split_add _ _ kPath m.path [] wc HD2.out.2.2.2.2 (by simp)).mono ?_
          intro e w1 H
          obtain ⟨rfl, h2, h3, -⟩ := H.out
          have HN := Lib.hid (HD2.out.fr h3 h2)
          clear h2 h3 H z0 z1 z2 z3 z4 z5 z6 z7
          obtain ⟨q0, q1, q2, q3, q4, q5, q6, q7, q8⟩ := HN.out.2.2.2.1.cells
          have qf := HN.out.2.2.2.1.frozen
          go_wp2_with fail
          go_meet
          rw [HE.out.1, HE.out.2]
          exact HN.out.store 0 _ (HN.out.2.2.2.1.set_name longB)
      case rest =>
        have HD3 : Hid (SpI w m (.slice p m.body.length c) (hm1 m) (rc1 m) wc) := hcut
        clear HD2 hcut
        obtain ⟨z0, z1, z2, z3, z4, z5, z6, z7⟩ := HD3.out.2.1.cells
        have hsz := bs_size m.target
        go_upto_region 8 with fail
        go_cut [54] (fun s54 wd => s54 = .bool (needT m) ∧ Hid (SpI w m (.slice p m.body.length c) (hm1 m) (rc1 m) wd))
        case first =>
          by_cases h100 : 100 < m.target.length
          · have h100' : (100 : Int) < (m.target.length : Int) := by omega
            have hn : needT m = true := by unfold needT; rw [decide_eq_true h100]; rfl
            have HN := Lib.hid hn
            clear hn h100
            go_wp2_with fail
            go_meet
            exact ⟨by rw [HN.out], HD3.out⟩
          · have h100' : ¬ (100 : Int) < (m.target.length : Int) := by omega
            have hn : needT m = !plainS m.target := by unfold needT; rw [decide_eq_false h100]; rfl
            have HN := Lib.hid hn
            clear hn h100
            go_wp2_with fail
            refine (HP.out m.target _ HD3.out.1 (by omega)).mono ?_
            rintro e w1 ⟨rfl, hE⟩
            have HE := Lib.hid (HD3.out.ext hE)
            clear hE
            go_wp2_with fail
            go_meet
            exact ⟨by rw [HN.out], HE.out⟩
        case rest =>
          obtain ⟨rfl, HD4⟩ := hcut
          clear HD3 z0 z1 z2 z3 z4 z5 z6 z7
          go_upto_if 54 with fail
          go_cut [] (fun wd => Hid (SpI w m (.slice p m.body.length c) (hm2 m) (rc2 m) wd))
          case first =>
            cases hn : needT m with
            | false =>
              have e1 : hm2 m = hm1 m := by unfold hm2; rw [hn]; rfl
              have e2 : rc2 m = rc1 m := by unfold rc2; rw [hn]; rfl
              have HE := Lib.hid (And.intro e1 e2)
              clear e1 e2 hn
              go_wp2_with fail
              go_meet
              rw [HE.out.1, HE.out.2]
              exact HD4.out
            | true =>
              have e1 : hm2 m = { hm1 m with link := longB } := by unfold hm2; rw [hn]; rfl
              have e2 : rc2 m = rc1 m ++ [(kLink, m.target)] := by unfold rc2; rw [hn]; rfl
              have HE := Lib.hid (And.intro e1 e2)
              clear e1 e2 hn
              obtain ⟨z0, z1, z2, z3, z4, z5, z6, z7⟩ := HD4.out.2.1.cells
              go_wp2_with fail
              refine (split_add _ _ kLink m.target (rc1 m) wc HD4.out.2.2.2.2 (by have := rc1_len m; omega)).mono ?_
              intro e w1 H
              obtain ⟨rfl, h2, h3, -⟩ := H.out
              have HN := Lib.hid (HD4.out.fr h3 h2)
              clear h2 h3 H z0 z1 z2 z3 z4 z5 z6 z7
              obtain ⟨q0, q1, q2, q3, q4, q5, q6, q7, q8⟩ := HN.out.2.2.2.1.cells
              have qf := HN.out.2.2.2.1.frozen
              go_wp2_with fail
              go_meet
              rw [HE.out.1, HE.out.2]
              exact HN.out.store 1 _ (HN.out.2.2.2.1.set_link longB)
          case rest =>
            have HD5 : Hid (SpI w m (.slice p m.body.length c) (hm2 m) (rc2 m) wc) := hcut
            clear HD4 hcut
            have HB0 := Lib.hid (And.intro (HD5.out.ext (Ext.alloc wc (.cells (tabC w.heap.size) 102))) (heap_alloc_new wc (.cells (tabC w.heap.size) 102)))
            go_wp2_with fail
            go_loopw [71] (fun kv wr => ∃ k : Nat, k ≤ 3 ∧ kv = .int .i64 k ∧ Hid (SpI w m (.slice p m.body.length c) (hdK m k) (rcK m k) wr ∧ wr.heap[wc.heap.size]? = some (.cells (tabC w.heap.size) 102 (0, 0)))) (fun kv _ => 3 - (intOf kv).toNat)
            case atStart => exact ⟨0, by omega, rfl, HB0.out⟩
            case round =>
              obtain ⟨k, hk, rfl, HR⟩ := hrel
              by_cases h3 : k < 3
              · have hk' : k = 0 ∨ k = 1 ∨ k = 2 := by omega
                rcases hk' with rfl | rfl | rfl
                -- ROUNDS-BEGIN (printed by gensplit.py)
                · have t0 : wr.cell? ⟨wc.heap.size, 0, none⟩ = some (.string (bs kUid)) := cell_of HR.out.2 rfl
                  have t1 : wr.cell? ⟨wc.heap.size, 1, none⟩ = some (.pointer (some ⟨w.heap.size + 1 + 1, 4, none⟩)) := cell_of HR.out.2 rfl
                  have t2 : wr.cell? ⟨wc.heap.size, 2, none⟩ = some (.int .i64 2097151) := cell_of HR.out.2 rfl
                  have q : wr.cell? ⟨w.heap.size + 1 + 1, 4, none⟩ = some (.int .i64 m.uid) := by
                    have := HR.out.1.2.2.2.1.cells.2.2.2.2.1
                    rw [show (hdK m 0).uid = m.uid from hm2_uid m] at this
                    exact this
                  have qa : ∀ o, (wr.alloc o).cell? ⟨w.heap.size + 1 + 1, 4, none⟩ = some (.int .i64 m.uid) := fun o => (Ext.alloc wr o).cell q
                  have hC : (wr.alloc (.cells #[.string (bs kUid), .pointer (some ⟨w.heap.size + 1 + 1, 4, none⟩), .int .i64 2097151] 102)).heap[wr.heap.size]? = some (.cells #[.string (bs kUid), .pointer (some ⟨w.heap.size + 1 + 1, 4, none⟩), .int .i64 2097151] 102 (0, 0)) := heap_alloc_new _ _
                  have HW0 := Lib.hid (And.intro (HR.out.1.ext (Ext.alloc wr (.cells #[.string (bs kUid), .pointer (some ⟨w.heap.size + 1 + 1, 4, none⟩), .int .i64 2097151] 102))) (And.intro (Ext.heap (Ext.alloc wr (.cells #[.string (bs kUid), .pointer (some ⟨w.heap.size + 1 + 1, 4, none⟩), .int .i64 2097151] 102)) HR.out.2) hC))
                  clear h3 hk hC
                  by_cases hbig : 2097151 < m.uid
                  · have hn : needU m = true := by unfold needU; exact decide_eq_true hbig
                    have e1 : hm3 m = { hm2 m with uid := 0 } := by unfold hm3; rw [hn]; rfl
                    have e2 : rc3 m = rc2 m ++ [(kUid, Lib.decDigits m.uid.toNat)] := by unfold rc3; rw [hn]; rfl
                    have HE := Lib.hid (And.intro e1 e2)
                    clear e1 e2 hn
                    go_wp2_with fail
                    go_quiet (fail)
                    go_wp2_with fail
                    have hS0 := HW0.out.1.ext (Ext.drewN _ nq)
                    have hB0 := HW0.out.2.1
                    have hC0 := HW0.out.2.2
                    generalize hW1 : (wr.alloc (.cells #[.string (bs kUid), .pointer (some ⟨w.heap.size + 1 + 1, 4, none⟩), .int .i64 2097151] 102)).drewN nq = W1 at *
                    have hB1 : W1.heap[wc.heap.size]? = some (.cells (tabC w.heap.size) 102 (0, 0)) := by rw [← hW1]; exact hB0
                    have hC1 : W1.heap[wr.heap.size]? = some (.cells #[.string (bs kUid), .pointer (some ⟨w.heap.size + 1 + 1, 4, none⟩), .int .i64 2097151] 102 (0, 0)) := by rw [← hW1]; exact hC0
                    have HU := Lib.hid (And.intro hS0 (And.intro hB1 hC1))
                    clear hB0 hC0 hB1 hC1 hW1 hS0 HW0 HR t0 t1 t2 q qa
                    obtain ⟨D, hD⟩ : ∃ D : Nat, m.uid = (D : Int) := ⟨m.uid.toNat, by omega⟩
                    have eD : Lib.decDigits m.uid.toNat = Lib.decDigits D := by rw [hD]; rfl
                    rw [eD] at HE
                    have hDl : D ≤ 9223372036854775807 := by omega
                    apply wp_region_genlX (addVs w.heap.size wr.heap.size kUid (bs (Lib.decDigits D)) 4 D) (AddWI W1 (fun w' => SpI w m (.slice p m.body.length c) (hm2 m) (rc3 m) w' ∧ w'.heap[wc.heap.size]? = some (.cells (tabC w.heap.size) 102 (0, 0)) ∧ w'.heap[wr.heap.size]? = some (.cells #[.string (bs kUid), .pointer (some ⟨w.heap.size + 1 + 1, 4, none⟩), .int .i64 2097151] 102 (0, 0)))) ()
                    case hm => kernel_rfl
                    case hB => kernel_rfl
                    case hlen => exact fun g => rfl
                    case hds => rfl
                    case h0 => exact ⟨fun i h => (by cases h), fun _ => Ext.drew W1, fun e => (by cases e)⟩
                    case hF =>
                      intro g
                      simp only [finalF, addVs, Act.put, List.setIfInBounds_toArray, List.set_cons_succ, List.set_cons_zero]
                      rfl
                    case hstep =>
                      simp only [AllO, Nat.zero_add, Nat.reduceAdd]
                      refine ⟨?_, ?_, ?_, ?_, ?_, ?_, ?_, ?_, ?_, trivial⟩
                      all_goals
                        intro g L w' hW0 hi hd
                        have hW := Lib.hid hW0
                        clear hW0
                      case refine_8 =>
                        have hE := hW.out.2.1 (hW.out.no8 7 (by decide) hi)
                        refine .inr (.inr ⟨75, #[.int .i64 D], w', ?_, ?_⟩)
                        · go_simp
                        · refine (HI.out D w' (HU.out.1.1.trans hE) hDl).mono ?_
                          rintro e w'' ⟨rfl, hE2⟩
                          exact ⟨_, rfl, g, hW.out.quiet 7 (by decide) hi hE2 (by intro j hj; simp [addPar] at hj; subst hj; exact hd ⟨6, .data⟩ (by simp) rfl), fun _ _ => trivial, rfl⟩
                      case refine_9 =>
                        have hE := hW.out.2.1 hi
                        have hS := HU.out.1.ext hE
                        have hrs : (rc2 m).length ≤ 1000 := by have := rc2_len m; omega
                        refine .inr (.inr ⟨73, #[.string (bs kUid), .string (bs (Lib.decDigits D)), .pointer (some ⟨w.heap.size + 1 + 1 + 1, 0, none⟩)], w', ?_, ?_⟩)
                        · go_simp
                        · refine (split_add _ _ kUid (Lib.decDigits D) (rc2 m) w' hS.2.2.2.2 hrs).mono ?_
                          intro e w'' H
                          obtain ⟨rfl, h2, h3, h4⟩ := H.out
                          refine ⟨_, rfl, g, hW.out.last hi ?_ ⟨?_, ?_, ?_⟩, fun _ _ => trivial, rfl⟩
                          · intro j hj
                            simp [addPar] at hj
                            rcases hj with rfl | rfl | rfl
                            · exact hd ⟨0, .data⟩ (by simp) rfl
                            · exact hd ⟨2, .data⟩ (by simp) rfl
                            · exact hd ⟨7, .data⟩ (by simp) rfl
                          · rw [HE.out.2]
                            exact hS.fr h3 h2
                          · exact h4 _ _ _ _ (Ext.heap hE HU.out.2.1) (by decide) (fun e => by have h1 := HU.out.1.2.2.2.2; obtain ⟨_, _, _, hx, _⟩ := h1; have h2 := HU.out.2.1; rw [e, hx] at h2; cases h2)
                          · exact h4 _ _ _ _ (Ext.heap hE HU.out.2.2) (by decide) (fun e => by have h1 := HU.out.1.2.2.2.2; obtain ⟨_, _, _, hx, _⟩ := h1; have h2 := HU.out.2.2; rw [e, hx] at h2; cases h2)
                      all_goals
                        have hE := hW.out.2.1 (hW.out.no8 _ (by decide) hi)
                        have c0 := cell_of (Ext.heap hE HU.out.2.2) (i := 0) (v := .string (bs kUid)) rfl
                        have c1 := cell_of (Ext.heap hE HU.out.2.2) (i := 1) (v := .pointer (some ⟨w.heap.size + 1 + 1, 4, none⟩)) rfl
                        have c2 : w'.cell? ⟨w.heap.size + 1 + 1, 4, none⟩ = some (.int .i64 D) := by
                          have h := (HU.out.1.ext hE).2.2.2.1.cells.2.2.2.2.1
                          rw [show (hdK m 0).uid = (D : Int) from (hm2_uid m).trans hD] at h
                          exact h
                        have HX := Lib.hid hE
                        clear hE
                        refine .inl ⟨_, w', ?_, g, hW.out.quiet _ (by decide) hi (Ext.refl _) (by intro j hj; first | (simp [addPar] at hj; done) | (simp [addPar] at hj; subst hj; first | exact hd ⟨1, .data⟩ (by simp) rfl | exact hd ⟨3, .data⟩ (by simp) rfl | exact hd ⟨4, .data⟩ (by simp) rfl | exact hd ⟨5, .data⟩ (by simp) rfl)), fun _ _ => trivial, rfl⟩
                        go_simp
                    case hend =>
                      intro g L w4 hall' hW
                      have hall : ∀ i, i < 9 → L i = true := hall'
                      have HG := Lib.hid (hW.2.2 (hall 8 (by decide)))
                      clear hW hall hall'
                      obtain ⟨q0, q1, q2, q3, q4, q5, q6, q7, q8⟩ := HG.out.1.2.2.2.1.cells
                      have qf := HG.out.1.2.2.2.1.frozen
                      have c1 := cell_of HG.out.2.2 (i := 1) (v := .pointer (some ⟨w.heap.size + 1 + 1, 4, none⟩)) rfl
                      go_wp2_with fail
                      refine ⟨⟨1, by omega, rfl, ?_⟩, by simp [intOf]⟩
                      have hst := HG.out.1.store 4 _ (HG.out.1.2.2.2.1.set_uid 0)
                      rw [← HE.out.1] at hst
                      refine ⟨hst, ?_⟩
                      rw [Below.heap_setCell _ _ _ _ (by show wc.heap.size ≠ w.heap.size + 1 + 1; intro e; have h1 := HG.out.1.2.2.2.1; have h2 := HG.out.2.1; unfold HdBlk at h1; rw [e, h1] at h2; simp only [Option.some.injEq, Obj.cells.injEq] at h2; exact absurd h2.2.1 (by decide))]
                      exact HG.out.2.1
                  · have hn : needU m = false := by unfold needU; exact decide_eq_false hbig
                    have e1 : hm3 m = hm2 m := by unfold hm3; rw [hn]; rfl
                    have e2 : rc3 m = rc2 m := by unfold rc3; rw [hn]; rfl
                    have HE := Lib.hid (And.intro e1 e2)
                    clear e1 e2 hn
                    go_wp2_with fail
                    go_quiet (fail)
                    go_wp2_with fail
                    refine ⟨⟨1, by omega, rfl, ?_⟩, by simp [intOf]⟩
                    have hS0 := HW0.out.1.ext (Ext.drewN _ nq)
                    refine ⟨?_, HW0.out.2.1⟩
                    show SpI w m (.slice p m.body.length c) (hm3 m) (rc3 m) _
                    rw [HE.out.1, HE.out.2]
                    exact hS0
                · have t0 : wr.cell? ⟨wc.heap.size, 3, none⟩ = some (.string (bs kGid)) := cell_of HR.out.2 rfl
                  have t1 : wr.cell? ⟨wc.heap.size, 4, none⟩ = some (.pointer (some ⟨w.heap.size + 1 + 1, 5, none⟩)) := cell_of HR.out.2 rfl
                  have t2 : wr.cell? ⟨wc.heap.size, 5, none⟩ = some (.int .i64 2097151) := cell_of HR.out.2 rfl
                  have q : wr.cell? ⟨w.heap.size + 1 + 1, 5, none⟩ = some (.int .i64 m.gid) := by
                    have := HR.out.1.2.2.2.1.cells.2.2.2.2.2.1
                    rw [show (hdK m 1).gid = m.gid from hm3_gid m] at this
                    exact this
                  have qa : ∀ o, (wr.alloc o).cell? ⟨w.heap.size + 1 + 1, 5, none⟩ = some (.int .i64 m.gid) := fun o => (Ext.alloc wr o).cell q
                  have hC : (wr.alloc (.cells #[.string (bs kGid), .pointer (some ⟨w.heap.size + 1 + 1, 5, none⟩), .int .i64 2097151] 102)).heap[wr.heap.size]? = some (.cells #[.string (bs kGid), .pointer (some ⟨w.heap.size + 1 + 1, 5, none⟩), .int .i64 2097151] 102 (0, 0)) := heap_alloc_new _ _
                  have HW0 := Lib.hid (And.intro (HR.out.1.ext (Ext.alloc wr (.cells #[.string (bs kGid), .pointer (some ⟨w.heap.size + 1 + 1, 5, none⟩), .int .i64 2097151] 102))) (And.intro (Ext.heap (Ext.alloc wr (.cells #[.string (bs kGid), .pointer (some ⟨w.heap.size + 1 + 1, 5, none⟩), .int .i64 2097151] 102)) HR.out.2) hC))
                  clear h3 hk hC
                  by_cases hbig : 2097151 < m.gid
                  · have hn : needG m = true := by unfold needG; exact decide_eq_true hbig
                    have e1 : hm4 m = { hm3 m with gid := 0 } := by unfold hm4; rw [hn]; rfl
                    have e2 : rc4 m = rc3 m ++ [(kGid, Lib.decDigits m.gid.toNat)] := by unfold rc4; rw [hn]; rfl
                    have HE := Lib.hid (And.intro e1 e2)
                    clear e1 e2 hn
                    go_wp2_with fail
                    go_quiet (fail)
                    go_wp2_with fail
                    have hS0 := HW0.out.1.ext (Ext.drewN _ nq)
                    have hB0 := HW0.out.2.1
                    have hC0 := HW0.out.2.2
                    generalize hW1 : (wr.alloc (.cells #[.string (bs kGid), .pointer (some ⟨w.heap.size + 1 + 1, 5, none⟩), .int .i64 2097151] 102)).drewN nq = W1 at *
                    have hB1 : W1.heap[wc.heap.size]? = some (.cells (tabC w.heap.size) 102 (0, 0)) := by rw [← hW1]; exact hB0
                    have hC1 : W1.heap[wr.heap.size]? = some (.cells #[.string (bs kGid), .pointer (some ⟨w.heap.size + 1 + 1, 5, none⟩), .int .i64 2097151] 102 (0, 0)) := by rw [← hW1]; exact hC0
                    have HU := Lib.hid (And.intro hS0 (And.intro hB1 hC1))
                    clear hB0 hC0 hB1 hC1 hW1 hS0 HW0 HR t0 t1 t2 q qa
                    obtain ⟨D, hD⟩ : ∃ D : Nat, m.gid = (D : Int) := ⟨m.gid.toNat, by omega⟩
                    have eD : Lib.decDigits m.gid.toNat = Lib.decDigits D := by rw [hD]; rfl
                    rw [eD] at HE
                    have hDl : D ≤ 9223372036854775807 := by omega
                    apply wp_region_genlX (addVs w.heap.size wr.heap.size kGid (bs (Lib.decDigits D)) 5 D) (AddWI W1 (fun w' => SpI w m (.slice p m.body.length c) (hm3 m) (rc4 m) w' ∧ w'.heap[wc.heap.size]? = some (.cells (tabC w.heap.size) 102 (0, 0)) ∧ w'.heap[wr.heap.size]? = some (.cells #[.string (bs kGid), .pointer (some ⟨w.heap.size + 1 + 1, 5, none⟩), .int .i64 2097151] 102 (0, 0)))) ()
                    case hm => kernel_rfl
                    case hB => kernel_rfl
                    case hlen => exact fun g => rfl
                    case hds => rfl
                    case h0 => exact ⟨fun i h => (by cases h), fun _ => Ext.drew W1, fun e => (by cases e)⟩
                    case hF =>
                      intro g
                      simp only [finalF, addVs, Act.put, List.setIfInBounds_toArray, List.set_cons_succ, List.set_cons_zero]
                      rfl
                    case hstep =>
                      simp only [AllO, Nat.zero_add, Nat.reduceAdd]
                      refine ⟨?_, ?_, ?_, ?_, ?_, ?_, ?_, ?_, ?_, trivial⟩
                      all_goals
                        intro g L w' hW0 hi hd
                        have hW := Lib.hid hW0
                        clear hW0
                      case refine_8 =>
                        have hE := hW.out.2.1 (hW.out.no8 7 (by decide) hi)
                        refine .inr (.inr ⟨75, #[.int .i64 D], w', ?_, ?_⟩)
                        · go_simp
                        · refine (HI.out D w' (HU.out.1.1.trans hE) hDl).mono ?_
                          rintro e w'' ⟨rfl, hE2⟩
                          exact ⟨_, rfl, g, hW.out.quiet 7 (by decide) hi hE2 (by intro j hj; simp [addPar] at hj; subst hj; exact hd ⟨6, .data⟩ (by simp) rfl), fun _ _ => trivial, rfl⟩
                      case refine_9 =>
                        have hE := hW.out.2.1 hi
                        have hS := HU.out.1.ext hE
                        have hrs : (rc3 m).length ≤ 1000 := by have := rc3_len m; omega
                        refine .inr (.inr ⟨73, #[.string (bs kGid), .string (bs (Lib.decDigits D)), .pointer (some ⟨w.heap.size + 1 + 1 + 1, 0, none⟩)], w', ?_, ?_⟩)
                        · go_simp
                        · refine (split_add _ _ kGid (Lib.decDigits D) (rc3 m) w' hS.2.2.2.2 hrs).mono ?_
                          intro e w'' H
                          obtain ⟨rfl, h2, h3, h4⟩ := H.out
                          refine ⟨_, rfl, g, hW.out.last hi ?_ ⟨?_, ?_, ?_⟩, fun _ _ => trivial, rfl⟩
                          · intro j hj
                            simp [addPar] at hj
                            rcases hj with rfl | rfl | rfl
                            · exact hd ⟨0, .data⟩ (by simp) rfl
                            · exact hd ⟨2, .data⟩ (by simp) rfl
                            · exact hd ⟨7, .data⟩ (by simp) rfl
                          · rw [HE.out.2]
                            exact hS.fr h3 h2
                          · exact h4 _ _ _ _ (Ext.heap hE HU.out.2.1) (by decide) (fun e => by have h1 := HU.out.1.2.2.2.2; obtain ⟨_, _, _, hx, _⟩ := h1; have h2 := HU.out.2.1; rw [e, hx] at h2; cases h2)
                          · exact h4 _ _ _ _ (Ext.heap hE HU.out.2.2) (by decide) (fun e => by have h1 := HU.out.1.2.2.2.2; obtain ⟨_, _, _, hx, _⟩ := h1; have h2 := HU.out.2.2; rw [e, hx] at h2; cases h2)
                      all_goals
                        have hE := hW.out.2.1 (hW.out.no8 _ (by decide) hi)
                        have c0 := cell_of (Ext.heap hE HU.out.2.2) (i := 0) (v := .string (bs kGid)) rfl
                        have c1 := cell_of (Ext.heap hE HU.out.2.2) (i := 1) (v := .pointer (some ⟨w.heap.size + 1 + 1, 5, none⟩)) rfl
                        have c2 : w'.cell? ⟨w.heap.size + 1 + 1, 5, none⟩ = some (.int .i64 D) := by
                          have h := (HU.out.1.ext hE).2.2.2.1.cells.2.2.2.2.2.1
                          rw [show (hdK m 1).gid = (D : Int) from (hm3_gid m).trans hD] at h
                          exact h
                        have HX := Lib.hid hE
                        clear hE
                        refine .inl ⟨_, w', ?_, g, hW.out.quiet _ (by decide) hi (Ext.refl _) (by intro j hj; first | (simp [addPar] at hj; done) | (simp [addPar] at hj; subst hj; first | exact hd ⟨1, .data⟩ (by simp) rfl | exact hd ⟨3, .data⟩ (by simp) rfl | exact hd ⟨4, .data⟩ (by simp) rfl | exact hd ⟨5, .data⟩ (by simp) rfl)), fun _ _ => trivial, rfl⟩
                        go_simp
                    case hend =>
                      intro g L w4 hall' hW
                      have hall : ∀ i, i < 9 → L i = true := hall'
                      have HG := Lib.hid (hW.2.2 (hall 8 (by decide)))
                      clear hW hall hall'
                      obtain ⟨q0, q1, q2, q3, q4, q5, q6, q7, q8⟩ := HG.out.1.2.2.2.1.cells
                      have qf := HG.out.1.2.2.2.1.frozen
                      have c1 := cell_of HG.out.2.2 (i := 1) (v := .pointer (some ⟨w.heap.size + 1 + 1, 5, none⟩)) rfl
                      go_wp2_with fail
                      refine ⟨⟨2, by omega, rfl, ?_⟩, by simp [intOf]⟩
                      have hst := HG.out.1.store 5 _ (HG.out.1.2.2.2.1.set_gid 0)
                      rw [← HE.out.1] at hst
                      refine ⟨hst, ?_⟩
                      rw [Below.heap_setCell _ _ _ _ (by show wc.heap.size ≠ w.heap.size + 1 + 1; intro e; have h1 := HG.out.1.2.2.2.1; have h2 := HG.out.2.1; unfold HdBlk at h1; rw [e, h1] at h2; simp only [Option.some.injEq, Obj.cells.injEq] at h2; exact absurd h2.2.1 (by decide))]
                      exact HG.out.2.1
                  · have hn : needG m = false := by unfold needG; exact decide_eq_false hbig
                    have e1 : hm4 m = hm3 m := by unfold hm4; rw [hn]; rfl
                    have e2 : rc4 m = rc3 m := by unfold rc4; rw [hn]; rfl
                    have HE := Lib.hid (And.intro e1 e2)
                    clear e1 e2 hn
                    go_wp2_with fail
                    go_quiet (fail)
                    go_wp2_with fail
                    refine ⟨⟨2, by omega, rfl, ?_⟩, by simp [intOf]⟩
                    have hS0 := HW0.out.1.ext (Ext.drewN _ nq)
                    refine ⟨?_, HW0.out.2.1⟩
                    show SpI w m (.slice p m.body.length c) (hm4 m) (rc4 m) _
                    rw [HE.out.1, HE.out.2]
                    exact hS0
                · have t0 : wr.cell? ⟨wc.heap.size, 6, none⟩ = some (.string (bs kTime)) := cell_of HR.out.2 rfl
                  have t1 : wr.cell? ⟨wc.heap.size, 7, none⟩ = some (.pointer (some ⟨w.heap.size + 1 + 1, 6, none⟩)) := cell_of HR.out.2 rfl
                  have t2 : wr.cell? ⟨wc.heap.size, 8, none⟩ = some (.int .i64 8589934591) := cell_of HR.out.2 rfl
                  have q : wr.cell? ⟨w.heap.size + 1 + 1, 6, none⟩ = some (.int .i64 m.time) := by
                    have := HR.out.1.2.2.2.1.cells.2.2.2.2.2.2.1
                    rw [show (hdK m 2).time = m.time from hm4_time m] at this
                    exact this
                  have qa : ∀ o, (wr.alloc o).cell? ⟨w.heap.size + 1 + 1, 6, none⟩ = some (.int .i64 m.time) := fun o => (Ext.alloc wr o).cell q
                  have hC : (wr.alloc (.cells #[.string (bs kTime), .pointer (some ⟨w.heap.size + 1 + 1, 6, none⟩), .int .i64 8589934591] 102)).heap[wr.heap.size]? = some (.cells #[.string (bs kTime), .pointer (some ⟨w.heap.size + 1 + 1, 6, none⟩), .int .i64 8589934591] 102 (0, 0)) := heap_alloc_new _ _
                  have HW0 := Lib.hid (And.intro (HR.out.1.ext (Ext.alloc wr (.cells #[.string (bs kTime), .pointer (some ⟨w.heap.size + 1 + 1, 6, none⟩), .int .i64 8589934591] 102))) (And.intro (Ext.heap (Ext.alloc wr (.cells #[.string (bs kTime), .pointer (some ⟨w.heap.size + 1 + 1, 6, none⟩), .int .i64 8589934591] 102)) HR.out.2) hC))
                  clear h3 hk hC
                  by_cases hbig : 8589934591 < m.time
                  · have hn : needM m = true := by unfold needM; exact decide_eq_true hbig
                    have e1 : hm5 m = { hm4 m with time := 0 } := by unfold hm5; rw [hn]; rfl
                    have e2 : rc5 m = rc4 m ++ [(kTime, Lib.decDigits m.time.toNat)] := by unfold rc5; rw [hn]; rfl
                    have HE := Lib.hid (And.intro e1 e2)
                    clear e1 e2 hn
                    go_wp2_with fail
                    go_quiet (fail)
                    go_wp2_with fail
                    have hS0 := HW0.out.1.ext (Ext.drewN _ nq)
                    have hB0 := HW0.out.2.1
                    have hC0 := HW0.out.2.2
                    generalize hW1 : (wr.alloc (.cells #[.string (bs kTime), .pointer (some ⟨w.heap.size + 1 + 1, 6, none⟩), .int .i64 8589934591] 102)).drewN nq = W1 at *
                    have hB1 : W1.heap[wc.heap.size]? = some (.cells (tabC w.heap.size) 102 (0, 0)) := by rw [← hW1]; exact hB0
                    have hC1 : W1.heap[wr.heap.size]? = some (.cells #[.string (bs kTime), .pointer (some ⟨w.heap.size + 1 + 1, 6, none⟩), .int .i64 8589934591] 102 (0, 0)) := by rw [← hW1]; exact hC0
                    have HU := Lib.hid (And.intro hS0 (And.intro hB1 hC1))
                    clear hB0 hC0 hB1 hC1 hW1 hS0 HW0 HR t0 t1 t2 q qa
                    obtain ⟨D, hD⟩ : ∃ D : Nat, m.time = (D : Int) := ⟨m.time.toNat, by omega⟩
                    have eD : Lib.decDigits m.time.toNat = Lib.decDigits D := by rw [hD]; rfl
                    rw [eD] at HE
                    have hDl : D ≤ 9223372036854775807 := by omega
                    apply wp_region_genlX (addVs w.heap.size wr.heap.size kTime (bs (Lib.decDigits D)) 6 D) (AddWI W1 (fun w' => SpI w m (.slice p m.body.length c) (hm4 m) (rc5 m) w' ∧ w'.heap[wc.heap.size]? = some (.cells (tabC w.heap.size) 102 (0, 0)) ∧ w'.heap[wr.heap.size]? = some (.cells #[.string (bs kTime), .pointer (some ⟨w.heap.size + 1 + 1, 6, none⟩), .int .i64 8589934591] 102 (0, 0)))) ()
                    case hm => kernel_rfl
                    case hB => kernel_rfl
                    case hlen => exact fun g => rfl
                    case hds => rfl
                    case h0 => exact ⟨fun i h => (by cases h), fun _ => Ext.drew W1, fun e => (by cases e)⟩
                    case hF =>
                      intro g
                      simp only [finalF, addVs, Act.put, List.setIfInBounds_toArray, List.set_cons_succ, List.set_cons_zero]
                      rfl
                    case hstep =>
                      simp only [AllO, Nat.zero_add, Nat.reduceAdd]
                      refine ⟨?_, ?_, ?_, ?_, ?_, ?_, ?_, ?_, ?_, trivial⟩
                      all_goals
                        intro g L w' hW0 hi hd
                        have hW := Lib.hid hW0
                        clear hW0
                      case refine_8 =>
                        have hE := hW.out.2.1 (hW.out.no8 7 (by decide) hi)
                        refine .inr (.inr ⟨75, #[.int .i64 D], w', ?_, ?_⟩)
                        · go_simp
                        · refine (HI.out D w' (HU.out.1.1.trans hE) hDl).mono ?_
                          rintro e w'' ⟨rfl, hE2⟩
                          exact ⟨_, rfl, g, hW.out.quiet 7 (by decide) hi hE2 (by intro j hj; simp [addPar] at hj; subst hj; exact hd ⟨6, .data⟩ (by simp) rfl), fun _ _ => trivial, rfl⟩
                      case refine_9 =>
                        have hE := hW.out.2.1 hi
                        have hS := HU.out.1.ext hE
                        have hrs : (rc4 m).length ≤ 1000 := by have := rc4_len m; omega
                        refine .inr (.inr ⟨73, #[.string (bs kTime), .string (bs (Lib.decDigits D)), .pointer (some ⟨w.heap.size + 1 + 1 + 1, 0, none⟩)], w', ?_, ?_⟩)
                        · go_simp
                        · refine (split_add _ _ kTime (Lib.decDigits D) (rc4 m) w' hS.2.2.2.2 hrs).mono ?_
                          intro e w'' H
                          obtain ⟨rfl, h2, h3, h4⟩ := H.out
                          refine ⟨_, rfl, g, hW.out.last hi ?_ ⟨?_, ?_, ?_⟩, fun _ _ => trivial, rfl⟩
                          · intro j hj
                            simp [addPar] at hj
                            rcases hj with rfl | rfl | rfl
                            · exact hd ⟨0, .data⟩ (by simp) rfl
                            · exact hd ⟨2, .data⟩ (by simp) rfl
                            · exact hd ⟨7, .data⟩ (by simp) rfl
                          · rw [HE.out.2]
                            exact hS.fr h3 h2
                          · exact h4 _ _ _ _ (Ext.heap hE HU.out.2.1) (by decide) (fun e => by have h1 := HU.out.1.2.2.2.2; obtain ⟨_, _, _, hx, _⟩ := h1; have h2 := HU.out.2.1; rw [e, hx] at h2; cases h2)
                          · exact h4 _ _ _ _ (Ext.heap hE HU.out.2.2) (by decide) (fun e => by have h1 := HU.out.1.2.2.2.2; obtain ⟨_, _, _, hx, _⟩ := h1; have h2 := HU.out.2.2; rw [e, hx] at h2; cases h2)
                      all_goals
                        have hE := hW.out.2.1 (hW.out.no8 _ (by decide) hi)
                        have c0 := cell_of (Ext.heap hE HU.out.2.2) (i := 0) (v := .string (bs kTime)) rfl
                        have c1 := cell_of (Ext.heap hE HU.out.2.2) (i := 1) (v := .pointer (some ⟨w.heap.size + 1 + 1, 6, none⟩)) rfl
                        have c2 : w'.cell? ⟨w.heap.size + 1 + 1, 6, none⟩ = some (.int .i64 D) := by
                          have h := (HU.out.1.ext hE).2.2.2.1.cells.2.2.2.2.2.2.1
                          rw [show (hdK m 2).time = (D : Int) from (hm4_time m).trans hD] at h
                          exact h
                        have HX := Lib.hid hE
                        clear hE
                        refine .inl ⟨_, w', ?_, g, hW.out.quiet _ (by decide) hi (Ext.refl _) (by intro j hj; first | (simp [addPar] at hj; done) | (simp [addPar] at hj; subst hj; first | exact hd ⟨1, .data⟩ (by simp) rfl | exact hd ⟨3, .data⟩ (by simp) rfl | exact hd ⟨4, .data⟩ (by simp) rfl | exact hd ⟨5, .data⟩ (by simp) rfl)), fun _ _ => trivial, rfl⟩
                        go_simp
                    case hend =>
                      intro g L w4 hall' hW
                      have hall : ∀ i, i < 9 → L i = true := hall'
                      have HG := Lib.hid (hW.2.2 (hall 8 (by decide)))
                      clear hW hall hall'
                      obtain ⟨q0, q1, q2, q3, q4, q5, q6, q7, q8⟩ := HG.out.1.2.2.2.1.cells
                      have qf := HG.out.1.2.2.2.1.frozen
                      have c1 := cell_of HG.out.2.2 (i := 1) (v := .pointer (some ⟨w.heap.size + 1 + 1, 6, none⟩)) rfl
                      go_wp2_with fail
                      refine ⟨⟨3, by omega, rfl, ?_⟩, by simp [intOf]⟩
                      have hst := HG.out.1.store 6 _ (HG.out.1.2.2.2.1.set_time 0)
                      rw [← HE.out.1] at hst
                      refine ⟨hst, ?_⟩
                      rw [Below.heap_setCell _ _ _ _ (by show wc.heap.size ≠ w.heap.size + 1 + 1; intro e; have h1 := HG.out.1.2.2.2.1; have h2 := HG.out.2.1; unfold HdBlk at h1; rw [e, h1] at h2; simp only [Option.some.injEq, Obj.cells.injEq] at h2; exact absurd h2.2.1 (by decide))]
                      exact HG.out.2.1
                  · have hn : needM m = false := by unfold needM; exact decide_eq_false hbig
                    have e1 : hm5 m = hm4 m := by unfold hm5; rw [hn]; rfl
                    have e2 : rc5 m = rc4 m := by unfold rc5; rw [hn]; rfl
                    have HE := Lib.hid (And.intro e1 e2)
                    clear e1 e2 hn
                    go_wp2_with fail
                    go_quiet (fail)
                    go_wp2_with fail
                    refine ⟨⟨3, by omega, rfl, ?_⟩, by simp [intOf]⟩
                    have hS0 := HW0.out.1.ext (Ext.drewN _ nq)
                    refine ⟨?_, HW0.out.2.1⟩
                    show SpI w m (.slice p m.body.length c) (hm5 m) (rc5 m) _
                    rw [HE.out.1, HE.out.2]
                    exact hS0
                -- ROUNDS-END
              · obtain rfl : k = 3 := by omega
                clear h3 hk
                have hS : SpI w m (.slice p m.body.length c) (hm5 m) (rc5 m) wr := HR.out.1
                obtain ⟨r1, r2, lv, r3, r4⟩ := hS.2.2.2.2
                obtain ⟨lp, lc, hlv, -, -, -⟩ := r4.shape
                have HL := Lib.hid (And.intro hS (And.intro r3 r4))
                clear hS r1 r2 r3 r4 HR HB0 HD5
                go_wp2_with fail
                apply wp_region_genlX (endVs (hm5 m) lv) (EndWI wr (fun w' => Ext w w' ∧ HdBlk w' (w.heap.size + 1) (hm5 m) ∧ w'.heap[w.heap.size + 1 + 1 + 1]? = some (.cells #[lv] 72 (0, 0)) ∧ RcRow (w.heap.size + 1 + 1 + 1 + 1) w' lv (rc5 m))) ()
                case hm => kernel_rfl
                case hB => kernel_rfl
                case hlen => exact fun g => rfl
                case hds => rfl
                case h0 => exact ⟨fun e => (by cases e), fun _ => Ext.drew wr, fun e => (by cases e)⟩
                case hF =>
                  intro g
                  simp only [finalF, endVs, Act.put, List.setIfInBounds_toArray, List.set_cons_succ, List.set_cons_zero]
                  rfl
                case hstep =>
                  simp only [AllO, Nat.zero_add, Nat.reduceAdd]
                  refine ⟨?_, ?_, ?_, ?_, trivial⟩
                  all_goals
                    intro g L w' hW0 hi hd
                    have hW := Lib.hid hW0
                    clear hW0
                  case refine_1 =>
                    have h2 : L 2 = false := by
                      cases hh : L 2 with
                      | false => rfl
                      | true => have := hW.out.1 hh; rw [hi] at this; cases this
                    have hE := hW.out.2.1 h2
                    obtain ⟨q0, q1, q2, q3, q4, q5, q6, q7, q8⟩ := (HL.out.1.2.2.2.1.ext hE).cells
                    refine .inl ⟨_, w', ?_, g, hW.out.quiet 0 (by decide) (fun e => e), fun _ _ => trivial, rfl⟩
                    unfold Hd.val Hd.cells
                    clear hE
                    go_simp
                  case refine_2 =>
                    have hcl : w'.heap[w.heap.size + 1 + 1 + 1]? = some (.cells #[lv] 72 (0, 0)) := by
                      cases hh : L 2 with
                      | false => exact Ext.heap (hW.out.2.1 hh) HL.out.2.1
                      | true => exact (hW.out.2.2 hh).2.2.1
                    have hcell := Go.cell_of_one hcl
                    rw [hlv] at hcell
                    clear hcl
                    refine .inl ⟨_, w', ?_, g, hW.out.quiet 1 (by decide) (fun e => e), fun _ _ => trivial, rfl⟩
                    rw [hlv]
                    go_simp
                  case refine_3 =>
                    have h0 : L 0 = true := hd ⟨0, .data⟩ (by simp) rfl
                    have hE := hW.out.2.1 hi
                    have hS := HL.out.1.ext hE
                    have hB := hS.2.2.1
                    obtain ⟨z0, z1, z2, z3, z4, z5, z6, z7, z8⟩ := hB.cells
                    have zf := hB.frozen
                    obtain ⟨w1', hw1, hB1, hg1⟩ := hB.put_ex (hm5 m)
                    have hlt := hB.lt
                    have hE1 : Ext w w1' := Below.grown hS.1 hg1 hS.1.size (fun k hk => by cases hk; omega)
                    have hc3 : w1'.heap[w.heap.size + 1 + 1 + 1]? = some (.cells #[lv] 72 (0, 0)) := by
                      have h3 := Ext.heap hE HL.out.2.1
                      rw [hg1.block _ (Go.lt_of_block h3) (by intro e; have := Option.some.inj e; omega)]
                      exact h3
                    have hr3 : RcRow (w.heap.size + 1 + 1 + 1 + 1) w1' lv (rc5 m) := (HL.out.2.2.ext hE).kept hg1 (by
                      cases hh : lv.ownBlock with
                      | none => exact .inl rfl
                      | some k0 => right; intro e; have := Option.some.inj e; have := (HL.out.2.2.lt k0 hh).1; omega)
                    have HX := Lib.hid (And.intro hE1 (And.intro hB1 (And.intro hc3 hr3)))
                    have HY := Lib.hid hw1
                    clear hB hB1 hE1 hg1 hw1 hE hS hc3 hr3 hlt
                    refine .inr (.inl ⟨undef, w1', ?_, rfl, g, hW.out.last h0 HX.out, fun _ _ => trivial, rfl⟩)
                    rw [← HY.out]
                    unfold Hd.val Hd.cells
                    go_simp
                  case refine_4 =>
                    refine .inl ⟨_, w', ?_, g, hW.out.quiet 3 (by decide) (fun e => e), fun _ _ => trivial, rfl⟩
                    go_simp
                case hend =>
                  intro g L w4 hall' hW
                  have hall : ∀ i, i < 4 → L i = true := hall'
                  have HG := Lib.hid (hW.2.2 (hall 2 (by decide)))
                  clear hW hall hall'
                  obtain ⟨z0, z1, z2, z3, z4, z5, z6, z7, z8⟩ := HG.out.2.1.cells
                  go_wp2
                  refine bodyPost_ret (v := .tuple #[(hm5 m).val, lv]) ?_ rfl ⟨lv, rfl, World.ownsRow.mono HG.out.2.2.2 (by omega), HG.out.1⟩
                  simp [results, Tryd.results42, go_sem, z0, z1, z2, z3, z4, z5, z6, z7, z8]
                  exact ⟨rfl, hlv.symm⟩
end Go.Proofs.YtpapbnmacjoihaaDoor
