/- Members: which may be. member.Good and bindleref08.Good. (printed by gengood.py) -/
import Derived.Test.YtpapbnmacjoihaaDoorPathC
import Derived.Test.YtpapbnmacjoihaaDoorTextB
namespace Go.Proofs.YtpapbnmacjoihaaDoor
open Go.RowKit Go.Shelf

structure Mb where
  path : List UInt8
  target : List UInt8
  kind : UInt8
  mode : Int
  uid : Int
  gid : Int
  time : Int
  body : List UInt8
  deriving DecidableEq
def cleanOk (l : List UInt8) : Bool := (cleanS l).2 == 0 && l == (cleanS l).1
def metaB (a b c d : Int) : Bool := decide (0 ≤ a ∧ a ≤ 4095) && (decide (0 ≤ b ∧ b ≤ 2147483647) && (decide (0 ≤ c ∧ c ≤ 2147483647) && decide (0 ≤ d ∧ d ≤ 1099511627776)))
def goodS (m : Mb) : Bool :=
  cleanOk m.path && (metaB m.mode m.uid m.gid m.time && (decide (m.body.length ≤ 1048576) && ((m.kind == 48 || decide (m.body.length = 0)) &&
    (if m.kind = 48 ∨ m.kind = 53 then decide (m.target = []) else if m.kind = 49 then cleanOk m.target else if m.kind = 50 then targetS m.target == 0 else false))))
def Mb.cells (m : Mb) (v : Value) : Array Value := #[.string (bs m.path), .string (bs m.target), .int .u8 (m.kind.toNat : Int), .int .i64 m.mode, .int .i64 m.uid, .int .i64 m.gid, .int .i64 m.time, v]
def Mb.val (m : Mb) (v : Value) : Value := .agg (m.cells v)
/-- Block g is a member's. -/
def MbBlk (w : World) (g : Nat) (m : Mb) (v : Value) : Prop := w.heap[g]? = some (.cells (m.cells v) 45 (0, 0))
theorem MbBlk.made (w : World) (m : Mb) (v : Value) : MbBlk (w.alloc (.cells (m.cells v) 45 (0, 0))) w.heap.size m v := heap_alloc_new _ _
theorem MbBlk.ext {w w' : World} {g : Nat} {m : Mb} {v : Value} (h : MbBlk w g m v) (hE : Ext w w') : MbBlk w' g m v := Ext.heap hE h
theorem MbBlk.lt {w : World} {g : Nat} {m : Mb} {v : Value} (h : MbBlk w g m v) : g < w.heap.size := (Array.getElem?_eq_some_iff.1 h).1
theorem MbBlk.cells {w : World} {g : Nat} {m : Mb} {v : Value} (hB : MbBlk w g m v) :
    w.cell? ⟨g, 0, none⟩ = some (.string (bs m.path)) ∧ w.cell? ⟨g, 1, none⟩ = some (.string (bs m.target)) ∧ w.cell? ⟨g, 2, none⟩ = some (.int .u8 (m.kind.toNat : Int)) ∧ w.cell? ⟨g, 3, none⟩ = some (.int .i64 m.mode) ∧ w.cell? ⟨g, 4, none⟩ = some (.int .i64 m.uid) ∧
    w.cell? ⟨g, 5, none⟩ = some (.int .i64 m.gid) ∧ w.cell? ⟨g, 6, none⟩ = some (.int .i64 m.time) ∧ w.cell? ⟨g, 7, none⟩ = some v := by
  unfold MbBlk at hB
  simp [World.cell?, hB, Mb.cells]
theorem MbBlk.frozen {w : World} {g : Nat} {m : Mb} {v : Value} (hB : MbBlk w g m v) (i : Nat) : w.frozen? ⟨g, i, none⟩ = false := by
  unfold MbBlk at hB
  simp [World.frozen?, hB]
theorem byteq (x : UInt8) (n : Nat) (hn : n < 256) : ((x.toNat : Int) == (n : Int)) = (x == UInt8.ofNat n) := by
  have hx := x.toNat_lt
  rw [Bool.eq_iff_iff, beq_iff_eq, beq_iff_eq]
  constructor
  · intro e
    apply UInt8.toNat_inj.1
    rw [UInt8.toNat_ofNat']
    have := Int.ofNat_inj.1 e
    omega
  · rintro rfl
    rw [UInt8.toNat_ofNat']
    have : n % 2 ^ 8 = n := by omega
    rw [this]


set_option maxHeartbeats 2000000 in
set_option maxRecDepth 100000 in
theorem member_clean (l : List UInt8) (w : World) (hl : l.length ≤ 1000000) (hw : HW w) :
    Calls Tryd.prog 70 #[.string (bs l)] w fun e w' => e = .returned (.bool (cleanOk l)) ∧ Ext w w' := by
  have hc : Calls Tryd.prog 89 #[.string (bs l)] w fun e w' => e = .returned (.tuple #[.string (bs (cleanS l).1), .int .i64 (cleanS l).2]) ∧ Ext w w' := path_Clean l w hl hw
  obtain ⟨r, hr⟩ : ∃ r, r = cleanS l := ⟨_, rfl⟩
  obtain ⟨r1, r2⟩ := r
  have hk : cleanOk l = (r2 == 0 && l == r1) := by unfold cleanOk; rw [← hr]
  rw [← hr] at hc
  have HC := Lib.hid hc
  have HK := Lib.hid hk
  clear hc hk hr
  by_cases h2 : r2 = 0
  · have t2 : ((r2 : Int) == 0) = true := by rw [h2]; rfl
    have HK2 : Hid (cleanOk l = (l == r1)) := Lib.hid (by rw [HK.out, h2]; rfl)
    clear h2
    by_cases h1 : l = r1
    · have t1 : ((bs l).toList == (bs r1).toList) = true := by rw [h1]; exact beq_self_eq_true _
      have t1' : ((bs r1).toList == (bs l).toList) = true := by rw [h1]; exact beq_self_eq_true _
      have HK3 : Hid (cleanOk l = true) := by rw [HK2.out, h1]; exact beq_self_eq_true _
      clear h1
      go_enter Tryd.func70, Tryd.ntmps70
      go_wp2_with fail
      refine HC.out.mono ?_
      rintro e w1 ⟨rfl, hE⟩
      go_wp2
      go_ret
      exact ⟨by rw [HK3.out]; rfl, hE⟩
    · have t1 : ((bs l).toList == (bs r1).toList) = false := by rw [bs_toL, bs_toL]; exact beq_eq_false_iff_ne.2 h1
      have t1' : ((bs r1).toList == (bs l).toList) = false := by rw [bs_toL, bs_toL]; exact beq_eq_false_iff_ne.2 (Ne.symm h1)
      have HK3 : Hid (cleanOk l = false) := by rw [HK2.out]; exact beq_eq_false_iff_ne.2 h1
      clear h1
      go_enter Tryd.func70, Tryd.ntmps70
      go_wp2_with fail
      refine HC.out.mono ?_
      rintro e w1 ⟨rfl, hE⟩
      go_wp2
      go_ret
      exact ⟨by rw [HK3.out]; rfl, hE⟩
  · have t2 : ((r2 : Int) == 0) = false := beq_eq_false_iff_ne.2 (by omega)
    have HK3 : Hid (cleanOk l = false) := by rw [HK.out, beq_eq_false_iff_ne.2 h2]; rfl
    clear h2
    go_enter Tryd.func70, Tryd.ntmps70
    go_wp2_with fail
    refine HC.out.mono ?_
    rintro e w1 ⟨rfl, hE⟩
    go_wp2
    go_ret
    exact ⟨by rw [HK3.out]; rfl, hE⟩

set_option maxHeartbeats 2000000 in
set_option maxRecDepth 100000 in
theorem ref_clean (l : List UInt8) (w : World) (hl : l.length ≤ 1000000) :
    Calls Tryd.prog 47 #[.string (bs l)] w fun e w' => e = .returned (.bool (cleanOk l)) ∧ Ext w w' := by
  have hc : Calls Tryd.prog 81 #[.string (bs l)] w fun e w' => e = .returned (.tuple #[.string (bs (cleanS l).1), .int .i64 (cleanS l).2]) ∧ Ext w w' := (ref_Clean l w hl).mono fun e w' h => ⟨h.1, by rw [h.2]; exact Ext.refl _⟩
  obtain ⟨r, hr⟩ : ∃ r, r = cleanS l := ⟨_, rfl⟩
  obtain ⟨r1, r2⟩ := r
  have hk : cleanOk l = (r2 == 0 && l == r1) := by unfold cleanOk; rw [← hr]
  rw [← hr] at hc
  have HC := Lib.hid hc
  have HK := Lib.hid hk
  clear hc hk hr
  by_cases h2 : r2 = 0
  · have t2 : ((r2 : Int) == 0) = true := by rw [h2]; rfl
    have HK2 : Hid (cleanOk l = (l == r1)) := Lib.hid (by rw [HK.out, h2]; rfl)
    clear h2
    by_cases h1 : l = r1
    · have t1 : ((bs l).toList == (bs r1).toList) = true := by rw [h1]; exact beq_self_eq_true _
      have t1' : ((bs r1).toList == (bs l).toList) = true := by rw [h1]; exact beq_self_eq_true _
      have HK3 : Hid (cleanOk l = true) := by rw [HK2.out, h1]; exact beq_self_eq_true _
      clear h1
      go_enter Tryd.func47, Tryd.ntmps47
      go_wp2_with fail
      refine HC.out.mono ?_
      rintro e w1 ⟨rfl, hE⟩
      go_wp2
      go_ret
      exact ⟨by rw [HK3.out]; rfl, hE⟩
    · have t1 : ((bs l).toList == (bs r1).toList) = false := by rw [bs_toL, bs_toL]; exact beq_eq_false_iff_ne.2 h1
      have t1' : ((bs r1).toList == (bs l).toList) = false := by rw [bs_toL, bs_toL]; exact beq_eq_false_iff_ne.2 (Ne.symm h1)
      have HK3 : Hid (cleanOk l = false) := by rw [HK2.out]; exact beq_eq_false_iff_ne.2 h1
      clear h1
      go_enter Tryd.func47, Tryd.ntmps47
      go_wp2_with fail
      refine HC.out.mono ?_
      rintro e w1 ⟨rfl, hE⟩
      go_wp2
      go_ret
      exact ⟨by rw [HK3.out]; rfl, hE⟩
  · have t2 : ((r2 : Int) == 0) = false := beq_eq_false_iff_ne.2 (by omega)
    have HK3 : Hid (cleanOk l = false) := by rw [HK.out, beq_eq_false_iff_ne.2 h2]; rfl
    clear h2
    go_enter Tryd.func47, Tryd.ntmps47
    go_wp2_with fail
    refine HC.out.mono ?_
    rintro e w1 ⟨rfl, hE⟩
    go_wp2
    go_ret
    exact ⟨by rw [HK3.out]; rfl, hE⟩

set_option maxHeartbeats 2000000 in
set_option maxRecDepth 100000 in
theorem ref_Target (l : List UInt8) (w : World) (hl : l.length ≤ 1000000) :
    Calls Tryd.prog 49 #[.string (bs l)] w fun e w' => e = .returned (.int .i64 (targetS l)) ∧ w = w' := by
  obtain ⟨t, ht⟩ : ∃ t, t = textS l := ⟨_, rfl⟩
  have hR := ref_Text l w (by omega)
  rw [← ht] at hR
  have hT : targetS l = if t = false then 9 else if l = [] ∨ 200 < l.length then 6 else 0 := by unfold targetS; rw [ht]
  have HR := Lib.hid hR
  have HT := Lib.hid hT
  clear hR hT ht
  cases t
  · go_enter Tryd.func49, Tryd.ntmps49
    go_wp2_with fail
    refine HR.out.mono ?_
    rintro e w1 ⟨rfl, rfl⟩
    go_wp2
    go_ret
    exact ⟨by rw [HT.out]; rfl, rfl⟩
  · by_cases h0 : l = []
    · have e0 : (bs l).toList.isEmpty = true := by rw [bs_toL, h0]; rfl
      have e1 : targetS l = 6 := by rw [HT.out, if_neg (by simp), if_pos (.inl h0)]
      have E1 := Lib.hid e1
      clear h0 e1
      go_enter Tryd.func49, Tryd.ntmps49
      go_wp2_with fail
      refine HR.out.mono ?_
      rintro e w1 ⟨rfl, rfl⟩
      go_wp2
      go_ret
      exact ⟨by rw [E1.out]; rfl, rfl⟩
    · have e0 : (bs l).toList.isEmpty = false := by rw [bs_toL]; cases l; exact absurd rfl h0; rfl
      by_cases h1 : 200 < l.length
      · have e2 : 200 < (bs l).size := by rw [bs_size]; exact h1
        have e1 : targetS l = 6 := by rw [HT.out, if_neg (by simp), if_pos (.inr h1)]
        have E1 := Lib.hid e1
        clear h0 e1 h1
        go_enter Tryd.func49, Tryd.ntmps49
        go_wp2_with fail
        refine HR.out.mono ?_
        rintro e w1 ⟨rfl, rfl⟩
        go_wp2
        go_ret
        exact ⟨by rw [E1.out]; rfl, rfl⟩
      · have e2 : ¬ 200 < (bs l).size := by rw [bs_size]; exact h1
        have e1 : targetS l = 0 := by rw [HT.out, if_neg (by simp), if_neg (fun h => h.elim h0 h1)]
        have E1 := Lib.hid e1
        clear h0 e1 h1
        go_enter Tryd.func49, Tryd.ntmps49
        go_wp2_with fail
        refine HR.out.mono ?_
        rintro e w1 ⟨rfl, rfl⟩
        go_wp2
        go_ret
        exact ⟨by rw [E1.out]; rfl, rfl⟩

set_option maxHeartbeats 4000000 in
set_option maxRecDepth 100000 in
theorem ref_Meta (a b c d : Int) (w : World) :
    Calls Tryd.prog 48 #[.agg #[.int .i64 a, .int .i64 b, .int .i64 c, .int .i64 d]] w fun e w' => e = .returned (.bool (metaB a b c d)) ∧ Ext w w' := by
  by_cases la : 0 ≤ a
  · by_cases ua : a ≤ 4095
    · by_cases lb : 0 ≤ b
      · by_cases ub : b < 2147483648
        · by_cases lc : 0 ≤ c
          · by_cases uc : c < 2147483648
            · by_cases ld : 0 ≤ d
              · by_cases ud : d ≤ 1099511627776
                · have hm : metaB a b c d = true := by unfold metaB; simp only [Bool.and_eq_true, decide_eq_true_eq]; omega
                  have HM := Lib.hid hm
                  clear hm
                  go_enter Tryd.func48, Tryd.ntmps48
                  go_wp2
                  go_ret
                  exact ⟨by rw [HM.out]; rfl, Ext.alloc _ _⟩
                · have ud' : decide (d ≤ 1099511627776) = false := decide_eq_false ud
                  have hm : metaB a b c d = false := by
                    rw [← Bool.not_eq_true]
                    unfold metaB
                    simp only [Bool.and_eq_true, decide_eq_true_eq]
                    omega
                  have HM := Lib.hid hm
                  clear hm
                  go_enter Tryd.func48, Tryd.ntmps48
                  go_wp2
                  go_ret
                  exact ⟨by rw [HM.out]; rfl, Ext.alloc _ _⟩
              · have ld' : decide (0 ≤ d) = false := decide_eq_false ld
                have hm : metaB a b c d = false := by
                  rw [← Bool.not_eq_true]
                  unfold metaB
                  simp only [Bool.and_eq_true, decide_eq_true_eq]
                  omega
                have HM := Lib.hid hm
                clear hm
                go_enter Tryd.func48, Tryd.ntmps48
                go_wp2
                go_ret
                exact ⟨by rw [HM.out]; rfl, Ext.alloc _ _⟩
            · have uc' : decide (c < 2147483648) = false := decide_eq_false uc
              have hm : metaB a b c d = false := by
                rw [← Bool.not_eq_true]
                unfold metaB
                simp only [Bool.and_eq_true, decide_eq_true_eq]
                omega
              have HM := Lib.hid hm
              clear hm
              go_enter Tryd.func48, Tryd.ntmps48
              go_wp2
              go_ret
              exact ⟨by rw [HM.out]; rfl, Ext.alloc _ _⟩
          · have lc' : decide (0 ≤ c) = false := decide_eq_false lc
            have hm : metaB a b c d = false := by
              rw [← Bool.not_eq_true]
              unfold metaB
              simp only [Bool.and_eq_true, decide_eq_true_eq]
              omega
            have HM := Lib.hid hm
            clear hm
            go_enter Tryd.func48, Tryd.ntmps48
            go_wp2
            go_ret
            exact ⟨by rw [HM.out]; rfl, Ext.alloc _ _⟩
        · have ub' : decide (b < 2147483648) = false := decide_eq_false ub
          have hm : metaB a b c d = false := by
            rw [← Bool.not_eq_true]
            unfold metaB
            simp only [Bool.and_eq_true, decide_eq_true_eq]
            omega
          have HM := Lib.hid hm
          clear hm
          go_enter Tryd.func48, Tryd.ntmps48
          go_wp2
          go_ret
          exact ⟨by rw [HM.out]; rfl, Ext.alloc _ _⟩
      · have lb' : decide (0 ≤ b) = false := decide_eq_false lb
        have hm : metaB a b c d = false := by
          rw [← Bool.not_eq_true]
          unfold metaB
          simp only [Bool.and_eq_true, decide_eq_true_eq]
          omega
        have HM := Lib.hid hm
        clear hm
        go_enter Tryd.func48, Tryd.ntmps48
        go_wp2
        go_ret
        exact ⟨by rw [HM.out]; rfl, Ext.alloc _ _⟩
    · have ua' : decide (a ≤ 4095) = false := decide_eq_false ua
      have hm : metaB a b c d = false := by
        rw [← Bool.not_eq_true]
        unfold metaB
        simp only [Bool.and_eq_true, decide_eq_true_eq]
        omega
      have HM := Lib.hid hm
      clear hm
      go_enter Tryd.func48, Tryd.ntmps48
      go_wp2
      go_ret
      exact ⟨by rw [HM.out]; rfl, Ext.alloc _ _⟩
  · have la' : decide (0 ≤ a) = false := decide_eq_false la
    have hm : metaB a b c d = false := by
      rw [← Bool.not_eq_true]
      unfold metaB
      simp only [Bool.and_eq_true, decide_eq_true_eq]
      omega
    have HM := Lib.hid hm
    clear hm
    go_enter Tryd.func48, Tryd.ntmps48
    go_wp2
    go_ret
    exact ⟨by rw [HM.out]; rfl, Ext.alloc _ _⟩

theorem num_In_ (a b c : Int) (w : World) : Calls Tryd.prog 38 #[.int .i64 a, .int .i64 b, .int .i64 c] w fun e w' => e = .returned (.bool (decide (b ≤ a ∧ a ≤ c))) ∧ w = w' := by
  have := num_In a b c w
  rwa [show inB a b c = decide (b ≤ a ∧ a ≤ c) from by unfold inB; rw [Bool.decide_and]] at this
set_option maxHeartbeats 4000000 in
set_option maxRecDepth 100000 in
theorem member_meta (a b c d : Int) (w : World) :
    Calls Tryd.prog 71 #[.agg #[.int .i64 a, .int .i64 b, .int .i64 c, .int .i64 d]] w fun e w' => e = .returned (.bool (metaB a b c d)) ∧ Ext w w' := by
  have HN : Hid (∀ a b c W r, decide (b ≤ a ∧ a ≤ c) = r → Calls Tryd.prog 38 #[.int .i64 a, .int .i64 b, .int .i64 c] W fun e w' => e = .returned (.bool r) ∧ W = w') := fun a b c W r h => by rw [← h]; exact num_In_ a b c W
  cases ha : decide (0 ≤ a ∧ a ≤ 4095)
  · have Ha := Lib.hid ha
    clear ha
    have hm : metaB a b c d = false := by unfold metaB; rw [Ha.out]; simp
    have HM := Lib.hid hm
    clear hm
    go_enter Tryd.func71, Tryd.ntmps71
    go_wp2_with fail
    refine (HN.out _ _ _ _ false (by simpa using Ha.out)).mono ?_
    rintro e w' ⟨rfl, rfl⟩
    go_wp2
    go_ret
    exact ⟨by rw [HM.out]; rfl, Ext.alloc _ _⟩
  · have Ha := Lib.hid ha
    clear ha
    cases hb : decide (0 ≤ b ∧ b ≤ 2147483647)
    · have Hb := Lib.hid hb
      clear hb
      have hm : metaB a b c d = false := by unfold metaB; rw [Ha.out, Hb.out]; simp
      have HM := Lib.hid hm
      clear hm
      go_enter Tryd.func71, Tryd.ntmps71
      go_wp2_with fail
      refine (HN.out _ _ _ _ true (by simpa using Ha.out)).mono ?_
      rintro e w' ⟨rfl, rfl⟩
      go_wp2_with fail
      refine (HN.out _ _ _ _ false (by simpa using Hb.out)).mono ?_
      rintro e w' ⟨rfl, rfl⟩
      go_wp2
      go_ret
      exact ⟨by rw [HM.out]; rfl, Ext.alloc _ _⟩
    · have Hb := Lib.hid hb
      clear hb
      cases hc : decide (0 ≤ c ∧ c ≤ 2147483647)
      · have Hc := Lib.hid hc
        clear hc
        have hm : metaB a b c d = false := by unfold metaB; rw [Ha.out, Hb.out, Hc.out]; simp
        have HM := Lib.hid hm
        clear hm
        go_enter Tryd.func71, Tryd.ntmps71
        go_wp2_with fail
        refine (HN.out _ _ _ _ true (by simpa using Ha.out)).mono ?_
        rintro e w' ⟨rfl, rfl⟩
        go_wp2_with fail
        refine (HN.out _ _ _ _ true (by simpa using Hb.out)).mono ?_
        rintro e w' ⟨rfl, rfl⟩
        go_wp2_with fail
        refine (HN.out _ _ _ _ false (by simpa using Hc.out)).mono ?_
        rintro e w' ⟨rfl, rfl⟩
        go_wp2
        go_ret
        exact ⟨by rw [HM.out]; rfl, Ext.alloc _ _⟩
      · have Hc := Lib.hid hc
        clear hc
        cases hd : decide (0 ≤ d ∧ d ≤ 1099511627776)
        · have Hd := Lib.hid hd
          clear hd
          have hm : metaB a b c d = false := by unfold metaB; rw [Ha.out, Hb.out, Hc.out, Hd.out]; simp
          have HM := Lib.hid hm
          clear hm
          go_enter Tryd.func71, Tryd.ntmps71
          go_wp2_with fail
          refine (HN.out _ _ _ _ true (by simpa using Ha.out)).mono ?_
          rintro e w' ⟨rfl, rfl⟩
          go_wp2_with fail
          refine (HN.out _ _ _ _ true (by simpa using Hb.out)).mono ?_
          rintro e w' ⟨rfl, rfl⟩
          go_wp2_with fail
          refine (HN.out _ _ _ _ true (by simpa using Hc.out)).mono ?_
          rintro e w' ⟨rfl, rfl⟩
          go_wp2_with fail
          refine (HN.out _ _ _ _ false (by simpa using Hd.out)).mono ?_
          rintro e w' ⟨rfl, rfl⟩
          go_wp2
          go_ret
          exact ⟨by rw [HM.out]; rfl, Ext.alloc _ _⟩
        · have Hd := Lib.hid hd
          clear hd
          have hm : metaB a b c d = true := by unfold metaB; rw [Ha.out, Hb.out, Hc.out, Hd.out]; rfl
          have HM := Lib.hid hm
          clear hm
          go_enter Tryd.func71, Tryd.ntmps71
          go_wp2_with fail
          refine (HN.out _ _ _ _ true (by simpa using Ha.out)).mono ?_
          rintro e w' ⟨rfl, rfl⟩
          go_wp2_with fail
          refine (HN.out _ _ _ _ true (by simpa using Hb.out)).mono ?_
          rintro e w' ⟨rfl, rfl⟩
          go_wp2_with fail
          refine (HN.out _ _ _ _ true (by simpa using Hc.out)).mono ?_
          rintro e w' ⟨rfl, rfl⟩
          go_wp2_with fail
          refine (HN.out _ _ _ _ true (by simpa using Hd.out)).mono ?_
          rintro e w' ⟨rfl, rfl⟩
          go_wp2
          go_ret
          exact ⟨by rw [HM.out]; rfl, Ext.alloc _ _⟩

set_option maxHeartbeats 8000000 in
set_option maxRecDepth 100000 in
theorem member_Good (m : Mb) (p : Option Addr) (c : Nat) (w : World) (hp : m.path.length ≤ 1000000) (ht : m.target.length ≤ 1000000) (hbl : m.body.length ≤ 9000000000000000000) (hw : HW w) :
    Calls Tryd.prog 41 #[m.val (.slice p m.body.length c)] w fun e w' => e = .returned (.bool (goodS m)) ∧ Ext w w' := by
  obtain ⟨b1, hb1⟩ : ∃ b1, b1 = cleanOk m.path := ⟨_, rfl⟩
  obtain ⟨b2, hb2⟩ : ∃ b2, b2 = metaB m.mode m.uid m.gid m.time := ⟨_, rfl⟩
  have hG : goodS m = (b1 && (b2 && (decide (m.body.length ≤ 1048576) && ((m.kind == 48 || decide (m.body.length = 0)) &&
    (if m.kind = 48 ∨ m.kind = 53 then decide (m.target = []) else if m.kind = 49 then cleanOk m.target else if m.kind = 50 then targetS m.target == 0 else false))))) := by
    unfold goodS; rw [hb1, hb2]
  have HC1 : Hid (∀ W, Ext w W → Calls Tryd.prog 70 #[.string (bs m.path)] W fun e w' => e = .returned (.bool b1) ∧ Ext W w') := by
    intro W hW
    rw [hb1]
    exact member_clean m.path W hp (hw.ext hW)
  have HM1 : Hid (∀ W, Calls Tryd.prog 71 #[.agg #[.int .i64 m.mode, .int .i64 m.uid, .int .i64 m.gid, .int .i64 m.time]] W fun e w' => e = .returned (.bool b2) ∧ Ext W w') := by
    intro W
    rw [hb2]
    exact member_meta _ _ _ _ W
  have HC2 : Hid (∀ W, Ext w W → Calls Tryd.prog 70 #[.string (bs m.target)] W fun e w' => e = .returned (.bool (cleanOk m.target)) ∧ Ext W w') := fun W hW => member_clean m.target W ht (hw.ext hW)
  have HT2 : Hid (∀ W, Ext w W → Calls Tryd.prog 72 #[.string (bs m.target)] W fun e w' => e = .returned (.int .i64 (targetS m.target)) ∧ Ext W w') := fun W hW => path_Target m.target W (by omega) (hw.ext hW)
  have HZ := Lib.hid (MbBlk.made w m (.slice p m.body.length c))
  have HE := Lib.hid (Ext.alloc w (.cells (m.cells (.slice p m.body.length c)) 45 (0, 0)))
  have HG := Lib.hid hG
  obtain ⟨z0, z1, z2, z3, z4, z5, z6, z7⟩ := HZ.out.cells
  clear hb1 hb2 hG hp ht hw
  unfold Mb.val Mb.cells
  cases b1
  · have HV : Hid (goodS m = false) := Lib.hid (by rw [HG.out]; rfl)
    go_enter Tryd.func41, Tryd.ntmps41
    go_wp2_with fail
    refine (HC1.out _ HE.out).mono ?_
    rintro e w1 ⟨rfl, hE1⟩
    have HZ1 := Lib.hid (MbBlk.ext HZ.out hE1)
    clear z0 z1 z2 z3 z4 z5 z6 z7
    obtain ⟨z0, z1, z2, z3, z4, z5, z6, z7⟩ := HZ1.out.cells
    have HE1 := Lib.hid hE1
    clear hE1
    go_wp2
    go_ret
    exact ⟨by rw [HV.out]; rfl, HE.out.trans HE1.out⟩
  · go_enter Tryd.func41, Tryd.ntmps41
    go_wp2_with fail
    refine (HC1.out _ HE.out).mono ?_
    rintro e w1 ⟨rfl, hE1⟩
    have HZ1 := Lib.hid (MbBlk.ext HZ.out hE1)
    clear z0 z1 z2 z3 z4 z5 z6 z7
    obtain ⟨z0, z1, z2, z3, z4, z5, z6, z7⟩ := HZ1.out.cells
    have HE1 := Lib.hid hE1
    clear hE1
    cases b2
    · have HV : Hid (goodS m = false) := Lib.hid (by rw [HG.out]; rfl)
      go_wp2_with fail
      refine (HM1.out _).mono ?_
      rintro e w2 ⟨rfl, hE2⟩
      have HZ2 := Lib.hid (MbBlk.ext HZ.out (HE1.out.trans hE2))
      clear z0 z1 z2 z3 z4 z5 z6 z7
      obtain ⟨z0, z1, z2, z3, z4, z5, z6, z7⟩ := HZ2.out.cells
      have HE2 := Lib.hid (HE.out.trans (HE1.out.trans hE2))
      clear hE2
      go_wp2
      go_ret
      exact ⟨by rw [HV.out]; rfl, HE2.out⟩
    · go_wp2_with fail
      refine (HM1.out _).mono ?_
      rintro e w2 ⟨rfl, hE2⟩
      have HZ2 := Lib.hid (MbBlk.ext HZ.out (HE1.out.trans hE2))
      clear z0 z1 z2 z3 z4 z5 z6 z7
      obtain ⟨z0, z1, z2, z3, z4, z5, z6, z7⟩ := HZ2.out.cells
      have HE2 := Lib.hid (HE.out.trans (HE1.out.trans hE2))
      clear hE2
      by_cases l1 : m.body.length ≤ 1048576
      · have l1' : ¬ ((1048576 : Int) < (m.body.length : Int)) := by omega
        by_cases q48 : m.kind = 48
        · have k48 : ((m.kind.toNat : Int) == 48) = true := by rw [show (48 : Int) = ((48 : Nat) : Int) from rfl, byteq _ _ (by decide)]; exact beq_iff_eq.2 q48
          have k48n : ((m.kind.toNat : Int) != 48) = false := by rw [bne, k48]; rfl
          have hS : goodS m = (if m.kind = 48 ∨ m.kind = 53 then decide (m.target = []) else if m.kind = 49 then cleanOk m.target else if m.kind = 50 then targetS m.target == 0 else false) := by rw [HG.out, decide_eq_true l1, q48]; rfl
          have HS := Lib.hid hS
          clear hS
          by_cases te : m.target = []
          · have te' : (bs m.target).toList.isEmpty = true := by rw [bs_toL, te]; rfl
            have HV : Hid (goodS m = true) := Lib.hid (by rw [HS.out, if_pos (.inl q48), te]; rfl)
            clear te q48
            go_wp2
            go_ret
            exact ⟨by rw [HV.out]; rfl, HE2.out⟩
          · have te' : (bs m.target).toList.isEmpty = false := by
              rw [bs_toL]
              cases h : m.target with
              | nil => exact absurd h te
              | cons _ _ => rfl
            have HV : Hid (goodS m = false) := Lib.hid (by rw [HS.out, if_pos (.inl q48)]; exact decide_eq_false te)
            clear te q48
            go_wp2
            go_ret
            exact ⟨by rw [HV.out]; rfl, HE2.out⟩
        · have k48 : ((m.kind.toNat : Int) == 48) = false := by rw [show (48 : Int) = ((48 : Nat) : Int) from rfl, byteq _ _ (by decide)]; exact beq_eq_false_iff_ne.2 q48
          have k48n : ((m.kind.toNat : Int) != 48) = true := by rw [bne, k48]; rfl
          by_cases l2 : m.body.length = 0
          · have l2' : ¬ ((0 : Int) < (m.body.length : Int)) := by omega
            have hS : goodS m = (if m.kind = 48 ∨ m.kind = 53 then decide (m.target = []) else if m.kind = 49 then cleanOk m.target else if m.kind = 50 then targetS m.target == 0 else false) := by rw [HG.out, decide_eq_true l1, decide_eq_true l2, Bool.or_true]; rfl
            have HS := Lib.hid hS
            clear hS l2
            by_cases q53 : m.kind = 53
            · have k53 : ((m.kind.toNat : Int) == 53) = true := by rw [show (53 : Int) = ((53 : Nat) : Int) from rfl, byteq _ _ (by decide)]; exact beq_iff_eq.2 q53
              by_cases te : m.target = []
              · have te' : (bs m.target).toList.isEmpty = true := by rw [bs_toL, te]; rfl
                have HV : Hid (goodS m = true) := Lib.hid (by rw [HS.out, if_pos (.inr q53), te]; rfl)
                clear te q48 q53
                go_wp2
                go_ret
                exact ⟨by rw [HV.out]; rfl, HE2.out⟩
              · have te' : (bs m.target).toList.isEmpty = false := by
                  rw [bs_toL]
                  cases h : m.target with
                  | nil => exact absurd h te
                  | cons _ _ => rfl
                have HV : Hid (goodS m = false) := Lib.hid (by rw [HS.out, if_pos (.inr q53)]; exact decide_eq_false te)
                clear te q48 q53
                go_wp2
                go_ret
                exact ⟨by rw [HV.out]; rfl, HE2.out⟩
            · have k53 : ((m.kind.toNat : Int) == 53) = false := by rw [show (53 : Int) = ((53 : Nat) : Int) from rfl, byteq _ _ (by decide)]; exact beq_eq_false_iff_ne.2 q53
              by_cases q49 : m.kind = 49
              · have k49 : ((m.kind.toNat : Int) == 49) = true := by rw [show (49 : Int) = ((49 : Nat) : Int) from rfl, byteq _ _ (by decide)]; exact beq_iff_eq.2 q49
                obtain ⟨b3, hb3⟩ : ∃ b3, b3 = cleanOk m.target := ⟨_, rfl⟩
                rw [← hb3] at HC2
                have HV : Hid (goodS m = b3) := Lib.hid (by rw [HS.out, if_neg (fun h => h.elim q48 q53), if_pos q49, hb3])
                clear hb3 q48 q53 q49
                go_wp2_with fail
                refine (HC2.out _ HE2.out).mono ?_
                rintro e w3 ⟨rfl, hE3⟩
                go_wp2
                go_ret
                exact ⟨by rw [HV.out]; rfl, HE2.out.trans hE3⟩
              · have k49 : ((m.kind.toNat : Int) == 49) = false := by rw [show (49 : Int) = ((49 : Nat) : Int) from rfl, byteq _ _ (by decide)]; exact beq_eq_false_iff_ne.2 q49
                by_cases q50 : m.kind = 50
                · have k50 : ((m.kind.toNat : Int) == 50) = true := by rw [show (50 : Int) = ((50 : Nat) : Int) from rfl, byteq _ _ (by decide)]; exact beq_iff_eq.2 q50
                  obtain ⟨b3, hb3⟩ : ∃ b3, b3 = targetS m.target := ⟨_, rfl⟩
                  rw [← hb3] at HT2
                  have hV : goodS m = (b3 == 0) := by rw [HS.out, if_neg (fun h => h.elim q48 q53), if_neg q49, if_pos q50, hb3]
                  clear hb3 q48 q53 q49 q50
                  by_cases t0 : b3 = 0
                  · have t1 : ((b3 : Int) == 0) = true := by rw [t0]; rfl
                    have HV : Hid (goodS m = true) := Lib.hid (by rw [hV, t0]; rfl)
                    clear t0 hV
                    go_wp2_with fail
                    refine (HT2.out _ HE2.out).mono ?_
                    rintro e w3 ⟨rfl, hE3⟩
                    go_wp2
                    go_ret
                    exact ⟨by rw [HV.out]; rfl, HE2.out.trans hE3⟩
                  · have t1 : ((b3 : Int) == 0) = false := beq_eq_false_iff_ne.2 (by omega)
                    have HV : Hid (goodS m = false) := Lib.hid (by rw [hV]; exact beq_eq_false_iff_ne.2 t0)
                    clear t0 hV
                    go_wp2_with fail
                    refine (HT2.out _ HE2.out).mono ?_
                    rintro e w3 ⟨rfl, hE3⟩
                    go_wp2
                    go_ret
                    exact ⟨by rw [HV.out]; rfl, HE2.out.trans hE3⟩
                · have k50 : ((m.kind.toNat : Int) == 50) = false := by rw [show (50 : Int) = ((50 : Nat) : Int) from rfl, byteq _ _ (by decide)]; exact beq_eq_false_iff_ne.2 q50
                  have HV : Hid (goodS m = false) := Lib.hid (by rw [HS.out, if_neg (fun h => h.elim q48 q53), if_neg q49, if_neg q50])
                  clear q48 q53 q49 q50
                  go_wp2
                  go_ret
                  exact ⟨by rw [HV.out]; rfl, HE2.out⟩
          · have l2' : (0 : Int) < (m.body.length : Int) := by omega
            have HV : Hid (goodS m = false) := Lib.hid (by rw [HG.out, decide_eq_false l2, beq_eq_false_iff_ne.2 q48]; simp)
            clear l2 q48
            go_wp2
            go_ret
            exact ⟨by rw [HV.out]; rfl, HE2.out⟩
      · have l1' : (1048576 : Int) < (m.body.length : Int) := by omega
        have HV : Hid (goodS m = false) := Lib.hid (by rw [HG.out, decide_eq_false l1]; simp)
        clear l1
        go_wp2
        go_ret
        exact ⟨by rw [HV.out]; rfl, HE2.out⟩

set_option maxHeartbeats 8000000 in
set_option maxRecDepth 100000 in
theorem ref_Good (m : Mb) (p : Option Addr) (c : Nat) (w : World) (hp : m.path.length ≤ 1000000) (ht : m.target.length ≤ 1000000) (hbl : m.body.length ≤ 9000000000000000000) :
    Calls Tryd.prog 25 #[m.val (.slice p m.body.length c)] w fun e w' => e = .returned (.bool (goodS m)) ∧ Ext w w' := by
  obtain ⟨b1, hb1⟩ : ∃ b1, b1 = cleanOk m.path := ⟨_, rfl⟩
  obtain ⟨b2, hb2⟩ : ∃ b2, b2 = metaB m.mode m.uid m.gid m.time := ⟨_, rfl⟩
  have hG : goodS m = (b1 && (b2 && (decide (m.body.length ≤ 1048576) && ((m.kind == 48 || decide (m.body.length = 0)) &&
    (if m.kind = 48 ∨ m.kind = 53 then decide (m.target = []) else if m.kind = 49 then cleanOk m.target else if m.kind = 50 then targetS m.target == 0 else false))))) := by
    unfold goodS; rw [hb1, hb2]
  have HC1 : Hid (∀ W, Ext w W → Calls Tryd.prog 47 #[.string (bs m.path)] W fun e w' => e = .returned (.bool b1) ∧ Ext W w') := by
    intro W hW
    rw [hb1]
    exact ref_clean m.path W hp
  have HM1 : Hid (∀ W, Calls Tryd.prog 48 #[.agg #[.int .i64 m.mode, .int .i64 m.uid, .int .i64 m.gid, .int .i64 m.time]] W fun e w' => e = .returned (.bool b2) ∧ Ext W w') := by
    intro W
    rw [hb2]
    exact ref_Meta _ _ _ _ W
  have HC2 : Hid (∀ W, Ext w W → Calls Tryd.prog 47 #[.string (bs m.target)] W fun e w' => e = .returned (.bool (cleanOk m.target)) ∧ Ext W w') := fun W hW => ref_clean m.target W ht
  have HT2 : Hid (∀ W, Ext w W → Calls Tryd.prog 49 #[.string (bs m.target)] W fun e w' => e = .returned (.int .i64 (targetS m.target)) ∧ Ext W w') := fun W hW => (ref_Target m.target W ht).mono fun e w' h => ⟨h.1, by rw [h.2]; exact Ext.refl _⟩
  have HZ := Lib.hid (MbBlk.made w m (.slice p m.body.length c))
  have HE := Lib.hid (Ext.alloc w (.cells (m.cells (.slice p m.body.length c)) 45 (0, 0)))
  have HG := Lib.hid hG
  obtain ⟨z0, z1, z2, z3, z4, z5, z6, z7⟩ := HZ.out.cells
  clear hb1 hb2 hG hp ht
  unfold Mb.val Mb.cells
  cases b1
  · have HV : Hid (goodS m = false) := Lib.hid (by rw [HG.out]; rfl)
    go_enter Tryd.func25, Tryd.ntmps25
    go_wp2_with fail
    refine (HC1.out _ HE.out).mono ?_
    rintro e w1 ⟨rfl, hE1⟩
    have HZ1 := Lib.hid (MbBlk.ext HZ.out hE1)
    clear z0 z1 z2 z3 z4 z5 z6 z7
    obtain ⟨z0, z1, z2, z3, z4, z5, z6, z7⟩ := HZ1.out.cells
    have HE1 := Lib.hid hE1
    clear hE1
    go_wp2
    go_ret
    exact ⟨by rw [HV.out]; rfl, HE.out.trans HE1.out⟩
  · go_enter Tryd.func25, Tryd.ntmps25
    go_wp2_with fail
    refine (HC1.out _ HE.out).mono ?_
    rintro e w1 ⟨rfl, hE1⟩
    have HZ1 := Lib.hid (MbBlk.ext HZ.out hE1)
    clear z0 z1 z2 z3 z4 z5 z6 z7
    obtain ⟨z0, z1, z2, z3, z4, z5, z6, z7⟩ := HZ1.out.cells
    have HE1 := Lib.hid hE1
    clear hE1
    cases b2
    · have HV : Hid (goodS m = false) := Lib.hid (by rw [HG.out]; rfl)
      go_wp2_with fail
      refine (HM1.out _).mono ?_
      rintro e w2 ⟨rfl, hE2⟩
      have HZ2 := Lib.hid (MbBlk.ext HZ.out (HE1.out.trans hE2))
      clear z0 z1 z2 z3 z4 z5 z6 z7
      obtain ⟨z0, z1, z2, z3, z4, z5, z6, z7⟩ := HZ2.out.cells
      have HE2 := Lib.hid (HE.out.trans (HE1.out.trans hE2))
      clear hE2
      go_wp2
      go_ret
      exact ⟨by rw [HV.out]; rfl, HE2.out⟩
    · go_wp2_with fail
      refine (HM1.out _).mono ?_
      rintro e w2 ⟨rfl, hE2⟩
      have HZ2 := Lib.hid (MbBlk.ext HZ.out (HE1.out.trans hE2))
      clear z0 z1 z2 z3 z4 z5 z6 z7
      obtain ⟨z0, z1, z2, z3, z4, z5, z6, z7⟩ := HZ2.out.cells
      have HE2 := Lib.hid (HE.out.trans (HE1.out.trans hE2))
      clear hE2
      by_cases l1 : m.body.length ≤ 1048576
      · have l1' : ¬ ((1048576 : Int) < (m.body.length : Int)) := by omega
        by_cases q48 : m.kind = 48
        · have k48 : ((m.kind.toNat : Int) == 48) = true := by rw [show (48 : Int) = ((48 : Nat) : Int) from rfl, byteq _ _ (by decide)]; exact beq_iff_eq.2 q48
          have k48n : ((m.kind.toNat : Int) != 48) = false := by rw [bne, k48]; rfl
          have hS : goodS m = (if m.kind = 48 ∨ m.kind = 53 then decide (m.target = []) else if m.kind = 49 then cleanOk m.target else if m.kind = 50 then targetS m.target == 0 else false) := by rw [HG.out, decide_eq_true l1, q48]; rfl
          have HS := Lib.hid hS
          clear hS
          by_cases te : m.target = []
          · have te' : (bs m.target).toList.isEmpty = true := by rw [bs_toL, te]; rfl
            have HV : Hid (goodS m = true) := Lib.hid (by rw [HS.out, if_pos (.inl q48), te]; rfl)
            clear te q48
            go_wp2
            go_ret
            exact ⟨by rw [HV.out]; rfl, HE2.out⟩
          · have te' : (bs m.target).toList.isEmpty = false := by
              rw [bs_toL]
              cases h : m.target with
              | nil => exact absurd h te
              | cons _ _ => rfl
            have HV : Hid (goodS m = false) := Lib.hid (by rw [HS.out, if_pos (.inl q48)]; exact decide_eq_false te)
            clear te q48
            go_wp2
            go_ret
            exact ⟨by rw [HV.out]; rfl, HE2.out⟩
        · have k48 : ((m.kind.toNat : Int) == 48) = false := by rw [show (48 : Int) = ((48 : Nat) : Int) from rfl, byteq _ _ (by decide)]; exact beq_eq_false_iff_ne.2 q48
          have k48n : ((m.kind.toNat : Int) != 48) = true := by rw [bne, k48]; rfl
          by_cases l2 : m.body.length = 0
          · have l2' : ¬ ((0 : Int) < (m.body.length : Int)) := by omega
            have hS : goodS m = (if m.kind = 48 ∨ m.kind = 53 then decide (m.target = []) else if m.kind = 49 then cleanOk m.target else if m.kind = 50 then targetS m.target == 0 else false) := by rw [HG.out, decide_eq_true l1, decide_eq_true l2, Bool.or_true]; rfl
            have HS := Lib.hid hS
            clear hS l2
            by_cases q53 : m.kind = 53
            · have k53 : ((m.kind.toNat : Int) == 53) = true := by rw [show (53 : Int) = ((53 : Nat) : Int) from rfl, byteq _ _ (by decide)]; exact beq_iff_eq.2 q53
              by_cases te : m.target = []
              · have te' : (bs m.target).toList.isEmpty = true := by rw [bs_toL, te]; rfl
                have HV : Hid (goodS m = true) := Lib.hid (by rw [HS.out, if_pos (.inr q53), te]; rfl)
                clear te q48 q53
                go_wp2
                go_ret
                exact ⟨by rw [HV.out]; rfl, HE2.out⟩
              · have te' : (bs m.target).toList.isEmpty = false := by
                  rw [bs_toL]
                  cases h : m.target with
                  | nil => exact absurd h te
                  | cons _ _ => rfl
                have HV : Hid (goodS m = false) := Lib.hid (by rw [HS.out, if_pos (.inr q53)]; exact decide_eq_false te)
                clear te q48 q53
                go_wp2
                go_ret
                exact ⟨by rw [HV.out]; rfl, HE2.out⟩
            · have k53 : ((m.kind.toNat : Int) == 53) = false := by rw [show (53 : Int) = ((53 : Nat) : Int) from rfl, byteq _ _ (by decide)]; exact beq_eq_false_iff_ne.2 q53
              by_cases q49 : m.kind = 49
              · have k49 : ((m.kind.toNat : Int) == 49) = true := by rw [show (49 : Int) = ((49 : Nat) : Int) from rfl, byteq _ _ (by decide)]; exact beq_iff_eq.2 q49
                obtain ⟨b3, hb3⟩ : ∃ b3, b3 = cleanOk m.target := ⟨_, rfl⟩
                rw [← hb3] at HC2
                have HV : Hid (goodS m = b3) := Lib.hid (by rw [HS.out, if_neg (fun h => h.elim q48 q53), if_pos q49, hb3])
                clear hb3 q48 q53 q49
                go_wp2_with fail
                refine (HC2.out _ HE2.out).mono ?_
                rintro e w3 ⟨rfl, hE3⟩
                go_wp2
                go_ret
                exact ⟨by rw [HV.out]; rfl, HE2.out.trans hE3⟩
              · have k49 : ((m.kind.toNat : Int) == 49) = false := by rw [show (49 : Int) = ((49 : Nat) : Int) from rfl, byteq _ _ (by decide)]; exact beq_eq_false_iff_ne.2 q49
                by_cases q50 : m.kind = 50
                · have k50 : ((m.kind.toNat : Int) == 50) = true := by rw [show (50 : Int) = ((50 : Nat) : Int) from rfl, byteq _ _ (by decide)]; exact beq_iff_eq.2 q50
                  obtain ⟨b3, hb3⟩ : ∃ b3, b3 = targetS m.target := ⟨_, rfl⟩
                  rw [← hb3] at HT2
                  have hV : goodS m = (b3 == 0) := by rw [HS.out, if_neg (fun h => h.elim q48 q53), if_neg q49, if_pos q50, hb3]
                  clear hb3 q48 q53 q49 q50
                  by_cases t0 : b3 = 0
                  · have t1 : ((b3 : Int) == 0) = true := by rw [t0]; rfl
                    have HV : Hid (goodS m = true) := Lib.hid (by rw [hV, t0]; rfl)
                    clear t0 hV
                    go_wp2_with fail
                    refine (HT2.out _ HE2.out).mono ?_
                    rintro e w3 ⟨rfl, hE3⟩
                    go_wp2
                    go_ret
                    exact ⟨by rw [HV.out]; rfl, HE2.out.trans hE3⟩
                  · have t1 : ((b3 : Int) == 0) = false := beq_eq_false_iff_ne.2 (by omega)
                    have HV : Hid (goodS m = false) := Lib.hid (by rw [hV]; exact beq_eq_false_iff_ne.2 t0)
                    clear t0 hV
                    go_wp2_with fail
                    refine (HT2.out _ HE2.out).mono ?_
                    rintro e w3 ⟨rfl, hE3⟩
                    go_wp2
                    go_ret
                    exact ⟨by rw [HV.out]; rfl, HE2.out.trans hE3⟩
                · have k50 : ((m.kind.toNat : Int) == 50) = false := by rw [show (50 : Int) = ((50 : Nat) : Int) from rfl, byteq _ _ (by decide)]; exact beq_eq_false_iff_ne.2 q50
                  have HV : Hid (goodS m = false) := Lib.hid (by rw [HS.out, if_neg (fun h => h.elim q48 q53), if_neg q49, if_neg q50])
                  clear q48 q53 q49 q50
                  go_wp2
                  go_ret
                  exact ⟨by rw [HV.out]; rfl, HE2.out⟩
          · have l2' : (0 : Int) < (m.body.length : Int) := by omega
            have HV : Hid (goodS m = false) := Lib.hid (by rw [HG.out, decide_eq_false l2, beq_eq_false_iff_ne.2 q48]; simp)
            clear l2 q48
            go_wp2
            go_ret
            exact ⟨by rw [HV.out]; rfl, HE2.out⟩
      · have l1' : (1048576 : Int) < (m.body.length : Int) := by omega
        have HV : Hid (goodS m = false) := Lib.hid (by rw [HG.out, decide_eq_false l1]; simp)
        clear l1
        go_wp2
        go_ret
        exact ⟨by rw [HV.out]; rfl, HE2.out⟩
end Go.Proofs.YtpapbnmacjoihaaDoor
