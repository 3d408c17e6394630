/- Dec; a record's line. -/
/- A record's line: record.Line, bindleref01.Line. -/
import Derived.Test.YtpapbnmacjoihaaDoorWrA
namespace Go.Proofs.YtpapbnmacjoihaaDoor
open Go.RowKit Go.Shelf

set_option maxHeartbeats 4000000 in
set_option maxRecDepth 100000 in
theorem ref_Dec (n : Nat) (w : World) (hn : n ≤ 9000000000000000000) :
    Calls Tryd.prog 52 #[.int .i64 n] w fun e w' => e = .returned (.string (bs (Lib.decDigits n))) ∧ Ext w w' := by
  by_cases h0 : n = 0
  · have h0' : ((n : Int) == 0) = true := by rw [h0]; rfl
    have e0 : Lib.decDigits n = [48] := by rw [h0]; exact Lib.decDigits_one (by omega)
    have E0 := Lib.hid e0
    clear e0 h0
    go_enter Tryd.func52, Tryd.ntmps52
    go_wp2
    go_ret
    exact ⟨by rw [E0.out]; rfl, Ext.refl _⟩
  · have h0' : ((n : Int) == 0) = false := beq_eq_false_iff_ne.2 (by omega)
    have hb : (Lib.decDigits n).length ≤ 21 := by rw [Lib.decDigits_length]; exact nDigits_le (by omega)
    have HB := Lib.hid (And.intro h0 hb)
    clear h0 hb
    go_enter Tryd.func52, Tryd.ntmps52
    go_wp2_with fail
    go_loopw [0, 3] (fun nv sv wr => ∃ (m : Nat) (t : List UInt8), nv = .int .i64 m ∧ m ≤ 9000000000000000000 ∧ sv = .string (bs t) ∧ t.length ≤ 21 ∧ Hid (Lib.decDigits n = (if m = 0 then [] else Lib.decDigits m) ++ t ∧ Ext w wr)) (fun nv _ _ => (intOf nv).toNat)
    case atStart => exact ⟨n, [], rfl, hn, rfl, by simp, by rw [if_neg HB.out.1, List.append_nil], Ext.refl _⟩
    case round =>
      obtain ⟨m, t, rfl, hm, rfl, htl, HR⟩ := hrel
      by_cases hpos : 0 < m
      · obtain ⟨x, hx⟩ : ∃ x : UInt8, x = UInt8.ofNat (48 + m % 10) := ⟨_, rfl⟩
        have hxn : x.toNat = 48 + m % 10 := by rw [hx, UInt8.toNat_ofNat']; omega
        have hd : Lib.decDigits n = (if m / 10 = 0 then [] else Lib.decDigits (m / 10)) ++ ([x] ++ t) := by
          rw [HR.out.1, if_neg (by omega)]
          by_cases h10 : m < 10
          · rw [if_pos (by omega), Lib.decDigits_one h10, hx, Nat.mod_eq_of_lt h10]; rfl
          · rw [if_neg (by omega)]
            rw [show Lib.decDigits m = Lib.decDigits (m / 10) ++ [UInt8.ofNat (48 + m % 10)] from by rw [Lib.decDigits, dif_neg h10], ← hx, List.append_assoc]
        have hlen : ([x] ++ t).length ≤ 21 := by
          have := congrArg List.length hd
          rw [List.length_append] at this
          have := HB.out.2
          omega
        have hby : By (wr.alloc (.cells #[.int .u8 (x.toNat : Int)] 5)) (some ⟨wr.heap.size, 0, none⟩) [x] := by
          have : Blk 5 (wr.alloc (.cells #[.int .u8 (x.toNat : Int)] 5)) wr.heap.size [x] := heap_alloc_new _ _
          exact this.by_
        have ks := run_string_of (P := Tryd.prog) Tryd.underlying22 Tryd.underlying5 Tryd.underlying9 hby 1
        have hxi : (x.toNat : Int) = 48 + (m : Int) % 10 := by omega
        have hts : (bs t).size ≤ 21 := by rw [bs_size]; exact htl
        have hxs : (bs [x]).size ≤ 1 := by rw [bs_size]; simp
        rw [hxi, List.length_singleton] at ks
        have HX := Lib.hid (And.intro hd (And.intro hlen (And.intro hxi hx)))
        clear hx hd hlen hby hxi
        go_wp2
        go_roundw
        case rel =>
          refine ⟨m / 10, [x] ++ t, by go_num, by omega, ?_, HX.out.2.1, HX.out.1, HR.out.2.trans (Ext.alloc _ _)⟩
          rw [← bs_app]
        case measure => simp [intOf]; omega
      · obtain rfl : m = 0 := by omega
        have hfin : Lib.decDigits n = t := by rw [HR.out.1, if_pos rfl]; rfl
        have HF := Lib.hid hfin
        clear hfin
        go_wp2
        go_ret
        exact ⟨by rw [HF.out]; rfl, HR.out.2⟩

set_option maxHeartbeats 2000000 in
set_option maxRecDepth 100000 in
theorem record_right (l : List UInt8) (w : World) (hl : l.length ≤ 1000000000) (hw : HW w) :
    Calls Tryd.prog 105 #[.string (bs l)] w fun e w' => e = .returned (.bool (textS l)) ∧ Ext w w' := by
  have hT := path_Target l w (by omega) hw
  obtain ⟨t, ht⟩ : ∃ t, t = targetS l := ⟨_, rfl⟩
  have hx := target_text l
  rw [← ht] at hT hx
  have HT := Lib.hid hT
  have HX := Lib.hid hx
  clear hT hx ht hw
  by_cases h9 : t = 9
  · have e1 : ((t : Int) != 9) = false := by rw [h9]; rfl
    have HV : Hid (textS l = false) := Lib.hid (by rw [← HX.out, h9]; rfl)
    clear h9
    go_enter Tryd.func105, Tryd.ntmps105
    go_wp2_with fail
    refine HT.out.mono ?_
    rintro e w1 ⟨rfl, hE⟩
    go_wp2
    go_ret
    exact ⟨by rw [HV.out]; rfl, hE⟩
  · have e1 : ((t : Int) != 9) = true := by rw [bne_iff_ne]; omega
    have HV : Hid (textS l = true) := Lib.hid (by rw [← HX.out, bne_iff_ne]; exact h9)
    clear h9
    go_enter Tryd.func105, Tryd.ntmps105
    go_wp2_with fail
    refine HT.out.mono ?_
    rintro e w1 ⟨rfl, hE⟩
    go_wp2
    go_ret
    exact ⟨by rw [HV.out]; rfl, hE⟩

/-- Block g is a record's. -/
def RcBlk (w : World) (g : Nat) (k v : List UInt8) : Prop := w.heap[g]? = some (.cells #[.string (bs k), .string (bs v)] 86 (0, 0))
theorem RcBlk.made (w : World) (k v : List UInt8) : RcBlk (w.alloc (.cells #[.string (bs k), .string (bs v)] 86 (0, 0))) w.heap.size k v := heap_alloc_new _ _
theorem RcBlk.ext {w w' : World} {g : Nat} {k v : List UInt8} (h : RcBlk w g k v) (hE : Ext w w') : RcBlk w' g k v := Ext.heap hE h
theorem RcBlk.cells {w : World} {g : Nat} {k v : List UInt8} (h : RcBlk w g k v) : w.cell? ⟨g, 0, none⟩ = some (.string (bs k)) ∧ w.cell? ⟨g, 1, none⟩ = some (.string (bs v)) := by
  unfold RcBlk at h
  simp [World.cell?, h]
def rcVal (k v : List UInt8) : Value := .agg #[.string (bs k), .string (bs v)]
theorem mayS_iff {k v : List UInt8} (h : mayS k v = true) : k ≠ [] ∧ k.contains 61 = false ∧ textS k = true ∧ textS v = true ∧ k.length + v.length ≤ 100000 := by
  unfold mayS at h
  simp only [Bool.and_eq_true, bne_iff_ne, ne_eq, Bool.not_eq_true', decide_eq_true_eq] at h
  exact h
set_option maxHeartbeats 4000000 in
set_option maxRecDepth 100000 in
theorem record_may (k v : List UInt8) (w : World) (hm : mayS k v = true) (hw : HW w) :
    Calls Tryd.prog 92 #[rcVal k v] w fun e w' => e = .returned (.bool true) ∧ Ext w w' := by
  obtain ⟨h1, h2, h3, h4, h5⟩ := mayS_iff hm
  have HC : Hid (∀ W, Calls Tryd.prog 36 #[.string (bs k), .string ⟨#[61]⟩] W fun e w' => e = .returned (.bool false) ∧ W = w') := by
    intro W
    have := Tryd.strings_Contains_one (bs k) 61 W
    rw [bs_data, ← Lib.contains_iff_indexByte, h2] at this
    exact this.mono fun e w' h => ⟨h.1, h.2.symm⟩
  have HK : Hid (∀ W, Ext w W → Calls Tryd.prog 105 #[.string (bs k)] W fun e w' => e = .returned (.bool true) ∧ Ext W w') := by
    intro W hW
    have := record_right k W (by omega) (hw.ext hW)
    rwa [h3] at this
  have HV : Hid (∀ W, Ext w W → Calls Tryd.prog 105 #[.string (bs v)] W fun e w' => e = .returned (.bool true) ∧ Ext W w') := by
    intro W hW
    have := record_right v W (by omega) (hw.ext hW)
    rwa [h4] at this
  have t1 : (bs k).toList.isEmpty = false := by
    rw [bs_toL]
    cases k with
    | nil => exact absurd rfl h1
    | cons _ _ => rfl
  have hks : (bs k).size + (bs v).size ≤ 100000 := by rw [bs_size, bs_size]; exact h5
  have HZ := Lib.hid (RcBlk.made w k v)
  have HE := Lib.hid (Ext.alloc w (.cells #[.string (bs k), .string (bs v)] 86 (0, 0)))
  obtain ⟨z0, z1⟩ := HZ.out.cells
  clear h1 h2 h3 h4 h5 hm hw
  unfold rcVal
  go_enter Tryd.func92, Tryd.ntmps92
  go_wp2_with fail
  refine (HC.out _).mono ?_
  rintro e w1 ⟨rfl, rfl⟩
  go_wp2_with fail
  refine (HK.out _ HE.out).mono ?_
  rintro e w2 ⟨rfl, hE2⟩
  have HZ2 := Lib.hid (HZ.out.ext hE2)
  have HE2 := Lib.hid (HE.out.trans hE2)
  clear z0 z1 hE2
  obtain ⟨z0, z1⟩ := HZ2.out.cells
  go_wp2_with fail
  refine (HV.out _ HE2.out).mono ?_
  rintro e w3 ⟨rfl, hE3⟩
  have HZ3 := Lib.hid (HZ2.out.ext hE3)
  have HE3 := Lib.hid (HE2.out.trans hE3)
  clear z0 z1 hE3
  obtain ⟨z0, z1⟩ := HZ3.out.cells
  go_wp2
  go_ret
  refine ⟨?_, HE3.out⟩
  show Ending.returned (.bool (decide (((bs k).size : Int) + ((bs v).size : Int) ≤ 100000))) = _
  rw [decide_eq_true (by omega)]
end Go.Proofs.YtpapbnmacjoihaaDoor

namespace Go.Proofs.YtpapbnmacjoihaaDoor
open Go.RowKit Go.Shelf

set_option maxHeartbeats 4000000 in
set_option maxRecDepth 100000 in
theorem record_Line (k v : List UInt8) (w : World) (hm : mayS k v = true) (hw : HW w) :
    Calls Tryd.prog 76 #[rcVal k v] w fun e w' => e = .returned (.tuple #[.string (bs (lineS k v)), .bool true]) ∧ Ext w w' := by
  have h5 := (mayS_iff hm).2.2.2.2
  have HM : Hid (∀ W, Ext w W → Calls Tryd.prog 92 #[.agg #[.string (bs k), .string (bs v)]] W fun e w' => e = .returned (.bool true) ∧ Ext W w') := fun W hW => record_may k v W hm (hw.ext hW)
  have HI : Hid (∀ (n : Nat) W, Ext w W → n ≤ 9223372036854775807 → Calls Tryd.prog 75 #[.int .i64 n] W fun e w' => e = .returned (.string (bs (Lib.decDigits n))) ∧ Ext W w') := fun n W hW hn => strconv_Itoa n W hn (hw.ext hW)
  have hks : (bs k).size ≤ 100000 := by rw [bs_size]; omega
  have hvs : (bs v).size ≤ 100000 := by rw [bs_size]; omega
  have HZ := Lib.hid (RcBlk.made w k v)
  have HE := Lib.hid (Ext.alloc w (.cells #[.string (bs k), .string (bs v)] 86 (0, 0)))
  obtain ⟨z0, z1⟩ := HZ.out.cells
  clear hm hw
  unfold rcVal
  go_enter Tryd.func76, Tryd.ntmps76
  go_wp2_with fail
  refine (HM.out _ HE.out).mono ?_
  rintro e w1 ⟨rfl, hE1⟩
  have HZ1 := Lib.hid (HZ.out.ext hE1)
  have HE1 := Lib.hid (HE.out.trans hE1)
  clear z0 z1 hE1
  obtain ⟨z0, z1⟩ := HZ1.out.cells
  go_wp2_with fail
  obtain ⟨B, hB⟩ : ∃ B, B = bs (bodyS k v) := ⟨_, rfl⟩
  have eb : ((⟨#[32]⟩ : ByteArray) ++ bs k ++ ⟨#[61]⟩ ++ bs v ++ ⟨#[10]⟩) = B := by
    rw [hB, show (⟨#[32]⟩ : ByteArray) = bs [32] from rfl, show (⟨#[61]⟩ : ByteArray) = bs [61] from rfl, show (⟨#[10]⟩ : ByteArray) = bs [10] from rfl, bs_app, bs_app, bs_app, bs_app]
    rfl
  have hBs : B.size = (bodyS k v).length := by rw [hB, bs_size]
  have hbl := bodyS_len k v
  have en : (1 + ((bs k).size : Int) + 1 + ((bs v).size : Int) + 1) = (B.size : Int) := by rw [hBs, hbl, bs_size, bs_size]; omega
  rw [eb, en]
  have hb2 : B.size ≤ 100003 := by omega
  have HB := Lib.hid (And.intro hB hBs)
  clear eb en hB hBs hbl hks hvs z0 z1 h5
  go_loopw [5] (fun nv wr => ∃ n : Nat, nv = .int .i64 n ∧ B.size ≤ n ∧ n ≤ B.size + 21 ∧ Hid ((∀ j, B.size ≤ j → j < n → j < Lib.nDigits j + B.size) ∧ Ext w wr)) (fun nv _ => B.size + 22 - (intOf nv).toNat)
  case atStart => exact ⟨B.size, rfl, Nat.le_refl _, by omega, fun j h1 h2 => by omega, HE1.out⟩
  case round =>
    obtain ⟨n, rfl, hn1, hn2, HR⟩ := hrel
    obtain ⟨dd, hdd⟩ : ∃ dd, dd = bs (Lib.decDigits n) := ⟨_, rfl⟩
    have hds : dd.size = Lib.nDigits n := by rw [hdd, bs_size, Lib.decDigits_length]
    have hd21 : dd.size ≤ 21 := by rw [hds]; exact nDigits_le (by omega)
    have hcall := HI.out n wr HR.out.2 (by omega)
    rw [← hdd] at hcall
    have HD := Lib.hid (And.intro hdd hds)
    have HCA := Lib.hid hcall
    clear hdd hds hcall
    by_cases hgt : n < dd.size + B.size
    · have hgt' : (n : Int) < (dd.size : Int) + (B.size : Int) := by omega
      have HN : Hid (∀ j, B.size ≤ j → j < n + 1 → j < Lib.nDigits j + B.size) := fun j h1 h2 => by
        by_cases e : j = n
        · subst e; have := HD.out.2; omega
        · exact HR.out.1 j h1 (by omega)
      go_wp2_with fail
      refine HCA.out.mono ?_
      rintro e w2 ⟨rfl, hE2⟩
      go_wp2
      go_roundw
      case rel => exact ⟨n + 1, by go_num, by omega, by omega, HN.out, HR.out.2.trans hE2⟩
      case measure => simp [intOf]; omega
    · have hgt' : ¬ (n : Int) < (dd.size : Int) + (B.size : Int) := by omega
      have hL : LineN (bodyS k v).length n := ⟨by rw [← HB.out.2]; exact hn1, by rw [← HB.out.2, ← HD.out.2]; omega, fun j h1 h2 => by rw [← HB.out.2] at h1 ⊢; exact HR.out.1 j h1 h2⟩
      have hfin : lineS k v = Lib.decDigits n ++ bodyS k v := by unfold lineS; rw [← hL.eq (by rw [← HB.out.2]; omega)]
      have HF := Lib.hid hfin
      clear hL hfin
      go_wp2_with fail
      refine HCA.out.mono ?_
      rintro e w2 ⟨rfl, hE2⟩
      have hcall := HI.out n w2 (HR.out.2.trans hE2) (by omega)
      rw [← HD.out.1] at hcall
      have HC2 := Lib.hid hcall
      clear hcall
      go_wp2_with fail
      refine HC2.out.mono ?_
      rintro e w3 ⟨rfl, hE3⟩
      go_wp2
      go_ret2
      exact ⟨by rw [HF.out, HD.out.1, HB.out.1, ← bs_app]; rfl, HR.out.2.trans (hE2.trans hE3)⟩

set_option maxHeartbeats 4000000 in
set_option maxRecDepth 100000 in
theorem ref_Line (k v : List UInt8) (w : World) (h5 : k.length + v.length ≤ 100000) :
    Calls Tryd.prog 51 #[rcVal k v] w fun e w' => e = .returned (.string (bs (lineS k v))) ∧ Ext w w' := by
  have HI : Hid (∀ (n : Nat) W, n ≤ 9000000000000000000 → Calls Tryd.prog 52 #[.int .i64 n] W fun e w' => e = .returned (.string (bs (Lib.decDigits n))) ∧ Ext W w') := fun n W hn => ref_Dec n W hn
  have hks : (bs k).size ≤ 100000 := by rw [bs_size]; omega
  have hvs : (bs v).size ≤ 100000 := by rw [bs_size]; omega
  have HZ := Lib.hid (RcBlk.made w k v)
  have HE := Lib.hid (Ext.alloc w (.cells #[.string (bs k), .string (bs v)] 86 (0, 0)))
  obtain ⟨z0, z1⟩ := HZ.out.cells
  unfold rcVal
  go_enter Tryd.func51, Tryd.ntmps51
  go_wp2_with fail
  obtain ⟨B, hB⟩ : ∃ B, B = bs (bodyS k v) := ⟨_, rfl⟩
  have eb : ((⟨#[32]⟩ : ByteArray) ++ bs k ++ ⟨#[61]⟩ ++ bs v ++ ⟨#[10]⟩) = B := by
    rw [hB, show (⟨#[32]⟩ : ByteArray) = bs [32] from rfl, show (⟨#[61]⟩ : ByteArray) = bs [61] from rfl, show (⟨#[10]⟩ : ByteArray) = bs [10] from rfl, bs_app, bs_app, bs_app, bs_app]
    rfl
  have hBs : B.size = (bodyS k v).length := by rw [hB, bs_size]
  have hbl := bodyS_len k v
  have en : (1 + ((bs k).size : Int) + 1 + ((bs v).size : Int) + 1) = (B.size : Int) := by rw [hBs, hbl, bs_size, bs_size]; omega
  rw [eb, en]
  have hb2 : B.size ≤ 100003 := by omega
  have HB := Lib.hid (And.intro hB hBs)
  clear eb en hB hBs hbl hks hvs z0 z1 h5
  obtain ⟨W0, hW0⟩ : ∃ W0, W0 = w.alloc (.cells #[.string (bs k), .string (bs v)] 86 (0, 0)) := ⟨_, rfl⟩
  rw [← hW0] at HE HZ
  rw [← hW0]
  clear hW0
  go_loopw [4] (fun nv wr => ∃ n : Nat, nv = .int .i64 n ∧ B.size ≤ n ∧ n ≤ B.size + 21 ∧ Hid ((∀ j, B.size ≤ j → j < n → Lib.nDigits j + B.size ≠ j) ∧ Ext w wr)) (fun nv _ => B.size + 22 - (intOf nv).toNat)
  case atStart => exact ⟨B.size, rfl, Nat.le_refl _, by omega, fun j h1 h2 => by omega, HE.out⟩
  case round =>
    obtain ⟨n, rfl, hn1, hn2, HR⟩ := hrel
    obtain ⟨dd, hdd⟩ : ∃ dd, dd = bs (Lib.decDigits n) := ⟨_, rfl⟩
    have hds : dd.size = Lib.nDigits n := by rw [hdd, bs_size, Lib.decDigits_length]
    have hd21 : dd.size ≤ 21 := by rw [hds]; exact nDigits_le (by omega)
    have hcall := HI.out n wr (by omega)
    rw [← hdd] at hcall
    have HD := Lib.hid (And.intro hdd hds)
    have HCA := Lib.hid hcall
    clear hdd hds hcall
    by_cases hgt : dd.size + B.size = n
    · have hgt' : (((dd.size : Int) + (B.size : Int)) != (n : Int)) = false := bne_eq_false_iff_eq.2 (by omega)
      have hL : LineN (bodyS k v).length n := LineN.of_eq (by rw [← HB.out.2]; exact hn1) (by rw [← HB.out.2, ← HD.out.2]; exact hgt) (fun j h1 h2 => by rw [← HB.out.2] at h1 ⊢; exact HR.out.1 j h1 h2)
      have hfin : lineS k v = Lib.decDigits n ++ bodyS k v := by unfold lineS; rw [← hL.eq (by rw [← HB.out.2]; omega)]
      have HF := Lib.hid hfin
      clear hL hfin hgt
      go_wp2_with fail
      refine HCA.out.mono ?_
      rintro e w2 ⟨rfl, hE2⟩
      have hcall := HI.out n w2 (by omega)
      rw [← HD.out.1] at hcall
      have HC2 := Lib.hid hcall
      clear hcall
      go_wp2_with fail
      refine HC2.out.mono ?_
      rintro e w3 ⟨rfl, hE3⟩
      go_wp2
      go_ret
      exact ⟨by rw [HF.out, HD.out.1, HB.out.1, ← bs_app]; rfl, HR.out.2.trans (hE2.trans hE3)⟩
    · have hgt' : (((dd.size : Int) + (B.size : Int)) != (n : Int)) = true := by rw [bne_iff_ne]; omega
      have HN : Hid (∀ j, B.size ≤ j → j < n + 1 → Lib.nDigits j + B.size ≠ j) := fun j h1 h2 => by
        by_cases e : j = n
        · subst e; have := HD.out.2; omega
        · exact HR.out.1 j h1 (by omega)
      have hlt := below_eq HN.out n hn1 (by omega)
      have hlt2 : n + 1 ≤ B.size + 21 := by have := HD.out.2; omega
      clear hgt hlt
      go_wp2_with fail
      refine HCA.out.mono ?_
      rintro e w2 ⟨rfl, hE2⟩
      go_wp2
      go_roundw
      case rel => exact ⟨n + 1, by go_num, by omega, by omega, HN.out, HR.out.2.trans hE2⟩
      case measure => simp [intOf]; omega
end Go.Proofs.YtpapbnmacjoihaaDoor
