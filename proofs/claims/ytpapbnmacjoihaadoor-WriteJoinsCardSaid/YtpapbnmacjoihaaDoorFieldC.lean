/- bindle, part FieldC: contracts of the program, walked. -/
import Derived.Test.YtpapbnmacjoihaaDoorFieldB
import Derived.Test.YtpapbnmacjoihaaDoorShelf
namespace Go.Proofs.YtpapbnmacjoihaaDoor
open Go.RowKit Go.Shelf

theorem field_kept (n : Nat) (ok : Bool) (w : World) :
    Calls Tryd.prog 55 #[.int .i64 n, .bool ok] w fun e w' => e = .returned (.tuple #[.int .i64 (if ok then n else 0 : Nat), .bool ok]) ∧ w = w' := by
  cases ok
  all_goals
    go_enter Tryd.func55, Tryd.ntmps55
    go_wp2
    go_ret2
    exact ⟨rfl, rfl⟩

/-- a slice that reads as l, made by cutting. -/
def Cutd (w : World) (v : Value) (l : List UInt8) : Prop := ∃ p c, v = .slice p l.length c ∧ By w p l ∧ l.length ≤ c ∧ c ≤ 9223372036854775807
theorem trimLeftS_drop (l cs : List UInt8) : Lib.trimLeftS l cs = l.drop (l.length - (Lib.trimLeftS l cs).length) := by
  have hs : Lib.trimLeftS l cs <:+ l := List.dropWhile_suffix _
  exact List.suffix_iff_eq_drop.1 hs
theorem trimLeftS_le (l cs : List UInt8) : (Lib.trimLeftS l cs).length ≤ l.length := (List.dropWhile_suffix _ : Lib.trimLeftS l cs <:+ l).length_le
theorem leftV_cut {w : World} {p : Option Addr} {l : List UInt8} {c : Nat} (h : By w p l) (hl : l.length ≤ c) (hc : c ≤ 9223372036854775807) (cs : List UInt8) :
    Cutd w (Lib.leftV p l.length c (l.length - (Lib.trimLeftS l cs).length)) (Lib.trimLeftS l cs) := by
  unfold Cutd
  have hle := trimLeftS_le l cs
  unfold Lib.leftV Lib.fromV
  split
  · rename_i e
    have : (Lib.trimLeftS l cs).length = 0 := by omega
    have : Lib.trimLeftS l cs = [] := List.eq_nil_of_length_eq_zero this
    rw [this]
    exact ⟨none, 0, rfl, By.nil w none, by simp, by omega⟩
  · have hk : l.length - (l.length - (Lib.trimLeftS l cs).length) = (Lib.trimLeftS l cs).length := by omega
    have := h.from_ hl (l.length - (Lib.trimLeftS l cs).length)
    rw [← trimLeftS_drop] at this
    exact ⟨_, c - (l.length - (Lib.trimLeftS l cs).length), by rw [hk], this, by omega, by omega⟩

theorem bytes_TrimLeft (p : Option Addr) (c : Nat) (l : List UInt8) (cc : UInt8) (hcc : cc.toNat < 128) (w : World) (hl : l.length ≤ c) (hc : c ≤ 9223372036854775807) (h : By w p l) :
    Calls Tryd.prog 58 #[.slice p l.length c, .string ⟨#[cc]⟩] w fun e w' => (∃ p' c', e = .returned (.slice p' (Lib.trimLeftS l [cc]).length c') ∧ Hid (By w' p' (Lib.trimLeftS l [cc]) ∧ (Lib.trimLeftS l [cc]).length ≤ c' ∧ c' ≤ 9223372036854775807)) ∧ Ext w w' := by
  have h27 : (Tryd.prog.info? (Tryd.layst8_ren.t 27)).map (fun i => (i.zero, i.size)) = some (some (.agg (Array.replicate 256 (.bool false))), 256) := by kernel_rfl
  refine (Any.bytes_TrimLeft_ascii Tryd.layst8 (zero_of_info h27).1 (zero_of_info h27).2 p l.length c l ⟨#[cc]⟩ w rfl hl hc h.lib (by simp [ByteArray.size]) (by
    intro j b hb
    rcases j with _ | j
    · simp at hb; subst hb; exact hcc
    · simp at hb)).mono ?_
  rintro e w' ⟨rfl, hB⟩
  obtain ⟨p', c', e1, e2, e3, e4⟩ := leftV_cut (h.ext hB) hl hc [cc]
  exact ⟨⟨p', c', by rw [← e1], e2, e3, e4⟩, hB⟩

theorem bytes_TrimRight (p : Option Addr) (c : Nat) (l : List UInt8) (a b : UInt8) (ha : a.toNat < 128) (hb : b.toNat < 128) (w : World) (hl : l.length ≤ c) (hc : c ≤ 9223372036854775807) (h : By w p l) :
    Calls Tryd.prog 57 #[.slice p l.length c, .string ⟨#[a, b]⟩] w fun e w' => e = .returned (.slice p (Lib.trimRightS l [a, b]).length c) ∧ By w' p (Lib.trimRightS l [a, b]) ∧ Ext w w' := by
  have h27 : (Tryd.prog.info? (Tryd.layst7_ren.t 27)).map (fun i => (i.zero, i.size)) = some (some (.agg (Array.replicate 256 (.bool false))), 256) := by kernel_rfl
  refine (Any.bytes_TrimRight_ascii Tryd.layst7 (zero_of_info h27).1 (zero_of_info h27).2 p l.length c l ⟨#[a, b]⟩ w rfl hl hc h.lib (by simp [ByteArray.size]) (by
    intro j x hx
    rcases j with _ | _ | j
    · simp at hx; subst hx; exact ha
    · simp at hx; subst hx; exact hb
    · simp at hx)).mono ?_
  rintro e w' ⟨rfl, hB⟩
  refine ⟨rfl, ?_, hB⟩
  have := (h.ext hB).take (Lib.trimRightS l [a, b]).length
  rwa [← Lib.trimRightS_eq_take] at this

/-- a number's field, as the program reads it. -/
def keepN (r : Nat × Bool) : Nat × Bool := (if r.2 then r.1 else 0, r.2)
def trimF (l : List UInt8) : List UInt8 := Lib.trimRightS (Lib.trimLeftS l [32]) [32, 0]
def fieldS (l : List UInt8) : Nat × Bool :=
  if l.length = 0 then (0, false) else if l.getD 0 0 = 128 then keepN (rdF 256 0 (l.drop 1)) else keepN (rdF 8 0 ((trimF l).map (· - 48)))
theorem fieldS_bin {l : List UInt8} (h0 : 0 < l.length) (h : l.getD 0 0 = 128) : fieldS l = keepN (rdF 256 0 (l.drop 1)) := by unfold fieldS; rw [if_neg (by omega), if_pos h]
theorem fieldS_oct {l : List UInt8} (h0 : 0 < l.length) (h : l.getD 0 0 ≠ 128) : fieldS l = keepN (rdF 8 0 ((trimF l).map (· - 48))) := by unfold fieldS; rw [if_neg (by omega), if_neg h]
theorem info_u8 : (Tryd.prog.info? 5).map (fun i => (i.zero, i.size, i.bytes)) = some (some (.int .u8 0), 1, 1) := by kernel_rfl
set_option maxHeartbeats 2000000 in
theorem field_Parse_bin (p : Option Addr) (c : Nat) (l : List UInt8) (w : World) (hl : l.length ≤ c) (hc : c ≤ 9223372036854775807) (h : By w p l) (h0 : 0 < l.length) (h128 : l.getD 0 0 = 128) :
    Calls Tryd.prog 29 #[.slice p l.length c] w fun e w' => e = .returned (.tuple #[.int .i64 (fieldS l).1, .bool (fieldS l).2]) ∧ Ext w w' := by
  rw [fieldS_bin h0 h128]
  obtain ⟨b, o, rfl, hx⟩ := h.at_ h0
  rw [Nat.add_zero, h128] at hx
  have hcut := h.cut hl 1
  have hn0 : ((l.length : Int) == 0) = false := beq_eq_false_iff_ne.2 (by omega)
  have kc := run_cut_from (P := Tryd.prog) Tryd.underlying22 info_u8 .i64 (some ⟨b, o, none⟩) l.length c 1 (by omega) (by omega)
  have hR := field_read 256 (by omega) (by omega) _ (c - 1) (l.drop 1) w (by rw [List.length_drop]; omega) hcut
  rw [List.length_drop] at hR
  obtain ⟨r, hr⟩ : ∃ r, r = rdF 256 0 (l.drop 1) := ⟨_, rfl⟩
  rw [← hr] at hR ⊢
  have HR := Lib.hid hR
  clear hR hr hcut h h128
  rcases r with ⟨r1, _ | _⟩
  all_goals
    go_enter Tryd.func29, Tryd.ntmps29
    go_wp2_with fail
    refine HR.out.mono ?_
    rintro e w' ⟨rfl, rfl⟩
    go_wp2_with fail
    refine (field_kept _ _ _).mono ?_
    rintro e w' ⟨rfl, rfl⟩
    go_wp2
    go_ret2
    exact ⟨rfl, Ext.refl _⟩

/-- the digits, once the loop has written k of them. -/
def digs (t : List UInt8) (k : Nat) : List UInt8 := (t.take k).map (· - 48) ++ List.replicate (t.length - k) 0
theorem digs_length (t : List UInt8) (k : Nat) (hk : k ≤ t.length) : (digs t k).length = t.length := by simp [digs]; omega
theorem digs_zero (t : List UInt8) : digs t 0 = List.replicate t.length 0 := by simp [digs]
theorem digs_all (t : List UInt8) : digs t t.length = t.map (· - 48) := by simp [digs]
theorem digs_at (t : List UInt8) (k i : Nat) (hk : k ≤ t.length) : (digs t k)[i]? = if i < k then some (t.getD i 0 - 48) else if i < t.length then some 0 else none := by
  unfold digs
  rw [List.getElem?_append]
  simp only [List.length_map, List.length_take, Nat.min_eq_left hk, List.getElem?_map, List.getElem?_take, List.getElem?_replicate]
  by_cases h : i < k
  · have : i < t.length := by omega
    simp [h, List.getElem?_eq_getElem this]
  · simp only [if_neg h]
    by_cases h2 : i < t.length
    · rw [if_pos (by omega), if_pos h2]
    · rw [if_neg (by omega), if_neg h2]
theorem digs_succ (t : List UInt8) (k : Nat) (hk : k < t.length) : (digs t k).set k (t.getD k 0 - 48) = digs t (k + 1) := by
  apply List.ext_getElem?
  intro i
  rw [List.getElem?_set, digs_length _ _ (by omega), digs_at _ _ _ (by omega), digs_at _ _ _ (by omega)]
  by_cases e : k = i
  · subst e
    rw [if_pos rfl, if_pos hk, if_pos (by omega)]
  · rw [if_neg e]
    by_cases h : i < k
    · rw [if_pos h, if_pos (by omega)]
    · rw [if_neg h]
      by_cases h2 : i < t.length
      · rw [if_pos h2, if_neg (by omega)]
      · rw [if_neg h2, if_neg (by omega)]

theorem u8_sub48 (y : UInt8) : ((y.toNat : Int) - 48) % 256 = ((y - 48 : UInt8).toNat : Int) := by
  have := y.toNat_lt
  rw [UInt8.toNat_sub]
  simp
  omega
set_option maxHeartbeats 2000000 in
theorem field_Parse_oct (p : Option Addr) (c : Nat) (l : List UInt8) (w : World) (hl : l.length ≤ c) (hc : c ≤ 9223372036854775807) (hl2 : l.length ≤ 1000000) (h : By w p l) (h0 : 0 < l.length) (h128 : l.getD 0 0 ≠ 128) :
    Calls Tryd.prog 29 #[.slice p l.length c] w fun e w' => e = .returned (.tuple #[.int .i64 (fieldS l).1, .bool (fieldS l).2]) ∧ Ext w w' := by
  rw [fieldS_oct h0 h128]
  obtain ⟨b, o, rfl, hx⟩ := h.at_ h0
  rw [Nat.add_zero] at hx
  have hn0 : ((l.length : Int) == 0) = false := beq_eq_false_iff_ne.2 (by omega)
  have h128' : (((l.getD 0 0).toNat : Int) == 128) = false := beq_eq_false_iff_ne.2 fun e => h128 (UInt8.toNat_inj.1 (by simpa using Int.ofNat_inj.1 e))
  have hT := bytes_TrimLeft (some ⟨b, o, none⟩) c l 32 (by decide) w hl (by omega) h
  obtain ⟨t1, ht1⟩ : ∃ t1, t1 = Lib.trimLeftS l [32] := ⟨_, rfl⟩
  obtain ⟨t, ht⟩ : ∃ t, t = Lib.trimRightS t1 [32, 0] := ⟨_, rfl⟩
  have htl : t.length ≤ l.length := by rw [ht, ht1]; exact Nat.le_trans (Lib.trimRightS_len_le _ _) (trimLeftS_le _ _)
  unfold trimF
  rw [← ht1] at hT ⊢
  rw [← ht]
  have HT := Lib.hid hT
  have Ht := Lib.hid ht
  clear hT ht ht1 h128 h
  obtain ⟨x, hxx⟩ : ∃ x, x = l.getD 0 0 := ⟨_, rfl⟩
  rw [← hxx] at hx h128'
  clear hxx
  obtain ⟨r, hr⟩ : ∃ r, r = rdF 8 0 (t.map (· - 48)) := ⟨_, rfl⟩
  rw [← hr]
  have Hr := Lib.hid hr
  clear hr
  rcases r with ⟨r1, _ | _⟩
  all_goals
    go_enter Tryd.func29, Tryd.ntmps29
    go_wp2_with fail
    refine HT.out.mono ?_
    rintro e w1 ⟨⟨p1, c1, rfl, H1⟩, hE1⟩
    have HE1 := Lib.hid hE1
    clear hE1
    go_wp2_with fail
    refine (bytes_TrimRight p1 c1 t1 32 0 (by decide) (by decide) w1 H1.out.2.1 H1.out.2.2 H1.out.1).mono ?_
    rintro e w2 ⟨rfl, h2⟩
    rw [← Ht.out] at h2 ⊢
    have H2 := Lib.hid h2
    clear h2
    have km := Go.run_make_row' (P := Tryd.prog) 22 5 (.int .u8 0) 1 Tryd.underlying22 info_u8 rfl .i64 .i64 t.length (by omega) (by omega)
    go_wp2_with fail
    go_loopw [32] (fun i wr => ∃ k : Nat, k ≤ t.length ∧ i = .int .i64 k ∧ Hid (Blk 5 wr w2.heap.size (digs t k) ∧ Ext w2 wr)) (fun i _ => t.length - (intOf i).toNat)
    case atStart => exact ⟨0, Nat.zero_le _, rfl, by rw [digs_zero]; exact Blk.made _ _ _, Ext.alloc _ _⟩
    case round =>
      obtain ⟨k, hk, rfl, HW⟩ := hrel
      by_cases hlt : k < t.length
      · obtain ⟨b1, o1, hp1, hcell⟩ := (H2.out.1.ext HW.out.2).at_ hlt
        subst hp1
        have hc2 := HW.out.1.cell (i := k) (by rw [digs_length _ _ hk]; exact hlt)
        have hf2 := HW.out.1.frozen k
        obtain ⟨y, hy⟩ : ∃ y, y = t.getD k 0 := ⟨_, rfl⟩
        rw [← hy] at hcell
        have Hy := Lib.hid hy
        clear hy
        go_wp2
        go_roundw
        case rel =>
          refine ⟨k + 1, by omega, by go_num, ?_⟩
          rw [u8_sub48, Hy.out]
          refine ⟨?_, HW.out.2.setCell (Nat.le_refl _) _⟩
          rw [← digs_succ t k hlt]
          exact HW.out.1.set k _
        case measure => simp [intOf]; omega
      · obtain rfl : k = t.length := by omega
        have hB := HW.out.1.by_
        rw [digs_all] at hB
        have hR := field_read 8 (by omega) (by omega) (some ⟨w2.heap.size, 0, none⟩) t.length (t.map (· - 48)) wr (by rw [List.length_map]; omega) hB
        rw [List.length_map, ← Hr.out] at hR
        have HR := Lib.hid hR
        clear hR hB
        go_wp2_with fail
        refine HR.out.mono ?_
        rintro e w' ⟨rfl, rfl⟩
        go_wp2_with fail
        refine (field_kept _ _ _).mono ?_
        rintro e w' ⟨rfl, rfl⟩
        go_wp2
        go_ret2
        exact ⟨rfl, HE1.out.trans (H2.out.2.trans HW.out.2)⟩

theorem field_Parse (p : Option Addr) (c : Nat) (l : List UInt8) (w : World) (hl : l.length ≤ c) (hc : c ≤ 9223372036854775807) (hl2 : l.length ≤ 1000000) (h : By w p l) :
    Calls Tryd.prog 29 #[.slice p l.length c] w fun e w' => e = .returned (.tuple #[.int .i64 (fieldS l).1, .bool (fieldS l).2]) ∧ Ext w w' := by
  by_cases h0 : 0 < l.length
  · by_cases h128 : l.getD 0 0 = 128
    · exact field_Parse_bin p c l w hl hc h h0 h128
    · exact field_Parse_oct p c l w hl hc hl2 h h0 h128
  · have hl0 : l = [] := List.eq_nil_of_length_eq_zero (by omega)
    subst hl0
    go_enter Tryd.func29, Tryd.ntmps29
    go_wp2
    go_ret2
    exact ⟨rfl, Ext.refl _⟩
end Go.Proofs.YtpapbnmacjoihaaDoor
