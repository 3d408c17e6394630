/- bindle, part HeadB: contracts of the program, walked. -/
import Derived.Test.YtpapbnmacjoihaaDoorHeadA
import Derived.Lib.ConvBytes
namespace Go.Proofs.YtpapbnmacjoihaaDoor
open Go.RowKit Go.Shelf

/-! ### Zero -/
def zeroS (l : List UInt8) : Bool := decide ((Lib.trimS l [0]).length = 0)
theorem trimS_le (l cs : List UInt8) : (Lib.trimS l cs).length ≤ (Lib.trimRightS l cs).length := trimLeftS_le _ _
theorem bytes_Trim (p : Option Addr) (c : Nat) (l : List UInt8) (cc : UInt8) (hcc : cc.toNat < 128) (w : World) (hl : l.length ≤ c) (hc : c ≤ 9223372036854775807) (h : By w p l) :
    Calls Tryd.prog 39 #[.slice p l.length c, .string ⟨#[cc]⟩] w fun e w' => (∃ p' c', e = .returned (.slice p' (Lib.trimS l [cc]).length c')) ∧ Ext w w' := by
  have h27 : (Tryd.prog.info? (Tryd.layst6_ren.t 27)).map (fun i => (i.zero, i.size)) = some (some (.agg (Array.replicate 256 (.bool false))), 256) := by kernel_rfl
  refine (Any.bytes_Trim_ascii Tryd.layst6 (zero_of_info h27).1 (zero_of_info h27).2 p l.length c l ⟨#[cc]⟩ w rfl hl hc h.lib (by simp [ByteArray.size]) (by
    intro j b hb
    rcases j with _ | j
    · simp at hb; subst hb; exact hcc
    · simp at hb)).mono ?_
  rintro e w' ⟨rfl, hB⟩
  refine ⟨?_, hB⟩
  have hle := trimS_le l [cc]
  show ∃ p' c', Ending.returned (Lib.leftV p (Lib.trimRightS l [cc]).length c ((Lib.trimRightS l [cc]).length - (Lib.trimS l [cc]).length)) = _
  unfold Lib.leftV Lib.fromV
  split
  · exact ⟨none, 0, by rw [show (Lib.trimS l [cc]).length = 0 from by omega]⟩
  · exact ⟨_, _, by rw [show (Lib.trimRightS l [cc]).length - ((Lib.trimRightS l [cc]).length - (Lib.trimS l [cc]).length) = (Lib.trimS l [cc]).length from by omega]⟩
set_option maxHeartbeats 1000000 in
theorem head_Zero (p : Option Addr) (l : List UInt8) (c : Nat) (w : World) (hl : l.length ≤ c) (hc : c ≤ 9223372036854775807) (hb : By w p l) :
    Calls Tryd.prog 19 #[.slice p l.length c] w fun e w' => e = .returned (.bool (zeroS l)) ∧ Ext w w' := by
  have hT := bytes_Trim p c l 0 (by decide) w hl hc hb
  have hz : (((Lib.trimS l [0]).length : Int) == 0) = zeroS l := by
    unfold zeroS
    by_cases e : (Lib.trimS l [0]).length = 0
    · rw [e]; rfl
    · rw [decide_eq_false e, beq_eq_false_iff_ne]; omega
  obtain ⟨n, hn⟩ : ∃ n, n = (Lib.trimS l [0]).length := ⟨_, rfl⟩
  rw [← hn] at hT hz
  have HT := Lib.hid hT
  have Hz := Lib.hid hz
  clear hT hz hn hb
  go_enter Tryd.func19, Tryd.ntmps19
  go_wp2_with fail
  refine HT.out.mono ?_
  rintro e w1 ⟨⟨p', c', rfl⟩, hE⟩
  go_wp2
  go_ret
  exact ⟨by rw [← Hz.out]; rfl, hE⟩

/-! ### Cut -/
def okCut (l : List UInt8) (k : Nat) : Bool := decide (l.getD k 0 = 47) && (decide (1 ≤ k) && (decide (k ≤ 155) && (decide (k + 2 ≤ l.length) && decide (l.length ≤ k + 101))))
def firstOk (l : List UInt8) : Option Nat := (List.range l.length).find? (okCut l)
theorem firstOk_some {l : List UInt8} {k : Nat} (hk : k < l.length) (h : okCut l k = true) (hn : ∀ j, j < k → okCut l j = false) : firstOk l = some k := by
  unfold firstOk
  rw [List.find?_range_eq_some]
  exact ⟨h, by simpa using hk, fun j hj => by rw [hn j hj]; rfl⟩
theorem firstOk_none {l : List UInt8} (hn : ∀ j, j < l.length → okCut l j = false) : firstOk l = none := by
  unfold firstOk
  rw [List.find?_eq_none]
  intro j hj
  rw [hn j (by simpa using hj)]
  decide
/-- a name's prefix and rest. -/
def cutS (l : List UInt8) : Option (List UInt8 × List UInt8) :=
  if l.length ≤ 100 then some ([], l) else (firstOk l).map fun k => (l.take k, l.drop (k + 1))
def cutV (r : Option (List UInt8 × List UInt8)) : Value :=
  match r with
  | some (a, b) => .tuple #[.string (bs a), .string (bs b), .bool true]
  | none => .tuple #[.string (bs []), .string (bs []), .bool false]
theorem bytesWorld_ext (w : World) (e : TypeId) (s : ByteArray) : Ext w (Lib.bytesWorld w e s) :=
  ⟨rfl, rfl, rfl, by rw [Lib.bytesWorld_size]; omega, fun i hi => Lib.bytesWorld_at_old w e s i hi⟩
theorem bytesWorld_by (w : World) (e : TypeId) (l : List UInt8) : By (Lib.bytesWorld w e (bs l)) (some ⟨w.heap.size, 0, none⟩) l := fun _ =>
  ⟨w.heap.size, 0, rfl, fun i hi => by rw [Nat.zero_add, Lib.bytesWorld_cell _ _ _ _ (by rw [bs_size]; exact hi)]; rfl⟩
set_option maxHeartbeats 2000000 in
set_option maxRecDepth 100000 in
theorem head_Cut (l : List UInt8) (w : World) (hl : l.length ≤ 1000000) (hv : HV w) :
    Calls Tryd.prog 17 #[.string (bs l)] w fun e w' => e = .returned (cutV (cutS l)) ∧ Ext w w' := by
  have hsz := bs_size l
  by_cases h100 : l.length ≤ 100
  · have e0 : cutS l = some ([], l) := by unfold cutS; rw [if_pos h100]
    rw [e0]
    obtain ⟨hn0, hn1⟩ := hv.name
    have HV' := Lib.hid hv
    have h100' : (bs l).size ≤ 100 := by omega
    have Hsz := Lib.hid hsz
    clear hv hsz
    obtain ⟨s, hs⟩ : ∃ s, s = bs l := ⟨_, rfl⟩
    rw [show cutV (some ([], l)) = .tuple #[.string (bs []), .string (bs l), .bool true] from rfl]
    rw [← hs] at h100' ⊢
    clear hs Hsz
    go_enter Tryd.func17, Tryd.ntmps17
    go_wp2
    go_ret3
    exact ⟨rfl, Ext.refl _⟩
  · have e0 : cutS l = (firstOk l).map fun k => (l.take k, l.drop (k + 1)) := by unfold cutS; rw [if_neg h100]
    rw [e0]
    obtain ⟨hn0, hn1⟩ := hv.name
    obtain ⟨hp0, hp1⟩ := hv.prefix_
    have HN := Lib.hid hv
    have h100' : ¬ (bs l).size ≤ 100 := by omega
    have hl' : (bs l).size ≤ 1000000 := by omega
    have kb := fun W : World => Lib.run_convert_string_bytes (P := Tryd.prog) W 9 22 5 (bs l) Tryd.underlying9 Tryd.underlying22 Tryd.underlying5
    have Hsz := Lib.hid hsz
    clear hv hsz e0
    obtain ⟨s, hs⟩ : ∃ s, s = bs l := ⟨_, rfl⟩
    rw [← hs] at h100' hl' kb ⊢
    have Hs := Lib.hid hs
    have hE := bytesWorld_ext w 5 s
    have hBy := bytesWorld_by w 5 l
    rw [← hs] at hBy
    clear hs
    have HE := Lib.hid hE
    have HBy := Lib.hid hBy
    have hp1' := hE.cell hp1
    have hn1' := hE.cell hn1
    have hlen : s.size = l.length := by rw [Hs.out, bs_size]
    have Hlen := Lib.hid hlen
    clear hE hBy hlen
    go_enter Tryd.func17, Tryd.ntmps17
    go_wp2_with fail
    go_loop [16] (fun i => ∃ k : Nat, k ≤ s.size ∧ i = .int .i64 k ∧ Hid (∀ j, j < k → okCut l j = false)) (fun i => s.size - (intOf i).toNat)
    case atStart => exact ⟨0, Nat.zero_le _, rfl, fun j hj => absurd hj (Nat.not_lt_zero _)⟩
    case round =>
      obtain ⟨k, hk, rfl, HM⟩ := hrel
      by_cases hlt : k < s.size
      · obtain ⟨b, o, hp, hcell⟩ := HBy.out.at_ (i := k) (by rw [← Hlen.out]; exact hlt)
        injection hp with hp
        injection hp with hp1 hp2
        subst hp1 hp2
        rw [Nat.zero_add] at hcell
        obtain ⟨y, hy⟩ : ∃ y, y = l.getD k 0 := ⟨_, rfl⟩
        rw [← hy] at hcell
        have Hy := Lib.hid hy
        clear hy
        by_cases c1 : y = 47
        · subst c1
          have hy47 : l.getD k 0 = 47 := Hy.out.symm
          have Hy47 := Lib.hid hy47
          clear hy47
          by_cases c2 : 1 ≤ k ∧ k ≤ 155
          · obtain ⟨c2a, c2b⟩ := c2
            have hin1 : inB (k : Int) 1 155 = true := inB_yes (by omega) (by omega)
            by_cases c3 : k + 2 ≤ s.size ∧ s.size ≤ k + 101
            · obtain ⟨c3a, c3b⟩ := c3
              have hin2 : inB ((s.size : Int) - (k : Int) - 1) 1 100 = true := inB_yes (by omega) (by omega)
              have hok : firstOk l = some k := firstOk_some (by rw [← Hlen.out]; exact hlt) (by
                unfold okCut
                rw [Hy47.out, ← Hlen.out]
                simp [c2a, c2b, c3a, c3b]) HM.out
              have HO := Lib.hid hok
              clear hok
              go_wp2_with fail
              refine (num_In _ _ _ _).mono ?_
              rintro e w' ⟨rfl, rfl⟩
              rw [hin1]
              go_wp2_with fail
              refine (num_In _ _ _ _).mono ?_
              rintro e w' ⟨rfl, rfl⟩
              rw [hin2]
              have kw1 : IntKind.i64.wrap ((k : Int) + 1) = (k : Int) + 1 := IntWalk.i64_in _ (by omega)
              have kt1 : ((k : Int) + 1).toNat = k + 1 := by omega
              have kn1 : (0 : Int) ≤ (k : Int) + 1 := by omega
              go_wp2_with fail
              go_quiet (fail)
              go_wp2
              go_ret3
              refine ⟨?_, HE.out.trans (Ext.drewN _ _)⟩
              rw [HO.out]
              show Ending.returned (.tuple #[.string (s.extract 0 k), .string (s.extract (k + 1) s.size), .bool true]) = _
              rw [Hlen.out, Hs.out, bs_extract, bs_extract, List.take_length, List.drop_zero]
              rfl
            · have hin2 : inB ((s.size : Int) - (k : Int) - 1) 1 100 = false := by
                by_cases h0 : k + 2 ≤ s.size
                · exact inB_hi (by omega)
                · exact inB_lo (by omega)
              have hok : okCut l k = false := by
                unfold okCut
                rw [← Hlen.out]
                by_cases h0 : k + 2 ≤ s.size
                · have h1 : ¬ s.size ≤ k + 101 := fun h => c3 ⟨h0, h⟩
                  rw [decide_eq_false h1]; simp
                · rw [decide_eq_false h0]; simp
              have HO := Lib.hid hok
              clear hok
              go_wp2_with fail
              refine (num_In _ _ _ _).mono ?_
              rintro e w' ⟨rfl, rfl⟩
              rw [hin1]
              go_wp2_with fail
              refine (num_In _ _ _ _).mono ?_
              rintro e w' ⟨rfl, rfl⟩
              rw [hin2]
              go_wp2_with fail
              go_round
              case rel => exact ⟨k + 1, by omega, by go_num, fun j hj => by
                by_cases e : j = k
                · rw [e]; exact HO.out
                · exact HM.out j (by omega)⟩
              case measure => simp [intOf]; omega
          · have hin1 : inB (k : Int) 1 155 = false := by
              by_cases h0 : 1 ≤ k
              · exact inB_hi (by omega)
              · exact inB_lo (by omega)
            have hok : okCut l k = false := by
              unfold okCut
              by_cases h0 : 1 ≤ k
              · have h1 : ¬ k ≤ 155 := fun h => c2 ⟨h0, h⟩
                rw [decide_eq_false h1]; simp
              · rw [decide_eq_false h0]; simp
            have HO := Lib.hid hok
            clear hok
            go_wp2_with fail
            refine (num_In _ _ _ _).mono ?_
            rintro e w' ⟨rfl, rfl⟩
            rw [hin1]
            go_wp2_with fail
            go_round
            case rel => exact ⟨k + 1, by omega, by go_num, fun j hj => by
              by_cases e : j = k
              · rw [e]; exact HO.out
              · exact HM.out j (by omega)⟩
            case measure => simp [intOf]; omega
        · have c1' : ((y.toNat : Int) == 47) = false := beq_eq_false_iff_ne.2 fun e => c1 (UInt8.toNat_inj.1 (by simpa using Int.ofNat_inj.1 e))
          have hok : okCut l k = false := by unfold okCut; rw [← Hy.out, decide_eq_false c1]; rfl
          have HO := Lib.hid hok
          clear hok c1
          go_wp2_with fail
          go_round
          case rel => exact ⟨k + 1, by omega, by go_num, fun j hj => by
            by_cases e : j = k
            · rw [e]; exact HO.out
            · exact HM.out j (by omega)⟩
          case measure => simp [intOf]; omega
      · obtain rfl : k = s.size := by omega
        have hno : firstOk l = none := firstOk_none (by rw [← Hlen.out]; exact HM.out)
        have HO := Lib.hid hno
        clear hno
        go_wp2
        go_ret3
        exact ⟨by rw [HO.out]; rfl, HE.out⟩
end Go.Proofs.YtpapbnmacjoihaaDoor
