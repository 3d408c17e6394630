/- bindle, part FieldE: contracts of the program, walked. -/
import Derived.Test.YtpapbnmacjoihaaDoorFieldD
namespace Go.Proofs.YtpapbnmacjoihaaDoor
open Go.RowKit Go.Shelf

def octD (wide n : Nat) : List UInt8 := ((low 8 (wide - 1) n).map fun d => (48 : UInt8) + UInt8.ofNat d) ++ [0]
def binD (wide n : Nat) : List UInt8 := 128 :: ((low 256 (wide - 1) n).map fun d => (0 : UInt8) + UInt8.ofNat d)
theorem octD_length (wide n : Nat) (h : 1 ≤ wide) : (octD wide n).length = wide := by simp [octD, low_length]; omega
theorem binD_length (wide n : Nat) (h : 1 ≤ wide) : (binD wide n).length = wide := by simp [binD, low_length]; omega
/-- a number's field, as it is put (2 ≤ wide ≤ 100). -/
def putS (n : Int) (wide : Nat) : Option (List UInt8) :=
  if 0 ≤ n ∧ n ≤ 4611686018427387904 then
    if n.toNat / 8 ^ (wide - 1) = 0 then some (octD wide n.toNat)
    else if n.toNat / 256 ^ (wide - 1) = 0 then some (binD wide n.toNat) else none
  else none
theorem putS_length {n : Int} {wide : Nat} (h : 1 ≤ wide) {D : List UInt8} (e : putS n wide = some D) : D.length = wide := by
  unfold putS at e
  split at e
  · split at e
    · cases e; simp [octD, low_length]; omega
    · split at e
      · cases e; simp [binD, low_length]; omega
      · cases e
  · cases e
/-- What is handed back: a row of one's own that is the field; or nothing. -/
def PutPost (w : World) (r : Option (List UInt8)) (e : Ending) (w' : World) : Prop :=
  (∀ D, r = some D → e = .returned (.tuple #[.slice (some ⟨w.heap.size, 0, none⟩) D.length D.length, .bool true]) ∧ Blk 5 w' w.heap.size D) ∧
  (r = none → e = .returned (.tuple #[.slice none 0 0, .bool false])) ∧ Ext w w'

theorem lay_oct (wide n : Nat) (hw : 1 ≤ wide) : lay (List.replicate wide (0 : UInt8)) 0 ((low 8 (wide - 1) n).map fun d => (48 : UInt8) + UInt8.ofNat d) = octD wide n := by
  unfold lay octD
  obtain ⟨k, rfl⟩ : ∃ k, wide = k + 1 := ⟨wide - 1, by omega⟩
  simp [low_length]
theorem lay_bin (L : List UInt8) (wide n : Nat) (hw : 1 ≤ wide) (hL : L.length = wide) : lay ((L.set 0 128).set (wide - 1) 0) 1 ((low 256 (wide - 1) n).map fun d => (0 : UInt8) + UInt8.ofNat d) = binD wide n ∨ wide = 1 := by
  by_cases h1 : wide = 1
  · exact .inr h1
  · left
    unfold lay binD
    obtain ⟨k, rfl⟩ : ∃ k, wide = k + 2 := ⟨wide - 2, by omega⟩
    rcases L with _ | ⟨a, L⟩
    · simp at hL
    · simp [low_length] at hL ⊢
      omega

set_option maxHeartbeats 2000000 in
theorem field_Put_bad (n : Int) (wide : Nat) (w : World) (h2 : 2 ≤ wide) (h3 : wide ≤ 100) (h : ¬ (0 ≤ n ∧ n ≤ 4611686018427387904)) :
    Calls Tryd.prog 37 #[.int .i64 n, .int .i64 wide] w (PutPost w (putS n wide)) := by
  have e0 : putS n wide = none := by unfold putS; rw [if_neg h]
  rw [e0]
  have hin : inB n 0 4611686018427387904 = false := by
    by_cases h0 : 0 ≤ n
    · exact inB_hi (by omega)
    · exact inB_lo (by omega)
  go_enter Tryd.func37, Tryd.ntmps37
  go_wp2_with fail
  refine (num_In _ _ _ _).mono ?_
  rintro e w' ⟨rfl, rfl⟩
  rw [hin]
  go_wp2
  go_ret2
  exact ⟨fun D h => (by cases h), fun _ => rfl, Ext.refl _⟩

set_option maxHeartbeats 2000000 in
theorem field_Put_ok (n : Nat) (wide : Nat) (w : World) (h2 : 2 ≤ wide) (h3 : wide ≤ 100) (h : n ≤ 4611686018427387904) :
    Calls Tryd.prog 37 #[.int .i64 (n : Int), .int .i64 wide] w (PutPost w (putS n wide)) := by
  have hin1 : inB n 0 4611686018427387904 = true := inB_yes (by omega) (by omega)
  have hin2 : inB wide 2 100 = true := inB_yes (by omega) (by omega)
  have km := Go.run_make_row' (P := Tryd.prog) 22 5 (.int .u8 0) 1 Tryd.underlying22 info_u8 rfl .i64 .i64 wide (by omega) (by omega)
  have k1 := run_cut_to (P := Tryd.prog) Tryd.underlying22 info_u8 .i64 (some ⟨w.heap.size, 0, none⟩) wide wide ((wide : Int) - 1) (by omega) (by omega)
  rw [show ((wide : Int) - 1).toNat = wide - 1 from by omega] at k1
  have hp : putS (n : Int) wide = if n / 8 ^ (wide - 1) = 0 then some (octD wide n) else if n / 256 ^ (wide - 1) = 0 then some (binD wide n) else none := by
    unfold putS; rw [if_pos ⟨by omega, by omega⟩]; rfl
  have hB := Blk.made 5 w wide
  have hW := field_write n 8 (.inl rfl) 48 h w.heap.size 0 (wide - 1) wide _ _ (by simp) (by omega) hB
  rw [lay_oct _ _ (by omega)] at hW
  by_cases c1 : n / 8 ^ (wide - 1) = 0
  · rw [if_pos c1] at hp
    rw [hp]
    rw [decide_eq_true c1] at hW
    have HW := Lib.hid hW
    clear hW hB hp c1
    go_enter Tryd.func37, Tryd.ntmps37
    go_wp2_with fail
    refine (num_In _ _ _ _).mono ?_
    rintro e w' ⟨rfl, rfl⟩
    rw [hin1]
    go_wp2_with fail
    refine (num_In _ _ _ _).mono ?_
    rintro e w' ⟨rfl, rfl⟩
    rw [hin2]
    go_wp2_with fail
    refine HW.out.mono ?_
    rintro e w1 ⟨rfl, H1⟩
    have H1' := Lib.hid H1
    clear H1
    go_wp2
    go_ret2
    have hE : Ext w w1 := Below.grown (Ext.alloc w _) H1'.out.2 (by simp) (fun k hk => by cases hk; exact Nat.le_refl _)
    refine ⟨fun D hD => ?_, fun h => (by cases h), hE⟩
    cases hD
    exact ⟨by simp only [octD_length _ _ (show 1 ≤ wide by omega)]; rfl, H1'.out.1⟩
  · rw [if_neg c1] at hp
    rw [decide_eq_false c1] at hW
    have hl0 : (octD wide n).length = wide := octD_length _ _ (by omega)
    have HW := Lib.hid hW
    clear hW hB c1
    have k2 := run_cut_from (P := Tryd.prog) Tryd.underlying22 info_u8 .i64 (some ⟨w.heap.size, 0, none⟩) wide wide 1 (by omega) (by omega)
    rw [show (1 : Int).toNat = 1 from rfl, cutA_at (by omega), Nat.zero_add] at k2
    have H2 : ∀ w1, Blk 5 w1 w.heap.size (octD wide n) → Calls Tryd.prog 62 #[.int .i64 (n : Int), .int .i64 256, .slice (some ⟨w.heap.size, 1, none⟩) (wide - 1) (wide - 1), .int .u8 0] ((w1.setCell ⟨w.heap.size, 0, none⟩ (.int .u8 128)).setCell ⟨w.heap.size, wide - 1, none⟩ (.int .u8 0)) fun e w' =>
        e = .returned (.bool (decide (n / 256 ^ (wide - 1) = 0))) ∧ Blk 5 w' w.heap.size (binD wide n) ∧ ((w1.setCell ⟨w.heap.size, 0, none⟩ (.int .u8 128)).setCell ⟨w.heap.size, wide - 1, none⟩ (.int .u8 0)).grownBy w' (some w.heap.size) := by
      intro w1 hB
      have hb1 : Blk 5 (w1.setCell ⟨w.heap.size, 0, none⟩ (.int .u8 128)) w.heap.size ((octD wide n).set 0 128) := hB.set 0 128
      have hb2 : Blk 5 ((w1.setCell ⟨w.heap.size, 0, none⟩ (.int .u8 128)).setCell ⟨w.heap.size, wide - 1, none⟩ (.int .u8 0)) w.heap.size (((octD wide n).set 0 128).set (wide - 1) 0) := hb1.set (wide - 1) 0
      have := field_write n 256 (.inr rfl) 0 h w.heap.size 1 (wide - 1) (wide - 1) _ _ (by simp [hl0]; omega) (by omega) hb2
      rcases lay_bin (octD wide n) wide n (by omega) hl0 with e | e
      · rw [e] at this
        exact this
      · omega
    have HX := Lib.hid H2
    have Hp := Lib.hid hp
    clear hp H2
    by_cases c2 : n / 256 ^ (wide - 1) = 0
    all_goals
      first
        | rw [decide_eq_true c2] at HX
        | rw [decide_eq_false c2] at HX
      have C2 := Lib.hid c2
      clear c2
      go_enter Tryd.func37, Tryd.ntmps37
      go_wp2_with fail
      refine (num_In _ _ _ _).mono ?_
      rintro e w' ⟨rfl, rfl⟩
      rw [hin1]
      go_wp2_with fail
      refine (num_In _ _ _ _).mono ?_
      rintro e w' ⟨rfl, rfl⟩
      rw [hin2]
      go_wp2_with fail
      refine HW.out.mono ?_
      rintro e w1 ⟨rfl, h1⟩
      have hc0 := h1.1.cell (i := 0) (by omega)
      have hf0 := h1.1.frozen 0
      have hc1 := h1.1.cell (i := wide - 1) (by omega)
      have hf1 := h1.1.frozen (wide - 1)
      have H1 := Lib.hid h1
      clear h1
      go_wp2_with fail
      refine (HX.out _ H1.out.1).mono ?_
      rintro e w2 ⟨rfl, h2⟩
      have hE : Ext w w1 := Below.grown (Ext.alloc w _) H1.out.2 (by simp) (fun k hk => by cases hk; exact Nat.le_refl _)
      have hE2 : Ext w w2 := Below.grown ((hE.setCell (p := ⟨w.heap.size, 0, none⟩) (Nat.le_refl _) (.int .u8 128)).setCell (p := ⟨w.heap.size, wide - 1, none⟩) (Nat.le_refl _) (.int .u8 0)) h2.2 (by have := hE.size; simpa using this) (fun k hk => by cases hk; exact Nat.le_refl _)
      have H3 := Lib.hid (And.intro h2.1 hE2)
      clear h2 hE hE2
      go_wp2
      go_ret2
      first
        | (have hD : putS (n : Int) wide = some (binD wide n) := by rw [Hp.out, if_pos C2.out]
           rw [hD]
           refine ⟨fun D hD => ?_, fun h => (by cases h), H3.out.2⟩
           cases hD
           exact ⟨by simp only [binD_length _ _ (show 1 ≤ wide by omega)]; rfl, H3.out.1⟩)
        | (have hD : putS (n : Int) wide = none := by rw [Hp.out, if_neg C2.out]
           rw [hD]
           exact ⟨fun D h => (by cases h), fun _ => rfl, H3.out.2⟩)

theorem field_Put (n : Int) (wide : Nat) (w : World) (h2 : 2 ≤ wide) (h3 : wide ≤ 100) :
    Calls Tryd.prog 37 #[.int .i64 n, .int .i64 wide] w (PutPost w (putS n wide)) := by
  by_cases h : 0 ≤ n ∧ n ≤ 4611686018427387904
  · obtain ⟨m, rfl⟩ := Int.eq_ofNat_of_zero_le h.1
    exact field_Put_ok m wide w h2 h3 (by omega)
  · exact field_Put_bad n wide w h2 h3 h
end Go.Proofs.YtpapbnmacjoihaaDoor
