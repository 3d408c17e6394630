/- bindle, part HeadN: contracts of the program, walked. -/
import Derived.Test.YtpapbnmacjoihaaDoorHeadK
namespace Go.Proofs.YtpapbnmacjoihaaDoor
open Go.RowKit Go.Shelf

def numVs (b h : Nat) : List Value := [.map (some b), .agg #[.int .i64 100, .int .i64 8], ptrV h 0, ptrV h 0, ptrV h 3, ptrV h 3, undef,
  .agg #[.int .i64 108, .int .i64 8], ptrV h 0, ptrV h 0, ptrV h 3, ptrV h 4, undef, .agg #[.int .i64 116, .int .i64 8], ptrV h 0, ptrV h 0, ptrV h 3, ptrV h 5, undef,
  .agg #[.int .i64 136, .int .i64 12], ptrV h 0, ptrV h 0, ptrV h 3, ptrV h 6, undef, .agg #[.int .i64 124, .int .i64 12], ptrV h 0, ptrV h 0, ptrV h 7, undef, .map (some b), .map (some b)]
set_option maxHeartbeats 4000000 in
set_option maxRecDepth 100000 in
theorem head_numbers (h : Nat) (w : World) (hv : HV w) :
    Calls Tryd.prog 33 #[ptrV h 0] w fun e w' => e = .returned (.map (some w.heap.size)) ∧ Mp Tryd.prog 58 w' w.heap.size 5 (numF h) ∧ Ext w w' := by
  have HVw := Lib.hid hv
  clear hv
  unfold ptrV
  go_enter Tryd.func33, Tryd.ntmps33
  go_wp2
  have h0 : NumWI w h (fun _ => false) w.drew := ⟨fun e he h => (by cases h), Ext.drew w, fun _ => rfl, fun e => (by cases e)⟩
  apply wp_region_lit (numVs w.heap.size h) (NumWI w h)
  case hm => kernel_rfl
  case hB => kernel_rfl
  case hlen => rfl
  case hds => rfl
  case h0 => exact h0
  case hF =>
    simp only [finalF, numVs, ptrV, Act.put, List.setIfInBounds_toArray, List.set_cons_succ, List.set_cons_zero]
    rfl
  case hstep =>
    simp only [AllZ, numVs, ptrV, Nat.zero_add, Nat.reduceAdd]
    refine ⟨?_, ?_, ?_, ?_, ?_, ?_, ?_, ?_, ?_, ?_, ?_, ?_, ?_, ?_, ?_, ?_, ?_, ?_, ?_, ?_, ?_, ?_, ?_, ?_, ?_, ?_, ?_, ?_, ?_, ?_, ?_, ?_, trivial⟩
    all_goals intro L w' hW hi hd
    all_goals
      have V := HVw.out.ext hW.2.1
      obtain ⟨vm0, vm1⟩ := V.mode
      obtain ⟨vu0, vu1⟩ := V.user
      obtain ⟨vg0, vg1⟩ := V.group
      obtain ⟨vs0, vs1⟩ := V.size
      obtain ⟨vc0, vc1⟩ := V.clock
      have HW := Lib.hid hW
      clear hW V
    · obtain ⟨e1, e2⟩ := HW.out.make hi
      have hmm := @run_makeMap Tryd.prog
      refine ⟨_, .inl ?_, e2⟩
      go_simp
    all_goals first
      | (refine ⟨w', .inl ?_, HW.out.quiet _ ?_ ?_⟩
         rotate_left
         · decide
         · simp [numT]
         · go_simp)
      | (obtain ⟨w2, hr, h2⟩ := HW.out.put (hd ⟨0, .data⟩ (by simp) rfl) (Nat.succ_ne_zero _) hi List.mem_cons_self k_mode
         refine ⟨w2, .inr ⟨?_, trivial⟩, h2⟩
         simp only [ptrV] at hr
         go_simp
         done)
      | (obtain ⟨w2, hr, h2⟩ := HW.out.put (hd ⟨0, .data⟩ (by simp) rfl) (Nat.succ_ne_zero _) hi (List.mem_cons_of_mem _ List.mem_cons_self) k_user
         refine ⟨w2, .inr ⟨?_, trivial⟩, h2⟩
         simp only [ptrV] at hr
         go_simp
         done)
      | (obtain ⟨w2, hr, h2⟩ := HW.out.put (hd ⟨0, .data⟩ (by simp) rfl) (Nat.succ_ne_zero _) hi (List.mem_cons_of_mem _ (List.mem_cons_of_mem _ List.mem_cons_self)) k_group
         refine ⟨w2, .inr ⟨?_, trivial⟩, h2⟩
         simp only [ptrV] at hr
         go_simp
         done)
      | (obtain ⟨w2, hr, h2⟩ := HW.out.put (hd ⟨0, .data⟩ (by simp) rfl) (Nat.succ_ne_zero _) hi (List.mem_cons_of_mem _ (List.mem_cons_of_mem _ (List.mem_cons_of_mem _ List.mem_cons_self))) k_clock
         refine ⟨w2, .inr ⟨?_, trivial⟩, h2⟩
         simp only [ptrV] at hr
         go_simp
         done)
      | (obtain ⟨w2, hr, h2⟩ := HW.out.put (hd ⟨0, .data⟩ (by simp) rfl) (Nat.succ_ne_zero _) hi (List.mem_cons_of_mem _ (List.mem_cons_of_mem _ (List.mem_cons_of_mem _ (List.mem_cons_of_mem _ List.mem_cons_self)))) k_size
         refine ⟨w2, .inr ⟨?_, trivial⟩, h2⟩
         simp only [ptrV] at hr
         go_simp
         done)
  case hend =>
    intro L w' hall' hW
    have hall : ∀ i, i < 32 → L i = true := hall'
    clear hall'
    have hT : ∀ e ∈ numT h, L e.1 = true := by
      intro e he
      simp only [numT, List.mem_cons, List.not_mem_nil, or_false] at he
      rcases he with rfl | rfl | rfl | rfl | rfl
      · exact hall 6 (by decide)
      · exact hall 12 (by decide)
      · exact hall 18 (by decide)
      · exact hall 24 (by decide)
      · exact hall 29 (by decide)
    have hM := hW.2.2.2 (hall 0 (by decide))
    rw [fT_all _ _ hT] at hM
    have hc : cntT (numT h) L = 5 := by simp only [numT, List.mem_cons, List.not_mem_nil, or_false, forall_eq_or_imp, forall_eq] at hT; simp [cntT, numT, hT]
    rw [hc] at hM
    have HH := Lib.hid (And.intro hM hW.2.1)
    clear hM hW hT hall hc
    go_wp2
    go_ret
    exact ⟨rfl, HH.out.1, HH.out.2⟩
end Go.Proofs.YtpapbnmacjoihaaDoor
