/- bindle, part HeadK: contracts of the program, walked. -/
import Derived.Test.YtpapbnmacjoihaaDoorHeadB
import Derived.Test.YtpapbnmacjoihaaDoorMaps
import Derived.Test.YtpapbnmacjoihaaDoorRegion
namespace Go.Proofs.YtpapbnmacjoihaaDoor
open Go.RowKit Go.Shelf

/-! ### keys that are spans -/
def spanV (a b : Nat) : Value := .agg #[.int .i64 a, .int .i64 b]
def kl (a b : Nat) : Lit := .string (keyBytes [.int .i64 a, .int .i64 b])
theorem laidOut : laidOutB Tryd.prog = true := by kernel_rfl
theorem spanK : Maps.Keyed Tryd.prog 58 := Maps.Keyed.of_law (deep_law_laid laidOut (m := 9) (by omega) (of_decide_eq_true (by kernel_rfl)) (by kernel_rfl) (by kernel_rfl))
theorem k_name : keyOf Tryd.prog 58 (.agg #[.int .i64 0, .int .i64 100]) = some (kl 0 100) := by kernel_rfl
theorem k_mode : keyOf Tryd.prog 58 (.agg #[.int .i64 100, .int .i64 8]) = some (kl 100 8) := by kernel_rfl
theorem k_user : keyOf Tryd.prog 58 (.agg #[.int .i64 108, .int .i64 8]) = some (kl 108 8) := by kernel_rfl
theorem k_group : keyOf Tryd.prog 58 (.agg #[.int .i64 116, .int .i64 8]) = some (kl 116 8) := by kernel_rfl
theorem k_size : keyOf Tryd.prog 58 (.agg #[.int .i64 124, .int .i64 12]) = some (kl 124 12) := by kernel_rfl
theorem k_clock : keyOf Tryd.prog 58 (.agg #[.int .i64 136, .int .i64 12]) = some (kl 136 12) := by kernel_rfl
theorem k_link : keyOf Tryd.prog 58 (.agg #[.int .i64 157, .int .i64 100]) = some (kl 157 100) := by kernel_rfl
theorem k_magic : keyOf Tryd.prog 58 (.agg #[.int .i64 257, .int .i64 8]) = some (kl 257 8) := by kernel_rfl
theorem k_prefix : keyOf Tryd.prog 58 (.agg #[.int .i64 345, .int .i64 155]) = some (kl 345 155) := by kernel_rfl
def ptrV (b o : Nat) : Value := .pointer (some ⟨b, o, none⟩)
def numT (h : Nat) : List (Nat × Lit × Value) := [(6, kl 100 8, ptrV h 3), (12, kl 108 8, ptrV h 4), (18, kl 116 8, ptrV h 5), (24, kl 136 12, ptrV h 6), (29, kl 124 12, ptrV h 7)]
def apartB : List Lit → Bool
  | [] => true
  | x :: l => l.all (fun y => !x.sameKey y && !y.sameKey x) && apartB l
theorem kl_apart : apartB [kl 100 8, kl 108 8, kl 116 8, kl 136 12, kl 124 12] = true := by kernel_rfl
theorem numT_apart (h : Nat) : apartT (numT h) := by
  have := kl_apart
  simp only [apartB, List.all_cons, List.all_nil, Bool.and_true, Bool.and_eq_true, Bool.not_eq_true'] at this
  simp only [apartT, numT, List.pairwise_cons, List.mem_cons, List.not_mem_nil, or_false, forall_eq_or_imp, forall_eq, List.Pairwise.nil]
  simp_all
/-- the map of a header's numbers. -/
def numF (h : Nat) : Lit → Option Value := fT (numT h) (fun _ => true)

/-- While it is filled. -/
def NumWI (w0 : World) (h : Nat) (L : Nat → Bool) (w : World) : Prop :=
  (∀ e ∈ numT h, L e.1 = true → L 0 = true) ∧ Ext w0 w ∧ (L 0 = false → w.heap.size = w0.heap.size) ∧ (L 0 = true → Mp Tryd.prog 58 w w0.heap.size (cntT (numT h) L) (fT (numT h) L))
theorem NumWI.quiet {w0 w : World} {h : Nat} {L : Nat → Bool} (hW : NumWI w0 h L w) (i : Nat) (hi : i ≠ 0) (hT : ∀ e ∈ numT h, e.1 ≠ i) : NumWI w0 h (fun j => if j = i then true else L j) w := by
  obtain ⟨h1, h2⟩ := fT_keep (numT h) L i hT
  refine ⟨fun e he => ?_, hW.2.1, ?_, ?_⟩
  · simp only [if_neg (Ne.symm hi), if_neg (hT e he)]; exact hW.1 e he
  · simp only [if_neg (Ne.symm hi)]; exact hW.2.2.1
  · simp only [if_neg (Ne.symm hi)]; rw [h1, h2]; exact hW.2.2.2
theorem NumWI.make {w0 w : World} {h : Nat} {L : Nat → Bool} (hW : NumWI w0 h L w) (h0 : L 0 = false) : w.heap.size = w0.heap.size ∧ NumWI w0 h (fun j => if j = 0 then true else L j) (w.alloc (.map #[] 0)) := by
  have hsz := hW.2.2.1 h0
  have hT : ∀ e ∈ numT h, L e.1 = false := by
    intro e he
    cases hh : L e.1 with
    | false => rfl
    | true => have := hW.1 e he hh; rw [h0] at this; cases this
  refine ⟨hsz, fun e he _ => by simp, hW.2.1.trans (Ext.alloc _ _), fun e => by simp at e, fun _ => ?_⟩
  have h1 := fT_keep (numT h) L 0 (by simp [numT])
  rw [h1.1, h1.2]
  have h2 : fT (numT h) L = fun _ => none := funext fun x => by
    simp only [numT, List.mem_cons, List.not_mem_nil, or_false, forall_eq_or_imp, forall_eq] at hT
    simp [fT, numT, hT]
  have h3 : cntT (numT h) L = 0 := by
    simp only [numT, List.mem_cons, List.not_mem_nil, or_false, forall_eq_or_imp, forall_eq] at hT
    simp [cntT, numT, hT]
  rw [h2, h3, ← hsz]
  exact Mp.made _ _ _
theorem NumWI.put {w0 w : World} {h : Nat} {L : Nat → Bool} (hW : NumWI w0 h L w) {i : Nat} {key : Value} {x : Lit} {v : Value} (h0 : L 0 = true) (hi : i ≠ 0) (hL : L i = false) (hm : (i, x, v) ∈ numT h) (hk : keyOf Tryd.prog 58 key = some x) :
    ∃ w', (Instr.mapUpdate 61 (.map (some w0.heap.size)) key v).run Tryd.prog w = .ok () w' ∧ NumWI w0 h (fun j => if j = i then true else L j) w' := by
  have hM := hW.2.2.2 h0
  have hlt : cntT (numT h) L < maxLen := by
    have : cntT (numT h) L ≤ 5 := by
      simp only [cntT, numT]
      repeat' split
      all_goals omega
    unfold maxLen
    omega
  obtain ⟨w', h1, h2, h3⟩ := hM.update spanK Tryd.underlying61 hlt (v := v) hk
  refine ⟨w', h1, fun e he _ => by simp [h0], Below.grown hW.2.1 h3 hW.2.1.size (fun k hk => by cases hk; exact Nat.le_refl _), ?_, fun _ => ?_⟩
  · simp only [if_neg (Ne.symm hi), h0]; intro e; cases e
  · obtain ⟨e1, e2⟩ := fT_upd (numT h) L i x v (numT_apart h) hm hL
    rw [e2, ← e1]
    exact h2

/-- A header's numbers: where they stand in a block, how wide, and in which cell of the header. -/
def flds : List (Nat × Nat × Nat) := [(100, 8, 3), (108, 8, 4), (116, 8, 5), (136, 12, 6), (124, 12, 7)]
theorem num_cases {h : Nat} {key : Value} {x : Lit} {v : Value} (hk : keyOf Tryd.prog 58 key = some x) (hf : numF h x = some v) :
    ∃ a n i, (a, n, i) ∈ flds ∧ x = kl a n ∧ key = spanV a n ∧ v = ptrV h i := by
  simp only [numF, numT, fT, Bool.and_true] at hf
  split at hf
  · rename_i e
    obtain rfl := WideAt.sameKey_eq e
    cases hf
    exact ⟨100, 8, 3, by simp [flds], rfl, spanK.inj hk k_mode, rfl⟩
  · split at hf
    · rename_i e
      obtain rfl := WideAt.sameKey_eq e
      cases hf
      exact ⟨108, 8, 4, by simp [flds], rfl, spanK.inj hk k_user, rfl⟩
    · split at hf
      · rename_i e
        obtain rfl := WideAt.sameKey_eq e
        cases hf
        exact ⟨116, 8, 5, by simp [flds], rfl, spanK.inj hk k_group, rfl⟩
      · split at hf
        · rename_i e
          obtain rfl := WideAt.sameKey_eq e
          cases hf
          exact ⟨136, 12, 6, by simp [flds], rfl, spanK.inj hk k_clock, rfl⟩
        · split at hf
          · rename_i e
            obtain rfl := WideAt.sameKey_eq e
            cases hf
            exact ⟨124, 12, 7, by simp [flds], rfl, spanK.inj hk k_size, rfl⟩
          · cases hf
theorem flds_bd {a n i : Nat} (h : (a, n, i) ∈ flds) : a + n ≤ 512 ∧ 2 ≤ n ∧ n ≤ 12 ∧ 3 ≤ i ∧ i ≤ 7 := by
  simp only [flds, List.mem_cons, List.not_mem_nil, or_false, Prod.mk.injEq] at h
  omega
theorem flds_inj {a n i a' n' i' : Nat} (h : (a, n, i) ∈ flds) (h' : (a', n', i') ∈ flds) (e : (kl a' n').sameKey (kl a n) = true ∨ i = i') : a = a' ∧ n = n' ∧ i = i' := by
  have hap := kl_apart
  simp only [apartB, List.all_cons, List.all_nil, Bool.and_true, Bool.and_eq_true, Bool.not_eq_true'] at hap
  simp only [flds, List.mem_cons, List.not_mem_nil, or_false, Prod.mk.injEq] at h h'
  rcases h with ⟨rfl, rfl, rfl⟩ | ⟨rfl, rfl, rfl⟩ | ⟨rfl, rfl, rfl⟩ | ⟨rfl, rfl, rfl⟩ | ⟨rfl, rfl, rfl⟩ <;> rcases h' with ⟨rfl, rfl, rfl⟩ | ⟨rfl, rfl, rfl⟩ | ⟨rfl, rfl, rfl⟩ | ⟨rfl, rfl, rfl⟩ | ⟨rfl, rfl, rfl⟩ <;> first | exact ⟨rfl, rfl, rfl⟩ | (exfalso; simp_all; done)
end Go.Proofs.YtpapbnmacjoihaaDoor
