/- Fields laid into a block in whatever order; a header's block. -/
import Derived.Test.YtpapbnmacjoihaaDoorHeadH
namespace Go.Proofs.YtpapbnmacjoihaaDoor

theorem lay_at {L : List UInt8} {a : Nat} {D : List UInt8} (h : a + D.length ≤ L.length) (i : Nat) : (lay L a D)[i]? = if i < a then L[i]? else if i < a + D.length then D[i - a]? else L[i]? := by
  unfold lay
  rw [List.append_assoc, List.getElem?_append]
  simp only [List.length_take, Nat.min_eq_left (show a ≤ L.length by omega)]
  by_cases h1 : i < a
  · rw [if_pos h1, if_pos h1, List.getElem?_take, if_pos h1]
  · rw [if_neg h1, if_neg h1, List.getElem?_append]
    by_cases h2 : i < a + D.length
    · rw [if_pos (by omega), if_pos h2]
    · rw [if_neg (by omega), if_neg h2, List.getElem?_drop]
      congr 1
      omega
def disj (a : Nat) (D : List UInt8) (a' : Nat) (D' : List UInt8) : Prop := a + D.length ≤ a' ∨ a' + D'.length ≤ a
theorem lay_comm {L : List UInt8} {a a' : Nat} {D D' : List UInt8} (h : a + D.length ≤ L.length) (h' : a' + D'.length ≤ L.length) (hd : disj a D a' D') : lay (lay L a D) a' D' = lay (lay L a' D') a D := by
  apply List.ext_getElem?
  intro i
  rw [lay_at (L := lay L a D) (by rw [lay_length h]; exact h'), lay_at h, lay_at (L := lay L a' D') (by rw [lay_length h']; exact h), lay_at h']
  unfold disj at hd
  by_cases c1 : i < a <;> by_cases c2 : i < a + D.length <;> by_cases c3 : i < a' <;> by_cases c4 : i < a' + D'.length <;> simp only [c1, c2, c3, c4, if_true, if_false] <;> omega
abbrev Fd := Lit × Nat × List UInt8
def layF : List Fd → (Lit → Bool) → List UInt8 → List UInt8
  | [], _, b => b
  | (k, a, D) :: T, left, b => layF T left (if left k then b else lay b a D)
def fitF (n : Nat) (T : List Fd) : Prop := ∀ e ∈ T, e.2.1 + e.2.2.length ≤ n
def apartF (T : List Fd) : Prop := T.Pairwise fun x y => x.1.sameKey y.1 = false ∧ y.1.sameKey x.1 = false ∧ disj x.2.1 x.2.2 y.2.1 y.2.2
theorem layF_length : ∀ (T : List Fd) (left : Lit → Bool) (b : List UInt8), fitF b.length T → (layF T left b).length = b.length
  | [], _, _, _ => rfl
  | (k, a, D) :: T, left, b, h => by
    have h1 := h _ List.mem_cons_self
    have hl : (if left k then b else lay b a D).length = b.length := by
      split
      · rfl
      · exact lay_length h1
    rw [layF, layF_length T left _ (by rw [hl]; exact fun e he => h e (List.mem_cons_of_mem _ he)), hl]
theorem layF_comm : ∀ (T : List Fd) (left : Lit → Bool) (b : List UInt8) (a : Nat) (D : List UInt8), fitF b.length T → a + D.length ≤ b.length → (∀ e ∈ T, disj a D e.2.1 e.2.2) → lay (layF T left b) a D = layF T left (lay b a D)
  | [], _, _, _, _, _, _, _ => rfl
  | (k, a0, D0) :: T, left, b, a, D, h, hf, hd => by
    have h1 := h _ List.mem_cons_self
    rw [layF, layF]
    have hd0 := hd _ List.mem_cons_self
    by_cases hk : left k = true
    · rw [if_pos hk, if_pos hk]
      exact layF_comm T left b a D (fun e he => h e (List.mem_cons_of_mem _ he)) hf (fun e he => hd e (List.mem_cons_of_mem _ he))
    · rw [if_neg hk, if_neg hk, layF_comm T left _ a D (by rw [lay_length h1]; exact fun e he => h e (List.mem_cons_of_mem _ he)) (by rw [lay_length h1]; exact hf) (fun e he => hd e (List.mem_cons_of_mem _ he))]
      rw [lay_comm h1 hf (by unfold disj at hd0 ⊢; omega)]
theorem layF_keep : ∀ (T : List Fd) (left : Lit → Bool) (b : List UInt8) (k : Lit), (∀ e ∈ T, e.1.sameKey k = false) → layF T (fun x => left x && !x.sameKey k) b = layF T left b
  | [], _, _, _, _ => rfl
  | (k0, a, D) :: T, left, b, k, h => by
    rw [layF, layF, layF_keep T left _ k (fun e he => h e (List.mem_cons_of_mem _ he))]
    have := h _ List.mem_cons_self
    simp only at this
    rw [this]
    simp
theorem layF_put : ∀ (T : List Fd) (left : Lit → Bool) (b : List UInt8) (k : Lit) (a : Nat) (D : List UInt8), apartF T → fitF b.length T → (k, a, D) ∈ T → left k = true → WideAt.IsKeyLit k →
    lay (layF T left b) a D = layF T (fun x => left x && !x.sameKey k) b
  | [], _, _, _, _, _, _, _, h, _, _ => by cases h
  | (k0, a0, D0) :: T, left, b, k, a, D, ha, hf, hm, hl, hk => by
    obtain ⟨ha1, ha2⟩ := List.pairwise_cons.1 ha
    have h1 := hf _ List.mem_cons_self
    rw [layF, layF]
    rcases List.mem_cons.1 hm with e | hm'
    · cases e
      rw [if_pos hl, layF_keep T left _ _ (fun e he => (ha1 e he).2.1)]
      rw [if_neg (by simp [hl, WideAt.sameKey_self hk])]
      exact layF_comm T left b _ _ (fun e he => hf e (List.mem_cons_of_mem _ he)) h1 (fun e he => (ha1 e he).2.2)
    · have hne := (ha1 _ hm').1
      simp only at hne
      have hbl : (if left k0 then b else lay b a0 D0).length = b.length := by
        split
        · rfl
        · exact lay_length h1
      rw [layF_put T left _ k a D ha2 (by rw [hbl]; exact fun e he => hf e (List.mem_cons_of_mem _ he)) hm' hl hk, hne]
      simp
theorem layF_none : ∀ (T : List Fd) (left : Lit → Bool) (b : List UInt8), (∀ e ∈ T, left e.1 = true) → layF T left b = b
  | [], _, _, _ => rfl
  | (k, a, D) :: T, left, b, h => by
    have := h _ List.mem_cons_self
    simp only at this
    rw [layF, if_pos this]
    exact layF_none T left b (fun e he => h e (List.mem_cons_of_mem _ he))
theorem layF_all : ∀ (T : List Fd) (left : Lit → Bool) (b : List UInt8), (∀ e ∈ T, left e.1 = false) → layF T left b = layF T (fun _ => false) b
  | [], _, _, _ => rfl
  | (k, a, D) :: T, left, b, h => by
    have := h _ List.mem_cons_self
    simp only at this
    rw [layF, layF, this]
    exact layF_all T left _ (fun e he => h e (List.mem_cons_of_mem _ he))

/-! ### a header's block -/
def numD (h : Hd) (i : Nat) : Int := match i with | 3 => h.mode | 4 => h.uid | 5 => h.gid | 6 => h.time | _ => h.size
def putD (h : Hd) (e : Nat × Nat × Nat) : List UInt8 := (putS (numD h e.2.2) e.2.1).getD []
def numsT (h : Hd) : List Fd := flds.map fun e => (kl e.1 e.2.1, e.1, putD h e)
def textT (h : Hd) (p rest : List UInt8) : List Fd := [(kl 0 100, 0, rest), (kl 345 155, 345, p), (kl 157 100, 157, h.link), (kl 257 8, 257, posixL)]
def numsFit (h : Hd) : Bool := flds.all fun e => (putS (numD h e.2.2) e.2.1).isSome
/-- all but the sum. -/
def blockA (h : Hd) (p rest : List UInt8) : List UInt8 := (layF (textT h p rest) (fun _ => false) (layF (numsT h) (fun _ => false) (List.replicate 512 0))).set 156 h.kind
def blockS (h : Hd) (p rest : List UInt8) : List UInt8 := (lay (blockA h p rest) 148 (octD 7 (sumS (blockA h p rest)))).set 155 32
def putHeadS (h : Hd) : Option (List UInt8) :=
  match cutS h.name with
  | none => none
  | some (p, rest) => if h.gnu = false ∧ h.kind ≠ 0 ∧ h.link.length ≤ 100 ∧ (0 : UInt8) ∉ h.name ++ h.link ∧ numsFit h = true then some (blockS h p rest) else none
theorem putD_length (h : Hd) {e : Nat × Nat × Nat} (he : e ∈ flds) : (putD h e).length ≤ e.2.1 := by
  have hb := flds_bd (a := e.1) (n := e.2.1) (i := e.2.2) he
  unfold putD
  cases hp : putS (numD h e.2.2) e.2.1 with
  | none => simp
  | some D => rw [Option.getD_some, putS_length (by omega) hp]; exact Nat.le_refl _
theorem numsT_fit (h : Hd) : fitF 512 (numsT h) := by
  intro e he
  obtain ⟨x, hx, rfl⟩ := List.mem_map.1 he
  have hb := flds_bd (a := x.1) (n := x.2.1) (i := x.2.2) hx
  have := putD_length h hx
  simp only
  omega
theorem textT_fit (h : Hd) {p rest : List UInt8} (hp : p.length ≤ 155) (hr : rest.length ≤ 100) (hl : h.link.length ≤ 100) : fitF 512 (textT h p rest) := by
  intro e he
  simp only [textT, List.mem_cons, List.not_mem_nil, or_false] at he
  rcases he with rfl | rfl | rfl | rfl <;> simp only
  · omega
  · omega
  · omega
  · decide
theorem textkl_apart : apartB [kl 0 100, kl 345 155, kl 157 100, kl 257 8] = true := by decide +kernel
theorem numsT_apart (h : Hd) : apartF (numsT h) := by
  have hap := kl_apart
  simp only [apartB, List.all_cons, List.all_nil, Bool.and_true, Bool.and_eq_true, Bool.not_eq_true'] at hap
  have l1 := putD_length h (e := (100, 8, 3)) (by simp [flds])
  have l2 := putD_length h (e := (108, 8, 4)) (by simp [flds])
  have l3 := putD_length h (e := (116, 8, 5)) (by simp [flds])
  have l4 := putD_length h (e := (136, 12, 6)) (by simp [flds])
  have l5 := putD_length h (e := (124, 12, 7)) (by simp [flds])
  simp only at l1 l2 l3 l4 l5
  simp only [apartF, numsT, flds, List.map_cons, List.map_nil, List.pairwise_cons, List.mem_cons, List.not_mem_nil, or_false, forall_eq_or_imp, forall_eq, List.Pairwise.nil, disj]
  simp only [hap, and_true, true_and, false_imp_iff, implies_true]
  omega
theorem textT_apart (h : Hd) {p rest : List UInt8} (hp : p.length ≤ 155) (hr : rest.length ≤ 100) (hl : h.link.length ≤ 100) : apartF (textT h p rest) := by
  have hap := textkl_apart
  simp only [apartB, List.all_cons, List.all_nil, Bool.and_true, Bool.and_eq_true, Bool.not_eq_true'] at hap
  have lp : posixL.length = 8 := rfl
  simp only [apartF, textT, List.pairwise_cons, List.mem_cons, List.not_mem_nil, or_false, forall_eq_or_imp, forall_eq, List.Pairwise.nil, disj]
  simp only [hap, and_true, true_and, false_imp_iff, implies_true]
  omega
theorem layN_length (h : Hd) (left : Lit → Bool) : (layF (numsT h) left (List.replicate 512 0)).length = 512 := by
  rw [layF_length _ _ _ (by rw [List.length_replicate]; exact numsT_fit h), List.length_replicate]
theorem layT_length (h : Hd) {p rest : List UInt8} (hp : p.length ≤ 155) (hr : rest.length ≤ 100) (hl : h.link.length ≤ 100) (left : Lit → Bool) :
    (layF (textT h p rest) left (layF (numsT h) (fun _ => false) (List.replicate 512 0))).length = 512 := by
  rw [layF_length _ _ _ (by rw [layN_length]; exact textT_fit h hp hr hl), layN_length]
theorem blockA_length (h : Hd) {p rest : List UInt8} (hp : p.length ≤ 155) (hr : rest.length ≤ 100) (hl : h.link.length ≤ 100) : (blockA h p rest).length = 512 := by
  unfold blockA; rw [List.length_set, layT_length h hp hr hl]
theorem cutS_len {l p rest : List UInt8} (h : cutS l = some (p, rest)) : p.length ≤ 155 ∧ rest.length ≤ 100 := by
  unfold cutS at h
  split at h
  · cases h; rename_i h'; simp; exact h'
  · obtain ⟨k, hk, e⟩ := Option.map_eq_some_iff.1 h
    cases e
    unfold firstOk at hk
    rw [List.find?_range_eq_some] at hk
    have := hk.1
    simp only [okCut, Bool.and_eq_true, decide_eq_true_eq] at this
    simp only [List.length_take, List.length_drop]
    omega
theorem sumS_le (l : List UInt8) : sumS l ≤ 256 + 255 * l.length := sumF_le l 256 0
theorem sum_put {l : List UInt8} (h : l.length = 512) : putS (sumS l : Int) 7 = some (octD 7 (sumS l)) := by
  have := sumS_le l
  unfold putS
  rw [if_pos ⟨by omega, by omega⟩, if_pos (by simp only [Int.toNat_natCast]; exact Nat.div_eq_of_lt (by rw [h] at this; omega))]
  rfl
end Go.Proofs.YtpapbnmacjoihaaDoor
