/- Paths, plain: the parts of a text, a path as it should be. No program in it. -/
import Derived.Lib.ValidLaws
import Derived.Lib.Join
import Derived.Lib.IndexLaws
namespace Go.Proofs.YtpapbnmacjoihaaDoor

/-- What stands between the bytes c. -/
def splitB (c : UInt8) : List UInt8 → List (List UInt8)
  | [] => [[]]
  | x :: l => if x = c then [] :: splitB c l else match splitB c l with
    | [] => [[x]]
    | p :: ps => (x :: p) :: ps
theorem splitB_no {c : UInt8} : ∀ {l : List UInt8}, c ∉ l → splitB c l = [l]
  | [], _ => rfl
  | x :: l, h => by
    have h1 : x ≠ c := fun e => h (e ▸ List.mem_cons_self)
    rw [splitB, if_neg h1, splitB_no (fun h' => h (List.mem_cons_of_mem _ h'))]
theorem splitB_app {c : UInt8} : ∀ {a b : List UInt8}, c ∉ a → splitB c (a ++ c :: b) = a :: splitB c b
  | [], b, _ => by rw [List.nil_append, splitB, if_pos rfl]
  | x :: a, b, h => by
    have h1 : x ≠ c := fun e => h (e ▸ List.mem_cons_self)
    rw [List.cons_append, splitB, if_neg h1, splitB_app (fun h' => h (List.mem_cons_of_mem _ h'))]
theorem splitB_mem_len {c : UInt8} : ∀ {l p : List UInt8}, p ∈ splitB c l → p.length ≤ l.length
  | [], p, h => by
    rw [splitB, List.mem_singleton] at h
    subst h; simp
  | x :: l, p, h => by
    rw [splitB] at h
    by_cases e : x = c
    · rw [if_pos e] at h
      rcases List.mem_cons.1 h with rfl | h'
      · simp
      · have := splitB_mem_len h'
        rw [List.length_cons]; omega
    · rw [if_neg e] at h
      cases hs : splitB c l with
      | nil => rw [hs] at h; simp only [List.mem_singleton] at h; subst h; simp
      | cons q qs =>
        rw [hs] at h
        simp only at h
        rcases List.mem_cons.1 h with rfl | h'
        · have := splitB_mem_len (c := c) (l := l) (p := q) (by rw [hs]; simp)
          simp only [List.length_cons]; omega
        · have := splitB_mem_len (c := c) (l := l) (p := p) (by rw [hs]; simp [h'])
          rw [List.length_cons]; omega
/-- the sum of all parts' lengths and of the bytes between them. -/
theorem splitB_sum {c : UInt8} : ∀ (l : List UInt8), Lib.lens (splitB c l) + (splitB c l).length = l.length + 1
  | [] => rfl
  | x :: l => by
    have ih := splitB_sum (c := c) l
    rw [splitB]
    by_cases e : x = c
    · rw [if_pos e]
      simp only [Lib.lens, List.map_cons, List.sum_cons, List.length_cons, List.length_nil] at ih ⊢
      omega
    · rw [if_neg e]
      cases hs : splitB c l with
      | nil =>
        rw [hs] at ih
        simp [Lib.lens] at ih
      | cons q qs =>
        rw [hs] at ih
        simp only [Lib.lens, List.map_cons, List.sum_cons, List.length_cons] at ih ⊢
        omega
def keepB (p : List UInt8) : Bool := p != [] && p != [46]
def textS (l : List UInt8) : Bool := Lib.validD l && !l.contains 0
/-- a path as it should be, and an error's number. -/
def cleanS (l : List UInt8) : List UInt8 × Nat :=
  if textS l = false then ([], 9)
  else if l.getD 0 0 = 47 ∨ [46, 46] ∈ splitB 47 l then ([], 6)
  else if Lib.join ((splitB 47 l).filter keepB) [47] = [] ∨ 200 < (Lib.join ((splitB 47 l).filter keepB) [47]).length then ([], 6)
  else (Lib.join ((splitB 47 l).filter keepB) [47], 0)
/-- a symbolic link's target: an error's number. -/
def targetS (l : List UInt8) : Nat := if textS l = false then 9 else if l = [] ∨ 200 < l.length then 6 else 0
theorem join_snoc (xs : List (List UInt8)) (p sep : List UInt8) : Lib.join (xs ++ [p]) sep = if xs = [] then p else Lib.join xs sep ++ sep ++ p := by
  cases xs with
  | nil => rw [List.nil_append, Lib.join_one, if_pos rfl]
  | cons x r =>
    rw [if_neg (by simp), List.cons_append, Lib.join_cons, Lib.join_cons]
    unfold Lib.joinTail
    rw [List.map_append, List.flatten_append]
    simp [List.append_assoc]
theorem join_ne {xs : List (List UInt8)} {sep : List UInt8} (h : ∀ p ∈ xs, p ≠ []) (hx : xs ≠ []) : Lib.join xs sep ≠ [] := by
  cases xs with
  | nil => exact absurd rfl hx
  | cons x r =>
    rw [Lib.join_cons]
    intro e
    exact h x List.mem_cons_self (List.append_eq_nil_iff.1 e).1
theorem lens_filter (f : List UInt8 → Bool) : ∀ (xs : List (List UInt8)), Lib.lens (xs.filter f) ≤ Lib.lens xs ∧ (xs.filter f).length ≤ xs.length
  | [] => ⟨Nat.le_refl _, Nat.le_refl _⟩
  | x :: r => by
    have ih := lens_filter f r
    rw [List.filter_cons]
    split
    · simp only [Lib.lens, List.map_cons, List.sum_cons, List.length_cons] at ih ⊢
      omega
    · simp only [Lib.lens, List.map_cons, List.sum_cons, List.length_cons] at ih ⊢
      omega
theorem join_len (xs : List (List UInt8)) : (Lib.join xs [47]).length ≤ Lib.lens xs + xs.length := by
  cases xs with
  | nil => rw [Lib.join_nil]; simp
  | cons x r =>
    rw [Lib.join_length]
    simp only [List.length_cons, List.length_nil]
    omega
theorem clean_len (l : List UInt8) : (Lib.join ((splitB 47 l).filter keepB) [47]).length ≤ l.length + 1 := by
  have h1 := join_len ((splitB 47 l).filter keepB)
  have h2 := lens_filter keepB (splitB 47 l)
  have h3 := splitB_sum (c := 47) l
  omega
theorem cleanS_len (l : List UInt8) : (cleanS l).1.length ≤ 200 := by
  unfold cleanS
  split
  · simp
  · split
    · simp
    · split
      · simp
      · rename_i h
        simp only
        omega
end Go.Proofs.YtpapbnmacjoihaaDoor
