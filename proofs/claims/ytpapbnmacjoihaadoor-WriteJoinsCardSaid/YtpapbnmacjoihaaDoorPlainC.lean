/- What is put is read again: numbers' fields, a header's block. -/
import Derived.Test.YtpapbnmacjoihaaDoorPlainB
namespace Go.Proofs.YtpapbnmacjoihaaDoor

theorem rdF_low (base : Nat) (hb : 2 ≤ base) (hb2 : base ≤ 256) (n : Nat) (hn : n ≤ 4611686018427387904) : ∀ m, rdF base (n / base ^ m) ((low base m n).map UInt8.ofNat) = (n, true)
  | 0 => by simp [low, rdF, hn]
  | m + 1 => by
    have ih := rdF_low base hb hb2 n hn m
    have hd : n / base ^ m % base < base := Nat.mod_lt _ (by omega)
    have hdn : (UInt8.ofNat (n / base ^ m % base)).toNat = n / base ^ m % base := by rw [UInt8.toNat_ofNat']; exact Nat.mod_eq_of_lt (by omega)
    have hq : n / base ^ (m + 1) = n / base ^ m / base := (low_step base n m).symm
    have hle : n / base ^ m ≤ 4611686018427387904 := Nat.le_trans (Nat.div_le_self _ _) hn
    have hle2 : n / base ^ m / base ≤ 4611686018427387904 / base := Nat.div_le_div_right hle
    rw [low, List.map_cons, rdF, hdn, hq, if_neg (by omega)]
    have e : n / base ^ m / base * base + n / base ^ m % base = n / base ^ m := Nat.div_add_mod' _ _
    rw [e]
    exact ih
theorem low_lt (base m n : Nat) (hb : 0 < base) : ∀ d ∈ low base m n, d < base := by
  induction m with
  | zero => intro d h; cases h
  | succ m ih =>
    intro d h
    rcases List.mem_cons.1 h with rfl | h
    · exact Nat.mod_lt _ hb
    · exact ih d h
theorem digit_range (d : Nat) (h : d < 8) : ((48 : UInt8) + UInt8.ofNat d).toNat = 48 + d := by
  rw [UInt8.toNat_add, UInt8.toNat_ofNat', show (48 : UInt8).toNat = 48 from rfl]; omega
theorem digit_ne {d : Nat} (h : d < 8) : ([32, 0] : List UInt8).contains ((48 : UInt8) + UInt8.ofNat d) = false ∧ ([32] : List UInt8).contains ((48 : UInt8) + UInt8.ofNat d) = false ∧ (48 : UInt8) + UInt8.ofNat d ≠ 128 ∧ (48 : UInt8) + UInt8.ofNat d - 48 = UInt8.ofNat d := by
  have hr := digit_range d h
  have n1 : (48 : UInt8) + UInt8.ofNat d ≠ 32 := fun e => by rw [e] at hr; have : (32 : UInt8).toNat = 32 := rfl; omega
  have n2 : (48 : UInt8) + UInt8.ofNat d ≠ 0 := fun e => by rw [e] at hr; have : (0 : UInt8).toNat = 0 := rfl; omega
  have n3 : (48 : UInt8) + UInt8.ofNat d ≠ 128 := fun e => by rw [e] at hr; have : (128 : UInt8).toNat = 128 := rfl; omega
  refine ⟨?_, ?_, n3, ?_⟩
  · simp [n1, n2]
  · simp [n1]
  · rw [UInt8.add_comm, UInt8.add_sub_cancel]
/-- digits and a tail of blanks and zeros. -/
theorem fieldS_digits (m n : Nat) (hm : 1 ≤ m) (hn : n ≤ 4611686018427387904) (h0 : n / 8 ^ m = 0) (t : List UInt8) (ht : ∀ x ∈ t, ([32, 0] : List UInt8).contains x = true) :
    fieldS (((low 8 m n).map fun d => (48 : UInt8) + UInt8.ofNat d) ++ t) = (n, true) := by
  have hrd := rdF_low 8 (by omega) (by omega) n hn m
  rw [h0] at hrd
  have hlt := low_lt 8 m n (by omega)
  have hlen := low_length 8 m n
  obtain ⟨ds, hds⟩ : ∃ ds, ds = low 8 m n := ⟨_, rfl⟩
  rw [← hds] at hrd hlt hlen ⊢
  rcases ds with _ | ⟨d, r⟩
  · simp at hlen; omega
  · have hd := digit_ne (hlt d List.mem_cons_self)
    have htl : Lib.trimLeftS (((d :: r).map fun d => (48 : UInt8) + UInt8.ofNat d) ++ t) [32] = ((d :: r).map fun d => (48 : UInt8) + UInt8.ofNat d) ++ t := by
      unfold Lib.trimLeftS
      rw [List.map_cons, List.cons_append, List.dropWhile_cons, if_neg (by rw [hd.2.1]; decide)]
    have htr : Lib.trimRightS (((d :: r).map fun d => (48 : UInt8) + UInt8.ofNat d) ++ t) [32, 0] = (d :: r).map fun d => (48 : UInt8) + UInt8.ofNat d := by
      unfold Lib.trimRightS
      rw [List.reverse_append]
      have h1 : ∀ (a b : List UInt8), (∀ x ∈ a, ([32, 0] : List UInt8).contains x = true) → (a ++ b).dropWhile (([32, 0] : List UInt8).contains ·) = b.dropWhile (([32, 0] : List UInt8).contains ·) := by
        intro a b ha
        induction a with
        | nil => rfl
        | cons x a ih =>
          rw [List.cons_append, List.dropWhile_cons, if_pos (ha x List.mem_cons_self)]
          exact ih fun y hy => ha y (List.mem_cons_of_mem _ hy)
      rw [h1 _ _ (fun x hx => ht x (by simpa using hx))]
      obtain ⟨y, z, hyz⟩ : ∃ y z, ((d :: r).map fun d => (48 : UInt8) + UInt8.ofNat d).reverse = y :: z := by
        cases hc : ((d :: r).map fun d => (48 : UInt8) + UInt8.ofNat d).reverse with
        | nil => simp at hc
        | cons y z => exact ⟨y, z, rfl⟩
      have hy : y ∈ ((d :: r).map fun d => (48 : UInt8) + UInt8.ofNat d) := by
        have : y ∈ ((d :: r).map fun d => (48 : UInt8) + UInt8.ofNat d).reverse := by rw [hyz]; exact List.mem_cons_self
        exact List.mem_reverse.1 this
      obtain ⟨d', hd', rfl⟩ := List.mem_map.1 hy
      rw [hyz, List.dropWhile_cons, if_neg (by rw [(digit_ne (hlt d' hd')).1]; decide), ← hyz, List.reverse_reverse]
    rw [fieldS_oct (by simp) (by rw [List.map_cons, List.cons_append]; exact hd.2.2.1)]
    unfold trimF
    rw [htl, htr, List.map_map]
    have e : ((fun x : UInt8 => x - 48) ∘ fun d : Nat => (48 : UInt8) + UInt8.ofNat d) = fun d : Nat => (48 : UInt8) + UInt8.ofNat d - 48 := rfl
    rw [e, List.map_congr_left (g := UInt8.ofNat) (fun d' hd' => (digit_ne (hlt d' hd')).2.2.2), hrd]
    rfl
theorem fieldS_octD (wide n : Nat) (hw : 2 ≤ wide) (hn : n ≤ 4611686018427387904) (h0 : n / 8 ^ (wide - 1) = 0) : fieldS (octD wide n) = (n, true) :=
  fieldS_digits (wide - 1) n (by omega) hn h0 [0] (by intro x hx; simp at hx; subst hx; decide)
theorem fieldS_binD (wide n : Nat) (hn : n ≤ 4611686018427387904) (h0 : n / 256 ^ (wide - 1) = 0) : fieldS (binD wide n) = (n, true) := by
  rw [fieldS_bin (by simp [binD]) (by simp [binD])]
  have hrd := rdF_low 256 (by omega) (by omega) n hn (wide - 1)
  rw [h0] at hrd
  have e : (binD wide n).drop 1 = (low 256 (wide - 1) n).map UInt8.ofNat := by
    unfold binD
    rw [List.drop_one, List.tail_cons]
    refine List.map_congr_left fun d _ => ?_
    exact UInt8.zero_add _
  rw [e, hrd]
  rfl
theorem putS_field {n : Int} {wide : Nat} (hw : 2 ≤ wide) {D : List UInt8} (h : putS n wide = some D) : ∃ m : Nat, n = (m : Int) ∧ fieldS D = (m, true) := by
  unfold putS at h
  split at h
  · rename_i hr
    refine ⟨n.toNat, by omega, ?_⟩
    split at h
    · rename_i h0; cases h; exact fieldS_octD wide _ hw (by omega) h0
    · split at h
      · rename_i h0; cases h; exact fieldS_binD wide _ (by omega) h0
      · cases h
  · cases h

/-! ### a block as a list of fields -/
def layL (T : List (Nat × List UInt8)) (L : List UInt8) : List UInt8 := T.foldl (fun b e => lay b e.1 e.2) L
def fitL (n : Nat) (T : List (Nat × List UInt8)) : Prop := ∀ e ∈ T, e.1 + e.2.length ≤ n
theorem layL_length : ∀ (T : List (Nat × List UInt8)) (L : List UInt8), fitL L.length T → (layL T L).length = L.length
  | [], _, _ => rfl
  | e :: T, L, h => by
    have h1 := h e List.mem_cons_self
    have hl := lay_length h1
    show (layL T (lay L e.1 e.2)).length = L.length
    rw [layL_length T _ (by rw [hl]; exact fun x hx => h x (List.mem_cons_of_mem _ hx)), hl]
theorem fld_out {L D : List UInt8} {a a' n' : Nat} (h : a + D.length ≤ L.length) (hd : a + D.length ≤ a' ∨ a' + n' ≤ a) : fld (lay L a D) a' n' = fld L a' n' := by
  unfold fld
  apply List.ext_getElem?
  intro i
  rw [List.getElem?_take, List.getElem?_take]
  split
  · rw [List.getElem?_drop, List.getElem?_drop, lay_at h]
    by_cases c1 : a' + i < a
    · rw [if_pos c1]
    · rw [if_neg c1, if_neg (by omega)]
  · rfl
theorem fld_in {L D : List UInt8} {a n : Nat} (h : a + n ≤ L.length) (hD : D.length ≤ n) : fld (lay L a D) a n = D ++ fld L (a + D.length) (n - D.length) := by
  unfold fld
  apply List.ext_getElem?
  intro i
  rw [List.getElem?_take, List.getElem?_append]
  by_cases c1 : i < D.length
  · rw [if_pos c1, if_pos (by omega), List.getElem?_drop, lay_at (by omega), if_neg (by omega), if_pos (by omega)]
    congr 1
    omega
  · rw [if_neg c1, List.getElem?_take]
    by_cases c2 : i < n
    · rw [if_pos c2, if_pos (by omega), List.getElem?_drop, List.getElem?_drop, lay_at (by omega), if_neg (by omega), if_neg (by omega)]
      congr 1
      omega
    · rw [if_neg c2, if_neg (by omega)]
def outL (a n : Nat) (T : List (Nat × List UInt8)) : Prop := ∀ e ∈ T, e.1 + e.2.length ≤ a ∨ a + n ≤ e.1
theorem fld_layL_out : ∀ (T : List (Nat × List UInt8)) (L : List UInt8) (a n : Nat), fitL L.length T → outL a n T → fld (layL T L) a n = fld L a n
  | [], _, _, _, _, _ => rfl
  | e :: T, L, a, n, h, ho => by
    have h1 := h e List.mem_cons_self
    show fld (layL T (lay L e.1 e.2)) a n = _
    rw [fld_layL_out T _ a n (by rw [lay_length h1]; exact fun x hx => h x (List.mem_cons_of_mem _ hx)) (fun x hx => ho x (List.mem_cons_of_mem _ hx)), fld_out h1 (ho e List.mem_cons_self)]
theorem fld_layL_in (T1 T2 : List (Nat × List UInt8)) (L : List UInt8) (a n : Nat) (D : List UInt8) (h : fitL L.length (T1 ++ (a, D) :: T2)) (hn : a + n ≤ L.length) (hD : D.length ≤ n) (ho1 : outL a n T1) (ho2 : outL a n T2) :
    fld (layL (T1 ++ (a, D) :: T2) L) a n = D ++ fld L (a + D.length) (n - D.length) := by
  have e : layL (T1 ++ (a, D) :: T2) L = layL T2 (lay (layL T1 L) a D) := by unfold layL; rw [List.foldl_append]; rfl
  have f1 : fitL L.length T1 := fun x hx => h x (List.mem_append_left _ hx)
  have l1 := layL_length T1 L f1
  have hf : a + D.length ≤ L.length := by omega
  rw [e, fld_layL_out T2 _ a n (by rw [lay_length (by rw [l1]; exact hf), l1]; exact fun x hx => h x (List.mem_append_right _ (List.mem_cons_of_mem _ hx))) ho2,
    fld_in (by rw [l1]; exact hn) hD, fld_layL_out T1 L _ _ f1]
  intro x hx
  have := ho1 x hx
  omega
theorem fld_zero (n a k : Nat) (h : a + k ≤ n) : fld (List.replicate n 0) a k = List.replicate k 0 := by
  unfold fld
  rw [List.drop_replicate, List.take_replicate]
  congr 1
  omega
theorem set_lay {L : List UInt8} {i : Nat} {x : UInt8} (h : i < L.length) : L.set i x = lay L i [x] := by
  apply List.ext_getElem?
  intro j
  rw [lay_at (by simp; omega), List.getElem?_set]
  simp only [List.length_singleton]
  by_cases c1 : i = j
  · subst c1
    rw [if_pos rfl, if_pos h, if_neg (by omega), if_pos (by omega), Nat.sub_self]
    rfl
  · rw [if_neg c1]
    by_cases c2 : j < i
    · rw [if_pos c2]
    · rw [if_neg c2, if_neg (by omega)]
theorem untilS_zeros {l : List UInt8} (h : (0 : UInt8) ∉ l) (k : Nat) : untilS (l ++ List.replicate k 0) = l := by
  unfold untilS
  cases k with
  | zero => rw [List.replicate_zero, List.append_nil, cut1_id h]
  | succ k => rw [List.replicate_succ, cut1_app h]
end Go.Proofs.YtpapbnmacjoihaaDoor
