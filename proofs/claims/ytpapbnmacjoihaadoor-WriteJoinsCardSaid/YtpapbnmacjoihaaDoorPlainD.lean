/- A header's block is read as the header; what a turned byte does. -/
import Derived.Test.YtpapbnmacjoihaaDoorPlainC
import Derived.Test.YtpapbnmacjoihaaDoorHeadB
namespace Go.Proofs.YtpapbnmacjoihaaDoor

theorem sumF_congr : ∀ (l l' : List UInt8) (n k : Nat), l.length = l'.length → (∀ i, (k + i < 148 ∨ 156 ≤ k + i) → l[i]? = l'[i]?) → sumF n k l = sumF n k l'
  | [], [], _, _, _, _ => rfl
  | [], _ :: _, _, _, h, _ => by simp at h
  | _ :: _, [], _, _, h, _ => by simp at h
  | x :: l, y :: l', n, k, h, hi => by
    have ih := fun m => sumF_congr l l' m (k + 1) (by simpa using h) (fun i hk => by have := hi (i + 1) (by omega); simpa using this)
    simp only [sumF]
    by_cases c : k < 148 ∨ 156 ≤ k
    · have := hi 0 (by simpa using c)
      simp only [List.getElem?_cons_zero, Option.some.injEq] at this
      rw [if_pos c, if_pos c, this, ih]
    · rw [if_neg c, if_neg c, ih]
theorem sumS_lay {L D : List UInt8} {a : Nat} (h : a + D.length ≤ L.length) (h1 : 148 ≤ a) (h2 : a + D.length ≤ 156) : sumS (lay L a D) = sumS L := by
  unfold sumS
  refine sumF_congr _ _ _ _ (lay_length h) fun i hi => ?_
  rw [lay_at h]
  by_cases c1 : i < a
  · rw [if_pos c1]
  · rw [if_neg c1, if_neg (by omega)]
theorem sumF_set : ∀ (l : List UInt8) (n k i : Nat) (x y : UInt8), l[i]? = some x → (k + i < 148 ∨ 156 ≤ k + i) → sumF n k (l.set i y) + x.toNat = sumF n k l + y.toNat
  | [], _, _, _, _, _, h, _ => by simp at h
  | z :: l, n, k, 0, x, y, h, hi => by
    simp at h
    subst h
    have e : ∀ (l : List UInt8) (n k m : Nat), sumF (n + m) k l = sumF n k l + m := by
      intro l
      induction l with
      | nil => intro n k m; rfl
      | cons c r ih =>
        intro n k m
        simp only [sumF]
        split
        · rw [show n + m + c.toNat = (n + c.toNat) + m from by omega, ih]
        · exact ih _ _ _
    simp only [List.set_cons_zero, sumF]
    rw [if_pos (by simpa using hi), if_pos (by simpa using hi), e, e]
    omega
  | z :: l, n, k, i + 1, x, y, h, hi => by
    simp only [List.set_cons_succ, sumF]
    exact sumF_set l _ (k + 1) i x y (by simpa using h) (by omega)

/-- A block that says the header h, but for its sum. -/
structure GoodB (h : Hd) (p rest B : List UInt8) : Prop where
  len : B.length = 512
  name : ∃ k, fld B 0 100 = rest ++ List.replicate k 0
  ahead : ∃ k, fld B 345 155 = p ++ List.replicate k 0
  link : ∃ k, fld B 157 100 = h.link ++ List.replicate k 0
  magic : fld B 257 8 = posixL
  kind : fld B 156 1 = [h.kind]
  nums : ∀ a n i, (a, n, i) ∈ flds → ∃ m : Nat, numD h i = (m : Int) ∧ fieldS (fld B a n) = (m, true)
/-- What lies outside all the fields that are read, or in the sum's. -/
def freeAt (a n : Nat) : Prop := (148 ≤ a ∧ a + n ≤ 156) ∨ (265 ≤ a ∧ a + n ≤ 345) ∨ (500 ≤ a ∧ a + n ≤ 512)
theorem GoodB.lay {h : Hd} {p rest B : List UInt8} (hG : GoodB h p rest B) {a : Nat} {D : List UInt8} (hf : freeAt a D.length) : GoodB h p rest (lay B a D) := by
  unfold freeAt at hf
  have hl := hG.len
  have hfit : a + D.length ≤ B.length := by omega
  refine ⟨by rw [lay_length hfit, hl], ?_, ?_, ?_, ?_, ?_, ?_⟩
  · rw [fld_out hfit (by omega)]; exact hG.name
  · rw [fld_out hfit (by omega)]; exact hG.ahead
  · rw [fld_out hfit (by omega)]; exact hG.link
  · rw [fld_out hfit (by omega)]; exact hG.magic
  · rw [fld_out hfit (by omega)]; exact hG.kind
  · intro a' n' i hm
    rw [fld_out hfit ?_]
    · exact hG.nums a' n' i hm
    · simp only [flds, List.mem_cons, List.not_mem_nil, or_false, Prod.mk.injEq] at hm
      omega
theorem getD_fld {B : List UInt8} {a : Nat} {x : UInt8} (h : fld B a 1 = [x]) : B.getD a 0 = x := by
  unfold fld at h
  have := congrArg (·[0]?) h
  simp only [List.getElem?_take, List.getElem?_drop, Nat.lt_irrefl, if_true, List.getElem?_cons_zero, Nat.add_zero, Nat.zero_lt_one] at this
  rw [List.getD_eq_getElem?_getD, this]
  rfl
theorem parse_good {h : Hd} {p rest B : List UInt8} (hG : GoodB h p rest B) (hc : cutS h.name = some (p, rest)) (h1 : h.gnu = false) (h2 : h.kind ≠ 0) (h4 : (0 : UInt8) ∉ h.name ++ h.link)
    (hs : fieldS (fld B 148 8) = (sumS B, true)) : parseS B = (h, 0) := by
  have hn0 : (0 : UInt8) ∉ h.name := fun e => h4 (List.mem_append_left _ e)
  have hk0 : (0 : UInt8) ∉ h.link := fun e => h4 (List.mem_append_right _ e)
  have hmake : (if p ≠ [] then p ++ [47] ++ rest else rest) = h.name := by
    unfold cutS at hc
    split at hc
    · cases hc; rfl
    · obtain ⟨k, hk, e⟩ := Option.map_eq_some_iff.1 hc
      cases e
      unfold firstOk at hk
      rw [List.find?_range_eq_some] at hk
      obtain ⟨ho, hkl, _⟩ := hk
      simp only [okCut, Bool.and_eq_true, decide_eq_true_eq] at ho
      have hkl' : k < h.name.length := by simpa using hkl
      rw [if_pos]
      · have hg : h.name[k] = 47 := by have := ho.1; simpa [List.getD_eq_getElem?_getD, hkl'] using this
        rw [← hg, ← List.take_succ_eq_append_getElem hkl', List.take_append_drop]
      · intro e
        have := congrArg List.length e
        rw [List.length_take, List.length_nil] at this
        omega
  have hp0 : (0 : UInt8) ∉ p := fun e => hn0 (by
    rw [← hmake, if_pos (by intro e'; rw [e'] at e; cases e)]
    simp [e])
  have hr0 : (0 : UInt8) ∉ rest := fun e => hn0 (by
    rw [← hmake]
    split
    · simp [e]
    · exact e)
  obtain ⟨k1, e1⟩ := hG.name
  obtain ⟨k2, e2⟩ := hG.ahead
  obtain ⟨k3, e3⟩ := hG.link
  have u1 : untilS (fld B 0 100) = rest := by rw [e1, untilS_zeros hr0]
  have u2 : untilS (fld B 345 155) = p := by rw [e2, untilS_zeros hp0]
  have u3 : untilS (fld B 157 100) = h.link := by rw [e3, untilS_zeros hk0]
  have hok : numOk B = true := (numOk_iff B).2 fun a n i hm => by obtain ⟨m, _, h2⟩ := hG.nums a n i hm; rw [h2]
  obtain ⟨m1, a1, b1⟩ := hG.nums 100 8 3 (by simp [flds])
  obtain ⟨m2, a2, b2⟩ := hG.nums 108 8 4 (by simp [flds])
  obtain ⟨m3, a3, b3⟩ := hG.nums 116 8 5 (by simp [flds])
  obtain ⟨m4, a4, b4⟩ := hG.nums 136 12 6 (by simp [flds])
  obtain ⟨m5, a5, b5⟩ := hG.nums 124 12 7 (by simp [flds])
  have hkd := getD_fld hG.kind
  have hHead : headS B = h := by
    unfold headS nameS kindS
    rw [u1, u2, u3, hG.magic, hkd, b1, b2, b3, b4, b5, if_neg h2]
    have hname : (if posixL = posixL ∧ p ≠ [] then p ++ [47] ++ rest else rest) = h.name := by
      rw [← hmake]
      by_cases hp : p ≠ []
      · rw [if_pos ⟨rfl, hp⟩, if_pos hp]
      · rw [if_neg (fun e => hp e.2), if_neg hp]
    have hgn : decide (posixL = gnuL) = h.gnu := by rw [h1]; decide
    rw [hname, hgn]
    have d1 : h.mode = (m1 : Int) := a1
    have d2 : h.uid = (m2 : Int) := a2
    have d3 : h.gid = (m3 : Int) := a3
    have d4 : h.time = (m4 : Int) := a4
    have d5 : h.size = (m5 : Int) := a5
    simp only
    rw [← d1, ← d2, ← d3, ← d4, ← d5]
  unfold parseS
  rw [if_neg (by rw [hG.len]; simp), if_neg (by rw [hs]; simp), if_neg (by rw [hG.magic]; simp), if_neg (by rw [hok]; simp), hHead]

/-- The block, as a list of fields. -/
def listB (h : Hd) (p rest : List UInt8) : List (Nat × List UInt8) :=
  [(100, putD h (100, 8, 3)), (108, putD h (108, 8, 4)), (116, putD h (116, 8, 5)), (136, putD h (136, 12, 6)), (124, putD h (124, 12, 7)), (0, rest), (345, p), (157, h.link), (257, posixL), (156, [h.kind])]
theorem blockA_list (h : Hd) {p rest : List UInt8} (hp : p.length ≤ 155) (hr : rest.length ≤ 100) (hl : h.link.length ≤ 100) : blockA h p rest = layL (listB h p rest) (List.replicate 512 0) := by
  unfold blockA
  rw [set_lay (by rw [layT_length h hp hr hl]; omega)]
  rfl
theorem numsFit_iff' (h : Hd) : numsFit h = true ↔ ∀ a n i, (a, n, i) ∈ flds → (putS (numD h i) n).isSome = true := by
  unfold numsFit
  rw [List.all_eq_true]
  exact ⟨fun H a n i hm => H (a, n, i) hm, fun H e he => H e.1 e.2.1 e.2.2 he⟩
theorem good_blockA (h : Hd) {p rest : List UInt8} (hp : p.length ≤ 155) (hr : rest.length ≤ 100) (hl : h.link.length ≤ 100) (hf : numsFit h = true) : GoodB h p rest (blockA h p rest) := by
  have hlen := blockA_length h hp hr hl
  have num : ∀ a n i, (a, n, i) ∈ flds → (putD h (a, n, i)).length = n ∧ ∃ m : Nat, numD h i = (m : Int) ∧ fieldS (putD h (a, n, i)) = (m, true) := by
    intro a n i hm
    obtain ⟨D, hD⟩ := Option.isSome_iff_exists.1 ((numsFit_iff' h).1 hf a n i hm)
    have hb := flds_bd hm
    have e : putD h (a, n, i) = D := by unfold putD; rw [hD]; rfl
    rw [e]
    exact ⟨putS_length (by omega) hD, putS_field (by omega) hD⟩
  have n1 := num 100 8 3 (by simp [flds])
  have n2 := num 108 8 4 (by simp [flds])
  have n3 := num 116 8 5 (by simp [flds])
  have n4 := num 136 12 6 (by simp [flds])
  have n5 := num 124 12 7 (by simp [flds])
  have fit : fitL (List.replicate 512 (0 : UInt8)).length (listB h p rest) := by
    rw [List.length_replicate]
    have lp : posixL.length = 8 := rfl
    have l1 := n1.1
    have l2 := n2.1
    have l3 := n3.1
    have l4 := n4.1
    have l5 := n5.1
    simp only [fitL, listB, List.mem_cons, List.not_mem_nil, or_false, forall_eq_or_imp, forall_eq, List.length_singleton]
    omega
  have l512 : (List.replicate 512 (0 : UInt8)).length = 512 := List.length_replicate
  have cut : ∀ (T1 T2 : List (Nat × List UInt8)) (a n : Nat) (D : List UInt8), listB h p rest = T1 ++ (a, D) :: T2 → a + n ≤ 512 → D.length ≤ n → outL a n T1 → outL a n T2 → fld (blockA h p rest) a n = D ++ List.replicate (n - D.length) 0 := by
    intro T1 T2 a n D e hn hD h1 h2
    rw [blockA_list h hp hr hl, e, fld_layL_in T1 T2 _ a n D (by rw [← e]; exact fit) (by rw [l512]; exact hn) hD h1 h2, fld_zero _ _ _ (by omega)]
  have lp : posixL.length = 8 := rfl
  have l1 := n1.1
  have l2 := n2.1
  have l3 := n3.1
  have l4 := n4.1
  have l5 := n5.1
  have c1 := cut [] _ 100 8 _ rfl (by omega) (by omega) (by intro e he; cases he) (by simp only [outL, List.mem_cons, List.not_mem_nil, or_false, forall_eq_or_imp, forall_eq, List.length_singleton]; omega)
  have c2 := cut [_] _ 108 8 _ rfl (by omega) (by omega) (by simp only [outL, List.mem_cons, List.not_mem_nil, or_false, forall_eq_or_imp, forall_eq]; omega) (by simp only [outL, List.mem_cons, List.not_mem_nil, or_false, forall_eq_or_imp, forall_eq, List.length_singleton]; omega)
  have c3 := cut [_, _] _ 116 8 _ rfl (by omega) (by omega) (by simp only [outL, List.mem_cons, List.not_mem_nil, or_false, forall_eq_or_imp, forall_eq]; omega) (by simp only [outL, List.mem_cons, List.not_mem_nil, or_false, forall_eq_or_imp, forall_eq, List.length_singleton]; omega)
  have c4 := cut [_, _, _] _ 136 12 _ rfl (by omega) (by omega) (by simp only [outL, List.mem_cons, List.not_mem_nil, or_false, forall_eq_or_imp, forall_eq]; omega) (by simp only [outL, List.mem_cons, List.not_mem_nil, or_false, forall_eq_or_imp, forall_eq, List.length_singleton]; omega)
  have c5 := cut [_, _, _, _] _ 124 12 _ rfl (by omega) (by omega) (by simp only [outL, List.mem_cons, List.not_mem_nil, or_false, forall_eq_or_imp, forall_eq]; omega) (by simp only [outL, List.mem_cons, List.not_mem_nil, or_false, forall_eq_or_imp, forall_eq, List.length_singleton]; omega)
  have c6 := cut [_, _, _, _, _] _ 0 100 _ rfl (by omega) (by omega) (by simp only [outL, List.mem_cons, List.not_mem_nil, or_false, forall_eq_or_imp, forall_eq]; omega) (by simp only [outL, List.mem_cons, List.not_mem_nil, or_false, forall_eq_or_imp, forall_eq, List.length_singleton]; omega)
  have c7 := cut [_, _, _, _, _, _] _ 345 155 _ rfl (by omega) (by omega) (by simp only [outL, List.mem_cons, List.not_mem_nil, or_false, forall_eq_or_imp, forall_eq]; omega) (by simp only [outL, List.mem_cons, List.not_mem_nil, or_false, forall_eq_or_imp, forall_eq, List.length_singleton]; omega)
  have c8 := cut [_, _, _, _, _, _, _] _ 157 100 _ rfl (by omega) (by omega) (by simp only [outL, List.mem_cons, List.not_mem_nil, or_false, forall_eq_or_imp, forall_eq]; omega) (by simp only [outL, List.mem_cons, List.not_mem_nil, or_false, forall_eq_or_imp, forall_eq, List.length_singleton]; omega)
  have c9 := cut [_, _, _, _, _, _, _, _] _ 257 8 _ rfl (by omega) (by omega) (by simp only [outL, List.mem_cons, List.not_mem_nil, or_false, forall_eq_or_imp, forall_eq]; omega) (by simp only [outL, List.mem_cons, List.not_mem_nil, or_false, forall_eq_or_imp, forall_eq, List.length_singleton]; omega)
  have c10 := cut [_, _, _, _, _, _, _, _, _] [] 156 1 _ rfl (by omega) (by simp) (by simp only [outL, List.mem_cons, List.not_mem_nil, or_false, forall_eq_or_imp, forall_eq]; omega) (by intro e he; cases he)
  refine ⟨hlen, ⟨_, c6⟩, ⟨_, c7⟩, ⟨_, c8⟩, ?_, ?_, ?_⟩
  · rw [c9]; rfl
  · rw [c10]; rfl
  · intro a n i hm
    obtain ⟨hl, m, hm1, hm2⟩ := num a n i hm
    refine ⟨m, hm1, ?_⟩
    have hz : fld (blockA h p rest) a n = putD h (a, n, i) ++ List.replicate (n - (putD h (a, n, i)).length) 0 := by
      simp only [flds, List.mem_cons, List.not_mem_nil, or_false, Prod.mk.injEq] at hm
      rcases hm with ⟨rfl, rfl, rfl⟩ | ⟨rfl, rfl, rfl⟩ | ⟨rfl, rfl, rfl⟩ | ⟨rfl, rfl, rfl⟩ | ⟨rfl, rfl, rfl⟩
      · exact c1
      · exact c2
      · exact c3
      · exact c4
      · exact c5
    rw [hz, hl, Nat.sub_self, List.replicate_zero, List.append_nil, hm2]

/-- The sum's field, as it is put: six digits, a zero, a blank. -/
theorem sum_tail {B O : List UInt8} (hl : B.length = 512) (hol : O.length = 7) : fld ((lay B 148 O).set 155 32) 148 8 = O ++ [32] := by
  have hll : (lay B 148 O).length = 512 := by rw [lay_length (by rw [hol]; omega), hl]
  unfold fld
  apply List.ext_getElem?
  intro i
  rw [List.getElem?_take, List.getElem?_append, hol]
  by_cases c0 : i < 8
  · rw [if_pos c0, List.getElem?_drop, List.getElem?_set, hll]
    by_cases c1 : i < 7
    · rw [if_neg (by omega), lay_at (by rw [hol]; omega), if_neg (by omega), if_pos (by rw [hol]; omega), if_pos c1, show 148 + i - 148 = i from by omega]
    · rw [if_pos (by omega), if_pos (by omega), if_neg c1, show i - 7 = 0 from by omega]
      rfl
  · rw [if_neg c0, if_neg (by omega), List.getElem?_eq_none (by simp; omega)]
theorem sum_field {B : List UInt8} (hl : B.length = 512) (s : Nat) (hs : s ≤ 200000) (x : UInt8) (hx : x = 32) : fieldS (fld ((lay B 148 (octD 7 s)).set 155 x) 148 8) = (s, true) := by
  have hol : (octD 7 s).length = 7 := octD_length 7 s (by omega)
  have hll : (lay B 148 (octD 7 s)).length = 512 := by rw [lay_length (by rw [hol]; omega), hl]
  have e : fld ((lay B 148 (octD 7 s)).set 155 x) 148 8 = ((low 8 6 s).map fun d => (48 : UInt8) + UInt8.ofNat d) ++ [0, 32] := by
    subst hx
    have h1 := sum_tail (O := octD 7 s) hl hol
    rw [h1]
    unfold octD
    rw [List.append_assoc]
    rfl
  rw [e]
  exact fieldS_digits 6 s (by omega) (by omega) (Nat.div_eq_of_lt (by omega)) [0, 32] (by
    intro y hy
    simp only [List.mem_cons, List.not_mem_nil, or_false] at hy
    rcases hy with rfl | rfl <;> decide)
/-- What is put, by its parts. -/
theorem put_parts {h : Hd} {b : List UInt8} (hb : putHeadS h = some b) : ∃ p rest, cutS h.name = some (p, rest) ∧ h.gnu = false ∧ h.kind ≠ 0 ∧ h.link.length ≤ 100 ∧ (0 : UInt8) ∉ h.name ++ h.link ∧ numsFit h = true ∧ b = blockS h p rest := by
  unfold putHeadS at hb
  split at hb
  · cases hb
  · rename_i p rest hc
    split at hb
    · rename_i hh
      cases hb
      exact ⟨p, rest, hc, hh.1, hh.2.1, hh.2.2.1, hh.2.2.2.1, hh.2.2.2.2, rfl⟩
    · cases hb
theorem blockS_good {h : Hd} {p rest : List UInt8} (hp : p.length ≤ 155) (hr : rest.length ≤ 100) (hl : h.link.length ≤ 100) (hf : numsFit h = true) :
    GoodB h p rest (blockS h p rest) ∧ fieldS (fld (blockS h p rest) 148 8) = (sumS (blockS h p rest), true) ∧ (blockS h p rest).length = 512 := by
  have hlA := blockA_length h hp hr hl
  have hol : (octD 7 (sumS (blockA h p rest))).length = 7 := octD_length 7 _ (by omega)
  have hll : (lay (blockA h p rest) 148 (octD 7 (sumS (blockA h p rest)))).length = 512 := by rw [lay_length (by rw [hol]; omega), hlA]
  have hsum : sumS (blockS h p rest) = sumS (blockA h p rest) := by
    unfold blockS
    rw [set_lay (by rw [hll]; omega), sumS_lay (by rw [hll]; simp) (by omega) (by simp), sumS_lay (by rw [hol]; omega) (by omega) (by rw [hol]; omega)]
  refine ⟨?_, ?_, ?_⟩
  · unfold blockS
    rw [set_lay (by rw [hll]; omega)]
    refine ((good_blockA h hp hr hl hf).lay (.inl ?_)).lay (.inl ?_)
    · rw [hol]; omega
    · simp
  · rw [hsum]
    refine sum_field hlA _ ?_ 32 rfl
    have := sumS_le (blockA h p rest)
    rw [hlA] at this
    omega
  · unfold blockS; rw [List.length_set, hll]
theorem parse_put {h : Hd} {b : List UInt8} (hb : putHeadS h = some b) : parseS b = (h, 0) ∧ b.length = 512 := by
  obtain ⟨p, rest, hc, h1, h2, h3, h4, h5, rfl⟩ := put_parts hb
  obtain ⟨hp, hr⟩ := cutS_len hc
  obtain ⟨g1, g2, g3⟩ := blockS_good hp hr h3 h5
  exact ⟨parse_good g1 hc h1 h2 h4 g2, g3⟩
/-- A byte that is turned, but in the field of the sum. -/
theorem parse_turned {h : Hd} {b : List UInt8} (hb : putHeadS h = some b) {k : Nat} (hk : k < 512) (hk2 : k < 148 ∨ 156 ≤ k) {y : UInt8} (hy : y ≠ b.getD k 0) : parseS (b.set k y) = (Hd.zero, 3) := by
  obtain ⟨p, rest, hc, h1, h2, h3, h4, h5, rfl⟩ := put_parts hb
  obtain ⟨hp, hr⟩ := cutS_len hc
  obtain ⟨g1, g2, g3⟩ := blockS_good hp hr h3 h5
  obtain ⟨B, hB⟩ : ∃ B, B = blockS h p rest := ⟨_, rfl⟩
  rw [← hB] at g2 g3 hy ⊢
  have hset := set_lay (L := B) (i := k) (x := y) (by omega)
  have hf : fld (B.set k y) 148 8 = fld B 148 8 := by rw [hset, fld_out (by simp; omega) (by simp; omega)]
  have hs : sumS (B.set k y) ≠ sumS B := by
    intro e
    have hx : B[k]? = some (B.getD k 0) := by simp [List.getD_eq_getElem?_getD, show k < B.length by omega]
    have := sumF_set B 256 0 k (B.getD k 0) y hx (by omega)
    unfold sumS at e
    rw [e] at this
    exact hy (UInt8.toNat_inj.1 (by omega)).symm
  unfold parseS
  rw [if_neg (by rw [List.length_set, g3]; simp), if_pos (by rw [hf, g2]; exact fun e => hs e.2.symm)]
/-- A byte of no field, and the sum put anew. -/
theorem parse_free {h : Hd} {b : List UInt8} (hb : putHeadS h = some b) {k : Nat} (hk : (265 ≤ k ∧ k < 345) ∨ (500 ≤ k ∧ k < 512)) (y : UInt8) : parseS (lay (b.set k y) 148 (octD 7 (sumS (b.set k y)))) = (h, 0) := by
  obtain ⟨p, rest, hc, h1, h2, h3, h4, h5, rfl⟩ := put_parts hb
  obtain ⟨hp, hr⟩ := cutS_len hc
  obtain ⟨g1, g2, g3⟩ := blockS_good hp hr h3 h5
  have h155 : (blockS h p rest)[155]? = some 32 := by
    have hlA := blockA_length h hp hr h3
    have hol : (octD 7 (sumS (blockA h p rest))).length = 7 := octD_length 7 _ (by omega)
    unfold blockS
    rw [List.getElem?_set_self (by rw [lay_length (by rw [hol]; omega), hlA]; omega)]
  obtain ⟨B, hB⟩ : ∃ B, B = blockS h p rest := ⟨_, rfl⟩
  rw [← hB] at g1 g3 h155 ⊢
  have hset := set_lay (L := B) (i := k) (x := y) (by omega)
  have hG1 : GoodB h p rest (B.set k y) := by
    rw [hset]
    exact g1.lay (by unfold freeAt; simp only [List.length_singleton]; omega)
  have hl1 := hG1.len
  have hol : (octD 7 (sumS (B.set k y))).length = 7 := octD_length 7 _ (by omega)
  have hsb : sumS (B.set k y) ≤ 200000 := by have := sumS_le (B.set k y); rw [hl1] at this; omega
  have hll : (lay (B.set k y) 148 (octD 7 (sumS (B.set k y)))).length = 512 := by rw [lay_length (by rw [hol]; omega), hl1]
  have h155' : (lay (B.set k y) 148 (octD 7 (sumS (B.set k y))))[155]? = some 32 := by
    rw [lay_at (by rw [hol]; omega), if_neg (by omega), if_neg (by rw [hol]; omega), List.getElem?_set_ne (by omega), h155]
  have hself : (lay (B.set k y) 148 (octD 7 (sumS (B.set k y)))).set 155 32 = lay (B.set k y) 148 (octD 7 (sumS (B.set k y))) := by
    apply List.ext_getElem?
    intro i
    rw [List.getElem?_set]
    by_cases e : 155 = i
    · subst e
      rw [if_pos rfl, if_pos (by rw [hll]; omega), h155']
    · rw [if_neg e]
  refine parse_good (hG1.lay (.inl ⟨by omega, by rw [hol]; omega⟩)) hc h1 h2 h4 ?_
  rw [sumS_lay (by rw [hol]; omega) (by omega) (by rw [hol]; omega), ← hself]
  exact sum_field hl1 _ hsb 32 rfl
end Go.Proofs.YtpapbnmacjoihaaDoor
