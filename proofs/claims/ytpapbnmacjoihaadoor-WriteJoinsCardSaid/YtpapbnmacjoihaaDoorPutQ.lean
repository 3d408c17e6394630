/- What write.Put and bindleref08.Put make, plain. -/
/- Good members' records and headers, plain. -/
import Derived.Test.YtpapbnmacjoihaaDoorSplA
import Derived.Test.YtpapbnmacjoihaaDoorPutA
import Derived.Test.YtpapbnmacjoihaaDoorPlainD
import Derived.Lib.ValidLaws
namespace Go.Proofs.YtpapbnmacjoihaaDoor

def kPath : List UInt8 := [112, 97, 116, 104]
def kLink : List UInt8 := [108, 105, 110, 107, 112, 97, 116, 104]
def kUid : List UInt8 := [117, 105, 100]
def kGid : List UInt8 := [103, 105, 100]
def kTime : List UInt8 := [109, 116, 105, 109, 101]
def longB : List UInt8 := [64, 108, 111, 110, 103]
def paxB : List UInt8 := [64, 112, 97, 120]
def needP (m : Mb) : Bool := !(cutS m.path).isSome || !plainS m.path
def needT (m : Mb) : Bool := decide (100 < m.target.length) || !plainS m.target
def needU (m : Mb) : Bool := decide (2097151 < m.uid)
def needG (m : Mb) : Bool := decide (2097151 < m.gid)
def needM (m : Mb) : Bool := decide (8589934591 < m.time)
def hm0 (m : Mb) : Hd := ⟨m.path, m.target, m.kind, m.mode, m.uid, m.gid, m.time, m.body.length, false⟩
def hm1 (m : Mb) : Hd := if needP m then { hm0 m with name := longB } else hm0 m
def hm2 (m : Mb) : Hd := if needT m then { hm1 m with link := longB } else hm1 m
def hm3 (m : Mb) : Hd := if needU m then { hm2 m with uid := 0 } else hm2 m
def hm4 (m : Mb) : Hd := if needG m then { hm3 m with gid := 0 } else hm3 m
def hm5 (m : Mb) : Hd := if needM m then { hm4 m with time := 0 } else hm4 m
def rc1 (m : Mb) : Rcs := if needP m then [(kPath, m.path)] else []
def rc2 (m : Mb) : Rcs := if needT m then rc1 m ++ [(kLink, m.target)] else rc1 m
def rc3 (m : Mb) : Rcs := if needU m then rc2 m ++ [(kUid, Lib.decDigits m.uid.toNat)] else rc2 m
def rc4 (m : Mb) : Rcs := if needG m then rc3 m ++ [(kGid, Lib.decDigits m.gid.toNat)] else rc3 m
def rc5 (m : Mb) : Rcs := if needM m then rc4 m ++ [(kTime, Lib.decDigits m.time.toNat)] else rc4 m
def rowS (h : Hd) : List UInt8 := (putHeadS h).getD []
def paxHd (n : Nat) : Hd := ⟨paxB, [], 120, 0, 0, 0, 0, n, false⟩
def memS (m : Mb) : List UInt8 :=
  (if linesS (rc5 m) = [] then [] else rowS (paxHd (linesS (rc5 m)).length) ++ padL (linesS (rc5 m))) ++ (rowS (hm5 m) ++ padL m.body)
theorem rc1_len (m : Mb) : (rc1 m).length ≤ 1 := by unfold rc1; split <;> simp
theorem rc2_len (m : Mb) : (rc2 m).length ≤ 2 := by have := rc1_len m; unfold rc2; split <;> (try rw [List.length_append]) <;> (try simp only [List.length_cons, List.length_nil]) <;> omega
theorem rc3_len (m : Mb) : (rc3 m).length ≤ 3 := by have := rc2_len m; unfold rc3; split <;> (try rw [List.length_append]) <;> (try simp only [List.length_cons, List.length_nil]) <;> omega
theorem rc4_len (m : Mb) : (rc4 m).length ≤ 4 := by have := rc3_len m; unfold rc4; split <;> (try rw [List.length_append]) <;> (try simp only [List.length_cons, List.length_nil]) <;> omega
theorem rc5_len (m : Mb) : (rc5 m).length ≤ 5 := by have := rc4_len m; unfold rc5; split <;> (try rw [List.length_append]) <;> (try simp only [List.length_cons, List.length_nil]) <;> omega
theorem lineS_ne (k v : List UInt8) : lineS k v ≠ [] := fun e => by
  have h := congrArg List.length e
  unfold lineS bodyS at h
  simp at h
theorem linesS_nil (rs : Rcs) : linesS rs = [] ↔ rs = [] := by
  cases rs with
  | nil => exact ⟨fun _ => rfl, fun _ => rfl⟩
  | cons x t =>
    refine ⟨fun e => ?_, fun e => by cases e⟩
    unfold linesS at e
    rw [List.flatMap_cons] at e
    exact absurd (List.append_eq_nil_iff.1 e).1 (lineS_ne x.1 x.2)
end Go.Proofs.YtpapbnmacjoihaaDoor

namespace Go.Proofs.YtpapbnmacjoihaaDoor
open Lib

theorem dec_digits : ∀ (u : Nat), ∀ b ∈ decDigits u, 48 ≤ b.toNat ∧ b.toNat ≤ 57 := by
  intro u
  induction u using Nat.strongRecOn with
  | ind u ih =>
    intro b hb
    rw [decDigits] at hb
    split at hb
    · simp only [List.mem_singleton] at hb
      subst hb
      simp [UInt8.toNat_ofNat']
      omega
    · rcases List.mem_append.1 hb with h | h
      · exact ih (u / 10) (by omega) b h
      · simp only [List.mem_singleton] at h
        subst h
        simp [UInt8.toNat_ofNat']
        omega
theorem ascii_text (l : List UInt8) (h : ∀ b ∈ l, 0 < b.toNat ∧ b.toNat < 128) : textS l = true := by
  have h1 : validD l = true := by
    rw [validD_ascii l.length l (fun b hb => (h b (List.mem_of_mem_take hb)).2), List.drop_length]
    exact validD_nil
  have h2 : l.contains 0 = false := by
    cases hc : l.contains 0 with
    | false => rfl
    | true => have := h 0 (List.contains_iff_mem.1 hc); simp at this
  unfold textS
  rw [h1, h2]; rfl
theorem dec_text (u : Nat) : textS (decDigits u) = true := ascii_text _ fun b hb => by have := dec_digits u b hb; omega
theorem cleanOk_text {l : List UInt8} (h : cleanOk l = true) : textS l = true ∧ l.length ≤ 200 := by
  unfold cleanOk at h
  simp only [Bool.and_eq_true, beq_iff_eq] at h
  refine ⟨?_, by rw [h.2]; exact cleanS_len l⟩
  cases ht : textS l with
  | true => rfl
  | false =>
    have := h.1
    unfold cleanS at this
    rw [if_pos ht] at this
    cases this
theorem targetS_text {l : List UInt8} (h : (targetS l == 0) = true) : textS l = true ∧ l.length ≤ 200 := by
  have h := beq_iff_eq.1 h
  unfold targetS at h
  split at h
  · cases h
  · rename_i h1
    split at h
    · cases h
    · rename_i h2
      refine ⟨?_, ?_⟩
      · cases ht : textS l with
        | true => rfl
        | false => exact absurd ht h1
      · exact Nat.le_of_not_lt fun e => h2 (.inr e)
structure GoodM (m : Mb) : Prop where
  pt : textS m.path = true
  pl : m.path.length ≤ 200
  tt : textS m.target = true
  tl : m.target.length ≤ 200
  mode : 0 ≤ m.mode ∧ m.mode ≤ 4095
  uid : 0 ≤ m.uid ∧ m.uid ≤ 2147483647
  gid : 0 ≤ m.gid ∧ m.gid ≤ 2147483647
  time : 0 ≤ m.time ∧ m.time ≤ 1099511627776
  body : m.body.length ≤ 1048576
  kind : m.kind ≠ 0
theorem good_parts {m : Mb} (h : goodS m = true) : GoodM m := by
  unfold goodS metaB at h
  simp only [Bool.and_eq_true, decide_eq_true_eq] at h
  obtain ⟨h1, ⟨h2, h3, h4, h5⟩, h6, h7, h8⟩ := h
  have hp := cleanOk_text h1
  have ht : textS m.target = true ∧ m.target.length ≤ 200 ∧ m.kind ≠ 0 := by
    split at h8
    · rename_i hk
      have := of_decide_eq_true h8
      rw [this]
      exact ⟨textS_nil, by simp, fun e => by rw [e] at hk; revert hk; decide⟩
    · split at h8
      · rename_i hk
        exact ⟨(cleanOk_text h8).1, (cleanOk_text h8).2, fun e => by rw [e] at hk; revert hk; decide⟩
      · split at h8
        · rename_i hk
          exact ⟨(targetS_text h8).1, (targetS_text h8).2, fun e => by rw [e] at hk; revert hk; decide⟩
        · cases h8
  exact ⟨hp.1, hp.2, ht.1, ht.2.1, h2, h3, h4, h5, h6, ht.2.2⟩
theorem nDig21 (u : Nat) (h : u ≤ 9223372036854775807) : (decDigits u).length ≤ 21 := by rw [decDigits_length]; exact nDigits_le h
theorem rc5_may {m : Mb} (h : GoodM m) : ∀ r ∈ rc5 m, mayS r.1 r.2 = true := by
  have mk : ∀ (k v : List UInt8), textS v = true → v.length ≤ 99000 → k ≠ [] → k.contains 61 = false → textS k = true → k.length ≤ 100 → mayS k v = true := by
    intro k v h1 h2 h3 h4 h5 h6
    unfold mayS
    rw [h4, h5, h1, decide_eq_true (by omega : k.length + v.length ≤ 100000)]
    simp [h3]
  have k1 : ∀ k ∈ [kPath, kLink, kUid, kGid, kTime], k ≠ [] ∧ k.contains 61 = false ∧ textS k = true ∧ k.length ≤ 100 := by
    intro k hk
    have ht : textS k = true := ascii_text k (by revert k; decide)
    refine ⟨?_, ?_, ht, ?_⟩ <;> (revert k; decide)
  have h1 : ∀ r ∈ rc1 m, mayS r.1 r.2 = true := by
    intro r hr
    unfold rc1 at hr
    split at hr
    · obtain rfl := List.mem_singleton.1 hr
      obtain ⟨a, b, c, d⟩ := k1 kPath (by simp)
      show mayS kPath m.path = true
      exact mk _ _ h.pt (by have := h.pl; omega) a b c d
    · cases hr
  have h2 : ∀ r ∈ rc2 m, mayS r.1 r.2 = true := by
    intro r hr
    unfold rc2 at hr
    split at hr
    · rcases List.mem_append.1 hr with hr | hr
      · exact h1 r hr
      · obtain rfl := List.mem_singleton.1 hr
        obtain ⟨a, b, c, d⟩ := k1 kLink (by simp)
        show mayS kLink m.target = true
        exact mk _ _ h.tt (by have := h.tl; omega) a b c d
    · exact h1 r hr
  have h3 : ∀ r ∈ rc3 m, mayS r.1 r.2 = true := by
    intro r hr
    unfold rc3 at hr
    split at hr
    · rcases List.mem_append.1 hr with hr | hr
      · exact h2 r hr
      · obtain rfl := List.mem_singleton.1 hr
        obtain ⟨a, b, c, d⟩ := k1 kUid (by simp)
        show mayS kUid (decDigits m.uid.toNat) = true
        exact mk _ _ (dec_text _) (by have := nDig21 m.uid.toNat (by have := h.uid; omega); omega) a b c d
    · exact h2 r hr
  have h4 : ∀ r ∈ rc4 m, mayS r.1 r.2 = true := by
    intro r hr
    unfold rc4 at hr
    split at hr
    · rcases List.mem_append.1 hr with hr | hr
      · exact h3 r hr
      · obtain rfl := List.mem_singleton.1 hr
        obtain ⟨a, b, c, d⟩ := k1 kGid (by simp)
        show mayS kGid (decDigits m.gid.toNat) = true
        exact mk _ _ (dec_text _) (by have := nDig21 m.gid.toNat (by have := h.gid; omega); omega) a b c d
    · exact h3 r hr
  intro r hr
  unfold rc5 at hr
  split at hr
  · rcases List.mem_append.1 hr with hr | hr
    · exact h4 r hr
    · obtain rfl := List.mem_singleton.1 hr
      obtain ⟨a, b, c, d⟩ := k1 kTime (by simp)
      show mayS kTime (decDigits m.time.toNat) = true
      exact mk _ _ (dec_text _) (by have := nDig21 m.time.toNat (by have := h.time; omega); omega) a b c d
  · exact h4 r hr
theorem putS_fits {x : Int} {n : Nat} (h0 : 0 ≤ x) (h1 : x ≤ 1099511627776) (hn : 8 ≤ n) : (putS x n).isSome = true := by
  have h2 : x.toNat / 256 ^ (n - 1) = 0 := by
    refine Nat.div_eq_of_lt ?_
    refine Nat.lt_of_lt_of_le (m := 256 ^ 7) (by omega) (Nat.pow_le_pow_right (by omega) (by omega))
  unfold putS
  rw [if_pos ⟨h0, by omega⟩]
  by_cases h3 : x.toNat / 8 ^ (n - 1) = 0
  · rw [if_pos h3]; rfl
  · rw [if_neg h3, if_pos h2]; rfl
theorem fits_of {h : Hd} (h1 : (cutS h.name).isSome = true) (h2 : h.gnu = false) (h3 : h.kind ≠ 0) (h4 : h.link.length ≤ 100) (h5 : (0 : UInt8) ∉ h.name ++ h.link)
    (hb : ∀ i, 3 ≤ i → i ≤ 7 → 0 ≤ numD h i ∧ numD h i ≤ 1099511627776) : ∃ b, putHeadS h = some b := by
  obtain ⟨⟨p, rest⟩, hc⟩ := Option.isSome_iff_exists.1 h1
  have hnf : numsFit h = true := by
    rw [numsFit_iff']
    intro a n i hm
    have hbd := flds_bd hm
    have hn : 8 ≤ n := by
      simp only [flds, List.mem_cons, List.not_mem_nil, or_false, Prod.mk.injEq] at hm
      omega
    obtain ⟨x1, x2⟩ := hb i (by omega) (by omega)
    exact putS_fits x1 x2 hn
  refine ⟨blockS h p rest, ?_⟩
  unfold putHeadS
  rw [hc]
  show (if h.gnu = false ∧ h.kind ≠ 0 ∧ h.link.length ≤ 100 ∧ (0 : UInt8) ∉ h.name ++ h.link ∧ numsFit h = true then some (blockS h p rest) else none) = _
  rw [if_pos ⟨h2, h3, h4, h5, hnf⟩]
theorem text_no0 {l : List UInt8} (h : textS l = true) : (0 : UInt8) ∉ l := fun hm => by
  unfold textS at h
  rw [List.contains_iff_mem.2 hm] at h
  simp at h
theorem hm1_eq (m : Mb) : hm1 m = { hm0 m with name := if needP m then longB else m.path } := by unfold hm1; split <;> rfl
theorem hm2_eq (m : Mb) : hm2 m = { hm0 m with name := if needP m then longB else m.path, link := if needT m then longB else m.target } := by unfold hm2; rw [hm1_eq]; split <;> rfl
theorem hm3_eq (m : Mb) : hm3 m = { hm0 m with name := if needP m then longB else m.path, link := if needT m then longB else m.target, uid := if needU m then 0 else m.uid } := by unfold hm3; rw [hm2_eq]; split <;> rfl
theorem hm4_eq (m : Mb) : hm4 m = { hm0 m with name := if needP m then longB else m.path, link := if needT m then longB else m.target, uid := if needU m then 0 else m.uid, gid := if needG m then 0 else m.gid } := by unfold hm4; rw [hm3_eq]; split <;> rfl
theorem hm5_eq (m : Mb) : hm5 m = { hm0 m with name := if needP m then longB else m.path, link := if needT m then longB else m.target, uid := if needU m then 0 else m.uid, gid := if needG m then 0 else m.gid, time := if needM m then 0 else m.time } := by unfold hm5; rw [hm4_eq]; split <;> rfl
theorem good_fits {m : Mb} (h : GoodM m) : ∃ b, putHeadS (hm5 m) = some b := by
  rw [hm5_eq]
  refine fits_of ?_ rfl h.kind ?_ ?_ ?_
  · show (cutS (if needP m then longB else m.path)).isSome = true
    split
    · rfl
    · rename_i hn
      unfold needP at hn
      cases hc : (cutS m.path).isSome with
      | true => rfl
      | false => rw [hc] at hn; simp at hn
  · show (if needT m then longB else m.target).length ≤ 100
    split
    · decide
    · rename_i hn
      refine Nat.le_of_not_lt fun e => ?_
      unfold needT at hn
      rw [decide_eq_true e] at hn
      simp at hn
  · show (0 : UInt8) ∉ (if needP m then longB else m.path) ++ (if needT m then longB else m.target)
    rw [List.mem_append]
    rintro (hm | hm)
    · split at hm
      · revert hm; decide
      · exact text_no0 h.pt hm
    · split at hm
      · revert hm; decide
      · exact text_no0 h.tt hm
  · intro i hi1 hi2
    have hm := h.mode
    have hu := h.uid
    have hg := h.gid
    have ht := h.time
    have hb := h.body
    obtain rfl | rfl | rfl | rfl | rfl : i = 3 ∨ i = 4 ∨ i = 5 ∨ i = 6 ∨ i = 7 := by omega
    · show 0 ≤ m.mode ∧ m.mode ≤ 1099511627776
      omega
    · show 0 ≤ (if needU m then 0 else m.uid) ∧ (if needU m then 0 else m.uid) ≤ 1099511627776
      split <;> omega
    · show 0 ≤ (if needG m then 0 else m.gid) ∧ (if needG m then 0 else m.gid) ≤ 1099511627776
      split <;> omega
    · show 0 ≤ (if needM m then 0 else m.time) ∧ (if needM m then 0 else m.time) ≤ 1099511627776
      split <;> omega
    · show 0 ≤ (m.body.length : Int) ∧ (m.body.length : Int) ≤ 1099511627776
      omega
theorem pax_fits (n : Nat) (hn : n ≤ 1000000000) : ∃ b, putHeadS (paxHd n) = some b := by
  refine fits_of rfl rfl (show (120 : UInt8) ≠ 0 by decide) (show ([] : List UInt8).length ≤ 100 by decide) (show (0 : UInt8) ∉ paxB ++ [] by decide) ?_
  intro i hi1 hi2
  obtain rfl | rfl | rfl | rfl | rfl : i = 3 ∨ i = 4 ∨ i = 5 ∨ i = 6 ∨ i = 7 := by omega
  all_goals first | (show (0 : Int) ≤ 0 ∧ (0 : Int) ≤ 1099511627776; omega) | (show 0 ≤ (n : Int) ∧ (n : Int) ≤ 1099511627776; omega)
theorem rowS_len {h : Hd} (hf : ∃ b, putHeadS h = some b) : (rowS h).length = 512 := by
  obtain ⟨b, hb⟩ := hf
  unfold rowS
  rw [hb]
  exact (parse_put hb).2
theorem rowS_le (h : Hd) : (rowS h).length ≤ 512 := by
  cases hb : putHeadS h with
  | none => unfold rowS; rw [hb]; simp
  | some b => exact Nat.le_of_eq (rowS_len ⟨b, hb⟩)
theorem lines_le {m : Mb} (h : GoodM m) : (linesS (rc5 m)).length ≤ 500500 := by
  have h1 := linesS_len (rc5 m) (fun r hr => (mayS_iff (rc5_may h r hr)).2.2.2.2)
  have h2 := rc5_len m
  have : (rc5 m).length * 100100 ≤ 5 * 100100 := Nat.mul_le_mul_right _ h2
  omega
/-- the first part: the records, with their header. -/
def paxS (m : Mb) : List UInt8 := if linesS (rc5 m) = [] then [] else rowS (paxHd (linesS (rc5 m)).length) ++ padL (linesS (rc5 m))
theorem paxS_le {m : Mb} (h : GoodM m) : (paxS m).length ≤ 600000 := by
  have h1 := lines_le h
  have h2 := padN_ge (linesS (rc5 m)).length
  have h3 := rowS_le (paxHd (linesS (rc5 m)).length)
  unfold paxS
  split
  · simp
  · rw [List.length_append, padL_length]; omega

end Go.Proofs.YtpapbnmacjoihaaDoor
