/- head.Put: the map of a header's texts. -/
import Derived.Test.YtpapbnmacjoihaaDoorPutA
namespace Go.Proofs.YtpapbnmacjoihaaDoor
open Go.RowKit Go.Shelf

def textTab (link p rest : List UInt8) : List (Nat × Lit × Value) :=
  [(3, kl 0 100, .string (bs rest)), (6, kl 345 155, .string (bs p)), (10, kl 157 100, .string (bs link)), (12, kl 257 8, .string ⟨#[117, 115, 116, 97, 114, 0, 48, 48]⟩)]
theorem textTab_apart (link p rest : List UInt8) : apartT (textTab link p rest) := by
  have := textkl_apart
  simp only [apartB, List.all_cons, List.all_nil, Bool.and_true, Bool.and_eq_true, Bool.not_eq_true'] at this
  simp only [apartT, textTab, List.pairwise_cons, List.mem_cons, List.not_mem_nil, or_false, forall_eq_or_imp, forall_eq, List.Pairwise.nil]
  simp_all
def textF (link p rest : List UInt8) : Lit → Option Value := fT (textTab link p rest) (fun _ => true)
theorem text_cases {h : Hd} {p rest : List UInt8} {key : Value} {x : Lit} {v : Value} (hp : p.length ≤ 155) (hr : rest.length ≤ 100) (hl : h.link.length ≤ 100) (hk : keyOf Tryd.prog 58 key = some x) (hf : textF h.link p rest x = some v) :
    ∃ a n D, (kl a n, a, D) ∈ textT h p rest ∧ x = kl a n ∧ key = spanV a n ∧ v = .string (bs D) ∧ D.length ≤ n ∧ a + n ≤ 512 ∧ 1 ≤ n := by
  simp only [textF, textTab, fT, Bool.and_true] at hf
  split at hf
  · rename_i e
    obtain rfl := WideAt.sameKey_eq e
    cases hf
    exact ⟨0, 100, rest, by simp [textT], rfl, spanK.inj hk k_name, rfl, hr, by omega, by omega⟩
  · split at hf
    · rename_i e
      obtain rfl := WideAt.sameKey_eq e
      cases hf
      exact ⟨345, 155, p, by simp [textT], rfl, spanK.inj hk k_prefix, rfl, hp, by omega, by omega⟩
    · split at hf
      · rename_i e
        obtain rfl := WideAt.sameKey_eq e
        cases hf
        exact ⟨157, 100, h.link, by simp [textT], rfl, spanK.inj hk k_link, rfl, hl, by omega, by omega⟩
      · split at hf
        · rename_i e
          obtain rfl := WideAt.sameKey_eq e
          cases hf
          exact ⟨257, 8, posixL, by simp [textT], rfl, spanK.inj hk k_magic, rfl, by decide, by omega, by omega⟩
        · cases hf
theorem text_left {h : Hd} {p rest : List UInt8} {e : Fd} (he : e ∈ textT h p rest) : (textF h.link p rest e.1).isSome = true := by
  have hself : ∀ a n, (kl a n).sameKey (kl a n) = true := fun a n => WideAt.sameKey_self (by unfold kl; trivial)
  simp only [textT, List.mem_cons, List.not_mem_nil, or_false] at he
  simp only [textF, textTab, fT, Bool.and_true]
  rcases he with rfl | rfl | rfl | rfl
  all_goals (repeat' split) <;> first | rfl | (rename_i h1; exact absurd (hself _ _) (by simp_all; done)) | (simp_all; done)

/-- A map that is filled by a region that draws: operation 0 makes it, T tells which operations fill it. -/
def MapWI (T : List (Nat × Lit × Value)) (w0 : World) (L : Nat → Bool) (w : World) : Prop :=
  (∀ e ∈ T, L e.1 = true → L 0 = true) ∧ Ext w0 w ∧ (L 0 = false → w.heap.size = w0.heap.size) ∧ (L 0 = true → Mp Tryd.prog 58 w w0.heap.size (cntT T L) (fT T L))
theorem MapWI.quiet {T : List (Nat × Lit × Value)} {w0 w : World} {L : Nat → Bool} (hW : MapWI T w0 L w) (i : Nat) (hi : i ≠ 0) (hT : ∀ e ∈ T, e.1 ≠ i) : MapWI T w0 (fun j => if j = i then true else L j) w := by
  obtain ⟨h1, h2⟩ := fT_keep T L i hT
  refine ⟨fun e he => ?_, hW.2.1, ?_, ?_⟩
  · simp only [if_neg (Ne.symm hi), if_neg (hT e he)]; exact hW.1 e he
  · simp only [if_neg (Ne.symm hi)]; exact hW.2.2.1
  · simp only [if_neg (Ne.symm hi)]; rw [h1, h2]; exact hW.2.2.2
theorem fT_empty : ∀ (T : List (Nat × Lit × Value)) (L : Nat → Bool), (∀ e ∈ T, L e.1 = false) → fT T L = (fun _ => none) ∧ cntT T L = 0
  | [], _, _ => ⟨rfl, rfl⟩
  | (i, k, v) :: T, L, h => by
    have h0 := h _ List.mem_cons_self
    simp only at h0
    obtain ⟨h1, h2⟩ := fT_empty T L (fun e he => h e (List.mem_cons_of_mem _ he))
    exact ⟨funext fun x => by simp only [fT, h0, Bool.and_false, Bool.false_eq_true, if_false]; rw [h1], by simp only [cntT, h0, Bool.false_eq_true, if_false, h2]⟩
theorem cntT_le : ∀ (T : List (Nat × Lit × Value)) (L : Nat → Bool), cntT T L ≤ T.length
  | [], _ => Nat.le_refl _
  | (i, k, v) :: T, L => by
    have := cntT_le T L
    simp only [cntT, List.length_cons]
    split <;> omega
theorem cntT_all : ∀ (T : List (Nat × Lit × Value)) (L : Nat → Bool), (∀ e ∈ T, L e.1 = true) → cntT T L = T.length
  | [], _, _ => rfl
  | (i, k, v) :: T, L, h => by
    have h0 := h _ List.mem_cons_self
    simp only at h0
    have := cntT_all T L (fun e he => h e (List.mem_cons_of_mem _ he))
    simp only [cntT, List.length_cons, h0, if_true]
    omega
theorem MapWI.make {T : List (Nat × Lit × Value)} {w0 w : World} {L : Nat → Bool} (hT0 : ∀ e ∈ T, e.1 ≠ 0) (hW : MapWI T w0 L w) (h0 : L 0 = false) : w.heap.size = w0.heap.size ∧ MapWI T w0 (fun j => if j = 0 then true else L j) (w.alloc (.map #[] 0)) := by
  have hsz := hW.2.2.1 h0
  have hT : ∀ e ∈ T, L e.1 = false := by
    intro e he
    cases hh : L e.1 with
    | false => rfl
    | true => have := hW.1 e he hh; rw [h0] at this; cases this
  refine ⟨hsz, fun e he _ => by simp, hW.2.1.trans (Ext.alloc _ _), fun e => by simp at e, fun _ => ?_⟩
  have h1 := fT_keep T L 0 hT0
  have h2 := fT_empty T L hT
  rw [h1.1, h1.2, h2.1, h2.2, ← hsz]
  exact Mp.made _ _ _
theorem MapWI.put {T : List (Nat × Lit × Value)} (hap : apartT T) (hn : T.length < maxLen) {t e : TypeId} (ht : Tryd.prog.underlying t = some (.map 58 e)) {w0 w : World} {L : Nat → Bool} (hW : MapWI T w0 L w) {i : Nat} {key : Value} {x : Lit} {v : Value} (h0 : L 0 = true) (hi : i ≠ 0) (hL : L i = false) (hm : (i, x, v) ∈ T) (hk : keyOf Tryd.prog 58 key = some x) :
    ∃ w', (Instr.mapUpdate t (.map (some w0.heap.size)) key v).run Tryd.prog w = .ok () w' ∧ MapWI T w0 (fun j => if j = i then true else L j) w' := by
  have hM := hW.2.2.2 h0
  have hlt : cntT T L < maxLen := Nat.lt_of_le_of_lt (cntT_le T L) hn
  obtain ⟨w', h1, h2, h3⟩ := hM.update spanK ht hlt (v := v) hk
  refine ⟨w', h1, fun e he _ => by simp [h0], Below.grown hW.2.1 h3 hW.2.1.size (fun k hk => by cases hk; exact Nat.le_refl _), ?_, fun _ => ?_⟩
  · simp only [if_neg (Ne.symm hi), h0]; intro e; cases e
  · obtain ⟨e1, e2⟩ := fT_upd T L i x v hap hm hL
    rw [e2, ← e1]
    exact h2

/-- The map of the texts: filled, then gone over from g. -/
def TextWI (T : List (Nat × Lit × Value)) (w0 : World) (g : Nat) (L : Nat → Bool) (w : World) : Prop :=
  (L 13 = true → L 0 = true ∧ ∀ e ∈ T, L e.1 = true) ∧ (L 14 = true → L 13 = true) ∧ Ext w0 w ∧ (L 14 = false → MapWI T w0 L w) ∧
  (L 14 = true → w0.heap.size < g ∧ ∃ left cnt, Rg Tryd.prog 58 w w0.heap.size g T.length (fT T (fun _ => true)) left cnt ∧ ∀ kl, WideAt.IsKeyLit kl → left kl = (fT T (fun _ => true) kl).isSome)
theorem TextWI.quiet {T : List (Nat × Lit × Value)} {w0 w : World} {g : Nat} {L : Nat → Bool} (hW : TextWI T w0 g L w) (i : Nat) (hi : i ≠ 0) (h13 : i ≠ 13) (h14 : i ≠ 14) (hT : ∀ e ∈ T, e.1 ≠ i) : TextWI T w0 g (fun j => if j = i then true else L j) w := by
  obtain ⟨h1, h2, h3, h4, h5⟩ := hW
  refine ⟨?_, ?_, h3, ?_, ?_⟩
  · simp only [if_neg (Ne.symm h13), if_neg (Ne.symm hi)]
    exact fun e => ⟨(h1 e).1, fun x hx => by rw [(h1 e).2 x hx]; simp⟩
  · simp only [if_neg (Ne.symm h13), if_neg (Ne.symm h14)]; exact h2
  · simp only [if_neg (Ne.symm h14)]; exact fun e => (h4 e).quiet i hi hT
  · simp only [if_neg (Ne.symm h14)]; exact h5
theorem TextWI.no14 {T : List (Nat × Lit × Value)} {w0 w : World} {g : Nat} {L : Nat → Bool} (hW : TextWI T w0 g L w) {i : Nat} (hi : i = 0 ∨ (∃ e ∈ T, e.1 = i) ∨ i = 13) (hL : L i = false) : L 14 = false := by
  cases h : L 14 with
  | false => rfl
  | true =>
    have h13 := hW.2.1 h
    have := hW.1 h13
    rcases hi with rfl | ⟨e, he, rfl⟩ | rfl
    · rw [hL] at this; cases this.1
    · have := this.2 e he; rw [hL] at this; cases this
    · rw [hL] at h13; cases h13
theorem TextWI.no13 {T : List (Nat × Lit × Value)} {w0 w : World} {g : Nat} {L : Nat → Bool} (hW : TextWI T w0 g L w) {i : Nat} (hi : i = 0 ∨ (∃ e ∈ T, e.1 = i)) (hL : L i = false) : L 13 = false := by
  cases h : L 13 with
  | false => rfl
  | true =>
    have := hW.1 h
    rcases hi with rfl | ⟨e, he, rfl⟩
    · rw [hL] at this; cases this.1
    · have := this.2 e he; rw [hL] at this; cases this
theorem TextWI.move {T : List (Nat × Lit × Value)} {w0 w : World} {g : Nat} {L : Nat → Bool} (hW : TextWI T w0 g L w) (h0 : L 0 = true) (hT : ∀ e ∈ T, L e.1 = true) (hT13 : ∀ e ∈ T, e.1 ≠ 13) (hL : L 13 = false) : TextWI T w0 g (fun j => if j = 13 then true else L j) w := by
  have h14 := hW.no14 (.inr (.inr rfl)) hL
  obtain ⟨h1, h2, h3, h4, h5⟩ := hW
  refine ⟨fun _ => ⟨by simp [h0], fun e he => by simp [hT e he]⟩, fun _ => by simp, h3, ?_, ?_⟩
  · intro _; exact (h4 h14).quiet 13 (by decide) hT13
  · simp [h14]
theorem TextWI.make {T : List (Nat × Lit × Value)} {w0 w : World} {g : Nat} {L : Nat → Bool} (hT0 : ∀ e ∈ T, e.1 ≠ 0) (hW : TextWI T w0 g L w) (h0 : L 0 = false) : w.heap.size = w0.heap.size ∧ TextWI T w0 g (fun j => if j = 0 then true else L j) (w.alloc (.map #[] 0)) := by
  have h14 := hW.no14 (.inl rfl) h0
  have h13 := hW.no13 (.inl rfl) h0
  obtain ⟨e1, e2⟩ := (hW.2.2.2.1 h14).make hT0 h0
  exact ⟨e1, by simp [h13], by simp [h14], hW.2.2.1.trans (Ext.alloc _ _), fun _ => e2, by simp [h14]⟩
theorem TextWI.put {T : List (Nat × Lit × Value)} (hap : apartT T) (hn : T.length < maxLen) {t e : TypeId} (ht : Tryd.prog.underlying t = some (.map 58 e)) {w0 w : World} {g : Nat} {L : Nat → Bool} (hW : TextWI T w0 g L w) {i : Nat} {key : Value} {x : Lit} {v : Value} (h0 : L 0 = true) (hi : i ≠ 0) (h13' : i ≠ 13) (h14' : i ≠ 14) (hL : L i = false) (hm : (i, x, v) ∈ T) (hk : keyOf Tryd.prog 58 key = some x) :
    ∃ w', (Instr.mapUpdate t (.map (some w0.heap.size)) key v).run Tryd.prog w = .ok () w' ∧ TextWI T w0 g (fun j => if j = i then true else L j) w' := by
  have h14 := hW.no14 (.inr (.inl ⟨_, hm, rfl⟩)) hL
  have h13 := hW.no13 (.inr ⟨_, hm, rfl⟩) hL
  obtain ⟨w', h1, h2⟩ := (hW.2.2.2.1 h14).put hap hn ht h0 hi hL hm hk
  exact ⟨w', h1, by simp [Ne.symm h13', h13], by simp [Ne.symm h14', h14], h2.2.1, fun _ => h2, by simp [Ne.symm h14', h14]⟩
theorem TextWI.range {T : List (Nat × Lit × Value)} {t e : TypeId} (ht : Tryd.prog.underlying t = some (.map 58 e)) {w0 w : World} {g : Nat} {L : Nat → Bool} (hW : TextWI T w0 g L w) (hL : L 14 = false) (h13 : L 13 = true) :
    ∃ g' w', (Instr.range t (.map (some w0.heap.size))).run Tryd.prog w = .ok (.pointer (some ⟨g', 0, none⟩)) w' ∧ TextWI T w0 g' (fun j => if j = 14 then true else L j) w' := by
  obtain ⟨a0, aT⟩ := hW.1 h13
  have hM := (hW.2.2.2.1 hL).2.2.2 a0
  rw [fT_all _ _ aT, cntT_all _ _ aT] at hM
  obtain ⟨w', left, cnt, h1, h2, h3, h4, h5⟩ := hM.range spanK ht
  refine ⟨w.heap.size, w', h1, fun _ => ⟨by simp [a0], fun e he => by simp [aT e he]⟩, fun _ => by simp [h13], Below.grown hW.2.2.1 h4 hW.2.2.1.size (fun k hk => by cases hk), by simp, fun _ => ⟨hM.lt, left, cnt, h2, h3⟩⟩
end Go.Proofs.YtpapbnmacjoihaaDoor
