/- A range over a function whose iterator keeps its own place in a cell: the statement, by what one round does. No program in it. -/
import Derived.RangeFuncFrom
import Derived.RangeFuncCalls
import Derived.RangeFuncLeaves
import Derived.RangeFuncBound
import Derived.Shelf.Abstract
import Derived.WalkKit
namespace Go.Proofs.YtpapbnmacjoihaaDoor
open Go.RowKit

/-- How a round's body may be left: off its end, or by a return. -/
def roundEnd {α : Type} (Kp : World → World → Prop) (I : List α → World → Prop) (Ix : World → Prop) (xs : List α) (W : World) : Exit → Act → World → Prop
  | .normal, _, W' => KeepsOthers W W' ∧ Kp W W' ∧ I xs W'
  | .ret, _, W' => KeepsOthers W W' ∧ Ix W'
  | _, _, _ => False
abbrev Wf : Fence := Fence.wide
theorem wp_range {α : Type} {P : Program} {g : Operand} {ps : Array Tmp} {assign body : Code} {Q : Exit → Act → World → Prop} {a : Act} {w : World}
    {gf : Nat} {lb : Array Value} (hg : a.eval g = .func (.func gf) #[] lb) (eg : ∀ args w, (callFunc gf args).run P w = .ok (.enter gf args) w)
    {encs : α → Array Value} (hps : ∀ x, (encs x).size = ps.size)
    (I : List α → World → Prop) (Ix : World → Prop) (hI : OwnFrom w.heap.size I) (hIx : OwnFrom w.heap.size (fun (_ : Unit) => Ix)) (h0 : I [] w) (a₁ : α → Act)
    (Ok : List α → α → Prop) (S : List α → Prop) (Kp Ab : World → World → Prop)
    (hAb : ∀ A B, Ab A B → ∀ k, w.heap.size ≤ k → B.heap[k]? = A.heap[k]?) (hAbI : ∀ pre A B, I pre A → Ab A B → I pre B)
    (hKt : ∀ A B C, Kp A B → Kp B C → Kp A C) (hKb : ∀ A k o, w.heap.size ≤ k → Kp A (A.putObj k o)) (hKa : Kp w w → ∀ o o', Kp w ((w.alloc o).alloc o')) (hK0 : Kp w w)
    (hseq : ∀ (l : Nat) (J : List α → World → Prop) (Jx : World → Prop) (W : World), Kp w W → (∀ s A B, J s A → Ab A B → J s B) →
      (∀ pre x A, J pre A → Ok pre x → YieldAt Wf 0 P l (encs x) A fun e B => (e = .returned (.bool true) ∧ J (pre ++ [x]) B ∧ Kp A B) ∨ (e = .returned (.bool false) ∧ Jx B)) → J [] W →
      CallsIn Wf 0 P gf (#[.func (.yield l) #[] #[]] ++ lb) W fun e B => (∃ v, e = .returned v) ∧ ((∃ xs, S xs ∧ J xs B) ∨ Jx B))
    (hassign : ∀ (l : Nat) (x : α) (W : World) (K : Act → World → Prop), K (a₁ x) W →
      assign.wpIn (Wf.inRound l) 0 P (Exit.then K (fun _ _ _ => False)) { tmps := (ps.zip (encs x)).foldl (fun t (p, v) => t.setIfInBounds p v) a.tmps, defers := [] } W)
    (hbody : ∀ (l : Nat) (pre : List α) (x : α) (W : World), I pre W → Ok pre x → body.wpIn (Wf.inRound l) 0 P (roundEnd Kp I Ix (pre ++ [x]) W) (a₁ x) W)
    (hdone : ∀ (D : Nat) (xs : List α) (W : World), w.heap.size ≤ D → S xs → I xs W → W.heap[D]? = some (.deferred (some [])) → Q .normal { a with defers := { target := .collected D, args := #[] } :: a.defers } W)
    (hstop : ∀ (D : Nat) (W : World), w.heap.size ≤ D → Ix W → W.heap[D]? = some (.deferred (some [])) → (Code.ret).wpIn Wf 0 P Q { a with defers := { target := .collected D, args := #[] } :: a.defers } W) :
    (Code.rangeFunc g ps assign body).wpIn Wf 0 P Q a w := by
  refine wpIn_rangeFunc ?_
  intro fn hfn
  obtain ⟨mk, hmk⟩ : ∃ mk : LoopState → Option Code → Loop, mk = fun st pe => { state := st, pending := pe, fn, tmps := a.tmps, params := ps, assign, body, defers := w.heap.size } := ⟨_, rfl⟩
  obtain ⟨V, hV⟩ : ∃ V, V = (w.alloc (.deferred (some []))).alloc (.loop (mk .ready none)) := ⟨_, rfl⟩
  have hl0 : V.heap[w.heap.size + 1]? = some (.loop (mk .ready none)) := by
    rw [hV]; have := World.alloc_heap_new (w.alloc (.deferred (some []))) (.loop (mk .ready none)); rwa [World.size_alloc] at this
  have hd0 : V.heap[w.heap.size]? = some (.deferred (some [])) := by
    rw [hV]; exact (Below.heap_alloc _ _ _ (by simp)).trans (World.alloc_heap_new w _)
  have hi0 : I [] V := by rw [hV]; exact hI.alloc _ (hI.alloc _ h0)
  refine ⟨w.heap.size + 1, [{ target := .collected w.heap.size, args := #[] }], V, { target := .fn (.func gf) lb, args := #[.func (.yield (w.heap.size + 1)) #[] #[]] }, V, gf, #[.func (.yield (w.heap.size + 1)) #[] #[]] ++ lb, V, ?_, ?_, fun _ _ => trivial, ?_, (fun h => by cases h), ?_⟩
  · rw [hV, hmk]; exact run_enterLoop_outer _ _ _ _ _
  · simp only [resolve, hg]
    simp [go_sem]
  · simp [invoke, go_sem, eg]
  · refine (hseq (w.heap.size + 1)
      (fun pre W => I pre W ∧ W.heap[w.heap.size + 1]? = some (.loop (mk .ready none)) ∧ W.heap[w.heap.size]? = some (.deferred (some [])))
      (fun W => Ix W ∧ W.heap[w.heap.size + 1]? = some (.loop (mk .done (some .ret))) ∧ W.heap[w.heap.size]? = some (.deferred (some [])))
      V (by rw [hV]; exact hKa hK0 _ _) (fun s A B hs hab => ⟨hAbI s A B hs.1 hab, (hAb A B hab _ (by omega)).trans hs.2.1, (hAb A B hab _ (Nat.le_refl _)).trans hs.2.2⟩) ?_ ⟨hi0, hl0, hd0⟩).mono ?_
    · rintro pre x A ⟨hi, hl, hd⟩ hok
      have hlt : w.heap.size + 1 < A.heap.size := (Array.getElem?_eq_some_iff.1 hl).1
      have hy := run_yield (P := P) (args := encs x) hl (by rw [hmk]; exact hps x)
      rw [hmk] at hy
      obtain ⟨B0, hB0⟩ : ∃ B0, B0 = A.putObj (w.heap.size + 1) (.loop { mk .ready none with state := .busy }) := ⟨_, rfl⟩
      refine ⟨fn, _, assign, body, hy, roundIn_of_wpIn hfn (hassign _ x A _ ⟨B0, by rw [hB0]; exact run_beginRound hl (by rw [hmk]), ?_⟩)⟩
      have hl2 : B0.heap[w.heap.size + 1]? = some (.loop { mk .ready none with state := .busy }) := by rw [hB0]; exact World.putObj_heap_same hlt
      have hd2 : B0.heap[w.heap.size]? = some (.deferred (some [])) := by rw [hB0]; exact (World.putObj_heap_other (by omega)).trans hd
      have hk2 : Kp A B0 := by rw [hB0]; exact hKb _ _ _ (by omega)
      have hi2 : I pre B0 := by rw [hB0]; exact hI.putObj _ hi (by omega) hl rfl
      refine wpIn_mono (hbody _ pre x B0 hi2 hok) ?_
      rintro e a3 C hp
      cases e with
      | normal =>
        obtain ⟨ho, hkp, hi3⟩ := hp
        have hl3 := ho.same _ _ hl2 rfl
        have hr := run_endRound (P := P) none hl3
        have hlt3 := (Array.getElem?_eq_some_iff.1 hl3).1
        refine ⟨_, _, hr, .inl ⟨rfl, ⟨hI.putObj _ hi3 (by omega) hl3 rfl, ?_, (World.putObj_heap_other (by omega)).trans (ho.same _ _ hd2 rfl)⟩, hKt _ _ _ (hKt _ _ _ hk2 hkp) (hKb _ _ _ (by omega))⟩⟩
        rw [World.putObj_heap_same hlt3, hmk]
        rfl
      | ret =>
        obtain ⟨ho, hi3⟩ := hp
        have hl3 := ho.same _ _ hl2 rfl
        have hr := run_endRound (P := P) (some .ret) hl3
        have hlt3 := (Array.getElem?_eq_some_iff.1 hl3).1
        refine ⟨_, _, hr, .inr ⟨rfl, hIx.putObj (s := ()) _ hi3 (by omega) hl3 rfl, ?_, (World.putObj_heap_other (by omega)).trans (ho.same _ _ hd2 rfl)⟩⟩
        rw [World.putObj_heap_same hlt3, hmk]
        rfl
      | exit id => exact hp.elim
      | goto t => exact hp.elim
      | panic ch => exact hp.elim
      | outgrown => exact hp.elim
    · rintro e C ⟨⟨v, rfl⟩, (⟨xs, hS, hi, hl, hd⟩ | ⟨hi, hl, hd⟩)⟩
      · exact ⟨none, _, by have := run_endLoop (P := P) hl (by rw [hmk]; simp); rw [hmk] at this; exact this, hdone _ xs _ (Nat.le_refl _) hS (hI.putObj _ hi (by omega) hl rfl) ((World.putObj_heap_other (by omega)).trans hd)⟩
      · exact ⟨some .ret, _, by have := run_endLoop (P := P) hl (by rw [hmk]; simp); rw [hmk] at this; exact this, hstop _ _ (Nat.le_refl _) (hIx.putObj (s := ()) _ hi (by omega) hl rfl) ((World.putObj_heap_other (by omega)).trans hd)⟩
end Go.Proofs.YtpapbnmacjoihaaDoor
