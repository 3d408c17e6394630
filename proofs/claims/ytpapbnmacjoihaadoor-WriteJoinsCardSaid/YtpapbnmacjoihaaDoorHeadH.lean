/- bindle, part HeadH: contracts of the program, walked. -/
import Derived.Test.YtpapbnmacjoihaaDoorHeadK
namespace Go.Proofs.YtpapbnmacjoihaaDoor
open Go.RowKit Go.Shelf

/-! ### a header -/
structure Hd where
  name : List UInt8
  link : List UInt8
  kind : UInt8
  mode : Int
  uid : Int
  gid : Int
  time : Int
  size : Int
  gnu : Bool
  deriving DecidableEq
def Hd.zero : Hd := ⟨[], [], 0, 0, 0, 0, 0, 0, false⟩
def Hd.cells (h : Hd) : Array Value := #[.string (bs h.name), .string (bs h.link), .int .u8 (h.kind.toNat : Int), .int .i64 h.mode, .int .i64 h.uid, .int .i64 h.gid, .int .i64 h.time, .int .i64 h.size, .bool h.gnu]
def Hd.val (h : Hd) : Value := .agg h.cells
/-- Block g is a header's. -/
def HdBlk (w : World) (g : Nat) (h : Hd) : Prop := w.heap[g]? = some (.cells h.cells 27 (0, 0))
theorem HdBlk.ext {w w' : World} {g : Nat} {h : Hd} (hB : HdBlk w g h) (hE : Ext w w') : HdBlk w' g h := Ext.heap hE hB
theorem HdBlk.lt {w : World} {g : Nat} {h : Hd} (hB : HdBlk w g h) : g < w.heap.size := (Array.getElem?_eq_some_iff.1 hB).1
theorem HdBlk.cells {w : World} {g : Nat} {h : Hd} (hB : HdBlk w g h) :
    w.cell? ⟨g, 0, none⟩ = some (.string (bs h.name)) ∧ w.cell? ⟨g, 1, none⟩ = some (.string (bs h.link)) ∧ w.cell? ⟨g, 2, none⟩ = some (.int .u8 (h.kind.toNat : Int)) ∧ w.cell? ⟨g, 3, none⟩ = some (.int .i64 h.mode) ∧ w.cell? ⟨g, 4, none⟩ = some (.int .i64 h.uid) ∧
    w.cell? ⟨g, 5, none⟩ = some (.int .i64 h.gid) ∧ w.cell? ⟨g, 6, none⟩ = some (.int .i64 h.time) ∧ w.cell? ⟨g, 7, none⟩ = some (.int .i64 h.size) ∧ w.cell? ⟨g, 8, none⟩ = some (.bool h.gnu) := by
  unfold HdBlk at hB
  simp [World.cell?, hB, Hd.cells]
theorem HdBlk.frozen {w : World} {g : Nat} {h : Hd} (hB : HdBlk w g h) (i : Nat) : w.frozen? ⟨g, i, none⟩ = false := by
  unfold HdBlk at hB
  simp [World.frozen?, hB]
theorem Ext.setHd {w w2 : World} (h : Ext w w2) {v0 v1 v2 v3 v4 v5 v6 v7 v8 : Value} : Ext w (((((((((w2.setCell ⟨w.heap.size, 0, none⟩ v0).setCell ⟨w.heap.size, 1, none⟩ v1).setCell ⟨w.heap.size, 2, none⟩ v2).setCell ⟨w.heap.size, 3, none⟩ v3).setCell ⟨w.heap.size, 4, none⟩ v4).setCell ⟨w.heap.size, 5, none⟩ v5).setCell ⟨w.heap.size, 6, none⟩ v6).setCell ⟨w.heap.size, 7, none⟩ v7).setCell ⟨w.heap.size, 8, none⟩ v8) :=
  ((((((((h.setCell (Nat.le_refl _) _).setCell (Nat.le_refl _) _).setCell (Nat.le_refl _) _).setCell (Nat.le_refl _) _).setCell (Nat.le_refl _) _).setCell (Nat.le_refl _) _).setCell (Nat.le_refl _) _).setCell (Nat.le_refl _) _).setCell (Nat.le_refl _) _
def posixL : List UInt8 := [117, 115, 116, 97, 114, 0, 48, 48]
def gnuL : List UInt8 := [117, 115, 116, 97, 114, 32, 32, 0]
def numOk (b : List UInt8) : Bool := (fieldS (fld b 100 8)).2 && ((fieldS (fld b 108 8)).2 && ((fieldS (fld b 116 8)).2 && ((fieldS (fld b 136 12)).2 && (fieldS (fld b 124 12)).2)))
def nameS (b : List UInt8) : List UInt8 :=
  if fld b 257 8 = posixL ∧ untilS (fld b 345 155) ≠ [] then untilS (fld b 345 155) ++ [47] ++ untilS (fld b 0 100) else untilS (fld b 0 100)
def kindS (b : List UInt8) : UInt8 := if b.getD 156 0 = 0 then 48 else b.getD 156 0
def headS (b : List UInt8) : Hd :=
  ⟨nameS b, untilS (fld b 157 100), kindS b, (fieldS (fld b 100 8)).1, (fieldS (fld b 108 8)).1, (fieldS (fld b 116 8)).1, (fieldS (fld b 136 12)).1, (fieldS (fld b 124 12)).1, decide (fld b 257 8 = gnuL)⟩
/-- a block's header, and an error's number. -/
def parseS (b : List UInt8) : Hd × Nat :=
  if b.length ≠ 512 then (Hd.zero, 1)
  else if ¬ ((fieldS (fld b 148 8)).2 = true ∧ (fieldS (fld b 148 8)).1 = sumS b) then (Hd.zero, 3)
  else if ¬ (fld b 257 8 = posixL ∨ fld b 257 8 = gnuL) then (Hd.zero, 9)
  else if ¬ numOk b = true then (Hd.zero, 4)
  else (headS b, 0)
def ParsePost (w : World) (b : List UInt8) (e : Ending) (w' : World) : Prop := e = .returned (.tuple #[(parseS b).1.val, .int .i64 (parseS b).2]) ∧ Ext w w'


theorem heap_set1 {w : World} {g : Nat} {c : Array Value} {t : TypeId} (h : w.heap[g]? = some (.cells c t (0, 0))) (i : Nat) (v : Value) : (w.setCell ⟨g, i, none⟩ v).heap[g]? = some (.cells (c.setIfInBounds i v) t (0, 0)) := by
  simp [World.setCell, Array.getElem?_modify, h]
theorem HdBlk.put {w : World} {g : Nat} {h0 : Hd} (hB : HdBlk w g h0) (h : Hd) :
    HdBlk (((((((((w.setCell ⟨g, 0, none⟩ (.string (bs h.name))).setCell ⟨g, 1, none⟩ (.string (bs h.link))).setCell ⟨g, 2, none⟩ (.int .u8 (h.kind.toNat : Int))).setCell ⟨g, 3, none⟩ (.int .i64 h.mode)).setCell ⟨g, 4, none⟩ (.int .i64 h.uid)).setCell ⟨g, 5, none⟩ (.int .i64 h.gid)).setCell ⟨g, 6, none⟩ (.int .i64 h.time)).setCell ⟨g, 7, none⟩ (.int .i64 h.size)).setCell ⟨g, 8, none⟩ (.bool h.gnu)) g h := by
  unfold HdBlk at hB ⊢
  rw [heap_set1 (heap_set1 (heap_set1 (heap_set1 (heap_set1 (heap_set1 (heap_set1 (heap_set1 (heap_set1 hB 0 (.string (bs h.name))) 1 (.string (bs h.link))) 2 (.int .u8 (h.kind.toNat : Int))) 3 (.int .i64 h.mode)) 4 (.int .i64 h.uid)) 5 (.int .i64 h.gid)) 6 (.int .i64 h.time)) 7 (.int .i64 h.size)) 8 (.bool h.gnu)]
  simp only [Hd.cells, List.setIfInBounds_toArray, List.set_cons_zero, List.set_cons_succ]
theorem grown_put {w : World} {g : Nat} {v0 v1 v2 v3 v4 v5 v6 v7 v8 : Value} :
    w.grownBy (((((((((w.setCell ⟨g, 0, none⟩ v0).setCell ⟨g, 1, none⟩ v1).setCell ⟨g, 2, none⟩ v2).setCell ⟨g, 3, none⟩ v3).setCell ⟨g, 4, none⟩ v4).setCell ⟨g, 5, none⟩ v5).setCell ⟨g, 6, none⟩ v6).setCell ⟨g, 7, none⟩ v7).setCell ⟨g, 8, none⟩ v8) (some g) :=
  grown_set (grown_set (grown_set (grown_set (grown_set (grown_set (grown_set (grown_set (grown_set (World.grownBy.refl _ _) 0 _) 1 _) 2 _) 3 _) 4 _) 5 _) 6 _) 7 _) 8 _
theorem HdBlk.put_ex {w : World} {g : Nat} {h0 : Hd} (hB : HdBlk w g h0) (h : Hd) : ∃ w1,
    (((((((((w.setCell ⟨g, 0, none⟩ (.string (bs h.name))).setCell ⟨g, 1, none⟩ (.string (bs h.link))).setCell ⟨g, 2, none⟩ (.int .u8 (h.kind.toNat : Int))).setCell ⟨g, 3, none⟩ (.int .i64 h.mode)).setCell ⟨g, 4, none⟩ (.int .i64 h.uid)).setCell ⟨g, 5, none⟩ (.int .i64 h.gid)).setCell ⟨g, 6, none⟩ (.int .i64 h.time)).setCell ⟨g, 7, none⟩ (.int .i64 h.size)).setCell ⟨g, 8, none⟩ (.bool h.gnu)) = w1 ∧ HdBlk w1 g h ∧ w.grownBy w1 (some g) :=
  ⟨_, rfl, hB.put h, grown_put⟩
theorem HdBlk.set_name {w : World} {g : Nat} {h : Hd} (hB : HdBlk w g h) (n : List UInt8) : HdBlk (w.setCell ⟨g, 0, none⟩ (.string (bs n))) g { h with name := n } := by
  unfold HdBlk at hB ⊢
  rw [heap_set1 hB]
  simp only [Hd.cells, List.setIfInBounds_toArray, List.set_cons_zero, List.set_cons_succ]
theorem HdBlk.set_kind {w : World} {g : Nat} {h : Hd} (hB : HdBlk w g h) (k : UInt8) : HdBlk (w.setCell ⟨g, 2, none⟩ (.int .u8 (k.toNat : Int))) g { h with kind := k } := by
  unfold HdBlk at hB ⊢
  rw [heap_set1 hB]
  simp only [Hd.cells, List.setIfInBounds_toArray, List.set_cons_zero, List.set_cons_succ]
theorem HdBlk.set_mode {w : World} {g : Nat} {h : Hd} (hB : HdBlk w g h) (n : Int) : HdBlk (w.setCell ⟨g, 3, none⟩ (.int .i64 n)) g { h with mode := n } := by
  unfold HdBlk at hB ⊢
  rw [heap_set1 hB]
  simp only [Hd.cells, List.setIfInBounds_toArray, List.set_cons_zero, List.set_cons_succ]
theorem HdBlk.set_uid {w : World} {g : Nat} {h : Hd} (hB : HdBlk w g h) (n : Int) : HdBlk (w.setCell ⟨g, 4, none⟩ (.int .i64 n)) g { h with uid := n } := by
  unfold HdBlk at hB ⊢
  rw [heap_set1 hB]
  simp only [Hd.cells, List.setIfInBounds_toArray, List.set_cons_zero, List.set_cons_succ]
theorem HdBlk.set_gid {w : World} {g : Nat} {h : Hd} (hB : HdBlk w g h) (n : Int) : HdBlk (w.setCell ⟨g, 5, none⟩ (.int .i64 n)) g { h with gid := n } := by
  unfold HdBlk at hB ⊢
  rw [heap_set1 hB]
  simp only [Hd.cells, List.setIfInBounds_toArray, List.set_cons_zero, List.set_cons_succ]
theorem HdBlk.set_time {w : World} {g : Nat} {h : Hd} (hB : HdBlk w g h) (n : Int) : HdBlk (w.setCell ⟨g, 6, none⟩ (.int .i64 n)) g { h with time := n } := by
  unfold HdBlk at hB ⊢
  rw [heap_set1 hB]
  simp only [Hd.cells, List.setIfInBounds_toArray, List.set_cons_zero, List.set_cons_succ]
theorem HdBlk.set_size {w : World} {g : Nat} {h : Hd} (hB : HdBlk w g h) (n : Int) : HdBlk (w.setCell ⟨g, 7, none⟩ (.int .i64 n)) g { h with size := n } := by
  unfold HdBlk at hB ⊢
  rw [heap_set1 hB]
  simp only [Hd.cells, List.setIfInBounds_toArray, List.set_cons_zero, List.set_cons_succ]
theorem HdBlk.set_gnu {w : World} {g : Nat} {h : Hd} (hB : HdBlk w g h) (x : Bool) : HdBlk (w.setCell ⟨g, 8, none⟩ (.bool x)) g { h with gnu := x } := by
  unfold HdBlk at hB ⊢
  rw [heap_set1 hB]
  simp only [Hd.cells, List.setIfInBounds_toArray, List.set_cons_zero, List.set_cons_succ]
theorem HdBlk.other {w : World} {g : Nat} {h : Hd} (hB : HdBlk w g h) {p : Addr} (hp : p.block ≠ g) (u : Value) : HdBlk (w.setCell p u) g h := by
  unfold HdBlk at hB ⊢
  rw [Below.heap_setCell _ _ _ _ (Ne.symm hp)]; exact hB

theorem numOk_iff (b : List UInt8) : numOk b = true ↔ ∀ a n i, (a, n, i) ∈ flds → (fieldS (fld b a n)).2 = true := by
  unfold numOk
  constructor
  · intro h a n i hm
    simp only [Bool.and_eq_true] at h
    simp only [flds, List.mem_cons, List.not_mem_nil, or_false, Prod.mk.injEq] at hm
    rcases hm with ⟨rfl, rfl, rfl⟩ | ⟨rfl, rfl, rfl⟩ | ⟨rfl, rfl, rfl⟩ | ⟨rfl, rfl, rfl⟩ | ⟨rfl, rfl, rfl⟩
    · exact h.1
    · exact h.2.1
    · exact h.2.2.1
    · exact h.2.2.2.1
    · exact h.2.2.2.2
  · intro h
    simp only [Bool.and_eq_true]
    exact ⟨h 100 8 3 (by simp [flds]), h 108 8 4 (by simp [flds]), h 116 8 5 (by simp [flds]), h 136 12 6 (by simp [flds]), h 124 12 7 (by simp [flds])⟩
/-- While the numbers are read: C is the header's cells; what has come up of the fields is right, and stands there. -/
def NumCells (b : List UInt8) (left : Lit → Bool) (C : Array Value) : Prop :=
  C.size = 9 ∧ C[0]? = some (.string (bs (nameS b))) ∧ C[1]? = some (.string (bs (untilS (fld b 157 100)))) ∧ C[2]? = some (.int .u8 ((kindS b).toNat : Int)) ∧ C[8]? = some (.bool (decide (fld b 257 8 = gnuL))) ∧
  ∀ a n i, (a, n, i) ∈ flds → left (kl a n) = false → (fieldS (fld b a n)).2 = true ∧ C[i]? = some (.int .i64 (fieldS (fld b a n)).1)
theorem NumCells.set {b : List UInt8} {left : Lit → Bool} {C : Array Value} (h : NumCells b left C) {a n i : Nat} (hm : (a, n, i) ∈ flds) (hok : (fieldS (fld b a n)).2 = true) :
    NumCells b (fun x => left x && !x.sameKey (kl a n)) (C.setIfInBounds i (.int .i64 (fieldS (fld b a n)).1)) := by
  obtain ⟨h0, h1, h2, h3, h4, h5⟩ := h
  have hi := flds_bd hm
  refine ⟨by simpa using h0, ?_, ?_, ?_, ?_, ?_⟩
  · rw [Array.getElem?_setIfInBounds, if_neg (by omega)]; exact h1
  · rw [Array.getElem?_setIfInBounds, if_neg (by omega)]; exact h2
  · rw [Array.getElem?_setIfInBounds, if_neg (by omega)]; exact h3
  · rw [Array.getElem?_setIfInBounds, if_neg (by omega)]; exact h4
  · intro a' n' i' hm' hl
    by_cases e : i = i'
    · obtain ⟨rfl, rfl, rfl⟩ := flds_inj hm hm' (.inr e)
      exact ⟨hok, by rw [Array.getElem?_setIfInBounds, if_pos rfl, if_pos (by omega)]⟩
    · have hs : (kl a' n').sameKey (kl a n) = false := by
        cases hh : (kl a' n').sameKey (kl a n) with
        | false => rfl
        | true => exact absurd (flds_inj hm hm' (.inl hh)).2.2 e
      change (left (kl a' n') && !(kl a' n').sameKey (kl a n)) = false at hl
      rw [hs] at hl
      simp only [Bool.not_false, Bool.and_true] at hl
      have h6 := h5 a' n' i' hm' hl
      refine ⟨h6.1, ?_⟩
      rw [Array.getElem?_setIfInBounds, if_neg e]
      exact h6.2
theorem NumCells.done {b : List UInt8} {left : Lit → Bool} {C : Array Value} (h : NumCells b left C) (hl : ∀ x, left x = false) : C = (headS b).cells ∧ numOk b = true := by
  obtain ⟨h0, h1, h2, h3, h4, h5⟩ := h
  refine ⟨?_, (numOk_iff b).2 fun a n i hm => (h5 a n i hm (hl _)).1⟩
  have m3 := (h5 100 8 3 (by simp [flds]) (hl _)).2
  have m4 := (h5 108 8 4 (by simp [flds]) (hl _)).2
  have m5 := (h5 116 8 5 (by simp [flds]) (hl _)).2
  have m6 := (h5 136 12 6 (by simp [flds]) (hl _)).2
  have m7 := (h5 124 12 7 (by simp [flds]) (hl _)).2
  apply Array.ext_getElem?
  intro i
  by_cases hi : i < 9
  · match i, hi with
    | 0, _ => exact h1
    | 1, _ => exact h2
    | 2, _ => exact h3
    | 3, _ => exact m3
    | 4, _ => exact m4
    | 5, _ => exact m5
    | 6, _ => exact m6
    | 7, _ => exact m7
    | 8, _ => exact h4
  · rw [Array.getElem?_eq_none (by omega), Array.getElem?_eq_none (by simp [Hd.cells, headS]; omega)]
theorem NumCells.start (b : List UInt8) (left : Lit → Bool) (hl : ∀ a n i, (a, n, i) ∈ flds → left (kl a n) = true) (m u g t z : Int) :
    NumCells b left (Hd.cells ⟨nameS b, untilS (fld b 157 100), kindS b, m, u, g, t, z, decide (fld b 257 8 = gnuL)⟩) :=
  ⟨rfl, rfl, rfl, rfl, rfl, fun a n i hm h => by rw [hl a n i hm] at h; cases h⟩
theorem num_left {h a n i : Nat} (hm : (a, n, i) ∈ flds) : (numF h (kl a n)).isSome = true := by
  simp only [flds, List.mem_cons, List.not_mem_nil, or_false, Prod.mk.injEq] at hm
  have hself : ∀ a n, (kl a n).sameKey (kl a n) = true := fun a n => WideAt.sameKey_self (by unfold kl; trivial)
  simp only [numF, numT, fT, Bool.and_true]
  rcases hm with ⟨rfl, rfl, rfl⟩ | ⟨rfl, rfl, rfl⟩ | ⟨rfl, rfl, rfl⟩ | ⟨rfl, rfl, rfl⟩ | ⟨rfl, rfl, rfl⟩
  all_goals (repeat' split) <;> first | rfl | (rename_i h1; exact absurd (hself _ _) (by simp_all; done)) | (simp_all; done)
theorem cell_of {w : World} {g : Nat} {C : Array Value} {t : TypeId} (h : w.heap[g]? = some (.cells C t (0, 0))) {i : Nat} {v : Value} (hv : C[i]? = some v) : w.cell? ⟨g, i, none⟩ = some v := by
  simp [World.cell?, h, hv]
theorem frozen_of {w : World} {g : Nat} {C : Array Value} {t : TypeId} (h : w.heap[g]? = some (.cells C t (0, 0))) (i : Nat) : w.frozen? ⟨g, i, none⟩ = false := by
  simp [World.frozen?, h]
end Go.Proofs.YtpapbnmacjoihaaDoor
