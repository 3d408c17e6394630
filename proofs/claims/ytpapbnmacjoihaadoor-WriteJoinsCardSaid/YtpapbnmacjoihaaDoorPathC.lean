/- path.Clean. -/
import Derived.Test.YtpapbnmacjoihaaDoorPathB
import Derived.Maps.AppendAt
import Derived.Deep.DeepMust
import Derived.RangeFuncBox
namespace Go.Proofs.YtpapbnmacjoihaaDoor
open Go.RowKit Go.Shelf
attribute [local go_sem] Oper.semAt_some

set_option maxHeartbeats 1000000 in
set_option maxRecDepth 100000 in
theorem strings_SplitSeq (s : List UInt8) (w : World) :
    Calls Tryd.prog 101 #[.string (bs s), .string ⟨#[47]⟩] w fun e w' => Hid (∃ b, w.heap.size ≤ b ∧ e = .returned (.func (.func 118) #[] #[.pointer (some ⟨b + 1, 0, none⟩), .pointer (some ⟨b, 0, none⟩), .pointer (some ⟨b + 1 + 1, 0, none⟩)]) ∧ Seq3 b s w' ∧ Ext w w') := by
  have hin : Calls Tryd.prog 109 #[.string (bs s), .string ⟨#[47]⟩, .int .i64 0] w fun e w' => e = .returned (.func (.func 118) #[] #[.pointer (some ⟨w.heap.size + 1, 0, none⟩), .pointer (some ⟨w.heap.size, 0, none⟩), .pointer (some ⟨w.heap.size + 1 + 1, 0, none⟩)]) ∧
      w' = ((w.alloc (.cells #[.string (bs s)] 9)).alloc (.cells #[.string ⟨#[47]⟩] 9)).alloc (.cells #[.int .i64 0] 3) := by
    go_enter Tryd.func109, Tryd.ntmps109
    go_wp2
    go_ret
    exact ⟨rfl, rfl⟩
  have HIN := Lib.hid hin
  clear hin
  go_enter Tryd.func101, Tryd.ntmps101
  go_wp2_with fail
  refine HIN.out.mono ?_
  rintro e w' ⟨rfl, hw'⟩
  have Hw := Lib.hid hw'
  clear hw'
  go_wp2
  go_ret
  obtain ⟨wa, hwa⟩ : ∃ wa, wa = w.alloc (.cells #[.string (bs s)] 9) := ⟨_, rfl⟩
  have sa : wa.heap.size = w.heap.size + 1 := by rw [hwa]; simp
  have ea : wa.heap[w.heap.size]? = some (.cells #[.string (bs s)] 9 (0, 0)) := by rw [hwa]; exact heap_alloc_new _ _
  obtain ⟨wb, hwb⟩ : ∃ wb, wb = wa.alloc (.cells #[.string ⟨#[47]⟩] 9) := ⟨_, rfl⟩
  have sb : wb.heap.size = w.heap.size + 1 + 1 := by rw [hwb]; simp [sa]
  have eb : wb.heap[wa.heap.size]? = some (.cells #[.string ⟨#[47]⟩] 9 (0, 0)) := by rw [hwb]; exact heap_alloc_new _ _
  rw [sa] at eb
  have hE1 : Ext w wa := by rw [hwa]; exact Ext.alloc _ _
  have hE2 : Ext wa wb := by rw [hwb]; exact Ext.alloc _ _
  have hw3 : w' = wb.alloc (.cells #[.int .i64 0] 3) := by rw [Hw.out, hwb, hwa]
  have hE3 : Ext wb w' := by rw [hw3]; exact Ext.alloc _ _
  have ec : w'.heap[wb.heap.size]? = some (.cells #[.int .i64 0] 3 (0, 0)) := by rw [hw3]; exact heap_alloc_new _ _
  rw [sb] at ec
  exact ⟨w.heap.size, Nat.le_refl _, rfl, ⟨Ext.heap (hE2.trans hE3) ea, Ext.heap hE3 eb, ec⟩, hE1.trans (hE2.trans hE3)⟩

theorem prefix_slash (l : List UInt8) : Lib.hasPrefix l [47] = (l.getD 0 0 == 47) := by
  unfold Lib.hasPrefix
  cases l with
  | nil => rfl
  | cons x t =>
    show ([47] : List UInt8).isPrefixOf (x :: t) = (x == 47)
    simp only [List.isPrefixOf]
    rw [Bool.eq_iff_iff]
    simp only [Bool.and_true, beq_iff_eq]
    exact ⟨fun e => e.symm, fun e => e.symm⟩
/-- The two cells of the results, and that nothing else has turned. -/
def Cl2 (w : World) (s : ByteArray) (n : Int) (W : World) : Prop :=
  Ext w W ∧ W.heap[w.heap.size]? = some (.cells #[.string s] 9 (0, 0)) ∧ W.heap[w.heap.size + 1]? = some (.cells #[.int .i64 n] 28 (0, 0))
theorem Cl2.made (w : World) : Cl2 w ⟨#[]⟩ 0 ((w.alloc (.cells #[.string ⟨#[]⟩] 9)).alloc (.cells #[.int .i64 0] 28)) := by
  obtain ⟨wa, hwa⟩ : ∃ wa, wa = w.alloc (.cells #[.string ⟨#[]⟩] 9) := ⟨_, rfl⟩
  have sa : wa.heap.size = w.heap.size + 1 := by rw [hwa]; simp
  have ea : wa.heap[w.heap.size]? = some (.cells #[.string ⟨#[]⟩] 9 (0, 0)) := by rw [hwa]; exact heap_alloc_new _ _
  have eb : (wa.alloc (.cells #[.int .i64 0] 28)).heap[wa.heap.size]? = some (.cells #[.int .i64 0] 28 (0, 0)) := heap_alloc_new _ _
  rw [sa] at eb
  have hE1 : Ext w wa := by rw [hwa]; exact Ext.alloc _ _
  rw [← hwa]
  exact ⟨hE1.trans (Ext.alloc _ _), Ext.heap (Ext.alloc _ _) ea, eb⟩
theorem Cl2.ext {w W W' : World} {s : ByteArray} {n : Int} (h : Cl2 w s n W) (hE : Ext W W') : Cl2 w s n W' := ⟨h.1.trans hE, Ext.heap hE h.2.1, Ext.heap hE h.2.2⟩
theorem Cl2.set {w W : World} {s s' : ByteArray} {n n' : Int} (h : Cl2 w s n W) : Cl2 w s' n' ((W.setCell ⟨w.heap.size, 0, none⟩ (.string s')).setCell ⟨w.heap.size + 1, 0, none⟩ (.int .i64 n')) := by
  refine ⟨(h.1.setCell (p := ⟨w.heap.size, 0, none⟩) (Nat.le_refl _) _).setCell (p := ⟨w.heap.size + 1, 0, none⟩) (by simp) _, ?_, ?_⟩
  · rw [Below.heap_setCell _ _ _ _ (by simp)]
    simp [World.setCell, Array.getElem?_modify, h.2.1]
  · have : (W.setCell ⟨w.heap.size, 0, none⟩ (.string s')).heap[w.heap.size + 1]? = some (.cells #[.int .i64 n] 28 (0, 0)) := by
      rw [Below.heap_setCell _ _ _ _ (by simp)]; exact h.2.2
    simp [World.setCell, Array.getElem?_modify] at this ⊢
    simp [this]

theorem info_str : (Tryd.prog.info? 9).map (fun i => (i.zero, i.size, i.bytes)) = some (some (.string ⟨#[]⟩), 1, 16) := by kernel_rfl
/-- What a change that turns at most a block that is no cells, from B on, keeps. -/
def Calm (B : Nat) (W W' : World) : Prop := ∃ row, W.grownBy W' row ∧ ∀ r, row = some r → B ≤ r ∧ ∃ o : Obj, W.heap[r]? = some o ∧ o.isCells = false
theorem Calm.cells {B : Nat} {W W' : World} (h : Calm B W W') {k : Nat} {c : Array Value} {t : TypeId} {f : Nat × Nat} (hk : W.heap[k]? = some (.cells c t f)) : W'.heap[k]? = some (.cells c t f) := by
  obtain ⟨row, hg, hr⟩ := h
  exact (grownBy_keeps_cells hg (fun r e => (hr r e).2) hk rfl).trans hk
theorem Calm.ext {w : World} {B : Nat} {W W' : World} (h : Calm B W W') (hE : Ext w W) (hB : w.heap.size ≤ B) : Ext w W' := by
  obtain ⟨row, hg, hr⟩ := h
  exact Below.grown hE hg hE.size fun k e => Nat.le_trans hB (hr k e).1
theorem Calm.cl2 {w : World} {B : Nat} {W W' : World} {s : ByteArray} {n : Int} (h : Calm B W W') (hc : Cl2 w s n W) (hB : w.heap.size ≤ B) : Cl2 w s n W' := ⟨h.ext hc.1 hB, h.cells hc.2.1, h.cells hc.2.2⟩
theorem Calm.row {B base : Nat} {W W' : World} {e : TypeId} {v : Value} {n : Nat} {xs : List Value} (h : Calm B W W') (ho : W.ownsRow base e 1 v n xs) : W'.ownsRow base e 1 v n xs := by
  obtain ⟨h1, h2 | ⟨g, cap, cur, hv, hb, hg, rest⟩⟩ := ho
  · exact ⟨h1, .inl h2⟩
  · exact ⟨h1, .inr ⟨g, cap, cur, hv, hb, h.cells hg, rest⟩⟩
/-- The parts that have come, as they lie. -/
def CI (w : World) (q base : Nat) (pre : List (List UInt8)) (W : World) : Prop :=
  Cl2 w ⟨#[]⟩ 0 W ∧ [46, 46] ∉ pre ∧ base ≤ W.heap.size ∧ ∃ v, W.heap[q]? = some (.cells #[v] 120 (0, 0)) ∧ W.ownsRow base 9 1 v (pre.filter keepB).length ((pre.filter keepB).map fun p => .string (bs p))
theorem CI.calm {w : World} {q base B : Nat} {pre : List (List UInt8)} {W W' : World} (h : CI w q base pre W) (hc : Calm B W W') (hB : w.heap.size ≤ B) : CI w q base pre W' := by
  obtain ⟨h1, h2, h3, v, h4, h5⟩ := h
  have hsz : W.heap.size ≤ W'.heap.size := by obtain ⟨row, hg, _⟩ := hc; exact hg.size
  exact ⟨hc.cl2 h1 hB, h2, by omega, v, hc.cells h4, hc.row h5⟩
theorem CI.other {w : World} {q base b : Nat} {pre : List (List UInt8)} {W : World} {u : Value} (h : CI w q base pre W) (h1 : w.heap.size + 1 < b) (h2 : q ≠ b) (h3 : b < base) : CI w q base pre (W.setCell ⟨b, 0, none⟩ u) := by
  obtain ⟨a1, a2, a3, v, a4, a5⟩ := h
  refine ⟨⟨a1.1.setCell (p := ⟨b, 0, none⟩) (by simp; omega) _, ?_, ?_⟩, a2, by simpa using a3, v, ?_, ?_⟩
  · rw [Below.heap_setCell _ _ _ _ (by simp; omega)]; exact a1.2.1
  · rw [Below.heap_setCell _ _ _ _ (by simp; omega)]; exact a1.2.2
  · rw [Below.heap_setCell _ _ _ _ (by simpa using h2)]; exact a4
  · obtain ⟨b1, b2 | ⟨g, cap, cur, hv, hb, hg, rest⟩⟩ := a5
    · exact ⟨b1, .inl b2⟩
    · exact ⟨b1, .inr ⟨g, cap, cur, hv, hb, by rw [Below.heap_setCell _ _ _ _ (by simp; omega)]; exact hg, rest⟩⟩
theorem CI.skip {w : World} {q base : Nat} {pre : List (List UInt8)} {W : World} {x : List UInt8} (h : CI w q base pre W) (hx : keepB x = false) (h2 : x ≠ [46, 46]) : CI w q base (pre ++ [x]) W := by
  obtain ⟨a1, a2, a3, v, a4, a5⟩ := h
  have e : (pre ++ [x]).filter keepB = pre.filter keepB := by rw [List.filter_append, List.filter_cons, hx]; simp
  refine ⟨a1, ?_, a3, v, a4, by rw [e]; exact a5⟩
  rw [List.mem_append, List.mem_singleton]
  exact fun h => h.elim a2 (fun e => h2 e.symm)
theorem CI.app {w : World} {q base b : Nat} {pre : List (List UInt8)} {W w3 : World} {x : List UInt8} {v v' : Value} (hc : Cl2 w ⟨#[]⟩ 0 W) (hnd : [46, 46] ∉ pre) (hbs : base ≤ W.heap.size) (hrow : W.ownsRow base 9 1 v (pre.filter keepB).length ((pre.filter keepB).map fun p => .string (bs p)))
    (hx : keepB x = true) (h2 : x ≠ [46, 46]) (hown' : w3.ownsRow base 9 1 v' ((pre.filter keepB).length + 1) (((pre.filter keepB).map fun p => .string (bs p)) ++ [.string (bs x)]))
    (hg : (W.alloc (.cells #[.string (bs x)] 9)).grownBy w3 v.ownBlock) (hq3 : w3.heap[q]? = some (.cells #[v] 120 (0, 0))) (hr : w.heap.size + 1 < q) (hqb : q < b) (hb : b + 1 + 1 < base) :
    KeepsOthers W (w3.setCell ⟨q, 0, none⟩ v') ∧ Keep3 b W (w3.setCell ⟨q, 0, none⟩ v') ∧ CI w q base (pre ++ [x]) (w3.setCell ⟨q, 0, none⟩ v') := by
  have hlt := hrow.lt
  have hsz := hg.size
  simp only [World.size_alloc] at hsz
  have hblk : ∀ k, k < W.heap.size → k < base → w3.heap[k]? = W.heap[k]? := fun k h1 h2 => (hg.block k (by simp; omega) (fun e => by have := (hlt k e.symm).1; omega)).trans (Below.heap_alloc _ _ _ h1)
  refine ⟨((KeepsOthers.alloc W _).trans (KeepsOthers.of_grownBy hg ?_)).trans (KeepsOthers.setCell _ _ _), ?_, ?_⟩
  · intro j o hj ho
    obtain ⟨_, ⟨rfl, _⟩ | ⟨g, cap, cur, rfl, _, hgg, _⟩⟩ := hrow
    · cases hj
    · cases hj
      rw [Below.heap_alloc _ _ _ (Array.getElem?_eq_some_iff.1 hgg).1, hgg] at ho
      cases ho
      rfl
  · intro k hk
    rw [Below.heap_setCell _ _ _ _ (by simp; omega)]
    exact hblk k (by omega) (by omega)
  · have hE3 : Ext w w3 := Below.grown (hc.1.trans (Ext.alloc W _)) hg (hc.1.trans (Ext.alloc W _)).size (fun k e => by have := (hlt k e).1; omega)
    refine ⟨⟨hE3.setCell (p := ⟨q, 0, none⟩) (by simp; omega) _, ?_, ?_⟩, ?_, by simp; omega, v', ?_, ?_⟩
    · rw [Below.heap_setCell _ _ _ _ (by simp; omega), hblk _ (Array.getElem?_eq_some_iff.1 hc.2.1).1 (by omega)]
      exact hc.2.1
    · rw [Below.heap_setCell _ _ _ _ (by simp; omega), hblk _ (Array.getElem?_eq_some_iff.1 hc.2.2).1 (by omega)]
      exact hc.2.2
    · rw [List.mem_append, List.mem_singleton]
      exact fun h => h.elim hnd (fun e => h2 e.symm)
    · simp [World.setCell, Array.getElem?_modify, hq3]
    · have e : (pre ++ [x]).filter keepB = pre.filter keepB ++ [x] := by rw [List.filter_append, List.filter_cons, hx]; simp
      rw [e, List.length_append, List.map_append]
      obtain ⟨b1, b2 | ⟨g, cap, cur, hv, hb', hgg, rest⟩⟩ := hown'
      · exact ⟨b1, .inl b2⟩
      · exact ⟨b1, .inr ⟨g, cap, cur, hv, hb', by rw [Below.heap_setCell _ _ _ _ (by simp; omega)]; exact hgg, rest⟩⟩
theorem join_own {base : Nat} {W : World} {v : Value} {ks : List (List UInt8)} (hrow : W.ownsRow base 9 1 v ks.length (ks.map fun p => .string (bs p))) (hn : ks.length ≤ 140737488351232) (hlen : (Lib.join ks [47]).length ≤ 140737488351232) :
    Calls Tryd.prog 102 #[v, .string ⟨#[47]⟩] W fun e w' => e = .returned (.string (bs (Lib.join ks [47]))) ∧ Ext W w' := by
  obtain ⟨h1, ⟨rfl, h0⟩ | ⟨g, cap, cur, rfl, hb, hgg, hnc, hcm, hcs, ht⟩⟩ := hrow
  · have e : ks = [] := List.eq_nil_of_length_eq_zero h0
    subst e
    refine (Tryd.strings_Join_none none 0 ⟨#[47]⟩ W).mono fun e w' h => ⟨h.1, ?_⟩
    rw [h.2]; exact Ext.refl _
  · by_cases h0 : ks = []
    · subst h0
      refine (Tryd.strings_Join_none (some ⟨g, 0, none⟩) cap ⟨#[47]⟩ W).mono fun e w' h => ⟨h.1, ?_⟩
      rw [h.2]; exact Ext.refl _
    · have hm : (ks.map bs).map (·.data.toList) = ks := by rw [List.map_map]; exact List.map_id _
      have := Tryd.strings_Join g 0 cap (ks.map bs) ⟨#[47]⟩ W (fun j x hj => by
        rw [List.getElem?_map] at hj
        obtain ⟨k, hk, rfl⟩ := Option.map_eq_some_iff.1 hj
        have hjl : j < ks.length := (List.getElem?_eq_some_iff.1 hk).1
        rw [Nat.zero_add, cell_of_row W g j cur 9 (0, 0) hgg]
        have h2 : (cur.toList.take (ks.length * 1))[j]? = (ks.map fun p => Value.string (bs p))[j]? := by rw [ht]
        rw [List.getElem?_take, if_pos (by omega), List.getElem?_map, hk, Array.getElem?_toList] at h2
        exact h2) (Array.getElem?_eq_some_iff.1 hgg).1 (by rw [List.length_map]; omega) (by rw [List.length_map]; exact hnc) (by rw [hm]; exact Nat.le_trans hlen (by omega))
      rw [List.length_map, hm] at this
      exact this
theorem Cl2.put {w W : World} {s : ByteArray} {n : Int} {D : Nat} (h : Cl2 w s n W) (hD : w.heap.size ≤ D) (hK : W.heap[D]? = some (.deferred (some []))) (o : Obj) : Cl2 w s n (W.putObj D o) :=
  Calm.cl2 (B := w.heap.size) ⟨some D, grownBy_putObj' W D o, fun r e => by cases e; exact ⟨hD, _, hK, rfl⟩⟩ h (Nat.le_refl _)
def clF (l : List UInt8) (w : World) (q b : Nat) (x y : Value) : Act :=
  { tmps := #[.string (bs l), undef, .pointer (some ⟨w.heap.size, 0, none⟩), .pointer (some ⟨w.heap.size + 1, 0, none⟩), .pointer (some ⟨q, 0, none⟩), x, undef, .bool false, .string (bs l), .bool true, .bool false, .bool false, .string (bs l), .bool false, .string (bs l), .func (.func 118) #[] #[.pointer (some ⟨b + 1, 0, none⟩), .pointer (some ⟨b, 0, none⟩), .pointer (some ⟨b + 1 + 1, 0, none⟩)], y, undef, undef, undef, undef, undef, undef, undef, undef, undef, undef, undef, undef, undef, undef, undef, undef, undef, undef, undef, undef], defers := [] }

set_option maxHeartbeats 4000000 in
set_option maxRecDepth 100000 in
theorem path_Clean (l : List UInt8) (w : World) (hl : l.length ≤ 1000000) (hw : HW w) :
    Calls Tryd.prog 89 #[.string (bs l)] w fun e w' => e = .returned (.tuple #[.string (bs (cleanS l).1), .int .i64 (cleanS l).2]) ∧ Ext w w' := by
  obtain ⟨t, ht⟩ : ∃ t, t = textS l := ⟨_, rfl⟩
  have hR : Hid (∀ W, Ext w W → Calls Tryd.prog 90 #[.string (bs l)] W fun e w' => e = .returned (.bool t) ∧ Ext W w') := by
    intro W hW
    rw [ht]
    exact path_right l W (by omega) (hw.ext hW)
  have HT := Lib.hid ht
  have HWw := Lib.hid hw
  clear hw ht
  cases t
  · refine (callsIn_wide (n := 0)).1 ?_
    refine callsIn_of_wp_marks Tryd.func89 rfl trivial ?_ rfl
    simp only [Tryd.ntmps89, List.size_toArray, List.length_cons, List.length_nil, Nat.reduceAdd, Nat.reduceSub, Array.replicate_succ, Array.replicate_zero, List.push_toArray, List.append_toArray, List.nil_append, List.cons_append]
    gi_wp2_with fail
    refine ⟨trivial, rfl, ?_⟩
    refine (callsIn_wide.2 (hR.out _ (Cl2.made w).1)).mono ?_
    rintro e w1 ⟨rfl, hE⟩
    have h2 := (Cl2.made w).ext hE
    obtain ⟨c0, f0⟩ := cell1 h2.2.1
    obtain ⟨c1, f1⟩ := cell1 h2.2.2
    have H2 := Lib.hid h2
    clear h2 hE
    have e9 : cleanS l = ([], 9) := by unfold cleanS; rw [if_pos HT.out.symm]
    have E9 := Lib.hid e9
    clear e9
    gi_wp2
    have h3 := H2.out.set (s' := ⟨#[]⟩) (n' := 9)
    obtain ⟨d0, _⟩ := cell1 h3.2.1
    obtain ⟨d1, _⟩ := cell1 h3.2.2
    refine ⟨.tuple #[.string ⟨#[]⟩, .int .i64 9], ?_, by rw [E9.out]; rfl, h3.1⟩
    simp [results, Tryd.results89, go_sem, d0, d1]
  · have hH : Hid (∀ W, Calls Tryd.prog 100 #[.string (bs l), .string ⟨#[47]⟩] W fun e w' => e = .returned (.bool (l.getD 0 0 == 47)) ∧ W = w') := by
      intro W
      have := Tryd.strings_HasPrefix (bs l) ⟨#[47]⟩ W
      rw [bs_data, prefix_slash] at this
      exact this.mono fun e w' h => ⟨h.1, h.2.symm⟩
    refine (callsIn_wide (n := 0)).1 ?_
    refine callsIn_of_wp_marks Tryd.func89 rfl trivial ?_ rfl
    simp only [Tryd.ntmps89, List.size_toArray, List.length_cons, List.length_nil, Nat.reduceAdd, Nat.reduceSub, Array.replicate_succ, Array.replicate_zero, List.push_toArray, List.append_toArray, List.nil_append, List.cons_append]
    gi_wp2_with fail
    refine ⟨trivial, rfl, ?_⟩
    refine (callsIn_wide.2 (hR.out _ (Cl2.made w).1)).mono ?_
    rintro e w1 ⟨rfl, hE⟩
    have h2 := (Cl2.made w).ext hE
    obtain ⟨c0, f0⟩ := cell1 h2.2.1
    obtain ⟨c1, f1⟩ := cell1 h2.2.2
    have H2 := Lib.hid h2
    clear h2 hE
    gi_wp2_with fail
    refine ⟨trivial, rfl, ?_⟩
    refine (callsIn_wide.2 (hH.out _)).mono ?_
    rintro e w' ⟨rfl, rfl⟩
    by_cases hs : l.getD 0 0 = 47
    · have e6 : cleanS l = ([], 6) := by unfold cleanS; rw [if_neg (by rw [← HT.out]; simp), if_pos (.inl hs)]
      have E6 := Lib.hid e6
      rw [show (l.getD 0 0 == 47) = true from beq_iff_eq.2 hs]
      clear e6 hs
      gi_wp2
      have h3 := H2.out.set (s' := ⟨#[]⟩) (n' := 6)
      obtain ⟨d0, _⟩ := cell1 h3.2.1
      obtain ⟨d1, _⟩ := cell1 h3.2.2
      refine ⟨.tuple #[.string ⟨#[]⟩, .int .i64 6], ?_, by rw [E6.out]; rfl, h3.1⟩
      simp [results, Tryd.results89, go_sem, d0, d1]
    · rw [show (l.getD 0 0 == 47) = false from beq_eq_false_iff_ne.2 hs]
      have Hs := Lib.hid hs
      clear hs c0 f0 c1 f1
      gi_wp2_with fail
      refine ⟨trivial, rfl, ?_⟩
      refine (callsIn_wide.2 (strings_SplitSeq l _)).mono ?_
      rintro e w2 HQ
      obtain ⟨b, hb, rfl, h3, hE2⟩ := HQ.out
      obtain ⟨q, hq⟩ : ∃ q, q = w1.heap.size := ⟨_, rfl⟩
      have hr0 : w.heap.size + 1 < q := by rw [hq]; exact (Array.getElem?_eq_some_iff.1 H2.out.2.2).1
      have hqb : q < b := by simp at hb; omega
      have hb2 : b + 1 + 1 < w2.heap.size := (Array.getElem?_eq_some_iff.1 h3.2.2).1
      have hcell : w2.heap[q]? = some (.cells #[.slice none 0 0] 120 (0, 0)) := by rw [hq]; exact Ext.heap hE2 (heap_alloc_new _ _)
      have hI0 : CI w q w2.heap.size [] w2 := ⟨H2.out.ext ((Ext.alloc _ _).trans hE2), by simp, Nat.le_refl _, _, hcell, World.ownsRow_nil _ _ _ _⟩
      have HQ2 := Lib.hid (And.intro h3 (And.intro hI0 hcell))
      have hwe : w.heap.size ≤ w2.heap.size := by omega
      clear hb h3 hE2 hcell hI0 HQ
      gi_wp2
      rw [← hq]
      clear hq
      refine wp_range (α := List UInt8) (gf := 118) (lb := #[.pointer (some ⟨b + 1, 0, none⟩), .pointer (some ⟨b, 0, none⟩), .pointer (some ⟨b + 1 + 1, 0, none⟩)]) rfl (enters_of Tryd.func118 (by kernel_rfl) rfl)
        (encs := fun x => #[.string (bs x)]) (fun _ => rfl) (CI w q w2.heap.size) (fun W => Cl2 w ⟨#[]⟩ 6 W ∧ [46, 46] ∈ splitB 47 l) ?_ ?_ HQ2.out.2.1 (fun x => clF l w q b (.string (bs x)) (.string (bs x)))
        (fun pre x => ∃ post, splitB 47 l = pre ++ x :: post) (fun xs => xs = splitB 47 l) (Keep3 b) (fun A B => ∃ v, B = A.setCell ⟨b, 0, none⟩ v) ?_ ?_ ?_ ?_ ?_ (fun _ _ => rfl) ?_ ?_ ?_ ?_ ?_
      · exact fun s A B row hs hg hr => hs.calm ⟨row, hg, hr⟩ hwe
      · exact fun s A B row hs hg hr => ⟨Calm.cl2 ⟨row, hg, hr⟩ hs.1 hwe, hs.2⟩
      · rintro A B ⟨v, rfl⟩ k hk
        rw [Below.heap_setCell _ _ _ _ (by simp; omega)]
      · rintro pre A B hi ⟨v, rfl⟩
        exact hi.other (by omega) (by omega) (by omega)
      · exact fun A B C h1 h2 k hk => (h2 k hk).trans (h1 k hk)
      · intro A k o hk j hj
        exact World.putObj_heap_other (by omega)
      · intro _ o o' j hj
        rw [Below.heap_alloc _ _ _ (by simp; omega), Below.heap_alloc _ _ _ (by omega)]
      · intro lp J Jx W hK hJ hY h0
        have := splitSeq_in lp b l J Jx W (by omega) (HQ2.out.1.keep hK) (fun p A v h => hJ p A _ h ⟨v, rfl⟩) hY h0
        refine this.mono fun e B h => ⟨h.1, h.2.imp (fun h => ⟨_, rfl, h⟩) id⟩
      · intro lp x W K hK
        gi_wp2
        exact hK
      · rintro lp pre x W hi ⟨post, hpost⟩
        have HI := Lib.hid hi
        obtain ⟨hc, hnd, hbs, v, hv, hrow⟩ := hi
        obtain ⟨cq, fq⟩ := cell1 hv
        obtain ⟨c0, f0⟩ := cell1 hc.2.1
        obtain ⟨c1, f1⟩ := cell1 hc.2.2
        have HC := Lib.hid (And.intro hc (And.intro hnd (And.intro hv hpost)))
        have hlen : (pre.filter keepB).length ≤ 1000001 := by
          have h1 := (lens_filter keepB pre).2
          have h2 := splitB_sum (c := 47) l
          rw [hpost] at h2
          simp only [List.length_append, List.length_cons] at h2
          omega
        clear hc hnd hv hpost
        unfold clF
        by_cases x2 : x = [46, 46]
        · have t2 : ((bs x).toList == [46, 46]) = true := by rw [bs_toL, x2]; rfl
          have X2 := Lib.hid x2
          clear x2
          gi_wp2
          exact ⟨(KeepsOthers.setCell _ _ _).trans (KeepsOthers.setCell _ _ _), HC.out.1.set, by rw [HC.out.2.2.2, X2.out]; simp⟩
        · have t2 : ((bs x).toList == [46, 46]) = false := by rw [bs_toL]; exact beq_eq_false_iff_ne.2 x2
          by_cases x0 : x = []
          · have t0 : (bs x).toList.isEmpty = true := by rw [bs_toL, x0]; rfl
            have hs := HI.out.skip (x := x) (by rw [x0]; rfl) x2
            have HS := Lib.hid hs
            clear x2 x0 hs
            gi_wp2
            exact ⟨KeepsOthers.refl _, fun _ _ => rfl, HS.out⟩
          · have t0 : (bs x).toList.isEmpty = false := by rw [bs_toL]; cases x; exact absurd rfl x0; rfl
            by_cases x1 : x = [46]
            · have t1 : ((bs x).toList == [46]) = true := by rw [bs_toL, x1]; rfl
              have hs := HI.out.skip (x := x) (by rw [x1]; rfl) x2
              have HS := Lib.hid hs
              clear x2 x0 x1 hs
              gi_wp2
              exact ⟨KeepsOthers.refl _, fun _ _ => rfl, HS.out⟩
            · have t1 : ((bs x).toList == [46]) = false := by rw [bs_toL]; exact beq_eq_false_iff_ne.2 x1
              have hk : keepB x = true := by unfold keepB; simp [x0, x1]
              have HK := Lib.hid (And.intro hk x2)
              clear x2 x0 x1 hk
              obtain ⟨i0, hi0, hz0⟩ := Option.map_eq_some_iff.1 info_str
              simp only [Prod.mk.injEq] at hz0
              have hb2' := hb2
              gi_wp2_with (gi_at_builtin; go_must (refine wpListIn_append_own _ rfl _ _ 120 rfl w2.heap.size 9 i0 (.string ⟨#[]⟩) 1 16 Tryd.underlying120 hi0 hz0.1 hz0.2.1 hz0.2.2 rfl (by decide) v _ _ rfl (hrow.alloc _) ⟨W.heap.size, 0, none⟩ 1 1 [.string (bs x)] rfl rfl (cell_one_new _ _ _) (by simp [Value.oneCell']) (by unfold maxLen; omega) (by omega) (by simp; omega) ?_; intro v' w3 hown' hgrow _; obtain ⟨g', cap', rfl⟩ := ownsRow_succ hown'; have hqo := fun k e => (hrow.lt k e).1; have hq3 := (hgrow.block q (by simp; omega) (fun e => by have := hqo q e.symm; omega)).trans ((Below.heap_alloc _ _ _ (by omega)).trans HC.out.2.2.1); obtain ⟨cq3, fq3⟩ := cell1 hq3))
              exact CI.app HC.out.1 HC.out.2.1 hbs hrow HK.out.1 HK.out.2 hown' hgrow hq3 hr0 hqb hb2
      · rintro D xs W hD rfl hi hK
        have HI := Lib.hid hi
        obtain ⟨hc, hnd, hbs, v, hv, hrow⟩ := hi
        obtain ⟨cq, fq⟩ := cell1 hv
        obtain ⟨c0, f0⟩ := cell1 hc.2.1
        obtain ⟨c1, f1⟩ := cell1 hc.2.2
        have HC := Lib.hid (And.intro hc (And.intro hnd (And.intro hv (And.intro hrow hK))))
        clear hc hnd hv hrow hK
        gi_wp2_with fail
        refine ⟨trivial, rfl, ?_⟩
        have hjl := clean_len l
        refine (callsIn_wide.2 (join_own HC.out.2.2.2.1 (by have h1 := (lens_filter keepB (splitB 47 l)).2; have h2 := splitB_sum (c := 47) l; omega) (by omega))).mono ?_
        rintro e w4 ⟨rfl, hE4⟩
        obtain ⟨out, hout⟩ : ∃ out, out = Lib.join ((splitB 47 l).filter keepB) [47] := ⟨_, rfl⟩
        rw [← hout] at hjl ⊢
        have ec : cleanS l = if out = [] ∨ 200 < out.length then ([], 6) else (out, 0) := by
          unfold cleanS
          rw [if_neg (by rw [← HT.out]; simp), if_neg (fun h => h.elim Hs.out HC.out.2.1), hout]
        have hc4 := HC.out.1.ext hE4
        have hK4 := Ext.heap hE4 HC.out.2.2.2.2
        obtain ⟨c0, f0⟩ := cell1 hc4.2.1
        obtain ⟨c1, f1⟩ := cell1 hc4.2.2
        have H4 := Lib.hid (And.intro hc4 (And.intro hK4 ec))
        clear hout hc4 hK4 ec hE4 hjl
        have hDw : w.heap.size ≤ D := by omega
        have fin : ∀ (s : ByteArray) (n : Int) (t : List UInt8) (m : Nat), s = bs t → n = m → cleanS l = (t, m) → ∃ W', (Instr.takeDeferred D).run Tryd.prog ((w4.setCell ⟨w.heap.size, 0, none⟩ (.string s)).setCell ⟨w.heap.size + 1, 0, none⟩ (.int .i64 n)) = .ok [] W' ∧ Cl2 w s n W' := by
          intro s n t m _ _ _
          have h5 := H4.out.1.set (s' := s) (n' := n)
          have hd := KeepsOthers.same ((KeepsOthers.setCell w4 ⟨w.heap.size, 0, none⟩ (.string s)).trans (KeepsOthers.setCell _ ⟨w.heap.size + 1, 0, none⟩ (.int .i64 n))) D _ H4.out.2.1 rfl
          exact ⟨_, run_takeDeferred hd, h5.put hDw hd _⟩
        have FIN := Lib.hid fin
        clear fin
        by_cases o0 : out = []
        · have t0 : (bs out).toList.isEmpty = true := by rw [bs_toL, o0]; rfl
          have e6 : cleanS l = ([], 6) := by rw [H4.out.2.2, if_pos (.inl o0)]
          have E6 := Lib.hid e6
          clear o0 e6
          gi_wp2
          obtain ⟨W5, hr5, h5⟩ := FIN.out ⟨#[]⟩ 6 [] 6 rfl rfl E6.out
          obtain ⟨d0, _⟩ := cell1 h5.2.1
          obtain ⟨d1, _⟩ := cell1 h5.2.2
          refine ⟨by simp, .inl ⟨_, _, rfl, hr5, .tuple #[.string ⟨#[]⟩, .int .i64 6], ?_, by rw [E6.out]; rfl, h5.1⟩⟩
          simp [results, Tryd.results89, go_sem, d0, d1]
        · have t0 : (bs out).toList.isEmpty = false := by rw [bs_toL]; cases out; exact absurd rfl o0; rfl
          by_cases o1 : 200 < out.length
          · have t1 : 200 < (bs out).size := by rw [bs_size]; exact o1
            have e6 : cleanS l = ([], 6) := by rw [H4.out.2.2, if_pos (.inr o1)]
            have E6 := Lib.hid e6
            clear o0 o1 e6
            gi_wp2
            obtain ⟨W5, hr5, h5⟩ := FIN.out ⟨#[]⟩ 6 [] 6 rfl rfl E6.out
            obtain ⟨d0, _⟩ := cell1 h5.2.1
            obtain ⟨d1, _⟩ := cell1 h5.2.2
            refine ⟨by simp, .inl ⟨_, _, rfl, hr5, .tuple #[.string ⟨#[]⟩, .int .i64 6], ?_, by rw [E6.out]; rfl, h5.1⟩⟩
            simp [results, Tryd.results89, go_sem, d0, d1]
          · have t1 : ¬ 200 < (bs out).size := by rw [bs_size]; exact o1
            have e6 : cleanS l = (out, 0) := by rw [H4.out.2.2, if_neg (fun h => h.elim o0 o1)]
            have E6 := Lib.hid e6
            clear o0 o1 e6
            gi_wp2
            obtain ⟨W5, hr5, h5⟩ := FIN.out (bs out) 0 out 0 rfl rfl E6.out
            obtain ⟨d0, _⟩ := cell1 h5.2.1
            obtain ⟨d1, _⟩ := cell1 h5.2.2
            refine ⟨by simp, .inl ⟨_, _, rfl, hr5, .tuple #[.string (bs out), .int .i64 0], ?_, by rw [E6.out]; rfl, h5.1⟩⟩
            simp [results, Tryd.results89, go_sem, d0, d1]
      · rintro D W hD hx hK
        have e6 : cleanS l = ([], 6) := by unfold cleanS; rw [if_neg (by rw [← HT.out]; simp), if_pos (.inr hx.2)]
        have h5 := hx.1.put (D := D) (by omega) hK (.deferred none)
        obtain ⟨d0, _⟩ := cell1 h5.2.1
        obtain ⟨d1, _⟩ := cell1 h5.2.2
        have H5 := Lib.hid (And.intro h5 (And.intro e6 (And.intro hK (And.intro d0 d1))))
        clear h5 e6 hK d0 d1 hx
        gi_wp2
        have d0 := H5.out.2.2.2.1
        have d1 := H5.out.2.2.2.2
        refine ⟨by simp, .inl ⟨_, _, rfl, run_takeDeferred H5.out.2.2.1, .tuple #[.string ⟨#[]⟩, .int .i64 6], ?_, by rw [H5.out.2.1]; rfl, H5.out.1.1⟩⟩
        simp [results, Tryd.results89, go_sem, d0, d1]
end Go.Proofs.YtpapbnmacjoihaaDoor
