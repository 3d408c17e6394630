/- A header that comes in by value: its nine cells. -/
import Derived.Test.YtpapbnmacjoihaaDoorRow
import Derived.Test.YtpapbnmacjoihaaDoorHeadH
import Derived.Lib.SmallJoins
namespace Go.Proofs.YtpapbnmacjoihaaDoor
open Go.ChangeShapes Go.WideShapes Go.ChangeAt Go.RowKit Go.Joins

theorem cell_at {cs : List Value} {k : Nat} {v : Value} (h : (cs.drop k).take 1 = [v]) : cs[k]? = some v := by
  have := congrArg (·[0]?) h
  simpa [List.getElem?_take, List.getElem?_drop] using this
set_option maxRecDepth 100000 in
theorem open_head {H : Type} {enc : TypeId × Value → H} {W : World} {base b0 : Nat} {spare : Nat → Bool} {held : Bool} {v : Value} {d : DataW H} {p : List MemPlace}
    (hv : Value.okWide Tryd.prog W .any base 27 v) (h : DataW.Trod enc Tryd.prog W b0 spare held 27 v d p) : ∃ h : Hd, v = h.val := by
  obtain ⟨cs, rfl, hsz⟩ := okWide_struct Tryd.underlying27 hv
  have h9 : cs.size = 9 := hsz.trans (by kernel_rfl)
  obtain ⟨fuel, hf⟩ := h
  obtain ⟨xs, n, _, _, _, hxs, hfd⟩ := DataW.trod_struct Tryd.underlying27 hf
  have hx6 : xs.length = 6 := hxs
  have some_at : ∀ i, i < 6 → ∃ y, xs[i]? = some y := fun i hi => ⟨xs[i]'(by omega), by simp [hx6, hi]⟩
  have c1 : Tryd.prog.cellsOf 9 = 1 := by kernel_rfl
  have c2 : Tryd.prog.cellsOf 5 = 1 := by kernel_rfl
  have c3 : Tryd.prog.cellsOf 3 = 1 := by kernel_rfl
  have c4 : Tryd.prog.cellsOf 4 = 1 := by kernel_rfl
  have c5 : Tryd.prog.cellsOf 25 = 4 := by kernel_rfl
  have f0 := hfd 0 _ rfl
  have f1 := hfd 1 _ rfl
  have f2 := hfd 2 _ rfl
  have f3 := hfd 3 _ rfl
  have f4 := hfd 4 _ rfl
  have f5 := hfd 5 _ rfl
  simp only [Value.cells, c1, c2, c3, c4, c5] at f0 f1 f2 f3 f4 f5
  obtain ⟨y0, e0⟩ := some_at 0 (by omega)
  obtain ⟨y1, e1⟩ := some_at 1 (by omega)
  obtain ⟨y2, e2⟩ := some_at 2 (by omega)
  obtain ⟨y3, e3⟩ := some_at 3 (by omega)
  obtain ⟨y4, e4⟩ := some_at 4 (by omega)
  obtain ⟨y5, e5⟩ := some_at 5 (by omega)
  rw [e0] at f0
  rw [e1] at f1
  rw [e2] at f2
  rw [e3] at f3
  rw [e4] at f4
  rw [e5] at f5
  obtain ⟨s0, g0, _⟩ := DataW.trod_string Tryd.underlying9 f0
  obtain ⟨s1, g1, _⟩ := DataW.trod_string Tryd.underlying9 f1
  obtain ⟨k2, g2, _, w2⟩ := DataW.trod_int Tryd.underlying5 f2
  obtain ⟨z0, z1, z2, z3, m, _, _, q0, q1, q2, q3⟩ := trod_struct4 Tryd.underlying25 f3
  simp only [c3] at q0 q1 q2 q3
  obtain ⟨i0, u0, _, _⟩ := DataW.trod_int Tryd.underlying3 q0
  obtain ⟨i1, u1, _, _⟩ := DataW.trod_int Tryd.underlying3 q1
  obtain ⟨i2, u2, _, _⟩ := DataW.trod_int Tryd.underlying3 q2
  obtain ⟨i3, u3, _, _⟩ := DataW.trod_int Tryd.underlying3 q3
  obtain ⟨i7, g7, _, _⟩ := DataW.trod_int Tryd.underlying3 f4
  obtain ⟨b8, g8, _⟩ := DataW.trod_bool Tryd.underlying4 f5
  obtain ⟨kk, rfl⟩ := byte_of w2
  have t0 := cell_at g0
  have t1 := cell_at g1
  have t2 := cell_at g2
  have t7 := cell_at g7
  have t8 := cell_at g8
  have sub : ∀ (j : Nat) (v : Value), ((((cs.toList.drop 3).take 4).drop j).take 1 = [v]) → j < 4 → cs.toList[3 + j]? = some v := by
    intro j v hj hlt
    have := cell_at hj
    rw [List.getElem?_take, if_pos hlt, List.getElem?_drop] at this
    exact this
  have t3 := sub 0 _ u0 (by omega)
  have t4 := sub 1 _ u1 (by omega)
  have t5 := sub 2 _ u2 (by omega)
  have t6 := sub 3 _ u3 (by omega)
  simp only [Array.getElem?_toList] at t0 t1 t2 t3 t4 t5 t6 t7 t8
  refine ⟨⟨s0.data.toList, s1.data.toList, kk, i0, i1, i2, i3, i7, b8⟩, ?_⟩
  unfold Hd.val Hd.cells
  congr 1
  apply Array.ext_getElem?
  intro i
  by_cases hi : i < 9
  · match i, hi with
    | 0, _ => exact t0
    | 1, _ => exact t1
    | 2, _ => exact t2
    | 3, _ => exact t3
    | 4, _ => exact t4
    | 5, _ => exact t5
    | 6, _ => exact t6
    | 7, _ => exact t7
    | 8, _ => exact t8
  · rw [Array.getElem?_eq_none (by omega), Array.getElem?_eq_none (by simp; omega)]
end Go.Proofs.YtpapbnmacjoihaaDoor
