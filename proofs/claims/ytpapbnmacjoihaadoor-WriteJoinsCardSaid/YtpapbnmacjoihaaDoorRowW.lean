/- The write rows: the tables from the listed variables, a member that comes in by value, a world for a witness. -/
import Derived.Test.YtpapbnmacjoihaaDoorRowH
import Derived.Test.YtpapbnmacjoihaaDoorPutT
import Derived.Lib.LaidU8T
namespace Go.Proofs.YtpapbnmacjoihaaDoor
open Go.ChangeShapes Go.WideShapes Go.ChangeAt Go.RowKit Go.Joins Go.Shelf

def rho8 : Ren := ⟨fun x => x, fun n => if n = 5 then 5 else if n = 119 then 129 else if n = 138 then 131 else if n = 139 then 132 else n, fun n => if n = 3 then 11 else if n = 4 then 12 else n⟩
theorem first_is : Rows.laid_unicode_utf8_first = Lib.firstData := by kernel_rfl
theorem accept_is : (Rows.laid_unicode_utf8_acceptRanges : DataW Unit) = Lib.acceptData := by kernel_rfl
theorem pow_is : (Rows.laid_internal_strconv_uint64pow10 : DataW Unit) = Lib.tabData .u64 Lib.pow10Tab := by kernel_rfl
theorem hw_of {W : World} (h : laidMet Tryd.prog Rows.writePutsRow.laid W) (hs : W.ShapedOpen Tryd.prog) : HW W := by
  have h3 : laidMet Tryd.prog _ W := h.tail.tail.tail
  have h2 : laidMet Tryd.prog (("internal/strconv.uint64pow10", Rows.laid_internal_strconv_uint64pow10) :: _) W := h.tail.tail
  rw [pow_is] at h2
  refine ⟨hv_of h3 hs, ?_, Lib.tabIs_of_head (g := 13) (t := 152) (e := 144) (n := 20) (by kernel_rfl) (by kernel_rfl) Tryd.underlying152 Tryd.underlying144 (by kernel_rfl) (by kernel_rfl) h2⟩
  have r1 := Lib.laidMet.reads h (n := "unicode/utf8.first") (d := Rows.laid_unicode_utf8_first) (by unfold Rows.writePutsRow; simp)
  have r2 := Lib.laidMet.reads h (n := "unicode/utf8.acceptRanges") (d := Rows.laid_unicode_utf8_acceptRanges) (by unfold Rows.writePutsRow; simp)
  rw [first_is] at r1
  rw [accept_is] at r2
  exact utf8Tabs_of_readsT (P := Tryd.prog) (ρ := rho8) ⟨Tryd.underlying5, Tryd.underlying129, Tryd.underlying131, Tryd.underlying132⟩ ⟨by kernel_rfl, by kernel_rfl, by kernel_rfl, by kernel_rfl, by kernel_rfl, by kernel_rfl, by kernel_rfl⟩ r1 r2
def laidVarsW : List (Nat × DataW Unit) := [(14, Rows.laid_math_bits_deBruijn32tab), (15, Rows.laid_math_bits_deBruijn64tab), (13, Rows.laid_internal_strconv_uint64pow10)] ++ laidVars
/-- A world for a witness: the settled one, the listed variables laid. -/
noncomputable def laidWorldW (os : Os) : World :=
  { World.holding Tryd.prog os ⟨#[], #[], []⟩ with heap := layHeap (World.holding Tryd.prog os ⟨#[], #[], []⟩).heap laidVarsW }
set_option maxRecDepth 100000 in
theorem open_member {H : Type} {enc : TypeId × Value → H} {W : World} {base b0 : Nat} {held : Bool} {v : Value} {d : DataW H} {p : List MemPlace}
    (hv : Value.okWide Tryd.prog W .any base 45 v) (h : DataW.Trod enc Tryd.prog W b0 (fun _ => true) held 45 v d p) : ∃ e : Me, v = e.m.val e.v ∧ By W e.p e.m.body := by
  obtain ⟨cs, rfl, hsz⟩ := okWide_struct Tryd.underlying45 hv
  have h8 : cs.size = 8 := hsz.trans (by kernel_rfl)
  obtain ⟨fuel, hf⟩ := h
  obtain ⟨xs, n, _, _, _, hxs, hfd⟩ := DataW.trod_struct Tryd.underlying45 hf
  have hx5 : xs.length = 5 := hxs
  have some_at : ∀ i, i < 5 → ∃ y, xs[i]? = some y := fun i hi => ⟨xs[i]'(by omega), by simp [hx5, hi]⟩
  have c1 : Tryd.prog.cellsOf 9 = 1 := by kernel_rfl
  have c2 : Tryd.prog.cellsOf 5 = 1 := by kernel_rfl
  have c3 : Tryd.prog.cellsOf 3 = 1 := by kernel_rfl
  have c4 : Tryd.prog.cellsOf 22 = 1 := by kernel_rfl
  have c5 : Tryd.prog.cellsOf 25 = 4 := by kernel_rfl
  have f0 := hfd 0 _ rfl
  have f1 := hfd 1 _ rfl
  have f2 := hfd 2 _ rfl
  have f3 := hfd 3 _ rfl
  have f4 := hfd 4 _ rfl
  simp only [Value.cells, c1, c2, c3, c4, c5] at f0 f1 f2 f3 f4
  obtain ⟨y0, e0⟩ := some_at 0 (by omega)
  obtain ⟨y1, e1⟩ := some_at 1 (by omega)
  obtain ⟨y2, e2⟩ := some_at 2 (by omega)
  obtain ⟨y3, e3⟩ := some_at 3 (by omega)
  obtain ⟨y4, e4⟩ := some_at 4 (by omega)
  rw [e0] at f0
  rw [e1] at f1
  rw [e2] at f2
  rw [e3] at f3
  rw [e4] at f4
  obtain ⟨s0, g0, _⟩ := DataW.trod_string Tryd.underlying9 f0
  obtain ⟨s1, g1, _⟩ := DataW.trod_string Tryd.underlying9 f1
  obtain ⟨k2, g2, _, w2⟩ := DataW.trod_int Tryd.underlying5 f2
  obtain ⟨z0, z1, z2, z3, m, _, _, q0, q1, q2, q3⟩ := trod_struct4 Tryd.underlying25 f3
  simp only [c3] at q0 q1 q2 q3
  obtain ⟨i0, u0, _, _⟩ := DataW.trod_int Tryd.underlying3 q0
  obtain ⟨i1, u1, _, _⟩ := DataW.trod_int Tryd.underlying3 q1
  obtain ⟨i2, u2, _, _⟩ := DataW.trod_int Tryd.underlying3 q2
  obtain ⟨i3, u3, _, _⟩ := DataW.trod_int Tryd.underlying3 q3
  obtain ⟨kk, rfl⟩ := byte_of w2
  obtain ⟨a, len, cap, g7, l, hl, hb⟩ : ∃ a len cap, (cs.toList.drop 7).take 1 = [Value.slice a len cap] ∧ ∃ l : List UInt8, l.length = len ∧ By W a l := by
    rcases open_ints Tryd.underlying22 Tryd.underlying5 (by kernel_rfl) f4 with ⟨hcs, _⟩ | ⟨x, l, c, zs, hcs, _, hl, hm, hz, _, hcell, hwz⟩
    · exact ⟨none, 0, 0, hcs, [], rfl, By.nil _ _⟩
    · obtain ⟨_, _, l', hl', hb'⟩ := IsRow.mk' hl hm (by simpa using hz) hcell hwz
      exact ⟨_, _, _, hcs, l', hl', hb'⟩
  subst hl
  have t0 := cell_at g0
  have t1 := cell_at g1
  have t2 := cell_at g2
  have t7 := cell_at g7
  have sub : ∀ (j : Nat) (v : Value), ((((cs.toList.drop 3).take 4).drop j).take 1 = [v]) → j < 4 → cs.toList[3 + j]? = some v := by
    intro j v hj hlt
    have := cell_at hj
    rw [List.getElem?_take, if_pos hlt, List.getElem?_drop] at this
    exact this
  have t3 := sub 0 _ u0 (by omega)
  have t4 := sub 1 _ u1 (by omega)
  have t5 := sub 2 _ u2 (by omega)
  have t6 := sub 3 _ u3 (by omega)
  simp only [Array.getElem?_toList] at t0 t1 t2 t3 t4 t5 t6 t7
  refine ⟨⟨⟨s0.data.toList, s1.data.toList, kk, i0, i1, i2, i3, l⟩, a, cap⟩, ?_, hb⟩
  unfold Mb.val Mb.cells Me.v
  congr 1
  apply Array.ext_getElem?
  intro i
  by_cases hi : i < 8
  · match i, hi with
    | 0, _ => exact t0
    | 1, _ => exact t1
    | 2, _ => exact t2
    | 3, _ => exact t3
    | 4, _ => exact t4
    | 5, _ => exact t5
    | 6, _ => exact t6
    | 7, _ => exact t7
  · rw [Array.getElem?_eq_none (by omega), Array.getElem?_eq_none (by simp; omega)]
end Go.Proofs.YtpapbnmacjoihaaDoor
