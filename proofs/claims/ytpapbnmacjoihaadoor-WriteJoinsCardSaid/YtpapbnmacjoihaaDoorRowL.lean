/- Lists of members that come in. -/
import Derived.Test.YtpapbnmacjoihaaDoorRowW
import Derived.Deep.Slices
namespace Go.Proofs.YtpapbnmacjoihaaDoor
open Go.ChangeShapes Go.WideShapes Go.ChangeAt Go.RowKit Go.Joins Go.Shelf

set_option maxRecDepth 100000 in
theorem open_member_cells {H : Type} {enc : TypeId × Value → H} {W : World} {b0 : Nat} {held : Bool} {cs : List Value} {x : DataW H × List MemPlace} {fuel : Nat}
    (hf : DataW.trod enc Tryd.prog W b0 (fun _ => true) held fuel 45 cs = some x) (h8 : cs.length = 8) : ∃ e : Me, cs = (e.m.cells e.v).toList ∧ By W e.p e.m.body := by
  obtain ⟨xs, n, _, _, _, hxs, hfd⟩ := DataW.trod_struct Tryd.underlying45 hf
  have hx5 : xs.length = 5 := hxs
  have some_at : ∀ i, i < 5 → ∃ y, xs[i]? = some y := fun i hi => ⟨xs[i]'(by omega), by simp [hx5, hi]⟩
  have c1 : Tryd.prog.cellsOf 9 = 1 := by kernel_rfl
  have c2 : Tryd.prog.cellsOf 5 = 1 := by kernel_rfl
  have c3 : Tryd.prog.cellsOf 3 = 1 := by kernel_rfl
  have c4 : Tryd.prog.cellsOf 22 = 1 := by kernel_rfl
  have c5 : Tryd.prog.cellsOf 25 = 4 := by kernel_rfl
  have f0 := hfd 0 _ rfl
  have f1 := hfd 1 _ rfl
  have f2 := hfd 2 _ rfl
  have f3 := hfd 3 _ rfl
  have f4 := hfd 4 _ rfl
  obtain ⟨y0, e0⟩ := some_at 0 (by omega)
  obtain ⟨y1, e1⟩ := some_at 1 (by omega)
  obtain ⟨y2, e2⟩ := some_at 2 (by omega)
  obtain ⟨y3, e3⟩ := some_at 3 (by omega)
  obtain ⟨y4, e4⟩ := some_at 4 (by omega)
  rw [e0] at f0
  rw [e1] at f1
  rw [e2] at f2
  rw [e3] at f3
  rw [e4] at f4
  obtain ⟨s0, g0, _⟩ := DataW.trod_string Tryd.underlying9 f0
  obtain ⟨s1, g1, _⟩ := DataW.trod_string Tryd.underlying9 f1
  obtain ⟨k2, g2, _, w2⟩ := DataW.trod_int Tryd.underlying5 f2
  obtain ⟨z0, z1, z2, z3, m, _, _, q0, q1, q2, q3⟩ := trod_struct4 Tryd.underlying25 f3
  simp only [c3] at q0 q1 q2 q3
  obtain ⟨i0, u0, _, _⟩ := DataW.trod_int Tryd.underlying3 q0
  obtain ⟨i1, u1, _, _⟩ := DataW.trod_int Tryd.underlying3 q1
  obtain ⟨i2, u2, _, _⟩ := DataW.trod_int Tryd.underlying3 q2
  obtain ⟨i3, u3, _, _⟩ := DataW.trod_int Tryd.underlying3 q3
  obtain ⟨kk, rfl⟩ := byte_of w2
  obtain ⟨a, len, cap, g7, l, hl, hb⟩ : ∃ a len cap, (cs.drop 7).take 1 = [Value.slice a len cap] ∧ ∃ l : List UInt8, l.length = len ∧ By W a l := by
    rcases open_ints Tryd.underlying22 Tryd.underlying5 (by kernel_rfl) f4 with ⟨hcs, _⟩ | ⟨x, l, c, zs, hcs, _, hl, hm, hz, _, hcell, hwz⟩
    · exact ⟨none, 0, 0, hcs, [], rfl, By.nil _ _⟩
    · obtain ⟨_, _, l', hl', hb'⟩ := IsRow.mk' hl hm (by simpa using hz) hcell hwz
      exact ⟨_, _, _, hcs, l', hl', hb'⟩
  subst hl
  have t0 := cell_at g0
  have t1 := cell_at g1
  have t2 := cell_at g2
  have t7 := cell_at g7
  have sub : ∀ (j : Nat) (v : Value), ((((cs.drop 3).take 4).drop j).take 1 = [v]) → j < 4 → cs[3 + j]? = some v := by
    intro j v hj hlt
    have := cell_at hj
    rw [List.getElem?_take, if_pos hlt, List.getElem?_drop] at this
    exact this
  have t3 := sub 0 _ u0 (by omega)
  have t4 := sub 1 _ u1 (by omega)
  have t5 := sub 2 _ u2 (by omega)
  have t6 := sub 3 _ u3 (by omega)
  refine ⟨⟨⟨s0.data.toList, s1.data.toList, kk, i0, i1, i2, i3, l⟩, a, cap⟩, ?_, hb⟩
  apply List.ext_getElem?
  intro i
  by_cases hi : i < 8
  · match i, hi with
    | 0, _ => exact t0
    | 1, _ => exact t1
    | 2, _ => exact t2
    | 3, _ => exact t3
    | 4, _ => exact t4
    | 5, _ => exact t5
    | 6, _ => exact t6
    | 7, _ => exact t7
  · rw [List.getElem?_eq_none (by omega), List.getElem?_eq_none (by simp [Mb.cells]; omega)]
theorem list_of {α : Type} {q : Nat → α → Prop} : ∀ (n : Nat), (∀ i, i < n → ∃ e, q i e) → ∃ l : List α, l.length = n ∧ ∀ i e, l[i]? = some e → q i e
  | 0, _ => ⟨[], rfl, fun i e h => by simp at h⟩
  | n + 1, h => by
    obtain ⟨l, hl, hq⟩ := list_of n (fun i hi => h i (by omega))
    obtain ⟨x, hx⟩ := h n (by omega)
    refine ⟨l ++ [x], by simp [hl], fun i e he => ?_⟩
    by_cases hi : i < l.length
    · rw [List.getElem?_append_left hi] at he
      exact hq i e he
    · rw [List.getElem?_append_right (by omega)] at he
      have : i = l.length := by
        have := (List.getElem?_eq_some_iff.1 he).1
        simp at this; omega
      subst this
      rw [Nat.sub_self] at he
      cases he
      rw [hl]; exact hx
/-- What is told of a slice of members that came in. -/
def IsMbs (W : World) (a : Option Addr) (len cap : Nat) : Prop := len ≤ cap ∧ cap ≤ maxLen ∧ ∃ l : List Me, l.length = len ∧ MbsAt W a l
theorem open_members {H : Type} {enc : TypeId × Value → H} {W : World} {b0 : Nat} {held : Bool} {a : Option Addr} {len cap : Nat} {d : DataW H} {p : List MemPlace}
    (h : DataW.Trod enc Tryd.prog W b0 (fun _ => true) held 47 (.slice a len cap) d p) : IsMbs W a len cap := by
  obtain ⟨fuel, hf⟩ := h
  have c8 : Tryd.prog.cellsOf 45 = 8 := by kernel_rfl
  rcases Go.Deep.open_slice Tryd.underlying47 hf with ⟨hcs, _⟩ | ⟨x, l', c', m, n, D, Pl, hcs, _, hl, hm, hmm, _, hall⟩
  · simp [Value.cells] at hcs
    obtain ⟨rfl, rfl, rfl⟩ := hcs
    exact ⟨Nat.le_refl _, Nat.zero_le _, [], rfl, fun h0 => by simp at h0⟩
  · simp [Value.cells] at hcs
    obtain ⟨rfl, rfl, rfl⟩ := hcs
    rw [c8] at hall
    obtain ⟨l, hl2, hq⟩ := list_of (q := fun i (e : Me) => (∀ k v, (e.m.cells e.v)[k]? = some v → W.cell? (x.add (i * 8 + k)) = some v) ∧ By W e.p e.m.body) len (fun i hi => by
      obtain ⟨cs', h1, h2⟩ := hall i (by rw [hmm]; simp only [if_true]; omega)
      obtain ⟨_, hcl, hcc⟩ := World.cells?_some h1
      obtain ⟨e, he, hb⟩ := open_member_cells h2 hcl
      refine ⟨e, fun k v hv => ?_, hb⟩
      have hk : k < 8 := (Array.getElem?_eq_some_iff.1 hv).1
      have := hcc k hk
      rw [Go.Deep.add_add] at this
      rw [this, he, Array.getElem?_toList]
      exact hv)
    refine ⟨hl, hm, l, hl2, fun h0 => ?_⟩
    obtain ⟨e0, he0⟩ : ∃ e, l[0]? = some e := ⟨_, List.getElem?_eq_getElem h0⟩
    obtain ⟨g, o, spot⟩ := x
    have hs : spot = none := by
      have := (hq 0 e0 he0).1 0 _ rfl
      simpa [Addr.add] using World.cell?_spot this
    subst hs
    refine ⟨g, o, rfl, fun k e he => ⟨fun i v hv => ?_, (hq k e he).2⟩⟩
    have := (hq k e he).1 i v hv
    rw [add_at, ← Nat.add_assoc] at this
    exact this
end Go.Proofs.YtpapbnmacjoihaaDoor
