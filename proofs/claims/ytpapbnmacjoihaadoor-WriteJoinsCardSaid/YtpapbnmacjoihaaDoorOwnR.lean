/- Rows of one's own whose elements have several cells: append from any list; rows of members. -/
import Derived.Test.YtpapbnmacjoihaaDoorPutT
namespace Go.Proofs.YtpapbnmacjoihaaDoor
open Go.RowKit Go.Shelf

section
variable {P : Program}
theorem ownsRow_shape {w : World} {base : Nat} {e : TypeId} {k : Nat} {v : Value} {n : Nat} {xs : List Value} (h : w.ownsRow base e k v n xs) :
    ∃ p c, v = .slice p n c ∧ n ≤ c ∧ c ≤ 9223372036854775807 ∧ (p = none → n = 0) ∧ (∀ a, p = some a → a = ⟨a.block, 0, none⟩ ∧ base ≤ a.block ∧ a.block < w.heap.size ∧ ∀ j u, xs[j]? = some u → w.cell? (a.add j) = some u) := by
  obtain ⟨h1, ⟨rfl, h2⟩ | ⟨g, cap, cur, rfl, hb, hg, hn, hc, hs, ht⟩⟩ := h
  · subst h2
    exact ⟨none, 0, rfl, Nat.le_refl _, by omega, fun _ => rfl, fun a e => by cases e⟩
  · have key : ∀ j u, xs[j]? = some u → w.cell? ((⟨g, 0, none⟩ : Addr).add j) = some u := by
      intro j u hu
      rw [add_at, Nat.zero_add, cell_of_row w g j cur e (0, 0) hg]
      have hj : j < n * k := by
        have := (List.getElem?_eq_some_iff.1 hu).1
        rw [h1] at this; exact this
      have h2 : (cur.toList.take (n * k))[j]? = xs[j]? := by rw [ht]
      rw [List.getElem?_take, if_pos hj, Array.getElem?_toList, hu] at h2
      exact h2
    refine ⟨some ⟨g, 0, none⟩, cap, rfl, hn, by unfold maxLen at hc; exact hc, fun e => (by cases e), fun a e => ?_⟩
    cases e
    exact ⟨rfl, hb, (Array.getElem?_eq_some_iff.1 hg).1, key⟩
/-- 'append(v, m...)', elements of k cells. -/
theorem run_appR {base : Nat} {w : World} {t e : TypeId} {k bytes : Nat} {z : Value} (ty : TypeId) (ht : P.underlying t = some (.slice e)) (hinfo : (P.info? e).map (fun i => (i.zero, i.size, i.bytes)) = some (some z, k, bytes)) (hzk : z.cells.size = k) (hk : 0 < k)
    {v : Value} {n : Nat} {xs : List Value} (h : w.ownsRow base e k v n xs) {p : Option Addr} {m : Nat} {news : List Value} (c : Nat) (hl : news.length = m * k) (hp : 0 < m → ∃ a, p = some a ∧ ∀ j u, news[j]? = some u → w.cell? (a.add j) = some u)
    (h1 : ∀ u ∈ news, u.oneCell' = true) (hlen : n + m ≤ 9223372036854775807) (hbytes : (n + m) * bytes ≤ 140737488355328) (hbase : base ≤ w.heap.size) :
    ∃ v' w', (Builtin.append_ #[t, t] ty #[v, .slice p m c]).run P w = .ok v' w' ∧ w'.ownsRow base e k v' (n + m) (xs ++ news) ∧ w.grownBy w' v.ownBlock ∧ (v' = .slice none 0 0 ↔ v = .slice none 0 0 ∧ m = 0) := by
  obtain ⟨i, hi, hzz⟩ := Option.map_eq_some_iff.1 hinfo
  simp only [Prod.mk.injEq] at hzz
  have hlen' : n + m ≤ maxLen := by unfold maxLen; omega
  cases p with
  | none =>
    have hm0 : m = 0 := by
      rcases Nat.eq_zero_or_pos m with h | h
      · exact h
      · obtain ⟨a, e, _⟩ := hp h; cases e
    subst hm0
    have hn0 : news = [] := List.eq_nil_of_length_eq_zero (by rw [hl, Nat.zero_mul])
    subst hn0
    obtain ⟨q, cc, rfl, hcc, _, _⟩ := ownsRow_shape h
    refine ⟨_, w, run_append_nothing w t t ty e i ht hi q n cc hcc _ (Src.ofNil w ht c), by simpa using h, World.grownBy.refl _ _, by simp⟩
  | some a =>
    refine run_append_own (P := P) w base t ty e i z k bytes ht hi hzz.1 hzz.2.1 hzz.2.2 hzk hk v n xs h a m c news hl (fun j u hu => ?_) h1 hlen' hbytes hbase
    have hm : 0 < m := by
      rcases Nat.eq_zero_or_pos m with h | h
      · subst h
        have := (List.getElem?_eq_some_iff.1 hu).1
        rw [hl] at this; omega
      · exact h
    obtain ⟨a', ea, hc⟩ := hp hm
    cases ea
    exact hc j u hu
/-- the same, at the operation. -/
theorem wpList_appR {w : World} {ops : Array Oper} {rest : List Oper} {o : Oper} {act : Act} {Q : Exit → Act → World → Prop} (hgd : o.guard = none) (s x : Operand) {t e : TypeId} {k bytes : Nat} {z : Value}
    (ho : o.op = .call { callee := .builtin .append, args := #[s, x], argTypes := #[t, t] }) (ht : P.underlying t = some (.slice e)) (hinfo : (P.info? e).map (fun i => (i.zero, i.size, i.bytes)) = some (some z, k, bytes)) (hzk : z.cells.size = k) (hk : 0 < k)
    {base : Nat} {v : Value} {n : Nat} {xs : List Value} (h : w.ownsRow base e k v n xs) {p : Option Addr} {m c : Nat} {news : List Value} (hl : news.length = m * k) (hp : 0 < m → ∃ a, p = some a ∧ ∀ j u, news[j]? = some u → w.cell? (a.add j) = some u)
    (h1 : ∀ u ∈ news, u.oneCell' = true) (hlen : n + m ≤ 9223372036854775807) (hbytes : (n + m) * bytes ≤ 140737488355328) (hbase : base ≤ w.heap.size) (hs : act.eval s = v) (hx : act.eval x = .slice p m c)
    (hK : ∀ v' w', w'.ownsRow base e k v' (n + m) (xs ++ news) → w.grownBy w' v.ownBlock → (v' = .slice none 0 0 ↔ v = .slice none 0 0 ∧ m = 0) → wpList P ops Q rest (act.put o.dst v') w') : wpList P ops Q (o :: rest) act w :=
  wpList_plain hgd fun _ hKK => by
    obtain ⟨v', w', hr, h2, h3, h4⟩ := run_appR o.type ht hinfo hzk hk h c hl hp h1 hlen hbytes hbase
    unfold Oper.wp execOp
    simp only [ho, resolve, invoke, builtin, Sem.run_bind, Sem.run_pure, Result.andThen_ok, List.map_toArray, List.map_cons, List.map_nil, hs, hx, hr]
    exact hKK _ _ (hK v' w' h2 h3 h4)
end
theorem ownsRow_ext {w w' : World} {base : Nat} {e : TypeId} {k : Nat} {v : Value} {n : Nat} {xs : List Value} (h : w.ownsRow base e k v n xs) (hE : Ext w w') : w'.ownsRow base e k v n xs := by
  obtain ⟨h1, h2 | ⟨g, cap, cur, hv, hb, hg, rest⟩⟩ := h
  · exact ⟨h1, .inl h2⟩
  · exact ⟨h1, .inr ⟨g, cap, cur, hv, hb, Ext.heap hE hg, rest⟩⟩

/-! ### rows of members -/
def mbCells (l : List Me) : List Value := l.flatMap fun e => (e.m.cells e.v).toList
theorem mbCells_len (l : List Me) : (mbCells l).length = l.length * 8 := by
  induction l with
  | nil => rfl
  | cons x t ih =>
    have : mbCells (x :: t) = (x.m.cells x.v).toList ++ mbCells t := by unfold mbCells; rw [List.flatMap_cons]
    rw [this, List.length_append, ih, List.length_cons]
    have : (x.m.cells x.v).toList.length = 8 := rfl
    omega
theorem mbCells_app (a b : List Me) : mbCells (a ++ b) = mbCells a ++ mbCells b := by unfold mbCells; rw [List.flatMap_append]
theorem mbCells_get : ∀ (l : List Me) (j : Nat), (mbCells l)[j]? = (l[j / 8]?).bind fun e => (e.m.cells e.v)[j % 8]?
  | [], j => by simp [mbCells]
  | x :: t, j => by
    have e : mbCells (x :: t) = (x.m.cells x.v).toList ++ mbCells t := by unfold mbCells; rw [List.flatMap_cons]
    have h8 : (x.m.cells x.v).toList.length = 8 := rfl
    rw [e]
    by_cases hj : j < 8
    · rw [List.getElem?_append_left (by omega), Nat.div_eq_of_lt hj, Nat.mod_eq_of_lt hj]
      simp
    · rw [List.getElem?_append_right (by omega), h8, mbCells_get t (j - 8)]
      have h1 : j / 8 = (j - 8) / 8 + 1 := by omega
      have h2 : j % 8 = (j - 8) % 8 := by omega
      rw [h1, h2, List.getElem?_cons_succ]
theorem MbsAt.row {w : World} {p : Option Addr} {l : List Me} (h : MbsAt w p l) (h0 : 0 < l.length) : ∃ a, p = Option.some a ∧ ∀ j u, (mbCells l)[j]? = Option.some u → w.cell? (a.add j) = Option.some u := by
  obtain ⟨g, o, rfl, hc⟩ := h h0
  refine ⟨_, rfl, fun j u hu => ?_⟩
  rw [mbCells_get] at hu
  obtain ⟨e, he, hv⟩ := Option.bind_eq_some_iff.1 hu
  have := (hc _ e he).1 _ u hv
  rw [add_at, show o + j = o + j / 8 * 8 + j % 8 from by omega]
  exact this
theorem mb_cell1 (m : Mb) (e : Value) (p : Option Addr) (n c : Nat) (he : e = .slice p n c) : ∀ u ∈ (m.cells e).toList, u.oneCell' = true := by
  subst he
  intro u hu
  simp only [Mb.cells, List.mem_cons, List.not_mem_nil, or_false] at hu
  rcases hu with rfl | rfl | rfl | rfl | rfl | rfl | rfl | rfl <;> rfl
theorem mbCells_one (l : List Me) : ∀ u ∈ mbCells l, u.oneCell' = true := by
  intro u hu
  unfold mbCells at hu
  obtain ⟨e, _, he⟩ := List.mem_flatMap.1 hu
  exact mb_cell1 e.m e.v e.p _ e.c rfl u he
/-- a row of members that the call itself made. -/
def MbRow (base : Nat) (w : World) (v : Value) (l : List Me) : Prop := w.ownsRow base 45 8 v l.length (mbCells l) ∧ ∀ e ∈ l, By w e.p e.m.body
theorem info_mb : (Tryd.prog.info? 45).map (fun i => (i.zero, i.size, i.bytes)) = some (some (.agg #[.string ⟨#[]⟩, .string ⟨#[]⟩, .int .u8 0, .int .i64 0, .int .i64 0, .int .i64 0, .int .i64 0, .slice none 0 0]), 8, 96) := by kernel_rfl
theorem MbRow.nil (base : Nat) (w : World) : MbRow base w (.slice none 0 0) [] := ⟨World.ownsRow_nil _ _ _ _, fun _ h => by cases h⟩
theorem MbRow.empty {base : Nat} (w : World) (h : base ≤ w.heap.size) : MbRow base (w.alloc (.cells #[] 45)) (.slice (some ⟨w.heap.size, 0, none⟩) 0 0) [] :=
  ⟨World.ownsRow_made w #[] 0 h (Nat.zero_le _) rfl, fun _ h => by cases h⟩
theorem MbRow.ext {base : Nat} {w w' : World} {v : Value} {l : List Me} (h : MbRow base w v l) (hE : Ext w w') : MbRow base w' v l := ⟨ownsRow_ext h.1 hE, fun e he => (h.2 e he).ext hE⟩
theorem MbRow.mbs {base : Nat} {w : World} {v : Value} {l : List Me} (h : MbRow base w v l) : ∃ p c, v = .slice p l.length c ∧ MbsAt w p l ∧ l.length ≤ c ∧ c ≤ 9223372036854775807 ∧ (∀ a, p = some a → a = ⟨a.block, 0, none⟩ ∧ base ≤ a.block ∧ a.block < w.heap.size) := by
  obtain ⟨p, c, hv, h1, h2, h3, h4⟩ := ownsRow_shape h.1
  refine ⟨p, c, hv, fun h0 => ?_, h1, h2, fun a ha => ⟨(h4 a ha).1, (h4 a ha).2.1, (h4 a ha).2.2.1⟩⟩
  cases p with
  | none => have := h3 rfl; omega
  | some a =>
    obtain ⟨e1, _, _, h5⟩ := h4 a rfl
    refine ⟨a.block, 0, congrArg some e1, fun k e he => ⟨fun i u hu => ?_, h.2 e (List.mem_of_getElem? he)⟩⟩
    have hi : i < 8 := (Array.getElem?_eq_some_iff.1 hu).1
    have := h5 (k * 8 + i) u (by
      rw [mbCells_get, show (k * 8 + i) / 8 = k from by omega, show (k * 8 + i) % 8 = i from by omega, he]
      exact hu)
    rw [e1, add_at, ← Nat.add_assoc] at this
    exact this
end Go.Proofs.YtpapbnmacjoihaaDoor
