/- Rows of bytes that the call itself made: they are appended to. -/
import Derived.Test.YtpapbnmacjoihaaDoorFieldC
import Derived.Deep.Upon
import Derived.Deep.AppendSrc
namespace Go.Proofs.YtpapbnmacjoihaaDoor
open Go.RowKit Go.Shelf

/-- v is a slice that owns the bytes l: nil, or the head of a block from base on. -/
def Rw (base : Nat) (w : World) (v : Value) (l : List UInt8) : Prop := w.ownsRow base 5 1 v l.length (l.map bv)
theorem Rw.nil (base : Nat) (w : World) : Rw base w (.slice none 0 0) [] := World.ownsRow_nil _ _ _ _
theorem Rw.empty {base : Nat} (w : World) (h : base ≤ w.heap.size) : Rw base (w.alloc (.cells #[] 5)) (.slice (some ⟨w.heap.size, 0, none⟩) 0 0) [] :=
  World.ownsRow_made w #[] 0 h (Nat.zero_le _) rfl
theorem Rw.of_blk {base : Nat} {w : World} {g : Nat} {l : List UInt8} (h : Blk 5 w g l) (hb : base ≤ g) (hl : l.length ≤ maxLen) : Rw base w (.slice (some ⟨g, 0, none⟩) l.length l.length) l :=
  ⟨by simp, .inr ⟨g, l.length, _, rfl, hb, h, Nat.le_refl _, hl, by simp, by rw [Nat.mul_one, List.take_of_length_le (by simp)]⟩⟩
/-- the shape of such a slice. -/
theorem Rw.shape {base : Nat} {w : World} {v : Value} {l : List UInt8} (h : Rw base w v l) :
    ∃ p c, v = .slice p l.length c ∧ By w p l ∧ l.length ≤ c ∧ c ≤ 9223372036854775807 ∧ (p = none → l = []) ∧ (∀ a, p = some a → a = ⟨a.block, 0, none⟩ ∧ base ≤ a.block ∧ a.block < w.heap.size) := by
  obtain ⟨h1, ⟨rfl, h2⟩ | ⟨g, cap, cur, rfl, hb, hg, hn, hc, hs, ht⟩⟩ := h
  · have : l = [] := List.eq_nil_of_length_eq_zero h2
    subst this
    exact ⟨none, 0, rfl, By.nil _ _, Nat.le_refl _, by omega, fun _ => rfl, fun a e => by cases e⟩
  · refine ⟨some ⟨g, 0, none⟩, cap, rfl, fun _ => ⟨g, 0, rfl, fun i hi => ?_⟩, hn, by unfold maxLen at hc; exact hc, fun e => (by cases e), fun a e => by cases e; exact ⟨rfl, hb, (Array.getElem?_eq_some_iff.1 hg).1⟩⟩
    rw [Nat.zero_add, cell_of_row w g i cur 5 (0, 0) hg]
    have h2 : (cur.toList.take (l.length * 1))[i]? = (l.map bv)[i]? := by rw [ht]
    rw [List.getElem?_take, if_pos (by omega), List.getElem?_map, Array.getElem?_toList] at h2
    rw [h2, List.getElem?_eq_getElem hi]
    simp [bv, List.getD_eq_getElem?_getD, hi]
theorem Rw.kept {base : Nat} {w w' : World} {v : Value} {l : List UInt8} {row : Option Nat} (h : Rw base w v l) (hg : w.grownBy w' row) (hne : v.ownBlock = none ∨ v.ownBlock ≠ row) : Rw base w' v l := World.ownsRow.kept h hg hne
theorem Rw.ext {base : Nat} {w w' : World} {v : Value} {l : List UInt8} (h : Rw base w v l) (hE : Ext w w') : Rw base w' v l := by
  obtain ⟨h1, h2 | ⟨g, cap, cur, hv, hb, hg, rest⟩⟩ := h
  · exact ⟨h1, .inl h2⟩
  · exact ⟨h1, .inr ⟨g, cap, cur, hv, hb, Ext.heap hE hg, rest⟩⟩
theorem Rw.lt {base : Nat} {w : World} {v : Value} {l : List UInt8} (h : Rw base w v l) : ∀ k, v.ownBlock = some k → base ≤ k ∧ k < w.heap.size := World.ownsRow.lt h
/-- What a store or an append to a row of one's own leaves: nothing else has turned. -/
theorem Ext.own {base : Nat} {w0 w w' : World} {v : Value} {l : List UInt8} (h : Ext w0 w) (hR : Rw base w v l) (hg : w.grownBy w' v.ownBlock) (hb : w0.heap.size ≤ base) : Ext w0 w' :=
  Below.grown h hg h.size fun k hk => Nat.le_trans hb (hR.lt k hk).1
theorem infoU8 : ∃ i, Tryd.prog.info? 5 = some i ∧ i.zero = some (.int .u8 0) ∧ i.size = 1 ∧ i.bytes = 1 := by
  obtain ⟨i, hi, hz⟩ := Option.map_eq_some_iff.1 info_u8
  simp only [Prod.mk.injEq] at hz
  exact ⟨i, hi, hz.1, hz.2.1, hz.2.2⟩
/-- 'append(v, m...)'. -/
theorem run_app {base : Nat} {w : World} {v : Value} {l m : List UInt8} {p : Option Addr} (ty : TypeId) (c : Nat) (h : Rw base w v l) (hm : By w p m) (hlen : l.length + m.length ≤ 140737488355328) (hbase : base ≤ w.heap.size) :
    ∃ v' w', (Builtin.append_ #[22, 22] ty #[v, .slice p m.length c]).run Tryd.prog w = .ok v' w' ∧ Rw base w' v' (l ++ m) ∧ w.grownBy w' v.ownBlock ∧ (v' = .slice none 0 0 ↔ v = .slice none 0 0 ∧ m.length = 0) := by
  obtain ⟨i, hi, hz, hsz, hby⟩ := infoU8
  have hmx : l.length + m.length ≤ maxLen := by unfold maxLen; omega
  cases p with
  | none =>
    have hm0 : m = [] := by
      cases m with
      | nil => rfl
      | cons x t => obtain ⟨b, o, e, _⟩ := hm (by simp); cases e
    subst hm0
    rw [List.append_nil, List.length_nil]
    obtain ⟨q, k, hv, _, hk, _⟩ := h.shape
    refine ⟨v, w, ?_, h, World.grownBy.refl _ _, by simp⟩
    rw [hv]
    exact run_append_nothing w 22 22 ty 5 i Tryd.underlying22 hi q l.length k hk _ (Src.ofNil w Tryd.underlying22 c)
  | some a =>
    obtain ⟨v', w', h1, h2, h3, h4⟩ := run_append_own (P := Tryd.prog) w base 22 ty 5 i (.int .u8 0) 1 1 Tryd.underlying22 hi hz hsz hby rfl (by decide) v l.length (l.map bv) h a m.length c (m.map bv) (by simp)
      (by
        intro j u hu
        rw [List.getElem?_map] at hu
        obtain ⟨x, hx, rfl⟩ := Option.map_eq_some_iff.1 hu
        have hj : j < m.length := (List.getElem?_eq_some_iff.1 hx).1
        obtain ⟨b, o, e, hc⟩ := hm (by omega)
        cases e
        rw [add_at, hc j hj, List.getD_eq_getElem?_getD, hx]
        rfl)
      (by intro u hu; obtain ⟨x, _, rfl⟩ := List.mem_map.1 hu; rfl) hmx (by omega) hbase
    refine ⟨v', w', h1, ?_, h3, h4⟩
    unfold Rw
    rw [List.length_append, List.map_append]
    exact h2
/-- 'append(v, m...)', at the operation. -/
theorem wpList_app {w : World} {ops : Array Oper} {rest : List Oper} {o : Oper} {a : Act} {Q : Exit → Act → World → Prop} (hgd : o.guard = none) (s x : Operand)
    (ho : o.op = .call { callee := .builtin .append, args := #[s, x], argTypes := #[22, 22] }) {base : Nat} {v : Value} {l m : List UInt8} {p : Option Addr} {c : Nat}
    (h : Rw base w v l) (hm : By w p m) (hlen : l.length + m.length ≤ 140737488355328) (hbase : base ≤ w.heap.size) (hs : a.eval s = v) (hx : a.eval x = .slice p m.length c)
    (hk : ∀ v' w', Rw base w' v' (l ++ m) → w.grownBy w' v.ownBlock → (v' = .slice none 0 0 ↔ v = .slice none 0 0 ∧ m.length = 0) → wpList Tryd.prog ops Q rest (a.put o.dst v') w') : wpList Tryd.prog ops Q (o :: rest) a w :=
  wpList_plain hgd fun _ hK => by
    obtain ⟨v', w', hr, h2, h3, h4⟩ := run_app o.type c h hm hlen hbase
    unfold Oper.wp execOp
    simp only [ho, resolve, invoke, builtin, Sem.run_bind, Sem.run_pure, Result.andThen_ok, List.map_toArray, List.map_cons, List.map_nil, hs, hx, hr]
    exact hK _ _ (hk v' w' h2 h3 h4)
end Go.Proofs.YtpapbnmacjoihaaDoor
