/- Rows of bytes of the call's own: zeros and texts appended. -/
import Derived.Test.YtpapbnmacjoihaaDoorOwn
import Derived.Lib.AppendZeros
import Derived.Lib.AppendZerosOnto
import Derived.Lib.AppendStr
namespace Go.Proofs.YtpapbnmacjoihaaDoor
open Go.RowKit Go.Shelf

theorem zero_cells (m : Nat) : (Builtin.zeroCells #[Value.int IntKind.u8 0] m) = ((List.replicate m (0 : UInt8)).map bv).toArray := by
  apply Array.ext
  · simp [Builtin.zeroCells]
  · intro i h1 h2
    simp [Builtin.zeroCells, bv, Nat.mod_one]
theorem run_append_room_zeros (w : World) (ty : TypeId) (i : TypeInfo) (hi : Tryd.prog.info? 5 = some i) (hz : i.zero = some (.int .u8 0)) (hsz : i.size = 1) (hby : i.bytes = 1)
    (g sLen sCap : Nat) (cur : Array Value) (hg : w.heap[g]? = some (.cells cur 5 (0, 0))) (m : Nat) (hroom : sLen + m ≤ sCap) (hfit : sLen + m ≤ cur.size) (h48 : m ≤ 281474976710656) :
    (Builtin.append_ #[22, 3] ty #[.slice (some ⟨g, 0, none⟩) sLen sCap, .int .i64 m]).run Tryd.prog w =
      .ok (.slice (some ⟨g, 0, none⟩) (sLen + m) sCap) (w.setRow g (cur.toList.take sLen ++ (List.replicate m (0 : UInt8)).map bv ++ cur.toList.drop (sLen + m)).toArray) := by
  have hst := run_storeCells_at Tryd.prog g sLen 5 ((List.replicate m (0 : UInt8)).map bv) 0 cur w hg (by simp; omega) (by intro u hu; obtain ⟨x, _, rfl⟩ := List.mem_map.1 hu; rfl)
  simp only [Nat.add_zero, List.length_map, List.length_replicate] at hst
  have hw : IntKind.i64.wrap (m : Int) = m := by rw [IntKind.wrap_i64]; omega
  have hneg : ¬ ((m : Int) < 0) := by omega
  have hbig : ¬ (281474976710656 < (m : Int)) := by omega
  by_cases hm : m = 0
  · subst hm
    have hw0 : IntKind.i64.wrap 0 = 0 := by rw [IntKind.wrap_i64]; rfl
    simp only [List.replicate_zero, List.map_nil, Nat.add_zero] at hst ⊢
    simp only [Nat.add_zero] at hroom
    simp [Builtin.append_, run_underlying Tryd.underlying22, run_underlying Tryd.underlying3, sizeOf, typeInfo, zeroValue, hi, hz, hsz, hby, asInt, asIntOf, hw0, hroom, Addr.add_lit, hst]
  · have hzc := zero_cells m
    simp only [List.map_replicate] at hzc hst ⊢
    simp [Builtin.append_, run_underlying Tryd.underlying22, run_underlying Tryd.underlying3, sizeOf, typeInfo, zeroValue, hi, hz, hsz, hby, asInt, asIntOf, hw, hneg, hbig, hm, hroom, Value.cells, hzc, Addr.add_lit, hst]
theorem run_appZ {base : Nat} {w : World} {v : Value} {l : List UInt8} (ty : TypeId) (m : Nat) (h : Rw base w v l) (hlen : l.length + m ≤ 140737488355328) (hbase : base ≤ w.heap.size) :
    ∃ v' w', (Builtin.append_ #[22, 3] ty #[v, .int .i64 m]).run Tryd.prog w = .ok v' w' ∧ Rw base w' v' (l ++ List.replicate m 0) ∧ w.grownBy w' v.ownBlock ∧ (v' = .slice none 0 0 ↔ v = .slice none 0 0 ∧ m = 0) := by
  obtain ⟨i, hi, hz, hsz, hby⟩ := infoU8
  have hmx : l.length + m ≤ maxLen := by unfold maxLen; omega
  have grown : ∀ (old : Nat), old < l.length + m → ∀ (row : Option Nat),
      Rw base (w.drew.alloc (.cells ((l.map bv).toArray ++ ((List.replicate m (0 : UInt8)).map bv).toArray ++ Builtin.zeroCells #[Value.int IntKind.u8 0] (grownCap w (l.length + m) old 5 - (l.length + m))) 5))
        (.slice (some ⟨w.heap.size, 0, none⟩) (l.length + m) (grownCap w (l.length + m) old 5)) (l ++ List.replicate m 0) ∧
      w.grownBy (w.drew.alloc (.cells ((l.map bv).toArray ++ ((List.replicate m (0 : UInt8)).map bv).toArray ++ Builtin.zeroCells #[Value.int IntKind.u8 0] (grownCap w (l.length + m) old 5 - (l.length + m))) 5)) row := by
    intro old ho row
    have hge := grownCap_ge w (l.length + m) old 5
    have hcm : grownCap w (l.length + m) old 5 ≤ maxLen := grownCap_le_maxLen w (l.length + m) old _ hmx
    refine ⟨⟨by simp, .inr ⟨w.heap.size, _, _, by rw [List.length_append, List.length_replicate], hbase, heap_alloc_new w.drew _, by rw [List.length_append, List.length_replicate]; exact hge, hcm, ?_, ?_⟩⟩, ⟨rfl, rfl, rfl, by simp, fun k hk _ => heap_alloc_old w.drew _ hk⟩⟩
    · simp [size_zeroCells]; omega
    · rw [Nat.mul_one]
      simp only [Array.toList_append, List.append_assoc, List.map_append]
      rw [← List.append_assoc, List.take_append_of_le_length (by simp), List.take_of_length_le (by simp)]
  have hR := h
  obtain ⟨hl, ⟨rfl, h0⟩ | ⟨g, cap, cur, rfl, hbg, hg, hnc, hcm, hcs, htake⟩⟩ := h
  · have e : l = [] := List.eq_nil_of_length_eq_zero h0
    subst e
    by_cases hm : m = 0
    · subst hm
      have hw0 : IntKind.i64.wrap 0 = 0 := by rw [IntKind.wrap_i64]; rfl
      refine ⟨.slice none 0 0, w, ?_, Rw.nil _ _, World.grownBy.refl _ _, by simp⟩
      simp [Builtin.append_, run_underlying Tryd.underlying22, run_underlying Tryd.underlying3, sizeOf, typeInfo, zeroValue, hi, hz, hsz, hby, asInt, asIntOf, hw0]
    · have hr := Lib.run_append_nil_zeros w 22 3 ty 5 i (.int .u8 0) .i64 .i64 Tryd.underlying22 Tryd.underlying3 hi hz m (by omega) (by omega) (by simp at hlen; omega) (by simp at hlen; rw [hby]; omega)
      have hgr := grown 0 (by simp; omega) (Value.ownBlock (.slice none 0 0))
      simp only [List.length_nil, Nat.zero_add, List.nil_append, List.map_nil, Array.empty_append] at hgr
      refine ⟨_, _, hr, ?_, ?_, by simp [hm]⟩
      · rw [show (Value.int IntKind.u8 0).cells = #[Value.int IntKind.u8 0] from rfl, zero_cells m]
        simpa using hgr.1
      · rw [show (Value.int IntKind.u8 0).cells = #[Value.int IntKind.u8 0] from rfl, zero_cells m]
        simpa using hgr.2
  · by_cases hroom : l.length + m ≤ cap
    · have hr := run_append_room_zeros w ty i hi hz hsz hby g l.length cap cur hg m hroom (by omega) (by omega)
      refine ⟨_, _, hr, ⟨by simp, .inr ⟨g, cap, _, by rw [List.length_append, List.length_replicate], hbg, setRow_heap w g cur _ _ _ hg, by rw [List.length_append, List.length_replicate]; exact hroom, hcm, ?_, ?_⟩⟩, ⟨rfl, rfl, rfl, by simp, fun k _ hk => setRow_other w g k _ (fun e => hk (by simp [Value.ownBlock, e]))⟩, by simp⟩
      · simp; omega
      · rw [Nat.mul_one] at htake ⊢
        rw [htake]
        simp only [List.length_append, List.length_replicate, List.map_append]
        rw [List.take_append_of_le_length (by simp), List.take_of_length_le (by simp)]
    · have holds : (Builtin.firstCells i.size l.length (.slice (some ⟨g, 0, none⟩) l.length cap)).run Tryd.prog w.drew = .ok (l.map bv).toArray w.drew :=
        run_firstCells_some w.drew i.size l.length ⟨g, 0, none⟩ l.length cap (l.map bv) (by rw [hsz]; simp) (by
          intro j u hu
          have := World.ownsRow.cells hR (g := g) rfl j u hu
          simpa using this)
      have hr := Lib.run_append_grow_zeros w 22 3 ty 5 i (.int .u8 0) .i64 .i64 Tryd.underlying22 Tryd.underlying3 hi hz (some ⟨g, 0, none⟩) l.length cap (l.map bv) holds m (by omega) (by omega) (by omega) (by omega) (by rw [hby]; omega)
        (growslice_fits (by omega) (by rw [hby]; omega))
      have hgr := grown cap (by omega) (Value.ownBlock (.slice (some ⟨g, 0, none⟩) l.length cap))
      refine ⟨_, _, hr, ?_, ?_, by simp⟩
      · rw [show (Value.int IntKind.u8 0).cells = #[Value.int IntKind.u8 0] from rfl, zero_cells m]
        exact hgr.1
      · rw [show (Value.int IntKind.u8 0).cells = #[Value.int IntKind.u8 0] from rfl, zero_cells m]
        exact hgr.2
/-- 'append(v, make([]byte, m)...)', at the operation. -/
theorem wpList_appZ {w : World} {ops : Array Oper} {rest : List Oper} {o : Oper} {a : Act} {Q : Exit → Act → World → Prop} (hgd : o.guard = none) (s x : Operand)
    (ho : o.op = .call { callee := .builtin .append, args := #[s, x], argTypes := #[22, 3] }) {base : Nat} {v : Value} {l : List UInt8} {m : Nat}
    (h : Rw base w v l) (hlen : l.length + m ≤ 140737488355328) (hbase : base ≤ w.heap.size) (hs : a.eval s = v) (hx : a.eval x = .int .i64 m)
    (hk : ∀ v' w', Rw base w' v' (l ++ List.replicate m 0) → w.grownBy w' v.ownBlock → (v' = .slice none 0 0 ↔ v = .slice none 0 0 ∧ m = 0) → wpList Tryd.prog ops Q rest (a.put o.dst v') w') : wpList Tryd.prog ops Q (o :: rest) a w := by
  obtain ⟨v', w', hr, h2, h3, h4⟩ := run_appZ o.type m h hlen hbase
  exact Lib.wpList_append_run w hgd s x _ _ ho _ _ hs hx v' w' hr (hk v' w' h2 h3 h4)
theorem strCells_bs (m : List UInt8) : Lib.strCells (bs m) = m.map bv := by
  unfold Lib.strCells bv
  rfl
/-- 'append(v, s...)'. -/
theorem wpList_appS {w : World} {ops : Array Oper} {rest : List Oper} {o : Oper} {a : Act} {Q : Exit → Act → World → Prop} (hgd : o.guard = none) (s x : Operand)
    (ho : o.op = .call { callee := .builtin .append, args := #[s, x], argTypes := #[22, 9] }) {base : Nat} {v : Value} {l m : List UInt8}
    (h : Rw base w v l) (hlen : l.length + m.length ≤ 140737488355328) (hbase : base ≤ w.heap.size) (hs : a.eval s = v) (hx : a.eval x = .string (bs m))
    (hk : ∀ v' w', Rw base w' v' (l ++ m) → w.grownBy w' v.ownBlock → (v' = .slice none 0 0 ↔ v = .slice none 0 0 ∧ m.length = 0) → wpList Tryd.prog ops Q rest (a.put o.dst v') w') : wpList Tryd.prog ops Q (o :: rest) a w := by
  obtain ⟨i, hi, hz, hsz, hby⟩ := infoU8
  refine Lib.wpList_append_own_string w hgd s x _ _ ho base 5 i Tryd.underlying22 Tryd.underlying9 hi hz hsz hby v l.length (l.map bv) hs h (bs m) hx (by rw [bs_size]; unfold maxLen; omega) (by rw [bs_size]; exact hlen) hbase ?_
  intro v' w' h1 h2 h3
  rw [bs_size, strCells_bs] at h1
  rw [bs_size] at h3
  refine hk v' w' ?_ h2 h3
  unfold Rw
  rw [List.length_append, List.map_append]
  exact h1
end Go.Proofs.YtpapbnmacjoihaaDoor
