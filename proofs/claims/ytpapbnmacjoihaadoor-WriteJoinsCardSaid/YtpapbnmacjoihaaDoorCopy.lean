/- copy into a block that is known whole; from bytes that lie somewhere, from a string. (FieldD: 'lay', 'grown_set'.) -/
import Derived.Test.YtpapbnmacjoihaaDoorFieldD
import Derived.Laws.CopyRow
namespace Go.Proofs.YtpapbnmacjoihaaDoor
open Go.RowKit

theorem setRow_blk {e : TypeId} {w : World} {g : Nat} {L : List UInt8} (h : Blk e w g L) (off : Nat) (D : List UInt8) :
    Blk e (w.setRow g ((L.map bv).toArray.toList.take off ++ D.map bv ++ (L.map bv).toArray.toList.drop (off + (D.map bv).length)).toArray) g (lay L off D) := by
  unfold Blk at h ⊢
  simp only [World.setRow, Array.getElem?_modify, h, if_true, Option.map_some]
  congr 2
  unfold lay
  simp [List.map_take, List.map_drop]
theorem grown_setRow (w : World) (g : Nat) (cs : Array Value) : w.grownBy (w.setRow g cs) (some g) := by
  refine ⟨rfl, rfl, rfl, by simp [World.setRow], fun k hk hne => ?_⟩
  simp only [World.setRow, Array.getElem?_modify]
  rw [if_neg (fun e => hne (by rw [e]))]
theorem run_copy_by {P : Program} {dT sT e : TypeId} {w : World} {g off dLen dCap sCap : Nat} {p : Option Addr} {L D : List UInt8} (hu : P.underlying dT = some (.slice e)) {z : Value} {b : Nat} (hinfo : (P.info? e).map (fun i => (i.zero, i.size, i.bytes)) = some (some z, 1, b))
    (hB : Blk e w g L) (hS : By w p D) (hfit : off + D.length ≤ L.length) (hd : D.length ≤ dLen) :
    ∃ w', (∀ ty, (Builtin.copy_ #[dT, sT] ty #[.slice (some ⟨g, off, none⟩) dLen dCap, .slice p D.length sCap]).run P w = .ok (.int .i64 D.length) w') ∧ Blk e w' g (lay L off D) ∧ w.grownBy w' (some g) := by
  obtain ⟨i, hi, hs⟩ := info1 hinfo
  by_cases h0 : 0 < D.length
  · obtain ⟨bb, o, rfl, hc⟩ := hS h0
    refine ⟨_, fun ty => ?_, setRow_blk hB off D, grown_setRow _ _ _⟩
    have := run_copy_row (P := P) w dT sT ty e g off dLen dCap ⟨bb, o, none⟩ D.length sCap (L.map bv).toArray e (D.map bv) hu (by rw [hi]; simp [hs]) hB (by rw [List.length_map]; exact (Nat.min_eq_left hd).symm)
      (fun j v hj => by
        rw [List.getElem?_map] at hj
        obtain ⟨x, hx, rfl⟩ := Option.map_eq_some_iff.1 hj
        have hjl : j < D.length := (List.getElem?_eq_some_iff.1 hx).1
        rw [add_at, hc j hjl]
        simp [List.getD_eq_getElem?_getD, hx, bv])
      (by simpa using hfit) (fun v hv => by obtain ⟨x, _, rfl⟩ := List.mem_map.1 hv; rfl)
    rw [this]
    simp [goInt]
  · have : D = [] := List.eq_nil_of_length_eq_zero (by omega)
    subst this
    refine ⟨w, fun ty => ?_, by rw [lay_nil]; exact hB, World.grownBy.refl _ _⟩
    cases p <;> simp [Builtin.copy_, run_underlying hu, Builtin.lenOf, Builtin.firstCells, sizeOf, typeInfo, hi, loadCells, loadCellsFrom, storeCells, goInt]
theorem run_copy_str {P : Program} {dT sT e : TypeId} {w : World} {g off dLen dCap : Nat} {L D : List UInt8} (hu : P.underlying dT = some (.slice e)) {z : Value} {b : Nat} (hinfo : (P.info? e).map (fun i => (i.zero, i.size, i.bytes)) = some (some z, 1, b))
    (hB : Blk e w g L) (hfit : off + D.length ≤ L.length) (hd : D.length ≤ dLen) :
    ∃ w', (∀ ty, (Builtin.copy_ #[dT, sT] ty #[.slice (some ⟨g, off, none⟩) dLen dCap, .string (bs D)]).run P w = .ok (.int .i64 D.length) w') ∧ Blk e w' g (lay L off D) ∧ w.grownBy w' (some g) := by
  obtain ⟨i, hi, hs⟩ := info1 hinfo
  refine ⟨_, fun ty => ?_, setRow_blk hB off D, grown_setRow _ _ _⟩
  have hst := run_storeCells_at P g off e (D.map bv) 0 (L.map bv).toArray w hB (by simpa using hfit) (fun v hv => by obtain ⟨x, _, rfl⟩ := List.mem_map.1 hv; rfl)
  have hn : Nat.min (bs D).size dLen = D.length := by rw [bs_size]; exact Nat.min_eq_left hd
  have hm : List.take D.length (List.map (fun b : UInt8 => Value.int .u8 (b.toNat : Int)) (bs D).data.toList) = D.map bv := by
    rw [bs_data]
    exact List.take_of_length_le (by simp)
  rw [Nat.add_zero] at hst
  simp [Builtin.copy_, run_underlying hu, Builtin.lenOf, Builtin.firstCells, sizeOf, typeInfo, hi, hn, hm, goInt]
  rw [hst]
  simp [Result.andThen]
end Go.Proofs.YtpapbnmacjoihaaDoor
