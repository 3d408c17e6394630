/- Maps, read as a function from keys (as literals) to the values that lie there. No program in it. -/
import Derived.Test.YtpapbnmacjoihaaDoorBase
import Derived.Maps.Ext
import Derived.Maps.RangeWalk
import Derived.DeepKeys4
namespace Go.Proofs.YtpapbnmacjoihaaDoor
open Go.RowKit Go.Maps

/-- Every element reads as itself. -/
def heldR (v : Value) : Option (DataW Value × List MemPlace) := some (.held v, [])
def MpD (D : DataW Value) (f : Lit → Option Value) : Prop :=
  IsMap D ∧ ∀ kl, WideAt.IsKeyLit kl → Maps.has D kl = (f kl).isSome ∧ ∀ v, f kl = some v → ∀ z, D.atKey kl z = .held v
/-- Block b is a map of at most n entries; at the key kl lies f kl. -/
def Mp (P : Program) (k : TypeId) (w : World) (b n : Nat) (f : Lit → Option Value) : Prop :=
  ∃ D : DataW Value, w.ownsMap P k heldR b n D ∧ MpD D f
/-- The same, and block r goes over it: left tells which keys are still to come. -/
def Rg (P : Program) (k : TypeId) (w : World) (b r n : Nat) (f : Lit → Option Value) (left : Lit → Bool) (cnt : Nat) : Prop :=
  ∃ D : DataW Value, w.ranges P k heldR b r n D left cnt ∧ MpD D f
def upd (f : Lit → Option Value) (kl : Lit) (v : Value) : Lit → Option Value := fun x => if x.sameKey kl then some v else f x

variable {P : Program} {k : TypeId} {w : World} {b r n : Nat} {f : Lit → Option Value} {left : Lit → Bool} {cnt : Nat}
theorem Mp.made (w : World) (P : Program) (k : TypeId) : Mp P k (w.alloc (.map #[] 0)) w.heap.size 0 (fun _ => none) :=
  ⟨.map [], World.ownsMap_made _ _ _ _, isMap_empty, fun kl _ => ⟨rfl, fun v h => by cases h⟩⟩
theorem Mp.lt (h : Mp P k w b n f) : b < w.heap.size := by obtain ⟨D, h, _⟩ := h; exact h.lt
theorem Mp.kept {w' : World} {row : Option Nat} (h : Mp P k w b n f) (hg : w.grownBy w' row) (hne : some b ≠ row) : Mp P k w' b n f := by
  obtain ⟨D, h, hD⟩ := h; exact ⟨D, h.kept hg hne, hD⟩
theorem grownBy_of_ext {w w' : World} (h : Ext w w') : w.grownBy w' none := ⟨h.os, h.tape, h.output, h.size, fun i hi _ => Below.block h i hi⟩
theorem Mp.ext {w' : World} (h : Mp P k w b n f) (hE : Ext w w') : Mp P k w' b n f := h.kept (grownBy_of_ext hE) (by simp)
theorem MpD.put {D : DataW Value} (h : MpD D f) {kl : Lit} (hk : WideAt.IsKeyLit kl) (v : Value) : MpD (D.put kl (.held v)) (upd f kl v) := by
  refine ⟨h.1.put _ _, fun x hx => ?_⟩
  unfold upd
  by_cases e : x = kl
  · subst e
    rw [if_pos (WideAt.sameKey_self hk)]
    exact ⟨has_put_same h.1 hk _, fun u hu z => by cases hu; exact atKey_put_same h.1 hk _ _⟩
  · rw [sameKey_ne e]
    exact ⟨by rw [has_put_other e]; exact (h.2 x hx).1, fun u hu z => by rw [atKey_put_other e]; exact (h.2 x hx).2 u hu z⟩
theorem Mp.update {t e : TypeId} (h : Mp P k w b n f) (K : Keyed P k) (ht : P.underlying t = some (.map k e)) (hn : n < maxLen) {key v : Value} {kl : Lit} (hkey : keyOf P k key = some kl) :
    ∃ w', (Instr.mapUpdate t (.map (some b)) key v).run P w = .ok () w' ∧ Mp P k w' b (n + 1) (upd f kl v) ∧ w.grownBy w' (some b) := by
  obtain ⟨D, h, hD⟩ := h
  obtain ⟨w', h1, h2, h3⟩ := h.update K ht hn (val := v) (d := .held v) (ps := []) hkey rfl
  exact ⟨w', h1, ⟨_, h2, hD.put (K.key hkey) v⟩, h3⟩
theorem Mp.range {t e : TypeId} (h : Mp P k w b n f) (K : Keyed P k) (ht : P.underlying t = some (.map k e)) :
    ∃ w' left cnt, (Instr.range t (.map (some b))).run P w = .ok (.pointer (some ⟨w.heap.size, 0, none⟩)) w' ∧ Rg P k w' b w.heap.size n f left cnt ∧ (∀ kl, WideAt.IsKeyLit kl → left kl = (f kl).isSome) ∧ w.grownBy w' none ∧ w'.heap.size = w.heap.size + 1 := by
  obtain ⟨D, h, hD⟩ := h
  obtain ⟨w', h1, h2, h3, h4⟩ := h.range K ht
  exact ⟨w', _, _, h1, ⟨D, h2, hD⟩, fun kl hk => (hD.2 kl hk).1, h3, h4⟩
theorem Rg.left_eq (h : Rg P k w b r n f left cnt) : w.rangeLeft b r = cnt := by obtain ⟨D, h, _⟩ := h; exact h.left_eq
theorem Rg.kept {w' : World} {row : Option Nat} (h : Rg P k w b r n f left cnt) (hg : w.grownBy w' row) (hb' : some b ≠ row) (hr' : some r ≠ row) : Rg P k w' b r n f left cnt := by
  obtain ⟨D, h, hD⟩ := h; exact ⟨D, h.kept hg hb' hr', hD⟩
theorem Rg.ext {w' : World} (h : Rg P k w b r n f left cnt) (hE : Ext w w') : Rg P k w' b r n f left cnt := h.kept (grownBy_of_ext hE) (by simp) (by simp)
theorem Rg.next (h : Rg P k w b r n f left cnt) (K : Keyed P k) (ty : TypeId) :
    (cnt = 0 ∧ (∀ kl, left kl = false) ∧ (Instr.next (.pointer (some ⟨r, 0, none⟩)) false ty).run P w = .ok (.tuple #[.bool false]) w) ∨
    ∃ key v kl w' cnt', keyOf P k key = some kl ∧ left kl = true ∧ f kl = some v ∧ (Instr.next (.pointer (some ⟨r, 0, none⟩)) false ty).run P w = .ok (.tuple #[.bool true, key, v]) w' ∧
      Rg P k w' b r n f (fun x => left x && !x.sameKey kl) cnt' ∧ cnt' < cnt ∧ w.grownBy w' (some r) ∧ w'.heap.size = w.heap.size ∧ (Instr.entry (.pointer (some ⟨r, 0, none⟩))).run P w' = .ok (.tuple #[key, v]) w' := by
  obtain ⟨D, h, hD⟩ := h
  rcases h.next K ty with ⟨h1, h2, h3⟩ | ⟨key, v, kl, y, w', cnt', h1, h2, h3, h4, h5, h6, h7, h8, h9, h10⟩
  · exact .inl ⟨h1, h2, h3⟩
  · refine .inr ⟨key, v, kl, w', cnt', h1, h2, ?_, h5, ⟨D, h6, hD⟩, h7, h8, h9, h10⟩
    cases h3
    have hh := Maps.has_true_of_atKey h4
    have hk := K.key h1
    rw [(hD.2 kl hk).1] at hh
    obtain ⟨u, hu⟩ := Option.isSome_iff_exists.1 hh
    have := (hD.2 kl hk).2 u hu .nil
    rw [h4] at this
    cases this
    exact hu
end Go.Proofs.YtpapbnmacjoihaaDoor
