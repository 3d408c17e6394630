/- Words for memory: bytes that lie somewhere, a block that is known whole, a world that has only grown. No program in it. -/
import Derived.WalkKit
import Derived.Lib.Hide
import Derived.Deep.OwnRows
import Derived.Deep.DeepCutAuto
import Derived.Deep.CutBlock
import Derived.Shelf.Bytes.SlTrim
namespace Go.Proofs.YtpapbnmacjoihaaDoor
open Go.RowKit

/-- The bytes l lie at p (of no byte nothing is said). -/
def By (w : World) (p : Option Addr) (l : List UInt8) : Prop := 0 < l.length → ∃ b o, p = some ⟨b, o, none⟩ ∧ ∀ i, i < l.length → w.cell? ⟨b, o + i, none⟩ = some (.int .u8 (l.getD i 0).toNat)
theorem By.lib {w : World} {p : Option Addr} {l : List UInt8} (h : By w p l) : Lib.BytesAt w p l.length l := h
/-- Nothing that was there has turned. -/
def Ext (w w' : World) : Prop := Below w.heap.size w w'
theorem Ext.refl (w : World) : Ext w w := Below.refl _ _
theorem Ext.size {a b : World} (h : Ext a b) : a.heap.size ≤ b.heap.size := Below.size h
theorem Ext.trans {a b c : World} (h : Ext a b) (k : Ext b c) : Ext a c := Below.trans h (Below.mono k h.size)
theorem Ext.drew (a : World) : Ext a a.drew := Below.drew (Below.refl _ _)
theorem Ext.drewN (a : World) (n : Nat) : Ext a (a.drewN n) := ⟨rfl, rfl, rfl, Nat.le_refl _, fun _ _ => rfl⟩
theorem Ext.alloc (a : World) (o : Obj) : Ext a (a.alloc o) := Below.alloc (Below.refl _ _) (Nat.le_refl _) o
theorem Ext.setCell {a b : World} (h : Ext a b) {p : Addr} (hp : a.heap.size ≤ p.block) (u : Value) : Ext a (b.setCell p u) := Below.setCell h hp u
theorem Ext.cell {a b : World} (h : Ext a b) {p : Addr} {v : Value} (hc : a.cell? p = some v) : b.cell? p = some v := (Below.cell h (World.block_lt_of_cell? _ _ hc)).trans hc
theorem Ext.heap {a b : World} (h : Ext a b) {g : Nat} {o : Obj} (hc : a.heap[g]? = some o) : b.heap[g]? = some o := by
  rw [Below.block h g (Array.getElem?_eq_some_iff.1 hc).1]; exact hc
theorem Ext.of_below {a b : World} {B : Nat} (h : Below B a b) (hB : a.heap.size ≤ B) : Ext a b := Below.mono h hB
theorem By.ext {w w' : World} {p : Option Addr} {l : List UInt8} (h : By w p l) (hB : Ext w w') : By w' p l := fun h0 => by
  obtain ⟨b, o, rfl, hc⟩ := h h0
  exact ⟨b, o, rfl, fun i hi => hB.cell (hc i hi)⟩
theorem By.nil (w : World) (p : Option Addr) : By w p [] := fun h => absurd h (by simp)
theorem By.take {w : World} {p : Option Addr} {l : List UInt8} (h : By w p l) (k : Nat) : By w p (l.take k) := fun h0 => by
  rw [List.length_take] at h0
  obtain ⟨b, o, rfl, hc⟩ := h (by omega)
  refine ⟨b, o, rfl, fun i hi => ?_⟩
  rw [List.length_take] at hi
  rw [hc i (by omega)]
  simp [List.getD_eq_getElem?_getD, List.getElem?_take, show i < k from by omega]
/-- what lies k further on. -/
theorem By.drop {w : World} {b o : Nat} {l : List UInt8} (h : By w (some ⟨b, o, none⟩) l) (k : Nat) : By w (some ⟨b, o + k, none⟩) (l.drop k) := fun h0 => by
  rw [List.length_drop] at h0
  obtain ⟨b', o', e, hc⟩ := h (by omega)
  cases e
  refine ⟨b, o + k, rfl, fun i hi => ?_⟩
  rw [List.length_drop] at hi
  have := hc (k + i) (by omega)
  rw [← Nat.add_assoc] at this
  rw [this]
  simp [List.getD_eq_getElem?_getD, List.getElem?_drop]
theorem add_at (b o k : Nat) : (⟨b, o, none⟩ : Addr).add k = ⟨b, o + k, none⟩ := by unfold Addr.add; split <;> simp_all
/-- 's[k:]', as the walk has its address. -/
theorem By.from_ {w : World} {p : Option Addr} {l : List UInt8} {c : Nat} (h : By w p l) (hl : l.length ≤ c) (k : Nat) : By w (if c = k then p else p.map (fun x => x.add k)) (l.drop k) := fun h0 => by
  rw [List.length_drop] at h0
  rw [if_neg (by omega)]
  obtain ⟨b, o, rfl, _⟩ := h (by omega)
  have := (h.drop k) (by rw [List.length_drop]; omega)
  simp only [Option.map_some, add_at]
  exact this
theorem By.at_ {w : World} {p : Option Addr} {l : List UInt8} (h : By w p l) {i : Nat} (hi : i < l.length) : ∃ b o, p = some ⟨b, o, none⟩ ∧ w.cell? ⟨b, o + i, none⟩ = some (.int .u8 (l.getD i 0).toNat) := by
  obtain ⟨b, o, rfl, hc⟩ := h (by omega)
  exact ⟨b, o, rfl, hc i hi⟩

/-- A byte as a value. -/
def bv (x : UInt8) : Value := .int .u8 (x.toNat : Int)
/-- Block g is these bytes, whole, and nothing of it is frozen (e: the type uint8). -/
def Blk (e : TypeId) (w : World) (g : Nat) (l : List UInt8) : Prop := w.heap[g]? = some (.cells (l.map bv).toArray e (0, 0))
theorem Blk.lt {e : TypeId} {w : World} {g : Nat} {l : List UInt8} (h : Blk e w g l) : g < w.heap.size := (Array.getElem?_eq_some_iff.1 h).1
theorem Blk.ext {e : TypeId} {w w' : World} {g : Nat} {l : List UInt8} (h : Blk e w g l) (hB : Ext w w') : Blk e w' g l := Ext.heap hB h
theorem Blk.cell {e : TypeId} {w : World} {g : Nat} {l : List UInt8} (h : Blk e w g l) {i : Nat} (hi : i < l.length) : w.cell? ⟨g, i, none⟩ = some (.int .u8 (l.getD i 0).toNat) := by
  unfold Blk at h
  simp [World.cell?, h, hi, bv, List.getD_eq_getElem?_getD]
theorem Blk.frozen {e : TypeId} {w : World} {g : Nat} {l : List UInt8} (h : Blk e w g l) (i : Nat) : w.frozen? ⟨g, i, none⟩ = false := by
  unfold Blk at h
  simp [World.frozen?, h]
theorem Blk.by_ {e : TypeId} {w : World} {g : Nat} {l : List UInt8} (h : Blk e w g l) : By w (some ⟨g, 0, none⟩) l := fun _ => ⟨g, 0, rfl, fun i hi => by rw [Nat.zero_add]; exact h.cell hi⟩
theorem Blk.set {e : TypeId} {w : World} {g : Nat} {l : List UInt8} (h : Blk e w g l) (i : Nat) (x : UInt8) : Blk e (w.setCell ⟨g, i, none⟩ (.int .u8 (x.toNat : Int))) g (l.set i x) := by
  unfold Blk at h ⊢
  simp only [World.setCell, Array.getElem?_modify, h, if_true, Option.map_some, Option.isSome_none, Bool.false_eq_true, if_false]
  simp [List.map_set, bv]
theorem Blk.other {e : TypeId} {w : World} {g : Nat} {l : List UInt8} (h : Blk e w g l) {p : Addr} (hp : p.block ≠ g) (u : Value) : Blk e (w.setCell p u) g l := by
  unfold Blk at h ⊢
  rw [Below.heap_setCell _ _ _ _ (Ne.symm hp)]; exact h
theorem Blk.made (e : TypeId) (w : World) (n : Nat) : Blk e (w.alloc (.cells (madeCells #[.int .u8 0] n) e)) w.heap.size (List.replicate n 0) := by
  unfold Blk
  rw [heap_alloc_new]
  have : madeCells #[Value.int IntKind.u8 0] n = ((List.replicate n (0 : UInt8)).map bv).toArray := by
    apply Array.ext
    · simp [size_madeCells]
    · intro i h1 h2
      simp [madeCells, Nat.mod_one, bv]
  rw [this]

/-! ### cuts, as one address that the walk doesn't look into -/
def cutA (p : Option Addr) (c k : Nat) : Option Addr := if c = k then p else p.map (fun x => x.add k)
theorem By.cut {w : World} {p : Option Addr} {l : List UInt8} {c : Nat} (h : By w p l) (hl : l.length ≤ c) (k : Nat) : By w (cutA p c k) (l.drop k) := h.from_ hl k
theorem cutA_zero (p : Option Addr) (c : Nat) : cutA p c 0 = p := by
  unfold cutA; split
  · rfl
  · cases p <;> simp [Addr.add]
theorem cutA_at {b o c k : Nat} (h : k < c) : cutA (some ⟨b, o, none⟩) c k = some ⟨b, o + k, none⟩ := by
  unfold cutA; rw [if_neg (by omega)]; simp only [Option.map_some, add_at]
section
variable {P : Program}
theorem info1 {e : TypeId} {z : Value} {b : Nat} (h : (P.info? e).map (fun i => (i.zero, i.size, i.bytes)) = some (some z, 1, b)) : ∃ i, P.info? e = some i ∧ i.size = 1 := by
  obtain ⟨i, hi, hzz⟩ := Option.map_eq_some_iff.1 h
  simp only [Prod.mk.injEq] at hzz
  exact ⟨i, hi, hzz.2.1⟩
theorem run_cut_to {t e : TypeId} {z : Value} {b : Nat} (ht : P.underlying t = some (.slice e)) (hinfo : (P.info? e).map (fun i => (i.zero, i.size, i.bytes)) = some (some z, 1, b)) (kh : IntKind) (A : Option Addr) (n c : Nat) (j : Int) (h0 : 0 ≤ j) (hm : j ≤ c) :
    ∀ W : World, (Instr.slice t (.slice A n c) none (some (.int kh j)) none).run P W = .ok (.slice A j.toNat c) W := by
  intro W
  obtain ⟨i, hi, _⟩ := info1 hinfo
  have hel : P.elem t = e := by simp [Program.elem, ht]
  have hu : P.underlying t = some (.slice (P.elem t)) := by rw [hel]; exact ht
  have ha : (A.map fun x => x.add 0) = A := by cases A <;> simp [Addr.add]
  rw [run_slice_h W t A n c hu kh j h0 (by omega), hel]
  simp [sizeOf, typeInfo, hi, sliced, Result.andThen, ha]
theorem run_cut_from {t e : TypeId} {z : Value} {b : Nat} (ht : P.underlying t = some (.slice e)) (hinfo : (P.info? e).map (fun i => (i.zero, i.size, i.bytes)) = some (some z, 1, b)) (kl : IntKind) (A : Option Addr) (n c : Nat) (j : Int) (h0 : 0 ≤ j) (hm : j ≤ n) :
    ∀ W : World, (Instr.slice t (.slice A n c) (some (.int kl j)) none none).run P W = .ok (.slice (cutA A c j.toNat) (n - j.toNat) (c - j.toNat)) W := by
  intro W
  obtain ⟨i, hi, hsz⟩ := info1 hinfo
  have hel : P.elem t = e := by simp [Program.elem, ht]
  have hu : P.underlying t = some (.slice (P.elem t)) := by rw [hel]; exact ht
  rw [run_slice_l W t A n c hu kl j h0 hm, hel]
  simp [sizeOf, typeInfo, hi, hsz, sliced, Result.andThen, cutA]
theorem run_cut_mid {t e : TypeId} {z : Value} {b : Nat} (ht : P.underlying t = some (.slice e)) (hinfo : (P.info? e).map (fun i => (i.zero, i.size, i.bytes)) = some (some z, 1, b)) (kl kh : IntKind) (A : Option Addr) (n c : Nat) (lo hi' : Int) (h0 : 0 ≤ lo) (h1 : lo ≤ hi') (h2 : hi' ≤ c) :
    ∀ W : World, (Instr.slice t (.slice A n c) (some (.int kl lo)) (some (.int kh hi')) none).run P W = .ok (.slice (cutA A c lo.toNat) (hi'.toNat - lo.toNat) (c - lo.toNat)) W := by
  intro W
  obtain ⟨i, hi, hsz⟩ := info1 hinfo
  have hel : P.elem t = e := by simp [Program.elem, ht]
  have hu : P.underlying t = some (.slice (P.elem t)) := by rw [hel]; exact ht
  rw [run_slice_lh W t A n c hu kl kh lo hi' h0 h1 (by omega), hel]
  simp [sizeOf, typeInfo, hi, hsz, sliced, Result.andThen, cutA]
/-- A list of bytes as a string. -/
def bs (l : List UInt8) : ByteArray := ⟨l.toArray⟩
theorem bs_data (l : List UInt8) : (bs l).data.toList = l := rfl
theorem bs_toList (s : ByteArray) : bs s.data.toList = s := rfl
theorem bs_size (l : List UInt8) : (bs l).size = l.length := by simp [bs, ByteArray.size]
theorem bs_extract (l : List UInt8) (a b : Nat) : (bs l).extract a b = bs ((l.take b).drop a) := by
  have h : ((bs l).extract a b).data = (l.toArray).extract a b := by simp [bs]
  have : (bs l).extract a b = ⟨(l.toArray).extract a b⟩ := by rw [← h]
  rw [this]
  unfold bs
  congr 1
  simp [List.drop_take]
theorem bs_toL (l : List UInt8) : (bs l).toList = l := by rw [Lib.toList_data, bs_data]
theorem bs_app (a b : List UInt8) : bs a ++ bs b = bs (a ++ b) := by
  have h : (bs a ++ bs b).data = (bs (a ++ b)).data := by simp [bs]
  cases h1 : bs a ++ bs b
  cases h2 : bs (a ++ b)
  rw [h1, h2] at h
  simp only at h
  rw [h]
theorem bs_inj {a b : List UInt8} (h : bs a = bs b) : a = b := by
  have := congrArg (fun x : ByteArray => x.data.toList) h
  simpa [bs_data] using this
theorem strOfNums_bytes (l : List UInt8) : strOfNums (l.map fun x => (x.toNat : Int)) = bs l := by
  unfold strOfNums bs
  congr 2
  rw [List.map_map]
  have : ((fun n : Int => UInt8.ofNat n.toNat) ∘ fun x : UInt8 => (x.toNat : Int)) = id := by
    funext x; simp
  rw [this, List.map_id]
/-- string(b). -/
theorem run_string_of {src dst e : TypeId} (hs : P.underlying src = some (.slice e)) (he : P.underlying e = some (.int .u8)) (hd : P.underlying dst = some .string) {w : World} {p : Option Addr} {l : List UInt8} (h : By w p l) (c : Nat) :
    (convert src dst (.slice p l.length c)).run P w = .ok (.string (bs l)) w := by
  by_cases h0 : 0 < l.length
  · obtain ⟨b, o, rfl, hc⟩ := h h0
    rw [← strOfNums_bytes]
    refine run_convert_bytes_arg w src e hs he b o l.length c _ (by simp) (fun i hi => ?_) dst hd
    rw [hc i hi]
    simp [List.getD_eq_getElem?_getD, List.getElem?_eq_getElem hi]
  · have : l = [] := List.eq_nil_of_length_eq_zero (by omega)
    subst this
    rw [List.length_nil, run_convert_bytes_string w src dst e _ 0 c hs he hd]
    cases p with
    | none => simp [Conv.bytesToString]; rfl
    | some a => simp [Conv.bytesToString, loadCells]; rfl
end
end Go.Proofs.YtpapbnmacjoihaaDoor
