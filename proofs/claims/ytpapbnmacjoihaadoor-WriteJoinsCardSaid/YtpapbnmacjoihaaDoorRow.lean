/- What a row's list of variables gives: head's variables; a world for a witness. -/
import Derived.Test.YtpapbnmacjoihaaDoorCards
import Derived.Test.YtpapbnmacjoihaaDoorTie
import Derived.Test.YtpapbnmacjoihaaDoorHeadA
import Derived.ProofKit
import Derived.OpenShut
import Derived.Deep.DeepHandedRow
import Derived.Lib.LaidTab
import Derived.Stop.LaidErr
import Derived.Shelf.Vars
namespace Go.Proofs.YtpapbnmacjoihaaDoor
open Go.ChangeShapes Go.WideShapes Go.ChangeAt Go.RowKit

theorem ownK : ownKnob Tryd.prog.godebug = none := by kernel_rfl
theorem span_of_laid {P : Program} {W : World} {name : String} {a b : Nat} {rest : List (String × DataW Unit)} {g : Nat} {t e : TypeId} {f0 f1 : Field}
    (hg : P.globalNamed name = some g) (hty : (P.globals[g]?).map (·.type) = some t) (ht : P.underlying t = some (.struct #[f0, f1])) (he : P.underlying e = some (.int .i64)) (hf0 : f0.type = e) (hf1 : f1.type = e) (ho0 : f0.offset = 0) (ho1 : f1.offset = 1) (hce : P.cellsOf e = 1) (hct : P.cellsOf t = 2)
    (h : laidMet P ((name, .agg [.lit (.int .i64 (a : Int)), .lit (.int .i64 (b : Int))]) :: rest) W) : SpanAt W g a b := by
  obtain ⟨ps, ⟨g', t', cs, fuel, p, q, hg', ht', hvar, hd, _, _⟩, _⟩ := h
  obtain rfl := Option.some.inj (hg.symm.trans hg')
  obtain rfl := Option.some.inj (hty.symm.trans ht')
  cases fuel with
  | zero => simp [DataW.trod] at hd
  | succ fuel =>
    obtain ⟨y0, y1, n, hx, hl, h0, h1⟩ := trod_struct2 ht hd
    rw [hf0, ho0, hce] at h0
    rw [hf1, ho1, hce] at h1
    obtain ⟨z0, hc0, e0, _⟩ := DataW.trod_int he h0
    obtain ⟨z1, hc1, e1, _⟩ := DataW.trod_int he h1
    subst e0 e1
    simp only [Prod.mk.injEq, DataW.agg.injEq, List.cons.injEq, DataW.lit.injEq, Lit.int.injEq, true_and, and_true] at hx
    obtain ⟨⟨rfl, rfl⟩, -⟩ := hx
    have v0 : cs[0]? = some (.int .i64 (a : Int)) := by
      have := congrArg (·[0]?) hc0
      simpa [List.getElem?_take, List.getElem?_drop] using this
    have v1 : cs[1]? = some (.int .i64 (b : Int)) := by
      have := congrArg (·[0]?) hc1
      simpa [List.getElem?_take, List.getElem?_drop] using this
    have w0 := World.var?_cell hg hvar 0
    have w1 := World.var?_cell hg hvar 1
    exact ⟨by rw [w0]; simpa using v0, by rw [w1]; simpa using v1⟩
theorem gcells : Tryd.prog.cellsOf 58 = 2 := by kernel_rfl
theorem icells : Tryd.prog.cellsOf 3 = 1 := by kernel_rfl
theorem max_of {W : World} (h : W.ShapedOpen Tryd.prog) : ∃ m : Int, W.cell? ⟨10, 0, none⟩ = some (.int .i64 m) :=
  cell_of_shapedOpen_int (t := 3) (zero := #[.int .i64 0]) h (of_decide_eq_true (by kernel_rfl)) (by kernel_rfl) rfl (by kernel_rfl) (by kernel_rfl) Tryd.underlying3
theorem hv_of {W : World} {x : String × DataW Unit} {rest : List (String × DataW Unit)} (h : laidMet Tryd.prog (x :: ("bindle/head.name", Rows.laid_bindle_head_name) :: ("bindle/head.mode", Rows.laid_bindle_head_mode) :: ("bindle/head.user", Rows.laid_bindle_head_user) :: ("bindle/head.group", Rows.laid_bindle_head_group) :: ("bindle/head.size", Rows.laid_bindle_head_size) :: ("bindle/head.clock", Rows.laid_bindle_head_clock) :: ("bindle/head.sum", Rows.laid_bindle_head_sum) :: ("bindle/head.link", Rows.laid_bindle_head_link) :: ("bindle/head.magic", Rows.laid_bindle_head_magic) :: ("bindle/head.prefix", Rows.laid_bindle_head_prefix) :: rest) W) (hs : W.ShapedOpen Tryd.prog) : HV W := by
  have h1 := h.tail
  have h2 := h1.tail
  have h3 := h2.tail
  have h4 := h3.tail
  have h5 := h4.tail
  have h6 := h5.tail
  have h7 := h6.tail
  have h8 := h7.tail
  have h9 := h8.tail
  have h10 := h9.tail
  have u := Tryd.underlying58
  have i := Tryd.underlying3
  exact {
    name := span_of_laid (by kernel_rfl) (by kernel_rfl) u i rfl rfl rfl rfl icells gcells h1
    mode := span_of_laid (by kernel_rfl) (by kernel_rfl) u i rfl rfl rfl rfl icells gcells h2
    user := span_of_laid (by kernel_rfl) (by kernel_rfl) u i rfl rfl rfl rfl icells gcells h3
    group := span_of_laid (by kernel_rfl) (by kernel_rfl) u i rfl rfl rfl rfl icells gcells h4
    size := span_of_laid (by kernel_rfl) (by kernel_rfl) u i rfl rfl rfl rfl icells gcells h5
    clock := span_of_laid (by kernel_rfl) (by kernel_rfl) u i rfl rfl rfl rfl icells gcells h6
    sum := span_of_laid (by kernel_rfl) (by kernel_rfl) u i rfl rfl rfl rfl icells gcells h7
    link := span_of_laid (by kernel_rfl) (by kernel_rfl) u i rfl rfl rfl rfl icells gcells h8
    magic := span_of_laid (by kernel_rfl) (by kernel_rfl) u i rfl rfl rfl rfl icells gcells h9
    prefix_ := span_of_laid (by kernel_rfl) (by kernel_rfl) u i rfl rfl rfl rfl icells gcells h10
    mlen := max_of hs }
def flat1 : DataW Unit → List Value
  | .lit (.int k n) => [.int k n]
  | _ => []
def flat2 : DataW Unit → List Value
  | .agg l => l.flatMap flat1
  | d => flat1 d
def flat : DataW Unit → List Value
  | .agg l => l.flatMap flat2
  | d => flat1 d
def layHeap (h : Array Obj) (l : List (Nat × DataW Unit)) : Array Obj := l.foldl (fun h e => h.modify e.1 fun
  | .cells _ t frozen => .cells (flat e.2).toArray t frozen
  | o => o) h
def laidVars : List (Nat × DataW Unit) := [(12, Rows.laid_unicode_utf8_acceptRanges), (1, Rows.laid_bindle_head_name), (5, Rows.laid_bindle_head_mode), (6, Rows.laid_bindle_head_user), (7, Rows.laid_bindle_head_group), (9, Rows.laid_bindle_head_size), (8, Rows.laid_bindle_head_clock), (0, Rows.laid_bindle_head_sum), (2, Rows.laid_bindle_head_link), (3, Rows.laid_bindle_head_magic), (4, Rows.laid_bindle_head_prefix), (11, Rows.laid_unicode_utf8_first)]
/-- A world for a witness: the settled one, the listed variables laid. -/
noncomputable def laidWorld (os : Os) : World :=
  { World.holding Tryd.prog os ⟨#[], #[], []⟩ with heap := layHeap (World.holding Tryd.prog os ⟨#[], #[], []⟩).heap laidVars }

theorem byte_of {n : Int} (h : (Lit.int .u8 n).wf = true) : ∃ x : UInt8, n = (x.toNat : Int) := by
  have a1 : IntKind.u8.min = 0 := rfl
  have a2 : IntKind.u8.max = 255 := rfl
  simp only [Lit.wf, Bool.and_eq_true, decide_eq_true_eq] at h
  refine ⟨UInt8.ofNat n.toNat, ?_⟩
  rw [UInt8.toNat_ofNat']
  omega
theorem short_of {n : Int} (h : (Lit.int .u16 n).wf = true) : ∃ x : Nat, n = (x : Int) ∧ x < 65536 := by
  have a1 : IntKind.u16.min = 0 := rfl
  have a2 : IntKind.u16.max = 65535 := rfl
  simp only [Lit.wf, Bool.and_eq_true, decide_eq_true_eq] at h
  exact ⟨n.toNat, by omega, by omega⟩
/-- What is told of a slice of bytes that came in. -/
def IsRow (w : World) (a : Option Addr) (len cap : Nat) : Prop := len ≤ cap ∧ cap ≤ maxLen ∧ ∃ l : List UInt8, l.length = len ∧ By w a l
theorem IsRow.nil (w : World) : IsRow w none 0 0 := ⟨Nat.le_refl _, Nat.zero_le _, [], rfl, By.nil _ _⟩
theorem IsRow.mk' {w : World} {x : Addr} {zs : List Int} {len cap : Nat} (hlen : len ≤ cap) (hm : cap ≤ maxLen) (hz : zs.length = cap) (hc : ∀ i, i < zs.length → w.cell? (x.add i) = some (.int .u8 (zs.getD i 0))) (hwf : ∀ n ∈ zs, (Lit.int .u8 n).wf = true) :
    IsRow w (some x) len cap := by
  refine ⟨hlen, hm, (zs.take len).map fun z => UInt8.ofNat z.toNat, by simp; omega, fun h0 => ?_⟩
  have h0' : 0 < len := by simp at h0; omega
  obtain ⟨b, off, rfl, hcell⟩ := ints_at hc (by omega)
  refine ⟨b, off, rfl, fun i hi => ?_⟩
  have hi' : i < len := by simp at hi; omega
  rw [hcell i (by omega)]
  have hget : zs.getD i 0 = zs[i]'(by omega) := by simp [List.getD_eq_getElem?_getD, show i < zs.length by omega]
  obtain ⟨y, hy⟩ := byte_of (hwf _ (List.getElem_mem (show i < zs.length by omega)))
  congr 2
  rw [hget, hy]
  simp [List.getD_eq_getElem?_getD, List.getElem?_map, List.getElem?_take, hi', show i < zs.length by omega, hy]
end Go.Proofs.YtpapbnmacjoihaaDoor
