/- Rows of records: write.split's closure, record.Put; bindleref08.padded. -/
import Derived.Test.YtpapbnmacjoihaaDoorSnkB
import Derived.Test.YtpapbnmacjoihaaDoorWrC
import Derived.Test.YtpapbnmacjoihaaDoorHeadH
import Derived.Test.YtpapbnmacjoihaaDoorPathC
namespace Go.Proofs.YtpapbnmacjoihaaDoor
open Go.RowKit Go.Shelf

abbrev Rcs := List (List UInt8 × List UInt8)
def rcCells (rs : Rcs) : List Value := rs.flatMap fun r => [.string (bs r.1), .string (bs r.2)]
theorem rcCells_len (rs : Rcs) : (rcCells rs).length = rs.length * 2 := by
  unfold rcCells
  induction rs with
  | nil => rfl
  | cons x t ih => rw [List.flatMap_cons, List.length_append, ih]; simp; omega
theorem rcCells_app (a b : Rcs) : rcCells (a ++ b) = rcCells a ++ rcCells b := by unfold rcCells; rw [List.flatMap_append]
theorem rcCells_at : ∀ (rs : Rcs) (k : Nat) (r : List UInt8 × List UInt8), rs[k]? = some r → (rcCells rs)[k * 2]? = some (.string (bs r.1)) ∧ (rcCells rs)[k * 2 + 1]? = some (.string (bs r.2))
  | [], k, r, h => by simp at h
  | x :: t, 0, r, h => by simp at h; subst h; exact ⟨rfl, rfl⟩
  | x :: t, k + 1, r, h => by
    have := rcCells_at t k r (by simpa using h)
    rw [show (k + 1) * 2 = k * 2 + 1 + 1 from by omega]
    exact this
/-- records at p. -/
def RcAt (w : World) (p : Option Addr) (rs : Rcs) : Prop := 0 < rs.length → ∃ g, p = some ⟨g, 0, none⟩ ∧ ∀ k r, rs[k]? = some r → w.cell? ⟨g, k * 2, none⟩ = some (.string (bs r.1)) ∧ w.cell? ⟨g, k * 2 + 1, none⟩ = some (.string (bs r.2))
theorem RcAt.ext {w w' : World} {p : Option Addr} {rs : Rcs} (h : RcAt w p rs) (hE : Ext w w') : RcAt w' p rs := fun h0 => by
  obtain ⟨g, e, hc⟩ := h h0
  exact ⟨g, e, fun k r hr => ⟨hE.cell (hc k r hr).1, hE.cell (hc k r hr).2⟩⟩
/-- a row of records of one's own. -/
def RcRow (base : Nat) (w : World) (v : Value) (rs : Rcs) : Prop := w.ownsRow base 86 2 v rs.length (rcCells rs)
theorem RcRow.nil (base : Nat) (w : World) : RcRow base w (.slice none 0 0) [] := World.ownsRow_nil _ _ _ _
theorem RcRow.kept {base : Nat} {w w' : World} {v : Value} {rs : Rcs} {row : Option Nat} (h : RcRow base w v rs) (hg : w.grownBy w' row) (hne : v.ownBlock = none ∨ v.ownBlock ≠ row) : RcRow base w' v rs := World.ownsRow.kept h hg hne
theorem RcRow.ext {base : Nat} {w w' : World} {v : Value} {rs : Rcs} (h : RcRow base w v rs) (hE : Ext w w') : RcRow base w' v rs := by
  obtain ⟨h1, h2 | ⟨g, cap, cur, hv, hb, hg, rest⟩⟩ := h
  · exact ⟨h1, .inl h2⟩
  · exact ⟨h1, .inr ⟨g, cap, cur, hv, hb, Ext.heap hE hg, rest⟩⟩
theorem RcRow.lt {base : Nat} {w : World} {v : Value} {rs : Rcs} (h : RcRow base w v rs) : ∀ k, v.ownBlock = some k → base ≤ k ∧ k < w.heap.size := World.ownsRow.lt h
theorem RcRow.shape {base : Nat} {w : World} {v : Value} {rs : Rcs} (h : RcRow base w v rs) :
    ∃ p c, v = .slice p rs.length c ∧ RcAt w p rs ∧ rs.length ≤ c ∧ c ≤ 9223372036854775807 := by
  obtain ⟨h1, ⟨rfl, h2⟩ | ⟨g, cap, cur, rfl, hb, hg, hn, hc, hs, ht⟩⟩ := h
  · exact ⟨none, 0, by rw [h2], fun h0 => by omega, by omega, by omega⟩
  · refine ⟨some ⟨g, 0, none⟩, cap, rfl, fun _ => ⟨g, rfl, fun k r hr => ?_⟩, hn, by unfold maxLen at hc; exact hc⟩
    obtain ⟨c0, c1⟩ := rcCells_at rs k r hr
    have hk : k < rs.length := (List.getElem?_eq_some_iff.1 hr).1
    rw [← ht, List.getElem?_take, if_pos (by omega), Array.getElem?_toList] at c0 c1
    exact ⟨(cell_of_row w g _ cur _ (0, 0) hg).trans c0, (cell_of_row w g _ cur _ (0, 0) hg).trans c1⟩
theorem info_rc : (Tryd.prog.info? 86).map (fun i => (i.zero, i.size, i.bytes)) = some (some (.agg #[.string ⟨#[]⟩, .string ⟨#[]⟩]), 2, 32) := by kernel_rfl

/-- the list's cell at gl, its row from base on. -/
def RcL (base : Nat) (w : World) (gl : Nat) (rs : Rcs) : Prop :=
  gl < base ∧ base ≤ w.heap.size ∧ ∃ v, w.heap[gl]? = some (.cells #[v] 72 (0, 0)) ∧ RcRow base w v rs
theorem RcRow.below {base : Nat} {w w' : World} {v : Value} {l : Rcs} {g i : Nat} {u : Value} (h : RcRow base w v l) (hg : g < base) (hw : w' = w.setCell ⟨g, i, none⟩ u) : RcRow base w' v l := by
  subst hw
  obtain ⟨h1, h2 | ⟨g', cap, cur, hv, hb, hg', rest⟩⟩ := h
  · exact ⟨h1, .inl h2⟩
  · refine ⟨h1, .inr ⟨g', cap, cur, hv, hb, ?_, rest⟩⟩
    rw [Below.heap_setCell _ _ _ _ (by show g' ≠ g; omega)]
    exact hg'
theorem RcL.ext {base gl : Nat} {w w' : World} {rs : Rcs} (h : RcL base w gl rs) (hE : Ext w w') : RcL base w' gl rs := by
  obtain ⟨h1, h2, v, h3, h4⟩ := h
  exact ⟨h1, Nat.le_trans h2 hE.size, v, Ext.heap hE h3, h4.ext hE⟩

set_option maxHeartbeats 4000000 in
set_option maxRecDepth 100000 in
theorem split_add (base gl : Nat) (k v : List UInt8) (rs : Rcs) (w : World) (hS : RcL base w gl rs) (hrs : rs.length ≤ 1000) :
    Calls Tryd.prog 73 #[.string (bs k), .string (bs v), .pointer (some ⟨gl, 0, none⟩)] w fun e w' => Hid (e = .returned (.tuple #[]) ∧ RcL base w' gl (rs ++ [(k, v)]) ∧ Fr base gl w w' ∧ ∀ j cs T fr, w.heap[j]? = some (.cells cs T fr) → T ≠ 86 → j ≠ gl → w'.heap[j]? = some (.cells cs T fr)) := by
  obtain ⟨hs1, hs2, lv, hv, hR⟩ := hS
  obtain ⟨i0, hi0, hz0⟩ := Option.map_eq_some_iff.1 info_rc
  simp only [Prod.mk.injEq] at hz0
  have hE := Ext.alloc w (.cells #[.string (bs k), .string (bs v)] 86)
  have hcell := Go.cell_of_one hv
  have HB := Lib.hid (And.intro hs1 (And.intro hs2 (And.intro hv (And.intro hR hE))))
  have hc0 : (w.alloc (.cells #[.string (bs k), .string (bs v)] 86)).heap[w.heap.size]? = some (.cells #[.string (bs k), .string (bs v)] 86 (0, 0)) := heap_alloc_new _ _
  have hnews : ∀ (j : Nat) (u : Value), (rcCells [(k, v)])[j]? = some u → (w.alloc (.cells #[.string (bs k), .string (bs v)] 86)).cell? ((⟨w.heap.size, 0, none⟩ : Addr).add j) = some u := by
    intro j u hu
    rcases j with _ | _ | j
    · rw [← hu]; exact cell_of hc0 rfl
    · rw [← hu]; exact cell_of hc0 rfl
    · simp [rcCells] at hu
  have HI := Lib.hid (And.intro hi0 (And.intro hz0 hnews))
  clear hnews
  clear hs1 hs2 hv hR hi0 hz0 hc0
  go_enter Tryd.func73, Tryd.ntmps73
  go_wp2_with (at_builtin; go_must (refine wpList_append_own _ rfl _ _ 72 rfl base 86 i0 (.agg #[.string ⟨#[]⟩, .string ⟨#[]⟩]) 2 32 Tryd.underlying72 HI.out.1 HI.out.2.1.1 HI.out.2.1.2.1 HI.out.2.1.2.2 rfl (by decide) lv rs.length (rcCells rs) rfl (HB.out.2.2.2.1.ext HB.out.2.2.2.2) ⟨w.heap.size, 0, none⟩ 1 1 (rcCells [(k, v)]) rfl rfl HI.out.2.2 (by simp [rcCells, Value.oneCell']) (by unfold maxLen; omega) (by omega) (Nat.le_trans HB.out.2.1 HB.out.2.2.2.2.size) ?_; intro v' w' hown hg _; have hrow : RcRow base w' v' (rs ++ [(k, v)]) := (by unfold RcRow; rw [rcCells_app, List.length_append]; exact hown); obtain ⟨q, k', hvq, -, -, -⟩ := hrow.shape; have hbl := hg.block gl (by have := HB.out; simp; omega) (fun e => by have := (HB.out.2.2.2.1.lt gl e.symm).1; have := HB.out.1; omega); rw [Ext.heap hE HB.out.2.2.1] at hbl; have HR := Lib.hid (And.intro hrow (And.intro hg hbl)); clear hrow hown hg; obtain ⟨hcl, hfr⟩ := cell1 hbl; clear hbl; subst hvq))
  have hb2 := Go.one_setCell (u := .slice q (rs ++ [(k, v)]).length k') HR.out.2.2
  have hB : Below base w w' := Below.grown (Below.mono hE HB.out.2.1) HR.out.2.1 (Nat.le_trans HB.out.2.1 hE.size) (fun j hk => (HB.out.2.2.2.1.lt j hk).1)
  have hsz : (w'.setCell ⟨gl, 0, none⟩ (.slice q (rs ++ [(k, v)]).length k')).heap.size = w'.heap.size := by simp [World.setCell]
  have h1 : RcL base (w'.setCell ⟨gl, 0, none⟩ (.slice q (rs ++ [(k, v)]).length k')) gl (rs ++ [(k, v)]) := ⟨HB.out.1, by rw [hsz]; exact Nat.le_trans HB.out.2.1 hB.size, _, hb2, HR.out.1.below HB.out.1 rfl⟩
  have h2 : Fr base gl w (w'.setCell ⟨gl, 0, none⟩ (.slice q (rs ++ [(k, v)]).length k')) := ⟨hB.os, hB.tape, hB.output, by rw [hsz]; exact hB.size, fun j hj hn => by rw [Below.heap_setCell _ _ _ _ hn]; exact Below.block hB j hj⟩
  have h3 : ∀ j cs T fr, w.heap[j]? = some (.cells cs T fr) → T ≠ 86 → j ≠ gl → (w'.setCell ⟨gl, 0, none⟩ (.slice q (rs ++ [(k, v)]).length k')).heap[j]? = some (.cells cs T fr) := by
    intro j cs T fr hj hT hne
    have hlt := lt_of_block hj
    rw [Below.heap_setCell _ _ _ _ hne, HR.out.2.1.block j (by simp; omega) ?_]
    · exact Ext.heap hE hj
    · intro e
      obtain ⟨-, hh | ⟨g, cap, cur, hv, hb, hg, rest⟩⟩ := HB.out.2.2.2.1
      · rw [hh.1] at e; cases e
      · rw [hv] at e
        cases e
        rw [hj] at hg
        cases hg
        exact hT rfl
  rw [List.length_append] at h1 h2 h3
  have HQ := Lib.hid (And.intro h1 (And.intro h2 h3))
  clear hb2 hB hsz h1 h2 h3
  go_wp2
  go_end0
  exact ⟨rfl, HQ.out.1, HQ.out.2.1, HQ.out.2.2⟩

def linesS (rs : Rcs) : List UInt8 := rs.flatMap fun r => lineS r.1 r.2
theorem lineGo_le : ∀ (f n b : Nat), lineGo f n b ≤ n + f
  | 0, n, b => by unfold lineGo; omega
  | f + 1, n, b => by
    unfold lineGo
    split
    · omega
    · have := lineGo_le f (n + 1) b; omega
theorem lineNum_le (b : Nat) : lineNum b ≤ b + 22 := lineGo_le 22 b b
theorem lineS_len (k v : List UInt8) (h : k.length + v.length ≤ 100000) : (lineS k v).length ≤ 100100 := by
  have hb := bodyS_len k v
  have := lineNum_le (bodyS k v).length
  unfold lineS
  rw [List.length_append, Lib.decDigits_length]
  have h2 := nDigits_le (n := lineNum (bodyS k v).length) (by omega)
  omega
theorem linesS_len (rs : Rcs) (h : ∀ r ∈ rs, r.1.length + r.2.length ≤ 100000) : (linesS rs).length ≤ rs.length * 100100 := by
  unfold linesS
  induction rs with
  | nil => simp
  | cons x t ih =>
    rw [List.flatMap_cons, List.length_append, List.length_cons]
    have h1 := lineS_len x.1 x.2 (h x (List.mem_cons_self))
    have h2 := ih (fun r hr => h r (List.mem_cons_of_mem _ hr))
    omega

set_option maxHeartbeats 4000000 in
set_option maxRecDepth 100000 in
theorem record_Put (p : Option Addr) (c : Nat) (rs : Rcs) (w : World) (hp : RcAt w p rs) (hrs : rs.length ≤ 1000) (hm : ∀ r ∈ rs, mayS r.1 r.2 = true) (hw : HW w) :
    Calls Tryd.prog 43 #[.slice p rs.length c] w fun e w' => Hid (∃ v, e = .returned (.tuple #[v, .bool true]) ∧ Rw w.heap.size w' v (linesS rs) ∧ Ext w w') := by
  have HL : Hid (∀ W r, Ext w W → r ∈ rs → Calls Tryd.prog 76 #[rcVal r.1 r.2] W fun e w' => e = .returned (.tuple #[.string (bs (lineS r.1 r.2)), .bool true]) ∧ Ext W w') := fun W r hW hr => record_Line r.1 r.2 W (hm r hr) (hw.ext hW)
  have HM := Lib.hid hm
  have HP := Lib.hid hp
  clear hm hp hw
  go_enter Tryd.func43, Tryd.ntmps43
  go_wp2_with fail
  go_loopw [4, 11] (fun sv iv wr => ∃ k : Nat, k ≤ rs.length ∧ iv = .int .i64 k ∧ Hid (Rw w.heap.size wr sv (linesS (rs.take k)) ∧ Ext w wr)) (fun _ iv _ => rs.length - (intOf iv).toNat)
  case atStart => exact ⟨0, by omega, rfl, Rw.nil _ _, Ext.refl _⟩
  case round =>
    obtain ⟨k, hk, rfl, HR⟩ := hrel
    by_cases hlt : k < rs.length
    · obtain ⟨r, hr⟩ : ∃ r, rs[k]? = some r := ⟨_, List.getElem?_eq_getElem hlt⟩
      obtain ⟨g, rfl, hc⟩ := HP.out (by omega)
      obtain ⟨c0, c1⟩ := hc k r hr
      have c0' := HR.out.2.cell c0
      have c1' := HR.out.2.cell c1
      have HC := Lib.hid hr
      clear c0 c1 hc hr
      go_wp2_with fail
      refine (HL.out _ r (HR.out.2.trans (Ext.alloc _ _)) (List.mem_of_getElem? HC.out)).mono ?_
      rintro e w2 ⟨rfl, hE2⟩
      have hE3 := (Ext.alloc wr (.cells #[.string (bs r.1), .string (bs r.2)] 86)).trans hE2
      have hRw := HR.out.1.ext hE3
      have hsz := (HR.out.2.trans hE3).size
      have hE4 := HR.out.2.trans hE3
      have hbd : (linesS (rs.take k)).length ≤ 100100000 := by
        have := linesS_len (rs.take k) (fun x hx => (mayS_iff (HM.out x (List.mem_of_mem_take hx))).2.2.2.2)
        rw [List.length_take] at this
        have : min k rs.length ≤ 1000 := by omega
        omega
      have hbd2 := lineS_len r.1 r.2 (mayS_iff (HM.out r (List.mem_of_getElem? HC.out))).2.2.2.2
      have HZ := Lib.hid (And.intro hRw (And.intro hE4 (And.intro hsz (And.intro hbd hbd2))))
      clear hE2 hE3 hE4 hRw hsz hbd hbd2 c0' c1'
      go_wp2_with (at_builtin; go_must (refine wpList_appS rfl _ _ rfl HZ.out.1 (by have := HZ.out; omega) HZ.out.2.2.1 rfl rfl ?_); intro v' w' hR hg _; have HN := Lib.hid (And.intro hR (Ext.own HZ.out.2.1 HZ.out.1 hg (Nat.le_refl _))); clear hR hg)
      go_roundw
      case rel =>
        refine ⟨k + 1, by omega, by go_num, ?_, HN.out.2⟩
        have e : linesS (rs.take (k + 1)) = linesS (rs.take k) ++ lineS r.1 r.2 := by
          unfold linesS
          rw [List.take_add_one, HC.out, List.flatMap_append]
          simp
        rw [e]
        exact HN.out.1
      case measure => simp [intOf]; omega
    · obtain rfl : k = rs.length := by omega
      go_wp2
      go_ret2
      rw [List.take_length] at HR
      exact ⟨_, rfl, HR.out.1, HR.out.2⟩

set_option maxHeartbeats 4000000 in
set_option maxRecDepth 100000 in
theorem ref_padded (p : Option Addr) (c : Nat) (x : List UInt8) (w : World) (hx : x.length ≤ 1000000000) (hb : By w p x) :
    Calls Tryd.prog 53 #[.slice p x.length c] w fun e w' => Hid (∃ v, e = .returned v ∧ Rw w.heap.size w' v (padL x) ∧ Ext w w') := by
  have hemp := Rw.empty (base := w.heap.size) w (Nat.le_refl _)
  have hby := hb.ext (Ext.alloc w (.cells #[] 5))
  obtain ⟨g1, g2, g3⟩ := padN_ge x.length
  have hN : ((padN x.length : Nat) : Int) = ((x.length : Int) + 511) / 512 * 512 := by unfold padN; omega
  have e3 : ((x.length : Int) + 511) / 512 * 512 - (x.length : Int) = ((padN x.length - x.length : Nat) : Int) := by omega
  have HN := Lib.hid e3
  have HG := Lib.hid (And.intro g1 g2)
  clear hN g1 g2 g3 e3
  have e0 : IntKind.i64.wrap ((x.length : Int) + 511) = (x.length : Int) + 511 := by rw [IntKind.wrap_i64]; omega
  go_enter Tryd.func53, Tryd.ntmps53
  go_wp2_with (at_builtin; first
    | (refine wpList_app rfl _ _ rfl hemp hby (by rw [List.length_nil]; omega) (by simp) rfl rfl ?_; intro v' w' hR hg hn; rw [List.nil_append] at hR; have HE := Lib.hid (And.intro hR (Ext.own (Ext.alloc w _) hemp hg (Nat.le_refl _))); clear hemp hby hR hg hn)
    | (refine wpList_appZ (m := padN x.length - x.length) rfl _ _ rfl HE.out.1 (by have := HG.out; omega) HE.out.2.size rfl (congrArg (Value.int .i64) HN.out) ?_; intro v2 w2 hR hg _; have HF := Lib.hid (And.intro hR (Ext.own HE.out.2 HE.out.1 hg (Nat.le_refl _))); clear hR hg))
  go_ret
  exact ⟨_, rfl, HF.out.1, HF.out.2⟩
end Go.Proofs.YtpapbnmacjoihaaDoor
