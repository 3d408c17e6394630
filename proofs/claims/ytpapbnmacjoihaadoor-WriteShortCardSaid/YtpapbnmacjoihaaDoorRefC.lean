/- bindleref01.PutHead. -/
import Derived.Test.YtpapbnmacjoihaaDoorRefA
import Derived.Test.YtpapbnmacjoihaaDoorRefB
import Derived.Test.YtpapbnmacjoihaaDoorPutB
namespace Go.Proofs.YtpapbnmacjoihaaDoor
open Go.RowKit Go.Shelf

def noZ (l : List UInt8) (k : Nat) : Bool := (l.take k).all (· != 0)
theorem noZ_step (l : List UInt8) (k : Nat) (h : k < l.length) : noZ l (k + 1) = (noZ l k && (l.getD k 0 != 0)) := by
  unfold noZ
  rw [List.take_add_one, List.all_append, List.getElem?_eq_getElem h, List.getD_eq_getElem?_getD, List.getElem?_eq_getElem h]
  simp only [Option.toList_some, List.all_cons, List.all_nil, Bool.and_true, Option.getD_some]
theorem noZ_end (l : List UInt8) : noZ l l.length = true ↔ (0 : UInt8) ∉ l := by
  unfold noZ
  rw [List.take_length, List.all_eq_true]
  exact ⟨fun h hm => by have := h 0 hm; simp at this, fun h x hx => by
    rw [bne_iff_ne]; intro e; exact h (e ▸ hx)⟩
theorem get_bs {s : ByteArray} {l : List UInt8} (hs : s = bs l) (k : Nat) (h : k < s.size) : s[k] = l.getD k 0 := by
  subst hs
  have : k < l.length := by rw [bs_size] at h; exact h
  simp [bs, List.getD_eq_getElem?_getD, this]
  rfl
theorem ne0 (y : UInt8) : ((y.toNat : Int) != 0) = (y != 0) := by
  rw [Bool.eq_iff_iff, bne_iff_ne, bne_iff_ne]
  exact not_congr ⟨fun e => UInt8.toNat_inj.1 (by simpa using e), fun e => by rw [e]; rfl⟩

set_option maxHeartbeats 2000000 in
set_option maxRecDepth 100000 in
theorem ref_PutHead_bad (h : Hd) (w : World) (hl : h.name.length ≤ 1000000)
    (hbad : cutS h.name = none ∨ h.gnu = true ∨ h.kind = 0 ∨ 100 < h.link.length) :
    Calls Tryd.prog 16 #[h.val] w (RowPost w (putHeadS h)) := by
  have e0 : putHeadS h = none := by
    unfold putHeadS
    cases hc : cutS h.name with
    | none => rfl
    | some x =>
      obtain ⟨p, rest⟩ := x
      simp only
      rw [if_neg]
      rintro ⟨h1, h2, h3, _⟩
      rcases hbad with hb | hb | hb | hb
      · rw [hc] at hb; cases hb
      · rw [hb] at h1; cases h1
      · exact h2 hb
      · omega
  rw [e0]
  have hz := HdBlk.made w h
  have hE := Ext.alloc w (.cells h.cells 27 (0, 0))
  have hcut := ref_Cut h.name (w.alloc (.cells h.cells 27 (0, 0))) hl
  obtain ⟨z0, z1, z2, z3, z4, z5, z6, z7, z8⟩ := hz.cells
  have HZ := Lib.hid hz
  have HE := Lib.hid hE
  obtain ⟨cc, hcc⟩ : ∃ cc, cc = cutS h.name := ⟨_, rfl⟩
  rw [← hcc] at hcut hbad
  have HC := Lib.hid hcut
  have HBAD := Lib.hid hbad
  clear hcut hz hE hcc hbad
  unfold Hd.val
  go_enter Tryd.func16, Tryd.ntmps16
  go_wp2_with fail
  refine HC.out.mono ?_
  rintro e w1 ⟨rfl, hE1⟩
  have hz1 := HdBlk.ext HZ.out hE1
  clear z0 z1 z2 z3 z4 z5 z6 z7 z8 HC
  obtain ⟨z0, z1, z2, z3, z4, z5, z6, z7, z8⟩ := hz1.cells
  have HE1 := Lib.hid (HE.out.trans hE1)
  clear hE1 hz1
  rcases cc with _ | ⟨p, rest⟩
  · simp only [cutV]
    clear HBAD
    go_wp2
    go_ret2
    exact ⟨fun D h => (by cases h), fun _ => rfl, HE1.out⟩
  · simp only [cutV]
    by_cases c3 : h.link.length ≤ 100
    · have c3' : ¬ 100 < (bs h.link).size := by rw [bs_size]; omega
      by_cases c1 : h.gnu = true
      · rw [c1] at z8
        clear HBAD c1 c3
        go_wp2
        go_ret2
        exact ⟨fun D h => (by cases h), fun _ => rfl, HE1.out⟩
      · have c1' : h.gnu = false := by simpa using c1
        rw [c1'] at z8
        have c2 : h.kind = 0 := by
          rcases HBAD.out with hb | hb | hb | hb
          · cases hb
          · exact absurd hb c1
          · exact hb
          · omega
        have c2' : ((h.kind.toNat : Int) == 0) = true := by rw [c2]; rfl
        clear HBAD c1 c2 c3 c1'
        go_wp2
        go_ret2
        exact ⟨fun D h => (by cases h), fun _ => rfl, HE1.out⟩
    · have c3' : 100 < (bs h.link).size := by rw [bs_size]; omega
      clear HBAD c3
      go_wp2
      go_ret2
      exact ⟨fun D h => (by cases h), fun _ => rfl, HE1.out⟩

/-- The first k numbers, put. -/
def layN (h : Hd) (k : Nat) : List UInt8 := (flds.take k).foldl (fun b e => lay b e.1 (putD h e)) (List.replicate 512 0)
theorem layN_all (h : Hd) : layN h 5 = layF (numsT h) (fun _ => false) (List.replicate 512 0) := rfl
theorem textL_all (h : Hd) (p rest L : List UInt8) : lay (lay (lay (lay L 0 rest) 345 p) 157 h.link) 257 posixL = layF (textT h p rest) (fun _ => false) L := rfl
theorem layN_step (h : Hd) {k : Nat} {e : Nat × Nat × Nat} (hk : flds[k]? = some e) : layN h (k + 1) = lay (layN h k) e.1 (putD h e) := by
  unfold layN
  rw [List.take_add_one, hk, List.foldl_append]
  rfl
theorem layN_len (h : Hd) : ∀ k, (layN h k).length = 512
  | 0 => by unfold layN; rw [List.take_zero, List.foldl_nil, List.length_replicate]
  | k + 1 => by
    cases hk : flds[k]? with
    | none => 
      have e : flds.take (k + 1) = flds.take k := by rw [List.take_add_one, hk]; simp
      unfold layN
      rw [e]
      exact layN_len h k
    | some e =>
      have hm : e ∈ flds := List.mem_of_getElem? hk
      have hb := flds_bd (a := e.1) (n := e.2.1) (i := e.2.2) hm
      have hp := putD_length h hm
      rw [layN_step h hk, lay_length (by rw [layN_len h k]; omega), layN_len h k]
/-- What lies in the three rows of numbers. -/
def Rows5 (w : World) (h : Hd) (bn bf bw : Nat) : Prop :=
  (∀ (k : Nat) (e : Nat × Nat × Nat), flds[k]? = some e → w.cell? ⟨bn, k, none⟩ = some (.int .i64 (numD h e.2.2)) ∧ w.cell? ⟨bf, k, none⟩ = some (.int .i64 (e.1 : Int)) ∧ w.cell? ⟨bw, k, none⟩ = some (.int .i64 (e.2.1 : Int)))
theorem Rows5.ext {w w' : World} {h : Hd} {bn bf bw : Nat} (hR : Rows5 w h bn bf bw) (hE : Ext w w') : Rows5 w' h bn bf bw :=
  fun k e hk => ⟨hE.cell (hR k e hk).1, hE.cell (hR k e hk).2.1, hE.cell (hR k e hk).2.2⟩

theorem Rows5.kept {w w' : World} {h : Hd} {bn bf bw g : Nat} (hR : Rows5 w h bn bf bw) (hg : w.grownBy w' (some g)) (h1 : bn ≠ g) (h2 : bf ≠ g) (h3 : bw ≠ g) : Rows5 w' h bn bf bw := by
  intro k e hk
  obtain ⟨q0, q1, q2⟩ := hR k e hk
  have one : ∀ (b : Nat) (v : Value), b ≠ g → w.cell? ⟨b, k, none⟩ = some v → w'.cell? ⟨b, k, none⟩ = some v := by
    intro b v hb hc
    have hlt := World.block_lt_of_cell? _ _ hc
    have := hg.block b hlt (by intro e; cases e; exact hb rfl)
    simp only [World.cell?, this] at hc ⊢
    exact hc
  exact ⟨one _ _ h1 q0, one _ _ h2 q1, one _ _ h3 q2⟩
theorem HdBlk.kept {w w' : World} {b0 g : Nat} {h : Hd} (hz : HdBlk w b0 h) (hg : w.grownBy w' (some g)) (hne : b0 ≠ g) : HdBlk w' b0 h := by
  unfold HdBlk at hz ⊢
  rw [hg.block b0 (Array.getElem?_eq_some_iff.1 hz).1 (by intro e; cases e; exact hne rfl)]; exact hz
/-- While the link is copied (operation 4). -/
def LinkWI (w0 : World) (h : Hd) (b0 g : Nat) (M : List UInt8) (L : Nat → Bool) (w : World) : Prop :=
  Ext w0 w ∧ HdBlk w b0 h ∧ Blk 5 w g (if L 4 then lay M 157 h.link else M)
theorem LinkWI.quiet {w0 w : World} {h : Hd} {b0 g : Nat} {M : List UInt8} {L : Nat → Bool} (hW : LinkWI w0 h b0 g M L w) (i : Nat) (hi : i ≠ 4) : LinkWI w0 h b0 g M (fun j => if j = i then true else L j) w := by
  refine ⟨hW.1, hW.2.1, ?_⟩
  simp only [if_neg (Ne.symm hi)]
  exact hW.2.2
theorem LinkWI.copy {w0 w : World} {h : Hd} {b0 g : Nat} {M : List UInt8} {L : Nat → Bool} (hW : LinkWI w0 h b0 g M L w) (hL : L 4 = false) (hM : M.length = 512) (hl : h.link.length ≤ 100) (hg0 : w0.heap.size ≤ g) (hne : b0 ≠ g) :
    ∃ w', (∀ ty, (Builtin.copy_ #[22, 9] ty #[.slice (some ⟨g, 157, none⟩) 355 355, .string (bs h.link)]).run Tryd.prog w = .ok (.int .i64 h.link.length) w') ∧ LinkWI w0 h b0 g M (fun j => if j = 4 then true else L j) w' := by
  have hB := hW.2.2
  rw [hL] at hB
  obtain ⟨w', h1, h2, h3⟩ := run_copy_str (P := Tryd.prog) (dT := 22) (sT := 9) (off := 157) (dLen := 355) (dCap := 355) (D := h.link) Tryd.underlying22 info_u8 hB (by simp only [Bool.false_eq_true, if_false]; omega) (by omega)
  refine ⟨w', h1, Below.grown hW.1 h3 hW.1.size (fun k hk => by cases hk; exact hg0), HdBlk.kept hW.2.1 h3 hne, ?_⟩
  simpa using h2
def flds_m (h : Hd) : Array Value := #[.int .i64 h.mode, .int .i64 h.uid, .int .i64 h.gid, .int .i64 h.time, .int .i64 h.size]
theorem rows5_made (w : World) (h : Hd) : Rows5 (((w.alloc (.cells #[.int .i64 h.mode, .int .i64 h.uid, .int .i64 h.gid, .int .i64 h.time, .int .i64 h.size] 3)).alloc (.cells #[.int .i64 100, .int .i64 108, .int .i64 116, .int .i64 136, .int .i64 124] 3)).alloc (.cells #[.int .i64 8, .int .i64 8, .int .i64 8, .int .i64 12, .int .i64 12] 3)) h w.heap.size (w.heap.size + 1) (w.heap.size + 1 + 1) := by
  have e1 : (w.alloc (.cells #[.int .i64 h.mode, .int .i64 h.uid, .int .i64 h.gid, .int .i64 h.time, .int .i64 h.size] 3)).heap[w.heap.size]? = some (.cells #[.int .i64 h.mode, .int .i64 h.uid, .int .i64 h.gid, .int .i64 h.time, .int .i64 h.size] 3 (0, 0)) := heap_alloc_new _ _
  obtain ⟨wa, hwa⟩ : ∃ wa, wa = w.alloc (.cells #[.int .i64 h.mode, .int .i64 h.uid, .int .i64 h.gid, .int .i64 h.time, .int .i64 h.size] 3) := ⟨_, rfl⟩
  have sa : wa.heap.size = w.heap.size + 1 := by rw [hwa]; simp
  rw [← hwa] at e1 ⊢
  have e2 : (wa.alloc (.cells #[.int .i64 100, .int .i64 108, .int .i64 116, .int .i64 136, .int .i64 124] 3)).heap[wa.heap.size]? = some (.cells #[.int .i64 100, .int .i64 108, .int .i64 116, .int .i64 136, .int .i64 124] 3 (0, 0)) := heap_alloc_new _ _
  have e1' := Ext.heap (Ext.alloc wa (.cells #[.int .i64 100, .int .i64 108, .int .i64 116, .int .i64 136, .int .i64 124] 3)) e1
  obtain ⟨wb, hwb⟩ : ∃ wb, wb = wa.alloc (.cells #[.int .i64 100, .int .i64 108, .int .i64 116, .int .i64 136, .int .i64 124] 3) := ⟨_, rfl⟩
  have sb : wb.heap.size = wa.heap.size + 1 := by rw [hwb]; simp
  rw [← hwb] at e2 e1' ⊢
  have e3 : (wb.alloc (.cells #[.int .i64 8, .int .i64 8, .int .i64 8, .int .i64 12, .int .i64 12] 3)).heap[wb.heap.size]? = some (.cells #[.int .i64 8, .int .i64 8, .int .i64 8, .int .i64 12, .int .i64 12] 3 (0, 0)) := heap_alloc_new _ _
  have e1'' := Ext.heap (Ext.alloc wb (.cells #[.int .i64 8, .int .i64 8, .int .i64 8, .int .i64 12, .int .i64 12] 3)) e1'
  have e2' := Ext.heap (Ext.alloc wb (.cells #[.int .i64 8, .int .i64 8, .int .i64 8, .int .i64 12, .int .i64 12] 3)) e2
  rw [sa] at e2'
  rw [sb, sa] at e3
  intro k e hk
  have hk5 : k < 5 := by have := (List.getElem?_eq_some_iff.1 hk).1; simpa [flds] using this
  match k, hk5 with
  | 0, _ => cases hk; exact ⟨cell_of e1'' rfl, cell_of e2' rfl, cell_of e3 rfl⟩
  | 1, _ => cases hk; exact ⟨cell_of e1'' rfl, cell_of e2' rfl, cell_of e3 rfl⟩
  | 2, _ => cases hk; exact ⟨cell_of e1'' rfl, cell_of e2' rfl, cell_of e3 rfl⟩
  | 3, _ => cases hk; exact ⟨cell_of e1'' rfl, cell_of e2' rfl, cell_of e3 rfl⟩
  | 4, _ => cases hk; exact ⟨cell_of e1'' rfl, cell_of e2' rfl, cell_of e3 rfl⟩
def putVs5 (bn bw k : Nat) (n : Int) (wd : Nat) (s : Value) (ok : Bool) : Unit → List Value := fun _ =>
  [.slice (some ⟨bn, 0, none⟩) 5 5, .int .i64 k, .pointer (some ⟨bn, k, none⟩), .int .i64 n, .slice (some ⟨bw, 0, none⟩) 5 5, .int .i64 k, .pointer (some ⟨bw, k, none⟩), .int .i64 wd, .tuple #[s, .bool ok], .tuple #[s, .bool ok], s, .bool ok, s, .bool ok]

set_option maxHeartbeats 8000000 in
set_option maxRecDepth 100000 in
theorem ref_PutHead_go (h : Hd) (w : World) (hl : h.name.length ≤ 1000000) (p rest : List UInt8) (hc : cutS h.name = some (p, rest))
    (c1 : h.gnu = false) (c2 : h.kind ≠ 0) (c3 : h.link.length ≤ 100) :
    Calls Tryd.prog 16 #[h.val] w (RowPost w (putHeadS h)) := by
  have e0 : putHeadS h = if (noZ h.name h.name.length && noZ h.link h.link.length) = true ∧ numsFit h = true then some (blockS h p rest) else none := by
    unfold putHeadS; rw [hc]
    simp only
    have hzz : (noZ h.name h.name.length && noZ h.link h.link.length) = true ↔ ((0 : UInt8) ∉ h.name ∧ (0 : UInt8) ∉ h.link) := by rw [Bool.and_eq_true, noZ_end, noZ_end]
    by_cases hf : ((noZ h.name h.name.length && noZ h.link h.link.length) = true ∧ numsFit h = true)
    · have hf1 := hzz.1 hf.1
      rw [if_pos hf, if_pos ⟨c1, c2, c3, by rw [List.mem_append]; exact fun e => e.elim hf1.1 hf1.2, hf.2⟩]
    · rw [if_neg hf, if_neg (fun e => hf ⟨hzz.2 ⟨fun e' => e.2.2.2.1 (List.mem_append_left _ e'), fun e' => e.2.2.2.1 (List.mem_append_right _ e')⟩, e.2.2.2.2⟩)]
  have hpl := cutS_len hc
  have hz := HdBlk.made w h
  have hE := Ext.alloc w (.cells h.cells 27 (0, 0))
  have hcut := ref_Cut h.name (w.alloc (.cells h.cells 27 (0, 0))) hl
  rw [hc] at hcut
  obtain ⟨z0, z1, z2, z3, z4, z5, z6, z7, z8⟩ := hz.cells
  have HZ := Lib.hid hz
  have HC := Lib.hid hcut
  have HE := Lib.hid hE
  have E0 := Lib.hid e0
  have HPL := Lib.hid hpl
  clear hc hcut hz hE e0 hpl
  unfold Hd.val
  go_enter Tryd.func16, Tryd.ntmps16
  go_wp2_with fail
  refine HC.out.mono ?_
  rintro e w1 ⟨rfl, hE1⟩
  simp only [cutV]
  have hz1 := HdBlk.ext HZ.out hE1
  clear z0 z1 z2 z3 z4 z5 z6 z7 z8 HC
  obtain ⟨z0, z1, z2, z3, z4, z5, z6, z7, z8⟩ := hz1.cells
  have HE1 := Lib.hid (HE.out.trans hE1)
  have HZ1 := Lib.hid hz1
  clear hE1 hz1
  rw [c1] at z8
  have c2' : ((h.kind.toNat : Int) == 0) = false := beq_eq_false_iff_ne.2 fun e => c2 (UInt8.toNat_inj.1 (by simpa using e))
  have c3' : ¬ 100 < (bs h.link).size := by rw [bs_size]; omega
  have HL := Lib.hid c3
  obtain ⟨s, hs⟩ : ∃ s, s = bs h.name := ⟨_, rfl⟩
  obtain ⟨t, ht⟩ : ∃ t, t = bs h.link := ⟨_, rfl⟩
  have hsl : s.size = h.name.length := by rw [hs, bs_size]
  have htl : t.size = h.link.length := by rw [ht, bs_size]
  rw [← hs] at z0
  rw [← ht] at z1 c3'
  have hss : s.size ≤ 1000000 := by omega
  have htt : t.size ≤ 100 := by omega
  have Hs := Lib.hid (And.intro hs hsl)
  have Ht := Lib.hid (And.intro ht htl)
  clear c1 c2 c3 hs ht hsl htl hl
  go_wp2_with fail
  go_loop [6, 7] (fun z i => ∃ (k : Nat) (zb : Bool), k ≤ s.size ∧ i = .int .i64 k ∧ z = .bool zb ∧ Hid (zb = noZ h.name k)) (fun _ i => s.size - (intOf i).toNat)
  case atStart => exact ⟨0, true, Nat.zero_le _, rfl, rfl, rfl⟩
  case round =>
    obtain ⟨k, zb, hk, rfl, rfl, HM⟩ := hrel
    by_cases hlt : k < s.size
    · have hst := noZ_step h.name k (by rw [← Hs.out.2]; exact hlt)
      rw [← get_bs Hs.out.1 k hlt] at hst
      have hyb := ne0 s[k]
      have HS := Lib.hid hst
      clear hst
      cases zb
      · go_wp2
        go_round
        case rel => exact ⟨k + 1, false, by omega, by go_num, rfl, by rw [HS.out, ← HM.out]; trivial⟩
        case measure => simp [intOf]; omega
      · go_wp2
        go_round
        case rel => exact ⟨k + 1, (s[k] != 0), by omega, by go_num, rfl, by rw [HS.out, ← HM.out]; trivial⟩
        case measure => simp [intOf]; omega
    · obtain rfl : k = s.size := by omega
      rw [Hs.out.2] at HM
      go_wp2_with fail
      go_loop [6, 8] (fun z i => ∃ (k : Nat) (zc : Bool), k ≤ t.size ∧ i = .int .i64 k ∧ z = .bool zc ∧ Hid (zc = (zb && noZ h.link k))) (fun _ i => t.size - (intOf i).toNat)
      case atStart => exact ⟨0, zb, Nat.zero_le _, rfl, rfl, by cases zb <;> rfl⟩
      case round =>
        obtain ⟨k, zc, hk, rfl, rfl, HM2⟩ := hrel
        by_cases hlt : k < t.size
        · have hst := noZ_step h.link k (by rw [← Ht.out.2]; exact hlt)
          rw [← get_bs Ht.out.1 k hlt] at hst
          have hyb := ne0 t[k]
          have HS := Lib.hid hst
          clear hst
          cases zc
          · go_wp2
            go_round
            case rel => exact ⟨k + 1, false, by omega, by go_num, rfl, by rw [HS.out, ← Bool.and_assoc, ← HM2.out]; trivial⟩
            case measure => simp [intOf]; omega
          · go_wp2
            go_round
            case rel => exact ⟨k + 1, (t[k] != 0), by omega, by go_num, rfl, by rw [HS.out, ← Bool.and_assoc, ← HM2.out]; trivial⟩
            case measure => simp [intOf]; omega
        · obtain rfl : k = t.size := by omega
          rw [Ht.out.2] at HM2
          have hzc : zc = (noZ h.name h.name.length && noZ h.link h.link.length) := by rw [HM2.out, HM.out]
          have hE0 : putHeadS h = if zc = true ∧ numsFit h = true then some (blockS h p rest) else none := by rw [E0.out, hzc]
          have EE := Lib.hid hE0
          have km := Go.run_make_row' (P := Tryd.prog) 22 5 (.int .u8 0) 1 Tryd.underlying22 info_u8 rfl .i64 .i64 512 (by omega) (by omega)
          rw [show ((512 : Nat) : Int) = 512 from rfl] at km
          have hB := Blk.made 5 w1 512
          have HB := Lib.hid hB
          have y3 : ∀ o, (w1.alloc o).cell? ⟨w.heap.size, 3, none⟩ = some (.int .i64 h.mode) := fun o => (Ext.alloc w1 o).cell z3
          have y4 : ∀ o, (w1.alloc o).cell? ⟨w.heap.size, 4, none⟩ = some (.int .i64 h.uid) := fun o => (Ext.alloc w1 o).cell z4
          have y5 : ∀ o, (w1.alloc o).cell? ⟨w.heap.size, 5, none⟩ = some (.int .i64 h.gid) := fun o => (Ext.alloc w1 o).cell z5
          have y6 : ∀ o, (w1.alloc o).cell? ⟨w.heap.size, 6, none⟩ = some (.int .i64 h.time) := fun o => (Ext.alloc w1 o).cell z6
          have y7 : ∀ o, (w1.alloc o).cell? ⟨w.heap.size, 7, none⟩ = some (.int .i64 h.size) := fun o => (Ext.alloc w1 o).cell z7
          clear hzc hE0 E0 HM HM2 hB
          go_wp2_with fail
          obtain ⟨wa, hwa⟩ : ∃ wa, wa = w1.alloc (.cells (madeCells #[.int .u8 0] 512) 5) := ⟨_, rfl⟩
          have hsa : wa.heap.size = w1.heap.size + 1 := by rw [hwa]; simp
          have hEa : Ext w1 wa := by rw [hwa]; exact Ext.alloc _ _
          rw [← hwa] at HB
          rw [← hwa]
          obtain ⟨wb, hwb⟩ : ∃ wb, wb = ((wa.alloc (.cells #[.int .i64 h.mode, .int .i64 h.uid, .int .i64 h.gid, .int .i64 h.time, .int .i64 h.size] 3)).alloc (.cells #[.int .i64 100, .int .i64 108, .int .i64 116, .int .i64 136, .int .i64 124] 3)).alloc (.cells #[.int .i64 8, .int .i64 8, .int .i64 8, .int .i64 12, .int .i64 12] 3) := ⟨_, rfl⟩
          have hEb : Ext wa wb := by rw [hwb]; exact ((Ext.alloc wa _).trans (Ext.alloc _ _)).trans (Ext.alloc _ _)
          have hR5 : Rows5 wb h (w1.heap.size + 1) (w1.heap.size + 1 + 1) (w1.heap.size + 1 + 1 + 1) := by
            rw [hwb, ← hsa]
            exact rows5_made wa h
          rw [← hwb]
          have hB0 : Blk 5 wb w1.heap.size (layN h 0) := HB.out.ext hEb
          have hz4 := HdBlk.ext HZ1.out (hEa.trans hEb)
          have hEw := HE1.out.trans (hEa.trans hEb)
          have hgs : w.heap.size ≤ w1.heap.size ∧ w.heap.size < w1.heap.size := ⟨HE1.out.size, HZ1.out.lt⟩
          obtain ⟨g, hg⟩ : ∃ g, g = w1.heap.size := ⟨_, rfl⟩
          obtain ⟨b0, hb0⟩ : ∃ b0, b0 = w.heap.size := ⟨_, rfl⟩
          rw [← hg] at hR5 hB0 hgs
          rw [← hg, ← hb0]
          rw [← hb0] at hz4
          have HH := Lib.hid (And.intro hR5 (And.intro hB0 (And.intro hz4 (And.intro hEw (And.intro hgs hb0)))))
          clear hwa hwb hsa hEa hEb hR5 hB0 hz4 hEw hgs hg hb0 HB HZ1 y3 y4 y5 y6 y7 z0 z1 z2 z3 z4 z5 z6 z7 z8
          go_loopw [13] (fun i wr => ∃ k : Nat, k ≤ 5 ∧ i = .int .i64 k ∧ Hid (Rows5 wr h (g + 1) (g + 1 + 1) (g + 1 + 1 + 1) ∧ Blk 5 wr g (layN h k) ∧ HdBlk wr b0 h ∧ Ext w wr ∧ (0 < k → zc = true) ∧ ∀ j e, j < k → flds[j]? = some e → (putS (numD h e.2.2) e.2.1).isSome = true)) (fun i _ => 5 - (intOf i).toNat)
          case atStart => exact ⟨0, by omega, rfl, HH.out.1, HH.out.2.1, HH.out.2.2.1, HH.out.2.2.2.1, fun h => absurd h (by omega), fun j e hj => absurd hj (by omega)⟩
          case round =>
            obtain ⟨k, hk, rfl, HR⟩ := hrel
            by_cases hlt : k < 5
            · obtain ⟨e, he⟩ : ∃ e, flds[k]? = some e := ⟨flds[k]'(by simpa [flds] using hlt), by simp [show k < flds.length by simpa [flds] using hlt]⟩
              obtain ⟨a, n, ii⟩ := e
              have hm : (a, n, ii) ∈ flds := List.mem_of_getElem? he
              obtain ⟨bd1, bd2, bd3, bd4, bd5⟩ := flds_bd hm
              obtain ⟨q0, q1, q2⟩ := HR.out.1 k _ he
              simp only at q0 q1 q2
              obtain ⟨nd, hnd⟩ : ∃ nd, nd = numD h ii := ⟨_, rfl⟩
              obtain ⟨rr, hrr⟩ : ∃ rr, rr = putS nd n := ⟨_, rfl⟩
              rw [← hnd] at q0
              have HK := Lib.hid (And.intro hm (And.intro he (And.intro hnd hrr)))
              have HQ := Lib.hid (And.intro q0 (And.intro q1 q2))
              clear hm he hnd hrr q0 q1 q2
              go_wp2_with fail
              apply wp_region_genl (putVs5 (g + 1) (g + 1 + 1 + 1) k nd n (.slice (putA wr.heap.size rr) (putL rr) (putL rr)) rr.isSome) (PutWI wr rr 8) ()
              case hm => kernel_rfl
              case hB => kernel_rfl
              case hlen => exact fun _ => rfl
              case hds => rfl
              case h0 => exact ⟨Ext.drew _, fun _ => rfl, fun e => (by cases e)⟩
              case hF =>
                intro _
                simp only [finalF, putVs5, Act.put, List.setIfInBounds_toArray, List.set_cons_succ, List.set_cons_zero]
                rfl
              case hstep =>
                simp only [AllO, Nat.zero_add, Nat.reduceAdd]
                refine ⟨?_, ?_, ?_, ?_, ?_, ?_, ?_, ?_, ?_, ?_, ?_, ?_, ?_, ?_, trivial⟩
                all_goals
                  intro u L w7 hW hi hd
                  have q0 := hW.1.cell HQ.out.1
                  have q2 := hW.1.cell HQ.out.2.2
                  have HW := Lib.hid hW
                  have HI := Lib.hid hi
                  clear hW hd hi
                case refine_9 =>
                  refine .inr (.inr ⟨20, #[.int .i64 nd, .int .i64 n], w7, .tuple #[.slice (putA wr.heap.size rr) (putL rr) (putL rr), .bool rr.isSome], ?_, ?_⟩)
                  · go_simp
                  · have hp := ref_PutField nd n w7 bd2 (by omega)
                    rw [← HK.out.2.2.2] at hp
                    refine hp.mono ?_
                    intro e w8 h8
                    obtain ⟨h81, h82⟩ := HW.out.call HI.out h8
                    exact ⟨h81, (), h82, fun _ _ => trivial, rfl⟩
                all_goals
                  refine .inl ⟨_, w7, ?_, (), HW.out.quiet _ (by decide), fun _ _ => trivial, rfl⟩
                  go_simp
              case hend =>
                intro _ L w7 hall' hW
                have h8 : L 8 = true := hall' 8 (by decide)
                have hE7 := hW.1
                have hD := hW.2.2 h8
                have q1 := hW.1.cell HQ.out.2.1
                have HD := Lib.hid (And.intro hE7 hD)
                clear hall' hW h8 hE7 hD
                rcases rr with _ | D
                · simp only [putVs5, Option.isSome_none]
                  have hnf : ¬ (zc = true ∧ numsFit h = true) := fun hh => by
                    have := (numsFit_iff h).1 hh.2 a n ii HK.out.1
                    rw [← HK.out.2.2.1, ← HK.out.2.2.2] at this
                    cases this
                  have HE0 : Hid (putHeadS h = none) := by rw [EE.out, if_neg hnf]; trivial
                  clear hnf
                  go_wp2
                  go_ret2
                  rw [HE0.out]
                  exact ⟨fun D h => (by cases h), fun _ => rfl, HR.out.2.2.2.1.trans HD.out.1⟩
                · simp only [putVs5, Option.isSome_some, putA, putL, Option.map_some, Option.getD_some]
                  cases zc
                  · have HE0 : Hid (putHeadS h = none) := by rw [EE.out, if_neg (fun hh => by cases hh.1)]; trivial
                    go_wp2
                    go_ret2
                    rw [HE0.out]
                    exact ⟨fun D h => (by cases h), fun _ => rfl, HR.out.2.2.2.1.trans HD.out.1⟩
                  · have hdl : D.length = n := putS_length (by omega) HK.out.2.2.2.symm
                    have hpd : putD h (a, n, ii) = D := by unfold putD; rw [← HK.out.2.2.1, ← HK.out.2.2.2]; rfl
                    have hB7 := HR.out.2.1.ext HD.out.1
                    have hD7 := (HD.out.2 D rfl).by_
                    have hln := layN_len h k
                    have k1 := run_cut_from (P := Tryd.prog) Tryd.underlying22 info_u8 .i64 (some ⟨g, 0, none⟩) 512 512 (a : Int) (by omega) (by omega)
                    rw [Int.toNat_natCast, cutA_at (by omega), Nat.zero_add] at k1
                    obtain ⟨w9, hcp, hB9, hg9⟩ := run_copy_by (P := Tryd.prog) (dT := 22) (sT := 22) (off := a) (dLen := 512 - a) (dCap := 512 - a) (sCap := D.length) Tryd.underlying22 info_u8 hB7 hD7 (by rw [hln]; omega) (by omega)
                    have hE9 : Ext w w9 := Below.grown (HR.out.2.2.2.1.trans HD.out.1) hg9 (HR.out.2.2.2.1.trans HD.out.1).size (fun k hk => by cases hk; exact HH.out.2.2.2.2.1.1)
                    have hR9 : Rows5 w9 h (g + 1) (g + 1 + 1) (g + 1 + 1 + 1) := (HR.out.1.ext HD.out.1).kept hg9 (by omega) (by omega) (by omega)
                    have hz9 : HdBlk w9 b0 h := by
                      have hz := HdBlk.ext HR.out.2.2.1 HD.out.1
                      unfold HdBlk at hz ⊢
                      rw [hg9.block b0 (Array.getElem?_eq_some_iff.1 hz).1 (by intro e; cases e; have h5 := HH.out.2.2.2.2; omega)]; exact hz
                    have hS9 : Blk 5 w9 g (layN h (k + 1)) := by rw [layN_step h HK.out.2.1, hpd]; exact hB9
                    have H9 := Lib.hid (And.intro hR9 (And.intro hS9 (And.intro hz9 hE9)))
                    clear hdl hpd hB7 hD7 hln hB9 hg9 hE9 hR9 hz9 hS9
                    go_wp2
                    refine ⟨⟨k + 1, by omega, by go_num, H9.out.1, H9.out.2.1, H9.out.2.2.1, H9.out.2.2.2, fun _ => trivial, fun j e hj he => ?_⟩, by simp [intOf]; omega⟩
                    by_cases ej : j = k
                    · subst ej
                      rw [HK.out.2.1] at he
                      cases he
                      show (putS (numD h ii) n).isSome = true
                      rw [← HK.out.2.2.1, ← HK.out.2.2.2]
                      rfl
                    · exact HR.out.2.2.2.2.2 j e (by omega) he
            · obtain rfl : k = 5 := by omega
              have hzc : zc = true := HR.out.2.2.2.2.1 (by omega)
              have hnf : numsFit h = true := (numsFit_iff h).2 fun a n i hm => by
                obtain ⟨j, hj⟩ := List.getElem?_of_mem hm
                exact HR.out.2.2.2.2.2 j _ (by have := (List.getElem?_eq_some_iff.1 hj).1; simpa [flds] using this) hj
              have HE0 : Hid (putHeadS h = some (blockS h p rest)) := by rw [EE.out, if_pos ⟨hzc, hnf⟩]; trivial
              have hgg := HH.out.2.2.2.2.1.1
              have hgb : b0 ≠ g := by have h5 := HH.out.2.2.2.2; omega
              have hpp := HPL.out
              have hll := HL.out
              have hB0 := HR.out.2.1
              rw [layN_all] at hB0
              obtain ⟨N, hN⟩ : ∃ N, N = layF (numsT h) (fun _ => false) (List.replicate 512 0) := ⟨_, rfl⟩
              rw [← hN] at hB0
              have hNl : N.length = 512 := by rw [hN, layN_length]
              obtain ⟨wB1, hcp1, hB1, hg1⟩ := run_copy_str (P := Tryd.prog) (dT := 22) (sT := 9) (off := 0) (dLen := 512) (dCap := 512) (D := rest) Tryd.underlying22 info_u8 hB0 (by omega) (by omega)
              have hl1 : (lay N 0 rest).length = 512 := by rw [lay_length (by omega)]; exact hNl
              obtain ⟨wB2, hcp2, hB2, hg2⟩ := run_copy_str (P := Tryd.prog) (dT := 22) (sT := 9) (off := 345) (dLen := 167) (dCap := 167) (D := p) Tryd.underlying22 info_u8 hB1 (by omega) (by omega)
              have hl2 : (lay (lay N 0 rest) 345 p).length = 512 := by rw [lay_length (by omega)]; exact hl1
              have k345 := run_cut_from (P := Tryd.prog) Tryd.underlying22 info_u8 .i64 (some ⟨g, 0, none⟩) 512 512 345 (by omega) (by omega)
              rw [show (345 : Int).toNat = 345 from rfl, cutA_at (by omega), Nat.zero_add] at k345
              have k157 := run_cut_from (P := Tryd.prog) Tryd.underlying22 info_u8 .i64 (some ⟨g, 0, none⟩) 512 512 157 (by omega) (by omega)
              rw [show (157 : Int).toNat = 157 from rfl, cutA_at (by omega), Nat.zero_add] at k157
              have k257 := run_cut_from (P := Tryd.prog) Tryd.underlying22 info_u8 .i64 (some ⟨g, 0, none⟩) 512 512 257 (by omega) (by omega)
              rw [show (257 : Int).toNat = 257 from rfl, cutA_at (by omega), Nat.zero_add] at k257
              have k148 := run_cut_from (P := Tryd.prog) Tryd.underlying22 info_u8 .i64 (some ⟨g, 0, none⟩) 512 512 148 (by omega) (by omega)
              rw [show (148 : Int).toNat = 148 from rfl, cutA_at (by omega), Nat.zero_add] at k148
              simp only [Nat.reduceSub] at k345 k157 k257 k148
              have hE1 : Ext w wB1 := Below.grown HR.out.2.2.2.1 hg1 HR.out.2.2.2.1.size (fun k hk => by cases hk; exact hgg)
              have hE2 : Ext w wB2 := Below.grown hE1 hg2 hE1.size (fun k hk => by cases hk; exact hgg)
              have hz2 : HdBlk wB2 b0 h := HdBlk.kept (HdBlk.kept HR.out.2.2.1 hg1 hgb) hg2 hgb
              have H2 := Lib.hid (And.intro hB2 (And.intro hE2 (And.intro hz2 (And.intro hl2 (And.intro hN (And.intro hgg hgb))))))
              clear hzc hnf hB0 hN hNl hB1 hg1 hl1 hB2 hg2 hl2 hE1 hE2 hz2 hpp hll hgg hgb EE
              go_wp2_with fail
              apply wp_region_lit [.slice (some ⟨g, 0, none⟩) 512 512, .slice (some ⟨g, 157, none⟩) 355 355, .pointer (some ⟨b0, 1, none⟩), .string (bs h.link), .int .i64 h.link.length] (LinkWI w h b0 g (lay (lay N 0 rest) 345 p))
              case hm => kernel_rfl
              case hB => kernel_rfl
              case hlen => rfl
              case hds => rfl
              case h0 => exact ⟨H2.out.2.1.trans (Ext.drew _), HdBlk.ext H2.out.2.2.1 (Ext.drew _), H2.out.1.ext (Ext.drew _)⟩
              case hF =>
                simp only [finalF, Act.put, List.setIfInBounds_toArray, List.set_cons_succ, List.set_cons_zero]
                rfl
              case hstep =>
                simp only [AllZ, Nat.zero_add, Nat.reduceAdd]
                refine ⟨?_, ?_, ?_, ?_, ?_, trivial⟩
                all_goals
                  intro L w7 hW hi hd
                  have q1 := hW.2.1.cells.2.1
                  have HW := Lib.hid hW
                  have HI := Lib.hid hi
                  clear hW hd hi
                case refine_5 =>
                  obtain ⟨w8, hcp, h8⟩ := LinkWI.copy HW.out HI.out H2.out.2.2.2.1 HL.out H2.out.2.2.2.2.2.1 H2.out.2.2.2.2.2.2
                  have H8 := Lib.hid h8
                  clear h8
                  refine ⟨w8, .inl ?_, H8.out⟩
                  go_simp
                all_goals
                  refine ⟨w7, .inl ?_, HW.out.quiet _ (by decide)⟩
                  go_simp
              case hend =>
                intro L w7 hall' hW
                have h4 : L 4 = true := hall' 4 (by decide)
                obtain ⟨hE7, hz7, hB7⟩ := hW
                rw [if_pos h4] at hB7
                have hpp := HPL.out
                have hll := HL.out
                have hl2 := H2.out.2.2.2.1
                have hgg := H2.out.2.2.2.2.2.1
                have hgb := H2.out.2.2.2.2.2.2
                have hl7 : (lay (lay (lay N 0 rest) 345 p) 157 h.link).length = 512 := by rw [lay_length (by omega)]; exact hl2
                obtain ⟨w8, hcp8, hB8, hg8⟩ := run_copy_str (P := Tryd.prog) (dT := 22) (sT := 9) (off := 257) (dLen := 255) (dCap := 255) (D := posixL) Tryd.underlying22 info_u8 hB7 (by rw [hl7]; decide) (by decide)
                have hcp8' : ∀ ty, (Builtin.copy_ #[22, 9] ty #[.slice (some ⟨g, 257, none⟩) 255 255, .string ⟨#[117, 115, 116, 97, 114, 0, 48, 48]⟩]).run Tryd.prog w7 = .ok (.int .i64 8) w8 := hcp8
                have hz8 := HdBlk.kept hz7 hg8 hgb
                have hE8 : Ext w w8 := Below.grown hE7 hg8 hE7.size (fun k hk => by cases hk; exact hgg)
                have hT : lay (lay (lay (lay N 0 rest) 345 p) 157 h.link) 257 posixL = layF (textT h p rest) (fun _ => false) (layF (numsT h) (fun _ => false) (List.replicate 512 0)) := by rw [textL_all, H2.out.2.2.2.2.1]
                rw [hT] at hB8
                have hlT := layT_length h hpp.1 hpp.2 hll (fun _ => false)
                have z2 := hz8.cells.2.2.1
                have hc156 := hB8.cell (i := 156) (by rw [hlT]; omega)
                have hf156 := hB8.frozen 156
                have hBA : Blk 5 (w8.setCell ⟨g, 156, none⟩ (.int .u8 (h.kind.toNat : Int))) g (blockA h p rest) := hB8.set 156 h.kind
                have hEA := hE8.setCell (p := ⟨g, 156, none⟩) hgg (.int .u8 (h.kind.toNat : Int))
                have hAl := blockA_length h hpp.1 hpp.2 hll
                obtain ⟨bA, hbA⟩ : ∃ bA, bA = blockA h p rest := ⟨_, rfl⟩
                rw [← hbA] at hBA hAl
                have HA := Lib.hid (And.intro hBA (And.intro hEA hAl))
                have HbA := Lib.hid hbA
                clear hE7 hz7 hB7 h4 hpp hll hl2 hl7 hB8 hg8 hcp8 hz8 hE8 hT hlT hBA hEA hAl hbA hall' hgb hgg
                go_wp2_with fail
                obtain ⟨wA, hwA⟩ : ∃ wA, wA = w8.setCell ⟨g, 156, none⟩ (.int .u8 (h.kind.toNat : Int)) := ⟨_, rfl⟩
                rw [← hwA] at HA
                rw [← hwA]
                clear hwA hc156 hf156 z2
                refine (ref_Sum (some ⟨g, 0, none⟩) bA 512 wA HA.out.2.2 HA.out.1.by_).mono ?_
                rintro e wS ⟨rfl, rfl⟩
                have hsp := sum_put HA.out.2.2
                obtain ⟨sm, hsm⟩ : ∃ sm, sm = sumS bA := ⟨_, rfl⟩
                rw [← hsm] at hsp ⊢
                have hpf := ref_PutField sm 7 wA (by omega) (by omega)
                rw [hsp] at hpf
                have HPF := Lib.hid hpf
                have Hsm := Lib.hid hsm
                clear hsp hsm hpf
                go_wp2_with fail
                refine HPF.out.mono ?_
                rintro e w9 ⟨h91, -, hE9⟩
                obtain ⟨rfl, hD9⟩ := h91 _ rfl
                have hol : (octD 7 sm).length = 7 := octD_length 7 sm (by omega)
                rw [hol]
                have hB9 := HA.out.1.ext hE9
                have hgg := H2.out.2.2.2.2.2.1
                obtain ⟨wC, hcpC, hBC, hgC⟩ := run_copy_by (P := Tryd.prog) (dT := 22) (sT := 22) (off := 148) (dLen := 364) (dCap := 364) (sCap := 7) Tryd.underlying22 info_u8 hB9 hD9.by_ (by rw [hol, HA.out.2.2]; omega) (by omega)
                rw [hol] at hcpC
                have hEC : Ext w wC := Below.grown (HA.out.2.1.trans hE9) hgC (HA.out.2.1.trans hE9).size (fun k hk => by cases hk; exact hgg)
                have hlC : (lay bA 148 (octD 7 sm)).length = 512 := by rw [lay_length (by rw [hol, HA.out.2.2]; omega), HA.out.2.2]
                have hc155 := hBC.cell (i := 155) (by rw [hlC]; omega)
                have hf155 := hBC.frozen 155
                have hBZ : Blk 5 (wC.setCell ⟨g, 155, none⟩ (.int .u8 32)) g ((lay bA 148 (octD 7 sm)).set 155 32) := hBC.set 155 32
                have hEZ := hEC.setCell (p := ⟨g, 155, none⟩) hgg (.int .u8 32)
                have HZ := Lib.hid (And.intro hBZ (And.intro hEZ (And.intro hlC hgg)))
                clear hE9 h91 hD9 hol hB9 hBC hgC hEC hlC hBZ hEZ hgg
                go_wp2
                go_ret2
                rw [HE0.out]
                refine ⟨fun X hX => ?_, fun h => (by cases h), HZ.out.2.1⟩
                have hbS : blockS h p rest = (lay bA 148 (octD 7 sm)).set 155 32 := by unfold blockS; rw [Hsm.out, HbA.out]
                cases hX
                refine ⟨g, HZ.out.2.2.2, ?_, by rw [hbS]; exact HZ.out.1⟩
                rw [hbS, List.length_set, HZ.out.2.2.1]
                rfl

theorem ref_PutHead (h : Hd) (w : World) (hl : h.name.length ≤ 1000000) :
    Calls Tryd.prog 16 #[h.val] w (RowPost w (putHeadS h)) := by
  by_cases hb : cutS h.name = none ∨ h.gnu = true ∨ h.kind = 0 ∨ 100 < h.link.length
  · exact ref_PutHead_bad h w hl hb
  · cases hc : cutS h.name with
    | none => exact absurd (.inl hc) hb
    | some x =>
      obtain ⟨p, rest⟩ := x
      refine ref_PutHead_go h w hl p rest hc ?_ (fun e => hb (.inr (.inr (.inl e)))) ?_
      · cases hg : h.gnu with
        | false => rfl
        | true => exact absurd (.inr (.inl hg)) hb
      · refine Nat.le_of_not_lt fun e => hb (.inr (.inr (.inr e)))
end Go.Proofs.YtpapbnmacjoihaaDoor
