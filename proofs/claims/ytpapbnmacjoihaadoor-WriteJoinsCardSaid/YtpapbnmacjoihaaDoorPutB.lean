/- head.Put: a good header. -/
import Derived.Test.YtpapbnmacjoihaaDoorPutC
namespace Go.Proofs.YtpapbnmacjoihaaDoor
open Go.RowKit Go.Shelf

def putA (b : Nat) (r : Option (List UInt8)) : Option Addr := r.map fun _ => ⟨b, 0, none⟩
def putL (r : Option (List UInt8)) : Nat := (r.getD []).length
theorem PutPost.val {w w' : World} {r : Option (List UInt8)} {e : Ending} (h : PutPost w r e w') :
    e = .returned (.tuple #[.slice (putA w.heap.size r) (putL r) (putL r), .bool r.isSome]) ∧ (∀ D, r = some D → Blk 5 w' w.heap.size D) ∧ Ext w w' := by
  cases r with
  | none => exact ⟨h.2.1 rfl, fun D h => (by cases h), h.2.2⟩
  | some D => exact ⟨(h.1 D rfl).1, fun D' h' => by cases h'; exact (h.1 D rfl).2, h.2.2⟩
/-- While a number is put (operation k calls field.Put). -/
def PutWI (w0 : World) (r : Option (List UInt8)) (k : Nat) (_ : Unit) (L : Nat → Bool) (w : World) : Prop :=
  Ext w0 w ∧ (L k = false → w.heap.size = w0.heap.size) ∧ (L k = true → ∀ D, r = some D → Blk 5 w w0.heap.size D)
theorem PutWI.quiet {w0 w : World} {r : Option (List UInt8)} {k : Nat} {u : Unit} {L : Nat → Bool} (hW : PutWI w0 r k u L w) (i : Nat) (hi : i ≠ k) : PutWI w0 r k u (fun j => if j = i then true else L j) w := by
  refine ⟨hW.1, ?_, ?_⟩
  · simp only [if_neg (Ne.symm hi)]; exact hW.2.1
  · simp only [if_neg (Ne.symm hi)]; exact hW.2.2
theorem PutWI.call {w0 w w' : World} {r : Option (List UInt8)} {k : Nat} {u : Unit} {L : Nat → Bool} {e : Ending} (hW : PutWI w0 r k u L w) (hL : L k = false) (h : PutPost w r e w') :
    e = .returned (.tuple #[.slice (putA w0.heap.size r) (putL r) (putL r), .bool r.isSome]) ∧ PutWI w0 r k u (fun j => if j = k then true else L j) w' := by
  obtain ⟨h1, h2, h3⟩ := h.val
  rw [hW.2.1 hL] at h1 h2
  exact ⟨h1, hW.1.trans h3, fun e => by simp at e, fun _ => h2⟩
def putVs (p : Value) (n : Int) (q : Value) (wd : Nat) (s : Value) (ok : Bool) : Unit → List Value := fun _ =>
  [p, p, .int .i64 n, q, .int .i64 wd, .tuple #[s, .bool ok], .tuple #[s, .bool ok], s, .bool ok, s, .bool ok]

def textVs (gm : Nat) (b0 : Nat) (link p rest : List UInt8) (gr : Nat) : List Value :=
  [.map (some gm), .agg #[.int .i64 0, .int .i64 100], .string (bs rest), undef, .agg #[.int .i64 345, .int .i64 155], .string (bs p), undef, .agg #[.int .i64 157, .int .i64 100], .pointer (some ⟨b0, 1, none⟩), .string (bs link), undef,
   .agg #[.int .i64 257, .int .i64 8], undef, .map (some gm), .pointer (some ⟨gr, 0, none⟩)]
/-- While the numbers are put: the block, all but what is still to come. -/
def NumsIn (w : World) (h : Hd) (b0 g gm gr : Nat) (left : Lit → Bool) (cnt : Nat) : Prop :=
  HdBlk w b0 h ∧ Blk 5 w g (layF (numsT h) left (List.replicate 512 0)) ∧ Rg Tryd.prog 58 w gm gr 5 (numF b0) left cnt ∧
  (∀ a n i, (a, n, i) ∈ flds → left (kl a n) = false → (putS (numD h i) n).isSome = true)
theorem numsFit_iff (h : Hd) : numsFit h = true ↔ ∀ a n i, (a, n, i) ∈ flds → (putS (numD h i) n).isSome = true := by
  unfold numsFit
  rw [List.all_eq_true]
  exact ⟨fun H a n i hm => H (a, n, i) hm, fun H e he => H e.1 e.2.1 e.2.2 he⟩

theorem NumsIn.step {w w' : World} {h : Hd} {b0 g gm gr : Nat} {left : Lit → Bool} {cnt : Nat} {D : List UInt8} {a n i : Nat} (hm : (a, n, i) ∈ flds) (hl : left (kl a n) = true)
    (hD : putS (numD h i) n = some D) (hz : HdBlk w b0 h) (hB : Blk 5 w' g (lay (layF (numsT h) left (List.replicate 512 0)) a D)) (hR : Rg Tryd.prog 58 w gm gr 5 (numF b0) (fun x => left x && !x.sameKey (kl a n)) cnt)
    (hok : ∀ a n i, (a, n, i) ∈ flds → left (kl a n) = false → (putS (numD h i) n).isSome = true) (hg : w.grownBy w' (some g)) (h1 : b0 ≠ g) (h2 : gm ≠ g) (h3 : gr ≠ g) :
    NumsIn w' h b0 g gm gr (fun x => left x && !x.sameKey (kl a n)) cnt := by
  refine ⟨?_, ?_, hR.kept hg (by intro e; cases e; exact h2 rfl) (by intro e; cases e; exact h3 rfl), ?_⟩
  · unfold HdBlk at hz ⊢
    rw [hg.block b0 (Array.getElem?_eq_some_iff.1 hz).1 (by intro e; cases e; exact h1 rfl)]; exact hz
  · rw [layF_put (numsT h) left _ (kl a n) a D (numsT_apart h) (by rw [List.length_replicate]; exact numsT_fit h) ?_ hl (by unfold kl; trivial)] at hB
    · exact hB
    · have hx := List.mem_map_of_mem (f := fun e : Nat × Nat × Nat => (kl e.1 e.2.1, e.1, putD h e)) hm
      have : putD h (a, n, i) = D := by unfold putD; rw [hD]; rfl
      rw [← this]
      exact hx
  · intro a' n' i' hm' hl'
    cases hh : (kl a' n').sameKey (kl a n) with
    | true =>
      obtain ⟨rfl, rfl, rfl⟩ := flds_inj hm hm' (.inl hh)
      rw [hD]; rfl
    | false =>
      simp only [hh, Bool.not_false, Bool.and_true] at hl'
      exact hok a' n' i' hm' hl'

def sumVs (s : Value) (n : Nat) (b : Nat) (t : Value) : Unit → List Value := fun _ =>
  [s, .int .i64 n, .pointer (some ⟨b, 1, none⟩), .int .i64 8, .int .i64 7, .tuple #[t, .bool true], .tuple #[t, .bool true], t, .bool true, t, .bool true]
/-- While the texts are put. -/
def TextsIn (w : World) (h : Hd) (p rest : List UInt8) (b0 g gm gr : Nat) (left : Lit → Bool) (cnt : Nat) : Prop :=
  HdBlk w b0 h ∧ Blk 5 w g (layF (textT h p rest) left (layF (numsT h) (fun _ => false) (List.replicate 512 0))) ∧ Rg Tryd.prog 58 w gm gr 4 (textF h.link p rest) left cnt

theorem TextsIn.step {w w' : World} {h : Hd} {p rest : List UInt8} (hp : p.length ≤ 155) (hr : rest.length ≤ 100) (hlk : h.link.length ≤ 100) {b0 g gm gr : Nat} {left : Lit → Bool} {cnt : Nat} {D : List UInt8} {a n : Nat} (hm : (kl a n, a, D) ∈ textT h p rest) (hl : left (kl a n) = true)
    (hz : HdBlk w b0 h) (hB : Blk 5 w' g (lay (layF (textT h p rest) left (layF (numsT h) (fun _ => false) (List.replicate 512 0))) a D)) (hR : Rg Tryd.prog 58 w gm gr 4 (textF h.link p rest) (fun x => left x && !x.sameKey (kl a n)) cnt)
    (hg : w.grownBy w' (some g)) (h1 : b0 ≠ g) (h2 : gm ≠ g) (h3 : gr ≠ g) :
    TextsIn w' h p rest b0 g gm gr (fun x => left x && !x.sameKey (kl a n)) cnt := by
  refine ⟨?_, ?_, hR.kept hg (by intro e; cases e; exact h2 rfl) (by intro e; cases e; exact h3 rfl)⟩
  · unfold HdBlk at hz ⊢
    rw [hg.block b0 (Array.getElem?_eq_some_iff.1 hz).1 (by intro e; cases e; exact h1 rfl)]; exact hz
  · rw [layF_put (textT h p rest) left _ (kl a n) a D (textT_apart h hp hr hlk) (by rw [layN_length]; exact textT_fit h hp hr hlk) hm hl (by unfold kl; trivial)] at hB
    exact hB

set_option maxHeartbeats 8000000 in
set_option maxRecDepth 100000 in
theorem head_Put_go (h : Hd) (w : World) (hl : h.name.length ≤ 1000000) (hv : HV w) (p rest : List UInt8) (hc : cutS h.name = some (p, rest))
    (c1 : h.gnu = false) (c2 : h.kind ≠ 0) (c3 : h.link.length ≤ 100) (c4 : (0 : UInt8) ∉ h.name ++ h.link) :
    Calls Tryd.prog 15 #[h.val] w (RowPost w (putHeadS h)) := by
  have e0 : putHeadS h = if numsFit h = true then some (blockS h p rest) else none := by
    unfold putHeadS; rw [hc]
    simp only
    by_cases hf : numsFit h = true
    · rw [if_pos ⟨c1, c2, c3, c4, hf⟩, if_pos hf]
    · rw [if_neg (fun e => hf e.2.2.2.2), if_neg hf]
  have hpl := cutS_len hc
  have hz := HdBlk.made w h
  have hE := Ext.alloc w (.cells h.cells 27 (0, 0))
  have hcut := head_Cut h.name _ hl (hv.ext hE)
  rw [hc] at hcut
  obtain ⟨z0, z1, z2, z3, z4, z5, z6, z7, z8⟩ := hz.cells
  have HZ := Lib.hid hz
  have HC := Lib.hid hcut
  have HE := Lib.hid hE
  have HVw := Lib.hid hv
  have E0 := Lib.hid e0
  have HPL := Lib.hid hpl
  clear hv hc hcut hz hE e0 hpl
  unfold Hd.val
  go_enter Tryd.func15, Tryd.ntmps15
  go_wp2_with fail
  refine HC.out.mono ?_
  rintro e wa ⟨rfl, hE1⟩
  simp only [cutV]
  have hz1 := HdBlk.ext HZ.out hE1
  clear z0 z1 z2 z3 z4 z5 z6 z7 z8
  obtain ⟨z0, z1, z2, z3, z4, z5, z6, z7, z8⟩ := hz1.cells
  have hV1 := HVw.out.ext (HE.out.trans hE1)
  obtain ⟨l0, l1⟩ := hV1.link
  have HE1 := Lib.hid (And.intro hE1 (HE.out.trans hE1))
  have HZ1 := Lib.hid hz1
  have HV1 := Lib.hid hV1
  rw [c1] at z8
  have c2' : ((h.kind.toNat : Int) == 0) = false := beq_eq_false_iff_ne.2 fun e => c2 (UInt8.toNat_inj.1 (by simpa using e))
  have c3' : ¬ 100 < (bs h.link).size := by rw [bs_size]; omega
  have hk := Tryd.strings_Contains_one (bs (h.name ++ h.link)) 0 wa
  rw [bs_data, contains0, decide_eq_false c4, ← bs_app] at hk
  have HK := Lib.hid hk
  have s1 : (bs h.name).size ≤ 1000000 := by rw [bs_size]; exact hl
  have s2 : (bs h.link).size ≤ 100 := by rw [bs_size]; exact c3
  have HL := Lib.hid c3
  clear hE1 hz1 hV1 c1 c2 c3 c4 hk hl
  go_wp2_with fail
  refine HK.out.mono ?_
  rintro e w1 ⟨rfl, rfl⟩
  clear HK HC z0 z1 z3 z4 z5 z6 z7 z8 s1 s2 c3' c2' l0 l1 z2
  have km := Go.run_make_row' (P := Tryd.prog) 22 5 (.int .u8 0) 1 Tryd.underlying22 info_u8 rfl .i64 .i64 512 (by omega) (by omega)
  rw [show ((512 : Nat) : Int) = 512 from rfl] at km
  have hB := Blk.made 5 w1 512
  have hE2 := Ext.alloc w1 (.cells (madeCells #[.int .u8 0] 512) 5)
  have HB := Lib.hid (And.intro hB (And.intro hE2 (HE1.out.2.trans hE2)))
  clear hB hE2
  go_wp2_with fail
  refine (head_numbers w.heap.size _ (HVw.out.ext HB.out.2.2)).mono ?_
  rintro e wn ⟨rfl, hM, hEn⟩
  have hsb : (w1.alloc (.cells (madeCells #[.int .u8 0] 512) 5)).heap.size = w1.heap.size + 1 := by simp
  have hg := Blk.ext HB.out.1 hEn
  have hEn' := HB.out.2.1.trans hEn
  have hEw := HB.out.2.2.trans hEn
  obtain ⟨gm, hgm⟩ : ∃ gm, gm = (w1.alloc (.cells (madeCells #[.int .u8 0] 512) 5)).heap.size := ⟨_, rfl⟩
  rw [← hgm] at hM hsb ⊢
  clear hgm hEn
  obtain ⟨wi, left0, cnt0, hrun, hR, hleft, hgi, hszi⟩ := hM.range spanK Tryd.underlying61
  have hEi : Ext wn wi := Below.grown (Ext.refl wn) hgi (Nat.le_refl _) (fun k hk => by cases hk)
  have hrr := hM.lt
  obtain ⟨gr, hgr⟩ : ∃ gr, gr = wn.heap.size := ⟨_, rfl⟩
  rw [← hgr] at hR hrun hrr
  have hbl : w.heap.size < w1.heap.size := HZ1.out.lt
  obtain ⟨b0, hb0⟩ : ∃ b0, b0 = w.heap.size := ⟨_, rfl⟩
  obtain ⟨g, hgg⟩ : ∃ g, g = w1.heap.size := ⟨_, rfl⟩
  have hz2 := HdBlk.ext HZ1.out (hEn'.trans hEi)
  rw [← hb0] at hR hz2
  rw [← hgg] at hg
  have hns : NumsIn wi h b0 g gm gr left0 cnt0 := by
    refine ⟨hz2, ?_, hR, fun a n i hm h => ?_⟩
    · rw [layF_none]
      · exact hg.ext hEi
      · intro e he
        obtain ⟨x, hx, rfl⟩ := List.mem_map.1 he
        show left0 (kl x.1 x.2.1) = true
        rw [hleft _ (by unfold kl; trivial)]
        exact num_left (i := x.2.2) hx
    · rw [hleft _ (by unfold kl; trivial), num_left hm] at h; cases h
  have HN := Lib.hid (And.intro hns (hEw.trans hEi))
  have HG := Lib.hid (show w.heap.size ≤ b0 ∧ w.heap.size ≤ g ∧ w.heap.size ≤ gm ∧ w.heap.size ≤ gr ∧ b0 < g ∧ g < gm ∧ gm < gr from ⟨by omega, by omega, by omega, by omega, by omega, by omega, by omega⟩)
  clear hM hg hEn' hEw hleft hgi hszi hEi hrr hbl hsb hns hR hz2
  rw [← hb0, ← hgg]
  clear HZ1 HZ HB hgg hb0 hgr
  go_wp2_with fail
  go_loopw [54] (fun _ wr => Hid (∃ left cnt, NumsIn wr h b0 g gm gr left cnt ∧ Ext w wr)) (fun _ wr => wr.rangeLeft gm gr)
  case atStart => exact ⟨left0, cnt0, HN.out.1, HN.out.2⟩
  case round =>
    obtain ⟨left, cnt, ⟨hz, hB, hRg, hok⟩, hEw⟩ := hrel
    have hms := hRg.left_eq
    rcases hRg.next spanK 0 with ⟨h0, hl, hnx⟩ | ⟨key, v, x, w', cnt', hk, hl, hf, hnx, hG', hlt, hg', hsz', hen⟩
    · have hnf : numsFit h = true := (numsFit_iff h).2 fun a n i hm => hok a n i hm (hl _)
      rw [layF_all _ _ _ (fun e _ => hl _)] at hB
      have HE0 : Hid (putHeadS h = some (blockS h p rest)) := by rw [E0.out, if_pos hnf]; trivial
      have HX := Lib.hid (And.intro hz (And.intro hB hEw))
      clear hz hB hEw hRg hok hl hnf hms h0
      go_wp2_with fail
      apply wp_region_genl (textVs wr.heap.size b0 h.link p rest) (TextWI (textTab h.link p rest) wr) 0
      case hm => kernel_rfl
      case hB => kernel_rfl
      case hlen => exact fun _ => rfl
      case hds => rfl
      case h0 => 
        refine ⟨fun e => (by cases e), fun e => (by cases e), Ext.drew _, fun _ => ⟨fun e _ h => (by cases h), Ext.drew _, fun _ => rfl, fun e => (by cases e)⟩, fun e => (by cases e)⟩
      case hF =>
        intro _
        simp only [finalF, textVs, Act.put, List.setIfInBounds_toArray, List.set_cons_succ, List.set_cons_zero]
        rfl
      case hstep =>
        simp only [AllO, Nat.zero_add, Nat.reduceAdd]
        have hne : ∀ k : Nat, k ≠ 3 → k ≠ 6 → k ≠ 10 → k ≠ 12 → ∀ e ∈ textTab h.link p rest, e.1 ≠ k := by
          intro k h1 h2 h3 h4 e he
          simp only [textTab, List.mem_cons, List.not_mem_nil, or_false] at he
          rcases he with rfl | rfl | rfl | rfl <;> simp only <;> omega
        have hmx : (textTab h.link p rest).length < maxLen := by show 4 < maxLen; unfold maxLen; omega
        have HNE := Lib.hid hne
        have HMX := Lib.hid hmx
        clear hne hmx
        refine ⟨?_, ?_, ?_, ?_, ?_, ?_, ?_, ?_, ?_, ?_, ?_, ?_, ?_, ?_, ?_, trivial⟩
        all_goals
          intro gr' L w7 hW hi hd
          have V := HVw.out.ext (HX.out.2.2.trans hW.2.2.1)
          obtain ⟨vn0, vn1⟩ := V.name
          obtain ⟨vp0, vp1⟩ := V.prefix_
          obtain ⟨vl0, vl1⟩ := V.link
          obtain ⟨vm0, vm1⟩ := V.magic
          obtain ⟨q0, q1, q2⟩ := (HdBlk.ext HX.out.1 hW.2.2.1).cells
          have HW := Lib.hid hW
          clear hW V q0 q2
        case refine_1 =>
          obtain ⟨e1, e2⟩ := HW.out.make (HNE.out 0 (by decide) (by decide) (by decide) (by decide)) hi
          have hmm := @run_makeMap Tryd.prog
          refine .inl ⟨_, _, ?_, gr', e2, fun _ _ => rfl, rfl⟩
          rw [← e1]
          go_simp
        case refine_4 =>
          obtain ⟨w8, hr, h2⟩ := HW.out.put (textTab_apart _ _ _) HMX.out Tryd.underlying68 (hd ⟨0, .data⟩ (by simp) rfl) (by decide) (by decide) (by decide) hi List.mem_cons_self k_name
          have H8 := Lib.hid h2
          clear h2 HW
          refine .inr (.inl ⟨undef, w8, ?_, rfl, gr', H8.out, fun _ _ => rfl, rfl⟩)
          go_simp
        case refine_7 =>
          obtain ⟨w8, hr, h2⟩ := HW.out.put (textTab_apart _ _ _) HMX.out Tryd.underlying68 (hd ⟨0, .data⟩ (by simp) rfl) (by decide) (by decide) (by decide) hi (List.mem_cons_of_mem _ List.mem_cons_self) k_prefix
          have H8 := Lib.hid h2
          clear h2 HW
          refine .inr (.inl ⟨undef, w8, ?_, rfl, gr', H8.out, fun _ _ => rfl, rfl⟩)
          go_simp
        case refine_11 =>
          obtain ⟨w8, hr, h2⟩ := HW.out.put (textTab_apart _ _ _) HMX.out Tryd.underlying68 (hd ⟨0, .data⟩ (by simp) rfl) (by decide) (by decide) (by decide) hi (List.mem_cons_of_mem _ (List.mem_cons_of_mem _ List.mem_cons_self)) k_link
          have H8 := Lib.hid h2
          clear h2 HW
          refine .inr (.inl ⟨undef, w8, ?_, rfl, gr', H8.out, fun _ _ => rfl, rfl⟩)
          go_simp
        case refine_13 =>
          obtain ⟨w8, hr, h2⟩ := HW.out.put (textTab_apart _ _ _) HMX.out Tryd.underlying68 (hd ⟨0, .data⟩ (by simp) rfl) (by decide) (by decide) (by decide) hi (List.mem_cons_of_mem _ (List.mem_cons_of_mem _ (List.mem_cons_of_mem _ List.mem_cons_self))) k_magic
          have H8 := Lib.hid h2
          clear h2 HW
          refine .inr (.inl ⟨undef, w8, ?_, rfl, gr', H8.out, fun _ _ => rfl, rfl⟩)
          go_simp
        case refine_14 =>
          have h2 := HW.out.move (hd ⟨0, .data⟩ (by simp) rfl) (by
            intro e he
            simp only [textTab, List.mem_cons, List.not_mem_nil, or_false] at he
            rcases he with rfl | rfl | rfl | rfl
            · exact hd ⟨3, .data⟩ (by simp) rfl
            · exact hd ⟨6, .data⟩ (by simp) rfl
            · exact hd ⟨10, .data⟩ (by simp) rfl
            · exact hd ⟨12, .data⟩ (by simp) rfl) (HNE.out 13 (by decide) (by decide) (by decide) (by decide)) hi
          have H8 := Lib.hid h2
          clear h2 HW hd hi
          refine .inl ⟨_, w7, ?_, gr', H8.out, fun _ _ => rfl, rfl⟩
          go_simp
        case refine_15 =>
          obtain ⟨g', w8, hr, h2⟩ := HW.out.range Tryd.underlying68 hi (hd ⟨13, .data⟩ (by simp) rfl)
          have H8 := Lib.hid h2
          have HI := Lib.hid hi
          clear h2 HW hd hi
          refine .inl ⟨_, w8, ?_, g', H8.out, ?_, rfl⟩
          · go_simp
          · intro j hj
            have : j ≠ 14 := fun e => by rw [e, HI.out] at hj; cases hj
            rcases j with _ | _ | _ | _ | _ | _ | _ | _ | _ | _ | _ | _ | _ | _ | _ | j <;> first | rfl | exact absurd rfl this
        all_goals
          refine .inl ⟨_, w7, ?_, gr', HW.out.quiet _ (by decide) (by decide) (by decide) (HNE.out _ (by decide) (by decide) (by decide) (by decide)), fun _ _ => rfl, rfl⟩
          clear hd HW hi
          go_simp
      case hend =>
        intro gr2 L w7 hall' hW
        obtain ⟨hlt2, left2, cnt2, hR2, hl2⟩ := hW.2.2.2.2 (hall' 14 (by decide))
        have hE7 := hW.2.2.1
        have hwr := HX.out.2.2.size
        have hzl := HX.out.1.lt
        have hBl := HX.out.2.1.lt
        obtain ⟨gm2, hgm2⟩ : ∃ gm2, gm2 = wr.heap.size := ⟨_, rfl⟩
        have hT7 : TextsIn w7 h p rest b0 g gm2 gr2 left2 cnt2 := by
          refine ⟨HX.out.1.ext hE7, ?_, by rw [hgm2]; exact hR2⟩
          rw [layF_none _ _ _ (fun e he => by
            have hkl : WideAt.IsKeyLit e.1 := by
              simp only [textT, List.mem_cons, List.not_mem_nil, or_false] at he
              rcases he with rfl | rfl | rfl | rfl <;> trivial
            rw [hl2 _ hkl]
            exact text_left he)]
          exact HX.out.2.1.ext hE7
        have HN7 := Lib.hid (And.intro hT7 (HX.out.2.2.trans hE7))
        have HG2 := Lib.hid (show w.heap.size ≤ g ∧ w.heap.size ≤ gm2 ∧ w.heap.size ≤ gr2 ∧ b0 ≠ g ∧ b0 ≠ gr2 ∧ g ≠ gm2 ∧ g ≠ gr2 from by have := HG.out; omega)
        rw [← hgm2]
        clear hlt2 hR2 hl2 hE7 hwr hzl hBl hgm2 hT7 hall' hW HX
        go_wp2_with fail
        go_loopw [86] (fun _ wq => Hid (∃ left cnt, TextsIn wq h p rest b0 g gm2 gr2 left cnt ∧ Ext w wq)) (fun _ wq => wq.rangeLeft gm2 gr2)
        case atStart => exact ⟨left2, cnt2, HN7.out.1, HN7.out.2⟩
        case round =>
          obtain ⟨left, cnt, ⟨hz, hB, hRg⟩, hEw⟩ := hrel
          have hms := hRg.left_eq
          rcases hRg.next spanK 0 with ⟨h0, hl, hnx⟩ | ⟨key, v, x, w', cnt', hk, hl, hf, hnx, hG', hlt, hg', hsz', hen⟩
          · rw [layF_all _ _ _ (fun e _ => hl _)] at hB
            have hlen := layT_length h HPL.out.1 HPL.out.2 HL.out (fun _ => false)
            have hc156 := hB.cell (i := 156) (by rw [hlen]; omega)
            have hf156 := hB.frozen 156
            have z2 := hz.cells.2.2.1
            have hBA : Blk 5 (wr.setCell ⟨g, 156, none⟩ (.int .u8 (h.kind.toNat : Int))) g (blockA h p rest) := hB.set 156 h.kind
            have hEA := hEw.setCell (p := ⟨g, 156, none⟩) HG2.out.1 (.int .u8 (h.kind.toNat : Int))
            have hAl := blockA_length h HPL.out.1 HPL.out.2 HL.out
            have HA := Lib.hid (And.intro hBA (And.intro hEA hAl))
            clear hz hB hRg hEw hl hms h0 hBA hEA hAl hlen
            go_wp2_with fail
            obtain ⟨wA, hwA⟩ : ∃ wA, wA = wr.setCell ⟨g, 156, none⟩ (.int .u8 (h.kind.toNat : Int)) := ⟨_, rfl⟩
            obtain ⟨bA, hbA⟩ : ∃ bA, bA = blockA h p rest := ⟨_, rfl⟩
            rw [← hwA, ← hbA] at HA
            rw [← hwA]
            have HbA := Lib.hid hbA
            clear hwA hc156 hf156 z2 hbA hnx
            have hsp := sum_put HA.out.2.2
            obtain ⟨sm, hsm⟩ : ∃ sm, sm = sumS bA := ⟨_, rfl⟩
            rw [← hsm] at hsp
            have Hsp := Lib.hid hsp
            have Hsm := Lib.hid hsm
            clear hsp hsm
            have hol : (octD 7 sm).length = 7 := octD_length 7 sm (by omega)
            obtain ⟨D, hD⟩ : ∃ D, D = octD 7 sm := ⟨_, rfl⟩
            rw [← hD] at Hsp hol
            have HDD := Lib.hid hD
            clear hD
            apply wp_region_genl (sumVs (.slice (some ⟨g, 0, none⟩) 512 512) sm 0 (.slice (some ⟨wA.heap.size, 0, none⟩) 7 7)) (PutWI wA (some D) 5) ()
            case hm => kernel_rfl
            case hB => kernel_rfl
            case hlen => exact fun _ => rfl
            case hds => rfl
            case h0 => exact ⟨Ext.drew _, fun _ => rfl, fun e => (by cases e)⟩
            case hF =>
              intro _
              simp only [finalF, sumVs, Act.put, List.setIfInBounds_toArray, List.set_cons_succ, List.set_cons_zero]
              rfl
            case hstep =>
              simp only [AllO, Nat.zero_add, Nat.reduceAdd]
              refine ⟨?_, ?_, ?_, ?_, ?_, ?_, ?_, ?_, ?_, ?_, ?_, trivial⟩
              all_goals
                intro u L w7 hW hi hd
                have hV := HVw.out.ext (HA.out.2.1.trans hW.1)
                obtain ⟨vs0, vs1⟩ := hV.sum
                have HV7 := Lib.hid hV
                have HW := Lib.hid hW
                have HI := Lib.hid hi
                clear hW hd hi hV
              case refine_2 =>
                refine .inr (.inr ⟨31, #[.slice (some ⟨g, 0, none⟩) 512 512], w7, .int .i64 sm, ?_, ?_⟩)
                · go_simp
                · have ht := head_total (some ⟨g, 0, none⟩) bA 512 w7 (by rw [HA.out.2.2]; omega) (HA.out.1.ext HW.out.1).by_ HV7.out
                  rw [HA.out.2.2, ← Hsm.out] at ht
                  refine ht.mono ?_
                  rintro e w8 ⟨rfl, rfl⟩
                  exact ⟨rfl, (), HW.out.quiet _ (by decide), fun _ _ => trivial, rfl⟩
              case refine_6 =>
                refine .inr (.inr ⟨37, #[.int .i64 sm, .int .i64 7], w7, .tuple #[.slice (some ⟨wA.heap.size, 0, none⟩) 7 7, .bool true], ?_, ?_⟩)
                · go_simp
                · have hp := field_Put sm 7 w7 (by omega) (by omega)
                  rw [Hsp.out] at hp
                  refine hp.mono ?_
                  intro e w8 h8
                  obtain ⟨h81, h82⟩ := HW.out.call HI.out h8
                  simp only [putA, putL, Option.map_some, Option.getD_some, Option.isSome_some, hol] at h81
                  exact ⟨h81, (), h82, fun _ _ => trivial, rfl⟩
              all_goals
                refine .inl ⟨_, w7, ?_, (), HW.out.quiet _ (by decide), fun _ _ => trivial, rfl⟩
                have kw7 : IntKind.i64.wrap 7 = 7 := by decide
                go_simp
            case hend =>
              intro _ L w7 hall' hW
              have h5 : L 5 = true := hall' 5 (by decide)
              have hE7 := HA.out.2.1.trans hW.1
              have hD7 := hW.2.2 h5 D rfl
              have hB7 := HA.out.1.ext hW.1
              have hV := HVw.out.ext hE7
              obtain ⟨vs0, vs1⟩ := hV.sum
              have H7 := Lib.hid (And.intro hE7 (And.intro hD7 hB7))
              clear hall' hW h5 hE7 hD7 hB7 hV
              go_wp2_with fail
              refine (span_of 148 8 (some ⟨g, 0, none⟩) 512 512 w7 (by omega) (by omega) (by omega)).mono ?_
              rintro e w8 ⟨rfl, hE8⟩
              rw [cutA_at (by omega), Nat.zero_add]
              have hV8 := HVw.out.ext (H7.out.1.trans hE8)
              have hD8 := (H7.out.2.1.ext hE8).by_
              obtain ⟨w9, hcp, hB9, hg9⟩ := run_copy_by (P := Tryd.prog) (dT := 22) (sT := 22) (off := 148) (dLen := 8) (dCap := 512 - 148) (sCap := 7) Tryd.underlying22 info_u8 (H7.out.2.2.ext hE8) hD8 (by rw [hol, HA.out.2.2]; omega) (by omega)
              rw [hol] at hcp
              have hE9 : Ext w w9 := Below.grown (H7.out.1.trans hE8) hg9 (H7.out.1.trans hE8).size (fun k hk => by cases hk; exact HG2.out.1)
              have hV9 := HVw.out.ext hE9
              obtain ⟨vs0', vs1'⟩ := hV9.sum
              have hln9 : (lay bA 148 D).length = 512 := by rw [lay_length (by rw [hol, HA.out.2.2]; omega), HA.out.2.2]
              have hc155 := hB9.cell (i := 155) (by rw [hln9]; omega)
              have hf155 := hB9.frozen 155
              have hBZ : Blk 5 (w9.setCell ⟨g, 155, none⟩ (.int .u8 32)) g ((lay bA 148 D).set 155 32) := hB9.set 155 32
              have hEZ := hE9.setCell (p := ⟨g, 155, none⟩) HG2.out.1 (.int .u8 32)
              have H9 := Lib.hid (And.intro hBZ (And.intro hEZ hln9))
              clear hE8 hV8 hD8 hB9 hg9 hE9 hV9 hBZ hEZ hln9
              go_wp2
              go_ret2
              rw [HE0.out]
              refine ⟨fun X hX => ?_, fun h => (by cases h), H9.out.2.1⟩
              have hbS : blockS h p rest = (lay bA 148 D).set 155 32 := by unfold blockS; rw [HDD.out, Hsm.out, HbA.out]
              cases hX
              refine ⟨g, HG2.out.1, ?_, by rw [hbS]; exact H9.out.1⟩
              rw [hbS, List.length_set, H9.out.2.2]
              rfl
          · obtain ⟨a, n, D, hm, rfl, rfl, rfl, bd1, bd2, bd3⟩ := text_cases HPL.out.1 HPL.out.2 HL.out hk hf
            have hgs := HG2.out
            have hE' : Ext w w' := Below.grown hEw hg' hEw.size (fun k hk => by cases hk; exact hgs.2.2.1)
            have hz' : HdBlk w' b0 h := by
              unfold HdBlk at hz ⊢
              rw [hg'.block b0 (Array.getElem?_eq_some_iff.1 hz).1 (by intro e; cases e; omega)]; exact hz
            have hB' : Blk 5 w' g (layF (textT h p rest) left (layF (numsT h) (fun _ => false) (List.replicate 512 0))) := by
              unfold Blk at hB ⊢
              rw [hg'.block g (Array.getElem?_eq_some_iff.1 hB).1 (by intro e; cases e; omega)]; exact hB
            have HK := Lib.hid (And.intro hm (And.intro hl (And.intro hG' (And.intro hE' (And.intro hz' (And.intro hB' (And.intro hlt hms)))))))
            have hds : (bs D).size ≤ n := by rw [bs_size]; exact bd1
            simp only [spanV] at hnx hen
            clear hm hl hG' hE' hz' hB' hlt hms hz hB hRg hEw hk hf hg' hsz' hgs
            go_wp2_with fail
            refine (span_of a n (some ⟨g, 0, none⟩) 512 512 _ bd2 (by omega) (by omega)).mono ?_
            rintro e w8 ⟨rfl, hE8⟩
            rw [cutA_at (by omega), Nat.zero_add]
            have hE8' := (Ext.alloc w' _).trans hE8
            have hB8 := HK.out.2.2.2.2.2.1.ext hE8'
            have hln := layT_length h HPL.out.1 HPL.out.2 HL.out left
            obtain ⟨w9, hcp, hB9, hg9⟩ := run_copy_str (P := Tryd.prog) (dT := 22) (sT := 9) (off := a) (dLen := n) (dCap := 512 - a) (D := D) Tryd.underlying22 info_u8 hB8 (by rw [hln]; omega) (by omega)
            have H9 := Lib.hid (And.intro hB9 (And.intro hg9 hE8'))
            clear hB9 hg9 hE8 hE8' hB8 hln
            go_wp2_with fail
            have hE9 := H9.out.2.2
            have hR9 := HK.out.2.2.1.ext hE9
            refine ⟨⟨_, _, TextsIn.step HPL.out.1 HPL.out.2 HL.out HK.out.1 HK.out.2.1 (HK.out.2.2.2.2.1.ext hE9) H9.out.1 hR9 H9.out.2.1 ?_ ?_ ?_, Below.grown (HK.out.2.2.2.1.trans hE9) H9.out.2.1 (HK.out.2.2.2.1.trans hE9).size (fun k hk => by cases hk; exact HG2.out.1)⟩, ?_⟩
            · have := HG2.out; omega
            · have := HG2.out; omega
            · have := HG2.out; omega
            · have h1 := (hR9.kept H9.out.2.1 (by intro e; cases e; have := HG2.out; omega) (by intro e; cases e; have := HG2.out; omega)).left_eq
              rw [h1, HK.out.2.2.2.2.2.2.2]
              exact HK.out.2.2.2.2.2.2.1
    · obtain ⟨a, n, ii, hm, rfl, rfl, rfl⟩ := num_cases hk hf
      obtain ⟨bd1, bd2, bd3, bd4, bd5⟩ := flds_bd hm
      have hgs := HG.out
      have hE' : Ext w w' := Below.grown hEw hg' hEw.size (fun k hk => by cases hk; exact hgs.2.2.2.1)
      have hz' : HdBlk w' b0 h := by
        unfold HdBlk at hz ⊢
        rw [hg'.block b0 (Array.getElem?_eq_some_iff.1 hz).1 (by intro e; cases e; omega)]; exact hz
      have hB' : Blk 5 w' g (layF (numsT h) left (List.replicate 512 0)) := by
        unfold Blk at hB ⊢
        rw [hg'.block g (Array.getElem?_eq_some_iff.1 hB).1 (by intro e; cases e; omega)]; exact hB
      have hii : w'.cell? ⟨b0, ii, none⟩ = some (.int .i64 (numD h ii)) := by
        obtain ⟨z0, z1, z2, z3, z4, z5, z6, z7, z8⟩ := hz'.cells
        rcases (show ii = 3 ∨ ii = 4 ∨ ii = 5 ∨ ii = 6 ∨ ii = 7 by omega) with rfl | rfl | rfl | rfl | rfl <;> assumption
      obtain ⟨nd, hnd⟩ : ∃ nd, nd = numD h ii := ⟨_, rfl⟩
      rw [← hnd] at hii
      have HK := Lib.hid (And.intro hm (And.intro hl (And.intro hG' (And.intro hE' (And.intro hz' (And.intro hB' (And.intro hok (And.intro hlt (And.intro hms hnd)))))))))
      have Hii := Lib.hid hii
      simp only [spanV, ptrV] at hnx hen
      clear hm hl hG' hE' hz' hB' hok hlt hms hnd hz hB hRg hEw hk hf hg' hsz' hgs hii
      go_wp2_with fail
      obtain ⟨b8, hb8⟩ : ∃ b8, b8 = w'.heap.size := ⟨_, rfl⟩
      obtain ⟨w6, hw6⟩ : ∃ w6, w6 = w'.alloc (.cells #[.int .i64 (a : Int), .int .i64 (n : Int)] 58) := ⟨_, rfl⟩
      have hE6 : Ext w' w6 := by rw [hw6]; exact Ext.alloc _ _
      have hc6 : w6.heap[b8]? = some (.cells #[.int .i64 (a : Int), .int .i64 (n : Int)] 58 (0, 0)) := by rw [hw6, hb8]; exact heap_alloc_new _ _
      have hs0 : w6.cell? ⟨b8, 0, none⟩ = some (.int .i64 (a : Int)) := cell_of hc6 (by simp)
      have hs1 : w6.cell? ⟨b8, 1, none⟩ = some (.int .i64 (n : Int)) := cell_of hc6 (by simp)
      have hd6 := hE6.cell Hii.out
      rw [← hw6, ← hb8]
      obtain ⟨rr, hrr⟩ : ∃ rr, rr = putS nd n := ⟨_, rfl⟩
      have H6 := Lib.hid (And.intro hE6 (And.intro hs0 (And.intro hs1 (And.intro hd6 hrr))))
      clear hw6 hb8 hE6 hc6 hs0 hs1 hd6 hrr hnx hen
      apply wp_region_genl (putVs (.pointer (some ⟨b0, ii, none⟩)) nd (.pointer (some ⟨b8, 1, none⟩)) n (.slice (putA w6.heap.size rr) (putL rr) (putL rr)) rr.isSome) (PutWI w6 rr 5) ()
      case hm => kernel_rfl
      case hB => kernel_rfl
      case hlen => exact fun _ => rfl
      case hds => rfl
      case h0 => exact ⟨Ext.drew _, fun _ => rfl, fun e => (by cases e)⟩
      case hF =>
        intro _
        simp only [finalF, putVs, Act.put, List.setIfInBounds_toArray, List.set_cons_succ, List.set_cons_zero]
        rfl
      case hstep =>
        simp only [AllO, Nat.zero_add, Nat.reduceAdd]
        refine ⟨?_, ?_, ?_, ?_, ?_, ?_, ?_, ?_, ?_, ?_, ?_, trivial⟩
        all_goals
          intro u L w7 hW hi hd
          have q0 := hW.1.cell H6.out.2.1
          have q1 := hW.1.cell H6.out.2.2.1
          have q2 := hW.1.cell H6.out.2.2.2.1
          have HW := Lib.hid hW
          have HI := Lib.hid hi
          clear hW hd hi
        case refine_6 =>
          refine .inr (.inr ⟨37, #[.int .i64 nd, .int .i64 n], w7, .tuple #[.slice (putA w6.heap.size rr) (putL rr) (putL rr), .bool rr.isSome], ?_, ?_⟩)
          · go_simp
          · have hp := field_Put nd n w7 bd2 (by omega)
            rw [← H6.out.2.2.2.2] at hp
            refine hp.mono ?_
            intro e w8 h8
            obtain ⟨h81, h82⟩ := HW.out.call HI.out h8
            exact ⟨h81, (), h82, fun _ _ => trivial, rfl⟩
        all_goals
          refine .inl ⟨_, w7, ?_, (), HW.out.quiet _ (by decide), fun _ _ => trivial, rfl⟩
          go_simp
      case hend =>
        intro _ L w7 hall' hW
        have h5 : L 5 = true := hall' 5 (by decide)
        have hE7 := H6.out.1.trans hW.1
        have hD := hW.2.2 h5
        have hs0 := hW.1.cell H6.out.2.1
        have hs1 := hW.1.cell H6.out.2.2.1
        have hf := hW.1.size
        have HD := Lib.hid (And.intro hE7 hD)
        clear hall' hW h5 hE7 hD
        rcases rr with _ | D
        · simp only [putVs, Option.isSome_none]
          have hnf : ¬ numsFit h = true := fun hh => by
            have := (numsFit_iff h).1 hh a n ii HK.out.1
            rw [← HK.out.2.2.2.2.2.2.2.2.2, ← H6.out.2.2.2.2] at this
            cases this
          have HE0 : Hid (putHeadS h = none) := by rw [E0.out, if_neg hnf]; trivial
          go_wp2
          go_ret2
          rw [HE0.out]
          exact ⟨fun D h => (by cases h), fun _ => rfl, HK.out.2.2.2.1.trans HD.out.1⟩
        · simp only [putVs, Option.isSome_some, putA, putL, Option.map_some, Option.getD_some]
          go_wp2_with fail
          refine (span_of a n (some ⟨g, 0, none⟩) 512 512 w7 bd1 (by omega) (by omega)).mono ?_
          rintro e w8 ⟨rfl, hE8⟩
          rw [cutA_at (by omega), Nat.zero_add]
          have hdl : D.length = n := putS_length (by omega) H6.out.2.2.2.2.symm
          have hB8 : Blk 5 w8 g (layF (numsT h) left (List.replicate 512 0)) := HK.out.2.2.2.2.2.1.ext (HD.out.1.trans hE8)
          have hD8 := ((HD.out.2 D rfl).ext hE8).by_
          obtain ⟨w9, hcp, hB9, hg9⟩ := run_copy_by (P := Tryd.prog) (dT := 22) (sT := 22) (off := a) (dLen := n) (dCap := 512 - a) (sCap := D.length) Tryd.underlying22 info_u8 hB8 hD8 (by rw [layN_length]; omega) (by omega)
          have H9 := Lib.hid (And.intro hB9 (And.intro hg9 (And.intro hE8 hdl)))
          clear hB9 hg9 hE8 hdl hB8 hD8 hs0 hs1 hf
          go_wp2_with fail
          have hE9 := HD.out.1.trans H9.out.2.2.1
          have hR9 := HK.out.2.2.1.ext hE9
          refine ⟨⟨_, _, NumsIn.step HK.out.1 HK.out.2.1 (by rw [← HK.out.2.2.2.2.2.2.2.2.2]; exact H6.out.2.2.2.2.symm) (HK.out.2.2.2.2.1.ext hE9) H9.out.1 hR9 HK.out.2.2.2.2.2.2.1 H9.out.2.1 ?_ ?_ ?_, Below.grown (HK.out.2.2.2.1.trans hE9) H9.out.2.1 (HK.out.2.2.2.1.trans hE9).size (fun k hk => by cases hk; exact HG.out.2.1)⟩, ?_⟩
          · have := HG.out; omega
          · have := HG.out; omega
          · have := HG.out; omega
          · have h1 := (hR9.kept H9.out.2.1 (by intro e; cases e; have := HG.out; omega) (by intro e; cases e; have := HG.out; omega)).left_eq
            rw [h1, HK.out.2.2.2.2.2.2.2.2.1]
            exact HK.out.2.2.2.2.2.2.2.1

theorem head_Put (h : Hd) (w : World) (hl : h.name.length ≤ 1000000) (hv : HV w) :
    Calls Tryd.prog 15 #[h.val] w (RowPost w (putHeadS h)) := by
  cases hc : cutS h.name with
  | none => exact head_Put_cut h w hl hv hc
  | some x =>
    obtain ⟨p, rest⟩ := x
    by_cases hb : h.gnu = false ∧ h.kind ≠ 0 ∧ h.link.length ≤ 100 ∧ (0 : UInt8) ∉ h.name ++ h.link
    · exact head_Put_go h w hl hv p rest hc hb.1 hb.2.1 hb.2.2.1 hb.2.2.2
    · exact head_Put_bad h w hl hv p rest hc hb
end Go.Proofs.YtpapbnmacjoihaaDoor
