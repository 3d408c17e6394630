/- slices.Grow, Concat, Clone at []byte. -/
/- block.Sink: Put, fill, Body, End, Out. -/
import Derived.Test.YtpapbnmacjoihaaDoorOwnZ
import Derived.Test.YtpapbnmacjoihaaDoorGoodA
import Derived.WalkSpells
import Derived.Test.YtpapbnmacjoihaaDoorWrA
import Derived.Test.YtpapbnmacjoihaaDoorRegionG
import Derived.OneCell
namespace Go.Proofs.YtpapbnmacjoihaaDoor
open Go.RowKit Go.Shelf

/-- a row of one's own, its length cut to 0. -/
theorem Rw.cut0 {base : Nat} {w : World} {g n c : Nat} {l : List UInt8} (h : Rw base w (.slice (some ⟨g, 0, none⟩) n c) l) : Rw base w (.slice (some ⟨g, 0, none⟩) 0 c) [] := by
  obtain ⟨h1, h2 | ⟨g', cap, cur, hv, hb, hg, hn, hc, hs, ht⟩⟩ := h
  · cases h2.1
  · cases hv
    exact ⟨rfl, .inr ⟨g, c, cur, rfl, hb, hg, Nat.zero_le _, hc, hs, by simp⟩⟩

set_option maxHeartbeats 2000000 in
set_option maxRecDepth 100000 in
theorem slices_Grow (n : Nat) (w : World) (hn : n ≤ 140737488355328) :
    Calls Tryd.prog 93 #[.slice none 0 0, .int .i64 n] w fun e w' => Hid (∃ v, e = .returned v ∧ Rw w.heap.size w' v [] ∧ Ext w w') := by
  by_cases h0 : 0 < n
  · have k1 := run_cut_to (P := Tryd.prog) Tryd.underlying22 info_u8 .i64 none 0 0 0 (by omega) (by omega)
    have hnil := Rw.nil w.heap.size w
    go_enter Tryd.func93, Tryd.ntmps93
    go_wp2_with (at_builtin; refine wpList_appZ rfl _ _ rfl hnil (by simp; omega) (Nat.le_refl _) rfl rfl ?_; intro v' w' hR hg hz)
    obtain ⟨p', c', rfl, hBy, hc1, hc2, hpn, hpa⟩ := hR.shape
    have hE := Ext.own (Ext.refl w) hnil hg (Nat.le_refl _)
    cases p' with
    | none =>
      have := congrArg List.length (hpn rfl)
      simp at this
      omega
    | some a =>
      obtain ⟨ha, _, _⟩ := hpa a rfl
      rw [ha] at hR
      have hlen : ([] ++ List.replicate n (0 : UInt8)).length = n := by simp
      rw [hlen] at hR hc1
      rw [ha, hlen]
      have k2 := run_cut_to (P := Tryd.prog) Tryd.underlying22 info_u8 .i64 (some ⟨a.block, 0, none⟩) n c' 0 (by omega) (by omega)
      have HH := Lib.hid (And.intro hR.cut0 hE)
      clear hnil hR hg hz hBy hpn hpa hE ha hlen k1
      rw [show (0 : Int).toNat = 0 from rfl] at k2
      go_wp2
      try rw [k2]
      try go_wp2
      go_ret
      exact ⟨_, rfl, HH.out.1, HH.out.2⟩
  · obtain rfl : n = 0 := by omega
    go_enter Tryd.func93, Tryd.ntmps93
    go_wp2
    go_ret
    exact ⟨_, rfl, Rw.nil _ _, Ext.refl _⟩

set_option maxHeartbeats 4000000 in
set_option maxRecDepth 100000 in
theorem slices_Concat1 (gl : Nat) (p : Option Addr) (c : Nat) (x : List UInt8) (w : World) (hx : x.length ≤ 140737488355328) (hl : w.heap[gl]? = some (.cells #[.slice p x.length c] 22 (0, 0))) (hb : By w p x) :
    Calls Tryd.prog 77 #[.slice (some ⟨gl, 0, none⟩) 1 1] w fun e w' => Hid (∃ v, e = .returned v ∧ Rw w.heap.size w' v x ∧ Ext w w') := by
  have HG : Hid (∀ W, Ext w W → Calls Tryd.prog 93 #[.slice none 0 0, .int .i64 x.length] W fun e w' => Hid (∃ v, e = .returned v ∧ Rw W.heap.size w' v [] ∧ Ext W w')) := fun W _ => slices_Grow x.length W hx
  have HL := Lib.hid hl
  have HB := Lib.hid hb
  clear hl hb
  go_enter Tryd.func77, Tryd.ntmps77
  go_wp2_with fail
  go_loop [3, 11] (fun sv iv => ∃ k : Nat, k ≤ 1 ∧ iv = .int .i64 k ∧ sv = .int .i64 ((k * x.length : Nat) : Int)) (fun _ iv => 1 - (intOf iv).toNat)
  case atStart => exact ⟨0, by omega, rfl, by simp⟩
  case round =>
    obtain ⟨k, hk, rfl, rfl⟩ := hrel
    by_cases hlt : k < 1
    · obtain rfl : k = 0 := by omega
      have hc := Go.cell_of_one HL.out
      rw [Nat.zero_mul]
      go_wp2
      go_round
      case rel => exact ⟨1, by omega, by go_num, by simp⟩
      case measure => simp [intOf]
    · obtain rfl : k = 1 := by omega
      rw [Nat.one_mul]
      go_wp2_with fail
      refine (HG.out _ (Ext.refl _)).mono ?_
      rintro e w2 HR
      obtain ⟨v, rfl, hR, hE⟩ := HR.out
      have HQ := Lib.hid (And.intro hR hE)
      have HL2 := Lib.hid (Ext.heap hE HL.out)
      clear hR hE HR HG
      go_wp2_with fail
      go_loopw [6, 27] (fun nv iv wr => ∃ k : Nat, k ≤ 1 ∧ iv = .int .i64 k ∧ Hid (Rw w.heap.size wr nv (if k = 0 then [] else x) ∧ Ext w wr)) (fun _ iv _ => 1 - (intOf iv).toNat)
      case atStart => exact ⟨0, by omega, rfl, HQ.out.1, HQ.out.2⟩
      case round =>
        obtain ⟨k, hk, rfl, HR⟩ := hrel
        by_cases hlt : k < 1
        · obtain rfl : k = 0 := by omega
          have hc := Go.cell_of_one (Ext.heap HR.out.2 HL.out)
          have hRw := HR.out.1
          rw [if_pos rfl] at hRw
          have hby := HB.out.ext HR.out.2
          have hsz := HR.out.2.size
          go_wp2_with (at_builtin; refine wpList_app rfl _ _ rfl hRw hby (by simp; omega) hsz rfl rfl ?_; intro v' w' hR2 hg2 _)
          have HN := Lib.hid (And.intro hR2 (Ext.own HR.out.2 hRw hg2 (Nat.le_refl _)))
          clear hR2 hg2 hRw hby
          go_wp2
          go_roundw
          case rel => exact ⟨1, by omega, by go_num, HN.out.1, HN.out.2⟩
          case measure => simp [intOf]
        · obtain rfl : k = 1 := by omega
          go_wp2
          go_ret
          exact ⟨_, rfl, HR.out.1, HR.out.2⟩

set_option maxHeartbeats 2000000 in
set_option maxRecDepth 100000 in
theorem slices_Clone_nil (w : World) :
    Calls Tryd.prog 80 #[.slice none 0 0] w fun e w' => e = .returned (.slice none 0 0) ∧ w = w' := by
  have k0 := fun W => Lib.run_eql_slice_nil (P := Tryd.prog) W 22 5 none 0 0 0 0 Tryd.underlying22
  go_enter Tryd.func80, Tryd.ntmps80
  go_wp2
  go_ret
  exact ⟨rfl, rfl⟩
set_option maxHeartbeats 2000000 in
set_option maxRecDepth 100000 in
theorem slices_Clone (a : Addr) (c : Nat) (x : List UInt8) (w : World) (hx : x.length ≤ 140737488355328) (hb : By w (some a) x) :
    Calls Tryd.prog 80 #[.slice (some a) x.length c] w fun e w' => Hid (∃ v, e = .returned v ∧ Rw w.heap.size w' v x ∧ Ext w w' ∧ v ≠ .slice none 0 0) := by
  have hemp := Rw.empty (base := w.heap.size) w (Nat.le_refl _)
  have hby := hb.ext (Ext.alloc w (.cells #[] 5))
  have k0 := fun W => Lib.run_eql_slice_nil (P := Tryd.prog) W 22 5 (some a) x.length c 0 0 Tryd.underlying22
  go_enter Tryd.func80, Tryd.ntmps80
  go_wp2_with (at_builtin; refine wpList_app rfl _ _ rfl hemp hby (by rw [List.length_nil]; omega) (by simp) rfl rfl ?_; intro v' w' hR hg hn)
  rw [List.nil_append] at hR
  have hE := Ext.own (Ext.alloc w _) hemp hg (Nat.le_refl _)
  have HE := Lib.hid (And.intro hR (And.intro hE hn))
  clear hemp hR hg hE hby hn hb
  go_wp2
  go_ret
  exact ⟨_, rfl, HE.out.1, HE.out.2.1, fun e => by have := (HE.out.2.2.1 e).1; cases this⟩
end Go.Proofs.YtpapbnmacjoihaaDoor

namespace Go.Proofs.YtpapbnmacjoihaaDoor
open Go.RowKit Go.Shelf

theorem Rw.mono {base B : Nat} {w : World} {v : Value} {l : List UInt8} (h : Rw base w v l) (hB : B ≤ base) : Rw B w v l := by
  obtain ⟨h1, h2 | ⟨g, cap, cur, hv, hb, rest⟩⟩ := h
  · exact ⟨h1, .inl h2⟩
  · exact ⟨h1, .inr ⟨g, cap, cur, hv, Nat.le_trans hB hb, rest⟩⟩
/-- what is below B stays below B's own rows. -/
theorem Rw.below {base : Nat} {w w' : World} {v : Value} {l : List UInt8} {g : Nat} {u : Value} (h : Rw base w v l) (hg : g < base) (hw : w' = w.setCell ⟨g, 0, none⟩ u) : Rw base w' v l := by
  subst hw
  obtain ⟨h1, h2 | ⟨g', cap, cur, hv, hb, hg', rest⟩⟩ := h
  · exact ⟨h1, .inl h2⟩
  · refine ⟨h1, .inr ⟨g', cap, cur, hv, hb, ?_, rest⟩⟩
    rw [Below.heap_setCell _ _ _ _ (by show g' ≠ g; omega)]
    exact hg'
/-- the sink at sk holds l, in a row from base on. -/
def Snk (base : Nat) (w : World) (sk : Nat) (l : List UInt8) : Prop :=
  sk < base ∧ base ≤ w.heap.size ∧ ∃ v, w.heap[sk]? = some (.cells #[v] 77 (0, 0)) ∧ Rw base w v l
/-- nothing below base turns but the sink. -/
structure Fr (base sk : Nat) (w w' : World) : Prop where
  os : w'.os = w.os
  tape : w'.tape = w.tape
  output : w'.output = w.output
  size : w.heap.size ≤ w'.heap.size
  block : ∀ k, k < base → k ≠ sk → w'.heap[k]? = w.heap[k]?
theorem Fr.refl (base sk : Nat) (w : World) : Fr base sk w w := ⟨rfl, rfl, rfl, Nat.le_refl _, fun _ _ _ => rfl⟩
theorem Fr.trans {base sk : Nat} {a b c : World} (h : Fr base sk a b) (k : Fr base sk b c) : Fr base sk a c :=
  ⟨k.os.trans h.os, k.tape.trans h.tape, k.output.trans h.output, Nat.le_trans h.size k.size, fun i hi hn => (k.block i hi hn).trans (h.block i hi hn)⟩
theorem Fr.mono {base B sk : Nat} {a b : World} (h : Fr base sk a b) (hB : B ≤ base) : Fr B sk a b := ⟨h.os, h.tape, h.output, h.size, fun i hi hn => h.block i (Nat.lt_of_lt_of_le hi hB) hn⟩
theorem Fr.of_below {base sk : Nat} {a b : World} (h : Below base a b) : Fr base sk a b := ⟨h.os, h.tape, h.output, h.size, fun i hi _ => h.block i hi⟩
theorem Fr.of_ext {base sk : Nat} {a b : World} (h : Ext a b) (hB : base ≤ a.heap.size) : Fr base sk a b := Fr.of_below (Below.mono h hB)
theorem Fr.heap {base sk : Nat} {a b : World} (h : Fr base sk a b) {g : Nat} {o : Obj} (hg : a.heap[g]? = some o) (h1 : g < base) (h2 : g ≠ sk) : b.heap[g]? = some o := by rw [h.block g h1 h2]; exact hg
theorem Fr.ext {base sk : Nat} {w0 a b : World} (h : Fr base sk a b) (hE : Ext w0 a) (h1 : w0.heap.size ≤ base) (h2 : w0.heap.size ≤ sk) : Ext w0 b :=
  ⟨h.os.trans hE.os, h.tape.trans hE.tape, h.output.trans hE.output, Nat.le_trans hE.size h.size, fun k hk => by
    rw [h.block k (Nat.lt_of_lt_of_le hk h1) (by omega)]; exact Below.block hE k hk⟩
theorem Snk.ext {base sk : Nat} {w w' : World} {l : List UInt8} (h : Snk base w sk l) (hE : Ext w w') : Snk base w' sk l := by
  obtain ⟨h1, h2, v, h3, h4⟩ := h
  exact ⟨h1, Nat.le_trans h2 hE.size, v, Ext.heap hE h3, h4.ext hE⟩

def SnkWI (base sk : Nat) (w : World) (l x : List UInt8) (g : Value × Value) (L : Nat → Bool) (w' : World) : Prop :=
  (L 10 = true → L 7 = true) ∧ (L 7 = true → L 6 = true ∧ L 4 = true) ∧ (L 7 = false → Ext w w' ∧ (L 6 = true → Rw base w' g.1 x)) ∧
  (L 7 = true → L 10 = false → Rw base w' g.2 (l ++ x) ∧ Below base w w') ∧ (L 10 = true → Snk base w' sk (l ++ x) ∧ Fr base sk w w')
theorem SnkWI.quiet {base sk : Nat} {w w' : World} {l x : List UInt8} {g : Value × Value} {L : Nat → Bool} (h : SnkWI base sk w l x g L w') (i : Nat) (h6 : i ≠ 6) (h7 : i ≠ 7) (h10 : i ≠ 10) :
    SnkWI base sk w l x g (fun j => if j = i then true else L j) w' := by
  unfold SnkWI at h ⊢
  simp only [if_neg (Ne.symm h6), if_neg (Ne.symm h7), if_neg (Ne.symm h10)]
  refine ⟨h.1, fun e => ⟨(h.2.1 e).1, ?_⟩, h.2.2⟩
  by_cases e4 : 4 = i
  · rw [if_pos e4]
  · rw [if_neg e4]; exact (h.2.1 e).2
def snkVs (sk : Nat) (v : Value) (gl : Nat) (g : Value × Value) : List Value :=
  [.pointer (some ⟨sk, 0, none⟩), .pointer (some ⟨sk, 0, none⟩), .pointer (some ⟨sk, 0, none⟩), .pointer (some ⟨sk, 0, none⟩), v, .slice (some ⟨gl, 0, none⟩) 1 1, g.1, g.2, .pointer (some ⟨sk, 0, none⟩), .pointer (some ⟨sk, 0, none⟩), undef]

set_option maxHeartbeats 4000000 in
set_option maxRecDepth 100000 in
theorem sink_Put (base sk gl : Nat) (p : Option Addr) (c : Nat) (x l : List UInt8) (w : World) (hS : Snk base w sk l) (hlx : l.length + x.length ≤ 140737488355328)
    (hl : w.heap[gl]? = some (.cells #[.slice p x.length c] 22 (0, 0))) (hb : By w p x) :
    Calls Tryd.prog 44 #[.pointer (some ⟨sk, 0, none⟩), .slice (some ⟨gl, 0, none⟩) 1 1] w fun e w' => Hid (e = .returned (.tuple #[]) ∧ Snk base w' sk (l ++ x) ∧ Fr base sk w w') := by
  obtain ⟨hs1, hs2, v, hv, hR⟩ := hS
  have HC : Hid (∀ W, Ext w W → Calls Tryd.prog 77 #[.slice (some ⟨gl, 0, none⟩) 1 1] W fun e w' => Hid (∃ v, e = .returned v ∧ Rw W.heap.size w' v x ∧ Ext W w')) := fun W hW => slices_Concat1 gl p c x W (by omega) (Ext.heap hW hl) (hb.ext hW)
  have HV := Lib.hid (And.intro hv hR)
  have HS := Lib.hid (And.intro hs1 hs2)
  have HX := Lib.hid hlx
  obtain ⟨q, k, hvq, _, hkl, hk2, _, _⟩ := hR.shape
  clear hv hR hs1 hs2 hl hb hlx
  go_enter Tryd.func44, Tryd.ntmps44
  go_wp2_with fail
  apply wp_region_genlX (snkVs sk v gl) (SnkWI base sk w l x) (undef, undef)
  case hm => kernel_rfl
  case hB => kernel_rfl
  case hlen => exact fun g => rfl
  case hds => rfl
  case h0 => exact ⟨fun e => (by cases e), fun e => (by cases e), fun _ => ⟨Ext.drew w, fun e => (by cases e)⟩, fun e => (by cases e), fun e => (by cases e)⟩
  case hF =>
    intro g
    simp only [finalF, snkVs, Act.put, List.setIfInBounds_toArray, List.set_cons_succ, List.set_cons_zero]
    rfl
  case hstep =>
    simp only [AllO, Nat.zero_add, Nat.reduceAdd]
    refine ⟨?_, ?_, ?_, ?_, ?_, ?_, ?_, ?_, ?_, ?_, ?_, trivial⟩
    all_goals
      intro g L w' hW0 hi hd
      have hW := Lib.hid hW0
      clear hW0
    case refine_5 =>
      have h7 : L 7 = false := by
        cases hh : L 7 with
        | false => rfl
        | true => have := (hW.out.2.1 hh).2; rw [hi] at this; cases this
      have hcell := Go.cell_of_one (Ext.heap (hW.out.2.2.1 h7).1 HV.out.1)
      refine .inl ⟨_, w', ?_, g, hW.out.quiet _ (by decide) (by decide) (by decide), fun _ _ => rfl, rfl⟩
      go_simp
    case refine_7 =>
      have h7 : L 7 = false := by
        cases hh : L 7 with
        | false => rfl
        | true => have := (hW.out.2.1 hh).1; rw [hi] at this; cases this
      have h10 : L 10 = false := by
        cases hh : L 10 with
        | false => rfl
        | true => have := hW.out.1 hh; rw [h7] at this; cases this
      have hE := (hW.out.2.2.1 h7).1
      have hcall := HC.out w' hE
      have HSZ := Lib.hid hE.size
      refine .inr (.inr ⟨77, #[.slice (some ⟨gl, 0, none⟩) 1 1], w', ?_, ?_⟩)
      · go_simp
      · refine hcall.mono ?_
        intro e w'' HR
        obtain ⟨u, rfl, hR, hE2⟩ := HR.out
        refine ⟨u, rfl, (u, g.2), ⟨fun e => ?_, fun e => ?_, fun _ => ⟨hE.trans hE2, fun _ => hR.mono (Nat.le_trans HS.out.2 hE.size)⟩, fun e => ?_, fun e => ?_⟩, ?_, rfl⟩
        · simp [h10] at e
        · simp [h7] at e
        · simp [h7] at e
        · simp [h10] at e
        · intro j hj
          have : j ≠ 6 := fun e => by rw [e, hi] at hj; cases hj
          rcases j with _ | _ | _ | _ | _ | _ | _ | _ | _ | _ | _ | j <;> first | rfl | exact absurd rfl this
    case refine_8 =>
      have h4 : L 4 = true := hd ⟨4, .data⟩ (by simp) rfl
      have h6 : L 6 = true := hd ⟨6, .data⟩ (by simp) rfl
      have h10 : L 10 = false := by
        cases hh : L 10 with
        | false => rfl
        | true => have := hW.out.1 hh; rw [hi] at this; cases this
      have hE := (hW.out.2.2.1 hi).1
      have hR1 := (hW.out.2.2.1 hi).2 h6
      obtain ⟨q', k', hv', hby, _, hk2', _, _⟩ := hR1.shape
      obtain ⟨v', w'', hr, h2, h3, _⟩ := run_app 22 k' (HV.out.2.ext hE) hby HX.out (Nat.le_trans HS.out.2 hE.size)
      rw [← hv'] at hr
      have hB : Below base w w'' := Below.grown (Below.mono hE HS.out.2) h3 (Nat.le_trans HS.out.2 hE.size) (fun k hk => (HV.out.2.lt k hk).1)
      refine .inl ⟨v', w'', ?_, (g.1, v'), ⟨fun e => ?_, fun _ => ⟨?_, ?_⟩, fun e => ?_, fun _ _ => ⟨h2, hB⟩, fun e => ?_⟩, ?_, rfl⟩
      · unfold execOp
        simp only [resolve, invoke, builtin, Sem.run_bind, Sem.run_pure, Result.andThen_ok, List.map_toArray, List.map_cons, List.map_nil]
        exact congrArg (fun r => r.andThen fun a w' => Result.ok (Next.value a) w') hr
      · simp
      · simp [h6]
      · simp [h4]
      · simp at e
      · simp [h10] at e
      · intro j hj
        have : j ≠ 7 := fun e => by rw [e, hi] at hj; cases hj
        rcases j with _ | _ | _ | _ | _ | _ | _ | _ | _ | _ | _ | j <;> first | rfl | exact absurd rfl this
    case refine_11 =>
      have h7 : L 7 = true := hd ⟨7, .data⟩ (by simp) rfl
      obtain ⟨hR2, hB⟩ := hW.out.2.2.2.1 h7 hi
      have hb1 : w'.heap[sk]? = some (.cells #[v] 77 (0, 0)) := by rw [Below.block hB sk HS.out.1]; exact HV.out.1
      have hcell := Go.cell_of_one hb1
      have hfr := Go.free_of_one hb1
      have hb2 := Go.one_setCell (u := g.2) hb1
      have hsz : (w'.setCell ⟨sk, 0, none⟩ g.2).heap.size = w'.heap.size := by simp [World.setCell]
      have hS' : Snk base (w'.setCell ⟨sk, 0, none⟩ g.2) sk (l ++ x) := ⟨HS.out.1, by rw [hsz]; exact Nat.le_trans HS.out.2 hB.size, g.2, hb2, Rw.below hR2 HS.out.1 rfl⟩
      have hF' : Fr base sk w (w'.setCell ⟨sk, 0, none⟩ g.2) := ⟨hB.os, hB.tape, hB.output, by rw [hsz]; exact hB.size, fun k hk hn => by
        rw [Below.heap_setCell _ _ _ _ hn]; exact Below.block hB k hk⟩
      have HQ := Lib.hid (And.intro hS' hF')
      obtain ⟨q2, k2', hv2, _, _, hk22, _, _⟩ := hR2.shape
      clear hR2 hB hb1 hb2 hsz hS' hF'
      refine .inr (.inl ⟨undef, w'.setCell ⟨sk, 0, none⟩ g.2, ?_, rfl, g, ⟨?_, ?_, ?_, ?_, ?_⟩, fun _ _ => rfl, rfl⟩)
      · rw [hv2]
        go_simp
      · exact fun _ => by simp [h7]
      · exact fun _ => by simpa using hW.out.2.1 h7
      · intro e; simp [h7] at e
      · intro _ e; simp at e
      · exact fun _ => HQ.out
    all_goals
      refine .inl ⟨_, w', ?_, g, hW.out.quiet _ (by decide) (by decide) (by decide), fun _ _ => rfl, rfl⟩
      go_simp
  case hend =>
    intro g L w4 hall' hW
    have hall : ∀ i, i < 11 → L i = true := hall'
    have HG := Lib.hid (hW.2.2.2.2 (hall 10 (by decide)))
    clear hW hall hall'
    go_wp2
    go_end0
    exact ⟨rfl, HG.out.1, HG.out.2⟩

/-- Put of one row, the list just made. -/
theorem sink_Put1 (base sk : Nat) (p : Option Addr) (c : Nat) (x l : List UInt8) (w : World) (hS : Snk base w sk l) (hlx : l.length + x.length ≤ 140737488355328) (hb : By w p x) :
    Calls Tryd.prog 44 #[.pointer (some ⟨sk, 0, none⟩), .slice (some ⟨w.heap.size, 0, none⟩) 1 1] (w.alloc (.cells #[.slice p x.length c] 22)) fun e w' => Hid (e = .returned (.tuple #[]) ∧ Snk base w' sk (l ++ x) ∧ Fr base sk w w') := by
  have hE := Ext.alloc w (.cells #[.slice p x.length c] 22)
  refine (sink_Put base sk w.heap.size p c x l _ (hS.ext hE) hlx (heap_alloc_new _ _) (hb.ext hE)).mono ?_
  intro e w' H
  exact ⟨H.out.1, H.out.2.1, (Fr.of_ext hE hS.2.1).trans H.out.2.2⟩

set_option maxHeartbeats 4000000 in
set_option maxRecDepth 100000 in
theorem sink_fill (base sk n : Nat) (l : List UInt8) (w : World) (hS : Snk base w sk l) (hn : n ≤ 10000000000) (hlx : l.length ≤ 10000000000) :
    Calls Tryd.prog 79 #[.pointer (some ⟨sk, 0, none⟩), .int .i64 n] w fun e w' => Hid (e = .returned (.tuple #[]) ∧ Snk base w' sk (l ++ List.replicate n 0) ∧ Fr base sk w w') := by
  have km := Go.run_make_row' (P := Tryd.prog) 22 5 (.int .u8 0) 1 Tryd.underlying22 info_u8 rfl .i64 .i64 n (by omega) (by omega)
  have hE := Ext.alloc w (.cells (madeCells #[.int .u8 0] n) 5)
  have hB := (Blk.made 5 w n).by_
  have hc := sink_Put1 base sk (some ⟨w.heap.size, 0, none⟩) n (List.replicate n 0) l _ (hS.ext hE) (by simp; omega) hB
  rw [List.length_replicate, show (w.alloc (.cells (madeCells #[.int .u8 0] n) 5)).heap.size = w.heap.size + 1 from by simp] at hc
  have HC := Lib.hid hc
  have HF := Lib.hid (And.intro hS.2.1 hE)
  clear hc hB hE hS
  go_enter Tryd.func79, Tryd.ntmps79
  go_wp2_with fail
  refine HC.out.mono ?_
  intro e w' H
  obtain ⟨rfl, h2, h3⟩ := H.out
  have HG := Lib.hid (And.intro h2 ((Fr.of_ext HF.out.2 HF.out.1).trans h3))
  clear h2 h3 H HC
  go_wp2
  go_end0
  exact ⟨rfl, HG.out.1, HG.out.2⟩

def padL (l : List UInt8) : List UInt8 := l ++ List.replicate (padN l.length - l.length) 0
theorem padN_ge (n : Nat) : n ≤ padN n ∧ padN n ≤ n + 511 ∧ padN n % 512 = 0 := by unfold padN; omega
theorem padL_length (l : List UInt8) : (padL l).length = padN l.length := by
  have := padN_ge l.length
  unfold padL; simp; omega

set_option maxHeartbeats 4000000 in
set_option maxRecDepth 100000 in
theorem sink_Body (base sk : Nat) (p : Option Addr) (c : Nat) (x l : List UInt8) (w : World) (hS : Snk base w sk l) (hx : x.length ≤ 1000000000) (hlx : l.length ≤ 1000000000) (hb : By w p x) :
    Calls Tryd.prog 45 #[.pointer (some ⟨sk, 0, none⟩), .slice p x.length c] w fun e w' => Hid (e = .returned (.tuple #[]) ∧ Snk base w' sk (l ++ padL x) ∧ Fr base sk w w') := by
  have hp := num_Pad x.length w (by omega)
  have hg := padN_ge x.length
  have HC := Lib.hid (sink_Put1 base sk p c x l _ hS (by omega) hb)
  obtain ⟨N, hN⟩ : ∃ N, N = padN x.length := ⟨_, rfl⟩
  rw [← hN] at hp hg
  have HN := Lib.hid hN
  have HP := Lib.hid hp
  have HX := Lib.hid (And.intro hx hlx)
  have e2 : ((N : Nat) : Int) - (x.length : Int) = ((N - x.length : Nat) : Int) := by omega
  have hlt : x.length ≤ 1000000000 := hx
  have hNl : N ≤ 1000000511 := by omega
  have hGG := Lib.hid hg
  clear hS hb hx hlx hp hN hg
  go_enter Tryd.func45, Tryd.ntmps45
  go_wp2_with fail
  refine HP.out.mono ?_
  rintro e w' ⟨rfl, rfl⟩
  go_wp2_with fail
  refine HC.out.mono ?_
  intro e w1 H
  obtain ⟨rfl, h2, h3⟩ := H.out
  have hf := sink_fill base sk (N - x.length) (l ++ x) w1 h2 (by omega) (by rw [List.length_append]; have := HX.out; omega)
  have HF := Lib.hid hf
  have HG := Lib.hid h3
  clear hf h2 h3 H HC
  go_wp2_with fail
  refine HF.out.mono ?_
  intro e w2 H
  obtain ⟨rfl, h2, h3⟩ := H.out
  rw [HN.out, List.append_assoc] at h2
  have HQ := Lib.hid (And.intro h2 (HG.out.trans h3))
  clear h2 h3 H HF
  go_wp2
  go_end0
  exact ⟨rfl, HQ.out.1, HQ.out.2⟩

set_option maxHeartbeats 4000000 in
set_option maxRecDepth 100000 in
theorem sink_End (base sk : Nat) (l : List UInt8) (w : World) (hS : Snk base w sk l) (hlx : l.length ≤ 10000000000) :
    Calls Tryd.prog 54 #[.pointer (some ⟨sk, 0, none⟩)] w fun e w' => Hid (e = .returned (.tuple #[]) ∧ Snk base w' sk (l ++ List.replicate 1024 0) ∧ Fr base sk w w') := by
  have HF := Lib.hid (sink_fill base sk 1024 l w hS (by omega) hlx)
  clear hS hlx
  go_enter Tryd.func54, Tryd.ntmps54
  go_wp2_with fail
  refine HF.out.mono ?_
  intro e w2 H
  obtain ⟨rfl, h2, h3⟩ := H.out
  have HQ := Lib.hid (And.intro h2 h3)
  clear h2 h3 H HF
  go_wp2
  go_end0
  exact ⟨rfl, HQ.out.1, HQ.out.2⟩

set_option maxHeartbeats 4000000 in
set_option maxRecDepth 100000 in
theorem sink_Out (base sk : Nat) (l : List UInt8) (w : World) (hS : Snk base w sk l) (hlx : l.length ≤ 10000000000) :
    Calls Tryd.prog 46 #[.pointer (some ⟨sk, 0, none⟩)] w fun e w' => Hid (∃ v, e = .returned v ∧ Rw w.heap.size w' v l ∧ Ext w w') := by
  obtain ⟨hs1, hs2, v, hv, hR⟩ := hS
  obtain ⟨q, k, hvq, hby, hkl, hk2, hqn, -⟩ := hR.shape
  subst hvq
  have hcell := Go.cell_of_one hv
  cases q with
  | none =>
    obtain rfl := hqn rfl
    have h0 : k = 0 := by
      obtain ⟨_, h | ⟨g, cap, cur, h, _⟩⟩ := hR
      · cases h.1; rfl
      · cases h
    subst h0
    have HC := Lib.hid (slices_Clone_nil w)
    clear hv hR
    go_enter Tryd.func46, Tryd.ntmps46
    go_wp2_with fail
    refine HC.out.mono ?_
    rintro e w2 ⟨rfl, rfl⟩
    go_wp2
    go_ret
    exact ⟨_, rfl, Rw.nil _ _, Ext.refl _⟩
  | some a =>
    have HC := Lib.hid (slices_Clone a k l w (by omega) hby)
    clear hv hR hby hqn hkl hk2 hlx
    go_enter Tryd.func46, Tryd.ntmps46
    go_wp2_with fail
    refine HC.out.mono ?_
    intro e w2 H
    obtain ⟨v', rfl, h1, h2, _⟩ := H.out
    have HQ := Lib.hid (And.intro h1 h2)
    clear h1 h2 H HC
    go_wp2
    go_ret
    exact ⟨_, rfl, HQ.out.1, HQ.out.2⟩
end Go.Proofs.YtpapbnmacjoihaaDoor
