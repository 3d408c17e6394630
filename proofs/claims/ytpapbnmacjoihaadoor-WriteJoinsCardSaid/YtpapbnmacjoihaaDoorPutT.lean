/- write.Size, write.Archive; bindlelaw09.light. -/
/- bindlelaw09.answers. -/
import Derived.Test.YtpapbnmacjoihaaDoorPutW
import Derived.KernelRfl
import Derived.Lib.SlBytesConst
namespace Go.Proofs.YtpapbnmacjoihaaDoor
open Go.RowKit Go.Shelf

/-- a member and where its body lies. -/
structure Me where
  m : Mb
  p : Option Addr
  c : Nat
def Me.v (e : Me) : Value := .slice e.p e.m.body.length e.c
/-- members one behind the other. -/
def MbsAt (w : World) (p : Option Addr) (l : List Me) : Prop :=
  0 < l.length → ∃ g o, p = some ⟨g, o, none⟩ ∧ ∀ k e, l[k]? = some e → (∀ (i : Nat) (v : Value), (e.m.cells e.v)[i]? = some v → w.cell? ⟨g, o + k * 8 + i, none⟩ = some v) ∧ By w e.p e.m.body
theorem MbsAt.ext {w w' : World} {p : Option Addr} {l : List Me} (h : MbsAt w p l) (hE : Ext w w') : MbsAt w' p l := fun h0 => by
  obtain ⟨g, o, e, hc⟩ := h h0
  exact ⟨g, o, e, fun k e he => ⟨fun i v hv => hE.cell ((hc k e he).1 i v hv), (hc k e he).2.ext hE⟩⟩
theorem MbsAt.cells {w : World} {g o : Nat} {l : List Me} (h : MbsAt w (some ⟨g, o, none⟩) l) {k : Nat} {e : Me} (he : l[k]? = some e) :
    (w.cell? ⟨g, o + k * 8, none⟩ = some (.string (bs e.m.path)) ∧ w.cell? ⟨g, o + k * 8 + 1, none⟩ = some (.string (bs e.m.target)) ∧ w.cell? ⟨g, o + k * 8 + 2, none⟩ = some (.int .u8 (e.m.kind.toNat : Int)) ∧ w.cell? ⟨g, o + k * 8 + 3, none⟩ = some (.int .i64 e.m.mode) ∧
    w.cell? ⟨g, o + k * 8 + 4, none⟩ = some (.int .i64 e.m.uid) ∧ w.cell? ⟨g, o + k * 8 + 5, none⟩ = some (.int .i64 e.m.gid) ∧ w.cell? ⟨g, o + k * 8 + 6, none⟩ = some (.int .i64 e.m.time) ∧ w.cell? ⟨g, o + k * 8 + 7, none⟩ = some e.v) ∧ By w e.p e.m.body := by
  obtain ⟨g', o', eq, hc⟩ := h (Nat.lt_of_le_of_lt (Nat.zero_le k) (List.getElem?_eq_some_iff.1 he).1)
  cases eq
  obtain ⟨h1, h2⟩ := hc k e he
  exact ⟨⟨h1 0 _ rfl, h1 1 _ rfl, h1 2 _ rfl, h1 3 _ rfl, h1 4 _ rfl, h1 5 _ rfl, h1 6 _ rfl, h1 7 _ rfl⟩, h2⟩
theorem MbsAt.some {w : World} {p : Option Addr} {l : List Me} (h : MbsAt w p l) (h0 : 0 < l.length) : ∃ g o, p = .some ⟨g, o, none⟩ := by
  obtain ⟨g, o, e, _⟩ := h h0
  exact ⟨g, o, e⟩
/-- what write.Put makes of a member. -/
def putM (m : Mb) : List UInt8 := if goodS m then memS m else []
theorem memS_len {m : Mb} (h : GoodM m) : (memS m).length = (paxS m).length + 512 + padN m.body.length := by
  have e0 : memS m = paxS m ++ (rowS (hm5 m) ++ padL m.body) := rfl
  rw [e0, List.length_append, List.length_append, padL_length, rowS_len (good_fits h)]
  omega
theorem putM_le (m : Mb) : (putM m).length ≤ 2000000 := by
  unfold putM
  split
  · rename_i hg
    have h := good_parts hg
    have h1 := paxS_le h
    have h2 := padN_ge m.body.length
    have h3 := h.body
    rw [memS_len h]; omega
  · simp
structure Small (m : Mb) : Prop where
  pl : m.path.length ≤ 1000000
  tl : m.target.length ≤ 1000000
  bl : m.body.length ≤ 9000000000000000000
theorem write_Put_any (m : Mb) (p : Option Addr) (c : Nat) (w : World) (hs : Small m) (hw : HW w) (hb : By w p m.body) :
    Calls Tryd.prog 24 #[m.val (.slice p m.body.length c)] w fun e w' => Hid (∃ v, e = .returned (.tuple #[v, .int .i64 (if goodS m then 0 else 1)]) ∧ Rw w.heap.size w' v (putM m) ∧ Ext w w') := by
  unfold putM
  cases hg : goodS m with
  | true => exact write_Put m p c w hw hg hb
  | false =>
    refine (write_Put_bad m p c w hs.pl hs.tl hs.bl hw hg).mono ?_
    rintro e w' ⟨rfl, hE⟩
    exact ⟨_, rfl, Rw.nil _ _, hE⟩
def sizeL (l : List Me) : Nat := (l.map fun e => (putM e.m).length).sum
theorem sizeL_snoc (l : List Me) (e : Me) : sizeL (l ++ [e]) = sizeL l + (putM e.m).length := by unfold sizeL; rw [List.map_append, List.sum_append]; simp
theorem sizeL_le (l : List Me) : sizeL l ≤ l.length * 2000000 := by
  unfold sizeL
  induction l with
  | nil => simp
  | cons x t ih =>
    have := putM_le x.m
    rw [List.map_cons, List.sum_cons, List.length_cons]
    omega

set_option maxHeartbeats 4000000 in
set_option maxRecDepth 100000 in
theorem write_Size (p : Option Addr) (c : Nat) (l : List Me) (w : World) (hp : MbsAt w p l) (hl : l.length ≤ 100000) (hm : ∀ e ∈ l, Small e.m) (hw : HW w) :
    Calls Tryd.prog 26 #[.slice p l.length c] w fun e w' => e = .returned (.int .i64 (sizeL l : Nat)) ∧ Ext w w' := by
  have HP : Hid (∀ W e, Ext w W → e ∈ l → By W e.p e.m.body → Calls Tryd.prog 24 #[e.m.val e.v] W fun e1 w' => Hid (∃ v, e1 = .returned (.tuple #[v, .int .i64 (if goodS e.m then 0 else 1)]) ∧ Rw W.heap.size w' v (putM e.m) ∧ Ext W w')) := fun W e hW he hb => write_Put_any e.m e.p e.c W (hm e he) (hw.ext hW) hb
  have HA := Lib.hid hp
  clear hp hm hw
  go_enter Tryd.func26, Tryd.ntmps26
  go_wp2_with fail
  go_loopw [3, 10] (fun nv kv wr => ∃ k : Nat, k ≤ l.length ∧ kv = .int .i64 k ∧ nv = .int .i64 (sizeL (l.take k) : Nat) ∧ Hid (Ext w wr)) (fun _ kv _ => l.length - (intOf kv).toNat)
  case atStart => exact ⟨0, by omega, rfl, rfl, Ext.refl _⟩
  case round =>
    obtain ⟨k, hk, rfl, rfl, HR⟩ := hrel
    by_cases hlt : k < l.length
    · obtain ⟨e, he⟩ : ∃ e, l[k]? = some e := ⟨_, List.getElem?_eq_getElem hlt⟩
      obtain ⟨g, o, rfl⟩ := HA.out.some (by omega)
      obtain ⟨⟨z0, z1, z2, z3, z4, z5, z6, z7⟩, hby⟩ := (HA.out.ext HR.out).cells he
      have HC := Lib.hid (And.intro he hby)
      clear he hby
      have hsz : sizeL (l.take (k + 1)) = sizeL (l.take k) + (putM e.m).length := by
        rw [List.take_add_one, HC.out.1]
        exact sizeL_snoc _ e
      have h1 := sizeL_le (l.take k)
      have h2 := putM_le e.m
      have hS0 : sizeL (l.take k) ≤ 200000000000 := by
        have : (l.take k).length ≤ 100000 := by rw [List.length_take]; omega
        omega
      generalize hS : sizeL (l.take k) = S at *
      have HSZ := Lib.hid (And.intro hsz hS)
      clear hsz h1 hS
      unfold Me.v at z7
      go_wp2_with fail
      refine (HP.out _ e (HR.out.trans (Ext.alloc _ _)) (List.mem_of_getElem? HC.out.1) (HC.out.2.ext (Ext.alloc _ _))).mono ?_
      intro e1 w2 H
      obtain ⟨v, rfl, hR, hE⟩ := H.out
      obtain ⟨vp, vc, rfl, -, -, -, -, -⟩ := hR.shape
      have HE := Lib.hid (HR.out.trans ((Ext.alloc _ _).trans hE))
      clear hR hE H z0 z1 z2 z3 z4 z5 z6 z7
      generalize hPP : (putM e.m).length = PP at *
      go_wp2_with fail
      exact ⟨⟨k + 1, by omega, by go_num, by rw [HSZ.out.1]; go_num, HE.out⟩, by simp [intOf]; omega⟩
    · obtain rfl : k = l.length := by omega
      rw [List.take_length] at *
      go_wp2
      go_ret
      exact ⟨rfl, HR.out⟩

def allG (l : List Me) : Bool := l.all fun e => goodS e.m
def bodyL (l : List Me) : List UInt8 := l.flatMap fun e => putM e.m
def archS (l : List Me) : List UInt8 := bodyL l ++ List.replicate 1024 0
theorem bodyL_snoc (l : List Me) (e : Me) : bodyL (l ++ [e]) = bodyL l ++ putM e.m := by unfold bodyL; rw [List.flatMap_append]; simp
theorem bodyL_len (l : List Me) : (bodyL l).length = sizeL l := by
  unfold bodyL sizeL
  induction l with
  | nil => rfl
  | cons x t ih => rw [List.flatMap_cons, List.length_append, ih, List.map_cons, List.sum_cons]
theorem allG_bad {l : List Me} {k : Nat} {e : Me} (he : l[k]? = some e) (hg : goodS e.m = false) : allG l = false := by
  unfold allG
  rw [List.all_eq_false]
  exact ⟨e, List.mem_of_getElem? he, by rw [hg]; decide⟩

set_option maxHeartbeats 8000000 in
set_option maxRecDepth 100000 in
theorem write_Archive (p : Option Addr) (c : Nat) (l : List Me) (w : World) (hp : MbsAt w p l) (hl : l.length ≤ 4096) (hm : ∀ e ∈ l, Small e.m) (hw : HW w) :
    Calls Tryd.prog 28 #[.slice p l.length c] w fun e w' => Hid (∃ v, e = .returned (.tuple #[v, .int .i64 (if allG l then 0 else 1)]) ∧ Rw w.heap.size w' v (if allG l then archS l else []) ∧ Ext w w') := by
  have HP : Hid (∀ W e, Ext w W → e ∈ l → By W e.p e.m.body → Calls Tryd.prog 24 #[e.m.val e.v] W fun e1 w' => Hid (∃ v, e1 = .returned (.tuple #[v, .int .i64 (if goodS e.m then 0 else 1)]) ∧ Rw W.heap.size w' v (putM e.m) ∧ Ext W w')) := fun W e hW he hb => write_Put_any e.m e.p e.c W (hm e he) (hw.ext hW) hb
  have HA := Lib.hid hp
  have hE0 := Ext.alloc w (.cells #[.slice none 0 0] 77)
  have hS0 : Snk (w.heap.size + 1) (w.alloc (.cells #[.slice none 0 0] 77)) w.heap.size [] := ⟨by omega, by simp, _, heap_alloc_new _ _, Rw.nil _ _⟩
  have HS0 := Lib.hid (And.intro hE0 hS0)
  clear hp hm hw hE0 hS0
  obtain ⟨er, her⟩ : ∃ er : Int, er = (if allG l then 0 else 1) := ⟨_, rfl⟩
  obtain ⟨er2, her2⟩ : ∃ er2, er2 = (if allG l then archS l else []) := ⟨_, rfl⟩
  rw [← her, ← her2]
  have HER := Lib.hid (And.intro her her2)
  clear her her2
  go_enter Tryd.func28, Tryd.ntmps28
  go_wp2_with fail
  go_loopw [12] (fun kv wr => ∃ k : Nat, k ≤ l.length ∧ kv = .int .i64 k ∧ Hid (Ext w wr ∧ Snk (w.heap.size + 1) wr w.heap.size (bodyL (l.take k)) ∧ ∀ e ∈ l.take k, goodS e.m = true)) (fun kv _ => l.length - (intOf kv).toNat)
  case atStart => exact ⟨0, by omega, rfl, HS0.out.1, HS0.out.2, fun e he => by simp at he⟩
  case round =>
    obtain ⟨k, hk, rfl, HR⟩ := hrel
    by_cases hlt : k < l.length
    · obtain ⟨e, he⟩ : ∃ e, l[k]? = some e := ⟨_, List.getElem?_eq_getElem hlt⟩
      obtain ⟨g, o, rfl⟩ := HA.out.some (by omega)
      obtain ⟨⟨z0, z1, z2, z3, z4, z5, z6, z7⟩, hby⟩ := (HA.out.ext HR.out.1).cells he
      have HC := Lib.hid (And.intro he hby)
      clear he hby
      unfold Me.v at z7
      go_wp2_with fail
      refine (HP.out _ e (HR.out.1.trans (Ext.alloc _ _)) (List.mem_of_getElem? HC.out.1) (HC.out.2.ext (Ext.alloc _ _))).mono ?_
      intro e1 w2 H
      obtain ⟨v, rfl, hR, hE⟩ := H.out
      obtain ⟨vp, vc, rfl, hvb, -, -, -, -⟩ := hR.shape
      have hE2 := (Ext.alloc wr (.cells (e.m.cells e.v) 45)).trans hE
      have HE := Lib.hid (And.intro (HR.out.1.trans hE2) (And.intro (HR.out.2.1.ext hE2) hvb))
      clear hR hE hE2 hvb H z0 z1 z2 z3 z4 z5 z6 z7
      cases hg : goodS e.m with
      | false =>
        have ha := allG_bad HC.out.1 hg
        have hput : putM e.m = [] := by unfold putM; rw [hg]; rfl
        have HG := Lib.hid (And.intro ha hput)
        clear ha hput hg
        simp only [Bool.false_eq_true, if_false]
        go_wp2_with fail
        go_ret2
        rw [HER.out.1, HER.out.2, HG.out.1]
        exact ⟨_, rfl, Rw.nil _ _, HE.out.1⟩
      | true =>
        have h1 : bodyL (l.take (k + 1)) = bodyL (l.take k) ++ putM e.m := by
          rw [List.take_add_one, HC.out.1]
          exact bodyL_snoc _ e
        have h2 : (bodyL (l.take k)).length ≤ 10000000000 := by
          rw [bodyL_len]
          have := sizeL_le (l.take k)
          have : (l.take k).length ≤ 4096 := by rw [List.length_take]; omega
          omega
        have h3 := putM_le e.m
        have h4 : ∀ x ∈ l.take (k + 1), goodS x.m = true := by
          intro x hx
          rw [List.take_add_one, HC.out.1] at hx
          rcases List.mem_append.1 hx with hx | hx
          · exact HR.out.2.2 x hx
          · simp at hx; rw [hx]; exact hg
        have HG := Lib.hid (And.intro h1 (And.intro h2 (And.intro h3 h4)))
        clear h1 h2 h3 h4 hg
        simp only [if_true]
        go_wp2_with fail
        refine (sink_Put1 (w.heap.size + 1) w.heap.size vp vc (putM e.m) (bodyL (l.take k)) w2 HE.out.2.1 (by have := HG.out; omega) HE.out.2.2).mono ?_
        intro e2 w3 H
        obtain ⟨rfl, hs2, hf2⟩ := H.out
        rw [← HG.out.1] at hs2
        have HF := Lib.hid (And.intro (hf2.ext HE.out.1 (by omega) (Nat.le_refl _)) hs2)
        clear hs2 hf2 H
        go_wp2_with fail
        exact ⟨⟨k + 1, by omega, by go_num, HF.out.1, HF.out.2, HG.out.2.2.2⟩, by simp [intOf]; omega⟩
    · obtain rfl : k = l.length := by omega
      rw [List.take_length] at *
      have hall : allG l = true := by
        unfold allG
        rw [List.all_eq_true]
        exact HR.out.2.2
      have hlen : (bodyL l).length ≤ 9000000000 := by
        rw [bodyL_len]
        have := sizeL_le l
        omega
      have HL := Lib.hid (And.intro hall hlen)
      clear hall hlen
      have h4096 : ¬ (4096 : Int) < (l.length : Int) := by omega
      go_wp2_with fail
      refine (sink_End (w.heap.size + 1) w.heap.size (bodyL l) wr HR.out.2.1 (by have := HL.out.2; omega)).mono ?_
      intro e w2 H
      obtain ⟨rfl, hs2, hf2⟩ := H.out
      have HF := Lib.hid (And.intro (hf2.ext HR.out.1 (by omega) (Nat.le_refl _)) hs2)
      clear hs2 hf2 H
      go_wp2_with fail
      refine (sink_Out (w.heap.size + 1) w.heap.size (bodyL l ++ List.replicate 1024 0) w2 HF.out.2 (by rw [List.length_append, List.length_replicate]; have := HL.out.2; omega)).mono ?_
      intro e w3 H
      obtain ⟨v, rfl, h1, h2⟩ := H.out
      have HQ := Lib.hid (And.intro (h1.mono HF.out.1.size) (HF.out.1.trans h2))
      clear h1 h2 H
      go_wp2
      go_ret2
      rw [HER.out.1, HER.out.2, HL.out.1]
      exact ⟨_, rfl, HQ.out.1, HQ.out.2⟩

/-! ### light -/
def fineB (n : Nat) (m : Mb) : Bool := decide (n ≤ 60) && (decide (m.path.length ≤ 2000) && (decide (m.target.length ≤ 2000) && decide (m.body.length ≤ 100000)))
def sumB (l : List Me) : Nat := (l.map fun e => e.m.body.length).sum
def lightS (l : List Me) : Bool := (l.all fun e => fineB l.length e.m) && decide (sumB l ≤ 200000)
theorem sumB_le (l : List Me) (h : ∀ e ∈ l, e.m.body.length ≤ 100000) : sumB l ≤ l.length * 100000 := by
  unfold sumB
  induction l with
  | nil => simp
  | cons x t ih =>
    have h1 := h x (List.mem_cons_self)
    have h2 := ih (fun e he => h e (List.mem_cons_of_mem _ he))
    rw [List.map_cons, List.sum_cons, List.length_cons]
    omega
theorem fineB_iff {n : Nat} {m : Mb} : fineB n m = true ↔ n ≤ 60 ∧ m.path.length ≤ 2000 ∧ m.target.length ≤ 2000 ∧ m.body.length ≤ 100000 := by unfold fineB; simp only [Bool.and_eq_true, decide_eq_true_eq]
theorem light_bad {l : List Me} {k : Nat} {e : Me} (he : l[k]? = some e) (hg : ¬ (l.length ≤ 60 ∧ e.m.path.length ≤ 2000 ∧ e.m.target.length ≤ 2000 ∧ e.m.body.length ≤ 100000)) : lightS l = false := by
  unfold lightS
  have : (l.all fun e => fineB l.length e.m) = false := by
    rw [List.all_eq_false]
    exact ⟨e, List.mem_of_getElem? he, fun h => hg (fineB_iff.1 h)⟩
  rw [this]; rfl
theorem sumB_snoc (l : List Me) (e : Me) : sumB (l ++ [e]) = sumB l + e.m.body.length := by unfold sumB; rw [List.map_append, List.sum_append]; simp

set_option maxHeartbeats 4000000 in
set_option maxRecDepth 100000 in
theorem law_light (p : Option Addr) (c : Nat) (l : List Me) (w : World) (hp : MbsAt w p l) :
    Calls Tryd.prog 22 #[.slice p l.length c] w fun e w' => e = .returned (.bool (lightS l)) ∧ w = w' := by
  obtain ⟨r, hr⟩ : ∃ r, r = lightS l := ⟨_, rfl⟩
  rw [← hr]
  have HR := Lib.hid hr
  have HA := Lib.hid hp
  clear hp hr
  go_enter Tryd.func22, Tryd.ntmps22
  go_wp2_with fail
  go_loop [3, 4] (fun nv kv => ∃ k : Nat, k ≤ l.length ∧ kv = .int .i64 k ∧ nv = .int .i64 (sumB (l.take k) : Nat) ∧ Hid (∀ e ∈ l.take k, fineB l.length e.m = true)) (fun _ kv => l.length - (intOf kv).toNat)
  case atStart => exact ⟨0, by omega, rfl, rfl, fun e he => by simp at he⟩
  case round =>
    obtain ⟨k, hk, rfl, rfl, HF⟩ := hrel
    by_cases hlt : k < l.length
    · obtain ⟨e, he⟩ : ∃ e, l[k]? = some e := ⟨_, List.getElem?_eq_getElem hlt⟩
      obtain ⟨g, o, rfl⟩ := HA.out.some (by omega)
      obtain ⟨⟨z0, z1, z2, z3, z4, z5, z6, z7⟩, hby⟩ := HA.out.cells he
      have HC := Lib.hid he
      unfold Me.v at z7
      have s0 := bs_size e.m.path
      have s1 := bs_size e.m.target
      clear he hby
      by_cases c1 : l.length ≤ 60
      · by_cases c2 : e.m.path.length ≤ 2000
        · by_cases c3 : e.m.target.length ≤ 2000
          · by_cases c4 : e.m.body.length ≤ 100000
            · have b1 : ¬ (60 : Int) < (l.length : Int) := by omega
              have b2 : ¬ (2000 : Int) < (e.m.path.length : Int) := by omega
              have b3 : ¬ (2000 : Int) < (e.m.target.length : Int) := by omega
              have b4 : ¬ (100000 : Int) < (e.m.body.length : Int) := by omega
              have hs1 : sumB (l.take (k + 1)) = sumB (l.take k) + e.m.body.length := by
                rw [List.take_add_one, HC.out]
                exact sumB_snoc _ e
              have hs2 : sumB (l.take k) ≤ 6000000 := by
                have h1 := sumB_le (l.take k) (fun x hx => (fineB_iff.1 (HF.out x hx)).2.2.2)
                have : (l.take k).length ≤ 60 := by rw [List.length_take]; omega
                omega
              have hs3 : ∀ x ∈ l.take (k + 1), fineB l.length x.m = true := by
                intro x hx
                rw [List.take_add_one, HC.out] at hx
                rcases List.mem_append.1 hx with hx | hx
                · exact HF.out x hx
                · simp at hx; rw [hx]; exact fineB_iff.2 ⟨c1, c2, c3, c4⟩
              generalize hS : sumB (l.take k) = S at *
              have HN := Lib.hid (And.intro hs1 hs3)
              clear hs1 hs3 hS c2 c3
              go_wp2
              go_round
              case rel => exact ⟨k + 1, by omega, by go_num, by rw [HN.out.1]; go_num, HN.out.2⟩
              case measure => simp [intOf]; omega
            · have HG := Lib.hid (light_bad HC.out (fun h => c4 h.2.2.2))
              have b1 : ¬ (60 : Int) < (l.length : Int) := by omega
              have b2 : ¬ (2000 : Int) < (e.m.path.length : Int) := by omega
              have b3 : ¬ (2000 : Int) < (e.m.target.length : Int) := by omega
              have b4 : (100000 : Int) < (e.m.body.length : Int) := by omega
              clear c1 c2 c3 c4
              go_wp2
              go_ret
              exact ⟨by rw [HR.out, HG.out]; rfl, rfl⟩
          · have HG := Lib.hid (light_bad HC.out (fun h => c3 h.2.2.1))
            have b1 : ¬ (60 : Int) < (l.length : Int) := by omega
            have b2 : ¬ (2000 : Int) < (e.m.path.length : Int) := by omega
            have b3 : (2000 : Int) < (e.m.target.length : Int) := by omega
            clear c1 c2 c3
            go_wp2
            go_ret
            exact ⟨by rw [HR.out, HG.out]; rfl, rfl⟩
        · have HG := Lib.hid (light_bad HC.out (fun h => c2 h.2.1))
          have b1 : ¬ (60 : Int) < (l.length : Int) := by omega
          have b2 : (2000 : Int) < (e.m.path.length : Int) := by omega
          clear c1 c2
          go_wp2
          go_ret
          exact ⟨by rw [HR.out, HG.out]; rfl, rfl⟩
      · have HG := Lib.hid (light_bad HC.out (fun h => c1 h.1))
        have b1 : (60 : Int) < (l.length : Int) := by omega
        clear c1
        go_wp2
        go_ret
        exact ⟨by rw [HR.out, HG.out]; rfl, rfl⟩
    · obtain rfl : k = l.length := by omega
      rw [List.take_length] at *
      have hL : r = decide (sumB l ≤ 200000) := by
        rw [HR.out]
        unfold lightS
        rw [List.all_eq_true.2 HF.out]; rfl
      have HL := Lib.hid hL
      clear hL
      go_wp2
      go_ret
      refine ⟨?_, rfl⟩
      rw [HL.out]
      have hk : decide (((sumB l : Nat) : Int) ≤ 200000) = decide (sumB l ≤ 200000) := decide_eq_decide.2 (by omega)
      exact congrArg (fun b => Ending.returned (.bool b)) hk
end Go.Proofs.YtpapbnmacjoihaaDoor

namespace Go.Proofs.YtpapbnmacjoihaaDoor
open Go.RowKit Go.Shelf

theorem MbsAt.one {w : World} {g : Nat} {e : Me} (h : w.heap[g]? = .some (.cells (e.m.cells e.v) 45 (0, 0))) (hb : By w e.p e.m.body) : MbsAt w (.some ⟨g, 0, none⟩) [e] := fun _ => by
  refine ⟨g, 0, rfl, fun k e' he => ?_⟩
  rcases k with _ | k
  · cases he
    refine ⟨fun i v hv => ?_, hb⟩
    rw [Nat.zero_add]
    exact cell_of h hv
  · simp at he
theorem MbsAt.two {w : World} {g : Nat} {e f : Me} (h : w.heap[g]? = .some (.cells (e.m.cells e.v ++ f.m.cells f.v) 45 (0, 0))) (hb : By w e.p e.m.body) (hf : By w f.p f.m.body) : MbsAt w (.some ⟨g, 0, none⟩) [e, f] := fun _ => by
  have h8 : (e.m.cells e.v).size = 8 := rfl
  refine ⟨g, 0, rfl, fun k e' he => ?_⟩
  rcases k with _ | _ | k
  · cases he
    refine ⟨fun i v hv => ?_, hb⟩
    rw [Nat.zero_add]
    have hi : i < 8 := by rw [← h8]; exact (Array.getElem?_eq_some_iff.1 hv).1
    exact cell_of h (by rw [Array.getElem?_append_left (by omega)]; exact hv)
  · cases he
    refine ⟨fun i v hv => ?_, hf⟩
    exact cell_of h (by rw [Array.getElem?_append_right (by omega), h8, show 0 + (0 + 1) * 8 + i - 8 = i by omega]; exact hv)
  · simp at he
def mA : Mb := ⟨[97], [], 48, 0, 0, 0, 0, [120]⟩
def mZ : Mb := ⟨[], [], 0, 0, 0, 0, 0, []⟩
def mD : Mb := ⟨[97], [], 53, 0, 0, 0, 0, []⟩
theorem text_a : textS [97] = true := ascii_text _ (by decide)
theorem clean_a : cleanOk [97] = true := by
  unfold cleanOk cleanS
  rw [text_a]
  decide
theorem good_A : goodS mA = true := by
  unfold goodS
  rw [show mA.path = [97] from rfl, clean_a]
  decide
theorem good_D : goodS mD = true := by
  unfold goodS
  rw [show mD.path = [97] from rfl, clean_a]
  decide
theorem good_Z : goodS mZ = false := by
  unfold goodS
  rw [show cleanOk mZ.path = false from by
    unfold cleanOk cleanS
    rw [show textS mZ.path = true from rfl]
    decide]
  rfl
theorem rec_A : rc5 mA = [] := by decide
theorem rec_D : rc5 mD = [] := by decide
theorem pax_A : paxS mA = [] := by unfold paxS; rw [rec_A]; rfl
theorem pax_D : paxS mD = [] := by unfold paxS; rw [rec_D]; rfl
theorem put_A : putM mA = rowS (hm5 mA) ++ padL [120] := by
  unfold putM
  rw [if_pos good_A]
  show paxS mA ++ _ = _
  rw [pax_A]; rfl
theorem len_A : (putM mA).length = 1024 := by
  rw [put_A, List.length_append, padL_length, rowS_len (good_fits (good_parts good_A))]
  rfl
theorem len_D : (putM mD).length = 512 := by
  unfold putM
  rw [if_pos good_D, memS_len (good_parts good_D), pax_D]
  rfl
theorem arch_A0 (p : Option Addr) (c : Nat) : (archS [⟨mA, p, c⟩]).getD 0 0 = 97 ∧ (archS [⟨mA, p, c⟩]).getD 512 0 = 120 := by
  have e : archS [⟨mA, p, c⟩] = rowS (hm5 mA) ++ ([120] ++ (List.replicate 511 0 ++ List.replicate 1024 0)) := by
    unfold archS bodyL
    rw [List.flatMap_cons, List.flatMap_nil, List.append_nil, show putM (Me.mk mA p c).m = rowS (hm5 mA) ++ padL [120] from put_A, List.append_assoc]
    unfold padL
    rw [List.append_assoc, show padN [(120 : UInt8)].length - [(120 : UInt8)].length = 511 from rfl]
  have hl := rowS_len (good_fits (good_parts good_A))
  rw [e]
  constructor
  · rw [List.getD_eq_getElem?_getD, List.getElem?_append_left (by omega), ← List.getD_eq_getElem?_getD]
    kernel_rfl
  · rw [List.getD_eq_getElem?_getD, List.getElem?_append_right (by omega), hl]
    rfl

set_option maxHeartbeats 4000000 in
set_option maxRecDepth 100000 in
theorem answers9 (w : World) (hw : HW w) : Calls Tryd.prog 23 #[] w fun e w' => e = .returned (.bool true) ∧ Ext w w' := by
  have HWw := Lib.hid hw
  clear hw
  have kc := Lib.run_convert_bytes_const (P := Tryd.prog) w 22 5 #[.int .u8 120] 1 1 Tryd.underlying22 Tryd.underlying5
  rw [show (#[Value.int IntKind.u8 120] : Array Value).size = 1 from rfl, show 1 + 1 = 2 from rfl] at kc
  have hE1 := Ext.alloc w (.cells #[.int .u8 120] 5 (1, 2))
  have hB1 : By (w.alloc (.cells #[.int .u8 120] 5 (1, 2))) (some ⟨w.heap.size, 0, none⟩) [120] := fun _ => ⟨_, _, rfl, fun i hi => by
    obtain rfl : i = 0 := by simpa using hi
    exact (cell_of_row _ _ _ _ _ _ (heap_alloc_new w (.cells #[.int .u8 120] 5 (1, 2)))).trans rfl⟩
  have sz1 : (w.alloc (.cells #[.int .u8 120] 5 (1, 2))).heap.size = w.heap.size + 1 := by simp
  have HE1 := Lib.hid (And.intro hE1 hB1)
  clear hE1 hB1
  go_enter Tryd.func23, Tryd.ntmps23
  go_wp2_with fail
  generalize w.alloc (.cells #[.int .u8 120] 5 (1, 2)) = wa at *
  have hM : MbsAt (wa.alloc (.cells (mA.cells (.slice (some ⟨w.heap.size, 0, none⟩) 1 1)) 45)) (some ⟨wa.heap.size, 0, none⟩) [⟨mA, some ⟨w.heap.size, 0, none⟩, 1⟩] :=
    MbsAt.one (heap_alloc_new _ _) (HE1.out.2.ext (Ext.alloc _ _))
  rw [sz1] at hM
  refine (write_Archive (some ⟨w.heap.size + 1, 0, none⟩) 1 [⟨mA, some ⟨w.heap.size, 0, none⟩, 1⟩] _ hM (by simp) (by intro e he; obtain rfl := List.mem_singleton.1 he; exact ⟨show ([97] : List UInt8).length ≤ 1000000 by decide, show ([] : List UInt8).length ≤ 1000000 by decide, show ([120] : List UInt8).length ≤ 9000000000000000000 by decide⟩) (HWw.out.ext (HE1.out.1.trans (Ext.alloc _ _)))).mono ?_
  intro e w1 H
  obtain ⟨v, rfl, hR, hE⟩ := H.out
  rw [show allG [⟨mA, some ⟨w.heap.size, 0, none⟩, 1⟩] = true from by unfold allG; simp [good_A]] at *
  simp only [if_true] at hR ⊢
  obtain ⟨vp, vc, rfl, hvb, -, -, hvn, hva⟩ := hR.shape
  have hlen : (archS [⟨mA, some ⟨w.heap.size, 0, none⟩, 1⟩]).length = 2048 := by
    unfold archS
    rw [List.length_append, bodyL_len, List.length_replicate]
    rw [show sizeL [⟨mA, some ⟨w.heap.size, 0, none⟩, 1⟩] = (putM mA).length from by unfold sizeL; simp, len_A]
  obtain ⟨ha0, ha1⟩ := arch_A0 (some ⟨w.heap.size, 0, none⟩) 1
  generalize archS [⟨mA, some ⟨w.heap.size, 0, none⟩, 1⟩] = BB at *
  have hvp : ∃ g, vp = some ⟨g, 0, none⟩ := by
    cases vp with
    | none => have := hvn rfl; rw [this] at hlen; simp at hlen
    | some a => exact ⟨a.block, congrArg some (hva a rfl).1⟩
  obtain ⟨g, rfl⟩ := hvp
  have c0 : w1.cell? ⟨g, 0, none⟩ = some (.int .u8 97) := by
    obtain ⟨b, o, hbo, hc⟩ := hvb (by omega)
    cases hbo
    have := hc 0 (by omega)
    rw [ha0] at this
    exact this
  have c1 : w1.cell? ⟨g, 512, none⟩ = some (.int .u8 120) := by
    obtain ⟨b, o, hbo, hc⟩ := hvb (by omega)
    cases hbo
    have := hc 512 (by omega)
    rw [ha1, Nat.zero_add] at this
    exact this
  have HX := Lib.hid (And.intro c0 (And.intro c1 (HE1.out.1.trans ((Ext.alloc _ _).trans hE))))
  rw [hlen]
  clear kc hM hE hR hvb hvn hva hlen ha0 ha1 H c0 c1 sz1
  go_wp2_with fail
  have hM : MbsAt (w1.alloc (.cells (mZ.cells (.slice none 0 0)) 45)) (some ⟨w1.heap.size, 0, none⟩) [⟨mZ, none, 0⟩] := MbsAt.one (heap_alloc_new _ _) (By.nil _ _)
  refine (write_Archive (some ⟨w1.heap.size, 0, none⟩) 1 [⟨mZ, none, 0⟩] _ hM (by simp) (by intro e he; obtain rfl := List.mem_singleton.1 he; exact ⟨show ([] : List UInt8).length ≤ 1000000 by decide, show ([] : List UInt8).length ≤ 1000000 by decide, show ([] : List UInt8).length ≤ 9000000000000000000 by decide⟩) (HWw.out.ext (HX.out.2.2.trans (Ext.alloc _ _)))).mono ?_
  clear hM
  intro e w2 H
  obtain ⟨v, rfl, hR, hE⟩ := H.out
  rw [show allG [⟨mZ, none, 0⟩] = false from by unfold allG; simp [good_Z]] at *
  simp only [Bool.false_eq_true, if_false] at hR ⊢
  obtain ⟨zp, zc, rfl, -, -, -, -, -⟩ := hR.shape
  have hE2 := (Ext.alloc w1 (.cells (mZ.cells (.slice none 0 0)) 45)).trans hE
  have c0 := hE2.cell HX.out.1
  have c1 := hE2.cell HX.out.2.1
  have HY := Lib.hid (HX.out.2.2.trans hE2)
  clear hE hE2 hR H
  go_wp2_with fail
  have hM : MbsAt (w2.alloc (.cells (mD.cells (.slice none 0 0)) 45)) (some ⟨w2.heap.size, 0, none⟩) [⟨mD, none, 0⟩] := MbsAt.one (heap_alloc_new _ _) (By.nil _ _)
  refine (write_Size (some ⟨w2.heap.size, 0, none⟩) 1 [⟨mD, none, 0⟩] _ hM (by simp) (by intro e he; obtain rfl := List.mem_singleton.1 he; exact ⟨show ([97] : List UInt8).length ≤ 1000000 by decide, show ([] : List UInt8).length ≤ 1000000 by decide, show ([] : List UInt8).length ≤ 9000000000000000000 by decide⟩) (HWw.out.ext (HY.out.trans (Ext.alloc _ _)))).mono ?_
  clear hM
  rintro e w3 ⟨rfl, hE⟩
  rw [show sizeL [⟨mD, none, 0⟩] = 512 from by unfold sizeL; simp [len_D]]
  go_wp2
  go_ret
  exact ⟨rfl, HY.out.trans ((Ext.alloc _ _).trans hE)⟩
end Go.Proofs.YtpapbnmacjoihaaDoor
