/- As RegionG, guards that keep an operation out too: act says which operations run (known ahead). -/
/- bindlelaw09.WriteShort: the walk. -/
import Derived.Test.YtpapbnmacjoihaaDoorRegionG
import Derived.Test.YtpapbnmacjoihaaDoorWPutB
namespace Go.Proofs.YtpapbnmacjoihaaDoor

section
variable {P : Program} {ops : Array Oper} {Q : Exit → Act → World → Prop}
/-- **A REGION THAT DRAWS, EACH OPERATION OF WHICH YIELDS ONE VALUE WHATEVER THE ORDER**, but for what hangs on γ (where a block has come to lie): WI says what the world is like when those have come up that are listed. -/
theorem wp_region_genH {γ : Type} {id : Nat} {l : List Oper} {a : Act} {w : World} (vs : γ → List Value) (WI : γ → (Nat → Bool) → World → Prop) (g0 : γ)
    (hm : P.follows .mixedOrders = true) (hB : plainG l.toArray = true) (hlen : ∀ g, (vs g).length = l.length) (act : Nat → Bool) (hA : ∀ (i : Nat) (o : Oper), l[i]? = some o → o.guard = none → act i = true)
    (hG : ∀ (g : γ) (i : Nat) (o : Oper) (j : Nat) (b : Bool), l[i]? = some o → o.guard = some (j, b) → (vs g)[j]? = some (Value.bool (if act i then b else !b)))
    (hU : ∀ (g : γ) (i : Nat), i < l.length → act i = false → (vs g)[i]? = some undef ∧ ∀ L w', WI g L w' → L i = false → WI g (fun j => if j = i then true else L j) w')
    (hds : ∀ o ∈ l, ∀ d, o.dst = some d → d < a.tmps.size)
    (h0 : WI g0 (fun _ => false) w.drew)
    (hstep : ∀ i o, l[i]? = some o → act i = true → ∀ g L w', WI g L w' → L i = false → (∀ e ∈ o.after, Region.binds .any e = true → L e.on = true) →
      DoingX P (finalF l (vs g) a) o w' fun v w'' => ∃ g', WI g' (fun j => if j = i then true else L j) w'' ∧ (∀ j, L j = true → (vs g')[j]? = (vs g)[j]?) ∧ (vs g')[i]? = some v)
    (hend : ∀ g L w', (∀ i, i < l.length → L i = true) → WI g L w' → Q .normal (finalF l (vs g) a) w') :
    (Code.region id l.toArray true).wp P Q a w := by
  simp only [plainG, Bool.and_eq_true, decide_eq_true_eq] at hB
  obtain ⟨⟨hB1, hB2⟩, hB3⟩ := hB
  have hb : ∀ i o, l.toArray[i]? = some o → ∀ e ∈ o.after, Region.binds .any e = true → e.on < i := by
    intro i o ho e he hbd
    have hi : i < l.toArray.size := (Array.getElem?_eq_some_iff.1 ho).1
    have := List.all_eq_true.1 hB3 i (by simpa using hi)
    rw [ho] at this
    have := Array.all_eq_true_iff_forall_mem.1 this e he
    simpa [hbd] using this
  refine wp_region_any hm ?_
  refine wpAny_inv (fun listed a' w' => listed.size = l.length ∧ a'.tmps.size = a.tmps.size ∧ a'.defers = a.defers ∧ ∃ g,
      (∀ t, (∀ j o, l[j]? = some o → o.dst = some t → listed.getD j false = true) → a'.tmps.getD t undef = (finalF l (vs g) a).tmps.getD t undef) ∧ WI g (fun j => listed.getD j false) w') ?_ ?_ _ _ _ _ ?_ ?_
  · rintro listed a' w' i ⟨hsz, hts, hdf, g, hfr, hW⟩ hi
    rw [mem_ready] at hi
    obtain ⟨hi0, o, ho, hdeps⟩ := hi
    have hol : l[i]? = some o := by simpa using ho
    have hil : i < l.length := (List.getElem?_eq_some_iff.1 hol).1
    have hmem : o ∈ l.toArray := Array.mem_of_getElem? ho
    have hp := Array.all_eq_true_iff_forall_mem.1 hB1 o hmem
    simp only [Bool.and_eq_true] at hp
    obtain ⟨⟨hg, hsel⟩, hopd⟩ := hp
    have hL : listed.getD i false = false := by
      have : i < listed.size := by omega
      rw [Array.getD_eq_getD_getElem?] at hi0 ⊢
      simpa [this] using hi0
    have hev : ∀ x ∈ o.op.operands, a'.eval x = (finalF l (vs g) a).eval x := by
      intro x hx
      cases x with
      | tmp t =>
        show a'.tmps.getD t undef = (finalF l (vs g) a).tmps.getD t undef
        refine hfr t fun j oj hj hd => ?_
        have h1 := Array.all_eq_true_iff_forall_mem.1 hopd (.tmp t) hx
        simp only at h1
        have hjl : j < l.length := (List.getElem?_eq_some_iff.1 hj).1
        have h2 := List.all_eq_true.1 h1 j (by simpa using hjl)
        rw [show l.toArray[j]? = some oj by simpa using hj] at h2
        simp only [hd, bne_self_eq_false, Bool.false_or] at h2
        rw [← Array.any_toList] at h2
        obtain ⟨e, he', hee⟩ := List.any_eq_true.1 h2
        have he := Array.mem_toList_iff.1 he'
        simp only [Bool.and_eq_true, beq_iff_eq] at hee
        rw [← hee.1]
        exact hdeps e he hee.2
      | const v => rfl
      | global g => rfl
      | func g => rfl
    have hns : ∀ cs b, o.op ≠ .select cs b := by
      intro cs b e
      rw [e] at hsel
      cases hsel
    have hex : execOp a'.eval o = execOp (finalF l (vs g) a).eval o := execOp_congr o hns hev
    have hset : ∀ j, (listed.setIfInBounds i true).getD j false = if j = i then true else listed.getD j false := by
      intro j
      rw [Array.getD_eq_getD_getElem?, Array.getD_eq_getD_getElem?, Array.getElem?_setIfInBounds]
      by_cases e : j = i
      · subst e; simp [show j < listed.size by omega]
      · rw [if_neg (fun h => e h.symm), if_neg e]
    have hput : ∀ u v w'', (∀ d, o.dst = some d → u = v) → (∃ g', WI g' (fun j => if j = i then true else listed.getD j false) w'' ∧ (∀ j, listed.getD j false = true → (vs g')[j]? = (vs g)[j]?) ∧ (vs g')[i]? = some v) →
        (listed.setIfInBounds i true).size = l.length ∧ (a'.put o.dst u).tmps.size = a.tmps.size ∧ (a'.put o.dst u).defers = a.defers ∧ ∃ g,
        (∀ t, (∀ j o, l[j]? = some o → o.dst = some t → (listed.setIfInBounds i true).getD j false = true) → (a'.put o.dst u).tmps.getD t undef = (finalF l (vs g) a).tmps.getD t undef) ∧ WI g (fun j => (listed.setIfInBounds i true).getD j false) w'' := by
      intro u v w'' hv ⟨g', hW', hsame, hvi⟩
      refine ⟨by simpa using hsz, by rw [put_size]; exact hts, by rw [put_defers']; exact hdf, g', fun t ht => ?_, ?_⟩
      · by_cases e : o.dst = some t
        · rw [e, put_same _ _ _ (by rw [hts]; exact hds o (List.mem_of_getElem? hol) t e), hv t e]
          exact (finalF_at l (vs g') a i o v t hol hvi e (hds o (List.mem_of_getElem? hol) t e) hB2).symm
        · rw [put_other _ _ _ _ e]
          have hlist : ∀ j oj, l[j]? = some oj → oj.dst = some t → listed.getD j false = true := by
            intro j oj hj hd
            have := ht j oj hj hd
            rw [hset] at this
            by_cases e2 : j = i
            · subst e2; rw [hol] at hj; cases hj; exact absurd hd e
            · rwa [if_neg e2] at this
          rw [hfr t hlist]
          by_cases hex : ∃ (j : Nat) (oj : Oper), l[j]? = some oj ∧ oj.dst = some t
          · obtain ⟨j, oj, hj, hd⟩ := hex
            have hjl : j < l.length := (List.getElem?_eq_some_iff.1 hj).1
            obtain ⟨x, hx⟩ : ∃ x, (vs g)[j]? = some x := ⟨(vs g)[j]'(by rw [hlen]; exact hjl), by simp [hlen, hjl]⟩
            have hdj := hds oj (List.mem_of_getElem? hj) t hd
            rw [finalF_at l (vs g) a j oj x t hj hx hd hdj hB2, finalF_at l (vs g') a j oj x t hj (by rw [hsame j (hlist j oj hj hd)]; exact hx) hd hdj hB2]
          · have hno : ∀ oj ∈ l, oj.dst ≠ some t := fun oj ho' e' => by
              obtain ⟨j, hj⟩ := List.getElem?_of_mem ho'
              exact hex ⟨j, oj, hj, e'⟩
            rw [finalF_other t l _ a hno, finalF_other t l _ a hno]
      · have : (fun j => (listed.setIfInBounds i true).getD j false) = fun j => if j = i then true else listed.getD j false := funext hset
        rw [this]; exact hW'
    unfold wpOp
    rw [show l.toArray[i]? = some o from ho]
    have hw : Region.wanted o (yielded l.toArray a'.tmps) = act i := by
      unfold Region.wanted
      cases hgd : o.guard with
      | none => exact (hA i o hol hgd).symm
      | some jb =>
        obtain ⟨j, bb⟩ := jb
        have hv := hG g i o j bb hol hgd
        unfold guardG at hg
        rw [hgd] at hg
        simp only at hg
        cases hoj : l.toArray[j]? with
        | none => rw [hoj] at hg; cases hg
        | some oj =>
          rw [hoj] at hg
          simp only at hg
          cases hdj : oj.dst with
          | none => rw [hdj] at hg; cases hg
          | some d =>
            rw [hdj] at hg
            simp only at hg
            have hlj : l[j]? = some oj := by simpa using hoj
            have hdl : d < a.tmps.size := hds oj (List.mem_of_getElem? hlj) d hdj
            have hval : a'.tmps.getD d undef = .bool (if act i then bb else !bb) := by
              rw [hfr d (fun k ok hk hd => by
                have hkl : k < l.length := (List.getElem?_eq_some_iff.1 hk).1
                have h2 := List.all_eq_true.1 hg k (by simpa using hkl)
                rw [show l.toArray[k]? = some ok by simpa using hk] at h2
                simp only [hd, bne_self_eq_false, Bool.false_or] at h2
                rw [← Array.any_toList] at h2
                obtain ⟨e, he', hee⟩ := List.any_eq_true.1 h2
                have he := Array.mem_toList_iff.1 he'
                simp only [Bool.and_eq_true, beq_iff_eq] at hee
                rw [← hee.1]
                exact hdeps e he hee.2)]
              exact finalF_at l (vs g) a j oj _ d hlj hv hdj hdl hB2
            have hy : yielded l.toArray a'.tmps j = some (if act i then bb else !bb) := by
              have hds2 : d < a'.tmps.size := by rw [hts]; exact hdl
              rw [Array.getD_eq_getD_getElem?, Array.getElem?_eq_getElem hds2] at hval
              simp only [Option.getD_some] at hval
              simp only [yielded, hoj, Option.bind_some, hdj]
              rw [Array.getElem?_eq_getElem hds2, hval]
            show (yielded l.toArray a'.tmps j == some bb) = act i
            rw [hy]
            cases act i <;> cases bb <;> rfl
    cases hact : act i with
    | false =>
      rw [hact] at hw
      simp only [hw, Bool.false_eq_true, if_false]
      exact hput undef undef w' (fun _ _ => rfl) ⟨g, (hU g i hil hact).2 _ _ hW hL, fun _ _ => rfl, (hU g i hil hact).1⟩
    | true =>
      rw [hact] at hw
      simp only [hw, if_true]
      left
      unfold Oper.wp
      rw [hex]
      rcases hstep i o hol hact g _ _ hW hL hdeps with ⟨v, w'', hrun, hR⟩ | ⟨v, w'', hrun, hdn, hR⟩ | ⟨f, args, w1, hrun, hC⟩
      · rw [hrun]
        exact hput v v w'' (fun _ _ => rfl) hR
      · rw [hrun]
        exact hput undef v w'' (fun d hd => by rw [hdn] at hd; cases hd) hR
      · rw [hrun]
        refine hC.mono ?_
        rintro e w'' ⟨v, rfl, hR⟩
        exact hput v v w'' (fun _ _ => rfl) hR
  · rintro listed a' w' ⟨hsz, hts, hdf, g, hfr, hW⟩ hr
    have hall := all_listed (by simpa using hsz) hb hr
    have hall' : ∀ i, i < l.length → listed.getD i false = true := by
      intro i hi
      have := hall i (by simpa using hi)
      have hl : i < listed.size := by omega
      rw [Array.getD_eq_getD_getElem?] at this ⊢
      simpa [hl] using this
    have heq : a' = finalF l (vs g) a := by
      have ht : a'.tmps = (finalF l (vs g) a).tmps := by
        apply Array.ext
        · rw [hts, finalF_size]
        · intro t h1 h2
          have := hfr t (fun j o hj _ => hall' j (List.getElem?_eq_some_iff.1 hj).1)
          simpa [Array.getD_eq_getD_getElem?, h1, h2] using this
      have hd : a'.defers = (finalF l (vs g) a).defers := by rw [hdf, finalF_defers]
      cases a'
      cases hF : finalF l (vs g) a
      rw [hF] at ht hd
      simp only at ht hd
      rw [ht, hd]
    rw [heq]
    exact hend _ _ _ hall' hW
  · refine ⟨by simp, rfl, rfl, g0, fun t ht => ?_, ?_⟩
    · refine (finalF_other t l (vs g0) a fun o ho e => ?_).symm
      obtain ⟨j, hj⟩ := List.getElem?_of_mem ho
      have := ht j o hj e
      rw [Array.getD_eq_getD_getElem?] at this
      simp [Array.getElem?_replicate] at this
      split at this <;> simp at this
    · have : (fun j => (Array.replicate l.toArray.size false).getD j false) = fun _ => false := by
        funext j
        rw [Array.getD_eq_getD_getElem?, Array.getElem?_replicate]
        split <;> rfl
      rw [this]
      exact h0
  · unfold unl
    exact Nat.le_trans List.countP_le_length (by simp)

theorem wp_region_genlH {γ : Type} {id : Nat} {l : List Oper} {a : Act} {F : γ → Act} {w : World} (vs : γ → List Value) (WI : γ → (Nat → Bool) → World → Prop) (g0 : γ)
    (hm : P.follows .mixedOrders = true) (hB : plainG l.toArray = true) (hlen : ∀ g, (vs g).length = l.length) (hF : ∀ g, finalF l (vs g) a = F g)
    (act : Nat → Bool) (hG : ∀ g, AllO (fun i o => match o.guard with | none => act i = true | some (j, b) => (vs g)[j]? = some (.bool (if act i then b else !b))) 0 l)
    (hU : ∀ (g : γ) (i : Nat), i < l.length → act i = false → (vs g)[i]? = some undef ∧ ∀ L w', WI g L w' → L i = false → WI g (fun j => if j = i then true else L j) w')
    (hds : (l.all fun o => match o.dst with | some d => decide (d < a.tmps.size) | none => true) = true)
    (h0 : WI g0 (fun _ => false) w.drew)
    (hstep : AllO (fun i o => act i = true → ∀ g L w', WI g L w' → L i = false → (∀ e ∈ o.after, Region.binds .any e = true → L e.on = true) →
      DoingX P (F g) o w' fun v w'' => ∃ g', WI g' (fun j => if j = i then true else L j) w'' ∧ (∀ j, L j = true → (vs g')[j]? = (vs g)[j]?) ∧ (vs g')[i]? = some v) 0 l)
    (hend : ∀ g L w', (∀ i, i < l.length → L i = true) → WI g L w' → Q .normal (F g) w') :
    (Code.region id l.toArray true).wp P Q a w := by
  refine wp_region_genH vs WI g0 hm hB hlen act (fun i o ho hgd => ?_) (fun g i o j b ho hgd => ?_) hU (fun o ho d hd => ?_) h0 (fun i o ho ha g L w' => ?_) (fun g => by rw [hF g]; exact hend g)
  · have := (hG g0).get 0 l i o ho
    rw [hgd, Nat.zero_add] at this
    exact this
  · have := (hG g).get 0 l i o ho
    rw [hgd, Nat.zero_add] at this
    exact this
  · have := List.all_eq_true.1 hds o ho
    rw [hd] at this
    simpa using this
  · have := hstep.get 0 l i o ho
    rw [Nat.zero_add] at this
    rw [hF g]
    exact this ha g L w'

end
end Go.Proofs.YtpapbnmacjoihaaDoor

namespace Go.Proofs.YtpapbnmacjoihaaDoor
open Go.RowKit Go.Shelf

theorem plainS_take {l : List UInt8} {k : Nat} (h : k < l.length) : plainS (l.take (k + 1)) = (plainS (l.take k) && decide ((l.getD k 0).toNat < 128)) := by
  unfold plainS
  rw [List.take_add_one, List.all_append, List.getElem?_eq_getElem h, List.getD_eq_getElem?_getD, List.getElem?_eq_getElem h]
  simp
/-- fields that fit a header as they are. -/
def shortB (m : Mb) : Bool := decide (m.path.length ≤ 100) && (decide (m.target.length ≤ 100) && (decide (m.uid ≤ 2097151) && (decide (m.gid ≤ 2097151) && decide (m.time ≤ 8589934591))))
def shortS (m : Mb) : Bool := shortB m && (plainS m.path && plainS m.target)
theorem short_pax {m : Mb} (h : shortS m = true) : paxS m = [] := by
  unfold shortS shortB at h
  simp only [Bool.and_eq_true, decide_eq_true_eq] at h
  obtain ⟨⟨h1, h2, h3, h4, h5⟩, h6, h7⟩ := h
  have n1 : needP m = false := by
    unfold needP
    have : (cutS m.path).isSome = true := by unfold cutS; rw [if_pos h1]; rfl
    rw [this, h6]; rfl
  have n2 : needT m = false := by unfold needT; rw [decide_eq_false (by omega), h7]; rfl
  have n3 : needU m = false := decide_eq_false (by omega)
  have n4 : needG m = false := decide_eq_false (by omega)
  have n5 : needM m = false := decide_eq_false (by omega)
  have : rc5 m = [] := by unfold rc5 rc4 rc3 rc2 rc1; rw [n1, n2, n3, n4, n5]; rfl
  unfold paxS
  rw [this]; rfl

set_option maxHeartbeats 4000000 in
set_option maxRecDepth 100000 in
theorem writeShort_dark (e : Me) (w : World) (hw : HW w) (hb : By w e.p e.m.body) (hl : lightS [e] = false) :
    Calls Tryd.prog 11 #[e.m.val e.v] w fun x w' => x = .returned (.bool true) ∧ Ext w w' := by
  obtain ⟨h1, h2⟩ := puts_made w e hb
  have hE := (Ext.alloc w (.cells (e.m.cells e.v) 45)).trans (Ext.alloc _ (.cells (e.m.cells e.v) 45))
  have hli := law_light (some ⟨w.heap.size + 1, 0, none⟩) 1 [e] _ h2
  rw [hl] at hli
  have HL := Lib.hid (And.intro hli hE)
  have HH := Lib.hid hw
  clear hli h1 h2 hE hw hb hl
  unfold Mb.val Me.v Mb.cells at *
  go_enter Tryd.func11, Tryd.ntmps11
  go_wp2_with fail
  refine HL.out.1.mono ?_
  rintro x w1 ⟨rfl, rfl⟩
  go_wp2_with fail
  refine (answers9 _ (HH.out.ext HL.out.2)).mono ?_
  rintro x w2 ⟨rfl, hE⟩
  go_wp2
  go_ret
  exact ⟨rfl, HL.out.2.trans hE⟩

set_option maxHeartbeats 4000000 in
set_option maxRecDepth 100000 in
theorem writeShort_bad (e : Me) (w : World) (hw : HW w) (hb : By w e.p e.m.body) (hl : lightS [e] = true) (hg : goodS e.m = false) :
    Calls Tryd.prog 11 #[e.m.val e.v] w fun x w' => x = .returned (.bool true) ∧ Ext w w' := by
  obtain ⟨h1, h2⟩ := puts_made w e hb
  have hsm := light_one hl
  have hE := (Ext.alloc w (.cells (e.m.cells e.v) 45)).trans (Ext.alloc _ (.cells (e.m.cells e.v) 45))
  have hli := law_light (some ⟨w.heap.size + 1, 0, none⟩) 1 [e] _ h2
  rw [hl] at hli
  have hmb := MbBlk.ext h1 (Ext.alloc _ (.cells (e.m.cells e.v) 45))
  obtain ⟨z0, z1, z2, z3, z4, z5, z6, z7⟩ := hmb.cells
  have HL := Lib.hid (And.intro hli hE)
  have HH := Lib.hid (And.intro hw (And.intro hsm hg))
  have HGd : Hid (∀ W, Calls Tryd.prog 25 #[e.m.val e.v] W fun e w' => e = .returned (.bool false) ∧ Ext W w') := Lib.hid fun W => by
    have := ref_Good e.m e.p e.c W hsm.pl hsm.tl hsm.bl
    rw [hg] at this
    exact this
  clear hli h1 h2 hE hw hb hl hsm hg hmb
  unfold Mb.val Me.v Mb.cells at *
  go_enter Tryd.func11, Tryd.ntmps11
  go_wp2_with fail
  refine HL.out.1.mono ?_
  rintro x w1 ⟨rfl, rfl⟩
  go_wp2_with fail
  refine (HGd.out _).mono ?_
  rintro x w2 ⟨rfl, hE2⟩
  have HE := Lib.hid (HL.out.2.trans hE2)
  clear hE2
  go_wp2_with fail
  refine (answers9 _ (HH.out.1.ext HE.out)).mono ?_
  rintro x w3 ⟨rfl, hE⟩
  go_wp2
  go_ret
  exact ⟨rfl, HE.out.trans hE⟩
-- GOOD (printed by genshort.py)
def ShI (w0 : World) (e : Me) (wx : World) : Prop := Ext w0 wx ∧ MbBlk wx w0.heap.size e.m e.v
theorem ShI.ext {w0 a b : World} {e : Me} (h : ShI w0 e a) (hE : Ext a b) : ShI w0 e b := ⟨h.1.trans hE, h.2.ext hE⟩
abbrev G4 := Nat × Nat × Nat × Nat
def ShWI (sh : Bool) (W0 : World) (e : Me) (g : G4) (L : Nat → Bool) (w' : World) : Prop :=
  Ext W0 w' ∧ (sh = true → L 6 = true → MbsAt w' (some ⟨g.1, 0, none⟩) [e]) ∧ (L 14 = true → MbsAt w' (some ⟨g.2.1, 0, none⟩) [e]) ∧ (L 22 = true → MbsAt w' (some ⟨g.2.2.1, 0, none⟩) [e, e]) ∧ (L 25 = true → MbsAt w' (some ⟨g.2.2.2, 0, none⟩) [e])
theorem ShWI.quiet {sh : Bool} {W0 w' w2 : World} {e : Me} {g : G4} {L : Nat → Bool} (h : ShWI sh W0 e g L w') (i : Nat) (h6 : i ≠ 6) (h14 : i ≠ 14) (h22 : i ≠ 22) (h25 : i ≠ 25) (hE : Ext w' w2) :
    ShWI sh W0 e g (fun j => if j = i then true else L j) w2 := by
  unfold ShWI
  simp only [if_neg (Ne.symm h6), if_neg (Ne.symm h14), if_neg (Ne.symm h22), if_neg (Ne.symm h25)]
  exact ⟨h.1.trans hE, fun s x => (h.2.1 s x).ext hE, fun x => (h.2.2.1 x).ext hE, fun x => (h.2.2.2.1 x).ext hE, fun x => (h.2.2.2.2 x).ext hE⟩
theorem ShWI.out {W0 w' : World} {e : Me} {g : G4} {L : Nat → Bool} (h : ShWI false W0 e g L w') (i : Nat) (h14 : i ≠ 14) (h22 : i ≠ 22) (h25 : i ≠ 25) : ShWI false W0 e g (fun j => if j = i then true else L j) w' := by
  unfold ShWI
  simp only [if_neg (Ne.symm h14), if_neg (Ne.symm h22), if_neg (Ne.symm h25)]
  exact ⟨h.1, fun s => (by cases s), h.2.2⟩
def shVsT (mv : Value) (S n : Nat) (g : G4) : List Value := [.bool true, .bool true, .bool true, .bool false, .bool false, mv, .slice (some ⟨g.1, 0, none⟩) 1 1, .int .i64 (S : Int), .int .i64 (n : Int), .bool true, .bool true, .bool true, .bool true, mv, .slice (some ⟨g.2.1, 0, none⟩) 1 1, .int .i64 (S : Int), .int .i64 (n : Int), .bool true, .bool true, .bool true, mv, mv, .slice (some ⟨g.2.2.1, 0, none⟩) 2 2, .int .i64 (2 * (S : Int)), mv, .slice (some ⟨g.2.2.2, 0, none⟩) 1 1, .int .i64 (S : Int), .int .i64 (2 * (S : Int)), .bool true, .bool true, .bool true]
theorem shVsT_6 (mv : Value) (S n : Nat) (g1 g2 g3 g4 x : Nat) (j : Nat) (h : j ≠ 6) : (shVsT mv S n (x, g2, g3, g4))[j]? = (shVsT mv S n (g1, g2, g3, g4))[j]? := by
  rcases j with _ | _ | _ | _ | _ | _ | _ | _ | _ | _ | _ | _ | _ | _ | _ | _ | _ | _ | _ | _ | _ | _ | _ | _ | _ | _ | _ | _ | _ | _ | _ | j <;> first | rfl | exact absurd rfl h
theorem shVsT_14 (mv : Value) (S n : Nat) (g1 g2 g3 g4 x : Nat) (j : Nat) (h : j ≠ 14) : (shVsT mv S n (g1, x, g3, g4))[j]? = (shVsT mv S n (g1, g2, g3, g4))[j]? := by
  rcases j with _ | _ | _ | _ | _ | _ | _ | _ | _ | _ | _ | _ | _ | _ | _ | _ | _ | _ | _ | _ | _ | _ | _ | _ | _ | _ | _ | _ | _ | _ | _ | j <;> first | rfl | exact absurd rfl h
theorem shVsT_22 (mv : Value) (S n : Nat) (g1 g2 g3 g4 x : Nat) (j : Nat) (h : j ≠ 22) : (shVsT mv S n (g1, g2, x, g4))[j]? = (shVsT mv S n (g1, g2, g3, g4))[j]? := by
  rcases j with _ | _ | _ | _ | _ | _ | _ | _ | _ | _ | _ | _ | _ | _ | _ | _ | _ | _ | _ | _ | _ | _ | _ | _ | _ | _ | _ | _ | _ | _ | _ | j <;> first | rfl | exact absurd rfl h
theorem shVsT_25 (mv : Value) (S n : Nat) (g1 g2 g3 g4 x : Nat) (j : Nat) (h : j ≠ 25) : (shVsT mv S n (g1, g2, g3, x))[j]? = (shVsT mv S n (g1, g2, g3, g4))[j]? := by
  rcases j with _ | _ | _ | _ | _ | _ | _ | _ | _ | _ | _ | _ | _ | _ | _ | _ | _ | _ | _ | _ | _ | _ | _ | _ | _ | _ | _ | _ | _ | _ | _ | j <;> first | rfl | exact absurd rfl h
def shVsF (mv : Value) (S n : Nat) (g : G4) : List Value := [.bool true, .bool true, .bool false, .bool true, .bool true, undef, undef, undef, undef, undef, .bool true, .bool true, .bool true, mv, .slice (some ⟨g.2.1, 0, none⟩) 1 1, .int .i64 (S : Int), .int .i64 (n : Int), .bool true, .bool true, .bool true, mv, mv, .slice (some ⟨g.2.2.1, 0, none⟩) 2 2, .int .i64 (2 * (S : Int)), mv, .slice (some ⟨g.2.2.2, 0, none⟩) 1 1, .int .i64 (S : Int), .int .i64 (2 * (S : Int)), .bool true, .bool true, .bool true]
theorem shVsF_14 (mv : Value) (S n : Nat) (g1 g2 g3 g4 x : Nat) (j : Nat) (h : j ≠ 14) : (shVsF mv S n (g1, x, g3, g4))[j]? = (shVsF mv S n (g1, g2, g3, g4))[j]? := by
  rcases j with _ | _ | _ | _ | _ | _ | _ | _ | _ | _ | _ | _ | _ | _ | _ | _ | _ | _ | _ | _ | _ | _ | _ | _ | _ | _ | _ | _ | _ | _ | _ | j <;> first | rfl | exact absurd rfl h
theorem shVsF_22 (mv : Value) (S n : Nat) (g1 g2 g3 g4 x : Nat) (j : Nat) (h : j ≠ 22) : (shVsF mv S n (g1, g2, x, g4))[j]? = (shVsF mv S n (g1, g2, g3, g4))[j]? := by
  rcases j with _ | _ | _ | _ | _ | _ | _ | _ | _ | _ | _ | _ | _ | _ | _ | _ | _ | _ | _ | _ | _ | _ | _ | _ | _ | _ | _ | _ | _ | _ | _ | j <;> first | rfl | exact absurd rfl h
theorem shVsF_25 (mv : Value) (S n : Nat) (g1 g2 g3 g4 x : Nat) (j : Nat) (h : j ≠ 25) : (shVsF mv S n (g1, g2, g3, x))[j]? = (shVsF mv S n (g1, g2, g3, g4))[j]? := by
  rcases j with _ | _ | _ | _ | _ | _ | _ | _ | _ | _ | _ | _ | _ | _ | _ | _ | _ | _ | _ | _ | _ | _ | _ | _ | _ | _ | _ | _ | _ | _ | _ | j <;> first | rfl | exact absurd rfl h

set_option maxHeartbeats 8000000 in
set_option maxRecDepth 100000 in
theorem writeShort_good (e : Me) (w : World) (hw : HW w) (hb : By w e.p e.m.body) (hl : lightS [e] = true) (hg : goodS e.m = true) :
    Calls Tryd.prog 11 #[e.m.val e.v] w fun x w' => x = .returned (.bool true) ∧ Ext w w' := by
  obtain ⟨h1, h2⟩ := puts_made w e hb
  have hsm := light_one hl
  have hE := (Ext.alloc w (.cells (e.m.cells e.v) 45)).trans (Ext.alloc _ (.cells (e.m.cells e.v) 45))
  have hli := law_light (some ⟨w.heap.size + 1, 0, none⟩) 1 [e] _ h2
  rw [hl] at hli
  have hmb := MbBlk.ext h1 (Ext.alloc _ (.cells (e.m.cells e.v) 45))
  have HL := Lib.hid (And.intro hli (And.intro hE hmb))
  have hgm := good_parts hg
  have hsz1 : sizeL [e] = (memS e.m).length := by unfold sizeL putM; simp [hg]
  have hsz2 : ((sizeL [e, e] : Nat) : Int) = 2 * ((memS e.m).length : Int) := by unfold sizeL putM; simp [hg]; omega
  have hS1 := memS_len hgm
  have hS2 : (memS e.m).length ≤ 2000000 := by have := putM_le e.m; unfold putM at this; rw [if_pos hg] at this; exact this
  have hS3 : shortS e.m = true → (memS e.m).length = 512 + padN e.m.body.length := fun h => by rw [hS1, short_pax h]; simp
  have HH := Lib.hid (And.intro hw (And.intro hb (And.intro hsm hg)))
  have HS := Lib.hid (And.intro hsz1 (And.intro hsz2 (And.intro hS1 (And.intro hS2 hS3))))
  have HGd : Hid (∀ W, Calls Tryd.prog 25 #[e.m.val e.v] W fun e w' => e = .returned (.bool true) ∧ Ext W w') := Lib.hid fun W => by
    have := ref_Good e.m e.p e.c W hsm.pl hsm.tl hsm.bl
    rw [hg] at this
    exact this
  have hcl : e.m.body.length ≤ 100000 := by
    unfold lightS at hl
    simp only [List.all_cons, List.all_nil, Bool.and_true, Bool.and_eq_true] at hl
    exact (fineB_iff.1 hl.1).2.2.2
  obtain ⟨z0, z1, z2, z3, z4, z5, z6, z7⟩ := hmb.cells
  clear hli h1 h2 hE hw hb hl hsm hg hmb hsz1 hsz2 hS1 hS2 hS3 hgm
  unfold Mb.val Me.v Mb.cells at *
  go_enter Tryd.func11, Tryd.ntmps11
  go_wp2_with fail
  refine HL.out.1.mono ?_
  rintro x w1 ⟨rfl, rfl⟩
  go_wp2_with fail
  refine (HGd.out _).mono ?_
  rintro x w2 ⟨rfl, hE2⟩
  have HD : Hid (ShI w e w2) := Lib.hid ⟨HL.out.2.1.trans hE2, HL.out.2.2.ext hE2⟩
  clear hE2 z0 z1 z2 z3 z4 z5 z6 z7
  obtain ⟨z0, z1, z2, z3, z4, z5, z6, z7⟩ := HD.out.2.cells
  unfold Me.v at *
  have y0 := bs_size e.m.path
  have y1 := bs_size e.m.target
  go_upto_region 3 with fail
  go_cut [3] (fun s3 wd => s3 = .bool (shortB e.m) ∧ Hid (ShI w e wd))
  case first =>
    by_cases c1 : e.m.path.length ≤ 100
    · by_cases c2 : e.m.target.length ≤ 100
      · by_cases c3 : e.m.uid ≤ 2097151
        · by_cases c4 : e.m.gid ≤ 2097151
          · have hs : shortB e.m = decide (e.m.time ≤ 8589934591) := by unfold shortB; rw [decide_eq_true c1, decide_eq_true c2, decide_eq_true c3, decide_eq_true c4]; rfl
            have HS0 := Lib.hid hs
            clear hs
            have b1 : (e.m.path.length : Int) ≤ 100 := by omega
            have b2 : (e.m.target.length : Int) ≤ 100 := by omega
            go_wp2_with fail
            go_meet
            exact ⟨by rw [HS0.out], HD.out⟩
          · have hs : shortB e.m = false := by unfold shortB; rw [decide_eq_false c4]; simp
            have HS0 := Lib.hid hs
            clear hs
            have b1 : (e.m.path.length : Int) ≤ 100 := by omega
            have b2 : (e.m.target.length : Int) ≤ 100 := by omega
            go_wp2_with fail
            go_meet
            exact ⟨by rw [HS0.out], HD.out⟩
        · have hs : shortB e.m = false := by unfold shortB; rw [decide_eq_false c3]; simp
          have HS0 := Lib.hid hs
          clear hs
          have b1 : (e.m.path.length : Int) ≤ 100 := by omega
          have b2 : (e.m.target.length : Int) ≤ 100 := by omega
          go_wp2_with fail
          go_meet
          exact ⟨by rw [HS0.out], HD.out⟩
      · have hs : shortB e.m = false := by unfold shortB; rw [decide_eq_false c2]; simp
        have HS0 := Lib.hid hs
        clear hs
        have b1 : (e.m.path.length : Int) ≤ 100 := by omega
        have b2 : ¬ (e.m.target.length : Int) ≤ 100 := by omega
        go_wp2_with fail
        go_meet
        exact ⟨by rw [HS0.out], HD.out⟩
    · have hs : shortB e.m = false := by unfold shortB; rw [decide_eq_false c1]; simp
      have HS0 := Lib.hid hs
      clear hs
      have b1 : ¬ (e.m.path.length : Int) ≤ 100 := by omega
      go_wp2_with fail
      go_meet
      exact ⟨by rw [HS0.out], HD.out⟩
  case rest =>
    obtain ⟨rfl, HD2⟩ := hcut
    clear HD HL z0 z1 z2 z3 z4 z5 z6 z7
    obtain ⟨z0, z1, z2, z3, z4, z5, z6, z7⟩ := HD2.out.2.cells
    unfold Me.v at *
    obtain ⟨s, hs⟩ : ∃ s, s = bs e.m.path := ⟨_, rfl⟩
    obtain ⟨t, ht⟩ : ∃ t, t = bs e.m.target := ⟨_, rfl⟩
    have hss : s.size ≤ 1000000 := by rw [hs, bs_size]; exact HH.out.2.2.1.pl
    have hts : t.size ≤ 1000000 := by rw [ht, bs_size]; exact HH.out.2.2.1.tl
    have hs2 : s.size = e.m.path.length := by rw [hs, bs_size]
    have ht2 : t.size = e.m.target.length := by rw [ht, bs_size]
    rw [← hs] at z0
    rw [← ht] at z1
    obtain ⟨b0, hb0⟩ : ∃ b0, b0 = shortB e.m := ⟨_, rfl⟩
    rw [← hb0]
    have Hs := Lib.hid (And.intro hs hs2)
    have Ht := Lib.hid (And.intro ht ht2)
    have HB0 := Lib.hid hb0
    clear hs ht hs2 ht2 hb0 y0 y1
    go_wp2_with fail
    go_loop [3, 4] (fun pv kv => ∃ k : Nat, k ≤ s.size ∧ kv = .int .i64 k ∧ ∃ b, pv = .bool b ∧ Hid (b = (b0 && plainS (e.m.path.take k)))) (fun _ kv => s.size - (intOf kv).toNat)
    case atStart => exact ⟨0, Nat.zero_le _, rfl, b0, rfl, by rw [List.take_zero]; cases b0 <;> rfl⟩
    case round =>
      obtain ⟨k, hk, rfl, b, rfl, HB⟩ := hrel
      by_cases hlt : k < s.size
      · have hg := get_bs' Hs.out.1 k hlt
        have hd := plainS_take (l := e.m.path) (k := k) (by rw [← Hs.out.2]; exact hlt)
        rw [← hg] at hd
        have HN : Hid ((b && decide (s[k].toNat < 128)) = (b0 && plainS (e.m.path.take (k + 1)))) := Lib.hid (by rw [hd, HB.out, Bool.and_assoc])
        clear hg hd
        cases b with
        | false =>
          go_wp2
          go_round
          case rel => exact ⟨k + 1, by omega, by go_num, false, rfl, HN.out⟩
          case measure => simp [intOf]; omega
        | true =>
          go_wp2
          go_round
          case rel => exact ⟨k + 1, by omega, by go_num, decide (s[k].toNat < 128), by first | rfl | (congr 1; exact decide_eq_decide.2 (by omega)), HN.out⟩
          case measure => simp [intOf]; omega
      · obtain rfl : k = s.size := by omega
        have HB1 : Hid (b = (b0 && plainS e.m.path)) := Lib.hid (by rw [HB.out, Hs.out.2, List.take_length])
        clear HB hlt hk
        go_wp2_with fail
        go_loop [3, 5] (fun pv kv => ∃ k : Nat, k ≤ t.size ∧ kv = .int .i64 k ∧ ∃ b', pv = .bool b' ∧ Hid (b' = (b && plainS (e.m.target.take k)))) (fun _ kv => t.size - (intOf kv).toNat)
        case atStart => exact ⟨0, Nat.zero_le _, rfl, b, rfl, by rw [List.take_zero]; cases b <;> rfl⟩
        case round =>
          obtain ⟨k, hk, rfl, b', rfl, HB⟩ := hrel
          by_cases hlt : k < t.size
          · have hg := get_bs' Ht.out.1 k hlt
            have hd := plainS_take (l := e.m.target) (k := k) (by rw [← Ht.out.2]; exact hlt)
            rw [← hg] at hd
            have HN : Hid ((b' && decide (t[k].toNat < 128)) = (b && plainS (e.m.target.take (k + 1)))) := Lib.hid (by rw [hd, HB.out, Bool.and_assoc])
            clear hg hd
            cases b' with
            | false =>
              go_wp2
              go_round
              case rel => exact ⟨k + 1, by omega, by go_num, false, rfl, HN.out⟩
              case measure => simp [intOf]; omega
            | true =>
              go_wp2
              go_round
              case rel => exact ⟨k + 1, by omega, by go_num, decide (t[k].toNat < 128), by first | rfl | (congr 1; exact decide_eq_decide.2 (by omega)), HN.out⟩
              case measure => simp [intOf]; omega
          · obtain rfl : k = t.size := by omega
            have HB2 : Hid (b' = shortS e.m) := Lib.hid (by rw [HB.out, HB1.out, HB0.out, Ht.out.2, List.take_length]; unfold shortS; rw [Bool.and_assoc])
            clear HB HB1 HB0 hlt hk
            obtain ⟨n, hn⟩ : ∃ n : Nat, n = 512 + padN e.m.body.length := ⟨_, rfl⟩
            have hnI : (512 : Int) + ((e.m.body.length : Int) + 511) / 512 * 512 = (n : Int) := by rw [hn]; unfold padN; omega
            obtain ⟨S, hS⟩ : ∃ S : Nat, S = (memS e.m).length := ⟨_, rfl⟩
            have hnS : (n : Int) ≤ (S : Int) := by rw [hn, hS, HS.out.2.2.1]; omega
            have hS2 : S ≤ 2000000 := by rw [hS]; exact HS.out.2.2.2.1
            have hSn : shortS e.m = true → S = n := fun h => by rw [hS, hn]; exact HS.out.2.2.2.2 h
            have HSn := Lib.hid (And.intro hSn hS)
            have HnI := Lib.hid hnI
            clear hn hnI hS hSn Hs Ht
            go_wp2_with fail
            rw [HnI.out]
            clear HnI z0 z1 z2 z3 z4 z5 z6 z7
            cases b' with
            | true =>
              obtain rfl : S = n := HSn.out.1 HB2.out.symm
              apply wp_region_genlH (shVsT (e.m.val e.v) S S) (ShWI true wc e) (0, 0, 0, 0)
              case act => exact (fun _ => true)
              case hm => kernel_rfl
              case hB => kernel_rfl
              case hlen => exact fun g => rfl
              case hG =>
                intro g
                simp only [AllO]
                refine ⟨?_, ?_, ?_, ?_, ?_, ?_, ?_, ?_, ?_, ?_, ?_, ?_, ?_, ?_, ?_, ?_, ?_, ?_, ?_, ?_, ?_, ?_, ?_, ?_, ?_, ?_, ?_, ?_, ?_, ?_, ?_, trivial⟩ <;> first | trivial | rfl
              case hU =>
                intro g i hi ha; cases ha
              case hds => rfl
              case h0 => exact ⟨Ext.drew wc, fun _ x => (by cases x), fun x => (by cases x), fun x => (by cases x), fun x => (by cases x)⟩
              case hF =>
                intro g
                simp only [finalF, shVsT, Act.put, List.setIfInBounds_toArray, List.set_cons_succ, List.set_cons_zero]
                rfl
              case hstep =>
                simp only [AllO, Nat.zero_add, Nat.reduceAdd]
                refine ⟨?_, ?_, ?_, ?_, ?_, ?_, ?_, ?_, ?_, ?_, ?_, ?_, ?_, ?_, ?_, ?_, ?_, ?_, ?_, ?_, ?_, ?_, ?_, ?_, ?_, ?_, ?_, ?_, ?_, ?_, ?_, trivial⟩
                all_goals
                  intro ha g L w' hW0 hi hd
                  have hW := Lib.hid hW0
                  clear hW0
                case refine_1 =>
                  refine .inr (.inr ⟨23, #[], w', ?_, ?_⟩)
                  · go_simp
                  · refine (answers9 w' (HH.out.1.ext (HD2.out.1.trans hW.out.1))).mono ?_
                    rintro x w'' ⟨rfl, hE⟩
                    exact ⟨_, rfl, g, hW.out.quiet _ (by decide) (by decide) (by decide) (by decide) hE, fun _ _ => rfl, rfl⟩
                case refine_6 =>
                  obtain ⟨z0, z1, z2, z3, z4, z5, z6, z7⟩ := (HD2.out.2.ext hW.out.1).cells
                  refine .inl ⟨_, w', ?_, g, hW.out.quiet _ (by decide) (by decide) (by decide) (by decide) (Ext.refl _), fun _ _ => rfl, rfl⟩
                  unfold Mb.val Mb.cells Me.v at *
                  go_simp
                case refine_7 =>
                  obtain ⟨g1, g2, g3, g4⟩ := g
                  have hEa := Ext.alloc w' (.cells (e.m.cells e.v) 45)
                  have hby := HH.out.2.1.ext ((HD2.out.1.trans hW.out.1).trans hEa)
                  have hM : MbsAt (w'.alloc (.cells (e.m.cells e.v) 45)) (some ⟨w'.heap.size, 0, none⟩) [e] := MbsAt.one (heap_alloc_new _ _) hby
                  refine .inl ⟨_, w'.alloc (.cells (e.m.cells e.v) 45), ?_, (w'.heap.size, g2, g3, g4), ⟨hW.out.1.trans hEa, fun s h6 => hM, fun h => (hW.out.2.2.1 (by simpa using h)).ext hEa, fun h => (hW.out.2.2.2.1 (by simpa using h)).ext hEa, fun h => (hW.out.2.2.2.2 (by simpa using h)).ext hEa⟩, ?_, rfl⟩
                  · unfold Mb.val Mb.cells Me.v
                    clear hM hEa hby
                    go_simp
                    try rfl
                  · intro j hj
                    have : j ≠ 6 := fun x => by rw [x, hi] at hj; cases hj
                    exact shVsT_6 _ _ _ _ _ _ _ _ _ this
                case refine_8 =>
                  have hL : L 6 = true := hd ⟨6, .data⟩ (by simp) rfl
                  refine .inr (.inr ⟨26, #[.slice (some ⟨g.1, 0, none⟩) 1 1], w', ?_, ?_⟩)
                  · go_simp
                  · refine (write_Size (some ⟨g.1, 0, none⟩) 1 [e] w' (hW.out.2.1 rfl hL) (by simp) (by intro x he; have : x = e := (by simpa using he); rw [this]; exact HH.out.2.2.1) (HH.out.1.ext (HD2.out.1.trans hW.out.1))).mono ?_
                    rintro x w'' ⟨rfl, hE⟩
                    rw [HS.out.1, ← HSn.out.2]
                    exact ⟨_, rfl, g, hW.out.quiet _ (by decide) (by decide) (by decide) (by decide) hE, fun _ _ => rfl, rfl⟩
                case refine_14 =>
                  obtain ⟨z0, z1, z2, z3, z4, z5, z6, z7⟩ := (HD2.out.2.ext hW.out.1).cells
                  refine .inl ⟨_, w', ?_, g, hW.out.quiet _ (by decide) (by decide) (by decide) (by decide) (Ext.refl _), fun _ _ => rfl, rfl⟩
                  unfold Mb.val Mb.cells Me.v at *
                  go_simp
                case refine_15 =>
                  obtain ⟨g1, g2, g3, g4⟩ := g
                  have hEa := Ext.alloc w' (.cells (e.m.cells e.v) 45)
                  have hby := HH.out.2.1.ext ((HD2.out.1.trans hW.out.1).trans hEa)
                  have hM : MbsAt (w'.alloc (.cells (e.m.cells e.v) 45)) (some ⟨w'.heap.size, 0, none⟩) [e] := MbsAt.one (heap_alloc_new _ _) hby
                  refine .inl ⟨_, w'.alloc (.cells (e.m.cells e.v) 45), ?_, (g1, w'.heap.size, g3, g4), ⟨hW.out.1.trans hEa, fun s h6 => (hW.out.2.1 s (by simpa using h6)).ext hEa, fun _ => hM, fun h => (hW.out.2.2.2.1 (by simpa using h)).ext hEa, fun h => (hW.out.2.2.2.2 (by simpa using h)).ext hEa⟩, ?_, rfl⟩
                  · unfold Mb.val Mb.cells Me.v
                    clear hM hEa hby
                    go_simp
                    try rfl
                  · intro j hj
                    have : j ≠ 14 := fun x => by rw [x, hi] at hj; cases hj
                    exact shVsT_14 _ _ _ _ _ _ _ _ _ this
                case refine_16 =>
                  have hL : L 14 = true := hd ⟨14, .data⟩ (by simp) rfl
                  refine .inr (.inr ⟨26, #[.slice (some ⟨g.2.1, 0, none⟩) 1 1], w', ?_, ?_⟩)
                  · go_simp
                  · refine (write_Size (some ⟨g.2.1, 0, none⟩) 1 [e] w' (hW.out.2.2.1 hL) (by simp) (by intro x he; have : x = e := (by simpa using he); rw [this]; exact HH.out.2.2.1) (HH.out.1.ext (HD2.out.1.trans hW.out.1))).mono ?_
                    rintro x w'' ⟨rfl, hE⟩
                    rw [HS.out.1, ← HSn.out.2]
                    exact ⟨_, rfl, g, hW.out.quiet _ (by decide) (by decide) (by decide) (by decide) hE, fun _ _ => rfl, rfl⟩
                case refine_18 =>
                  have hge : ((S : Int) ≤ (S : Int)) := by omega
                  refine .inl ⟨_, w', ?_, g, hW.out.quiet _ (by decide) (by decide) (by decide) (by decide) (Ext.refl _), fun _ _ => rfl, rfl⟩
                  go_simp
                case refine_21 =>
                  obtain ⟨z0, z1, z2, z3, z4, z5, z6, z7⟩ := (HD2.out.2.ext hW.out.1).cells
                  refine .inl ⟨_, w', ?_, g, hW.out.quiet _ (by decide) (by decide) (by decide) (by decide) (Ext.refl _), fun _ _ => rfl, rfl⟩
                  unfold Mb.val Mb.cells Me.v at *
                  go_simp
                case refine_22 =>
                  obtain ⟨z0, z1, z2, z3, z4, z5, z6, z7⟩ := (HD2.out.2.ext hW.out.1).cells
                  refine .inl ⟨_, w', ?_, g, hW.out.quiet _ (by decide) (by decide) (by decide) (by decide) (Ext.refl _), fun _ _ => rfl, rfl⟩
                  unfold Mb.val Mb.cells Me.v at *
                  go_simp
                case refine_23 =>
                  obtain ⟨g1, g2, g3, g4⟩ := g
                  have hEa := Ext.alloc w' (.cells (e.m.cells e.v ++ e.m.cells e.v) 45)
                  have hby := HH.out.2.1.ext ((HD2.out.1.trans hW.out.1).trans hEa)
                  have hM : MbsAt (w'.alloc (.cells (e.m.cells e.v ++ e.m.cells e.v) 45)) (some ⟨w'.heap.size, 0, none⟩) [e, e] := MbsAt.two (heap_alloc_new _ _) hby hby
                  refine .inl ⟨_, w'.alloc (.cells (e.m.cells e.v ++ e.m.cells e.v) 45), ?_, (g1, g2, w'.heap.size, g4), ⟨hW.out.1.trans hEa, fun s h6 => (hW.out.2.1 s (by simpa using h6)).ext hEa, fun h => (hW.out.2.2.1 (by simpa using h)).ext hEa, fun _ => hM, fun h => (hW.out.2.2.2.2 (by simpa using h)).ext hEa⟩, ?_, rfl⟩
                  · unfold Mb.val Mb.cells Me.v
                    clear hM hEa hby
                    go_simp
                    try rfl
                  · intro j hj
                    have : j ≠ 22 := fun x => by rw [x, hi] at hj; cases hj
                    exact shVsT_22 _ _ _ _ _ _ _ _ _ this
                case refine_24 =>
                  have hL : L 22 = true := hd ⟨22, .data⟩ (by simp) rfl
                  refine .inr (.inr ⟨26, #[.slice (some ⟨g.2.2.1, 0, none⟩) 2 2], w', ?_, ?_⟩)
                  · go_simp
                  · refine (write_Size (some ⟨g.2.2.1, 0, none⟩) 2 [e, e] w' (hW.out.2.2.2.1 hL) (by simp) (by intro x he; have : x = e := (by simpa using he); rw [this]; exact HH.out.2.2.1) (HH.out.1.ext (HD2.out.1.trans hW.out.1))).mono ?_
                    rintro x w'' ⟨rfl, hE⟩
                    rw [HS.out.2.1, ← HSn.out.2]
                    exact ⟨_, rfl, g, hW.out.quiet _ (by decide) (by decide) (by decide) (by decide) hE, fun _ _ => rfl, rfl⟩
                case refine_25 =>
                  obtain ⟨z0, z1, z2, z3, z4, z5, z6, z7⟩ := (HD2.out.2.ext hW.out.1).cells
                  refine .inl ⟨_, w', ?_, g, hW.out.quiet _ (by decide) (by decide) (by decide) (by decide) (Ext.refl _), fun _ _ => rfl, rfl⟩
                  unfold Mb.val Mb.cells Me.v at *
                  go_simp
                case refine_26 =>
                  obtain ⟨g1, g2, g3, g4⟩ := g
                  have hEa := Ext.alloc w' (.cells (e.m.cells e.v) 45)
                  have hby := HH.out.2.1.ext ((HD2.out.1.trans hW.out.1).trans hEa)
                  have hM : MbsAt (w'.alloc (.cells (e.m.cells e.v) 45)) (some ⟨w'.heap.size, 0, none⟩) [e] := MbsAt.one (heap_alloc_new _ _) hby
                  refine .inl ⟨_, w'.alloc (.cells (e.m.cells e.v) 45), ?_, (g1, g2, g3, w'.heap.size), ⟨hW.out.1.trans hEa, fun s h6 => (hW.out.2.1 s (by simpa using h6)).ext hEa, fun h => (hW.out.2.2.1 (by simpa using h)).ext hEa, fun h => (hW.out.2.2.2.1 (by simpa using h)).ext hEa, fun _ => hM⟩, ?_, rfl⟩
                  · unfold Mb.val Mb.cells Me.v
                    clear hM hEa hby
                    go_simp
                    try rfl
                  · intro j hj
                    have : j ≠ 25 := fun x => by rw [x, hi] at hj; cases hj
                    exact shVsT_25 _ _ _ _ _ _ _ _ _ this
                case refine_27 =>
                  have hL : L 25 = true := hd ⟨25, .data⟩ (by simp) rfl
                  refine .inr (.inr ⟨26, #[.slice (some ⟨g.2.2.2, 0, none⟩) 1 1], w', ?_, ?_⟩)
                  · go_simp
                  · refine (write_Size (some ⟨g.2.2.2, 0, none⟩) 1 [e] w' (hW.out.2.2.2.2 hL) (by simp) (by intro x he; have : x = e := (by simpa using he); rw [this]; exact HH.out.2.2.1) (HH.out.1.ext (HD2.out.1.trans hW.out.1))).mono ?_
                    rintro x w'' ⟨rfl, hE⟩
                    rw [HS.out.1, ← HSn.out.2]
                    exact ⟨_, rfl, g, hW.out.quiet _ (by decide) (by decide) (by decide) (by decide) hE, fun _ _ => rfl, rfl⟩
                case refine_28 =>
                  have kw := IntWalk.i64_in (2 * (S : Int)) (by omega)
                  refine .inl ⟨_, w', ?_, g, hW.out.quiet _ (by decide) (by decide) (by decide) (by decide) (Ext.refl _), fun _ _ => rfl, rfl⟩
                  go_simp
                all_goals
                  refine .inl ⟨_, w', ?_, g, hW.out.quiet _ (by decide) (by decide) (by decide) (by decide) (Ext.refl _), fun _ _ => rfl, rfl⟩
                  go_simp
              case hend =>
                intro g L w4 hall' hW
                have HQ := Lib.hid (HD2.out.1.trans hW.1)
                clear hW hall'
                go_wp2
                go_ret
                exact ⟨rfl, HQ.out⟩
            | false =>
              apply wp_region_genlH (shVsF (e.m.val e.v) S n) (ShWI false wc e) (0, 0, 0, 0)
              case act => exact (fun i => !(decide (5 ≤ i) && decide (i ≤ 9)))
              case hm => kernel_rfl
              case hB => kernel_rfl
              case hlen => exact fun g => rfl
              case hG =>
                intro g
                simp only [AllO]
                refine ⟨?_, ?_, ?_, ?_, ?_, ?_, ?_, ?_, ?_, ?_, ?_, ?_, ?_, ?_, ?_, ?_, ?_, ?_, ?_, ?_, ?_, ?_, ?_, ?_, ?_, ?_, ?_, ?_, ?_, ?_, ?_, trivial⟩ <;> first | trivial | rfl
              case hU =>
                intro g i hi ha
                have h5 : i = 5 ∨ i = 6 ∨ i = 7 ∨ i = 8 ∨ i = 9 := by
                  have : 5 ≤ i ∧ i ≤ 9 := by simpa using ha
                  omega
                rcases h5 with rfl | rfl | rfl | rfl | rfl <;> exact ⟨rfl, fun L w' h _ => h.out _ (by decide) (by decide) (by decide)⟩
              case hds => rfl
              case h0 => exact ⟨Ext.drew wc, fun _ x => (by cases x), fun x => (by cases x), fun x => (by cases x), fun x => (by cases x)⟩
              case hF =>
                intro g
                simp only [finalF, shVsF, Act.put, List.setIfInBounds_toArray, List.set_cons_succ, List.set_cons_zero]
                rfl
              case hstep =>
                simp only [AllO, Nat.zero_add, Nat.reduceAdd]
                refine ⟨?_, ?_, ?_, ?_, ?_, ?_, ?_, ?_, ?_, ?_, ?_, ?_, ?_, ?_, ?_, ?_, ?_, ?_, ?_, ?_, ?_, ?_, ?_, ?_, ?_, ?_, ?_, ?_, ?_, ?_, ?_, trivial⟩
                all_goals
                  intro ha g L w' hW0 hi hd
                  have hW := Lib.hid hW0
                  clear hW0
                case refine_1 =>
                  refine .inr (.inr ⟨23, #[], w', ?_, ?_⟩)
                  · go_simp
                  · refine (answers9 w' (HH.out.1.ext (HD2.out.1.trans hW.out.1))).mono ?_
                    rintro x w'' ⟨rfl, hE⟩
                    exact ⟨_, rfl, g, hW.out.quiet _ (by decide) (by decide) (by decide) (by decide) hE, fun _ _ => rfl, rfl⟩
                case refine_6 =>
                  cases ha
                case refine_7 =>
                  cases ha
                case refine_8 =>
                  cases ha
                case refine_9 =>
                  cases ha
                case refine_10 =>
                  cases ha
                case refine_14 =>
                  obtain ⟨z0, z1, z2, z3, z4, z5, z6, z7⟩ := (HD2.out.2.ext hW.out.1).cells
                  refine .inl ⟨_, w', ?_, g, hW.out.quiet _ (by decide) (by decide) (by decide) (by decide) (Ext.refl _), fun _ _ => rfl, rfl⟩
                  unfold Mb.val Mb.cells Me.v at *
                  go_simp
                case refine_15 =>
                  obtain ⟨g1, g2, g3, g4⟩ := g
                  have hEa := Ext.alloc w' (.cells (e.m.cells e.v) 45)
                  have hby := HH.out.2.1.ext ((HD2.out.1.trans hW.out.1).trans hEa)
                  have hM : MbsAt (w'.alloc (.cells (e.m.cells e.v) 45)) (some ⟨w'.heap.size, 0, none⟩) [e] := MbsAt.one (heap_alloc_new _ _) hby
                  refine .inl ⟨_, w'.alloc (.cells (e.m.cells e.v) 45), ?_, (g1, w'.heap.size, g3, g4), ⟨hW.out.1.trans hEa, fun s h6 => (hW.out.2.1 s (by simpa using h6)).ext hEa, fun _ => hM, fun h => (hW.out.2.2.2.1 (by simpa using h)).ext hEa, fun h => (hW.out.2.2.2.2 (by simpa using h)).ext hEa⟩, ?_, rfl⟩
                  · unfold Mb.val Mb.cells Me.v
                    clear hM hEa hby
                    go_simp
                    try rfl
                  · intro j hj
                    have : j ≠ 14 := fun x => by rw [x, hi] at hj; cases hj
                    exact shVsF_14 _ _ _ _ _ _ _ _ _ this
                case refine_16 =>
                  have hL : L 14 = true := hd ⟨14, .data⟩ (by simp) rfl
                  refine .inr (.inr ⟨26, #[.slice (some ⟨g.2.1, 0, none⟩) 1 1], w', ?_, ?_⟩)
                  · go_simp
                  · refine (write_Size (some ⟨g.2.1, 0, none⟩) 1 [e] w' (hW.out.2.2.1 hL) (by simp) (by intro x he; have : x = e := (by simpa using he); rw [this]; exact HH.out.2.2.1) (HH.out.1.ext (HD2.out.1.trans hW.out.1))).mono ?_
                    rintro x w'' ⟨rfl, hE⟩
                    rw [HS.out.1, ← HSn.out.2]
                    exact ⟨_, rfl, g, hW.out.quiet _ (by decide) (by decide) (by decide) (by decide) hE, fun _ _ => rfl, rfl⟩
                case refine_18 =>
                  have hge : ((n : Int) ≤ (S : Int)) := by omega
                  refine .inl ⟨_, w', ?_, g, hW.out.quiet _ (by decide) (by decide) (by decide) (by decide) (Ext.refl _), fun _ _ => rfl, rfl⟩
                  go_simp
                case refine_21 =>
                  obtain ⟨z0, z1, z2, z3, z4, z5, z6, z7⟩ := (HD2.out.2.ext hW.out.1).cells
                  refine .inl ⟨_, w', ?_, g, hW.out.quiet _ (by decide) (by decide) (by decide) (by decide) (Ext.refl _), fun _ _ => rfl, rfl⟩
                  unfold Mb.val Mb.cells Me.v at *
                  go_simp
                case refine_22 =>
                  obtain ⟨z0, z1, z2, z3, z4, z5, z6, z7⟩ := (HD2.out.2.ext hW.out.1).cells
                  refine .inl ⟨_, w', ?_, g, hW.out.quiet _ (by decide) (by decide) (by decide) (by decide) (Ext.refl _), fun _ _ => rfl, rfl⟩
                  unfold Mb.val Mb.cells Me.v at *
                  go_simp
                case refine_23 =>
                  obtain ⟨g1, g2, g3, g4⟩ := g
                  have hEa := Ext.alloc w' (.cells (e.m.cells e.v ++ e.m.cells e.v) 45)
                  have hby := HH.out.2.1.ext ((HD2.out.1.trans hW.out.1).trans hEa)
                  have hM : MbsAt (w'.alloc (.cells (e.m.cells e.v ++ e.m.cells e.v) 45)) (some ⟨w'.heap.size, 0, none⟩) [e, e] := MbsAt.two (heap_alloc_new _ _) hby hby
                  refine .inl ⟨_, w'.alloc (.cells (e.m.cells e.v ++ e.m.cells e.v) 45), ?_, (g1, g2, w'.heap.size, g4), ⟨hW.out.1.trans hEa, fun s h6 => (hW.out.2.1 s (by simpa using h6)).ext hEa, fun h => (hW.out.2.2.1 (by simpa using h)).ext hEa, fun _ => hM, fun h => (hW.out.2.2.2.2 (by simpa using h)).ext hEa⟩, ?_, rfl⟩
                  · unfold Mb.val Mb.cells Me.v
                    clear hM hEa hby
                    go_simp
                    try rfl
                  · intro j hj
                    have : j ≠ 22 := fun x => by rw [x, hi] at hj; cases hj
                    exact shVsF_22 _ _ _ _ _ _ _ _ _ this
                case refine_24 =>
                  have hL : L 22 = true := hd ⟨22, .data⟩ (by simp) rfl
                  refine .inr (.inr ⟨26, #[.slice (some ⟨g.2.2.1, 0, none⟩) 2 2], w', ?_, ?_⟩)
                  · go_simp
                  · refine (write_Size (some ⟨g.2.2.1, 0, none⟩) 2 [e, e] w' (hW.out.2.2.2.1 hL) (by simp) (by intro x he; have : x = e := (by simpa using he); rw [this]; exact HH.out.2.2.1) (HH.out.1.ext (HD2.out.1.trans hW.out.1))).mono ?_
                    rintro x w'' ⟨rfl, hE⟩
                    rw [HS.out.2.1, ← HSn.out.2]
                    exact ⟨_, rfl, g, hW.out.quiet _ (by decide) (by decide) (by decide) (by decide) hE, fun _ _ => rfl, rfl⟩
                case refine_25 =>
                  obtain ⟨z0, z1, z2, z3, z4, z5, z6, z7⟩ := (HD2.out.2.ext hW.out.1).cells
                  refine .inl ⟨_, w', ?_, g, hW.out.quiet _ (by decide) (by decide) (by decide) (by decide) (Ext.refl _), fun _ _ => rfl, rfl⟩
                  unfold Mb.val Mb.cells Me.v at *
                  go_simp
                case refine_26 =>
                  obtain ⟨g1, g2, g3, g4⟩ := g
                  have hEa := Ext.alloc w' (.cells (e.m.cells e.v) 45)
                  have hby := HH.out.2.1.ext ((HD2.out.1.trans hW.out.1).trans hEa)
                  have hM : MbsAt (w'.alloc (.cells (e.m.cells e.v) 45)) (some ⟨w'.heap.size, 0, none⟩) [e] := MbsAt.one (heap_alloc_new _ _) hby
                  refine .inl ⟨_, w'.alloc (.cells (e.m.cells e.v) 45), ?_, (g1, g2, g3, w'.heap.size), ⟨hW.out.1.trans hEa, fun s h6 => (hW.out.2.1 s (by simpa using h6)).ext hEa, fun h => (hW.out.2.2.1 (by simpa using h)).ext hEa, fun h => (hW.out.2.2.2.1 (by simpa using h)).ext hEa, fun _ => hM⟩, ?_, rfl⟩
                  · unfold Mb.val Mb.cells Me.v
                    clear hM hEa hby
                    go_simp
                    try rfl
                  · intro j hj
                    have : j ≠ 25 := fun x => by rw [x, hi] at hj; cases hj
                    exact shVsF_25 _ _ _ _ _ _ _ _ _ this
                case refine_27 =>
                  have hL : L 25 = true := hd ⟨25, .data⟩ (by simp) rfl
                  refine .inr (.inr ⟨26, #[.slice (some ⟨g.2.2.2, 0, none⟩) 1 1], w', ?_, ?_⟩)
                  · go_simp
                  · refine (write_Size (some ⟨g.2.2.2, 0, none⟩) 1 [e] w' (hW.out.2.2.2.2 hL) (by simp) (by intro x he; have : x = e := (by simpa using he); rw [this]; exact HH.out.2.2.1) (HH.out.1.ext (HD2.out.1.trans hW.out.1))).mono ?_
                    rintro x w'' ⟨rfl, hE⟩
                    rw [HS.out.1, ← HSn.out.2]
                    exact ⟨_, rfl, g, hW.out.quiet _ (by decide) (by decide) (by decide) (by decide) hE, fun _ _ => rfl, rfl⟩
                case refine_28 =>
                  have kw := IntWalk.i64_in (2 * (S : Int)) (by omega)
                  refine .inl ⟨_, w', ?_, g, hW.out.quiet _ (by decide) (by decide) (by decide) (by decide) (Ext.refl _), fun _ _ => rfl, rfl⟩
                  go_simp
                all_goals
                  refine .inl ⟨_, w', ?_, g, hW.out.quiet _ (by decide) (by decide) (by decide) (by decide) (Ext.refl _), fun _ _ => rfl, rfl⟩
                  go_simp
              case hend =>
                intro g L w4 hall' hW
                have HQ := Lib.hid (HD2.out.1.trans hW.1)
                clear hW hall'
                go_wp2
                go_ret
                exact ⟨rfl, HQ.out⟩
theorem writeShort_walk (w : World) (hw : HW w) (e : Me) (hb : By w e.p e.m.body) :
    Calls Tryd.prog 11 #[e.m.val e.v] w fun x w' => x = .returned (.bool true) ∧ Ext w w' := by
  cases hl : lightS [e] with
  | false => exact writeShort_dark e w hw hb hl
  | true =>
    cases hg : goodS e.m with
    | false => exact writeShort_bad e w hw hb hl hg
    | true => exact writeShort_good e w hw hb hl hg
end Go.Proofs.YtpapbnmacjoihaaDoor
