/- As Region, the value that a call hands back hanging on the call's way. -/
/- As RegionB, with operations that wait for a Boolean ('&&'): each guard's Boolean is known and lets them in. -/
import Derived.Test.YtpapbnmacjoihaaDoorRegion
namespace Go.Proofs.YtpapbnmacjoihaaDoor

section
variable {P : Program} {ops : Array Oper} {Q : Exit → Act → World → Prop}
/-- What operation o does in the frame F and the world w: it comes to the value v (or to none, or calls what hands v back) in a world that R holds of. -/
def DoingX (P : Program) (F : Act) (o : Oper) (w : World) (R : Value → World → Prop) : Prop :=
  (∃ v w', (execOp F.eval o).run P w = .ok (.value v) w' ∧ R v w') ∨
  (∃ v w', (execOp F.eval o).run P w = .ok .skip w' ∧ o.dst = none ∧ R v w') ∨
  ∃ f args w1, (execOp F.eval o).run P w = .ok (.enter f args) w1 ∧ Calls P f args w1 fun e w' => ∃ v, e = .returned v ∧ R v w'

/-- **A REGION THAT DRAWS, EACH OPERATION OF WHICH YIELDS ONE VALUE WHATEVER THE ORDER**, but for what hangs on γ (where a block has come to lie): WI says what the world is like when those have come up that are listed. -/
theorem wp_region_genX {γ : Type} {id : Nat} {l : List Oper} {a : Act} {w : World} (vs : γ → List Value) (WI : γ → (Nat → Bool) → World → Prop) (g0 : γ)
    (hm : P.follows .mixedOrders = true) (hB : plainB l.toArray = true) (hlen : ∀ g, (vs g).length = l.length)
    (hds : ∀ o ∈ l, ∀ d, o.dst = some d → d < a.tmps.size)
    (h0 : WI g0 (fun _ => false) w.drew)
    (hstep : ∀ i o, l[i]? = some o → ∀ g L w', WI g L w' → L i = false → (∀ e ∈ o.after, Region.binds .any e = true → L e.on = true) →
      DoingX P (finalF l (vs g) a) o w' fun v w'' => ∃ g', WI g' (fun j => if j = i then true else L j) w'' ∧ (∀ j, L j = true → (vs g')[j]? = (vs g)[j]?) ∧ (vs g')[i]? = some v)
    (hend : ∀ g L w', (∀ i, i < l.length → L i = true) → WI g L w' → Q .normal (finalF l (vs g) a) w') :
    (Code.region id l.toArray true).wp P Q a w := by
  simp only [plainB, Bool.and_eq_true, decide_eq_true_eq] at hB
  obtain ⟨⟨hB1, hB2⟩, hB3⟩ := hB
  have hb : ∀ i o, l.toArray[i]? = some o → ∀ e ∈ o.after, Region.binds .any e = true → e.on < i := by
    intro i o ho e he hbd
    have hi : i < l.toArray.size := (Array.getElem?_eq_some_iff.1 ho).1
    have := List.all_eq_true.1 hB3 i (by simpa using hi)
    rw [ho] at this
    have := Array.all_eq_true_iff_forall_mem.1 this e he
    simpa [hbd] using this
  refine wp_region_any hm ?_
  refine wpAny_inv (fun listed a' w' => listed.size = l.length ∧ a'.tmps.size = a.tmps.size ∧ a'.defers = a.defers ∧ ∃ g,
      (∀ t, (∀ j o, l[j]? = some o → o.dst = some t → listed.getD j false = true) → a'.tmps.getD t undef = (finalF l (vs g) a).tmps.getD t undef) ∧ WI g (fun j => listed.getD j false) w') ?_ ?_ _ _ _ _ ?_ ?_
  · rintro listed a' w' i ⟨hsz, hts, hdf, g, hfr, hW⟩ hi
    rw [mem_ready] at hi
    obtain ⟨hi0, o, ho, hdeps⟩ := hi
    have hol : l[i]? = some o := by simpa using ho
    have hil : i < l.length := (List.getElem?_eq_some_iff.1 hol).1
    have hmem : o ∈ l.toArray := Array.mem_of_getElem? ho
    have hp := Array.all_eq_true_iff_forall_mem.1 hB1 o hmem
    simp only [Bool.and_eq_true] at hp
    obtain ⟨⟨hg, hsel⟩, hopd⟩ := hp
    have hg' : o.guard = none := by simpa using hg
    have hL : listed.getD i false = false := by
      have : i < listed.size := by omega
      rw [Array.getD_eq_getD_getElem?] at hi0 ⊢
      simpa [this] using hi0
    have hev : ∀ x ∈ o.op.operands, a'.eval x = (finalF l (vs g) a).eval x := by
      intro x hx
      cases x with
      | tmp t =>
        show a'.tmps.getD t undef = (finalF l (vs g) a).tmps.getD t undef
        refine hfr t fun j oj hj hd => ?_
        have h1 := Array.all_eq_true_iff_forall_mem.1 hopd (.tmp t) hx
        simp only at h1
        have hjl : j < l.length := (List.getElem?_eq_some_iff.1 hj).1
        have h2 := List.all_eq_true.1 h1 j (by simpa using hjl)
        rw [show l.toArray[j]? = some oj by simpa using hj] at h2
        simp only [hd, bne_self_eq_false, Bool.false_or] at h2
        rw [← Array.any_toList] at h2
        obtain ⟨e, he', hee⟩ := List.any_eq_true.1 h2
        have he := Array.mem_toList_iff.1 he'
        simp only [Bool.and_eq_true, beq_iff_eq] at hee
        rw [← hee.1]
        exact hdeps e he hee.2
      | const v => rfl
      | global g => rfl
      | func g => rfl
    have hns : ∀ cs b, o.op ≠ .select cs b := by
      intro cs b e
      rw [e] at hsel
      cases hsel
    have hex : execOp a'.eval o = execOp (finalF l (vs g) a).eval o := execOp_congr o hns hev
    have hset : ∀ j, (listed.setIfInBounds i true).getD j false = if j = i then true else listed.getD j false := by
      intro j
      rw [Array.getD_eq_getD_getElem?, Array.getD_eq_getD_getElem?, Array.getElem?_setIfInBounds]
      by_cases e : j = i
      · subst e; simp [show j < listed.size by omega]
      · rw [if_neg (fun h => e h.symm), if_neg e]
    have hput : ∀ u v w'', (∀ d, o.dst = some d → u = v) → (∃ g', WI g' (fun j => if j = i then true else listed.getD j false) w'' ∧ (∀ j, listed.getD j false = true → (vs g')[j]? = (vs g)[j]?) ∧ (vs g')[i]? = some v) →
        (listed.setIfInBounds i true).size = l.length ∧ (a'.put o.dst u).tmps.size = a.tmps.size ∧ (a'.put o.dst u).defers = a.defers ∧ ∃ g,
        (∀ t, (∀ j o, l[j]? = some o → o.dst = some t → (listed.setIfInBounds i true).getD j false = true) → (a'.put o.dst u).tmps.getD t undef = (finalF l (vs g) a).tmps.getD t undef) ∧ WI g (fun j => (listed.setIfInBounds i true).getD j false) w'' := by
      intro u v w'' hv ⟨g', hW', hsame, hvi⟩
      refine ⟨by simpa using hsz, by rw [put_size]; exact hts, by rw [put_defers']; exact hdf, g', fun t ht => ?_, ?_⟩
      · by_cases e : o.dst = some t
        · rw [e, put_same _ _ _ (by rw [hts]; exact hds o (List.mem_of_getElem? hol) t e), hv t e]
          exact (finalF_at l (vs g') a i o v t hol hvi e (hds o (List.mem_of_getElem? hol) t e) hB2).symm
        · rw [put_other _ _ _ _ e]
          have hlist : ∀ j oj, l[j]? = some oj → oj.dst = some t → listed.getD j false = true := by
            intro j oj hj hd
            have := ht j oj hj hd
            rw [hset] at this
            by_cases e2 : j = i
            · subst e2; rw [hol] at hj; cases hj; exact absurd hd e
            · rwa [if_neg e2] at this
          rw [hfr t hlist]
          by_cases hex : ∃ (j : Nat) (oj : Oper), l[j]? = some oj ∧ oj.dst = some t
          · obtain ⟨j, oj, hj, hd⟩ := hex
            have hjl : j < l.length := (List.getElem?_eq_some_iff.1 hj).1
            obtain ⟨x, hx⟩ : ∃ x, (vs g)[j]? = some x := ⟨(vs g)[j]'(by rw [hlen]; exact hjl), by simp [hlen, hjl]⟩
            have hdj := hds oj (List.mem_of_getElem? hj) t hd
            rw [finalF_at l (vs g) a j oj x t hj hx hd hdj hB2, finalF_at l (vs g') a j oj x t hj (by rw [hsame j (hlist j oj hj hd)]; exact hx) hd hdj hB2]
          · have hno : ∀ oj ∈ l, oj.dst ≠ some t := fun oj ho' e' => by
              obtain ⟨j, hj⟩ := List.getElem?_of_mem ho'
              exact hex ⟨j, oj, hj, e'⟩
            rw [finalF_other t l _ a hno, finalF_other t l _ a hno]
      · have : (fun j => (listed.setIfInBounds i true).getD j false) = fun j => if j = i then true else listed.getD j false := funext hset
        rw [this]; exact hW'
    unfold wpOp
    rw [show l.toArray[i]? = some o from ho]
    have hw : Region.wanted o (yielded l.toArray a'.tmps) = true := by unfold Region.wanted; rw [hg']
    simp only [hw, if_true]
    left
    unfold Oper.wp
    rw [hex]
    rcases hstep i o hol g _ _ hW hL hdeps with ⟨v, w'', hrun, hR⟩ | ⟨v, w'', hrun, hdn, hR⟩ | ⟨f, args, w1, hrun, hC⟩
    · rw [hrun]
      exact hput v v w'' (fun _ _ => rfl) hR
    · rw [hrun]
      exact hput undef v w'' (fun d hd => by rw [hdn] at hd; cases hd) hR
    · rw [hrun]
      refine hC.mono ?_
      rintro e w'' ⟨v, rfl, hR⟩
      exact hput v v w'' (fun _ _ => rfl) hR
  · rintro listed a' w' ⟨hsz, hts, hdf, g, hfr, hW⟩ hr
    have hall := all_listed (by simpa using hsz) hb hr
    have hall' : ∀ i, i < l.length → listed.getD i false = true := by
      intro i hi
      have := hall i (by simpa using hi)
      have hl : i < listed.size := by omega
      rw [Array.getD_eq_getD_getElem?] at this ⊢
      simpa [hl] using this
    have heq : a' = finalF l (vs g) a := by
      have ht : a'.tmps = (finalF l (vs g) a).tmps := by
        apply Array.ext
        · rw [hts, finalF_size]
        · intro t h1 h2
          have := hfr t (fun j o hj _ => hall' j (List.getElem?_eq_some_iff.1 hj).1)
          simpa [Array.getD_eq_getD_getElem?, h1, h2] using this
      have hd : a'.defers = (finalF l (vs g) a).defers := by rw [hdf, finalF_defers]
      cases a'
      cases hF : finalF l (vs g) a
      rw [hF] at ht hd
      simp only at ht hd
      rw [ht, hd]
    rw [heq]
    exact hend _ _ _ hall' hW
  · refine ⟨by simp, rfl, rfl, g0, fun t ht => ?_, ?_⟩
    · refine (finalF_other t l (vs g0) a fun o ho e => ?_).symm
      obtain ⟨j, hj⟩ := List.getElem?_of_mem ho
      have := ht j o hj e
      rw [Array.getD_eq_getD_getElem?] at this
      simp [Array.getElem?_replicate] at this
      split at this <;> simp at this
    · have : (fun j => (Array.replicate l.toArray.size false).getD j false) = fun _ => false := by
        funext j
        rw [Array.getD_eq_getD_getElem?, Array.getElem?_replicate]
        split <;> rfl
      rw [this]
      exact h0
  · unfold unl
    exact Nat.le_trans List.countP_le_length (by simp)

theorem wp_region_genlX {γ : Type} {id : Nat} {l : List Oper} {a : Act} {F : γ → Act} {w : World} (vs : γ → List Value) (WI : γ → (Nat → Bool) → World → Prop) (g0 : γ)
    (hm : P.follows .mixedOrders = true) (hB : plainB l.toArray = true) (hlen : ∀ g, (vs g).length = l.length) (hF : ∀ g, finalF l (vs g) a = F g)
    (hds : (l.all fun o => match o.dst with | some d => decide (d < a.tmps.size) | none => true) = true)
    (h0 : WI g0 (fun _ => false) w.drew)
    (hstep : AllO (fun i o => ∀ g L w', WI g L w' → L i = false → (∀ e ∈ o.after, Region.binds .any e = true → L e.on = true) →
      DoingX P (F g) o w' fun v w'' => ∃ g', WI g' (fun j => if j = i then true else L j) w'' ∧ (∀ j, L j = true → (vs g')[j]? = (vs g)[j]?) ∧ (vs g')[i]? = some v) 0 l)
    (hend : ∀ g L w', (∀ i, i < l.length → L i = true) → WI g L w' → Q .normal (F g) w') :
    (Code.region id l.toArray true).wp P Q a w := by
  refine wp_region_genX vs WI g0 hm hB hlen (fun o ho d hd => ?_) h0 (fun i o ho g L w' => ?_) (fun g => by rw [hF g]; exact hend g)
  · have := List.all_eq_true.1 hds o ho
    rw [hd] at this
    simpa using this
  · have := hstep.get 0 l i o ho
    rw [Nat.zero_add] at this
    rw [hF g]
    exact this g L w'

end
end Go.Proofs.YtpapbnmacjoihaaDoor

namespace Go.Proofs.YtpapbnmacjoihaaDoor

section
variable {P : Program} {ops : Array Oper} {Q : Exit → Act → World → Prop}
def guardG (ops : Array Oper) (o : Oper) : Bool :=
  match o.guard with
  | none => true
  | some (j, _) => match ops[j]? with
    | some oj => match oj.dst with
      | some d => (List.range ops.size).all fun k => match ops[k]? with
        | some ok => ok.dst != some d || o.after.any (fun e => e.on == k && Region.binds .any e)
        | none => true
      | none => false
    | none => false
def plainG (ops : Array Oper) : Bool :=
  ops.all (fun o => guardG ops o && (match o.op with | .select .. => false | _ => true) &&
    o.op.operands.all (fun x => match x with
      | .tmp t => (List.range ops.size).all fun j => match ops[j]? with
        | some oj => oj.dst != some t || o.after.any (fun e => e.on == j && Region.binds .any e)
        | none => true
      | _ => true)) &&
  decide ((ops.toList.filterMap (·.dst)).Nodup) &&
  (List.range ops.size).all fun i => match ops[i]? with | some o => o.after.all (fun e => !Region.binds .any e || decide (e.on < i)) | none => true
/-- **A REGION THAT DRAWS, EACH OPERATION OF WHICH YIELDS ONE VALUE WHATEVER THE ORDER**, but for what hangs on γ (where a block has come to lie): WI says what the world is like when those have come up that are listed. -/
theorem wp_region_genG {γ : Type} {id : Nat} {l : List Oper} {a : Act} {w : World} (vs : γ → List Value) (WI : γ → (Nat → Bool) → World → Prop) (g0 : γ)
    (hm : P.follows .mixedOrders = true) (hB : plainG l.toArray = true) (hlen : ∀ g, (vs g).length = l.length) (hG : ∀ (g : γ) (i : Nat) (o : Oper) (j : Nat) (b : Bool), l[i]? = some o → o.guard = some (j, b) → (vs g)[j]? = some (Value.bool b))
    (hds : ∀ o ∈ l, ∀ d, o.dst = some d → d < a.tmps.size)
    (h0 : WI g0 (fun _ => false) w.drew)
    (hstep : ∀ i o, l[i]? = some o → ∀ g L w', WI g L w' → L i = false → (∀ e ∈ o.after, Region.binds .any e = true → L e.on = true) →
      DoingX P (finalF l (vs g) a) o w' fun v w'' => ∃ g', WI g' (fun j => if j = i then true else L j) w'' ∧ (∀ j, L j = true → (vs g')[j]? = (vs g)[j]?) ∧ (vs g')[i]? = some v)
    (hend : ∀ g L w', (∀ i, i < l.length → L i = true) → WI g L w' → Q .normal (finalF l (vs g) a) w') :
    (Code.region id l.toArray true).wp P Q a w := by
  simp only [plainG, Bool.and_eq_true, decide_eq_true_eq] at hB
  obtain ⟨⟨hB1, hB2⟩, hB3⟩ := hB
  have hb : ∀ i o, l.toArray[i]? = some o → ∀ e ∈ o.after, Region.binds .any e = true → e.on < i := by
    intro i o ho e he hbd
    have hi : i < l.toArray.size := (Array.getElem?_eq_some_iff.1 ho).1
    have := List.all_eq_true.1 hB3 i (by simpa using hi)
    rw [ho] at this
    have := Array.all_eq_true_iff_forall_mem.1 this e he
    simpa [hbd] using this
  refine wp_region_any hm ?_
  refine wpAny_inv (fun listed a' w' => listed.size = l.length ∧ a'.tmps.size = a.tmps.size ∧ a'.defers = a.defers ∧ ∃ g,
      (∀ t, (∀ j o, l[j]? = some o → o.dst = some t → listed.getD j false = true) → a'.tmps.getD t undef = (finalF l (vs g) a).tmps.getD t undef) ∧ WI g (fun j => listed.getD j false) w') ?_ ?_ _ _ _ _ ?_ ?_
  · rintro listed a' w' i ⟨hsz, hts, hdf, g, hfr, hW⟩ hi
    rw [mem_ready] at hi
    obtain ⟨hi0, o, ho, hdeps⟩ := hi
    have hol : l[i]? = some o := by simpa using ho
    have hil : i < l.length := (List.getElem?_eq_some_iff.1 hol).1
    have hmem : o ∈ l.toArray := Array.mem_of_getElem? ho
    have hp := Array.all_eq_true_iff_forall_mem.1 hB1 o hmem
    simp only [Bool.and_eq_true] at hp
    obtain ⟨⟨hg, hsel⟩, hopd⟩ := hp
    have hL : listed.getD i false = false := by
      have : i < listed.size := by omega
      rw [Array.getD_eq_getD_getElem?] at hi0 ⊢
      simpa [this] using hi0
    have hev : ∀ x ∈ o.op.operands, a'.eval x = (finalF l (vs g) a).eval x := by
      intro x hx
      cases x with
      | tmp t =>
        show a'.tmps.getD t undef = (finalF l (vs g) a).tmps.getD t undef
        refine hfr t fun j oj hj hd => ?_
        have h1 := Array.all_eq_true_iff_forall_mem.1 hopd (.tmp t) hx
        simp only at h1
        have hjl : j < l.length := (List.getElem?_eq_some_iff.1 hj).1
        have h2 := List.all_eq_true.1 h1 j (by simpa using hjl)
        rw [show l.toArray[j]? = some oj by simpa using hj] at h2
        simp only [hd, bne_self_eq_false, Bool.false_or] at h2
        rw [← Array.any_toList] at h2
        obtain ⟨e, he', hee⟩ := List.any_eq_true.1 h2
        have he := Array.mem_toList_iff.1 he'
        simp only [Bool.and_eq_true, beq_iff_eq] at hee
        rw [← hee.1]
        exact hdeps e he hee.2
      | const v => rfl
      | global g => rfl
      | func g => rfl
    have hns : ∀ cs b, o.op ≠ .select cs b := by
      intro cs b e
      rw [e] at hsel
      cases hsel
    have hex : execOp a'.eval o = execOp (finalF l (vs g) a).eval o := execOp_congr o hns hev
    have hset : ∀ j, (listed.setIfInBounds i true).getD j false = if j = i then true else listed.getD j false := by
      intro j
      rw [Array.getD_eq_getD_getElem?, Array.getD_eq_getD_getElem?, Array.getElem?_setIfInBounds]
      by_cases e : j = i
      · subst e; simp [show j < listed.size by omega]
      · rw [if_neg (fun h => e h.symm), if_neg e]
    have hput : ∀ u v w'', (∀ d, o.dst = some d → u = v) → (∃ g', WI g' (fun j => if j = i then true else listed.getD j false) w'' ∧ (∀ j, listed.getD j false = true → (vs g')[j]? = (vs g)[j]?) ∧ (vs g')[i]? = some v) →
        (listed.setIfInBounds i true).size = l.length ∧ (a'.put o.dst u).tmps.size = a.tmps.size ∧ (a'.put o.dst u).defers = a.defers ∧ ∃ g,
        (∀ t, (∀ j o, l[j]? = some o → o.dst = some t → (listed.setIfInBounds i true).getD j false = true) → (a'.put o.dst u).tmps.getD t undef = (finalF l (vs g) a).tmps.getD t undef) ∧ WI g (fun j => (listed.setIfInBounds i true).getD j false) w'' := by
      intro u v w'' hv ⟨g', hW', hsame, hvi⟩
      refine ⟨by simpa using hsz, by rw [put_size]; exact hts, by rw [put_defers']; exact hdf, g', fun t ht => ?_, ?_⟩
      · by_cases e : o.dst = some t
        · rw [e, put_same _ _ _ (by rw [hts]; exact hds o (List.mem_of_getElem? hol) t e), hv t e]
          exact (finalF_at l (vs g') a i o v t hol hvi e (hds o (List.mem_of_getElem? hol) t e) hB2).symm
        · rw [put_other _ _ _ _ e]
          have hlist : ∀ j oj, l[j]? = some oj → oj.dst = some t → listed.getD j false = true := by
            intro j oj hj hd
            have := ht j oj hj hd
            rw [hset] at this
            by_cases e2 : j = i
            · subst e2; rw [hol] at hj; cases hj; exact absurd hd e
            · rwa [if_neg e2] at this
          rw [hfr t hlist]
          by_cases hex : ∃ (j : Nat) (oj : Oper), l[j]? = some oj ∧ oj.dst = some t
          · obtain ⟨j, oj, hj, hd⟩ := hex
            have hjl : j < l.length := (List.getElem?_eq_some_iff.1 hj).1
            obtain ⟨x, hx⟩ : ∃ x, (vs g)[j]? = some x := ⟨(vs g)[j]'(by rw [hlen]; exact hjl), by simp [hlen, hjl]⟩
            have hdj := hds oj (List.mem_of_getElem? hj) t hd
            rw [finalF_at l (vs g) a j oj x t hj hx hd hdj hB2, finalF_at l (vs g') a j oj x t hj (by rw [hsame j (hlist j oj hj hd)]; exact hx) hd hdj hB2]
          · have hno : ∀ oj ∈ l, oj.dst ≠ some t := fun oj ho' e' => by
              obtain ⟨j, hj⟩ := List.getElem?_of_mem ho'
              exact hex ⟨j, oj, hj, e'⟩
            rw [finalF_other t l _ a hno, finalF_other t l _ a hno]
      · have : (fun j => (listed.setIfInBounds i true).getD j false) = fun j => if j = i then true else listed.getD j false := funext hset
        rw [this]; exact hW'
    unfold wpOp
    rw [show l.toArray[i]? = some o from ho]
    have hw : Region.wanted o (yielded l.toArray a'.tmps) = true := by
      unfold Region.wanted
      cases hgd : o.guard with
      | none => rfl
      | some jb =>
        obtain ⟨j, bb⟩ := jb
        have hv := hG g i o j bb hol hgd
        unfold guardG at hg
        rw [hgd] at hg
        simp only at hg
        cases hoj : l.toArray[j]? with
        | none => rw [hoj] at hg; cases hg
        | some oj =>
          rw [hoj] at hg
          simp only at hg
          cases hdj : oj.dst with
          | none => rw [hdj] at hg; cases hg
          | some d =>
            rw [hdj] at hg
            simp only at hg
            have hlj : l[j]? = some oj := by simpa using hoj
            have hdl : d < a.tmps.size := hds oj (List.mem_of_getElem? hlj) d hdj
            have hval : a'.tmps.getD d undef = .bool bb := by
              rw [hfr d (fun k ok hk hd => by
                have hkl : k < l.length := (List.getElem?_eq_some_iff.1 hk).1
                have h2 := List.all_eq_true.1 hg k (by simpa using hkl)
                rw [show l.toArray[k]? = some ok by simpa using hk] at h2
                simp only [hd, bne_self_eq_false, Bool.false_or] at h2
                rw [← Array.any_toList] at h2
                obtain ⟨e, he', hee⟩ := List.any_eq_true.1 h2
                have he := Array.mem_toList_iff.1 he'
                simp only [Bool.and_eq_true, beq_iff_eq] at hee
                rw [← hee.1]
                exact hdeps e he hee.2)]
              exact finalF_at l (vs g) a j oj _ d hlj hv hdj hdl hB2
            have hy : yielded l.toArray a'.tmps j = some bb := by
              have hds2 : d < a'.tmps.size := by rw [hts]; exact hdl
              rw [Array.getD_eq_getD_getElem?, Array.getElem?_eq_getElem hds2] at hval
              simp only [Option.getD_some] at hval
              simp only [yielded, hoj, Option.bind_some, hdj]
              rw [Array.getElem?_eq_getElem hds2, hval]
            show (yielded l.toArray a'.tmps j == some bb) = true
            rw [hy]
            simp
    simp only [hw, if_true]
    left
    unfold Oper.wp
    rw [hex]
    rcases hstep i o hol g _ _ hW hL hdeps with ⟨v, w'', hrun, hR⟩ | ⟨v, w'', hrun, hdn, hR⟩ | ⟨f, args, w1, hrun, hC⟩
    · rw [hrun]
      exact hput v v w'' (fun _ _ => rfl) hR
    · rw [hrun]
      exact hput undef v w'' (fun d hd => by rw [hdn] at hd; cases hd) hR
    · rw [hrun]
      refine hC.mono ?_
      rintro e w'' ⟨v, rfl, hR⟩
      exact hput v v w'' (fun _ _ => rfl) hR
  · rintro listed a' w' ⟨hsz, hts, hdf, g, hfr, hW⟩ hr
    have hall := all_listed (by simpa using hsz) hb hr
    have hall' : ∀ i, i < l.length → listed.getD i false = true := by
      intro i hi
      have := hall i (by simpa using hi)
      have hl : i < listed.size := by omega
      rw [Array.getD_eq_getD_getElem?] at this ⊢
      simpa [hl] using this
    have heq : a' = finalF l (vs g) a := by
      have ht : a'.tmps = (finalF l (vs g) a).tmps := by
        apply Array.ext
        · rw [hts, finalF_size]
        · intro t h1 h2
          have := hfr t (fun j o hj _ => hall' j (List.getElem?_eq_some_iff.1 hj).1)
          simpa [Array.getD_eq_getD_getElem?, h1, h2] using this
      have hd : a'.defers = (finalF l (vs g) a).defers := by rw [hdf, finalF_defers]
      cases a'
      cases hF : finalF l (vs g) a
      rw [hF] at ht hd
      simp only at ht hd
      rw [ht, hd]
    rw [heq]
    exact hend _ _ _ hall' hW
  · refine ⟨by simp, rfl, rfl, g0, fun t ht => ?_, ?_⟩
    · refine (finalF_other t l (vs g0) a fun o ho e => ?_).symm
      obtain ⟨j, hj⟩ := List.getElem?_of_mem ho
      have := ht j o hj e
      rw [Array.getD_eq_getD_getElem?] at this
      simp [Array.getElem?_replicate] at this
      split at this <;> simp at this
    · have : (fun j => (Array.replicate l.toArray.size false).getD j false) = fun _ => false := by
        funext j
        rw [Array.getD_eq_getD_getElem?, Array.getElem?_replicate]
        split <;> rfl
      rw [this]
      exact h0
  · unfold unl
    exact Nat.le_trans List.countP_le_length (by simp)

theorem wp_region_genlG {γ : Type} {id : Nat} {l : List Oper} {a : Act} {F : γ → Act} {w : World} (vs : γ → List Value) (WI : γ → (Nat → Bool) → World → Prop) (g0 : γ)
    (hm : P.follows .mixedOrders = true) (hB : plainG l.toArray = true) (hlen : ∀ g, (vs g).length = l.length) (hF : ∀ g, finalF l (vs g) a = F g)
    (hG : ∀ g, AllO (fun _ o => match o.guard with | none => True | some (j, b) => (vs g)[j]? = some (.bool b)) 0 l)
    (hds : (l.all fun o => match o.dst with | some d => decide (d < a.tmps.size) | none => true) = true)
    (h0 : WI g0 (fun _ => false) w.drew)
    (hstep : AllO (fun i o => ∀ g L w', WI g L w' → L i = false → (∀ e ∈ o.after, Region.binds .any e = true → L e.on = true) →
      DoingX P (F g) o w' fun v w'' => ∃ g', WI g' (fun j => if j = i then true else L j) w'' ∧ (∀ j, L j = true → (vs g')[j]? = (vs g)[j]?) ∧ (vs g')[i]? = some v) 0 l)
    (hend : ∀ g L w', (∀ i, i < l.length → L i = true) → WI g L w' → Q .normal (F g) w') :
    (Code.region id l.toArray true).wp P Q a w := by
  refine wp_region_genG vs WI g0 hm hB hlen (fun g i o j b ho hgd => ?_) (fun o ho d hd => ?_) h0 (fun i o ho g L w' => ?_) (fun g => by rw [hF g]; exact hend g)
  · have := (hG g).get 0 l i o ho
    rw [hgd] at this
    exact this
  · have := List.all_eq_true.1 hds o ho
    rw [hd] at this
    simpa using this
  · have := hstep.get 0 l i o ho
    rw [Nat.zero_add] at this
    rw [hF g]
    exact this g L w'

end
end Go.Proofs.YtpapbnmacjoihaaDoor
