/- A region that draws its order: an invariant over what has come up. No program in it. -/
import Derived.Orders
import Derived.WalkKit
import Derived.WideLaws
namespace Go.Proofs.YtpapbnmacjoihaaDoor

section
variable {P : Program} {ops : Array Oper} {Q : Exit → Act → World → Prop}
def unl (listed : Array Bool) : Nat := listed.toList.countP (fun b => !b)
theorem countP_set (l : List Bool) (i : Nat) (h : l[i]? = some false) : (l.set i true).countP (fun b => !b) + 1 = l.countP (fun b => !b) := by
  induction l generalizing i with
  | nil => simp at h
  | cons x l ih =>
    cases i with
    | zero => simp at h; subst h; simp
    | succ i =>
      simp at h
      have := ih i h
      simp only [List.set_cons_succ, List.countP_cons]
      omega
theorem unl_set {listed : Array Bool} {i : Nat} (h : listed.getD i true = false) : unl (listed.setIfInBounds i true) + 1 = unl listed := by
  unfold unl
  rw [Array.toList_setIfInBounds]
  refine countP_set _ _ ?_
  rw [Array.getElem?_toList]
  rw [Array.getD_eq_getD_getElem?] at h
  cases hh : listed[i]? with
  | none => rw [hh] at h; cases h
  | some b => rw [hh] at h; simp at h; rw [h]
theorem wpAny_inv (Inv : Array Bool → Act → World → Prop)
    (hstep : ∀ listed a w i, Inv listed a w → i ∈ Region.ready .any ops listed → wpOp P ops Q i (Inv (listed.setIfInBounds i true)) a w)
    (hend : ∀ listed a w, Inv listed a w → Region.ready .any ops listed = [] → Q .normal a w) :
    ∀ fuel listed a w, Inv listed a w → unl listed ≤ fuel → wpAny P .any ops Q fuel listed a w := by
  intro fuel
  induction fuel with
  | zero =>
    intro listed a w hI hu
    have hr : Region.ready .any ops listed = [] := by
      rw [List.eq_nil_iff_forall_not_mem]
      intro i hi
      rw [mem_ready] at hi
      have := unl_set hi.1
      omega
    exact ⟨hr, hend _ _ _ hI hr⟩
  | succ fuel ih =>
    intro listed a w hI hu
    refine ⟨hend _ _ _ hI, fun i hi => ?_⟩
    refine wpOp_mono (fun a' w' h => ih _ _ _ h ?_) (hstep _ _ _ _ hI hi)
    rw [mem_ready] at hi
    have := unl_set hi.1
    omega

/-- The frame when all has come up: vs i is what operation i yields. -/
def finalF : List Oper → List Value → Act → Act
  | o :: os, v :: vs, a => finalF os vs (a.put o.dst v)
  | _, _, a => a
theorem put_size (a : Act) (d : Option Tmp) (v : Value) : (a.put d v).tmps.size = a.tmps.size := by cases d <;> simp [Act.put]
theorem put_other (a : Act) (d : Option Tmp) (v : Value) (t : Nat) (h : d ≠ some t) : (a.put d v).tmps.getD t undef = a.tmps.getD t undef := by
  cases d with
  | none => rfl
  | some d =>
    have : d ≠ t := fun e => h (by rw [e])
    simp [Act.put, Array.getD_eq_getD_getElem?, Array.getElem?_setIfInBounds, this]
theorem put_same (a : Act) (t : Nat) (v : Value) (h : t < a.tmps.size) : (a.put (some t) v).tmps.getD t undef = v := by
  simp [Act.put, Array.getD_eq_getD_getElem?, Array.getElem?_setIfInBounds, h]
theorem put_defers' (a : Act) (d : Option Tmp) (v : Value) : (a.put d v).defers = a.defers := by cases d <;> rfl
theorem finalF_size : ∀ (os : List Oper) (vs : List Value) (a : Act), (finalF os vs a).tmps.size = a.tmps.size
  | [], _, _ => by simp [finalF]
  | _ :: _, [], _ => by simp [finalF]
  | o :: os, v :: vs, a => by rw [finalF, finalF_size os vs, put_size]
theorem finalF_defers : ∀ (os : List Oper) (vs : List Value) (a : Act), (finalF os vs a).defers = a.defers
  | [], _, _ => by simp [finalF]
  | _ :: _, [], _ => by simp [finalF]
  | o :: os, v :: vs, a => by rw [finalF, finalF_defers os vs, put_defers']
theorem finalF_other (t : Nat) : ∀ (os : List Oper) (vs : List Value) (a : Act), (∀ o ∈ os, o.dst ≠ some t) → (finalF os vs a).tmps.getD t undef = a.tmps.getD t undef
  | [], _, _, _ => by simp [finalF]
  | _ :: _, [], _, _ => by simp [finalF]
  | o :: os, v :: vs, a, h => by
    rw [finalF, finalF_other t os vs _ (fun o' ho' => h o' (List.mem_cons_of_mem _ ho')), put_other _ _ _ _ (h o (List.mem_cons_self))]
theorem finalF_at : ∀ (os : List Oper) (vs : List Value) (a : Act) (i : Nat) (o : Oper) (v : Value) (t : Nat), os[i]? = some o → vs[i]? = some v → o.dst = some t → t < a.tmps.size →
    (os.filterMap (·.dst)).Nodup → (finalF os vs a).tmps.getD t undef = v
  | [], _, _, _, _, _, _, h, _, _, _, _ => by simp at h
  | _ :: _, [], _, _, _, _, _, _, h, _, _, _ => by simp at h
  | o' :: os, v' :: vs, a, 0, o, v, t, ho, hv, hd, ht, hn => by
    simp at ho hv; subst ho hv
    rw [finalF, finalF_other t os vs, hd, put_same _ _ _ ht]
    intro x hx e
    rw [List.filterMap_cons, hd] at hn
    have := (List.nodup_cons.1 hn).1
    exact this (List.mem_filterMap.2 ⟨x, hx, e⟩)
  | o' :: os, v' :: vs, a, i + 1, o, v, t, ho, hv, hd, ht, hn => by
    simp at ho hv
    rw [finalF]
    refine finalF_at os vs _ i o v t ho hv hd (by rw [put_size]; exact ht) ?_
    rw [List.filterMap_cons] at hn
    cases h : o'.dst with
    | none => rw [h] at hn; exact hn
    | some d => rw [h] at hn; exact (List.nodup_cons.1 hn).2

/-- What the region's operations must be like: no guard, no select, each slot written once; what an operation reads has been written by one that it waits for, or by none. -/
def plainB (ops : Array Oper) : Bool :=
  ops.all (fun o => o.guard.isNone && (match o.op with | .select .. => false | _ => true) &&
    o.op.operands.all (fun x => match x with
      | .tmp t => (List.range ops.size).all fun j => match ops[j]? with
        | some oj => oj.dst != some t || o.after.any (fun e => e.on == j && Region.binds .any e)
        | none => true
      | _ => true)) &&
  decide ((ops.toList.filterMap (·.dst)).Nodup) &&
  (List.range ops.size).all fun i => match ops[i]? with | some o => o.after.all (fun e => !Region.binds .any e || decide (e.on < i)) | none => true

theorem all_listed {listed : Array Bool} (hsz : listed.size = ops.size) (hb : ∀ i o, ops[i]? = some o → ∀ e ∈ o.after, Region.binds .any e = true → e.on < i) (hr : Region.ready .any ops listed = []) :
    ∀ i, i < ops.size → listed.getD i true = true := by
  intro i
  induction i using Nat.strongRecOn with
  | ind i ih =>
    intro hi
    cases h : listed.getD i true with
    | true => rfl
    | false =>
      exfalso
      have : i ∈ Region.ready .any ops listed := by
        rw [mem_ready]
        refine ⟨h, ops[i], by simp [hi], fun e he hbd => ?_⟩
        have hlt := hb i ops[i] (by simp [hi]) e he hbd
        have := ih e.on hlt (by omega)
        rw [Array.getD_eq_getD_getElem?] at this ⊢
        have hl : e.on < listed.size := by omega
        simpa [hl] using this
      rw [hr] at this
      cases this

/-- **A REGION THAT DRAWS, EACH OPERATION OF WHICH YIELDS ONE VALUE WHATEVER THE ORDER**: WI says what the world is like when those have come up that are listed. -/
theorem wp_region_final {id : Nat} {l : List Oper} {a : Act} {w : World} (vs : List Value) (WI : (Nat → Bool) → World → Prop)
    (hm : P.follows .mixedOrders = true) (hB : plainB l.toArray = true) (hlen : vs.length = l.length)
    (hds : ∀ o ∈ l, ∀ d, o.dst = some d → d < a.tmps.size)
    (h0 : WI (fun _ => false) w.drew)
    (hstep : ∀ i o v, l[i]? = some o → vs[i]? = some v → ∀ L w', WI L w' → L i = false → (∀ e ∈ o.after, Region.binds .any e = true → L e.on = true) →
      ∃ w'', ((execOp (finalF l vs a).eval o).run P w' = .ok (.value v) w'' ∨ ((execOp (finalF l vs a).eval o).run P w' = .ok .skip w'' ∧ o.dst = none)) ∧ WI (fun j => if j = i then true else L j) w'')
    (hend : ∀ L w', (∀ i, i < l.length → L i = true) → WI L w' → Q .normal (finalF l vs a) w') :
    (Code.region id l.toArray true).wp P Q a w := by
  simp only [plainB, Bool.and_eq_true, decide_eq_true_eq] at hB
  obtain ⟨⟨hB1, hB2⟩, hB3⟩ := hB
  have hb : ∀ i o, l.toArray[i]? = some o → ∀ e ∈ o.after, Region.binds .any e = true → e.on < i := by
    intro i o ho e he hbd
    have hi : i < l.toArray.size := (Array.getElem?_eq_some_iff.1 ho).1
    have := List.all_eq_true.1 hB3 i (by simpa using hi)
    rw [ho] at this
    have := Array.all_eq_true_iff_forall_mem.1 this e he
    simpa [hbd] using this
  refine wp_region_any hm ?_
  refine wpAny_inv (fun listed a' w' => listed.size = l.length ∧ a'.tmps.size = a.tmps.size ∧ a'.defers = a.defers ∧
      (∀ t, (∀ j o, l[j]? = some o → o.dst = some t → listed.getD j false = true) → a'.tmps.getD t undef = (finalF l vs a).tmps.getD t undef) ∧ WI (fun j => listed.getD j false) w') ?_ ?_ _ _ _ _ ?_ ?_
  · rintro listed a' w' i ⟨hsz, hts, hdf, hfr, hW⟩ hi
    rw [mem_ready] at hi
    obtain ⟨hi0, o, ho, hdeps⟩ := hi
    have hol : l[i]? = some o := by simpa using ho
    have hil : i < l.length := (List.getElem?_eq_some_iff.1 hol).1
    have hmem : o ∈ l.toArray := Array.mem_of_getElem? ho
    have hp := Array.all_eq_true_iff_forall_mem.1 hB1 o hmem
    simp only [Bool.and_eq_true] at hp
    obtain ⟨⟨hg, hsel⟩, hopd⟩ := hp
    have hg' : o.guard = none := by simpa using hg
    have hL : listed.getD i false = false := by
      have : i < listed.size := by omega
      rw [Array.getD_eq_getD_getElem?] at hi0 ⊢
      simpa [this] using hi0
    have hev : ∀ x ∈ o.op.operands, a'.eval x = (finalF l vs a).eval x := by
      intro x hx
      cases x with
      | tmp t =>
        show a'.tmps.getD t undef = (finalF l vs a).tmps.getD t undef
        refine hfr t fun j oj hj hd => ?_
        have h1 := Array.all_eq_true_iff_forall_mem.1 hopd (.tmp t) hx
        simp only at h1
        have hjl : j < l.length := (List.getElem?_eq_some_iff.1 hj).1
        have h2 := List.all_eq_true.1 h1 j (by simpa using hjl)
        rw [show l.toArray[j]? = some oj by simpa using hj] at h2
        simp only [hd, bne_self_eq_false, Bool.false_or] at h2
        rw [← Array.any_toList] at h2
        obtain ⟨e, he', hee⟩ := List.any_eq_true.1 h2
        have he := Array.mem_toList_iff.1 he'
        simp only [Bool.and_eq_true, beq_iff_eq] at hee
        rw [← hee.1]
        exact hdeps e he hee.2
      | const v => rfl
      | global g => rfl
      | func g => rfl
    have hns : ∀ cs b, o.op ≠ .select cs b := by
      intro cs b e
      rw [e] at hsel
      cases hsel
    have hex : execOp a'.eval o = execOp (finalF l vs a).eval o := execOp_congr o hns hev
    have hvi : i < vs.length := by omega
    obtain ⟨w'', hrun, hW''⟩ := hstep i o vs[i] hol (by simp [hvi]) _ _ hW hL hdeps
    have hset : ∀ j, (listed.setIfInBounds i true).getD j false = if j = i then true else listed.getD j false := by
      intro j
      rw [Array.getD_eq_getD_getElem?, Array.getD_eq_getD_getElem?, Array.getElem?_setIfInBounds]
      by_cases e : j = i
      · subst e; simp [show j < listed.size by omega]
      · rw [if_neg (fun h => e h.symm), if_neg e]
    have hput : ∀ v, (∀ d, o.dst = some d → v = vs[i]) → (listed.setIfInBounds i true).size = l.length ∧ (a'.put o.dst v).tmps.size = a.tmps.size ∧ (a'.put o.dst v).defers = a.defers ∧
        (∀ t, (∀ j o, l[j]? = some o → o.dst = some t → (listed.setIfInBounds i true).getD j false = true) → (a'.put o.dst v).tmps.getD t undef = (finalF l vs a).tmps.getD t undef) ∧ WI (fun j => (listed.setIfInBounds i true).getD j false) w'' := by
      intro v hv
      refine ⟨by simpa using hsz, by rw [put_size]; exact hts, by rw [put_defers']; exact hdf, fun t ht => ?_, ?_⟩
      · by_cases e : o.dst = some t
        · rw [e, put_same _ _ _ (by rw [hts]; exact hds o (List.mem_of_getElem? hol) t e), hv t e]
          exact (finalF_at l vs a i o vs[i] t hol (by simp [hvi]) e (hds o (List.mem_of_getElem? hol) t e) hB2).symm
        · rw [put_other _ _ _ _ e]
          refine hfr t fun j oj hj hd => ?_
          have := ht j oj hj hd
          rw [hset] at this
          by_cases e2 : j = i
          · subst e2; rw [hol] at hj; cases hj; exact absurd hd e
          · rwa [if_neg e2] at this
      · have : (fun j => (listed.setIfInBounds i true).getD j false) = fun j => if j = i then true else listed.getD j false := funext hset
        rw [this]; exact hW''
    unfold wpOp
    rw [show l.toArray[i]? = some o from ho]
    have hw : Region.wanted o (yielded l.toArray a'.tmps) = true := by unfold Region.wanted; rw [hg']
    simp only [hw, if_true]
    left
    unfold Oper.wp
    rw [hex]
    rcases hrun with hrun | ⟨hrun, hdn⟩
    · rw [hrun]
      exact hput _ (fun _ _ => rfl)
    · rw [hrun]
      exact hput _ (fun d hd => by rw [hdn] at hd; cases hd)
  · rintro listed a' w' ⟨hsz, hts, hdf, hfr, hW⟩ hr
    have hall := all_listed (by simpa using hsz) hb hr
    have hall' : ∀ i, i < l.length → listed.getD i false = true := by
      intro i hi
      have := hall i (by simpa using hi)
      have hl : i < listed.size := by omega
      rw [Array.getD_eq_getD_getElem?] at this ⊢
      simpa [hl] using this
    have heq : a' = finalF l vs a := by
      have ht : a'.tmps = (finalF l vs a).tmps := by
        apply Array.ext
        · rw [hts, finalF_size]
        · intro t h1 h2
          have := hfr t (fun j o hj _ => hall' j (List.getElem?_eq_some_iff.1 hj).1)
          simpa [Array.getD_eq_getD_getElem?, h1, h2] using this
      have hd : a'.defers = (finalF l vs a).defers := by rw [hdf, finalF_defers]
      cases a'
      cases hF : finalF l vs a
      rw [hF] at ht hd
      simp only at ht hd
      rw [ht, hd]
    rw [heq]
    exact hend _ _ hall' hW
  · refine ⟨by simp, rfl, rfl, fun t ht => ?_, ?_⟩
    · refine (finalF_other t l vs a fun o ho e => ?_).symm
      obtain ⟨j, hj⟩ := List.getElem?_of_mem ho
      have := ht j o hj e
      rw [Array.getD_eq_getD_getElem?] at this
      simp [Array.getElem?_replicate] at this
      split at this <;> simp at this
    · have : (fun j => (Array.replicate l.toArray.size false).getD j false) = fun _ => false := by
        funext j
        rw [Array.getD_eq_getD_getElem?, Array.getElem?_replicate]
        split <;> rfl
      rw [this]
      exact h0
  · unfold unl
    exact Nat.le_trans List.countP_le_length (by simp)

/-- What operation o does in the frame F and the world w: it comes to the value v (or to none, or calls what hands v back) in a world that R holds of. -/
def Doing (P : Program) (F : Act) (o : Oper) (w : World) (R : Value → World → Prop) : Prop :=
  (∃ v w', (execOp F.eval o).run P w = .ok (.value v) w' ∧ R v w') ∨
  (∃ v w', (execOp F.eval o).run P w = .ok .skip w' ∧ o.dst = none ∧ R v w') ∨
  ∃ f args w1 v, (execOp F.eval o).run P w = .ok (.enter f args) w1 ∧ Calls P f args w1 fun e w' => e = .returned v ∧ R v w'

/-- **A REGION THAT DRAWS, EACH OPERATION OF WHICH YIELDS ONE VALUE WHATEVER THE ORDER**, but for what hangs on γ (where a block has come to lie): WI says what the world is like when those have come up that are listed. -/
theorem wp_region_gen {γ : Type} {id : Nat} {l : List Oper} {a : Act} {w : World} (vs : γ → List Value) (WI : γ → (Nat → Bool) → World → Prop) (g0 : γ)
    (hm : P.follows .mixedOrders = true) (hB : plainB l.toArray = true) (hlen : ∀ g, (vs g).length = l.length)
    (hds : ∀ o ∈ l, ∀ d, o.dst = some d → d < a.tmps.size)
    (h0 : WI g0 (fun _ => false) w.drew)
    (hstep : ∀ i o, l[i]? = some o → ∀ g L w', WI g L w' → L i = false → (∀ e ∈ o.after, Region.binds .any e = true → L e.on = true) →
      Doing P (finalF l (vs g) a) o w' fun v w'' => ∃ g', WI g' (fun j => if j = i then true else L j) w'' ∧ (∀ j, L j = true → (vs g')[j]? = (vs g)[j]?) ∧ (vs g')[i]? = some v)
    (hend : ∀ g L w', (∀ i, i < l.length → L i = true) → WI g L w' → Q .normal (finalF l (vs g) a) w') :
    (Code.region id l.toArray true).wp P Q a w := by
  simp only [plainB, Bool.and_eq_true, decide_eq_true_eq] at hB
  obtain ⟨⟨hB1, hB2⟩, hB3⟩ := hB
  have hb : ∀ i o, l.toArray[i]? = some o → ∀ e ∈ o.after, Region.binds .any e = true → e.on < i := by
    intro i o ho e he hbd
    have hi : i < l.toArray.size := (Array.getElem?_eq_some_iff.1 ho).1
    have := List.all_eq_true.1 hB3 i (by simpa using hi)
    rw [ho] at this
    have := Array.all_eq_true_iff_forall_mem.1 this e he
    simpa [hbd] using this
  refine wp_region_any hm ?_
  refine wpAny_inv (fun listed a' w' => listed.size = l.length ∧ a'.tmps.size = a.tmps.size ∧ a'.defers = a.defers ∧ ∃ g,
      (∀ t, (∀ j o, l[j]? = some o → o.dst = some t → listed.getD j false = true) → a'.tmps.getD t undef = (finalF l (vs g) a).tmps.getD t undef) ∧ WI g (fun j => listed.getD j false) w') ?_ ?_ _ _ _ _ ?_ ?_
  · rintro listed a' w' i ⟨hsz, hts, hdf, g, hfr, hW⟩ hi
    rw [mem_ready] at hi
    obtain ⟨hi0, o, ho, hdeps⟩ := hi
    have hol : l[i]? = some o := by simpa using ho
    have hil : i < l.length := (List.getElem?_eq_some_iff.1 hol).1
    have hmem : o ∈ l.toArray := Array.mem_of_getElem? ho
    have hp := Array.all_eq_true_iff_forall_mem.1 hB1 o hmem
    simp only [Bool.and_eq_true] at hp
    obtain ⟨⟨hg, hsel⟩, hopd⟩ := hp
    have hg' : o.guard = none := by simpa using hg
    have hL : listed.getD i false = false := by
      have : i < listed.size := by omega
      rw [Array.getD_eq_getD_getElem?] at hi0 ⊢
      simpa [this] using hi0
    have hev : ∀ x ∈ o.op.operands, a'.eval x = (finalF l (vs g) a).eval x := by
      intro x hx
      cases x with
      | tmp t =>
        show a'.tmps.getD t undef = (finalF l (vs g) a).tmps.getD t undef
        refine hfr t fun j oj hj hd => ?_
        have h1 := Array.all_eq_true_iff_forall_mem.1 hopd (.tmp t) hx
        simp only at h1
        have hjl : j < l.length := (List.getElem?_eq_some_iff.1 hj).1
        have h2 := List.all_eq_true.1 h1 j (by simpa using hjl)
        rw [show l.toArray[j]? = some oj by simpa using hj] at h2
        simp only [hd, bne_self_eq_false, Bool.false_or] at h2
        rw [← Array.any_toList] at h2
        obtain ⟨e, he', hee⟩ := List.any_eq_true.1 h2
        have he := Array.mem_toList_iff.1 he'
        simp only [Bool.and_eq_true, beq_iff_eq] at hee
        rw [← hee.1]
        exact hdeps e he hee.2
      | const v => rfl
      | global g => rfl
      | func g => rfl
    have hns : ∀ cs b, o.op ≠ .select cs b := by
      intro cs b e
      rw [e] at hsel
      cases hsel
    have hex : execOp a'.eval o = execOp (finalF l (vs g) a).eval o := execOp_congr o hns hev
    have hset : ∀ j, (listed.setIfInBounds i true).getD j false = if j = i then true else listed.getD j false := by
      intro j
      rw [Array.getD_eq_getD_getElem?, Array.getD_eq_getD_getElem?, Array.getElem?_setIfInBounds]
      by_cases e : j = i
      · subst e; simp [show j < listed.size by omega]
      · rw [if_neg (fun h => e h.symm), if_neg e]
    have hput : ∀ u v w'', (∀ d, o.dst = some d → u = v) → (∃ g', WI g' (fun j => if j = i then true else listed.getD j false) w'' ∧ (∀ j, listed.getD j false = true → (vs g')[j]? = (vs g)[j]?) ∧ (vs g')[i]? = some v) →
        (listed.setIfInBounds i true).size = l.length ∧ (a'.put o.dst u).tmps.size = a.tmps.size ∧ (a'.put o.dst u).defers = a.defers ∧ ∃ g,
        (∀ t, (∀ j o, l[j]? = some o → o.dst = some t → (listed.setIfInBounds i true).getD j false = true) → (a'.put o.dst u).tmps.getD t undef = (finalF l (vs g) a).tmps.getD t undef) ∧ WI g (fun j => (listed.setIfInBounds i true).getD j false) w'' := by
      intro u v w'' hv ⟨g', hW', hsame, hvi⟩
      refine ⟨by simpa using hsz, by rw [put_size]; exact hts, by rw [put_defers']; exact hdf, g', fun t ht => ?_, ?_⟩
      · by_cases e : o.dst = some t
        · rw [e, put_same _ _ _ (by rw [hts]; exact hds o (List.mem_of_getElem? hol) t e), hv t e]
          exact (finalF_at l (vs g') a i o v t hol hvi e (hds o (List.mem_of_getElem? hol) t e) hB2).symm
        · rw [put_other _ _ _ _ e]
          have hlist : ∀ j oj, l[j]? = some oj → oj.dst = some t → listed.getD j false = true := by
            intro j oj hj hd
            have := ht j oj hj hd
            rw [hset] at this
            by_cases e2 : j = i
            · subst e2; rw [hol] at hj; cases hj; exact absurd hd e
            · rwa [if_neg e2] at this
          rw [hfr t hlist]
          by_cases hex : ∃ (j : Nat) (oj : Oper), l[j]? = some oj ∧ oj.dst = some t
          · obtain ⟨j, oj, hj, hd⟩ := hex
            have hjl : j < l.length := (List.getElem?_eq_some_iff.1 hj).1
            obtain ⟨x, hx⟩ : ∃ x, (vs g)[j]? = some x := ⟨(vs g)[j]'(by rw [hlen]; exact hjl), by simp [hlen, hjl]⟩
            have hdj := hds oj (List.mem_of_getElem? hj) t hd
            rw [finalF_at l (vs g) a j oj x t hj hx hd hdj hB2, finalF_at l (vs g') a j oj x t hj (by rw [hsame j (hlist j oj hj hd)]; exact hx) hd hdj hB2]
          · have hno : ∀ oj ∈ l, oj.dst ≠ some t := fun oj ho' e' => by
              obtain ⟨j, hj⟩ := List.getElem?_of_mem ho'
              exact hex ⟨j, oj, hj, e'⟩
            rw [finalF_other t l _ a hno, finalF_other t l _ a hno]
      · have : (fun j => (listed.setIfInBounds i true).getD j false) = fun j => if j = i then true else listed.getD j false := funext hset
        rw [this]; exact hW'
    unfold wpOp
    rw [show l.toArray[i]? = some o from ho]
    have hw : Region.wanted o (yielded l.toArray a'.tmps) = true := by unfold Region.wanted; rw [hg']
    simp only [hw, if_true]
    left
    unfold Oper.wp
    rw [hex]
    rcases hstep i o hol g _ _ hW hL hdeps with ⟨v, w'', hrun, hR⟩ | ⟨v, w'', hrun, hdn, hR⟩ | ⟨f, args, w1, v, hrun, hC⟩
    · rw [hrun]
      exact hput v v w'' (fun _ _ => rfl) hR
    · rw [hrun]
      exact hput undef v w'' (fun d hd => by rw [hdn] at hd; cases hd) hR
    · rw [hrun]
      refine hC.mono ?_
      rintro e w'' ⟨rfl, hR⟩
      exact hput v v w'' (fun _ _ => rfl) hR
  · rintro listed a' w' ⟨hsz, hts, hdf, g, hfr, hW⟩ hr
    have hall := all_listed (by simpa using hsz) hb hr
    have hall' : ∀ i, i < l.length → listed.getD i false = true := by
      intro i hi
      have := hall i (by simpa using hi)
      have hl : i < listed.size := by omega
      rw [Array.getD_eq_getD_getElem?] at this ⊢
      simpa [hl] using this
    have heq : a' = finalF l (vs g) a := by
      have ht : a'.tmps = (finalF l (vs g) a).tmps := by
        apply Array.ext
        · rw [hts, finalF_size]
        · intro t h1 h2
          have := hfr t (fun j o hj _ => hall' j (List.getElem?_eq_some_iff.1 hj).1)
          simpa [Array.getD_eq_getD_getElem?, h1, h2] using this
      have hd : a'.defers = (finalF l (vs g) a).defers := by rw [hdf, finalF_defers]
      cases a'
      cases hF : finalF l (vs g) a
      rw [hF] at ht hd
      simp only at ht hd
      rw [ht, hd]
    rw [heq]
    exact hend _ _ _ hall' hW
  · refine ⟨by simp, rfl, rfl, g0, fun t ht => ?_, ?_⟩
    · refine (finalF_other t l (vs g0) a fun o ho e => ?_).symm
      obtain ⟨j, hj⟩ := List.getElem?_of_mem ho
      have := ht j o hj e
      rw [Array.getD_eq_getD_getElem?] at this
      simp [Array.getElem?_replicate] at this
      split at this <;> simp at this
    · have : (fun j => (Array.replicate l.toArray.size false).getD j false) = fun _ => false := by
        funext j
        rw [Array.getD_eq_getD_getElem?, Array.getElem?_replicate]
        split <;> rfl
      rw [this]
      exact h0
  · unfold unl
    exact Nat.le_trans List.countP_le_length (by simp)

/-- Of each operation, with its value, by number. -/
def AllZ (Φ : Nat → Oper → Value → Prop) : Nat → List Oper → List Value → Prop
  | k, o :: os, v :: vs => Φ k o v ∧ AllZ Φ (k + 1) os vs
  | _, _, _ => True
theorem AllZ.get {Φ : Nat → Oper → Value → Prop} : ∀ (k : Nat) (l : List Oper) (vs : List Value), AllZ Φ k l vs → ∀ i o v, l[i]? = some o → vs[i]? = some v → Φ (k + i) o v
  | _, [], _, _, _, _, _, h, _ => by simp at h
  | _, _ :: _, [], _, _, _, _, _, h => by simp at h
  | k, o' :: os, v' :: vs, h, 0, o, v, ho, hv => by simp at ho hv; subst ho hv; exact h.1
  | k, o' :: os, v' :: vs, h, i + 1, o, v, ho, hv => by
    simp at ho hv
    have := AllZ.get (k + 1) os vs h.2 i o v ho hv
    rwa [show k + 1 + i = k + (i + 1) from by omega] at this
theorem wp_region_lit {id : Nat} {l : List Oper} {a F : Act} {w : World} (vs : List Value) (WI : (Nat → Bool) → World → Prop)
    (hm : P.follows .mixedOrders = true) (hB : plainB l.toArray = true) (hlen : vs.length = l.length) (hF : finalF l vs a = F)
    (hds : (l.all fun o => match o.dst with | some d => decide (d < a.tmps.size) | none => true) = true)
    (h0 : WI (fun _ => false) w.drew)
    (hstep : AllZ (fun i o v => ∀ L w', WI L w' → L i = false → (∀ e ∈ o.after, Region.binds .any e = true → L e.on = true) →
      ∃ w'', ((execOp F.eval o).run P w' = .ok (.value v) w'' ∨ ((execOp F.eval o).run P w' = .ok .skip w'' ∧ o.dst = none)) ∧ WI (fun j => if j = i then true else L j) w'') 0 l vs)
    (hend : ∀ L w', (∀ i, i < l.length → L i = true) → WI L w' → Q .normal F w') :
    (Code.region id l.toArray true).wp P Q a w := by
  subst hF
  refine wp_region_final vs WI hm hB hlen (fun o ho d hd => ?_) h0 (fun i o v ho hv => ?_) hend
  · have := List.all_eq_true.1 hds o ho
    rw [hd] at this
    simpa using this
  · have := hstep.get 0 l vs i o v ho hv
    rwa [Nat.zero_add] at this

/-- Of each operation, by number. -/
def AllO (Φ : Nat → Oper → Prop) : Nat → List Oper → Prop
  | k, o :: os => Φ k o ∧ AllO Φ (k + 1) os
  | _, _ => True
theorem AllO.get {Φ : Nat → Oper → Prop} : ∀ (k : Nat) (l : List Oper), AllO Φ k l → ∀ i o, l[i]? = some o → Φ (k + i) o
  | _, [], _, _, _, h => by simp at h
  | k, o' :: os, h, 0, o, ho => by simp at ho; subst ho; exact h.1
  | k, o' :: os, h, i + 1, o, ho => by
    simp at ho
    have := AllO.get (k + 1) os h.2 i o ho
    rwa [show k + 1 + i = k + (i + 1) from by omega] at this
theorem wp_region_genl {γ : Type} {id : Nat} {l : List Oper} {a : Act} {F : γ → Act} {w : World} (vs : γ → List Value) (WI : γ → (Nat → Bool) → World → Prop) (g0 : γ)
    (hm : P.follows .mixedOrders = true) (hB : plainB l.toArray = true) (hlen : ∀ g, (vs g).length = l.length) (hF : ∀ g, finalF l (vs g) a = F g)
    (hds : (l.all fun o => match o.dst with | some d => decide (d < a.tmps.size) | none => true) = true)
    (h0 : WI g0 (fun _ => false) w.drew)
    (hstep : AllO (fun i o => ∀ g L w', WI g L w' → L i = false → (∀ e ∈ o.after, Region.binds .any e = true → L e.on = true) →
      Doing P (F g) o w' fun v w'' => ∃ g', WI g' (fun j => if j = i then true else L j) w'' ∧ (∀ j, L j = true → (vs g')[j]? = (vs g)[j]?) ∧ (vs g')[i]? = some v) 0 l)
    (hend : ∀ g L w', (∀ i, i < l.length → L i = true) → WI g L w' → Q .normal (F g) w') :
    (Code.region id l.toArray true).wp P Q a w := by
  refine wp_region_gen vs WI g0 hm hB hlen (fun o ho d hd => ?_) h0 (fun i o ho g L w' => ?_) (fun g => by rw [hF g]; exact hend g)
  · have := List.all_eq_true.1 hds o ho
    rw [hd] at this
    simpa using this
  · have := hstep.get 0 l i o ho
    rw [Nat.zero_add] at this
    rw [hF g]
    exact this g L w'

/-! ### a map that is filled in whatever order -/
def fT : List (Nat × Lit × Value) → (Nat → Bool) → Lit → Option Value
  | [], _, _ => none
  | (i, kl, v) :: T, L, x => if x.sameKey kl && L i then some v else fT T L x
def cntT : List (Nat × Lit × Value) → (Nat → Bool) → Nat
  | [], _ => 0
  | (i, _, _) :: T, L => (if L i then 1 else 0) + cntT T L
def apartT (T : List (Nat × Lit × Value)) : Prop := T.Pairwise fun x y => x.1 ≠ y.1 ∧ x.2.1.sameKey y.2.1 = false ∧ y.2.1.sameKey x.2.1 = false
theorem fT_keep : ∀ (T : List (Nat × Lit × Value)) (L : Nat → Bool) (i : Nat), (∀ e ∈ T, e.1 ≠ i) → fT T (fun j => if j = i then true else L j) = fT T L ∧ cntT T (fun j => if j = i then true else L j) = cntT T L
  | [], _, _, _ => ⟨rfl, rfl⟩
  | (j, kl, v) :: T, L, i, h => by
    have hj : j ≠ i := h (j, kl, v) (List.mem_cons_self)
    obtain ⟨h1, h2⟩ := fT_keep T L i (fun e he => h e (List.mem_cons_of_mem _ he))
    refine ⟨funext fun x => ?_, ?_⟩
    · simp only [fT, if_neg hj]; rw [h1]
    · simp only [cntT, if_neg hj]; rw [h2]
theorem fT_upd : ∀ (T : List (Nat × Lit × Value)) (L : Nat → Bool) (i : Nat) (kl : Lit) (v : Value), apartT T → (i, kl, v) ∈ T → L i = false →
    (fun x => if x.sameKey kl then some v else fT T L x) = fT T (fun j => if j = i then true else L j) ∧ cntT T (fun j => if j = i then true else L j) = cntT T L + 1
  | [], _, _, _, _, _, h, _ => by cases h
  | (j, kl0, v0) :: T, L, i, kl, v, ha, hm, hL => by
    obtain ⟨ha1, ha2⟩ := List.pairwise_cons.1 ha
    rcases List.mem_cons.1 hm with e | hm'
    · cases e
      obtain ⟨h1, h2⟩ := fT_keep T L j (fun e he => Ne.symm (ha1 e he).1)
      refine ⟨funext fun x => ?_, ?_⟩
      · simp only [fT, if_pos, Bool.and_true, hL, Bool.and_false, Bool.false_eq_true, if_false]; rw [h1]
      · simp only [cntT, if_pos, hL, Bool.false_eq_true, if_false]; rw [h2]; omega
    · have hne := (ha1 _ hm')
      obtain ⟨h1, h2⟩ := fT_upd T L i kl v ha2 hm' hL
      refine ⟨funext fun x => ?_, ?_⟩
      · simp only [fT, if_neg hne.1]
        rw [← h1]
        by_cases e : x.sameKey kl = true
        · obtain rfl := WideAt.sameKey_eq e
          simp [hne.2.2, e]
        · simp [e]
      · simp only [cntT, if_neg hne.1]; rw [h2]; omega
theorem fT_all : ∀ (T : List (Nat × Lit × Value)) (L : Nat → Bool), (∀ e ∈ T, L e.1 = true) → fT T L = fT T (fun _ => true)
  | [], _, _ => rfl
  | (j, kl, v) :: T, L, h => funext fun x => by
    simp only [fT, h (j, kl, v) (List.mem_cons_self)]
    rw [fT_all T L (fun e he => h e (List.mem_cons_of_mem _ he))]
end
end Go.Proofs.YtpapbnmacjoihaaDoor
