/- bindleref01.Head. -/
import Derived.Test.YtpapbnmacjoihaaDoorRefB
import Derived.Test.YtpapbnmacjoihaaDoorRefE
import Derived.Test.YtpapbnmacjoihaaDoorHeadQ
import Derived.Test.YtpapbnmacjoihaaDoorRefC
namespace Go.Proofs.YtpapbnmacjoihaaDoor
open Go.RowKit Go.Shelf

set_option maxHeartbeats 2000000 in
set_option maxRecDepth 100000 in
theorem ref_Head_arg (p : Option Addr) (l : List UInt8) (c : Nat) (w : World) (h : l.length ≠ 512) :
    Calls Tryd.prog 14 #[.slice p l.length c] w (ParsePost w l) := by
  have e0 : parseS l = (Hd.zero, 1) := by unfold parseS; rw [if_pos h]
  have h' : ((l.length : Int) != 512) = true := bne_iff_ne.2 (by omega)
  have E0 := Lib.hid e0
  clear e0 h
  go_enter Tryd.func14, Tryd.ntmps14
  go_wp2
  refine bodyPost_ret (v := .tuple #[Hd.zero.val, .int .i64 1]) ?_ rfl ⟨by rw [E0.out]; rfl, ?_⟩
  · simp [results, Tryd.results14, go_sem]
    rfl
  · exact Ext.alloc _ _
/-- b[a:a+n], in the walk's own numbers. -/
theorem cut_mid (a n : Nat) (p : Option Addr) (c : Nat) (h : a + n ≤ c) (len : Nat) :
    ∀ W : World, (Instr.slice 22 (.slice p len c) (some (.int .i64 (a : Int))) (some (.int .i64 ((a : Int) + (n : Int)))) none).run Tryd.prog W = .ok (.slice (cutA p c a) n (c - a)) W := by
  have k1 := run_cut_mid (P := Tryd.prog) Tryd.underlying22 info_u8 .i64 .i64 p len c (a : Int) ((a : Int) + (n : Int)) (by omega) (by omega) (by omega)
  rw [show ((a : Int) + (n : Int)).toNat - (a : Int).toNat = n from by omega, Int.toNat_natCast] at k1
  exact k1
theorem rf_field {l : List UInt8} {r1 : Nat} {ok : Bool} (h : (r1, ok) = rfS l) : fieldS l = (if ok then r1 else 0, ok) := by
  rw [fieldS_rf, ← h]; rfl

/-- What the result's cell needs: it is a header's zero, and nothing that was there has turned. -/
def Res (w W : World) : Prop := HdBlk W w.heap.size Hd.zero ∧ Ext w W
theorem Res.made (w : World) : Res w (w.alloc (.cells #[.string ⟨#[]⟩, .string ⟨#[]⟩, .int .u8 0, .int .i64 0, .int .i64 0, .int .i64 0, .int .i64 0, .int .i64 0, .bool false] 27)) := ⟨HdBlk.made w Hd.zero, Ext.alloc _ _⟩
set_option maxHeartbeats 4000000 in
set_option maxRecDepth 100000 in
theorem ref_Head_sum (p : Option Addr) (l : List UInt8) (c : Nat) (w : World) (h : l.length = 512) (hc : l.length ≤ c) (hc2 : c ≤ 9223372036854775807) (hb : By w p l)
    (hs : ¬ ((fieldS (fld l 148 8)).2 = true ∧ (fieldS (fld l 148 8)).1 = sumS l)) :
    Calls Tryd.prog 14 #[.slice p l.length c] w (ParsePost w l) := by
  have e0 : parseS l = (Hd.zero, 3) := by unfold parseS; rw [if_neg (by omega), if_pos hs]
  have h' : ((l.length : Int) != 512) = false := bne_eq_false_iff_eq.2 (by omega)
  have E0 := Lib.hid e0
  obtain ⟨r, hr⟩ : ∃ r, r = rfS (fld l 148 8) := ⟨_, rfl⟩
  obtain ⟨r1, ok⟩ := r
  have hf := rf_field hr
  rw [hf] at hs
  have HF : Hid (∀ W, Res w W → Calls Tryd.prog 34 #[.slice (cutA p c 148) 8 (c - 148)] W fun e w' => e = .returned (.tuple #[.int .i64 r1, .bool ok]) ∧ Res w w') := by
    intro W hW
    have hfp := ref_Field (cutA p c 148) (fld l 148 8) (c - 148) W (by rw [fld_length (by omega)]; omega) (by rw [fld_length (by omega)]; omega) (by omega) ((hb.ext hW.2).fld hc 148 8) (by rw [fld_length (by omega)]; omega)
    rw [fld_length (by omega), ← hr] at hfp
    refine hfp.mono ?_
    rintro e w' ⟨rfl, rfl⟩
    exact ⟨rfl, hW⟩
  have HS : Hid (∀ W, Res w W → Calls Tryd.prog 21 #[.slice p l.length c] W fun e w' => e = .returned (.int .i64 (sumS l)) ∧ Res w w') := by
    intro W hW
    have hsm := ref_Sum p l c W h (hb.ext hW.2)
    rw [← h] at hsm
    refine hsm.mono ?_
    rintro e w' ⟨rfl, rfl⟩
    exact ⟨rfl, hW⟩
  have k148 := cut_mid 148 8 p c (by omega) l.length
  rw [show ((148 : Nat) : Int) + ((8 : Nat) : Int) = 156 from rfl, show ((148 : Nat) : Int) = 148 from rfl] at k148
  clear e0 h hb hr hf
  cases ok
  · clear hs
    go_enter Tryd.func14, Tryd.ntmps14
    go_wp2_with fail
    refine (HF.out _ (Res.made w)).mono ?_
    rintro e w2 ⟨rfl, hz, hE⟩
    obtain ⟨q0, q1, q2, q3, q4, q5, q6, q7, q8⟩ := hz.cells
    have qf := hz.frozen
    have HE := Lib.hid hE
    clear hz hE
    go_wp2
    refine bodyPost_ret (v := .tuple #[Hd.zero.val, .int .i64 3]) ?_ rfl ⟨by rw [E0.out]; rfl, ?_⟩
    · simp [results, Tryd.results14, go_sem, q0, q1, q2, q3, q4, q5, q6, q7, q8]
      rfl
    · exact HE.out.setHd
  · have hne : ((r1 : Int) != (sumS l : Int)) = true := bne_iff_ne.2 fun e => hs ⟨rfl, Int.ofNat_inj.1 e⟩
    clear hs
    go_enter Tryd.func14, Tryd.ntmps14
    go_wp2_with fail
    refine (HF.out _ (Res.made w)).mono ?_
    rintro e w2 ⟨rfl, hR⟩
    have HR := Lib.hid hR
    clear hR
    go_wp2_with fail
    refine (HS.out _ HR.out).mono ?_
    rintro e w3 ⟨rfl, hz, hE⟩
    obtain ⟨q0, q1, q2, q3, q4, q5, q6, q7, q8⟩ := hz.cells
    have qf := hz.frozen
    have HE := Lib.hid hE
    clear hz hE
    go_wp2
    refine bodyPost_ret (v := .tuple #[Hd.zero.val, .int .i64 3]) ?_ rfl ⟨by rw [E0.out]; rfl, ?_⟩
    · simp [results, Tryd.results14, go_sem, q0, q1, q2, q3, q4, q5, q6, q7, q8]
      rfl
    · exact HE.out.setHd

/-- A header that a region makes: operation ia allocs its block, is_ stores it. -/
def MkWI (w0 : World) (h1 : Hd) (ia is_ : Nat) (g : Nat) (L : Nat → Bool) (w : World) : Prop :=
  Ext w0 w ∧ (L is_ = true → L ia = true) ∧ (L ia = true → w0.heap.size ≤ g ∧ HdBlk w g (if L is_ then h1 else Hd.zero))
theorem MkWI.quiet {w0 w w' : World} {h1 : Hd} {ia is_ g : Nat} {L : Nat → Bool} (hW : MkWI w0 h1 ia is_ g L w) (hE : Ext w w') (i : Nat) (ha : i ≠ ia) (hs : i ≠ is_) : MkWI w0 h1 ia is_ g (fun j => if j = i then true else L j) w' := by
  refine ⟨hW.1.trans hE, ?_, ?_⟩
  · simp only [if_neg (Ne.symm ha), if_neg (Ne.symm hs)]; exact hW.2.1
  · simp only [if_neg (Ne.symm ha), if_neg (Ne.symm hs)]; exact fun e => ⟨(hW.2.2 e).1, (hW.2.2 e).2.ext hE⟩
/-- The header as ref.Head first makes it. -/
def hdR (l : List UInt8) : Hd := ⟨untilS (fld l 0 100), untilS (fld l 157 100), l.getD 156 0, 0, 0, 0, 0, 0, decide (fld l 257 8 = gnuL)⟩
def hdRVs (v : Value) (l : List UInt8) (mg : ByteArray) (s0 s1 : Value) (bb o : Nat) (g : Nat) : List Value :=
  [.string mg, .bool (decide (fld l 257 8 = gnuL)), v, .pointer (some ⟨bb, o + 156, none⟩), .int .u8 ((l.getD 156 0).toNat : Int), v, s0, .string (bs (untilS (fld l 0 100))), v, s1, .string (bs (untilS (fld l 157 100))), (hdR l).val, .pointer (some ⟨g, 0, none⟩), undef]

set_option maxHeartbeats 4000000 in
set_option maxRecDepth 100000 in
theorem ref_Head_text (p : Option Addr) (l : List UInt8) (c : Nat) (w : World) (h : l.length = 512) (hc : l.length ≤ c) (hc2 : c ≤ 9223372036854775807) (hb : By w p l)
    (hs1 : (fieldS (fld l 148 8)).2 = true) (hs2 : (fieldS (fld l 148 8)).1 = sumS l) (ht : ¬ (fld l 257 8 = posixL ∨ fld l 257 8 = gnuL)) :
    Calls Tryd.prog 14 #[.slice p l.length c] w (ParsePost w l) := by
  have e0 : parseS l = (Hd.zero, 9) := by unfold parseS; rw [if_neg (by omega), if_neg (by rw [hs1, hs2]; simp), if_pos ht]
  have h' : ((l.length : Int) != 512) = false := bne_eq_false_iff_eq.2 (by omega)
  have E0 := Lib.hid e0
  have hrf : rfS (fld l 148 8) = (sumS l, true) := by
    rw [fieldS_rf] at hs1 hs2
    unfold keepN at hs1 hs2
    simp only at hs1 hs2
    rw [if_pos hs1] at hs2
    exact Prod.ext hs2 hs1
  have HF : Hid (∀ W, Res w W → Calls Tryd.prog 34 #[.slice (cutA p c 148) 8 (c - 148)] W fun e w' => e = .returned (.tuple #[.int .i64 (sumS l), .bool true]) ∧ Res w w') := by
    intro W hW
    have hfp := ref_Field (cutA p c 148) (fld l 148 8) (c - 148) W (by rw [fld_length (by omega)]; omega) (by rw [fld_length (by omega)]; omega) (by omega) ((hb.ext hW.2).fld hc 148 8) (by rw [fld_length (by omega)]; omega)
    rw [fld_length (by omega), hrf] at hfp
    refine hfp.mono ?_
    rintro e w' ⟨rfl, rfl⟩
    exact ⟨rfl, hW⟩
  have HS : Hid (∀ W, Res w W → Calls Tryd.prog 21 #[.slice p l.length c] W fun e w' => e = .returned (.int .i64 (sumS l)) ∧ Res w w') := by
    intro W hW
    have hsm := ref_Sum p l c W h (hb.ext hW.2)
    rw [← h] at hsm
    refine hsm.mono ?_
    rintro e w' ⟨rfl, rfl⟩
    exact ⟨rfl, hW⟩
  have k148 := cut_mid 148 8 p c (by omega) l.length
  rw [show ((148 : Nat) : Int) + ((8 : Nat) : Int) = 156 from rfl, show ((148 : Nat) : Int) = 148 from rfl] at k148
  have k257 := cut_mid 257 8 p c (by omega) l.length
  rw [show ((257 : Nat) : Int) + ((8 : Nat) : Int) = 265 from rfl, show ((257 : Nat) : Int) = 257 from rfl] at k257
  have hne : ((sumS l : Int) != (sumS l : Int)) = false := by simp
  have HB := Lib.hid hb
  have HH := Lib.hid h
  obtain ⟨mg, hmg⟩ : ∃ mg, mg = fld l 257 8 := ⟨_, rfl⟩
  rw [← hmg] at ht
  have hq1 : ((bs mg).toList == [117, 115, 116, 97, 114, 0, 48, 48]) = false := by rw [bs_toL, beq_eq_false_iff_ne]; exact fun e => ht (.inl e)
  have hq2 : ((bs mg).toList == [117, 115, 116, 97, 114, 32, 32, 0]) = false := by rw [bs_toL, beq_eq_false_iff_ne]; exact fun e => ht (.inr e)
  have Hmg := Lib.hid hmg
  clear e0 h hb hs1 hs2 hrf ht hmg
  go_enter Tryd.func14, Tryd.ntmps14
  go_wp2_with fail
  refine (HF.out _ (Res.made w)).mono ?_
  rintro e w2 ⟨rfl, hR⟩
  have HR := Lib.hid hR
  clear hR
  go_wp2_with fail
  refine (HS.out _ HR.out).mono ?_
  rintro e w3 ⟨rfl, hz, hE⟩
  have ks := run_string_of (P := Tryd.prog) Tryd.underlying22 Tryd.underlying5 Tryd.underlying9 ((HB.out.ext hE).fld hc 257 8) (c - 257)
  rw [fld_length (by rw [HH.out]; omega), ← Hmg.out] at ks
  obtain ⟨q0, q1, q2, q3, q4, q5, q6, q7, q8⟩ := hz.cells
  have qf := hz.frozen
  have HE := Lib.hid hE
  clear hz hE
  go_wp2
  refine bodyPost_ret (v := .tuple #[Hd.zero.val, .int .i64 9]) ?_ rfl ⟨by rw [E0.out]; rfl, ?_⟩
  · simp [results, Tryd.results14, go_sem, q0, q1, q2, q3, q4, q5, q6, q7, q8]
    rfl
  · exact HE.out.setHd
end Go.Proofs.YtpapbnmacjoihaaDoor
