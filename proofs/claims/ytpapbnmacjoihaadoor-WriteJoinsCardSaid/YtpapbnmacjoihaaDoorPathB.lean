/- strings.SplitSeq at '/': its iterator. -/
import Derived.RangeFuncFrom
import Derived.RangeFuncBound
import Derived.RangeFuncCalls
import Derived.RangeFuncLeaves
import Derived.Shelf.Abstract
import Derived.Shelf.RegionOpen
import Derived.WalkKit
import Derived.OwnWalkIn
import Derived.TacticsInMore
import Derived.LoopNIn
import Derived.LoopIn
import Derived.Test.YtpapbnmacjoihaaDoorRangeB
import Derived.Test.YtpapbnmacjoihaaDoorPathA
namespace Go.Proofs.YtpapbnmacjoihaaDoor
open Go.RowKit Go.Shelf
attribute [local go_sem] Oper.semAt_some

/-- The three cells of the iterator: the text that is left, what parts it, how much of that is kept. -/
def Seq3 (b : Nat) (s : List UInt8) (w : World) : Prop :=
  w.heap[b]? = some (.cells #[.string (bs s)] 9 (0, 0)) ∧ w.heap[b + 1]? = some (.cells #[.string ⟨#[47]⟩] 9 (0, 0)) ∧ w.heap[b + 1 + 1]? = some (.cells #[.int .i64 0] 3 (0, 0))
def Keep3 (b : Nat) (A B : World) : Prop := ∀ k, (k = b ∨ k = b + 1 ∨ k = b + 1 + 1) → B.heap[k]? = A.heap[k]?
theorem Seq3.keep {b : Nat} {s : List UInt8} {A B : World} (h : Seq3 b s A) (hk : Keep3 b A B) : Seq3 b s B :=
  ⟨(hk _ (.inl rfl)).trans h.1, (hk _ (.inr (.inl rfl))).trans h.2.1, (hk _ (.inr (.inr rfl))).trans h.2.2⟩
theorem cell1 {w : World} {b : Nat} {v : Value} {t : TypeId} (h : w.heap[b]? = some (.cells #[v] t (0, 0))) : w.cell? ⟨b, 0, none⟩ = some v ∧ w.frozen? ⟨b, 0, none⟩ = false := by
  constructor
  · simp [World.cell?, h]
  · simp [World.frozen?, h]

def seqLeft (b : Nat) (w : World) : Nat := match w.cell? ⟨b, 0, none⟩ with
  | some (.string s) => s.size + 1
  | _ => 0
theorem seqLeft_eq {b : Nat} {s : List UInt8} {w : World} (h : Seq3 b s w) : seqLeft b w = s.length + 1 := by
  unfold seqLeft
  rw [(cell1 h.1).1]
  simp only [bs_size]
theorem Seq3.set {b : Nat} {s t : List UInt8} {w : World} (h : Seq3 b s w) : Seq3 b t (w.setCell ⟨b, 0, none⟩ (.string (bs t))) := by
  refine ⟨?_, ?_, ?_⟩
  · simp [World.setCell, Array.getElem?_modify, h.1]
  · rw [Below.heap_setCell _ _ _ _ (by simp)]; exact h.2.1
  · rw [Below.heap_setCell _ _ _ _ (by simp; omega)]; exact h.2.2
theorem split_at {c : UInt8} {l : List UInt8} {i : Nat} (h : Lib.indexByte l c = (i : Int)) : i < l.length ∧ splitB c l = l.take i :: splitB c (l.drop (i + 1)) := by
  obtain ⟨h1, h2⟩ := Lib.indexByte_some h
  have hi : i < l.length := (List.getElem?_eq_some_iff.1 h1).1
  have hg : l[i] = c := by rw [List.getElem?_eq_getElem hi] at h1; exact Option.some.inj h1
  refine ⟨hi, ?_⟩
  have e : l = l.take i ++ c :: l.drop (i + 1) := by rw [← hg, ← List.drop_eq_getElem_cons hi, List.take_append_drop]
  have hn : c ∉ l.take i := by
    intro hm
    obtain ⟨k, hk⟩ := List.getElem?_of_mem hm
    have hki : k < i := by have := (List.getElem?_eq_some_iff.1 hk).1; rw [List.length_take] at this; omega
    rw [List.getElem?_take, if_pos hki] at hk
    exact h2 k hki hk
  rw [show splitB c l = splitB c (l.take i ++ c :: l.drop (i + 1)) from by rw [← e], splitB_app hn]
theorem split_none {c : UInt8} {l : List UInt8} (h : Lib.indexByte l c = -1) : splitB c l = [l] := by
  refine splitB_no fun hm => ?_
  obtain ⟨k, hk⟩ := List.getElem?_of_mem hm
  exact Lib.indexByte_none h k hk

set_option maxHeartbeats 2000000 in
set_option maxRecDepth 100000 in
theorem splitSeq_in (l b : Nat) (s : List UInt8) (J : List (List UInt8) → World → Prop) (Jx : World → Prop) (W : World) (hsz : s.length ≤ 9000000000000000000) (h3 : Seq3 b s W)
    (hJ : ∀ p A v, J p A → J p (A.setCell ⟨b, 0, none⟩ v))
    (hY : ∀ pre x A, J pre A → (∃ post, splitB 47 s = pre ++ x :: post) → YieldAt Wf 0 Tryd.prog l #[.string (bs x)] A fun e B => (e = .returned (.bool true) ∧ J (pre ++ [x]) B ∧ Keep3 b A B) ∨ (e = .returned (.bool false) ∧ Jx B))
    (h0 : J [] W) :
    CallsIn Wf 0 Tryd.prog 118 #[.func (.yield l) #[] #[], .pointer (some ⟨b + 1, 0, none⟩), .pointer (some ⟨b, 0, none⟩), .pointer (some ⟨b + 1 + 1, 0, none⟩)] W
      fun e B => (∃ v, e = .returned v) ∧ (J (splitB 47 s) B ∨ Jx B) := by
  have HY := Lib.hid hY
  have HJ := Lib.hid hJ
  have H3 := Lib.hid h3
  have H0 := Lib.hid h0
  obtain ⟨c2, f2⟩ := cell1 h3.2.1
  clear hY hJ h3 h0
  refine callsIn_of_wp Tryd.func118 rfl trivial ?_ rfl
  simp only [Tryd.ntmps118, List.size_toArray, List.length_cons, List.length_nil, Nat.reduceAdd, Nat.reduceSub, Array.replicate_succ, Array.replicate_zero, List.push_toArray, List.append_toArray, List.nil_append, List.cons_append]
  gi_wp2
  clear c2 f2
  gi_loopw [7] (fun _ wr => ∃ pre rest, Hid (splitB 47 s = pre ++ splitB 47 rest ∧ Seq3 b rest wr ∧ J pre wr ∧ rest.length ≤ s.length)) (fun _ wr => seqLeft b wr)
  case atStart => exact ⟨[], s, rfl, H3.out, H0.out, Nat.le_refl _⟩
  case round =>
    obtain ⟨pre, rest, HR⟩ := hrel
    obtain ⟨c1, f1⟩ := cell1 HR.out.2.1.1
    obtain ⟨c2, f2⟩ := cell1 HR.out.2.1.2.1
    obtain ⟨c3, f3⟩ := cell1 HR.out.2.1.2.2
    have hidx : ∀ w, Calls Tryd.prog 61 #[.string (bs rest), .string ⟨#[47]⟩] w fun e w' => e = .returned (.int .i64 (Lib.indexByte rest 47)) ∧ w' = w := fun w => Tryd.strings_Index_one (bs rest) 47 w
    have HI := Lib.hid hidx
    clear hidx
    have hge := Lib.indexByte_ge rest 47
    obtain ⟨ix, hix⟩ : ∃ ix, ix = Lib.indexByte rest 47 := ⟨_, rfl⟩
    rw [← hix] at HI hge
    have HX := Lib.hid hix
    clear hix
    gi_wp2_with fail
    refine ⟨trivial, rfl, ?_⟩
    refine (callsIn_wide.2 (HI.out _)).mono ?_
    rintro e w' ⟨rfl, rfl⟩
    by_cases hneg : ix < 0
    · obtain rfl : ix = -1 := by omega
      have hs1 := split_none HX.out.symm
      obtain ⟨fn, tmps, assign, body, hy, hR⟩ := HY.out pre rest _ HR.out.2.2.1 ⟨[], by rw [HR.out.1, hs1]⟩
      gi_wp2
      refine ⟨rfl, hR.mono ?_⟩
      rintro e B (⟨rfl, hJ1, hk⟩ | ⟨rfl, hx⟩)
      · have hfin : splitB 47 s = pre ++ [rest] := by rw [HR.out.1, hs1]
        have HF := Lib.hid hfin
        clear hfin
        gi_wp2
        go_end0
        exact ⟨⟨_, rfl⟩, .inl (by rw [HF.out]; exact hJ1)⟩
      · gi_wp2
        go_end0
        exact ⟨⟨_, rfl⟩, .inr hx⟩
    · obtain ⟨i, rfl⟩ := Int.eq_ofNat_of_zero_le (show 0 ≤ ix by omega)
      obtain ⟨hi, hs1⟩ := split_at HX.out.symm
      have hs2 : (bs rest).size = rest.length := bs_size _
      have hle := HR.out.2.2.2
      obtain ⟨fn, tmps, assign, body, hy, hR⟩ := HY.out pre (rest.take i) _ HR.out.2.2.1 ⟨splitB 47 (rest.drop (i + 1)), by rw [HR.out.1, hs1]⟩
      have ex : bs (rest.take i) = (bs rest).extract 0 i := by rw [bs_extract, List.drop_zero]
      rw [ex] at hy
      have HEX := Lib.hid (And.intro ex hs1)
      clear ex hs1
      gi_wp2_with fail
      refine ⟨rfl, hR.mono ?_⟩
      rintro e B (⟨rfl, hJ1, hk⟩ | ⟨rfl, hx⟩)
      · have h3 := HR.out.2.1.keep hk
        obtain ⟨c1, f1⟩ := cell1 h3.1
        obtain ⟨c2, f2⟩ := cell1 h3.2.1
        obtain ⟨c3, f3⟩ := cell1 h3.2.2
        have HB3 := Lib.hid (And.intro h3 hJ1)
        clear h3 hJ1 hk hy hR
        gi_wp2
        have ed : (bs rest).extract (i + 1) rest.length = bs (rest.drop (i + 1)) := by rw [bs_extract, List.take_length]
        rw [ed]
        have h3' := HB3.out.1.set (t := rest.drop (i + 1))
        refine ⟨⟨pre ++ [rest.take i], rest.drop (i + 1), by rw [HR.out.1, HEX.out.2, List.append_assoc]; rfl, h3', HJ.out _ _ _ HB3.out.2, by rw [List.length_drop]; omega⟩, ?_⟩
        rw [seqLeft_eq h3', seqLeft_eq HR.out.2.1, List.length_drop]
        omega
      · gi_wp2
        refine bodyPost_ret (results_none rfl _ _ _) rfl ?_
        exact ⟨⟨_, rfl⟩, .inr hx⟩
end Go.Proofs.YtpapbnmacjoihaaDoor
