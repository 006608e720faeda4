/- The document's comparisons of values and rows come to the plain order. -/
import Derived.Test.YthegdcodjhbonaaZSliceChunksx24
import Derived.Test.YthegdcodjhbonaaZSliceChunksx16
namespace Go.Proofs.Ythegdcodjhbonaa.ThA
open Go.RowKit Go.Proofs.Ythegdcodjhbonaa.PA Go.Proofs.YthegdcodjhbonaaW.PrintWords Go.Proofs.YthegdcodjhbonaaW.PrintLast Go.Proofs.YthegdcodjhbonaaW.PrintMore
theorem less_iff : ∀ a b : List UInt8, Op.bytesLess a b = true ↔ lexL cmp8 a b = -1 := by
  intro a
  induction a with
  | nil => intro b; cases b <;> simp [Op.bytesLess, lexL]
  | cons x a ih =>
    intro b
    cases b with
    | nil => simp [Op.bytesLess, lexL]
    | cons y b =>
      simp only [Op.bytesLess, lexL, Bool.or_eq_true, Bool.and_eq_true, decide_eq_true_eq, beq_iff_eq]
      have hz := cmp8_lawful.zero x y
      by_cases h : cmp8 x y = 0
      · have e := hz.1 h
        subst e
        rw [if_pos h, ih b]
        simp
      · rw [if_neg h]
        have hne : x ≠ y := fun e => h (hz.2 e)
        unfold cmp8
        by_cases h1 : x < y
        · simp [h1]
        · simp [h1, hne]
          split <;> omega
theorem toList_data (s : ByteArray) : s.toList = s.data.toList := Lib.toList_data s
theorem cmpS_less (a b : ByteArray) : Op.bytesLess a.toList b.toList = true ↔ cmpS a b = -1 := by
  rw [toList_data, toList_data]; exact less_iff _ _
theorem cmpS_same (a b : ByteArray) : a.toList = b.toList ↔ cmpS a b = 0 := by
  rw [toList_data, toList_data, cmpS, (lexL_lawful cmp8_lawful).zero]
theorem ev_cv (a b : S41) : Ev (fun k => belvedereref1_CompareValues.f k a.f0 a.f1 a.f2 b.f0 b.f1 b.f2) (cv a b) := by
  refine ⟨2, fun k hk => ?_⟩
  obtain ⟨m, rfl⟩ : ∃ m, k = m + 2 := ⟨k - 2, by omega⟩
  have hL := cmpS_less a.f2 b.f2
  have hE := cmpS_same a.f2 b.f2
  have hR := cmpS_lawful.rng a.f2 b.f2
  unfold cv andThen cmpI belvedereref1_CompareValues.f
  simp only [belvedereref1_CompareValues.j0, belvedereref1_CompareValues.j1]
  by_cases h0 : a.f0 < b.f0
  · simp [h0]
  · by_cases h1 : a.f0 = b.f0
    · by_cases h2 : a.f1 < b.f1
      · simp [h1, h2]
      · by_cases h3 : b.f1 < a.f1
        · simp [h1, h2, h3]
        · have h4 : a.f1 = b.f1 := by omega
          by_cases h5 : Op.bytesLess a.f2.toList b.f2.toList = true
          · have := hL.1 h5
            simp [h1, h4, h5, this]
          · by_cases h6 : a.f2.toList = b.f2.toList
            · have := hE.1 h6
              simp only [h6] at h5 ⊢
              simp [h1, h4, h5, this]
            · have h7 : cmpS a.f2 b.f2 = 1 := by
                have q1 : ¬ cmpS a.f2 b.f2 = -1 := fun e => h5 (hL.2 e)
                have q2 : ¬ cmpS a.f2 b.f2 = 0 := fun e => h6 (hE.2 e)
                omega
              simp [h1, h4, h5, h6, h7]
    · have h2 : b.f0 < a.f0 := by omega
      simp [h0, h1, h2]
/-- The bound of the lists that are spoken of. -/
abbrev BND : Nat := 4398046511104
theorem wrap_succ {n : Nat} (h : n < BND) : wrap64 ((n : Int) + 1) = ((n + 1 : Nat) : Int) := by
  unfold wrap64 BND at *; omega
theorem rdV {x : List S41} {n : Nat} (h : n < x.length) : rd_T41 x (n : Int) = x[n] := by
  unfold rd_T41; simp [h]
theorem ev_cr_go (x y : List S41) (hx : x.length < BND) : ∀ (d n : Nat), x.length - n = d → n ≤ x.length → n ≤ y.length → Ev (fun k => belvedereref1_CompareRows.l0 k x y (n : Int)) (lexL cv (x.drop n) (y.drop n)) := by
  intro d
  induction d with
  | zero =>
    intro n hd h1 h2
    have hn : n = x.length := by omega
    refine Ev.step (f := fun k => belvedereref1_CompareRows.j1 k x y (n : Int) false) (fun k => by
      simp only [belvedereref1_CompareRows.l0]; rw [if_neg (by omega)]) ?_
    refine ⟨1, fun k hk => ?_⟩
    obtain ⟨m, rfl⟩ : ∃ m, k = m + 1 := ⟨k - 1, by omega⟩
    simp only [belvedereref1_CompareRows.j1]
    rw [List.drop_of_length_le (by omega : x.length ≤ n)]
    by_cases h3 : x.length < y.length
    · obtain ⟨b, t, e⟩ : ∃ b t, y.drop n = b :: t := by
        rcases hq : y.drop n with _ | ⟨b, t⟩
        · have := congrArg List.length hq; simp at this; omega
        · exact ⟨b, t, rfl⟩
      simp [e, lexL, h3]
    · rw [List.drop_of_length_le (by omega : y.length ≤ n)]
      simp [lexL, show ¬ ((x.length : Int) < (y.length : Int)) by omega, show ¬ ((x.length : Int) > (y.length : Int)) by omega]
  | succ d ih =>
    intro n hd h1 h2
    have hn : n < x.length := by omega
    by_cases h3 : n < y.length
    · refine Ev.step (f := fun k => belvedereref1_CompareRows.j1 k x y (n : Int) true) (fun k => by
        simp only [belvedereref1_CompareRows.l0]; rw [if_pos (by omega), decide_eq_true (by omega : (n : Int) < (y.length : Int))]) ?_
      refine Ev.step (f := fun k => (belvedereref1_CompareValues.f k x[n].f0 x[n].f1 x[n].f2 y[n].f0 y[n].f1 y[n].f2).bind fun t => if t = 0 then belvedereref1_CompareRows.l0 k x y ((n + 1 : Nat) : Int) else some t) (fun k => by
        simp only [belvedereref1_CompareRows.j1]
        rw [if_pos trivial, if_pos (by omega), if_pos (by omega), if_pos (by omega), rdV hn, rdV h3, wrap_succ (by omega)]) ?_
      refine Ev.bind (ev_cv x[n] y[n]) ?_
      rw [List.drop_eq_getElem_cons hn, List.drop_eq_getElem_cons h3]
      simp only [lexL]
      by_cases h4 : cv x[n] y[n] = 0
      · simp only [h4, if_true]
        exact ih (n + 1) (by omega) (by omega) (by omega)
      · simp only [if_neg h4]
        exact Ev.now _
    · refine Ev.step (f := fun k => belvedereref1_CompareRows.j1 k x y (n : Int) false) (fun k => by
        simp only [belvedereref1_CompareRows.l0]; rw [if_pos (by omega), decide_eq_false (by omega : ¬ (n : Int) < (y.length : Int))]) ?_
      refine ⟨1, fun k hk => ?_⟩
      obtain ⟨m, rfl⟩ : ∃ m, k = m + 1 := ⟨k - 1, by omega⟩
      simp only [belvedereref1_CompareRows.j1]
      rw [List.drop_of_length_le (by omega : y.length ≤ n), List.drop_eq_getElem_cons hn]
      simp [lexL, show ¬ ((x.length : Int) < (y.length : Int)) by omega, show ((y.length : Int) < (x.length : Int)) by omega]
theorem ev_cr (x y : List S41) (hx : x.length < BND) : Ev (fun k => belvedereref1_CompareRows.f k x y) (cr x y) := by
  have := ev_cr_go x y hx x.length 0 (by omega) (by omega) (by omega)
  simpa [belvedereref1_CompareRows.f, cr] using this
end Go.Proofs.Ythegdcodjhbonaa.ThA
