/- Whether two lists of entries are the same. -/
import Derived.Test.YthegdcodjhbonaaZSliceChunksx28
import Derived.Test.YthegdcodjhbonaaZSliceChunksx18
import Derived.Test.YthegdcodjhbonaaZSliceChunksx29
import Derived.Test.YthegdcodjhbonaaZSliceChunksx21
namespace Go.Proofs.Ythegdcodjhbonaa.ThA
open Go.RowKit Go.Proofs.Ythegdcodjhbonaa.PA Go.Proofs.YthegdcodjhbonaaW.PrintWords Go.Proofs.YthegdcodjhbonaaW.PrintLast Go.Proofs.YthegdcodjhbonaaW.PrintMore
theorem sameValue_eq (a b : S41) : belvedereref_SameValue.f a.f0 a.f1 a.f2 b.f0 b.f1 b.f2 = some (decide (cv a b = 0)) := by
  unfold belvedereref_SameValue.f
  have hz := cv_lawful.zero a b
  have hs : a.f2.toList = b.f2.toList ↔ a.f2 = b.f2 := by rw [cmpS_same, cmpS_lawful.zero]
  cases a with
  | mk a0 a1 a2 =>
    cases b with
    | mk b0 b1 b2 =>
      simp only at hs ⊢
      simp only [S41.mk.injEq] at hz
      by_cases h0 : a0 = b0
      · by_cases h1 : a1 = b1
        · rw [if_pos h0, if_pos h1]
          congr 1
          by_cases h2 : a2 = b2
          · rw [decide_eq_true (hz.2 ⟨h0, h1, h2⟩), hs.2 h2]; simp
          · rw [decide_eq_false (fun h => h2 (hz.1 h).2.2)]
            exact beq_eq_false_iff_ne.2 (fun h => h2 (hs.1 h))
        · rw [if_pos h0, if_neg h1, decide_eq_false (fun h => h1 (hz.1 h).2.1)]
      · rw [if_neg h0, decide_eq_false (fun h => h0 (hz.1 h).1)]
theorem ev_sameRow (x y : List S41) (hx : x.length < BND) : Ev (fun k => belvedereref_SameRow.f k x y) (decide (cr x y = 0)) := by
  have hz := cr_lawful.zero x y
  unfold belvedereref_SameRow.f
  by_cases hl : x.length = y.length
  · simp only [if_pos (show (x.length : Int) = (y.length : Int) by omega)]
    have key : ∀ (d n : Nat), x.length - n = d → n ≤ x.length → Ev (fun k => belvedereref_SameRow.l0 k x y (n : Int)) (decide (lexL cv (x.drop n) (y.drop n) = 0)) := by
      intro d
      induction d with
      | zero =>
        intro n hd hn
        rw [List.drop_of_length_le (by omega), List.drop_of_length_le (by omega)]
        refine ⟨1, fun k hk => ?_⟩
        obtain ⟨m, rfl⟩ : ∃ m, k = m + 1 := ⟨k - 1, by omega⟩
        simp only [belvedereref_SameRow.l0]
        rw [if_neg (by omega)]
        rfl
      | succ d ih =>
        intro n hd hn
        have hlt : n < x.length := by omega
        have hlt2 : n < y.length := by omega
        rw [List.drop_eq_getElem_cons hlt, List.drop_eq_getElem_cons hlt2]
        refine Ev.step (f := fun k => if decide (cv x[n] y[n] = 0) = true then belvedereref_SameRow.l0 k x y ((n + 1 : Nat) : Int) else some false) (fun k => ?_) ?_
        · simp only [belvedereref_SameRow.l0]
          rw [if_pos (by omega), if_pos (by omega), if_pos (by omega), rdV hlt, rdV hlt2, wrap_succ (by omega), sameValue_eq]
          rfl
        · simp only [lexL]
          by_cases h0 : cv x[n] y[n] = 0
          · simp only [h0, decide_true, if_true]
            exact ih (n + 1) (by omega) (by omega)
          · simp only [h0, decide_false, if_false, Bool.false_eq_true]
            exact Ev.now _
    exact key x.length 0 (by omega) (by omega)
  · simp only [if_neg (show ¬ (x.length : Int) = (y.length : Int) by omega)]
    rw [decide_eq_false (fun h => hl (by rw [hz.1 h]))]
    exact Ev.now _
/-- Are two lists of entries the same? -/
def sameE (a b : List S36) : Bool := decide (a.length = b.length) && (List.zip a b).all (fun p => decide (p.1.f1 = p.2.f1) && decide (cr p.1.f0 p.2.f0 = 0))
theorem sameE_iff : ∀ {a b : List S36}, sameE a b = true ↔ a = b := by
  intro a
  induction a with
  | nil => intro b; cases b <;> simp [sameE]
  | cons x s ih =>
    intro b
    cases b with
    | nil => simp [sameE]
    | cons y t =>
      have h := @ih t
      unfold sameE at h ⊢
      simp only [List.zip_cons_cons, List.all_cons, List.length_cons, Nat.add_right_cancel_iff, Bool.and_eq_true, decide_eq_true_eq, List.cons.injEq] at h ⊢
      rw [← h, cr_lawful.zero]
      constructor
      · rintro ⟨h1, ⟨h2, h3⟩, h4⟩
        exact ⟨by cases x; cases y; simp at h2 h3; simp [h2, h3], h1, h4⟩
      · rintro ⟨rfl, h1, h4⟩
        exact ⟨h1, ⟨rfl, rfl⟩, h4⟩
theorem ev_same (a b : List S36) (ha : a.length < 1000000) (hr : ∀ e ∈ a, e.f0.length < BND) : Ev (fun k => belvedereref_SameEntries.f k a b) (sameE a b) := by
  unfold belvedereref_SameEntries.f
  by_cases hl : a.length = b.length
  · simp only [if_pos (show (a.length : Int) = (b.length : Int) by omega)]
    have key : ∀ (d n : Nat), a.length - n = d → n ≤ a.length → Ev (fun k => belvedereref_SameEntries.l0 k a b (n : Int)) ((List.zip (a.drop n) (b.drop n)).all (fun p => decide (p.1.f1 = p.2.f1) && decide (cr p.1.f0 p.2.f0 = 0))) := by
      intro d
      induction d with
      | zero =>
        intro n hd hn
        rw [List.drop_of_length_le (by omega), List.drop_of_length_le (by omega)]
        refine ⟨1, fun k hk => ?_⟩
        obtain ⟨m, rfl⟩ : ∃ m, k = m + 1 := ⟨k - 1, by omega⟩
        simp only [belvedereref_SameEntries.l0]
        rw [if_neg (by omega)]
        rfl
      | succ d ih =>
        intro n hd hn
        have hlt : n < a.length := by omega
        have hlt2 : n < b.length := by omega
        rw [List.drop_eq_getElem_cons hlt, List.drop_eq_getElem_cons hlt2]
        refine Ev.step (f := fun k => (belvedereref_SameEntry.f k a[n].f0 a[n].f1 b[n].f0 b[n].f1).bind fun t => if t = true then belvedereref_SameEntries.l0 k a b ((n + 1 : Nat) : Int) else some false) (fun k => ?_) ?_
        · simp only [belvedereref_SameEntries.l0]
          rw [if_pos (by omega), if_pos (by omega), if_pos (by omega), rdE hlt, rdE hlt2, wrap_succ (by unfold BND; omega)]
        · have he : Ev (fun k => belvedereref_SameEntry.f k a[n].f0 a[n].f1 b[n].f0 b[n].f1) (decide (a[n].f1 = b[n].f1) && decide (cr a[n].f0 b[n].f0 = 0)) := by
            unfold belvedereref_SameEntry.f
            by_cases h1 : a[n].f1 = b[n].f1
            · simp only [if_pos h1, decide_eq_true h1, Bool.true_and]
              exact Ev.bind (ev_sameRow _ _ (hr _ (List.getElem_mem hlt))) (Ev.now _)
            · simp only [if_neg h1, decide_eq_false h1, Bool.false_and]
              exact Ev.now _
          refine Ev.bind he ?_
          rw [List.zip_cons_cons, List.all_cons]
          cases hq : (decide (a[n].f1 = b[n].f1) && decide (cr a[n].f0 b[n].f0 = 0)) with
          | true => simp only [if_true, Bool.true_and]; exact ih (n + 1) (by omega) (by omega)
          | false => simp only [Bool.false_eq_true, if_false, Bool.false_and]; exact Ev.now _
    have := key a.length 0 (by omega) (by omega)
    unfold sameE
    rw [decide_eq_true hl, Bool.true_and]
    simpa using this
  · simp only [if_neg (show ¬ (a.length : Int) = (b.length : Int) by omega)]
    unfold sameE
    rw [decide_eq_false hl, Bool.false_and]
    exact Ev.now _
theorem ev_same_true (a : List S36) (ha : a.length < 1000000) (hr : ∀ e ∈ a, e.f0.length < BND) : Ev (fun k => belvedereref_SameEntries.f k a a) true := by
  have := ev_same a a ha hr
  rwa [sameE_iff.2 rfl] at this
end Go.Proofs.Ythegdcodjhbonaa.ThA
