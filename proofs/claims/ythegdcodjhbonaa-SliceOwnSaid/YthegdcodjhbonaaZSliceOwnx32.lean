/- What is handed out of a z-set is not what was handed in: changing it leaves the z-set as it was: for every list of whole numbers. -/
import Derived.Test.YthegdcodjhbonaaZSliceOwnx22
import Derived.Test.YthegdcodjhbonaaZSliceOwnx30
import Derived.Test.YthegdcodjhbonaaZSliceOwnx31
namespace Go.Proofs.Ythegdcodjhbonaa.Pure
open Go.RowKit Go.Proofs.Ythegdcodjhbonaa.PA Go.Proofs.YthegdcodjhbonaaW.PrintWords Go.Proofs.YthegdcodjhbonaaW.PrintLast
open Go.Proofs.Ythegdcodjhbonaa.ThA
theorem SliceOwn : belvederelaw4_SliceOwn.Pure := by
  intro l0 _ _ hw
  have hL : ∀ x ∈ l0, fits x := fun x hx => fits_of_wf (hw x hx)
  apply Ev.rounds
  unfold belvederelaw4_SliceOwn.f belvederelaw4_first.f
  simp only [Option.bind_some, if_true]
  by_cases hlen : (l0.length : Int) > 120
  · simp only [if_pos hlen]; exact Ev.now _
  · simp only [if_neg hlen, newS26.f, Option.bind_some]
    have hk : Kinds [1, 3] := by intro c hc; simp at hc; omega
    obtain ⟨z, a1, ez, p1, p2, hz⟩ := set_ok l0 hL [1, 3] hk (by simp) 10 (by omega) (by omega) 0 (by omega) (by omega)
    have hr : ∀ e ∈ z, e.f0.length = 2 := fun e he => (hz.2.2 e he).1.1
    have lz := hz.2.1
    refine Ev.bind ez (Ev.bind (ev_entries z (by omega)) (Ev.bind (ev_after z hz.1.1 (by omega) (fun e he => by rw [hr e he]; omega) [] false (z.length : Int)) ?_))
    have e0 : (restF z [] false).take ((z.length : Int)).toNat = z := by
      unfold restF
      simp
    rw [e0]
    have k2 : ∀ (o : List S36), o.length = z.length + 1 → ∀ (d n : Nat) (b : List S36), b.length - n = d → n ≤ b.length → b.length < 1000000 → Ev (fun k => belvederelaw4_SliceOwn.l1 k true z z o b (n : Int)) true := by
      intro o ho d
      induction d with
      | zero =>
        intro n b hd hn hb
        refine Ev.step (f := fun k => (belvedereref_SameEntries.f k z z).bind fun t => if t = true then some ((o.length : Int) == wrap64 ((z.length : Int) + 1)) else some false) (fun k => ?_) (Ev.bind (ev_same_true z (by omega) (fun e he => by rw [hr e he]; unfold BND; omega)) ?_)
        · simp only [belvederelaw4_SliceOwn.l1]
          rw [if_neg (by omega), if_pos trivial]
        · simp only [if_true]
          rw [wrap_succ (by unfold BND; omega), ho]
          simp only [beq_self_eq_true]
          exact Ev.now _
      | succ d ih =>
        intro n b hd hn hb
        have hlt : n < b.length := by omega
        refine Ev.step (f := fun k => belvederelaw4_SliceOwn.l1 k true z z o (b.set n ⟨[], b[n].f1⟩) ((n + 1 : Nat) : Int)) (fun k => ?_) (ih (n + 1) (b.set n ⟨[], b[n].f1⟩) (by rw [set_len]; omega) (by rw [set_len]; omega) (by rw [set_len]; exact hb))
        simp only [belvederelaw4_SliceOwn.l1]
        rw [if_pos (by omega), if_pos (by omega), rdE hlt, wrap_succ (by unfold BND; omega)]
        rfl
    have k1 : ∀ (d n : Nat) (o : List S36), o.length - n = d → n ≤ o.length → o.length = z.length → Ev (fun k => belvederelaw4_SliceOwn.l0 k true z z o (n : Int)) true := by
      intro d
      induction d with
      | zero =>
        intro n o hd hn ho
        refine Ev.step (f := fun k => (slice_Upto.f k z [(⟨3, 1, (⟨#[]⟩ : ByteArray)⟩ : S41)] true).bind fun t => belvederelaw4_SliceOwn.l1 k true z z (o ++ [(⟨([] : List (S41)), 5⟩ : S36)]) t 0) (fun k => ?_) (Ev.bind (ev_upto z hz.1.1 (by omega) (fun e he => by rw [hr e he]; omega) _ true) ?_)
        · simp only [belvederelaw4_SliceOwn.l0]
          rw [if_neg (by omega), if_pos (by omega)]
        · refine k2 _ (by simp; omega) _ 0 _ rfl (by omega) ?_
          unfold uptoF
          simp only [if_true]
          exact Nat.lt_of_le_of_lt (List.length_filter_le _ _) (by omega)
      | succ d ih =>
        intro n o hd hn ho
        have hlt : n < o.length := by omega
        refine Ev.step (f := fun k => belvederelaw4_SliceOwn.l0 k true z z (o.set n ⟨o[n].f0, 7777⟩) ((n + 1 : Nat) : Int)) (fun k => ?_) (ih (n + 1) (o.set n ⟨o[n].f0, 7777⟩) (by rw [set_len]; omega) (by rw [set_len]; omega) (by rw [set_len]; exact ho))
        simp only [belvederelaw4_SliceOwn.l0]
        rw [if_pos (by omega), if_pos (by omega), rdE hlt, wrap_succ (by unfold BND; omega)]
        rfl
    exact k1 z.length 0 z (by omega) (by omega) rfl
end Go.Proofs.Ythegdcodjhbonaa.Pure
