/- The document's sum of two and what is in one; copies. -/
import Derived.Test.YthegdcodjhbonaaZSliceOwnx27
import Derived.Test.YthegdcodjhbonaaZSliceOwnx18
import Derived.Test.YthegdcodjhbonaaZSliceOwnx28
namespace Go.Proofs.Ythegdcodjhbonaa.ThA
open Go.RowKit Go.Proofs.Ythegdcodjhbonaa.PA Go.Proofs.YthegdcodjhbonaaW.PrintWords Go.Proofs.YthegdcodjhbonaaW.PrintLast Go.Proofs.YthegdcodjhbonaaW.PrintMore
theorem ev_entries (l : List S36) (hl : l.length < 1000000) : Ev (fun k => belvedereref_Entries.f k l) l := by
  have key : ∀ (d n : Nat), l.length - n = d → n ≤ l.length → Ev (fun k => belvedereref_Entries.l0 k l (l.take n) (n : Int)) l := by
    intro d
    induction d with
    | zero =>
      intro n hd hn
      refine ⟨1, fun k hk => ?_⟩
      obtain ⟨m, rfl⟩ : ∃ m, k = m + 1 := ⟨k - 1, by omega⟩
      simp only [belvedereref_Entries.l0]
      rw [if_neg (by omega), List.take_of_length_le (by omega)]
    | succ d ih =>
      intro n hd hn
      have hlt : n < l.length := by omega
      refine Ev.step (f := fun k => belvedereref_Entries.l0 k l (l.take (n + 1)) ((n + 1 : Nat) : Int)) (fun k => ?_) (ih (n + 1) (by omega) (by omega))
      simp only [belvedereref_Entries.l0]
      rw [if_pos (by omega), if_pos (by omega), if_pos (by rw [List.length_take]; omega), rdE hlt, wrap_succ (by unfold BND; omega), List.take_succ_eq_append_getElem hlt]
  refine Ev.congr (fun k => ?_) (key l.length 0 (by omega) (by omega))
  unfold belvedereref_Entries.f
  rw [if_pos (by omega), if_pos (by omega)]
  rfl
end Go.Proofs.Ythegdcodjhbonaa.ThA
