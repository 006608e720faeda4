/- The program's copies of rows and of each row once. -/
import Derived.Test.YthegdcodjhbonaaThAT6
import Derived.Test.YthegdcodjhbonaaPAx1
import Derived.Test.YthegdcodjhbonaaPAx1
namespace Go.Proofs.Ythegdcodjhbonaa.ThA
open Go.RowKit Go.Proofs.Ythegdcodjhbonaa.PA Go.Proofs.YthegdcodjhbonaaW.PrintWords Go.Proofs.YthegdcodjhbonaaW.PrintLast Go.Proofs.YthegdcodjhbonaaW.PrintMore

theorem copy_eq (r : List S41) (h : r.length < 4398046511103) : row_Copy.f r = some r := by
  unfold row_Copy.f slices_Clone_Row.f
  rw [if_pos (by omega)]
  rfl
def onceF (l : List S36) : List S36 := (l.filter (fun e => decide (e.f1 > 0))).map (fun e => ⟨e.f0, 1⟩)
theorem ev_once (l : List S36) (hl : l.length < 1000000) (hr : ∀ e ∈ l, e.f0.length < 4398046511103) : Ev (fun k => once_Once.f k l) (onceF l) := by
  have key : ∀ (d n : Nat) (o : List S36), l.length - n = d → n ≤ l.length → o.length ≤ n → Ev (fun k => once_Once.l0 k o l (l.length : Int) (n : Int)) (o ++ onceF (l.drop n)) := by
    intro d
    induction d with
    | zero =>
      intro n o hd hn ho
      rw [List.drop_of_length_le (by omega)]
      refine ⟨1, fun k hk => ?_⟩
      obtain ⟨m, rfl⟩ : ∃ m, k = m + 1 := ⟨k - 1, by omega⟩
      simp only [once_Once.l0]
      rw [if_neg (by omega)]
      simp [onceF]
    | succ d ih =>
      intro n o hd hn ho
      have hlt : n < l.length := by omega
      rw [List.drop_eq_getElem_cons hlt]
      by_cases h0 : l[n].f1 > 0
      · have e : onceF (l[n] :: l.drop (n + 1)) = ⟨l[n].f0, 1⟩ :: onceF (l.drop (n + 1)) := by
          unfold onceF
          rw [List.filter_cons_of_pos (by simpa using h0)]
          rfl
        rw [e]
        refine Ev.step (f := fun k => once_Once.l0 k (o ++ [⟨l[n].f0, 1⟩]) l (l.length : Int) ((n + 1 : Nat) : Int)) (fun k => ?_) ?_
        · simp only [once_Once.l0]
          rw [if_pos (by omega), if_pos (by omega), if_pos (by omega), rdE hlt, if_pos h0, copy_eq _ (hr _ (List.getElem_mem hlt)), wrap_succ (by unfold BND; omega)]
          simp only [Option.bind_some]
          rw [if_pos (by omega)]
        · have := ih (n + 1) (o ++ [⟨l[n].f0, 1⟩]) (by omega) (by omega) (by simp; omega)
          simpa using this
      · have e : onceF (l[n] :: l.drop (n + 1)) = onceF (l.drop (n + 1)) := by
          unfold onceF
          rw [List.filter_cons_of_neg (by simpa using h0)]
        rw [e]
        refine Ev.step (f := fun k => once_Once.l0 k o l (l.length : Int) ((n + 1 : Nat) : Int)) (fun k => ?_) (ih (n + 1) o (by omega) (by omega) (by omega))
        simp only [once_Once.l0]
        rw [if_pos (by omega), if_pos (by omega), if_pos (by omega), rdE hlt, if_neg h0, wrap_succ (by unfold BND; omega)]
  have := key l.length 0 [] (by omega) (by omega) (by simp)
  simpa [once_Once.f] using this
theorem once_srt {l : List S36} (h : Srt l) : Srt (onceF l) := by
  unfold onceF Srt
  rw [List.pairwise_map]
  exact List.Pairwise.filter _ h
theorem once_one {l : List S36} : ∀ e ∈ onceF l, e.f1 = 1 := by
  intro e he
  obtain ⟨x, _, rfl⟩ := List.mem_map.1 he
  rfl
theorem once_canon {l : List S36} (h : Srt l) : Canon (onceF l) := ⟨once_srt h, fun e he => by rw [once_one e he]; omega⟩
theorem once_from {l : List S36} : ∀ e ∈ onceF l, ∃ x ∈ l, x.f0 = e.f0 ∧ x.f1 > 0 := by
  intro e he
  obtain ⟨x, hx, rfl⟩ := List.mem_map.1 he
  have := List.mem_filter.1 hx
  exact ⟨x, this.1, rfl, by simpa using this.2⟩
theorem once_length (l : List S36) : (onceF l).length ≤ l.length := by
  unfold onceF
  rw [List.length_map]
  exact List.length_filter_le _ _
theorem get_once {l : List S36} (h : Srt l) (r : List S41) : get (onceF l) r = if get l r > 0 then 1 else 0 := by
  induction l with
  | nil => simp [onceF, get]
  | cons x t ih =>
    have hx := List.pairwise_cons.1 h
    by_cases h0 : x.f1 > 0
    · have e : onceF (x :: t) = ⟨x.f0, 1⟩ :: onceF t := by
        unfold onceF
        rw [List.filter_cons_of_pos (by simpa using h0)]
        rfl
      rw [e, get, get, ih hx.2]
      by_cases h1 : cr x.f0 r = 0
      · simp only [h1, if_true]; rw [if_pos h0]
      · simp only [if_neg h1]
    · have e : onceF (x :: t) = onceF t := by
        unfold onceF
        rw [List.filter_cons_of_neg (by simpa using h0)]
      rw [e, get, ih hx.2]
      by_cases h1 : cr x.f0 r = 0
      · have e2 := cr_eq h1
        subst e2
        rw [if_pos h1, if_neg h0, get_none (l := t) (r := x.f0) (fun y hy => by have h3 := hx.1 y hy; have h4 := cr_lawful.anti x.f0 y.f0; omega)]
        simp
      · rw [if_neg h1]
end Go.Proofs.Ythegdcodjhbonaa.ThA
