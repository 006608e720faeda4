/- The document's sum of two and what is in one; copies. -/
import Derived.Test.YthegdcodjhbonaaThAT5
import Derived.Test.YthegdcodjhbonaaPAx5
import Derived.Test.YthegdcodjhbonaaPAx6
namespace Go.Proofs.Ythegdcodjhbonaa.ThA
open Go.RowKit Go.Proofs.Ythegdcodjhbonaa.PA Go.Proofs.YthegdcodjhbonaaW.PrintWords Go.Proofs.YthegdcodjhbonaaW.PrintLast Go.Proofs.YthegdcodjhbonaaW.PrintMore

theorem ev_entries (l : List S36) (hl : l.length < 1000000) : Ev (fun k => belvedereref_Entries.f k l) l := by
  have key : ∀ (d n : Nat), l.length - n = d → n ≤ l.length → Ev (fun k => belvedereref_Entries.l0 k l (l.take n) (n : Int)) l := by
    intro d
    induction d with
    | zero =>
      intro n hd hn
      refine ⟨1, fun k hk => ?_⟩
      obtain ⟨m, rfl⟩ : ∃ m, k = m + 1 := ⟨k - 1, by omega⟩
      simp only [belvedereref_Entries.l0]
      rw [if_neg (by omega), List.take_of_length_le (by omega)]
    | succ d ih =>
      intro n hd hn
      have hlt : n < l.length := by omega
      refine Ev.step (f := fun k => belvedereref_Entries.l0 k l (l.take (n + 1)) ((n + 1 : Nat) : Int)) (fun k => ?_) (ih (n + 1) (by omega) (by omega))
      simp only [belvedereref_Entries.l0]
      rw [if_pos (by omega), if_pos (by omega), if_pos (by rw [List.length_take]; omega), rdE hlt, wrap_succ (by unfold BND; omega), List.take_succ_eq_append_getElem hlt]
  refine Ev.congr (fun k => ?_) (key l.length 0 (by omega) (by omega))
  unfold belvedereref_Entries.f
  rw [if_pos (by omega), if_pos (by omega)]
  rfl
theorem ev_add (a b : List S36) (ha : a.length < 200000) (hb : b.length < 200000) (hf : ∀ e ∈ a ++ b, fits e.f1) (hr : ∀ e ∈ a ++ b, e.f0.length < BND) : Ev (fun k => belvedereref1_Add.f k a b) (mkF (a ++ b)) := by
  refine Ev.congr (fun k => by rw [belvedereref1_Add.f]) (Ev.bind (ev_entries a (by omega)) ?_)
  simp only [if_pos (show a.length + b.length < 4398046511104 by omega)]
  exact Ev.bind (ev_make (a ++ b) (by simp; omega) hf hr) (Ev.now _)
theorem ev_get (l : List S36) (r : List S41) (hl : l.length < 1000000) (hr : ∀ e ∈ l, e.f0.length < BND) : Ev (fun k => belvedereref1_Get.f k l r) (get l r) := by
  have key : ∀ (d n : Nat), l.length - n = d → n ≤ l.length → Ev (fun k => belvedereref1_Get.l0 k l r (n : Int)) (get (l.drop n) r) := by
    intro d
    induction d with
    | zero =>
      intro n hd hn
      rw [List.drop_of_length_le (by omega)]
      refine ⟨1, fun k hk => ?_⟩
      obtain ⟨m, rfl⟩ : ∃ m, k = m + 1 := ⟨k - 1, by omega⟩
      simp only [belvedereref1_Get.l0]
      rw [if_neg (by omega)]
      rfl
    | succ d ih =>
      intro n hd hn
      have hlt : n < l.length := by omega
      rw [List.drop_eq_getElem_cons hlt, get]
      refine Ev.step (f := fun k => (belvedereref1_CompareRows.f k l[n].f0 r).bind fun t => if t = 0 then some l[n].f1 else belvedereref1_Get.l0 k l r ((n + 1 : Nat) : Int)) (fun k => ?_) (Ev.bind (ev_cr _ _ (hr _ (List.getElem_mem hlt))) ?_)
      · simp only [belvedereref1_Get.l0]
        rw [if_pos (by omega), if_pos (by omega), rdE hlt, wrap_succ (by unfold BND; omega)]
      · by_cases h0 : cr l[n].f0 r = 0
        · simp only [if_pos h0]; exact Ev.now _
        · simp only [if_neg h0]; exact ih (n + 1) (by omega) (by omega)
  have := key l.length 0 (by omega) (by omega)
  simpa [belvedereref1_Get.f] using this
/-- Distinct things among others are no more than they. -/
theorem nodup_le {α : Type} : ∀ {l m : List α}, l.Pairwise (· ≠ ·) → (∀ x ∈ l, x ∈ m) → l.length ≤ m.length := by
  intro l
  induction l with
  | nil => intro m _ _; simp
  | cons x t ih =>
    intro m hn hs
    have hx := List.pairwise_cons.1 hn
    obtain ⟨p, q, rfl⟩ := List.append_of_mem (hs x List.mem_cons_self)
    have := ih (m := p ++ q) hx.2 (fun y hy => by
      have h1 := hs y (List.mem_cons_of_mem _ hy)
      have h2 := hx.1 y hy
      simp only [List.mem_append, List.mem_cons] at h1 ⊢
      rcases h1 with h | h | h
      · exact .inl h
      · exact absurd h.symm h2
      · exact .inr h)
    simp only [List.length_append, List.length_cons] at this ⊢
    omega
theorem srt_le {a b : List S36} (ha : Srt a) (h : ∀ e ∈ a, ∃ x ∈ b, x.f0 = e.f0) : a.length ≤ b.length := by
  have h1 : (a.map S36.f0).Pairwise (· ≠ ·) := by
    rw [List.pairwise_map]
    exact List.Pairwise.imp (fun h => cr_ne h) ha
  have := nodup_le (m := b.map S36.f0) h1 (fun x hx => by
    obtain ⟨e, he, rfl⟩ := List.mem_map.1 hx
    obtain ⟨y, hy, hk⟩ := h e he
    exact List.mem_map.2 ⟨y, hy, hk⟩)
  simpa using this
theorem get_ne {l : List S36} {e : S36} (hc : Canon l) (he : e ∈ l) : get l e.f0 ≠ 0 := by
  rw [get_mem hc.1 he]; exact hc.2 e he
end Go.Proofs.Ythegdcodjhbonaa.ThA
