/- Of two z-sets together, each row once: it has what either has, where both are above none; more rows never leave fewer: for every list of whole numbers. -/
import Derived.Test.YthegdcodjhbonaaPAx7
import Derived.Test.YthegdcodjhbonaaThAT7
namespace Go.Proofs.Ythegdcodjhbonaa.Pure
open Go.RowKit Go.Proofs.Ythegdcodjhbonaa.PA Go.Proofs.YthegdcodjhbonaaW.PrintWords Go.Proofs.YthegdcodjhbonaaW.PrintLast
open Go.Proofs.Ythegdcodjhbonaa.ThA

theorem OnceSums : belvederelaw13_OnceSums.Pure := by
  intro l0 _ _ hw
  have hL : ∀ x ∈ l0, fits x := fun x hx => fits_of_wf (hw x hx)
  apply Ev.rounds
  unfold belvederelaw13_OnceSums.f belvederelaw13_first.f
  simp only [Option.bind_some, if_true]
  by_cases hlen : (l0.length : Int) > 150
  · simp only [if_pos hlen]; exact Ev.now _
  · simp only [if_neg hlen, newS26.f, Option.bind_some]
    have hk : Kinds [1, 3] := by intro c hc; simp at hc; omega
    obtain ⟨x, a1, ex, p1, p2, hx⟩ := set_ok l0 hL [1, 3] hk (by simp) 10 (by omega) (by omega) 0 (by omega) (by omega)
    obtain ⟨y, a2, ey, p3, p4, hy⟩ := set_ok l0 hL [1, 3] hk (by simp) 10 (by omega) (by omega) a1 (by omega) (by simp at p2; omega)
    have rowB : ∀ z : List S36, SetOK [1, 3] 10 z → ∀ e ∈ z, e.f0.length = 2 := fun z hz e he => (hz.2.2 e he).1.1
    have oB : ∀ z : List S36, SetOK [1, 3] 10 z → ∀ e ∈ onceF z, e.f0.length = 2 := fun z hz e he => by
      obtain ⟨q, hq, hk, _⟩ := once_from e he
      rw [← hk]; exact rowB z hz q hq
    have lx := hx.2.1
    have ly := hy.2.1
    have lox := once_length x
    have loy := once_length y
    refine Ev.bind ex (Ev.bind (ev_once x (by omega) (fun e he => by rw [rowB x hx e he]; omega)) (Ev.bind ey (Ev.bind (ev_once y (by omega) (fun e he => by rw [rowB y hy e he]; omega)) ?_)))
    have ca := once_canon hx.1.1
    have cb := once_canon hy.1.1
    have hab1 : ∀ e ∈ onceF x ++ onceF y, e.f1 = 1 := fun e he => by
      rcases List.mem_append.1 he with he | he
      · exact once_one e he
      · exact once_one e he
    have habr : ∀ e ∈ onceF x ++ onceF y, e.f0.length = 2 := fun e he => by
      rcases List.mem_append.1 he with he | he
      · exact oB x hx e he
      · exact oB y hy e he
    have hg := gat_small (onceF x ++ onceF y) 1 (by omega) (fun e he => by rw [hab1 e he]; omega)
    have hmk : mkF (onceF x ++ onceF y) = (mk (onceF x ++ onceF y), 0) := by
      unfold mkF
      rw [if_pos (fun e he => by have := hg e he; simp at this; unfold fits; omega)]
    have hadd := ev_add (onceF x) (onceF y) (by omega) (by omega) (fun e he => by rw [hab1 e he]; unfold fits; omega) (fun e he => by rw [habr e he]; unfold BND; omega)
    rw [hmk] at hadd
    refine Ev.bind hadd ?_
    have cs := mk_canon (onceF x ++ onceF y)
    have sl := mk_length (onceF x ++ onceF y)
    rw [List.length_append] at sl
    have sr : ∀ e ∈ mk (onceF x ++ onceF y), e.f0.length = 2 := fun e he => mk_keys (P := fun r => r.length = 2) habr e he
    refine Ev.bind (ev_once (mk (onceF x ++ onceF y)) (by omega) (fun e he => by rw [sr e he]; omega)) ?_
    -- what the sum is
    have gs : ∀ r, get (mk (onceF x ++ onceF y)) r = get (onceF x) r + get (onceF y) r := fun r => by
      rw [get_mk, sumw_append, sumw_srt ca.1, sumw_srt cb.1]
    have ga : ∀ r, get (onceF x) r = 0 ∨ get (onceF x) r = 1 := fun r => by rw [get_once hx.1.1]; split <;> simp
    have gb : ∀ r, get (onceF y) r = 0 ∨ get (onceF y) r = 1 := fun r => by rw [get_once hy.1.1]; split <;> simp
    have go_ : ∀ e ∈ onceF (mk (onceF x ++ onceF y)), get (onceF x) e.f0 + get (onceF y) e.f0 ≥ 1 := fun e he => by
      obtain ⟨q, hq, hk, hp⟩ := once_from e he
      have h1 := get_mem cs.1 hq
      rw [hk, gs] at h1
      omega
    have pos : ∀ e ∈ mk (onceF x ++ onceF y), e.f1 > 0 := fun e he => by
      have h1 := get_mem cs.1 he
      have h2 := cs.2 e he
      rw [gs] at h1
      have := ga e.f0
      have := gb e.f0
      omega
    have hlo : (onceF (mk (onceF x ++ onceF y))).length = (mk (onceF x ++ onceF y)).length := by
      unfold onceF
      rw [List.length_map, List.filter_eq_self.2 (fun e he => by simpa using pos e he)]
    have sub : ∀ z : List S36, Canon z → (∀ r, get z r ≠ 0 → get (mk (onceF x ++ onceF y)) r ≠ 0) → z.length ≤ (mk (onceF x ++ onceF y)).length := fun z hz h => srt_le hz.1 (fun e he => by
      have h1 := mem_of_get (h e.f0 (get_ne hz he))
      exact ⟨_, h1, rfl⟩)
    have la := sub _ ca (fun r h => by rw [gs]; have := ga r; have := gb r; omega)
    have lb := sub _ cb (fun r h => by rw [gs]; have := ga r; have := gb r; omega)
    generalize hs : mk (onceF x ++ onceF y) = s at *
    have hro : ∀ e ∈ onceF s, e.f0.length = 2 := fun e he => by
      obtain ⟨q, hq, hk, _⟩ := once_from e he
      rw [← hk]; exact sr q hq
    -- the loop
    have key : ∀ (d n : Nat), (onceF s).length - n = d → n ≤ (onceF s).length → Ev (fun k => belvederelaw13_OnceSums.l0 k true (onceF x) (onceF y) s 0 (onceF s) (n : Int)) true := by
      intro d
      induction d with
      | zero =>
        intro n hd hn
        refine ⟨1, fun k hk => ?_⟩
        obtain ⟨m, rfl⟩ : ∃ m, k = m + 1 := ⟨k - 1, by omega⟩
        simp only [belvederelaw13_OnceSums.l0]
        rw [if_neg (by omega), if_pos trivial, if_pos trivial, if_pos (by omega), if_pos (by omega)]
        simp
        omega
      | succ d ih =>
        intro n hd hn
        have hlt : n < (onceF s).length := by omega
        have hmem := List.getElem_mem hlt
        refine Ev.step (f := fun k => (belvedereref1_Get.f k (onceF x) (onceF s)[n].f0).bind fun t => (belvedereref1_Get.f k (onceF y) (onceF s)[n].f0).bind fun u => if wrap64 (t + u) < 1 then some false else if (onceF s)[n].f1 = 1 then belvederelaw13_OnceSums.l0 k true (onceF x) (onceF y) s 0 (onceF s) ((n + 1 : Nat) : Int) else some false) (fun k => ?_) ?_
        · simp only [belvederelaw13_OnceSums.l0]
          rw [if_pos (by omega), if_pos (by omega), rdE hlt, wrap_succ (by unfold BND; omega)]
        · refine Ev.bind (ev_get (onceF x) _ (by omega) (fun e he => by rw [oB x hx e he]; unfold BND; omega)) (Ev.bind (ev_get (onceF y) _ (by omega) (fun e he => by rw [oB y hy e he]; unfold BND; omega)) ?_)
          have h1 := go_ _ hmem
          have h2 := once_one _ hmem
          have h3 := ga (onceF s)[n].f0
          have h4 := gb (onceF s)[n].f0
          have hw : wrap64 (get (onceF x) (onceF s)[n].f0 + get (onceF y) (onceF s)[n].f0) = get (onceF x) (onceF s)[n].f0 + get (onceF y) (onceF s)[n].f0 := by unfold wrap64; omega
          simp only [hw, if_neg (show ¬ (get (onceF x) (onceF s)[n].f0 + get (onceF y) (onceF s)[n].f0 < 1) by omega), if_pos h2]
          exact ih (n + 1) (by omega) (by omega)
    exact key (onceF s).length 0 (by omega) (by omega)

end Go.Proofs.Ythegdcodjhbonaa.Pure
