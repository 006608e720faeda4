/- The program's order of rows, its search in a z-set, and the parts of a z-set that it hands out. -/
import Derived.Test.YthegdcodjhbonaaZSliceChunksx28
import Derived.Test.YthegdcodjhbonaaZSliceChunksx18
import Derived.Test.YthegdcodjhbonaaZSliceChunksx29
import Derived.Test.YthegdcodjhbonaaZSliceChunksx19
import Derived.Test.YthegdcodjhbonaaZSliceChunksx20
import Derived.Test.YthegdcodjhbonaaZSliceChunksx22
namespace Go.Proofs.Ythegdcodjhbonaa.ThA
open Go.RowKit Go.Proofs.Ythegdcodjhbonaa.PA Go.Proofs.YthegdcodjhbonaaW.PrintWords Go.Proofs.YthegdcodjhbonaaW.PrintLast Go.Proofs.YthegdcodjhbonaaW.PrintMore
theorem compare_int_eq (a b : Int) : cmp_Compare_int.f a b = some (cmpI a b) := by
  unfold cmp_Compare_int.f cmp_isNaN_int.f cmpI
  simp only [Option.bind_some, bne_self_eq_false, Bool.false_eq_true, if_false]
  split
  · rfl
  · split <;> simp_all
theorem compare_int64_eq (a b : Int) : cmp_Compare_int64.f a b = some (cmpI a b) := by
  unfold cmp_Compare_int64.f cmp_isNaN_int64.f cmpI
  simp only [Option.bind_some, bne_self_eq_false, Bool.false_eq_true, if_false]
  split
  · rfl
  · split <;> simp_all
theorem compare_str_eq (a b : ByteArray) : strings_Compare.f a b = some (cmpS a b) := by
  unfold strings_Compare.f bytealg_CompareString.f cmpS
  rw [compareBytes_eq]
  rfl
def orF : List Int → Int
  | [] => 0
  | a :: t => if a = 0 then orF t else a
theorem ev_orF (l : List Int) (hl : l.length < 1000) : Ev (fun k => cmp_Or_int.f k l) (orF l) := by
  have key : ∀ (d n : Nat), l.length - n = d → n ≤ l.length → Ev (fun k => cmp_Or_int.l0 k 0 l (l.length : Int) (n : Int)) (orF (l.drop n)) := by
    intro d
    induction d with
    | zero =>
      intro n hd hn
      rw [List.drop_of_length_le (by omega)]
      refine ⟨1, fun k hk => ?_⟩
      obtain ⟨m, rfl⟩ : ∃ m, k = m + 1 := ⟨k - 1, by omega⟩
      simp only [cmp_Or_int.l0]
      rw [if_neg (by omega)]
      rfl
    | succ d ih =>
      intro n hd hn
      have hlt : n < l.length := by omega
      rw [List.drop_eq_getElem_cons hlt, orF]
      refine Ev.step (f := fun k => if l[n] = 0 then cmp_Or_int.l0 k 0 l (l.length : Int) ((n + 1 : Nat) : Int) else some l[n]) (fun k => ?_) ?_
      · simp only [cmp_Or_int.l0]
        rw [if_pos (by omega), if_pos (by omega), if_pos (by omega), rdI hlt, wrap_succ (by unfold BND; omega)]
      · by_cases h0 : l[n] = 0
        · simp only [if_pos h0]; exact ih (n + 1) (by omega) (by omega)
        · simp only [if_neg h0]; exact Ev.now _
  exact key l.length 0 (by omega) (by omega)
theorem ev_or (x y z : Int) : Ev (fun k => cmp_Or_int.f k [x, y, z]) (andThen x (andThen y z)) := by
  have h := ev_orF [x, y, z] (by simp)
  have e : orF [x, y, z] = andThen x (andThen y z) := by
    unfold andThen
    simp only [orF]
    by_cases h1 : x = 0
    · by_cases h2 : y = 0
      · by_cases h3 : z = 0 <;> simp [h1, h2, h3]
      · simp [h1, h2]
    · simp [h1]
  rwa [e] at h
theorem ev_vcmp (a b : S41) : Ev (fun k => value_Compare.f k a.f0 a.f1 a.f2 b.f0 b.f1 b.f2) (cv a b) := by
  unfold value_Compare.f
  simp only [compare_int_eq, compare_int64_eq, compare_str_eq, Option.bind_some]
  exact Ev.bind (ev_or _ _ _) (Ev.now _)
theorem ev_rcmp (x y : List S41) (hx : x.length < BND) : Ev (fun k => row_Compare.f k x y) (cr x y) := by
  have key : ∀ (d n : Nat), x.length - n = d → n ≤ x.length → n ≤ y.length → Ev (fun k => slices_CompareFunc_Row.l0 k x y x (x.length : Int) (n : Int)) (lexL cv (x.drop n) (y.drop n)) := by
    intro d
    induction d with
    | zero =>
      intro n hd h1 h2
      refine ⟨1, fun k hk => ?_⟩
      obtain ⟨m, rfl⟩ : ∃ m, k = m + 1 := ⟨k - 1, by omega⟩
      simp only [slices_CompareFunc_Row.l0]
      rw [if_neg (by omega), List.drop_of_length_le (by omega : x.length ≤ n)]
      by_cases h3 : x.length < y.length
      · obtain ⟨b, t, e⟩ : ∃ b t, y.drop n = b :: t := by
          rcases hq : y.drop n with _ | ⟨b, t⟩
          · have := congrArg List.length hq; simp at this; omega
          · exact ⟨b, t, rfl⟩
        rw [if_pos (by omega), e]
        rfl
      · rw [if_neg (by omega), List.drop_of_length_le (by omega : y.length ≤ n)]
        rfl
    | succ d ih =>
      intro n hd h1 h2
      have hn : n < x.length := by omega
      by_cases h3 : n < y.length
      · refine Ev.step (f := fun k => (value_Compare.f k x[n].f0 x[n].f1 x[n].f2 y[n].f0 y[n].f1 y[n].f2).bind fun t => if t = 0 then slices_CompareFunc_Row.l0 k x y x (x.length : Int) ((n + 1 : Nat) : Int) else some t) (fun k => ?_) (Ev.bind (ev_vcmp x[n] y[n]) ?_)
        · simp only [slices_CompareFunc_Row.l0]
          rw [if_pos (by omega), if_pos (by omega), if_pos (by omega), if_neg (by omega), if_pos (by omega), rdV hn, rdV h3, wrap_succ (by omega)]
        · rw [List.drop_eq_getElem_cons hn, List.drop_eq_getElem_cons h3]
          simp only [lexL]
          by_cases h4 : cv x[n] y[n] = 0
          · simp only [h4, if_true]
            exact ih (n + 1) (by omega) (by omega) (by omega)
          · simp only [if_neg h4]
            exact Ev.now _
      · refine ⟨1, fun k hk => ?_⟩
        obtain ⟨m, rfl⟩ : ∃ m, k = m + 1 := ⟨k - 1, by omega⟩
        simp only [slices_CompareFunc_Row.l0]
        rw [if_pos (by omega), if_pos (by omega), if_pos (by omega), if_pos (by omega), List.drop_of_length_le (by omega : y.length ≤ n), List.drop_eq_getElem_cons hn]
        rfl
  have := key x.length 0 (by omega) (by omega) (by omega)
  unfold row_Compare.f slices_CompareFunc_Row.f
  refine Ev.bind (a := cr x y) ?_ (Ev.now _)
  exact this
/-- Is an entry ahead of a row (or, with it, at it)? -/
def ahead (r : List S41) (w : Bool) (e : S36) : Bool := !(decide (cr e.f0 r > 0) || (decide (cr e.f0 r = 0) && !w))
theorem ahead_true {r : List S41} {e : S36} : ahead r true e = decide (cr e.f0 r ≤ 0) := by
  unfold ahead
  by_cases h : cr e.f0 r > 0
  · simp [h]
  · simp [h]; omega
theorem ahead_false {r : List S41} {e : S36} : ahead r false e = decide (cr e.f0 r < 0) := by
  unfold ahead
  by_cases h : cr e.f0 r > 0
  · simp [h]; omega
  · by_cases h2 : cr e.f0 r = 0
    · simp [h2]
    · simp [h, h2]; omega
theorem ahead_mono {z : List S36} (hs : Srt z) {r : List S41} {w : Bool} {i j : Nat} (hi : i < z.length) (hj : j < z.length) (hij : i ≤ j) (h : ahead r w z[j] = true) : ahead r w z[i] = true := by
  rcases Nat.lt_or_ge i j with h1 | h1
  · have h2 := List.pairwise_iff_getElem.1 hs i j hi hj h1
    have h3 : cr z[j].f0 r ≤ 0 := by
      cases w with
      | true => rw [ahead_true] at h; exact of_decide_eq_true h
      | false => rw [ahead_false] at h; have := of_decide_eq_true h; omega
    have h4 : cr z[i].f0 r = -1 := by
      by_cases h5 : cr z[j].f0 r = 0
      · rw [← cr_eq h5]; exact h2
      · have := cr_lawful.rng z[j].f0 r
        exact cr_lawful.tr _ _ _ h2 (by omega)
    cases w with
    | true => rw [ahead_true]; exact decide_eq_true (by omega)
    | false => rw [ahead_false]; exact decide_eq_true (by omega)
  · have : i = j := by omega
    subst this; exact h
theorem parted {α : Type} {P : α → Bool} : ∀ {l : List α} {p : Nat}, p ≤ l.length → (∀ j (h : j < l.length), j < p → P l[j] = true) → (∀ j (h : j < l.length), p ≤ j → P l[j] = false) → l.take p = l.filter P ∧ l.drop p = l.filter (fun x => !P x) := by
  intro l
  induction l with
  | nil => intro p _ _ _; simp
  | cons x t ih =>
    intro p hp h1 h2
    cases p with
    | zero =>
      have h3 : ∀ y ∈ x :: t, P y = false := by
        intro y hy
        obtain ⟨j, hj, rfl⟩ := List.getElem_of_mem hy
        exact h2 j hj (by omega)
      rw [List.filter_eq_nil_iff.2 (fun y hy => by rw [h3 y hy]; simp), List.filter_eq_self.2 (fun y hy => by rw [h3 y hy]; rfl)]
      exact ⟨rfl, rfl⟩
    | succ p =>
      have hx : P x = true := h1 0 (by simp) (by omega)
      obtain ⟨e1, e2⟩ := ih (p := p) (by simp at hp; omega) (fun j hj hjp => h1 (j + 1) (by simp; omega) (by omega)) (fun j hj hjp => h2 (j + 1) (by simp; omega) (by omega))
      rw [List.filter_cons_of_pos hx, List.filter_cons_of_neg (by simp [hx])]
      exact ⟨by rw [List.take_succ_cons, e1], by rw [List.drop_succ_cons, e2]⟩
theorem ev_below (z : List S36) (hs : Srt z) (hl : z.length < 1000000) (hr : ∀ e ∈ z, e.f0.length < BND) (r : List S41) (w : Bool) :
    ∃ p : Nat, p ≤ z.length ∧ Ev (fun k => slice_below.f k z r w) (p : Int) ∧ z.take p = z.filter (ahead r w) ∧ z.drop p = z.filter (fun e => !ahead r w e) := by
  have key : ∀ (d i j : Nat), j - i = d → i ≤ j → j ≤ z.length → (∀ q (h : q < z.length), q < i → ahead r w z[q] = true) → (∀ q (h : q < z.length), j ≤ q → ahead r w z[q] = false) →
      ∃ p : Nat, p ≤ z.length ∧ Ev (fun k => slice_below.l0 k z r w (i : Int) (j : Int)) (p : Int) ∧ (∀ q (h : q < z.length), q < p → ahead r w z[q] = true) ∧ (∀ q (h : q < z.length), p ≤ q → ahead r w z[q] = false) := by
    intro d
    induction d using Nat.strongRecOn with
    | _ d ih =>
      intro i j hd hij hj h1 h2
      by_cases hc : i < j
      · have hm : (i + j) / 2 < z.length := by omega
        have hmi : ((i : Int) + (j : Int)) / 2 = (((i + j) / 2 : Nat) : Int) := by omega
        have hp : Ev (fun k => slice_below.p k z r w (((i + j) / 2 : Nat) : Int)) (!ahead r w z[(i + j) / 2]) := by
          unfold slice_below.p
          rw [rdE hm]
          refine Ev.bind (ev_rcmp _ _ (hr _ (List.getElem_mem hm))) ?_
          unfold ahead
          rw [Bool.not_not]
          exact Ev.now _
        cases hb : ahead r w z[(i + j) / 2] with
        | true =>
          obtain ⟨p, q1, q2, q3, q4⟩ := ih _ (by omega) ((i + j) / 2 + 1) j rfl (by omega) hj (fun q hq hqm => ahead_mono hs hq hm (by omega) hb) h2
          refine ⟨p, q1, Ev.step (f := fun k => (slice_below.p k z r w (((i + j) / 2 : Nat) : Int)).bind fun b => if b = true then slice_below.l0 k z r w (i : Int) (((i + j) / 2 : Nat) : Int) else slice_below.l0 k z r w (((i + j) / 2 + 1 : Nat) : Int) (j : Int)) (fun k => ?_) (Ev.bind hp ?_), q3, q4⟩
          · simp only [slice_below.l0]
            rw [if_pos (by omega), hmi]
            rfl
          · rw [hb]
            simp only [Bool.not_true, Bool.false_eq_true, if_false]
            exact q2
        | false =>
          obtain ⟨p, q1, q2, q3, q4⟩ := ih _ (by omega) i ((i + j) / 2) rfl (by omega) (by omega) h1 (fun q hq hqm => by
            cases hx : ahead r w z[q] with
            | false => rfl
            | true => have := ahead_mono hs hm hq hqm hx; rw [hb] at this; exact this.symm)
          refine ⟨p, q1, Ev.step (f := fun k => (slice_below.p k z r w (((i + j) / 2 : Nat) : Int)).bind fun b => if b = true then slice_below.l0 k z r w (i : Int) (((i + j) / 2 : Nat) : Int) else slice_below.l0 k z r w (((i + j) / 2 + 1 : Nat) : Int) (j : Int)) (fun k => ?_) (Ev.bind hp ?_), q3, q4⟩
          · simp only [slice_below.l0]
            rw [if_pos (by omega), hmi]
            rfl
          · rw [hb]
            simp only [Bool.not_false, if_true]
            exact q2
      · refine ⟨i, by omega, ⟨1, fun k hk => ?_⟩, h1, fun q hq hqi => h2 q hq (by omega)⟩
        obtain ⟨m, rfl⟩ : ∃ m, k = m + 1 := ⟨k - 1, by omega⟩
        simp only [slice_below.l0]
        rw [if_neg (by omega)]
  obtain ⟨p, q1, q2, q3, q4⟩ := key z.length 0 z.length (by omega) (by omega) (Nat.le_refl _) (fun q _ h => by omega) (fun q h h' => by omega)
  obtain ⟨e1, e2⟩ := parted q1 q3 q4
  refine ⟨p, q1, Ev.congr (fun k => ?_) q2, e1, e2⟩
  unfold slice_below.f
  rw [if_pos (by omega)]
  rfl
theorem ev_zcopy (l : List S36) (hl : l.length < 1000000) (hr : ∀ e ∈ l, e.f0.length < 4398046511103) : Ev (fun k => zset_Copy.f k l) l := by
  have key : ∀ (d n : Nat), l.length - n = d → n ≤ l.length → Ev (fun k => zset_Copy.l0 k (l.take n) l (l.length : Int) (n : Int)) l := by
    intro d
    induction d with
    | zero =>
      intro n hd hn
      refine ⟨1, fun k hk => ?_⟩
      obtain ⟨m, rfl⟩ : ∃ m, k = m + 1 := ⟨k - 1, by omega⟩
      simp only [zset_Copy.l0]
      rw [if_neg (by omega), List.take_of_length_le (by omega)]
    | succ d ih =>
      intro n hd hn
      have hlt : n < l.length := by omega
      refine Ev.step (f := fun k => zset_Copy.l0 k (l.take (n + 1)) l (l.length : Int) ((n + 1 : Nat) : Int)) (fun k => ?_) (ih (n + 1) (by omega) (by omega))
      have hc : row_Copy.f l[n].f0 = some l[n].f0 := by
        unfold row_Copy.f slices_Clone_Row.f
        rw [if_pos (by have := hr _ (List.getElem_mem hlt); omega)]
        rfl
      simp only [zset_Copy.l0]
      rw [if_pos (by omega), if_pos (by omega), if_pos (by omega), rdE hlt, hc, wrap_succ (by unfold BND; omega)]
      simp only [Option.bind_some]
      rw [if_pos (by rw [List.length_take]; omega), List.take_succ_eq_append_getElem hlt]
  exact Ev.congr (fun k => by rw [zset_Copy.f]; rfl) (key l.length 0 (by omega) (by omega))
/-- What is up to a row, what is behind it. -/
def uptoF (z : List S36) (r : List S41) (any : Bool) : List S36 := if any = true then z.filter (fun e => decide (cr e.f0 r ≤ 0)) else []
def restF (z : List S36) (r : List S41) (any : Bool) : List S36 := if any = true then z.filter (fun e => decide (cr e.f0 r > 0)) else z
theorem not_ahead (r : List S41) : (fun e : S36 => !ahead r true e) = fun e => decide (cr e.f0 r > 0) := by
  funext e
  rw [ahead_true]
  by_cases h : cr e.f0 r ≤ 0
  · rw [decide_eq_true h, decide_eq_false (by omega)]; rfl
  · rw [decide_eq_false h, decide_eq_true (by omega)]; rfl
theorem upto_rest (z : List S36) (hs : Srt z) (hl : z.length < 1000000) (hr : ∀ e ∈ z, e.f0.length < BND) (r : List S41) (any : Bool) :
    ∃ p : Nat, p ≤ z.length ∧ Ev (fun k => slice_upto.f k z r any) (p : Int) ∧ z.take p = uptoF z r any ∧ z.drop p = restF z r any := by
  unfold slice_upto.f uptoF restF
  cases any with
  | true =>
    simp only [if_true]
    obtain ⟨p, h1, h2, h3, h4⟩ := ev_below z hs hl hr r true
    refine ⟨p, h1, Ev.bind h2 (Ev.now _), ?_, ?_⟩
    · rw [h3]; congr 1; funext e; exact ahead_true
    · rw [h4, not_ahead]
  | false =>
    simp only [Bool.false_eq_true, if_false]
    exact ⟨0, by omega, Ev.now _, rfl, rfl⟩
theorem upto_append (z : List S36) (hs : Srt z) (hl : z.length < 1000000) (hr : ∀ e ∈ z, e.f0.length < BND) (r : List S41) (any : Bool) : uptoF z r any ++ restF z r any = z := by
  obtain ⟨p, _, _, h3, h4⟩ := upto_rest z hs hl hr r any
  rw [← h3, ← h4, List.take_append_drop]
theorem ev_after (z : List S36) (hs : Srt z) (hl : z.length < 1000000) (hr : ∀ e ∈ z, e.f0.length < 4398046511103) (r : List S41) (any : Bool) (n : Int) :
    Ev (fun k => slice_After.f k z r any n) ((restF z r any).take n.toNat) := by
  obtain ⟨p, h1, h2, h3, h4⟩ := upto_rest z hs hl (fun e he => by have := hr e he; unfold BND; omega) r any
  unfold slice_After.f
  refine Ev.bind h2 ?_
  simp only [if_pos (show (0 : Int) ≤ (p : Int) by omega), if_pos (show (p : Int) ≤ (z.length : Int) by omega), Option.bind_some, Int.toNat_natCast, h4]
  have hm : mn (mx n 0) ((restF z r any).length : Int) = ((min n.toNat (restF z r any).length : Nat) : Int) := by
    unfold mn mx
    split <;> split <;> omega
  rw [hm]
  simp only [if_pos (show (0 : Int) ≤ ((min n.toNat (restF z r any).length : Nat) : Int) by omega), if_pos (show ((min n.toNat (restF z r any).length : Nat) : Int) ≤ ((restF z r any).length : Int) by omega), Int.toNat_natCast]
  have e : (restF z r any).take (min n.toNat (restF z r any).length) = (restF z r any).take n.toNat := by
    rw [List.take_eq_take_iff]; omega
  rw [e]
  have hsub : ∀ e ∈ (restF z r any).take n.toNat, e ∈ z := fun e he => by
    have h5 := List.mem_of_mem_take he
    rw [← h4] at h5
    exact List.mem_of_mem_drop h5
  have hlen : (restF z r any).length ≤ z.length := by rw [← h4, List.length_drop]; omega
  exact Ev.bind (ev_zcopy _ (by rw [List.length_take]; omega) (fun e he => hr e (hsub e he))) (Ev.now _)
theorem ev_upto (z : List S36) (hs : Srt z) (hl : z.length < 1000000) (hr : ∀ e ∈ z, e.f0.length < 4398046511103) (r : List S41) (any : Bool) :
    Ev (fun k => slice_Upto.f k z r any) (uptoF z r any) := by
  obtain ⟨p, h1, h2, h3, h4⟩ := upto_rest z hs hl (fun e he => by have := hr e he; unfold BND; omega) r any
  unfold slice_Upto.f
  refine Ev.bind h2 ?_
  simp only [if_pos (show (0 : Int) ≤ (p : Int) by omega), if_pos (show (p : Int) ≤ (z.length : Int) by omega), Int.toNat_natCast, h3]
  have hsub : ∀ e ∈ uptoF z r any, e ∈ z := fun e he => by rw [← h3] at he; exact List.mem_of_mem_take he
  have hlen : (uptoF z r any).length ≤ z.length := by rw [← h3, List.length_take]; omega
  exact Ev.bind (ev_zcopy _ (by omega) (fun e he => hr e (hsub e he))) (Ev.now _)
theorem ev_count (z : List S36) (hs : Srt z) (hl : z.length < 1000000) (hr : ∀ e ∈ z, e.f0.length < BND) (r : List S41) (any : Bool) :
    Ev (fun k => slice_Count.f k z r any) ((restF z r any).length : Int) := by
  obtain ⟨p, h1, h2, h3, h4⟩ := upto_rest z hs hl hr r any
  unfold slice_Count.f
  refine Ev.bind h2 ?_
  have e : wrap64 ((z.length : Int) - (p : Int)) = ((restF z r any).length : Int) := by
    rw [← h4, List.length_drop]
    unfold wrap64; omega
  rw [e]
  exact Ev.now _
end Go.Proofs.Ythegdcodjhbonaa.ThA
