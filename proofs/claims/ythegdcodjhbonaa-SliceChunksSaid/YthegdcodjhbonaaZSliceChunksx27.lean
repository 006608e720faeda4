/- The document's z-set of any entries: rows in order, each once, weights together, none 0 times; or that a weight is beyond. -/
import Derived.Test.YthegdcodjhbonaaZSliceChunksx25
import Derived.Test.YthegdcodjhbonaaZSliceChunksx26
import Derived.Test.YthegdcodjhbonaaZSliceChunksx17
import Derived.Test.YthegdcodjhbonaaZSliceChunksx18
namespace Go.Proofs.Ythegdcodjhbonaa.ThA
open Go.RowKit Go.Proofs.Ythegdcodjhbonaa.PA Go.Proofs.YthegdcodjhbonaaW.PrintWords Go.Proofs.YthegdcodjhbonaaW.PrintLast Go.Proofs.YthegdcodjhbonaaW.PrintMore
def sm (e : S36) : S82 := ⟨e.f0, wd e.f1⟩
theorem rdE {x : List S36} {n : Nat} (h : n < x.length) : rd_T36 x (n : Int) = x[n] := by unfold rd_T36; simp [h]
theorem rdM {x : List S82} {n : Nat} (h : n < x.length) : rd_T82 x (n : Int) = x[n] := by unfold rd_T82; simp [h]
theorem ins_append {r : List S41} {n : Int} {a b : List S36} (h : ∀ e ∈ a, cr e.f0 r = -1) : ins r n (a ++ b) = a ++ ins r n b := by
  induction a with
  | nil => rfl
  | cons x t ih =>
    rw [List.cons_append, ins, if_pos (h x List.mem_cons_self), ih (fun e he => h e (List.mem_cons_of_mem _ he))]
    rfl
theorem ins_at {s : List S36} {r : List S41} {n : Int} {p : Nat} (hp : p ≤ s.length) (h1 : ∀ j (h : j < s.length), j < p → cr s[j].f0 r = -1) (h2 : ∀ (h : p < s.length), ¬ cr s[p].f0 r = -1) :
    ins r n s = if h : p < s.length then (if cr s[p].f0 r = 0 then s.set p ⟨s[p].f0, s[p].f1 + n⟩ else s.take p ++ ⟨r, n⟩ :: s.drop p) else s.take p ++ ⟨r, n⟩ :: s.drop p := by
  have e : s = s.take p ++ s.drop p := (List.take_append_drop p s).symm
  have ha : ∀ x ∈ s.take p, cr x.f0 r = -1 := by
    intro x hx
    obtain ⟨j, hj, rfl⟩ := List.getElem_of_mem hx
    rw [List.getElem_take]
    rw [List.length_take] at hj
    exact h1 j (by omega) (by omega)
  have h3 : ins r n s = s.take p ++ ins r n (s.drop p) := by
    have := ins_append (n := n) (b := s.drop p) ha
    rwa [← e] at this
  rw [h3]
  by_cases hlt : p < s.length
  · rw [dif_pos hlt, List.drop_eq_getElem_cons hlt, ins, if_neg (h2 hlt)]
    split
    · rw [List.set_eq_take_append_cons_drop, if_pos hlt]
    · rfl
  · rw [dif_neg hlt, List.drop_of_length_le (by omega)]
    rfl
theorem map_take_drop (s : List S36) (p : Nat) (x : S36) : (s.map sm).take p ++ sm x :: (s.map sm).drop p = (s.take p ++ x :: s.drop p).map sm := by simp
theorem ev_l2 (x0 : List S36) (s : List S82) (i lo : Nat) (w0 w1 w2 : Int) (r : List S82) (hi : i < x0.length) (hs : s.length < BND) (hl : x0.length < BND)
    (hr : Ev (fun k => belvedereref1_gather.l0 k x0 (s.take lo ++ (⟨x0[i].f0, ⟨w0, w1, w2⟩⟩ : S82) :: s.drop lo) ((i + 1 : Nat) : Int)) r) :
    ∀ (d j : Nat), j - lo = d → lo ≤ j → j ≤ s.length → ∀ c : S82, Ev (fun k => belvedereref1_gather.l2 k x0 (s.take j ++ c :: s.drop j) (i : Int) (lo : Int) (j : Int) w0 w1 w2) r := by
  intro d
  induction d with
  | zero =>
    intro j hd h1 h2 c
    have e : j = lo := by omega
    subst e
    refine Ev.step (f := fun k => belvedereref1_gather.l0 k x0 (s.take j ++ (⟨x0[i].f0, ⟨w0, w1, w2⟩⟩ : S82) :: s.drop j) ((i + 1 : Nat) : Int)) (fun k => ?_) hr
    simp only [belvedereref1_gather.l2]
    have hlen : (s.take j ++ c :: s.drop j).length = s.length + 1 := by simp; omega
    rw [if_neg (by omega), if_pos (by omega), if_pos (by omega), if_pos (by omega), if_pos (by omega), rdE hi, wrap_succ (by omega)]
    congr 1
    simp only [Int.toNat_natCast]
    rw [List.set_append_right _ _ (by rw [List.length_take]; omega), List.length_take, Nat.min_eq_left h2, Nat.sub_self]
    rfl
  | succ d ih =>
    intro j hd h1 h2 c
    have hj : 0 < j := by omega
    have hj1 : j - 1 < s.length := by omega
    have h := ih (j - 1) (by omega) (by omega) (by omega) s[j - 1]
    refine Ev.step (f := fun k => belvedereref1_gather.l2 k x0 (s.take (j - 1) ++ s[j - 1] :: s.drop (j - 1)) (i : Int) (lo : Int) ((j - 1 : Nat) : Int) w0 w1 w2) (fun k => ?_) h
    simp only [belvedereref1_gather.l2]
    have hlen : (s.take j ++ c :: s.drop j).length = s.length + 1 := by simp; omega
    have hw : wrap64 ((j : Int) - 1) = ((j - 1 : Nat) : Int) := by unfold wrap64 BND at *; omega
    rw [if_pos (by omega), hw, if_pos (by omega), if_pos (by omega), if_pos (by omega), if_pos (by omega)]
    have hrd : rd_T82 (s.take j ++ c :: s.drop j) ((j - 1 : Nat) : Int) = s[j - 1] := by
      rw [rdM (by omega), List.getElem_append_left (by simp; omega), List.getElem_take]
    rw [hrd]
    congr 1
    simp only [Int.toNat_natCast]
    rw [List.set_append_right _ _ (by rw [List.length_take]; omega), List.length_take, Nat.min_eq_left h2, Nat.sub_self]
    have e1 : s.take j = s.take (j - 1) ++ [s[j - 1]] := by
      have := List.take_succ_eq_append_getElem hj1
      rwa [Nat.sub_add_cancel hj] at this
    have e2 : s.drop (j - 1) = s[j - 1] :: s.drop j := by
      have := List.drop_eq_getElem_cons hj1
      rwa [Nat.sub_add_cancel hj] at this
    rw [e1, e2]
    simp only [List.append_assoc, List.cons_append, List.nil_append]
    rfl
theorem ev_l1 (x0 : List S36) (s : List S36) (i : Nat) (r : List S82) (hi : i < x0.length) (hs : Srt s) (hsl : s.length < 1000000) (hl : x0.length < 1000000) (hf : fits x0[i].f1) (hrow : ∀ e ∈ s, e.f0.length < BND)
    (hr : Ev (fun k => belvedereref1_gather.l0 k x0 ((ins x0[i].f0 x0[i].f1 s).map sm) ((i + 1 : Nat) : Int)) r) :
    ∀ (d lo hi' : Nat), hi' - lo = d → lo ≤ hi' → hi' ≤ s.length → (∀ j (h : j < s.length), j < lo → cr s[j].f0 x0[i].f0 = -1) → (∀ j (h : j < s.length), hi' ≤ j → ¬ cr s[j].f0 x0[i].f0 = -1) →
    Ev (fun k => belvedereref1_gather.l1 k x0 (s.map sm) (i : Int) (lo : Int) (hi' : Int)) r := by
  intro d
  induction d using Nat.strongRecOn with
  | _ d ih =>
    intro lo hi' hd h1 h2 hlt hge
    by_cases hc : lo < hi'
    · have hm0 : (lo + hi') / 2 < s.length := by omega
      have hw : wrap64 (Int.tdiv (wrap64 ((lo : Int) + (hi' : Int))) 2) = (((lo + hi') / 2 : Nat) : Int) := by
        have e1 : wrap64 ((lo : Int) + (hi' : Int)) = ((lo + hi' : Nat) : Int) := by unfold wrap64; omega
        rw [e1]
        have e2 : Int.tdiv ((lo + hi' : Nat) : Int) 2 = (((lo + hi') / 2 : Nat) : Int) := by rw [Int.tdiv_eq_ediv_of_nonneg (by omega)]; omega
        rw [e2]; unfold wrap64; omega
      refine Ev.step (f := fun k => (belvedereref1_CompareRows.f k s[(lo + hi') / 2].f0 x0[i].f0).bind fun t => if t < 0 then belvedereref1_gather.l1 k x0 (s.map sm) (i : Int) (((lo + hi') / 2 + 1 : Nat) : Int) (hi' : Int) else belvedereref1_gather.l1 k x0 (s.map sm) (i : Int) (lo : Int) (((lo + hi') / 2 : Nat) : Int)) (fun k => ?_) ?_
      · simp only [belvedereref1_gather.l1]
        rw [if_pos (by omega), hw, if_pos (by omega), if_pos (by simp; omega), if_pos (by omega), if_pos (by omega), rdE hi, rdM (by simp; omega), wrap_succ (by unfold BND; omega)]
        simp only [List.getElem_map, sm]
      · refine Ev.bind (ev_cr _ _ (hrow _ (List.getElem_mem hm0))) ?_
        by_cases h0 : cr s[(lo + hi') / 2].f0 x0[i].f0 = -1
        · simp only [h0, if_pos (show (-1 : Int) < 0 by omega)]
          refine ih _ (by omega) ((lo + hi') / 2 + 1) hi' rfl (by omega) h2 (fun j hj hjm => ?_) hge
          by_cases e : j = (lo + hi') / 2
          · subst e; exact h0
          · have h3 := List.pairwise_iff_getElem.1 hs j ((lo + hi') / 2) hj hm0 (by omega)
            exact cr_lawful.tr _ _ _ h3 h0
        · have h0' : ¬ cr s[(lo + hi') / 2].f0 x0[i].f0 < 0 := fun h => h0 (cr_neg_iff.1 h)
          simp only [if_neg h0']
          refine ih _ (by omega) lo ((lo + hi') / 2) rfl (by omega) (by omega) hlt (fun j hj hjm hq => ?_)
          by_cases e : j = (lo + hi') / 2
          · subst e; exact h0 hq
          · have h3 := List.pairwise_iff_getElem.1 hs ((lo + hi') / 2) j hm0 hj (by omega)
            exact h0 (cr_lawful.tr _ _ _ h3 hq)
    · have e : hi' = lo := by omega
      subst e
      have hins := ins_at (n := x0[i].f1) h2 hlt (fun h => hge _ h (Nat.le_refl _))
      have ht := times_wd x0[i].f1 1 hf.1 hf.2 (by omega) (by omega)
      rw [Int.mul_one] at ht
      -- the row is there, or it isn't
      have new_ : ∀ (hq : ins x0[i].f0 x0[i].f1 s = s.take hi' ++ ⟨x0[i].f0, x0[i].f1⟩ :: s.drop hi'), Ev (fun k => belvedereref1_gather.j2 k x0 (s.map sm) (i : Int) (hi' : Int) false (wd x0[i].f1).f0 (wd x0[i].f1).f1 (wd x0[i].f1).f2) r := by
        intro hq
        rw [hq] at hr
        rw [← map_take_drop] at hr
        have h := ev_l2 x0 (s.map sm) i hi' (wd x0[i].f1).f0 (wd x0[i].f1).f1 (wd x0[i].f1).f2 r hi (by simp; unfold BND; omega) (by unfold BND; omega) hr (s.length - hi') s.length rfl h2 (by simp) ⟨([] : List S41), ⟨0, 0, 0⟩⟩
        refine Ev.step (f := fun k => belvedereref1_gather.l2 k x0 ((s.map sm).take s.length ++ (⟨([] : List S41), ⟨0, 0, 0⟩⟩ : S82) :: (s.map sm).drop s.length) (i : Int) (hi' : Int) (s.length : Int) (wd x0[i].f1).f0 (wd x0[i].f1).f1 (wd x0[i].f1).f2) (fun k => ?_) h
        simp only [belvedereref1_gather.j2]
        rw [if_neg (by simp), if_pos (by simp; omega)]
        simp only [Option.bind_some]
        rw [List.take_of_length_le (by simp), List.drop_of_length_le (by simp)]
        congr 1
        simp
        unfold wrap64; omega
      by_cases hlen : hi' < s.length
      · refine Ev.step (f := fun k => (belvedereref1_CompareRows.f k s[hi'].f0 x0[i].f0).bind fun t => belvedereref1_gather.j2 k x0 (s.map sm) (i : Int) (hi' : Int) (t == 0) (wd x0[i].f1).f0 (wd x0[i].f1).f1 (wd x0[i].f1).f2) (fun k => ?_) ?_
        · simp only [belvedereref1_gather.l1]
          rw [if_neg (by omega), if_pos (by omega), if_pos (by omega), rdE hi, ht]
          simp only [Option.bind_some]
          rw [if_pos (by simp; omega), if_pos (by omega), rdM (by simp; omega)]
          simp only [List.getElem_map, sm]
        · refine Ev.bind (ev_cr _ _ (hrow _ (List.getElem_mem hlen))) ?_
          rw [dif_pos hlen] at hins
          by_cases h0 : cr s[hi'].f0 x0[i].f0 = 0
          · rw [if_pos h0] at hins
            rw [hins] at hr
            simp only [h0, beq_self_eq_true]
            refine Ev.step (f := fun k => belvedereref1_gather.l0 k x0 ((s.set hi' ⟨s[hi'].f0, s[hi'].f1 + x0[i].f1⟩).map sm) ((i + 1 : Nat) : Int)) (fun k => ?_) hr
            simp only [belvedereref1_gather.j2]
            have hp := plus_wd s[hi'].f1 x0[i].f1
            rw [if_pos trivial, if_pos (by omega), if_pos (by simp; omega), rdM (by simp; omega)]
            simp only [List.getElem_map, sm]
            rw [hp, wrap_succ (by unfold BND; omega)]
            simp only [Option.bind_some, Int.toNat_natCast]
            congr 1
            rw [List.map_set]
            rfl
          · rw [if_neg h0] at hins
            have h0b : (cr s[hi'].f0 x0[i].f0 == 0) = false := beq_eq_false_iff_ne.2 h0
            simp only [h0b]
            exact new_ hins
      · refine Ev.step (f := fun k => belvedereref1_gather.j2 k x0 (s.map sm) (i : Int) (hi' : Int) false (wd x0[i].f1).f0 (wd x0[i].f1).f1 (wd x0[i].f1).f2) (fun k => ?_) ?_
        · simp only [belvedereref1_gather.l1]
          rw [if_neg (by omega), if_pos (by omega), if_pos (by omega), rdE hi, ht]
          simp only [Option.bind_some]
          rw [if_neg (by simp; omega)]
        · rw [dif_neg hlen] at hins
          exact new_ hins
theorem ins_rows {r : List S41} {n : Int} {s : List S36} {P : List S41 → Prop} (hr : P r) (hs : ∀ e ∈ s, P e.f0) : ∀ e ∈ ins r n s, P e.f0 := by
  intro e he
  rcases ins_keys e he with h | ⟨x, hx, hk⟩
  · rw [h]; exact hr
  · rw [← hk]; exact hs x hx
theorem ev_gather (l : List S36) (hl : l.length < 500000) (hf : ∀ e ∈ l, fits e.f1) (hrow : ∀ e ∈ l, e.f0.length < BND) : Ev (fun k => belvedereref1_gather.f k l) ((gat l).map sm) := by
  have key : ∀ (d n : Nat) (s : List S36), l.length - n = d → n ≤ l.length → Srt s → s.length ≤ n → (∀ e ∈ s, e.f0.length < BND) → Ev (fun k => belvedereref1_gather.l0 k l (s.map sm) (n : Int)) (((l.drop n).foldl (fun s e => ins e.f0 e.f1 s) s).map sm) := by
    intro d
    induction d with
    | zero =>
      intro n s hd hn hs hsl hr
      rw [List.drop_of_length_le (by omega)]
      refine ⟨1, fun k hk => ?_⟩
      obtain ⟨m, rfl⟩ : ∃ m, k = m + 1 := ⟨k - 1, by omega⟩
      simp only [belvedereref1_gather.l0]
      rw [if_neg (by omega)]
      rfl
    | succ d ih =>
      intro n s hd hn hs hsl hr
      have hlt : n < l.length := by omega
      rw [List.drop_eq_getElem_cons hlt, List.foldl_cons]
      have h1 := ih (n + 1) (ins l[n].f0 l[n].f1 s) (by omega) (by omega) (ins_srt hs) (by have := ins_length l[n].f0 l[n].f1 s; omega) (ins_rows (P := fun q => q.length < BND) (hrow _ (List.getElem_mem hlt)) hr)
      refine Ev.step (f := fun k => belvedereref1_gather.l1 k l (s.map sm) (n : Int) 0 (s.length : Int)) (fun k => ?_) ?_
      · simp only [belvedereref1_gather.l0]
        rw [if_pos (by omega)]
        simp
      · exact ev_l1 l s n _ hlt hs (by omega) (by omega) (hf _ (List.getElem_mem hlt)) hr h1 s.length 0 s.length rfl (by omega) (Nat.le_refl _) (fun j _ h => by omega) (fun j h h' => by omega)
  have := key l.length 0 [] (by omega) (by omega) List.Pairwise.nil (by simp) (fun e he => by cases he)
  simpa [belvedereref1_gather.f, gat] using this
/-- What the document's Make answers: a z-set, or that a weight is beyond. -/
def mkF (l : List S36) : List S36 × Int := if ∀ e ∈ gat l, fits e.f1 then (mk l, 0) else ([], 107)
theorem ev_make_go (s : List S36) (hl : s.length < 1000000) (hb : ∀ e ∈ s, -1569275433846670190958947355801916604025588861116008628224 ≤ e.f1 ∧ e.f1 < 1569275433846670190958947355801916604025588861116008628224) : ∀ (d n : Nat) (o : List S36), s.length - n = d → n ≤ s.length → o.length ≤ n →
    Ev (fun k => belvedereref1_Make.l0 k (s.map sm) o (n : Int)) (if ∀ e ∈ s.drop n, fits e.f1 then (o ++ clean (s.drop n), 0) else ([], 107)) := by
  intro d
  induction d with
  | zero =>
    intro n o hd hn ho
    rw [List.drop_of_length_le (by omega)]
    refine ⟨1, fun k hk => ?_⟩
    obtain ⟨m, rfl⟩ : ∃ m, k = m + 1 := ⟨k - 1, by omega⟩
    simp only [belvedereref1_Make.l0]
    rw [if_neg (by simp; omega), if_pos (fun e he => by cases he)]
    simp [clean]
  | succ d ih =>
    intro n o hd hn ho
    have hlt : n < s.length := by omega
    rw [List.drop_eq_getElem_cons hlt]
    have hbn := hb _ (List.getElem_mem hlt)
    refine Ev.step (f := fun k => (belvedereref1_narrow.f k (wd s[n].f1).f0 (wd s[n].f1).f1 (wd s[n].f1).f2).bind fun bt => if bt.2 = true then (if bt.1 = 0 then belvedereref1_Make.l0 k (s.map sm) o ((n + 1 : Nat) : Int) else if o.length < 4398046511104 then belvedereref1_Make.l0 k (s.map sm) (o ++ [⟨s[n].f0, bt.1⟩]) ((n + 1 : Nat) : Int) else none) else some ([], 107)) (fun k => ?_) ?_
    · simp only [belvedereref1_Make.l0]
      rw [if_pos (by simp; omega), if_pos (by omega), rdM (by simp; omega), wrap_succ (by unfold BND; omega)]
      simp only [List.getElem_map, sm]
    · refine Ev.bind (narrow_wd _ hbn.1 hbn.2) ?_
      by_cases h0 : fits s[n].f1
      · simp only [if_pos h0, if_true]
        have hq : (∀ e ∈ s[n] :: s.drop (n + 1), fits e.f1) ↔ ∀ e ∈ s.drop (n + 1), fits e.f1 := ⟨fun h e he => h e (List.mem_cons_of_mem _ he), fun h e he => by
          rcases List.mem_cons.1 he with rfl | he
          · exact h0
          · exact h e he⟩
        by_cases h1 : s[n].f1 = 0
        · simp only [if_pos h1]
          have := ih (n + 1) o (by omega) (by omega) (by omega)
          have e : clean (s[n] :: s.drop (n + 1)) = clean (s.drop (n + 1)) := by
            unfold clean
            rw [List.filter_cons_of_neg (by simp [h1])]
          rw [e]
          simp only [hq]
          exact this
        · simp only [if_neg h1, if_pos (show o.length < 4398046511104 by omega)]
          have := ih (n + 1) (o ++ [⟨s[n].f0, s[n].f1⟩]) (by omega) (by omega) (by simp; omega)
          have e : o ++ clean (s[n] :: s.drop (n + 1)) = (o ++ [⟨s[n].f0, s[n].f1⟩]) ++ clean (s.drop (n + 1)) := by
            unfold clean
            rw [List.filter_cons_of_pos (by simp [h1])]
            simp
          rw [e]
          simp only [hq]
          exact this
      · have hq : ¬ ∀ e ∈ s[n] :: s.drop (n + 1), fits e.f1 := fun h => h0 (h _ List.mem_cons_self)
        simp only [if_neg h0, if_neg hq]
        simp only [Bool.false_eq_true, if_false]
        exact Ev.now _
theorem ins_bound {r : List S41} {n : Int} {s : List S36} {B C : Int} (hB : 0 ≤ B) (hC : 0 ≤ C) (hn : -C ≤ n ∧ n ≤ C) (hs : ∀ e ∈ s, -B ≤ e.f1 ∧ e.f1 ≤ B) : ∀ e ∈ ins r n s, -(B + C) ≤ e.f1 ∧ e.f1 ≤ B + C := by
  induction s with
  | nil => intro e he; rw [ins] at he; rw [List.mem_singleton.1 he]; simp only; omega
  | cons x t ih =>
    have hx := hs x List.mem_cons_self
    have ht := ih (fun e he => hs e (List.mem_cons_of_mem _ he))
    intro e he
    rw [ins] at he
    split at he
    · rcases List.mem_cons.1 he with rfl | he
      · omega
      · exact ht e he
    · split at he
      · rcases List.mem_cons.1 he with rfl | he
        · simp only; omega
        · have := hs e (List.mem_cons_of_mem _ he); omega
      · rcases List.mem_cons.1 he with rfl | he
        · simp only; omega
        · have := hs e he; omega
theorem gat_bound (l : List S36) (hf : ∀ e ∈ l, fits e.f1) : ∀ e ∈ gat l, -((l.length : Int) * 9223372036854775808) ≤ e.f1 ∧ e.f1 ≤ (l.length : Int) * 9223372036854775808 := by
  have key : ∀ (l s : List S36) (B : Int), 0 ≤ B → (∀ e ∈ l, fits e.f1) → (∀ e ∈ s, -B ≤ e.f1 ∧ e.f1 ≤ B) → ∀ e ∈ l.foldl (fun s e => ins e.f0 e.f1 s) s, -(B + (l.length : Int) * 9223372036854775808) ≤ e.f1 ∧ e.f1 ≤ B + (l.length : Int) * 9223372036854775808 := by
    intro l
    induction l with
    | nil => intro s B hB _ hs e he; simp at he ⊢; exact hs e he
    | cons x t ih =>
      intro s B hB hf hs e he
      have hx := hf x List.mem_cons_self
      unfold fits at hx
      have := ih (ins x.f0 x.f1 s) (B + 9223372036854775808) (by omega) (fun e he => hf e (List.mem_cons_of_mem _ he)) (ins_bound hB (by omega) (by omega) hs) e he
      simp only [List.length_cons]
      omega
  have := key l [] 0 (by omega) hf (fun e he => by cases he)
  simpa [gat] using this
theorem ev_make (l : List S36) (hl : l.length < 500000) (hf : ∀ e ∈ l, fits e.f1) (hrow : ∀ e ∈ l, e.f0.length < BND) : Ev (fun k => belvedereref1_Make.f k l) (mkF l) := by
  have h1 := ev_gather l hl hf hrow
  have h2 := ev_make_go (gat l) (by have := gat_length l; omega) (fun e he => by have := gat_bound l hf e he; omega) (gat l).length 0 [] (by omega) (by omega) (by simp)
  refine Ev.congr (fun k => by rw [belvedereref1_Make.f]) (Ev.bind h1 ?_)
  simpa [mkF, mk] using h2
end Go.Proofs.Ythegdcodjhbonaa.ThA
