/- Chunk by chunk all of a z-set is read, each entry once, in order, none longer than asked; what was read is what is up to the last one: for every list of whole numbers and every size. -/
import Derived.Test.YthegdcodjhbonaaZSliceChunksx23
import Derived.Test.YthegdcodjhbonaaZSliceChunksx30
import Derived.Test.YthegdcodjhbonaaZSliceChunksx31
namespace Go.Proofs.Ythegdcodjhbonaa.Pure
open Go.RowKit Go.Proofs.Ythegdcodjhbonaa.PA Go.Proofs.YthegdcodjhbonaaW.PrintWords Go.Proofs.YthegdcodjhbonaaW.PrintLast
open Go.Proofs.Ythegdcodjhbonaa.ThA
/-- A z-set cut behind one of its entries. -/
theorem cut_at {u v : List S36} {e : S36} (hs : Srt ((u ++ [e]) ++ v)) : uptoF ((u ++ [e]) ++ v) e.f0 true = u ++ [e] ∧ restF ((u ++ [e]) ++ v) e.f0 true = v := by
  have h1 := List.pairwise_append.1 hs
  have h2 := List.pairwise_append.1 h1.1
  have hu : ∀ x ∈ u ++ [e], cr x.f0 e.f0 ≤ 0 := fun x hx => by
    rcases List.mem_append.1 hx with hx | hx
    · have := h2.2.2 x hx e (by simp); omega
    · rw [List.mem_singleton.1 hx, cr_refl]; omega
  have hv : ∀ x ∈ v, cr x.f0 e.f0 > 0 := fun x hx => by
    have h3 := h1.2.2 e (by simp) x hx
    have := cr_lawful.anti e.f0 x.f0; omega
  unfold uptoF restF
  simp only [if_true]
  rw [List.filter_append (u ++ [e]) v, List.filter_append (u ++ [e]) v]
  rw [List.filter_eq_self.2 (fun x hx => decide_eq_true (hu x hx)), List.filter_eq_nil_iff.2 (fun x hx => by have := hv x hx; simp; omega)]
  rw [List.filter_eq_nil_iff.2 (fun x hx => by have := hu x hx; simp; omega), List.filter_eq_self.2 (fun x hx => decide_eq_true (hv x hx))]
  simp
theorem SliceChunks : belvederelaw4_SliceChunks.Pure := by
  intro l0 a1 _ _ hw _
  have hL : ∀ x ∈ l0, fits x := fun x hx => fits_of_wf (hw x hx)
  apply Ev.rounds
  unfold belvederelaw4_SliceChunks.f belvederelaw4_first.f
  simp only [Option.bind_some, if_true]
  by_cases hlen : (l0.length : Int) > 150
  · simp only [if_pos hlen]; exact Ev.now _
  · simp only [if_neg hlen, newS26.f, Option.bind_some]
    have hk : Kinds [1, 2] := by intro c hc; simp at hc; omega
    obtain ⟨z, b1, ez, p1, p2, hz⟩ := set_ok l0 hL [1, 2] hk (by simp) 20 (by omega) (by omega) 0 (by omega) (by omega)
    have hr : ∀ e ∈ z, e.f0.length = 2 := fun e he => (hz.2.2 e he).1.1
    have hr1 : ∀ e ∈ z, e.f0.length < 4398046511103 := fun e he => by rw [hr e he]; omega
    have hr2 : ∀ e ∈ z, e.f0.length < BND := fun e he => by rw [hr e he]; unfold BND; omega
    have lz := hz.2.1
    have hs := hz.1.1
    refine Ev.bind ez ?_
    have hc : ∃ c : Int, wrap64 (Int.tmod (wrap64 (Int.tmod a1 6 + 6)) 6 + 1) = c ∧ 1 ≤ c ∧ c ≤ 6 := by
      have q1 := Int.tmod_lt_of_pos a1 (show (0 : Int) < 6 by omega)
      have q2 : -6 < Int.tmod a1 6 := by
        have := Int.tmod_lt_of_pos (-a1) (show (0 : Int) < 6 by omega)
        rw [Int.neg_tmod] at this
        omega
      have e1 : wrap64 (Int.tmod a1 6 + 6) = Int.tmod a1 6 + 6 := by unfold wrap64; omega
      rw [e1, Int.tmod_eq_emod_of_nonneg (by omega)]
      refine ⟨_, rfl, ?_, ?_⟩ <;> (unfold wrap64; omega)
    obtain ⟨c, ec, c1, c2⟩ := hc
    rw [ec]
    have key : ∀ (d : Nat) (al : List S36) (at_ : List S41) (any : Bool) (i : Nat), (restF z at_ any).length = d → al = uptoF z at_ any → i ≤ al.length → Ev (fun k => belvederelaw4_SliceChunks.l0 k c true z al at_ any (i : Int)) true := by
      intro d
      induction d using Nat.strongRecOn with
      | _ d ih =>
        intro al at_ any i hd hal hi
        have hcat := upto_append z hs (by omega) hr2 at_ any
        rw [← hal] at hcat
        have hlz : al.length + (restF z at_ any).length = z.length := by
          have h9 := congrArg List.length hcat
          rwa [List.length_append] at h9
        have haft := ev_after z hs (by omega) hr1 at_ any c
        cases hx : (restF z at_ any).take c.toNat with
        | nil =>
          have hrest : restF z at_ any = [] := by
            have := congrArg List.length hx
            rw [List.length_take, List.length_nil] at this
            exact List.length_eq_zero_iff.1 (by omega)
          rw [hrest, List.append_nil] at hcat
          have hcnt := ev_count z hs (by omega) hr2 at_ any
          rw [hrest] at hcnt
          rw [hx] at haft
          have hsame := ev_same_true z (by omega) hr2
          refine Ev.step (f := fun k => (slice_After.f k z at_ any c).bind fun t => if (t.length : Int) = 0 then ((belvedereref_SameEntries.f k al z).bind fun t389 => (if t389 = true then ((slice_Count.f k z at_ any).bind fun t390 => (some (t390 == 0))) else (some false))) else (if (t.length : Int) > c then (belvederelaw4_SliceChunks.j1 k c true z al (i : Int) t true) else (if 0 ≤ (wrap64 ((t.length : Int) - 1)) then (if (wrap64 ((t.length : Int) - 1)) < (t.length : Int) then ((slice_Count.f k z ((rd_T36 t (wrap64 ((t.length : Int) - 1))).f0) true).bind fun t392 => ((slice_Count.f k z at_ any).bind fun t393 => (belvederelaw4_SliceChunks.j1 k c true z al (i : Int) t ((wrap64 ((t.length : Int) + t392)) != t393)))) else (none)) else (none)))) (fun k => ?_) (Ev.bind haft ?_)
          · simp only [belvederelaw4_SliceChunks.l0]
            rw [if_pos (by omega)]
            rfl
          · rw [hcat]
            simp only [List.length_nil, Int.natCast_zero, if_true]
            refine Ev.bind hsame ?_
            simp only [if_true]
            exact Ev.bind hcnt (Ev.now _)
        | cons x0 xs =>
          obtain ⟨u, e, hue⟩ : ∃ u e, x0 :: xs = u ++ [e] := ⟨(x0 :: xs).dropLast, (x0 :: xs).getLast (by simp), (List.dropLast_concat_getLast (by simp)).symm⟩
          rw [hue] at hx
          have hsplit := List.take_append_drop c.toNat (restF z at_ any)
          rw [hx] at hsplit
          have hz2 : z = ((al ++ u) ++ [e]) ++ (restF z at_ any).drop c.toNat := by
            rw [List.append_assoc (al ++ u), List.append_assoc al, ← List.append_assoc u, hsplit, hcat]
          have hcut := cut_at (u := al ++ u) (e := e) (v := (restF z at_ any).drop c.toNat) (by rw [← hz2]; exact hs)
          rw [← hz2] at hcut
          have hul : (u ++ [e]).length = min c.toNat (restF z at_ any).length := by rw [← hx, List.length_take]
          have hul2 : (u ++ [e]).length = u.length + 1 := by simp
          have hdl : ((restF z at_ any).drop c.toNat).length = (restF z at_ any).length - c.toNat := by rw [List.length_drop]
          have hlast : rd_T36 (u ++ [e]) (wrap64 (((u ++ [e]).length : Int) - 1)) = e := by
            have e1 : wrap64 (((u ++ [e]).length : Int) - 1) = (u.length : Int) := by unfold wrap64; omega
            rw [e1, rdE (by omega)]
            simp
          have hlw : wrap64 (((u ++ [e]).length : Int) - 1) = (u.length : Int) := by unfold wrap64; omega
          have hib : i < BND := by unfold BND; omega
          have hlast2 : rd_T36 (u ++ [e]) ((u.length : Nat) : Int) = e := by rw [rdE (by omega)]; simp
          have hcnt := ev_count z hs (by omega) hr2 at_ any
          have hcnt2 := ev_count z hs (by omega) hr2 e.f0 true
          rw [hcut.2] at hcnt2
          have hup := ev_upto z hs (by omega) hr1 e.f0 true
          rw [hcut.1] at hup
          have hmem : ∀ y ∈ (al ++ u) ++ [e], y ∈ z := fun y hy => by rw [hz2]; exact List.mem_append_left _ hy
          have hall : ((al ++ u) ++ [e]).length ≤ z.length := by rw [hz2]; simp
          rw [hx] at haft
          have hnext := ih ((restF z at_ any).drop c.toNat).length (by rw [hdl]; omega) ((al ++ u) ++ [e]) e.f0 true (i + 1) (by rw [hcut.2]) hcut.1.symm (by simp; omega)
          have hj : Ev (fun k => belvederelaw4_SliceChunks.j1 k c true z al (i : Int) (u ++ [e]) false) true := by
            refine Ev.step (f := fun k => (slice_Upto.f k z e.f0 true).bind fun t => (belvedereref_SameEntries.f k t ((al ++ u) ++ [e])).bind fun v => if v = true then belvederelaw4_SliceChunks.l0 k c true z ((al ++ u) ++ [e]) e.f0 true ((i + 1 : Nat) : Int) else some false) (fun k => ?_) (Ev.bind hup (Ev.bind (ev_same_true _ (by omega) (fun y hy => hr2 y (hmem y hy))) ?_))
            · simp only [belvederelaw4_SliceChunks.j1]
              rw [if_neg (by simp), hlw, if_pos (by omega), if_pos (by omega), if_pos (by omega)]
              rw [Option.bind_some, hlast2, wrap_succ (n := i) hib, List.append_assoc]
            · simp only [if_true]
              exact hnext
          refine Ev.step (f := fun k => (slice_After.f k z at_ any c).bind fun t => if (t.length : Int) = 0 then ((belvedereref_SameEntries.f k al z).bind fun t389 => (if t389 = true then ((slice_Count.f k z at_ any).bind fun t390 => (some (t390 == 0))) else (some false))) else (if (t.length : Int) > c then (belvederelaw4_SliceChunks.j1 k c true z al (i : Int) t true) else (if 0 ≤ (wrap64 ((t.length : Int) - 1)) then (if (wrap64 ((t.length : Int) - 1)) < (t.length : Int) then ((slice_Count.f k z ((rd_T36 t (wrap64 ((t.length : Int) - 1))).f0) true).bind fun t392 => ((slice_Count.f k z at_ any).bind fun t393 => (belvederelaw4_SliceChunks.j1 k c true z al (i : Int) t ((wrap64 ((t.length : Int) + t392)) != t393)))) else (none)) else (none)))) (fun k => ?_) (Ev.bind haft ?_)
          · simp only [belvederelaw4_SliceChunks.l0]
            rw [if_pos (by omega)]
            rfl
          · simp only [if_neg (show ¬ (((u ++ [e]).length : Int) = 0) by omega), if_neg (show ¬ (((u ++ [e]).length : Int) > c) by omega), hlast]
            simp only [hlw, if_pos (show (0 : Int) ≤ (u.length : Int) by omega), if_pos (show (u.length : Int) < ((u ++ [e]).length : Int) by omega)]
            refine Ev.bind hcnt2 (Ev.bind hcnt ?_)
            have ew : (wrap64 (((u ++ [e]).length : Int) + (((restF z at_ any).drop c.toNat).length : Int)) != ((restF z at_ any).length : Int)) = false := by
              rw [bne_eq_false_iff_eq]
              unfold wrap64
              omega
            simp only [ew]
            exact hj
    exact key _ [] [] false 0 rfl (by simp [uptoF]) (by simp)
end Go.Proofs.Ythegdcodjhbonaa.Pure
