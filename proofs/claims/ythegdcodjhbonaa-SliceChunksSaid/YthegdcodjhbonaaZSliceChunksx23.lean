/- What the Go functions behind the law come to: for each a Lean function with the same answers and a proof that the call returns them; laid by a program of this session. -/
import Derived.Test.YthegdcodjhbonaaZSliceChunksx13
import Derived.Test.YthegdcodjhbonaaZSliceChunksx14
import Derived.Test.YthegdcodjhbonaaZSliceChunksx16
import Derived.Test.YthegdcodjhbonaaZSliceChunksx18
import Derived.Test.YthegdcodjhbonaaZSliceChunksx20
import Derived.Test.YthegdcodjhbonaaZSliceChunksx21
import Derived.Test.YthegdcodjhbonaaZSliceChunksx22
namespace Go.Proofs.Ythegdcodjhbonaa.PA
open Go.RowKit Go.Proofs.YthegdcodjhbonaaW.PrintWords Go.Proofs.YthegdcodjhbonaaW.PrintLast Go.Proofs.YthegdcodjhbonaaW.PrintMore
set_option linter.unusedVariables false
set_option linter.unusedSimpArgs false
mutual
def belvederelaw4_SliceChunks.l0 : Nat → Int → Bool → List (S36) → List (S36) → List (S41) → Bool → Int → Option (Bool)
  | 0, _, _, _, _, _, _, _ => none
  | k + 1, x1, x5, x6, x7, x8, x9, x10 => if x10 ≤ (x6.length : Int) then ((slice_After.f k x6 x8 x9 x1).bind fun t386 => (if (t386.length : Int) = 0 then (if x5 = true then ((belvedereref_SameEntries.f k x7 x6).bind fun t389 => (if t389 = true then ((slice_Count.f k x6 x8 x9).bind fun t390 => (some (t390 == 0))) else (some false))) else (some false)) else (if (t386.length : Int) > x1 then (belvederelaw4_SliceChunks.j1 k x1 x5 x6 x7 x10 t386 true) else (if 0 ≤ (wrap64 ((t386.length : Int) - 1)) then (if (wrap64 ((t386.length : Int) - 1)) < (t386.length : Int) then ((slice_Count.f k x6 ((rd_T36 t386 (wrap64 ((t386.length : Int) - 1))).f0) true).bind fun t392 => ((slice_Count.f k x6 x8 x9).bind fun t393 => (belvederelaw4_SliceChunks.j1 k x1 x5 x6 x7 x10 t386 ((wrap64 ((t386.length : Int) + t392)) != t393)))) else (none)) else (none))))) else (if x5 = true then ((belvedereref_SameEntries.f k x7 x6).bind fun t384 => (if t384 = true then ((slice_Count.f k x6 x8 x9).bind fun t385 => (some (t385 == 0))) else (some false))) else (some false))
def belvederelaw4_SliceChunks.j1 : Nat → Int → Bool → List (S36) → List (S36) → Int → List (S36) → Bool → Option (Bool)
  | 0, _, _, _, _, _, _, _ => none
  | k + 1, x1, x5, x6, x7, x10, x11, x65 => if x65 = true then (some false) else (if 0 ≤ (wrap64 ((x11.length : Int) - 1)) then (if (wrap64 ((x11.length : Int) - 1)) < (x11.length : Int) then (if x7.length + x11.length < 4398046511104 then ((some (x7 ++ x11 : List (S36))).bind fun y395 => ((slice_Upto.f k x6 ((rd_T36 x11 (wrap64 ((x11.length : Int) - 1))).f0) true).bind fun t398 => ((belvedereref_SameEntries.f k t398 y395).bind fun t401 => (if t401 = true then (belvederelaw4_SliceChunks.l0 k x1 x5 x6 y395 ((rd_T36 x11 (wrap64 ((x11.length : Int) - 1))).f0) true (wrap64 (x10 + 1))) else (some false))))) else (none)) else (none)) else (none))
end
def belvederelaw4_SliceChunks.f (k : Nat) (l0 : List Int) (a1 : Int) : Option (Bool) := (belvederelaw4_first.f).bind fun t373 => (if t373 = true then (if (l0.length : Int) > 150 then (some t373) else ((newS26.f l0 0).bind fun bt374 => ((belvederemake_Set.f k bt374.1 bt374.2 (([1, 2] : List Int)) 20).bind fun bt380 => (belvederelaw4_SliceChunks.l0 k (wrap64 ((Int.tmod (wrap64 ((Int.tmod a1 6) + 6)) 6) + 1)) t373 bt380.1 ([] : List (S36)) ([] : List (S41)) false 0)))) else (some false))
set_option maxHeartbeats 8000000 in
set_option maxRecDepth 100000 in
theorem belvederelaw4_SliceChunks.calls (k : Nat) (A0 : Option Addr) (c0 : Nat) (l0 : List Int) (a1 : Int) (r : Bool) (w : World) (hr0 : Kd.C (Kd.int .i64) w A0 l0.length l0) (hc0 : l0.length ≤ c0) (h : belvederelaw4_SliceChunks.f k l0 a1 = some r) :
    Calls Try.prog 5 #[.slice A0 l0.length c0, .int .i64 a1] w fun e w' => e = .returned (.bool r) ∧ Below w.heap.size w w' := by
  have hu26 := Try.underlying26
  have HR0 := Aside0.mk hr0
  have HC0 := Aside0.mk hc0
  clear hr0 hc0
  have HB := Aside0.mk (Below.refl w.heap.size w)
  have H : ((belvederelaw4_first.f).bind fun t373 => (if t373 = true then (if (l0.length : Int) > 150 then (some t373) else ((newS26.f l0 0).bind fun bt374 => ((belvederemake_Set.f k bt374.1 bt374.2 (([1, 2] : List Int)) 20).bind fun bt380 => (belvederelaw4_SliceChunks.l0 k (wrap64 ((Int.tmod (wrap64 ((Int.tmod a1 6) + 6)) 6) + 1)) t373 bt380.1 ([] : List (S36)) ([] : List (S41)) false 0)))) else (some false))) = some r := h
  clear h
  replace H := Option.bind_eq_some_iff.mp H
  obtain ⟨t373, A30, H⟩ := H
  replace H : (if t373 = true then (if (l0.length : Int) > 150 then (some t373) else ((newS26.f l0 0).bind fun bt374 => ((belvederemake_Set.f k bt374.1 bt374.2 (([1, 2] : List Int)) 20).bind fun bt380 => (belvederelaw4_SliceChunks.l0 k (wrap64 ((Int.tmod (wrap64 ((Int.tmod a1 6) + 6)) 6) + 1)) t373 bt380.1 ([] : List (S36)) ([] : List (S41)) false 0)))) else (some false)) = some r := H
  have A3 := Aside0.mk A30
  clear A30
  by_cases c4 : t373 = true
  · subst c4
    have H1 : (if (l0.length : Int) > 150 then (some true) else ((newS26.f l0 0).bind fun bt374 => ((belvederemake_Set.f k bt374.1 bt374.2 (([1, 2] : List Int)) 20).bind fun bt380 => (belvederelaw4_SliceChunks.l0 k (wrap64 ((Int.tmod (wrap64 ((Int.tmod a1 6) + 6)) 6) + 1)) true bt380.1 ([] : List (S36)) ([] : List (S41)) false 0)))) = some r := by rw [if_pos rfl] at H; exact H
    clear H
    have H := H1
    clear H1
    by_cases c5 : (l0.length : Int) > 150
    · rw [if_pos c5] at H
      have c5b0 : decide (150 < (l0.length : Int)) = true := decide_eq_true c5
      have c5b1 : decide (150 < l0.length) = true := decide_eq_true (by omega)
      clear c5
      obtain rfl := Option.some.inj H
      go_enter Try.func5, Try.ntmps5
      go_wp2_with (first | ((with_reducible refine gate_callee (f := 17) rfl ?_); refine goesL_ (some 12) rfl rfl Try.func17 (by kernel_rfl) rfl #[] rfl (by (try simp only [List.map_toArray, List.map_cons, List.map_nil]); first | done | rfl | (simp only [List.length_drop, List.length_take]; rfl)) ?_; (with_reducible refine (belvederelaw4_first.calls  true _ A3.out).mono ?_); rintro e w6 ⟨rfl, hb⟩; refine ⟨_, rfl, ?_⟩; have n0_ := Aside0.mk (below_step (by repeat (first | (with_reducible first | exact HB.out | apply below_alloc | apply pw_below_drewN | apply below_drew1) | exact HB.out)) hb); clear HB; have HB := n0_; clear n0_; (try clear hb); (try clear hb2); (try clear hk); (try clear hi)))
      go_ret
      exact ⟨by first | rfl | (simp [errW_none, errW_some] <;> rfl) | (simp [*, errW_none, errW_some] <;> rfl), by repeat (first | (with_reducible first | exact HB.out | apply below_alloc | apply pw_below_drewN | apply below_drew1) | exact HB.out)⟩
    · rw [if_neg c5] at H
      have c5b0 : decide (150 < (l0.length : Int)) = false := decide_eq_false c5
      have c5b1 : decide (150 < l0.length) = false := decide_eq_false (by omega)
      clear c5
      replace H := Option.bind_eq_some_iff.mp H
      obtain ⟨⟨t374, t375⟩, A70, H⟩ := H
      replace H : ((belvederemake_Set.f k t374 t375 (([1, 2] : List Int)) 20).bind fun bt380 => (belvederelaw4_SliceChunks.l0 k (wrap64 ((Int.tmod (wrap64 ((Int.tmod a1 6) + 6)) 6) + 1)) true bt380.1 ([] : List (S36)) ([] : List (S41)) false 0)) = some r := H
      have A7 := Aside0.mk A70
      clear A70
      obtain ⟨y377, hy377⟩ : ∃ y_ : List Int, y_ = (([1, 2] : List Int)) := ⟨_, rfl⟩
      replace H : ((belvederemake_Set.f k t374 t375 y377 20).bind fun bt380 => (belvederelaw4_SliceChunks.l0 k (wrap64 ((Int.tmod (wrap64 ((Int.tmod a1 6) + 6)) 6) + 1)) true bt380.1 ([] : List (S36)) ([] : List (S41)) false 0)) = some r := by first | (rw [hy377]; with_reducible exact H) | (have H2_ := (Option.bind_some _ _).symm.trans H; rw [hy377]; with_reducible exact H2_) | (have H2_ := (Option.bind_some _ _).symm.trans H; with_reducible exact H2_) | with_reducible exact H | (rw [hy377]; exact H) | exact H
      have Ny377 := Aside0.mk hy377
      clear hy377
      replace H := Option.bind_eq_some_iff.mp H
      obtain ⟨⟨t380, t383⟩, A80, H⟩ := H
      replace H : (belvederelaw4_SliceChunks.l0 k (wrap64 ((Int.tmod (wrap64 ((Int.tmod a1 6) + 6)) 6) + 1)) true t380 ([] : List (S36)) ([] : List (S41)) false 0) = some r := H
      have A8 := Aside0.mk A80
      clear A80
      have H' := Aside0.mk H
      clear H
      go_enter Try.func5, Try.ntmps5
      go_wp2_with (first | ((with_reducible refine gate_callee (f := 17) rfl ?_); refine goesL_ (some 12) rfl rfl Try.func17 (by kernel_rfl) rfl #[] rfl (by (try simp only [List.map_toArray, List.map_cons, List.map_nil]); first | done | rfl | (simp only [List.length_drop, List.length_take]; rfl)) ?_; (with_reducible refine (belvederelaw4_first.calls  true _ A3.out).mono ?_); rintro e w9 ⟨rfl, hb⟩; refine ⟨_, rfl, ?_⟩; have n0_ := Aside0.mk (below_step (by repeat (first | (with_reducible first | exact HB.out | apply below_alloc | apply pw_below_drewN | apply below_drew1) | exact HB.out)) hb); clear HB; have HB := n0_; clear n0_; (try clear hb); (try clear hb2); (try clear hk); (try clear hi)) | ((with_reducible refine gate_dst (N := 21) rfl ?_); (try (refine gate_guard (by rfl) ?_; dsimp only)); refine boxC_ ?hg (N := 21) ?hd (cs := #[.slice A0 l0.length c0, .int .i64 0]) (t := 26) ?hr ?_; (case hd => rfl); (case hg => rfl); (case hr => first | (go_simp; done) | (go_simp; rfl)); (with_reducible refine (newS26.calls _ _ l0 0 t374 t375 w _ ?side1 ?side2 ?side3 A7.out).mono ?_); (case side1 => repeat (first | (with_reducible first | exact HB.out | apply below_alloc | apply pw_below_drewN | apply below_drew1) | exact HB.out)); (case side2 => exact HR0.out); (case side3 => exact HC0.out); rintro e w10 ⟨g376, rfl, hi, hb, hb2⟩; refine ⟨_, rfl, ?_⟩; have n0_ := Aside0.mk (hb); have n1_ := Aside0.mk (hi); clear HB; have HB := n0_; have HI376 := n1_; clear n0_ n1_; (try clear hb); (try clear hb2); (try clear hk); (try clear hi)) | ((with_reducible refine gate_dst (N := 22) rfl ?_); (try (refine gate_guard (by rfl) ?_; dsimp only)); refine Kd.R_lit (Kd.int .i64) _ 3 ?hg (N := 22) ?hd (xs := ([1, 2] : List Int)) (inner := [.int .i64 1, .int .i64 2]) (ok := fun _ => True) (okp := fun _ => True) ?hr ?hp (fun _ hk => hk) trivial (Below.refl _ _) (Nat.le_refl _) (by simp) ?_; (case hd => rfl); (case hg => rfl); (case hr => first | (go_simp; done) | (go_simp; rfl)); (case hp => exact (Reps.one (show Kd.M (Kd.int .i64) _ _ _ 1 [.int .i64 1] from rfl) (Reps.one (show Kd.M (Kd.int .i64) _ _ _ 2 [.int .i64 2] from rfl) (Reps.none _ _)))); intro v378 w11 ho12 hb hg_ hnew_; clear hg_ hnew_; (first | rw [← Ny377.out] at ho12 | (simp only [Int.reduceToNat] at ho12; rw [← Ny377.out] at ho12)); have n0_ := Aside0.mk (Kd.R_lower ho12 (below_size (by repeat (first | (with_reducible first | exact HB.out | apply below_alloc | apply pw_below_drewN | apply below_drew1 | refine below_set ?_ (IsS26.ge HI376.out)) | exact HB.out)))); have n1_ := Aside0.mk (IsS26.below (by repeat (first | (with_reducible first | exact HI376.out | apply IsS26.alloc | apply IsS26.drewN | apply IsS26.drew | apply IsS26.set_1) | exact HI376.out)) hb); have n2_ := Aside0.mk (below_step (by repeat (first | (with_reducible first | exact HB.out | apply below_alloc | apply pw_below_drewN | apply below_drew1 | refine below_set ?_ (IsS26.ge HI376.out)) | exact HB.out)) hb); clear HI376; clear HB; have HO379 := n0_; have HI376 := n1_; have HB := n2_; clear n0_ n1_ n2_; clear hb ho12; obtain ⟨Ao13, co13, eo13⟩ := Kd.R_slice HO379.out; subst eo13) | ((with_reducible refine gate_callee (f := 14) rfl ?_); refine goesL_ (some 23) rfl rfl Try.func14 (by kernel_rfl) rfl #[.pointer (some ⟨g376, 0, none⟩), .slice Ao13 y377.length co13, .int .i64 20] rfl (by (try simp only [List.map_toArray, List.map_cons, List.map_nil]); first | done | rfl | (simp only [List.length_drop, List.length_take]; rfl)) ?_; (with_reducible refine (belvederemake_Set.calls k g376 t374 t375 _ _ y377 20 t380 t383 w _ ?side1 ?side2 ?side3 ?side4 ?side5 A8.out).mono ?_); (case side1 => repeat (first | (with_reducible first | exact HI376.out | apply IsS26.alloc | apply IsS26.drewN | apply IsS26.drew | apply IsS26.set_1) | exact HI376.out)); (case side2 => repeat (first | (with_reducible first | exact HB.out | apply below_alloc | apply pw_below_drewN | apply below_drew1 | refine below_set ?_ (IsS26.ge HI376.out)) | exact HB.out)); (case side3 => repeat (first | exact (Kd.R_reads' HO379.out).2.2 | (with_reducible refine Kd.C_alloc ?_ _) | (with_reducible refine Kd.C_drewN ?_ _) | (with_reducible refine Kd.C_drew ?_))); (case side4 => exact (Kd.R_reads' HO379.out).2.1); (case side5 => exact far_slice (IsS26.own_ne HI376.out HO379.out (by decide))); rintro e w14 ⟨v381, rfl, ho0, hi, hb, hk⟩; refine ⟨_, rfl, ?_⟩; have n0_ := Aside0.mk (Kd.R_mono (Kd.R_keep (IsS26.apart (show IsS26 w _ g376 t374 t375 from by repeat (first | (with_reducible first | exact HI376.out | apply IsS26.alloc | apply IsS26.drewN | apply IsS26.drew | apply IsS26.set_1) | exact HI376.out)) (by (with_reducible repeat (first | apply Kd.R_alloc | apply Kd.R_drewN | apply Kd.R_drew)); exact HO379.out) (by decide)) hk (fun _ h => h.2)) (fun _ h => h.1)); have n1_ := Aside0.mk (Kd.N_lower (Kd.N_mono (ok' := fun k_ => some k_ ≠ (.slice Ao13 y377.length co13 : Value).ownBlock ∧ k_ ≠ g376) ho0 (fun k_ hk_ => ⟨(Kd.fresh' (Kd.R_lt (by (with_reducible repeat (first | apply Kd.R_alloc | apply Kd.R_drewN | apply Kd.R_drew)); exact HO379.out)) k_ hk_), (IsS26.fresh (by repeat (first | (with_reducible first | exact HI376.out | apply IsS26.alloc | apply IsS26.drewN | apply IsS26.drew | apply IsS26.set_1) | exact HI376.out)) k_ hk_)⟩)) (below_size (by repeat (first | (with_reducible first | exact HB.out | apply below_alloc | apply pw_below_drewN | apply below_drew1 | refine below_set ?_ (IsS26.ge HI376.out)) | exact HB.out)))); have n2_ := Aside0.mk (hb); have n3_ := Aside0.mk (hi); clear HO379; clear HB; clear HI376; have HO379 := n0_; have HO382 := n1_; have HB := n2_; have HI376 := n3_; clear n0_ n1_ n2_ n3_; (try clear hb); (try clear hb2); (try clear hk); (try clear hi); (try clear ho0)))
      go_loopg [7, 8, 9, 10] k (fun kq v7 v8 v9 v10 w' => ∃ (x7_1 : List (S36)) (x8_1 : List (S41)) (x9_1 : Bool) (x10_1 : Int), v9 = .bool x9_1 ∧ v10 = .int .i64 x10_1 ∧ Aside0 (belvederelaw4_SliceChunks.l0 kq (wrap64 ((Int.tmod (wrap64 ((Int.tmod a1 6) + 6)) 6) + 1)) true t380 x7_1 x8_1 x9_1 x10_1 = some r) ∧ Aside0 (kq ≤ k) ∧ Aside0 (Kd.N k36 36 w' w.heap.size (fun k_ => some k_ ≠ (v7 : Value).ownBlock) v381 t380) ∧ Aside0 (Kd.N k36 36 w' w.heap.size (fun k_ => some k_ ≠ (v381 : Value).ownBlock) v7 x7_1) ∧ Aside0 (Kd.V k41 41 w' w.heap.size (fun k_ => some k_ ≠ (v381 : Value).ownBlock ∧ some k_ ≠ (v7 : Value).ownBlock) v8 x8_1) ∧ Aside0 (Below w.heap.size w w'))
      case atStart => exact ⟨(([] : List (S36))), (([] : List (S41))), (false), (0), (by first | rfl | (simp; done) | (simp [*]; done)), (by first | rfl | (simp; done) | (simp [*]; done)), H', ⟨Nat.le_refl _⟩, ⟨by (with_reducible repeat (first | apply Kd.N_alloc | apply Kd.N_drewN | apply Kd.N_drew)); exact Kd.N_mono HO382.out (fun _ hk => (by simp [Value.ownBlock]))⟩, ⟨by first | exact Kd.S_nil _ _ _ _ _ | exact Kd.N_nil _ _ _ _ _ | exact Kd.V_nil _ _ _ _ _ | exact Kd.Q_nil _ _ _ _ _ | exact Kd.R_nil _ _ _ _ _⟩, ⟨Kd.V_nil _ _ _ _ _⟩, ⟨by repeat (first | (with_reducible first | exact HB.out | apply below_alloc | apply pw_below_drewN | apply below_drew1 | refine below_set ?_ (IsS26.ge HI376.out)) | exact HB.out)⟩⟩
      case round =>
        clear H'
        try clear c1
        try clear p2
        try clear c4
        try clear c5
        try clear c5b0
        try clear c5b1
        try clear p6
        try clear c14
        obtain ⟨x7_1, x8_1, x9_1, x10_1, rfl, rfl, HA, HK1, HO_6, HO_7, HO_8, HB⟩ := hrel
        cases gk with
        | zero => exact absurd HA.out (by simp [belvederelaw4_SliceChunks.l0])
        | succ k1 =>
          have H := HA.out
          clear HA
          simp only [belvederelaw4_SliceChunks.l0] at H
          by_cases c15 : x10_1 ≤ (t380.length : Int)
          · rw [if_pos c15] at H
            have c15b0 : decide (x10_1 ≤ (t380.length : Int)) = true := decide_eq_true c15
            clear c15
            replace H := Option.bind_eq_some_iff.mp H
            obtain ⟨t386, A160, H⟩ := H
            replace H : (if (t386.length : Int) = 0 then (if true = true then ((belvedereref_SameEntries.f k1 x7_1 t380).bind fun t389 => (if t389 = true then ((slice_Count.f k1 t380 x8_1 x9_1).bind fun t390 => (some (t390 == 0))) else (some false))) else (some false)) else (if (t386.length : Int) > (wrap64 ((Int.tmod (wrap64 ((Int.tmod a1 6) + 6)) 6) + 1)) then (belvederelaw4_SliceChunks.j1 k1 (wrap64 ((Int.tmod (wrap64 ((Int.tmod a1 6) + 6)) 6) + 1)) true t380 x7_1 x10_1 t386 true) else (if 0 ≤ (wrap64 ((t386.length : Int) - 1)) then (if (wrap64 ((t386.length : Int) - 1)) < (t386.length : Int) then ((slice_Count.f k1 t380 ((rd_T36 t386 (wrap64 ((t386.length : Int) - 1))).f0) true).bind fun t392 => ((slice_Count.f k1 t380 x8_1 x9_1).bind fun t393 => (belvederelaw4_SliceChunks.j1 k1 (wrap64 ((Int.tmod (wrap64 ((Int.tmod a1 6) + 6)) 6) + 1)) true t380 x7_1 x10_1 t386 ((wrap64 ((t386.length : Int) + t392)) != t393)))) else (none)) else (none)))) = some r := H
            have A16 := Aside0.mk A160
            clear A160
            by_cases c17 : (t386.length : Int) = 0
            · rw [if_pos c17] at H
              have c17b0 : ((t386.length : Int) == 0) = true := beq_iff_eq.mpr c17
              have c17b1 : ((t386.length : Int) != 0) = false := bne_eq_false_iff_eq.mpr c17
              clear c17
              have H1 : ((belvedereref_SameEntries.f k1 x7_1 t380).bind fun t389 => (if t389 = true then ((slice_Count.f k1 t380 x8_1 x9_1).bind fun t390 => (some (t390 == 0))) else (some false))) = some r := by first | (rw [if_pos trivial] at H; exact H) | (rw [if_pos rfl] at H; exact H) | exact H
              clear H
              have H := H1
              clear H1
              replace H := Option.bind_eq_some_iff.mp H
              obtain ⟨t389, A180, H⟩ := H
              replace H : (if t389 = true then ((slice_Count.f k1 t380 x8_1 x9_1).bind fun t390 => (some (t390 == 0))) else (some false)) = some r := H
              have A18 := Aside0.mk A180
              clear A180
              by_cases c19 : t389 = true
              · subst c19
                have H1 : ((slice_Count.f k1 t380 x8_1 x9_1).bind fun t390 => (some (t390 == 0))) = some r := by rw [if_pos rfl] at H; exact H
                clear H
                have H := H1
                clear H1
                replace H := Option.bind_eq_some_iff.mp H
                obtain ⟨t390, A200, H⟩ := H
                replace H : (some (t390 == 0)) = some r := H
                have A20 := Aside0.mk A200
                clear A200
                obtain rfl := Option.some.inj H
                obtain ⟨Ao21, co21, eo21⟩ := Kd.N_slice HO_6.out
                subst eo21
                obtain ⟨Ao22, co22, eo22⟩ := Kd.V_slice HO_8.out
                subst eo22
                go_wp2_with (first | ((with_reducible refine gate_callee (f := 19) rfl ?_); refine goesL_ (some 39) rfl rfl Try.func19 (by kernel_rfl) rfl #[.slice Ao21 t380.length co21, .slice Ao22 x8_1.length co22, .bool x9_1, .int .i64 (wrap64 ((Int.tmod (wrap64 ((Int.tmod a1 6) + 6)) 6) + 1))] rfl (by (try simp only [List.map_toArray, List.map_cons, List.map_nil]); first | done | rfl | (simp only [List.length_drop, List.length_take]; rfl)) ?_; (with_reducible refine (slice_After.calls k1 _ _ t380 _ _ x8_1 x9_1 (wrap64 ((Int.tmod (wrap64 ((Int.tmod a1 6) + 6)) 6) + 1)) t386 _ ?side1 ?side2 ?side3 ?side4 A16.out).mono ?_); (case side1 => repeat (first | exact (Kd.N_reads' HO_6.out).2.2 | (with_reducible refine Kd.C_alloc ?_ _) | (with_reducible refine Kd.C_drewN ?_ _) | (with_reducible refine Kd.C_drew ?_))); (case side2 => exact (Kd.N_reads' HO_6.out).2.1); (case side3 => repeat (first | exact (Kd.V_reads' HO_8.out).2.2 | (with_reducible refine Kd.C_alloc ?_ _) | (with_reducible refine Kd.C_drewN ?_ _) | (with_reducible refine Kd.C_drew ?_))); (case side4 => exact (Kd.V_reads' HO_8.out).2.1); rintro e w23 ⟨v387, rfl, ho0, hb⟩; refine ⟨_, rfl, ?_⟩; have n0_ := Aside0.mk (Kd.N_elder' (by (with_reducible repeat (first | apply Kd.N_alloc | apply Kd.N_drewN | apply Kd.N_drew)); exact HO_6.out) (by first | exact Kd.N_base ho0 | exact Kd.S_base ho0 | exact Kd.R_base ho0) hb); have n1_ := Aside0.mk (Kd.N_elder' (by (with_reducible repeat (first | apply Kd.N_alloc | apply Kd.N_drewN | apply Kd.N_drew)); exact HO_7.out) (by first | exact Kd.N_base ho0 | exact Kd.S_base ho0 | exact Kd.R_base ho0) hb); have n2_ := Aside0.mk (Kd.V_elder' (by (with_reducible repeat (first | apply Kd.V_alloc | apply Kd.V_drewN | apply Kd.V_drew)); exact HO_8.out) (by first | exact Kd.N_base ho0 | exact Kd.S_base ho0 | exact Kd.R_base ho0) hb); have n3_ := Aside0.mk (Kd.N_lower (Kd.N_mono (ok' := fun k_ => some k_ ≠ (.slice Ao21 t380.length co21 : Value).ownBlock ∧ some k_ ≠ (u7 : Value).ownBlock) (Kd.S_N (Kd.S_bound ho0)) (fun k_ hk_ => ⟨(Kd.fresh' (Kd.N_lt (by (with_reducible repeat (first | apply Kd.N_alloc | apply Kd.N_drewN | apply Kd.N_drew)); exact HO_6.out)) k_ hk_.2.1), (Kd.fresh' (Kd.N_lt (by (with_reducible repeat (first | apply Kd.N_alloc | apply Kd.N_drewN | apply Kd.N_drew)); exact HO_7.out)) k_ hk_.2.1)⟩)) (below_size (by repeat (first | (with_reducible first | exact HB.out | apply below_alloc | apply pw_below_drewN | apply below_drew1) | exact HB.out)))); have n4_ := Aside0.mk (below_step (by repeat (first | (with_reducible first | exact HB.out | apply below_alloc | apply pw_below_drewN | apply below_drew1) | exact HB.out)) hb); clear HO_6; clear HO_7; clear HO_8; clear HB; have HO_6 := n0_; have HO_7 := n1_; have HO_8 := n2_; have HO388 := n3_; have HB := n4_; clear n0_ n1_ n2_ n3_ n4_; (try clear hb); (try clear hb2); (try clear hk); (try clear hi); (try clear ho0); obtain ⟨Ao24, co24, eo24⟩ := Kd.N_slice HO388.out; subst eo24; obtain ⟨Ao25, co25, eo25⟩ := Kd.N_slice HO_7.out; subst eo25) | (go_at_call 21; (with_reducible refine (belvedereref_SameEntries.calls k1 _ _ x7_1 _ _ t380 true _ ?side1 ?side2 ?side3 ?side4 A18.out).mono ?_); (case side1 => repeat (first | exact (Kd.N_reads' HO_7.out).2.2 | (with_reducible refine Kd.C_alloc ?_ _) | (with_reducible refine Kd.C_drewN ?_ _) | (with_reducible refine Kd.C_drew ?_))); (case side2 => exact (Kd.N_reads' HO_7.out).2.1); (case side3 => repeat (first | exact (Kd.N_reads' HO_6.out).2.2 | (with_reducible refine Kd.C_alloc ?_ _) | (with_reducible refine Kd.C_drewN ?_ _) | (with_reducible refine Kd.C_drew ?_))); (case side4 => exact (Kd.N_reads' HO_6.out).2.1); rintro e w26 ⟨rfl, hb⟩; have n0_ := Aside0.mk (Kd.N_below (by (with_reducible repeat (first | apply Kd.N_alloc | apply Kd.N_drewN | apply Kd.N_drew)); exact HO_6.out) hb); have n1_ := Aside0.mk (Kd.N_below (by (with_reducible repeat (first | apply Kd.N_alloc | apply Kd.N_drewN | apply Kd.N_drew)); exact HO_7.out) hb); have n2_ := Aside0.mk (Kd.V_below (by (with_reducible repeat (first | apply Kd.V_alloc | apply Kd.V_drewN | apply Kd.V_drew)); exact HO_8.out) hb); have n3_ := Aside0.mk (Kd.N_below (by (with_reducible repeat (first | apply Kd.N_alloc | apply Kd.N_drewN | apply Kd.N_drew)); exact HO388.out) hb); have n4_ := Aside0.mk (below_step (by repeat (first | (with_reducible first | exact HB.out | apply below_alloc | apply pw_below_drewN | apply below_drew1) | exact HB.out)) hb); clear HO_6; clear HO_7; clear HO_8; clear HO388; clear HB; have HO_6 := n0_; have HO_7 := n1_; have HO_8 := n2_; have HO388 := n3_; have HB := n4_; clear n0_ n1_ n2_ n3_ n4_; (try clear hb); (try clear hb2); (try clear hk); (try clear hi)) | (go_at_call 22; (with_reducible refine (slice_Count.calls k1 _ _ t380 _ _ x8_1 x9_1 t390 _ ?side1 ?side2 ?side3 ?side4 A20.out).mono ?_); (case side1 => repeat (first | exact (Kd.N_reads' HO_6.out).2.2 | (with_reducible refine Kd.C_alloc ?_ _) | (with_reducible refine Kd.C_drewN ?_ _) | (with_reducible refine Kd.C_drew ?_))); (case side2 => exact (Kd.N_reads' HO_6.out).2.1); (case side3 => repeat (first | exact (Kd.V_reads' HO_8.out).2.2 | (with_reducible refine Kd.C_alloc ?_ _) | (with_reducible refine Kd.C_drewN ?_ _) | (with_reducible refine Kd.C_drew ?_))); (case side4 => exact (Kd.V_reads' HO_8.out).2.1); rintro e w27 ⟨rfl, hb⟩; have n0_ := Aside0.mk (Kd.N_below (by (with_reducible repeat (first | apply Kd.N_alloc | apply Kd.N_drewN | apply Kd.N_drew)); exact HO_6.out) hb); have n1_ := Aside0.mk (Kd.N_below (by (with_reducible repeat (first | apply Kd.N_alloc | apply Kd.N_drewN | apply Kd.N_drew)); exact HO_7.out) hb); have n2_ := Aside0.mk (Kd.V_below (by (with_reducible repeat (first | apply Kd.V_alloc | apply Kd.V_drewN | apply Kd.V_drew)); exact HO_8.out) hb); have n3_ := Aside0.mk (Kd.N_below (by (with_reducible repeat (first | apply Kd.N_alloc | apply Kd.N_drewN | apply Kd.N_drew)); exact HO388.out) hb); have n4_ := Aside0.mk (below_step (by repeat (first | (with_reducible first | exact HB.out | apply below_alloc | apply pw_below_drewN | apply below_drew1) | exact HB.out)) hb); clear HO_6; clear HO_7; clear HO_8; clear HO388; clear HB; have HO_6 := n0_; have HO_7 := n1_; have HO_8 := n2_; have HO388 := n3_; have HB := n4_; clear n0_ n1_ n2_ n3_ n4_; (try clear hb); (try clear hb2); (try clear hk); (try clear hi)))
                go_ret
                exact ⟨by first | rfl | (simp [errW_none, errW_some] <;> rfl) | (simp [*, errW_none, errW_some] <;> rfl), by repeat (first | (with_reducible first | exact HB.out | apply below_alloc | apply pw_below_drewN | apply below_drew1) | exact HB.out)⟩
              · replace c19 := Bool.eq_false_iff.mpr c19
                subst c19
                have H1 : (some false) = some r := by rw [if_neg (show ¬ (false = true) by decide)] at H; exact H
                clear H
                have H := H1
                clear H1
                obtain rfl := Option.some.inj H
                obtain ⟨Ao28, co28, eo28⟩ := Kd.N_slice HO_6.out
                subst eo28
                obtain ⟨Ao29, co29, eo29⟩ := Kd.V_slice HO_8.out
                subst eo29
                go_wp2_with (first | ((with_reducible refine gate_callee (f := 19) rfl ?_); refine goesL_ (some 39) rfl rfl Try.func19 (by kernel_rfl) rfl #[.slice Ao28 t380.length co28, .slice Ao29 x8_1.length co29, .bool x9_1, .int .i64 (wrap64 ((Int.tmod (wrap64 ((Int.tmod a1 6) + 6)) 6) + 1))] rfl (by (try simp only [List.map_toArray, List.map_cons, List.map_nil]); first | done | rfl | (simp only [List.length_drop, List.length_take]; rfl)) ?_; (with_reducible refine (slice_After.calls k1 _ _ t380 _ _ x8_1 x9_1 (wrap64 ((Int.tmod (wrap64 ((Int.tmod a1 6) + 6)) 6) + 1)) t386 _ ?side1 ?side2 ?side3 ?side4 A16.out).mono ?_); (case side1 => repeat (first | exact (Kd.N_reads' HO_6.out).2.2 | (with_reducible refine Kd.C_alloc ?_ _) | (with_reducible refine Kd.C_drewN ?_ _) | (with_reducible refine Kd.C_drew ?_))); (case side2 => exact (Kd.N_reads' HO_6.out).2.1); (case side3 => repeat (first | exact (Kd.V_reads' HO_8.out).2.2 | (with_reducible refine Kd.C_alloc ?_ _) | (with_reducible refine Kd.C_drewN ?_ _) | (with_reducible refine Kd.C_drew ?_))); (case side4 => exact (Kd.V_reads' HO_8.out).2.1); rintro e w30 ⟨v387, rfl, ho0, hb⟩; refine ⟨_, rfl, ?_⟩; have n0_ := Aside0.mk (Kd.N_elder' (by (with_reducible repeat (first | apply Kd.N_alloc | apply Kd.N_drewN | apply Kd.N_drew)); exact HO_6.out) (by first | exact Kd.N_base ho0 | exact Kd.S_base ho0 | exact Kd.R_base ho0) hb); have n1_ := Aside0.mk (Kd.N_elder' (by (with_reducible repeat (first | apply Kd.N_alloc | apply Kd.N_drewN | apply Kd.N_drew)); exact HO_7.out) (by first | exact Kd.N_base ho0 | exact Kd.S_base ho0 | exact Kd.R_base ho0) hb); have n2_ := Aside0.mk (Kd.V_elder' (by (with_reducible repeat (first | apply Kd.V_alloc | apply Kd.V_drewN | apply Kd.V_drew)); exact HO_8.out) (by first | exact Kd.N_base ho0 | exact Kd.S_base ho0 | exact Kd.R_base ho0) hb); have n3_ := Aside0.mk (Kd.N_lower (Kd.N_mono (ok' := fun k_ => some k_ ≠ (.slice Ao28 t380.length co28 : Value).ownBlock ∧ some k_ ≠ (u7 : Value).ownBlock) (Kd.S_N (Kd.S_bound ho0)) (fun k_ hk_ => ⟨(Kd.fresh' (Kd.N_lt (by (with_reducible repeat (first | apply Kd.N_alloc | apply Kd.N_drewN | apply Kd.N_drew)); exact HO_6.out)) k_ hk_.2.1), (Kd.fresh' (Kd.N_lt (by (with_reducible repeat (first | apply Kd.N_alloc | apply Kd.N_drewN | apply Kd.N_drew)); exact HO_7.out)) k_ hk_.2.1)⟩)) (below_size (by repeat (first | (with_reducible first | exact HB.out | apply below_alloc | apply pw_below_drewN | apply below_drew1) | exact HB.out)))); have n4_ := Aside0.mk (below_step (by repeat (first | (with_reducible first | exact HB.out | apply below_alloc | apply pw_below_drewN | apply below_drew1) | exact HB.out)) hb); clear HO_6; clear HO_7; clear HO_8; clear HB; have HO_6 := n0_; have HO_7 := n1_; have HO_8 := n2_; have HO388 := n3_; have HB := n4_; clear n0_ n1_ n2_ n3_ n4_; (try clear hb); (try clear hb2); (try clear hk); (try clear hi); (try clear ho0); obtain ⟨Ao31, co31, eo31⟩ := Kd.N_slice HO388.out; subst eo31; obtain ⟨Ao32, co32, eo32⟩ := Kd.N_slice HO_7.out; subst eo32) | (go_at_call 21; (with_reducible refine (belvedereref_SameEntries.calls k1 _ _ x7_1 _ _ t380 false _ ?side1 ?side2 ?side3 ?side4 A18.out).mono ?_); (case side1 => repeat (first | exact (Kd.N_reads' HO_7.out).2.2 | (with_reducible refine Kd.C_alloc ?_ _) | (with_reducible refine Kd.C_drewN ?_ _) | (with_reducible refine Kd.C_drew ?_))); (case side2 => exact (Kd.N_reads' HO_7.out).2.1); (case side3 => repeat (first | exact (Kd.N_reads' HO_6.out).2.2 | (with_reducible refine Kd.C_alloc ?_ _) | (with_reducible refine Kd.C_drewN ?_ _) | (with_reducible refine Kd.C_drew ?_))); (case side4 => exact (Kd.N_reads' HO_6.out).2.1); rintro e w33 ⟨rfl, hb⟩; have n0_ := Aside0.mk (Kd.N_below (by (with_reducible repeat (first | apply Kd.N_alloc | apply Kd.N_drewN | apply Kd.N_drew)); exact HO_6.out) hb); have n1_ := Aside0.mk (Kd.N_below (by (with_reducible repeat (first | apply Kd.N_alloc | apply Kd.N_drewN | apply Kd.N_drew)); exact HO_7.out) hb); have n2_ := Aside0.mk (Kd.V_below (by (with_reducible repeat (first | apply Kd.V_alloc | apply Kd.V_drewN | apply Kd.V_drew)); exact HO_8.out) hb); have n3_ := Aside0.mk (Kd.N_below (by (with_reducible repeat (first | apply Kd.N_alloc | apply Kd.N_drewN | apply Kd.N_drew)); exact HO388.out) hb); have n4_ := Aside0.mk (below_step (by repeat (first | (with_reducible first | exact HB.out | apply below_alloc | apply pw_below_drewN | apply below_drew1) | exact HB.out)) hb); clear HO_6; clear HO_7; clear HO_8; clear HO388; clear HB; have HO_6 := n0_; have HO_7 := n1_; have HO_8 := n2_; have HO388 := n3_; have HB := n4_; clear n0_ n1_ n2_ n3_ n4_; (try clear hb); (try clear hb2); (try clear hk); (try clear hi)))
                go_ret
                exact ⟨by first | rfl | (simp [errW_none, errW_some] <;> rfl) | (simp [*, errW_none, errW_some] <;> rfl), by repeat (first | (with_reducible first | exact HB.out | apply below_alloc | apply pw_below_drewN | apply below_drew1) | exact HB.out)⟩
            · rw [if_neg c17] at H
              have c17b0 : ((t386.length : Int) == 0) = false := beq_eq_false_iff_ne.mpr c17
              have c17b1 : ((t386.length : Int) != 0) = true := bne_iff_ne.mpr c17
              have c17b2 : ¬ (t386 = []) := fun h_ => c17 (by rw [h_]; rfl)
              have HC34 := Aside0.mk H
              clear H
              obtain ⟨Ao35, co35, eo35⟩ := Kd.N_slice HO_6.out
              subst eo35
              obtain ⟨Ao36, co36, eo36⟩ := Kd.V_slice HO_8.out
              subst eo36
              go_upto_region 16 with (first | ((with_reducible refine gate_callee (f := 19) rfl ?_); refine goesL_ (some 39) rfl rfl Try.func19 (by kernel_rfl) rfl #[.slice Ao35 t380.length co35, .slice Ao36 x8_1.length co36, .bool x9_1, .int .i64 (wrap64 ((Int.tmod (wrap64 ((Int.tmod a1 6) + 6)) 6) + 1))] rfl (by (try simp only [List.map_toArray, List.map_cons, List.map_nil]); first | done | rfl | (simp only [List.length_drop, List.length_take]; rfl)) ?_; (with_reducible refine (slice_After.calls k1 _ _ t380 _ _ x8_1 x9_1 (wrap64 ((Int.tmod (wrap64 ((Int.tmod a1 6) + 6)) 6) + 1)) t386 _ ?side1 ?side2 ?side3 ?side4 A16.out).mono ?_); (case side1 => repeat (first | exact (Kd.N_reads' HO_6.out).2.2 | (with_reducible refine Kd.C_alloc ?_ _) | (with_reducible refine Kd.C_drewN ?_ _) | (with_reducible refine Kd.C_drew ?_))); (case side2 => exact (Kd.N_reads' HO_6.out).2.1); (case side3 => repeat (first | exact (Kd.V_reads' HO_8.out).2.2 | (with_reducible refine Kd.C_alloc ?_ _) | (with_reducible refine Kd.C_drewN ?_ _) | (with_reducible refine Kd.C_drew ?_))); (case side4 => exact (Kd.V_reads' HO_8.out).2.1); rintro e w37 ⟨v387, rfl, ho0, hb⟩; refine ⟨_, rfl, ?_⟩; have n0_ := Aside0.mk (Kd.N_elder' (by (with_reducible repeat (first | apply Kd.N_alloc | apply Kd.N_drewN | apply Kd.N_drew)); exact HO_6.out) (by first | exact Kd.N_base ho0 | exact Kd.S_base ho0 | exact Kd.R_base ho0) hb); have n1_ := Aside0.mk (Kd.N_elder' (by (with_reducible repeat (first | apply Kd.N_alloc | apply Kd.N_drewN | apply Kd.N_drew)); exact HO_7.out) (by first | exact Kd.N_base ho0 | exact Kd.S_base ho0 | exact Kd.R_base ho0) hb); have n2_ := Aside0.mk (Kd.V_elder' (by (with_reducible repeat (first | apply Kd.V_alloc | apply Kd.V_drewN | apply Kd.V_drew)); exact HO_8.out) (by first | exact Kd.N_base ho0 | exact Kd.S_base ho0 | exact Kd.R_base ho0) hb); have n3_ := Aside0.mk (Kd.N_lower (Kd.N_mono (ok' := fun k_ => some k_ ≠ (.slice Ao35 t380.length co35 : Value).ownBlock ∧ some k_ ≠ (u7 : Value).ownBlock) (Kd.S_N (Kd.S_bound ho0)) (fun k_ hk_ => ⟨(Kd.fresh' (Kd.N_lt (by (with_reducible repeat (first | apply Kd.N_alloc | apply Kd.N_drewN | apply Kd.N_drew)); exact HO_6.out)) k_ hk_.2.1), (Kd.fresh' (Kd.N_lt (by (with_reducible repeat (first | apply Kd.N_alloc | apply Kd.N_drewN | apply Kd.N_drew)); exact HO_7.out)) k_ hk_.2.1)⟩)) (below_size (by repeat (first | (with_reducible first | exact HB.out | apply below_alloc | apply pw_below_drewN | apply below_drew1) | exact HB.out)))); have n4_ := Aside0.mk (below_step (by repeat (first | (with_reducible first | exact HB.out | apply below_alloc | apply pw_below_drewN | apply below_drew1) | exact HB.out)) hb); clear HO_6; clear HO_7; clear HO_8; clear HB; have HO_6 := n0_; have HO_7 := n1_; have HO_8 := n2_; have HO388 := n3_; have HB := n4_; clear n0_ n1_ n2_ n3_ n4_; (try clear hb); (try clear hb2); (try clear hk); (try clear hi); (try clear ho0); obtain ⟨Ao38, co38, eo38⟩ := Kd.N_slice HO388.out; subst eo38))
              (try simp only [Act.put, List.setIfInBounds_toArray, List.set_cons_zero, List.set_cons_succ])
              go_cut [65] (fun v65 wc => ∃ (kq : Nat) (x65_33 : Bool), v65 = .bool x65_33 ∧ Aside0 (belvederelaw4_SliceChunks.j1 kq (wrap64 ((Int.tmod (wrap64 ((Int.tmod a1 6) + 6)) 6) + 1)) true t380 x7_1 x10_1 t386 x65_33 = some r) ∧ Aside0 (kq ≤ k1) ∧ Aside0 (Kd.N k36 36 wc w.heap.size (fun k_ => some k_ ≠ (u7 : Value).ownBlock ∧ some k_ ≠ ((.slice Ao38 t386.length co38) : Value).ownBlock) (.slice Ao35 t380.length co35) t380) ∧ Aside0 (Kd.N k36 36 wc w.heap.size (fun k_ => some k_ ≠ ((.slice Ao35 t380.length co35) : Value).ownBlock ∧ some k_ ≠ ((.slice Ao38 t386.length co38) : Value).ownBlock) u7 x7_1) ∧ Aside0 (Kd.N k36 36 wc w.heap.size (fun k_ => some k_ ≠ ((.slice Ao35 t380.length co35) : Value).ownBlock ∧ some k_ ≠ (u7 : Value).ownBlock) (.slice Ao38 t386.length co38) t386) ∧ Aside0 (Below w.heap.size w wc))
              case first =>
                have H := HC34.out
                clear HC34
                by_cases c39 : (t386.length : Int) > (wrap64 ((Int.tmod (wrap64 ((Int.tmod a1 6) + 6)) 6) + 1))
                · rw [if_pos c39] at H
                  have c39b0 : decide ((wrap64 ((Int.tmod (wrap64 ((Int.tmod a1 6) + 6)) 6) + 1)) < (t386.length : Int)) = true := decide_eq_true c39
                  clear c39
                  (first | rw [c39b0] | (simp only [i64_w, i32_w]; rw [c39b0]) | skip)
                  have H' := Aside0.mk H
                  clear H
                  go_wp2
                  go_meet
                  case rel => exact ⟨_, (true), (by first | rfl | (simp; done) | (simp [*]; done)), H', ⟨by have := HK1.out; first | omega | exact Nat.le_refl _⟩, ⟨by (with_reducible repeat (first | apply Kd.N_alloc | apply Kd.N_drewN | apply Kd.N_drew)); exact HO_6.out⟩, ⟨by (with_reducible repeat (first | apply Kd.N_alloc | apply Kd.N_drewN | apply Kd.N_drew)); exact HO_7.out⟩, ⟨by (with_reducible repeat (first | apply Kd.N_alloc | apply Kd.N_drewN | apply Kd.N_drew)); exact HO388.out⟩, ⟨by repeat (first | (with_reducible first | exact HB.out | apply below_alloc | apply pw_below_drewN | apply below_drew1) | exact HB.out)⟩⟩
                · rw [if_neg c39] at H
                  have c39b0 : decide ((wrap64 ((Int.tmod (wrap64 ((Int.tmod a1 6) + 6)) 6) + 1)) < (t386.length : Int)) = false := decide_eq_false c39
                  clear c39
                  (first | rw [c39b0] | (simp only [i64_w, i32_w]; rw [c39b0]) | skip)
                  obtain ⟨ji40, hji40⟩ : ∃ j_ : Int, (wrap64 ((t386.length : Int) - 1)) = j_ := ⟨_, rfl⟩
                  replace H : (if 0 ≤ (ji40) then (if (ji40) < (t386.length : Int) then ((slice_Count.f k1 t380 ((rd_T36 t386 (ji40)).f0) true).bind fun t392 => ((slice_Count.f k1 t380 x8_1 x9_1).bind fun t393 => (belvederelaw4_SliceChunks.j1 k1 (wrap64 ((Int.tmod (wrap64 ((Int.tmod a1 6) + 6)) 6) + 1)) true t380 x7_1 x10_1 t386 ((wrap64 ((t386.length : Int) + t392)) != t393)))) else (none)) else (none)) = some r := by first | (rw [hji40] at H; exact H) | (simp only [hji40] at H ⊢; exact H)
                  have hji40w : (IntKind.i64.wrap ((t386.length : Int) - 1)) = ji40 := (i64_w _).trans hji40
                  by_cases c41 : 0 ≤ (ji40)
                  · rw [if_pos c41] at H
                    have c41b0 : decide (0 ≤ (ji40)) = true := decide_eq_true c41
                    clear c41
                    by_cases c42 : (ji40) < (t386.length : Int)
                    · rw [if_pos c42] at H
                      have c42b0 : decide ((ji40) < (t386.length : Int)) = true := decide_eq_true c42
                      clear c42
                      replace H := Option.bind_eq_some_iff.mp H
                      obtain ⟨t392, A430, H⟩ := H
                      replace H : ((slice_Count.f k1 t380 x8_1 x9_1).bind fun t393 => (belvederelaw4_SliceChunks.j1 k1 (wrap64 ((Int.tmod (wrap64 ((Int.tmod a1 6) + 6)) 6) + 1)) true t380 x7_1 x10_1 t386 ((wrap64 ((t386.length : Int) + t392)) != t393))) = some r := H
                      have A43 := Aside0.mk A430
                      clear A430
                      replace H := Option.bind_eq_some_iff.mp H
                      obtain ⟨t393, A440, H⟩ := H
                      replace H : (belvederelaw4_SliceChunks.j1 k1 (wrap64 ((Int.tmod (wrap64 ((Int.tmod a1 6) + 6)) 6) + 1)) true t380 x7_1 x10_1 t386 ((wrap64 ((t386.length : Int) + t392)) != t393)) = some r := H
                      have A44 := Aside0.mk A440
                      clear A440
                      have H' := Aside0.mk H
                      clear H
                      have p391 : 0 ≤ ((ji40) : Int) := of_decide_eq_true (by first | (with_reducible assumption) | assumption)
                      have q391 : (ji40) < (t386.length : Int) := of_decide_eq_true (by first | (with_reducible assumption) | assumption)
                      obtain ⟨ad391, A391_0, c391_0, e391, hx391_0, hx391_1, hl391_0, hi391_0⟩ := at_T36 (Kd.N_reads' HO388.out).2.2 (ji40) p391 q391
                      cases e391
                      obtain ⟨ce391, hce391, hMe391, hcc391⟩ := Kd.N_get HO388.out z36 (ji40) p391 (by first | exact q391 | exact of_decide_eq_true (by first | (with_reducible assumption) | assumption) | (have e_ := (Kd.N_reads' HO388.out).1; omega))
                      obtain ⟨ua391_0, uc391_0, rfl, ul391_0, ge391_0⟩ := k36_openF hMe391
                      have hv391_0 := hcc391 0 _ rfl
                      rw [Nat.add_zero] at hv391_0
                      replace hv391_0 := Option.some.inj (hv391_0.symm.trans hx391_0)
                      injection hv391_0 with hva_ hvn_ hvc_
                      rw [hva_] at ge391_0
                      rw [hvc_] at ul391_0
                      have HL391_0 := Aside0.mk (show Kd.V k41 41 _ w.heap.size _ _ ((rd_T36 t386 (ji40)).f0) from Kd.V_mk ul391_0 ge391_0)
                      clear hva_ hvn_ hvc_ ge391_0 ul391_0
                      clear hcc391 hce391
                      have HR391_0 := Aside0.mk hi391_0
                      have HC391_0 := Aside0.mk hl391_0
                      clear hi391_0 hl391_0
                      replace p391 := eq_true p391
                      replace q391 := eq_true q391
                      go_wp2_with (first | (go_at_call 22; (with_reducible refine (slice_Count.calls k1 _ _ t380 _ _ ((rd_T36 t386 (ji40)).f0) true t392 _ ?side1 ?side2 ?side3 ?side4 A43.out).mono ?_); (case side1 => repeat (first | exact (Kd.N_reads' HO_6.out).2.2 | (with_reducible refine Kd.C_alloc ?_ _) | (with_reducible refine Kd.C_drewN ?_ _) | (with_reducible refine Kd.C_drew ?_))); (case side2 => exact (Kd.N_reads' HO_6.out).2.1); (case side3 => repeat (first | exact (by repeat (first | (with_reducible exact HR391_0.out) | (with_reducible refine Kd.C_alloc ?_ _) | (with_reducible refine Kd.C_drewN ?_ _) | (with_reducible refine Kd.C_drew ?_) | exact HR391_0.out)) | (with_reducible refine Kd.C_alloc ?_ _) | (with_reducible refine Kd.C_drewN ?_ _) | (with_reducible refine Kd.C_drew ?_))); (case side4 => exact HC391_0.out); rintro e w45 ⟨rfl, hb⟩; have n0_ := Aside0.mk (Kd.N_below (by (with_reducible repeat (first | apply Kd.N_alloc | apply Kd.N_drewN | apply Kd.N_drew)); exact HO_6.out) hb); have n1_ := Aside0.mk (Kd.N_below (by (with_reducible repeat (first | apply Kd.N_alloc | apply Kd.N_drewN | apply Kd.N_drew)); exact HO_7.out) hb); have n2_ := Aside0.mk (Kd.V_below (by (with_reducible repeat (first | apply Kd.V_alloc | apply Kd.V_drewN | apply Kd.V_drew)); exact HO_8.out) hb); have n3_ := Aside0.mk (Kd.N_below (by (with_reducible repeat (first | apply Kd.N_alloc | apply Kd.N_drewN | apply Kd.N_drew)); exact HO388.out) hb); have n4_ := Aside0.mk (Kd.V_below (by (with_reducible repeat (first | apply Kd.V_alloc | apply Kd.V_drewN | apply Kd.V_drew)); exact HL391_0.out) hb); have n5_ := Aside0.mk (Kd.C_below (by repeat (first | (with_reducible exact HR391_0.out) | (with_reducible refine Kd.C_alloc ?_ _) | (with_reducible refine Kd.C_drewN ?_ _) | (with_reducible refine Kd.C_drew ?_) | exact HR391_0.out)) hb); have n6_ := Aside0.mk (below_step (by repeat (first | (with_reducible first | exact HB.out | apply below_alloc | apply pw_below_drewN | apply below_drew1) | exact HB.out)) hb); clear HO_6; clear HO_7; clear HO_8; clear HO388; clear HL391_0; clear HR391_0; clear HB; have HO_6 := n0_; have HO_7 := n1_; have HO_8 := n2_; have HO388 := n3_; have HL391_0 := n4_; have HR391_0 := n5_; have HB := n6_; clear n0_ n1_ n2_ n3_ n4_ n5_ n6_; (try clear hb); (try clear hb2); (try clear hk); (try clear hi)) | (go_at_call 22; (with_reducible refine (slice_Count.calls k1 _ _ t380 _ _ x8_1 x9_1 t393 _ ?side1 ?side2 ?side3 ?side4 A44.out).mono ?_); (case side1 => repeat (first | exact (Kd.N_reads' HO_6.out).2.2 | (with_reducible refine Kd.C_alloc ?_ _) | (with_reducible refine Kd.C_drewN ?_ _) | (with_reducible refine Kd.C_drew ?_))); (case side2 => exact (Kd.N_reads' HO_6.out).2.1); (case side3 => repeat (first | exact (Kd.V_reads' HO_8.out).2.2 | (with_reducible refine Kd.C_alloc ?_ _) | (with_reducible refine Kd.C_drewN ?_ _) | (with_reducible refine Kd.C_drew ?_))); (case side4 => exact (Kd.V_reads' HO_8.out).2.1); rintro e w46 ⟨rfl, hb⟩; have n0_ := Aside0.mk (Kd.N_below (by (with_reducible repeat (first | apply Kd.N_alloc | apply Kd.N_drewN | apply Kd.N_drew)); exact HO_6.out) hb); have n1_ := Aside0.mk (Kd.N_below (by (with_reducible repeat (first | apply Kd.N_alloc | apply Kd.N_drewN | apply Kd.N_drew)); exact HO_7.out) hb); have n2_ := Aside0.mk (Kd.V_below (by (with_reducible repeat (first | apply Kd.V_alloc | apply Kd.V_drewN | apply Kd.V_drew)); exact HO_8.out) hb); have n3_ := Aside0.mk (Kd.N_below (by (with_reducible repeat (first | apply Kd.N_alloc | apply Kd.N_drewN | apply Kd.N_drew)); exact HO388.out) hb); have n4_ := Aside0.mk (Kd.V_below (by (with_reducible repeat (first | apply Kd.V_alloc | apply Kd.V_drewN | apply Kd.V_drew)); exact HL391_0.out) hb); have n5_ := Aside0.mk (Kd.C_below (by repeat (first | (with_reducible exact HR391_0.out) | (with_reducible refine Kd.C_alloc ?_ _) | (with_reducible refine Kd.C_drewN ?_ _) | (with_reducible refine Kd.C_drew ?_) | exact HR391_0.out)) hb); have n6_ := Aside0.mk (below_step (by repeat (first | (with_reducible first | exact HB.out | apply below_alloc | apply pw_below_drewN | apply below_drew1) | exact HB.out)) hb); clear HO_6; clear HO_7; clear HO_8; clear HO388; clear HL391_0; clear HR391_0; clear HB; have HO_6 := n0_; have HO_7 := n1_; have HO_8 := n2_; have HO388 := n3_; have HL391_0 := n4_; have HR391_0 := n5_; have HB := n6_; clear n0_ n1_ n2_ n3_ n4_ n5_ n6_; (try clear hb); (try clear hb2); (try clear hk); (try clear hi)))
                      go_meet
                      case rel => exact ⟨_, (((wrap64 ((t386.length : Int) + t392)) != t393)), (by first | rfl | (simp; done) | (simp [*]; done)), H', ⟨by have := HK1.out; first | omega | exact Nat.le_refl _⟩, ⟨by (with_reducible repeat (first | apply Kd.N_alloc | apply Kd.N_drewN | apply Kd.N_drew)); exact HO_6.out⟩, ⟨by (with_reducible repeat (first | apply Kd.N_alloc | apply Kd.N_drewN | apply Kd.N_drew)); exact HO_7.out⟩, ⟨by (with_reducible repeat (first | apply Kd.N_alloc | apply Kd.N_drewN | apply Kd.N_drew)); exact HO388.out⟩, ⟨by repeat (first | (with_reducible first | exact HB.out | apply below_alloc | apply pw_below_drewN | apply below_drew1) | exact HB.out)⟩⟩
                    · rw [if_neg c42] at H
                      exact absurd H (by simp)
                  · rw [if_neg c41] at H
                    exact absurd H (by simp)
              case rest =>
                clear HC34
                try clear c1
                try clear p2
                try clear c3
                try clear p3
                try clear q3
                try clear hx3
                try clear c4
                try clear c5
                try clear c5b0
                try clear c5b1
                try clear p6
                try clear c14
                try clear c15
                try clear c15b0
                try clear c17
                try clear c17b0
                try clear c17b1
                try clear c17b2
                try clear c19
                try clear c39
                try clear c39b0
                try clear p39
                try clear q39
                try clear hx39
                try clear c41
                try clear c41b0
                try clear c42
                try clear c42b0
                try clear hx391_0
                try clear hx391_1
                try clear p2
                try clear p391
                try clear p6
                try clear q391
                obtain ⟨kq, x65_33, rfl, HA, HJ33, HO_6, HO_7, HO_11, HB⟩ := hcut
                cases kq with
                | zero => exact absurd HA.out (by simp [belvederelaw4_SliceChunks.j1])
                | succ kj33 =>
                  have H := HA.out
                  clear HA
                  simp only [belvederelaw4_SliceChunks.j1] at H
                  by_cases c47 : x65_33 = true
                  · subst c47
                    have H1 : (some false) = some r := by rw [if_pos rfl] at H; exact H
                    clear H
                    have H := H1
                    clear H1
                    obtain rfl := Option.some.inj H
                    go_wp2
                    go_ret
                    exact ⟨by first | rfl | (simp [errW_none, errW_some] <;> rfl) | (simp [*, errW_none, errW_some] <;> rfl), by repeat (first | (with_reducible first | exact HB.out | apply below_alloc | apply pw_below_drewN | apply below_drew1) | exact HB.out)⟩
                  · replace c47 := Bool.eq_false_iff.mpr c47
                    subst c47
                    have H1 : (if 0 ≤ (wrap64 ((t386.length : Int) - 1)) then (if (wrap64 ((t386.length : Int) - 1)) < (t386.length : Int) then (if x7_1.length + t386.length < 4398046511104 then ((some (x7_1 ++ t386 : List (S36))).bind fun y395 => ((slice_Upto.f kj33 t380 ((rd_T36 t386 (wrap64 ((t386.length : Int) - 1))).f0) true).bind fun t398 => ((belvedereref_SameEntries.f kj33 t398 y395).bind fun t401 => (if t401 = true then (belvederelaw4_SliceChunks.l0 kj33 (wrap64 ((Int.tmod (wrap64 ((Int.tmod a1 6) + 6)) 6) + 1)) true t380 y395 ((rd_T36 t386 (wrap64 ((t386.length : Int) - 1))).f0) true (wrap64 (x10_1 + 1))) else (some false))))) else (none)) else (none)) else (none)) = some r := by rw [if_neg (show ¬ (false = true) by decide)] at H; exact H
                    clear H
                    have H := H1
                    clear H1
                    obtain ⟨ji48, hji48⟩ : ∃ j_ : Int, (wrap64 ((t386.length : Int) - 1)) = j_ := ⟨_, rfl⟩
                    replace H : (if 0 ≤ (ji48) then (if (ji48) < (t386.length : Int) then (if x7_1.length + t386.length < 4398046511104 then ((some (x7_1 ++ t386 : List (S36))).bind fun y395 => ((slice_Upto.f kj33 t380 ((rd_T36 t386 (ji48)).f0) true).bind fun t398 => ((belvedereref_SameEntries.f kj33 t398 y395).bind fun t401 => (if t401 = true then (belvederelaw4_SliceChunks.l0 kj33 (wrap64 ((Int.tmod (wrap64 ((Int.tmod a1 6) + 6)) 6) + 1)) true t380 y395 ((rd_T36 t386 (ji48)).f0) true (wrap64 (x10_1 + 1))) else (some false))))) else (none)) else (none)) else (none)) = some r := by first | (rw [hji48] at H; exact H) | (simp only [hji48] at H ⊢; exact H)
                    have hji48w : (IntKind.i64.wrap ((t386.length : Int) - 1)) = ji48 := (i64_w _).trans hji48
                    by_cases c49 : 0 ≤ (ji48)
                    · rw [if_pos c49] at H
                      have c49b0 : decide (0 ≤ (ji48)) = true := decide_eq_true c49
                      clear c49
                      by_cases c50 : (ji48) < (t386.length : Int)
                      · rw [if_pos c50] at H
                        have c50b0 : decide ((ji48) < (t386.length : Int)) = true := decide_eq_true c50
                        clear c50
                        by_cases c51 : x7_1.length + t386.length < 4398046511104
                        · rw [if_pos c51] at H
                          have LMc51 := Aside0.mk c51
                          clear c51
                          obtain ⟨y395, hy395⟩ : ∃ y_ : List (S36), y_ = (x7_1 ++ t386) := ⟨_, rfl⟩
                          replace H : ((slice_Upto.f kj33 t380 ((rd_T36 t386 (ji48)).f0) true).bind fun t398 => ((belvedereref_SameEntries.f kj33 t398 y395).bind fun t401 => (if t401 = true then (belvederelaw4_SliceChunks.l0 kj33 (wrap64 ((Int.tmod (wrap64 ((Int.tmod a1 6) + 6)) 6) + 1)) true t380 y395 ((rd_T36 t386 (ji48)).f0) true (wrap64 (x10_1 + 1))) else (some false)))) = some r := by first | (rw [hy395]; with_reducible exact H) | (have H2_ := (Option.bind_some _ _).symm.trans H; rw [hy395]; with_reducible exact H2_) | (have H2_ := (Option.bind_some _ _).symm.trans H; with_reducible exact H2_) | with_reducible exact H | (rw [hy395]; exact H) | exact H
                          have Ny395 := Aside0.mk hy395
                          clear hy395
                          replace H := Option.bind_eq_some_iff.mp H
                          obtain ⟨t398, A520, H⟩ := H
                          replace H : ((belvedereref_SameEntries.f kj33 t398 y395).bind fun t401 => (if t401 = true then (belvederelaw4_SliceChunks.l0 kj33 (wrap64 ((Int.tmod (wrap64 ((Int.tmod a1 6) + 6)) 6) + 1)) true t380 y395 ((rd_T36 t386 (ji48)).f0) true (wrap64 (x10_1 + 1))) else (some false))) = some r := H
                          have A52 := Aside0.mk A520
                          clear A520
                          replace H := Option.bind_eq_some_iff.mp H
                          obtain ⟨t401, A530, H⟩ := H
                          replace H : (if t401 = true then (belvederelaw4_SliceChunks.l0 kj33 (wrap64 ((Int.tmod (wrap64 ((Int.tmod a1 6) + 6)) 6) + 1)) true t380 y395 ((rd_T36 t386 (ji48)).f0) true (wrap64 (x10_1 + 1))) else (some false)) = some r := H
                          have A53 := Aside0.mk A530
                          clear A530
                          by_cases c54 : t401 = true
                          · subst c54
                            have H1 : (belvederelaw4_SliceChunks.l0 kj33 (wrap64 ((Int.tmod (wrap64 ((Int.tmod a1 6) + 6)) 6) + 1)) true t380 y395 ((rd_T36 t386 (ji48)).f0) true (wrap64 (x10_1 + 1))) = some r := by rw [if_pos rfl] at H; exact H
                            clear H
                            have H := H1
                            clear H1
                            have H' := Aside0.mk H
                            clear H
                            have p394 : 0 ≤ ((ji48) : Int) := of_decide_eq_true (by first | (with_reducible assumption) | assumption)
                            have q394 : (ji48) < (t386.length : Int) := of_decide_eq_true (by first | (with_reducible assumption) | assumption)
                            obtain ⟨ad394, A394_0, c394_0, e394, hx394_0, hx394_1, hl394_0, hi394_0⟩ := at_T36 (Kd.N_reads' HO_11.out).2.2 (ji48) p394 q394
                            cases e394
                            obtain ⟨ce394, hce394, hMe394, hcc394⟩ := Kd.N_get HO_11.out z36 (ji48) p394 (by first | exact q394 | exact of_decide_eq_true (by first | (with_reducible assumption) | assumption) | (have e_ := (Kd.N_reads' HO_11.out).1; omega))
                            obtain ⟨ua394_0, uc394_0, rfl, ul394_0, ge394_0⟩ := k36_openF hMe394
                            have hv394_0 := hcc394 0 _ rfl
                            rw [Nat.add_zero] at hv394_0
                            replace hv394_0 := Option.some.inj (hv394_0.symm.trans hx394_0)
                            injection hv394_0 with hva_ hvn_ hvc_
                            rw [hva_] at ge394_0
                            rw [hvc_] at ul394_0
                            have HL394_0 := Aside0.mk (show Kd.V k41 41 _ w.heap.size _ _ ((rd_T36 t386 (ji48)).f0) from Kd.V_mk ul394_0 ge394_0)
                            clear hva_ hvn_ hvc_ ge394_0 ul394_0
                            clear hcc394 hce394
                            have HR394_0 := Aside0.mk hi394_0
                            have HC394_0 := Aside0.mk hl394_0
                            clear hi394_0 hl394_0
                            replace p394 := eq_true p394
                            replace q394 := eq_true q394
                            go_wp2_with (first | ((with_reducible refine gate_builtin (b := .append) (xs := #[.tmp 73, .tmp 74]) rfl ?_); (try (refine gate_guard (by rfl) ?_; dsimp only)); at_builtin; refine Kd.N_append_rows k36 (w0 := w) w.heap.size rfl (.tmp 73) (.tmp 74) 27 36 (.agg #[(.slice none 0 0), (.int .i64 0)]) 32 rfl Try.underlying27 info36 rfl (by decide) (by omega) u7 x7_1 t386 _ _ _ (fun k_ => some k_ ≠ (.slice Ao35 t380.length co35 : Value).ownBlock) (fun k_ => ((fun k_ => some k_ ≠ (.slice Ao35 t380.length co35 : Value).ownBlock)) k_ ∧ some k_ ≠ (u7 : Value).ownBlock) rfl rfl ?aO ?aR (fun _ hk => hk) ?aF ?aB ?aS ?aL ?_; (case aR => exact (by skip; exact Kd.N_F (Kd.N_mono (ok' := (fun k_ => ((fun k_ => some k_ ≠ (.slice Ao35 t380.length co35 : Value).ownBlock)) k_ ∧ some k_ ≠ (u7 : Value).ownBlock)) (HO_11.out) (fun k_ hk => ⟨hk.1, hk.2⟩)))); (case aB => exact (by repeat (first | (with_reducible first | exact HB.out | apply below_alloc | apply pw_below_drewN | apply below_drew1) | exact HB.out))); (case aF => exact (fun k_ hk => Kd.fresh' (Kd.N_lt (by (with_reducible repeat (first | apply Kd.N_alloc | apply Kd.N_drewN | apply Kd.N_drew)); exact HO_6.out)) k_ hk)); (case aO => exact (by (with_reducible repeat (first | apply Kd.N_alloc | apply Kd.N_drewN | apply Kd.N_drew)); exact Kd.N_mono HO_7.out (fun _ hk => hk.1))); (case aS => exact (below_size (by repeat (first | (with_reducible first | exact HB.out | apply below_alloc | apply pw_below_drewN | apply below_drew1) | exact HB.out)))); (case aL => have := LMc51.out; omega); intro v396 w55 ho hb hg hat; rw [← Ny395.out] at ho; have n0_ := Aside0.mk (Kd.N_afterv (ok := (fun k_ => some k_ ≠ (.slice (some ad394) t386.length co38 : Value).ownBlock)) (by (with_reducible repeat (first | apply Kd.N_alloc | apply Kd.N_drewN | apply Kd.N_drew)); exact Kd.N_mono HO_6.out (fun _ hk => ⟨hk.2, hk.1⟩)) hg hat); have n1_ := Aside0.mk (Kd.N_afterv (ok := (fun k_ => some k_ ≠ (.slice Ao35 t380.length co35 : Value).ownBlock)) (by (with_reducible repeat (first | apply Kd.N_alloc | apply Kd.N_drewN | apply Kd.N_drew)); exact HO_11.out) hg hat); have n2_ := Aside0.mk (Kd.V_afterv (ok := (fun k_ => some k_ ≠ (.slice Ao35 t380.length co35 : Value).ownBlock ∧ some k_ ≠ (.slice (some ad394) t386.length co38 : Value).ownBlock)) (by (with_reducible repeat (first | apply Kd.V_alloc | apply Kd.V_drewN | apply Kd.V_drew)); exact Kd.V_mono HL394_0.out (fun _ hk => ⟨⟨hk.1.1, hk.2⟩, hk.1.2⟩)) hg hat); have n3_ := Aside0.mk (hb); have n4_ := Aside0.mk (ho); clear HO_6; clear HO_11; clear HL394_0; clear HB; clear HO_7; have HO_6 := n0_; have HO_11 := n1_; have HL394_0 := n2_; have HB := n3_; have HO397 := n4_; clear n0_ n1_ n2_ n3_ n4_; clear ho hb hg hat) | ((with_reducible refine gate_callee (f := 20) rfl ?_); refine goesL_ (some 78) rfl rfl Try.func20 (by kernel_rfl) rfl #[.slice Ao35 t380.length co35, .slice A394_0 ((rd_T36 t386 (ji48)).f0).length c394_0, .bool true] rfl (by (try simp only [List.map_toArray, List.map_cons, List.map_nil]); first | done | (simp only [hji48]; rfl) | rfl | (simp only [List.length_drop, List.length_take]; rfl)) ?_; (with_reducible refine (slice_Upto.calls kj33 _ _ t380 _ _ ((rd_T36 t386 (ji48)).f0) true t398 _ ?side1 ?side2 ?side3 ?side4 A52.out).mono ?_); (case side1 => repeat (first | exact (Kd.N_reads' HO_6.out).2.2 | (with_reducible refine Kd.C_alloc ?_ _) | (with_reducible refine Kd.C_drewN ?_ _) | (with_reducible refine Kd.C_drew ?_))); (case side2 => exact (Kd.N_reads' HO_6.out).2.1); (case side3 => repeat (first | exact ((Kd.V_reads' (by (with_reducible repeat (first | apply Kd.V_alloc | apply Kd.V_drewN | apply Kd.V_drew)); exact HL394_0.out)).2.2) | (with_reducible refine Kd.C_alloc ?_ _) | (with_reducible refine Kd.C_drewN ?_ _) | (with_reducible refine Kd.C_drew ?_))); (case side4 => exact HC394_0.out); rintro e w56 ⟨v399, rfl, ho0, hb⟩; refine ⟨_, rfl, ?_⟩; have n0_ := Aside0.mk (Kd.N_elder' (by (with_reducible repeat (first | apply Kd.N_alloc | apply Kd.N_drewN | apply Kd.N_drew)); exact HO_6.out) (by first | exact Kd.N_base ho0 | exact Kd.S_base ho0 | exact Kd.R_base ho0) hb); have n1_ := Aside0.mk (Kd.N_elder' (by (with_reducible repeat (first | apply Kd.N_alloc | apply Kd.N_drewN | apply Kd.N_drew)); exact HO_11.out) (by first | exact Kd.N_base ho0 | exact Kd.S_base ho0 | exact Kd.R_base ho0) hb); have n2_ := Aside0.mk (Kd.V_elder' (by (with_reducible repeat (first | apply Kd.V_alloc | apply Kd.V_drewN | apply Kd.V_drew)); exact HL394_0.out) (by first | exact Kd.N_base ho0 | exact Kd.S_base ho0 | exact Kd.R_base ho0) hb); have n3_ := Aside0.mk (Kd.N_elder' (by (with_reducible repeat (first | apply Kd.N_alloc | apply Kd.N_drewN | apply Kd.N_drew)); exact HO397.out) (by first | exact Kd.N_base ho0 | exact Kd.S_base ho0 | exact Kd.R_base ho0) hb); have n4_ := Aside0.mk (Kd.N_lower (Kd.N_mono (ok' := fun k_ => some k_ ≠ (.slice Ao35 t380.length co35 : Value).ownBlock ∧ some k_ ≠ (.slice (some ad394) t386.length co38 : Value).ownBlock ∧ some k_ ≠ (v396 : Value).ownBlock) (Kd.S_N (Kd.S_bound ho0)) (fun k_ hk_ => ⟨(Kd.fresh' (Kd.N_lt (by (with_reducible repeat (first | apply Kd.N_alloc | apply Kd.N_drewN | apply Kd.N_drew)); exact HO_6.out)) k_ hk_.2.1), (Kd.fresh' (Kd.N_lt (by (with_reducible repeat (first | apply Kd.N_alloc | apply Kd.N_drewN | apply Kd.N_drew)); exact HO_11.out)) k_ hk_.2.1), (Kd.fresh' (Kd.N_lt (by (with_reducible repeat (first | apply Kd.N_alloc | apply Kd.N_drewN | apply Kd.N_drew)); exact HO397.out)) k_ hk_.2.1)⟩)) (below_size (by repeat (first | (with_reducible first | exact HB.out | apply below_alloc | apply pw_below_drewN | apply below_drew1) | exact HB.out)))); have n5_ := Aside0.mk (below_step (by repeat (first | (with_reducible first | exact HB.out | apply below_alloc | apply pw_below_drewN | apply below_drew1) | exact HB.out)) hb); clear HO_6; clear HO_11; clear HL394_0; clear HO397; clear HB; have HO_6 := n0_; have HO_11 := n1_; have HL394_0 := n2_; have HO397 := n3_; have HO400 := n4_; have HB := n5_; clear n0_ n1_ n2_ n3_ n4_ n5_; (try clear hb); (try clear hb2); (try clear hk); (try clear hi); (try clear ho0); obtain ⟨Ao57, co57, eo57⟩ := Kd.N_slice HO400.out; subst eo57; obtain ⟨Ao58, co58, eo58⟩ := Kd.N_slice HO397.out; subst eo58) | ((with_reducible refine gate_callee (f := 21) rfl ?_); refine goesL_ (some 80) rfl rfl Try.func21 (by kernel_rfl) rfl #[.slice Ao57 t398.length co57, .slice Ao58 y395.length co58] rfl (by (try simp only [List.map_toArray, List.map_cons, List.map_nil]); first | done | rfl | (simp only [List.length_drop, List.length_take]; rfl)) ?_; (with_reducible refine (belvedereref_SameEntries.calls kj33 _ _ t398 _ _ y395 true _ ?side1 ?side2 ?side3 ?side4 A53.out).mono ?_); (case side1 => repeat (first | exact (Kd.N_reads' HO400.out).2.2 | (with_reducible refine Kd.C_alloc ?_ _) | (with_reducible refine Kd.C_drewN ?_ _) | (with_reducible refine Kd.C_drew ?_))); (case side2 => exact (Kd.N_reads' HO400.out).2.1); (case side3 => repeat (first | exact (Kd.N_reads' HO397.out).2.2 | (with_reducible refine Kd.C_alloc ?_ _) | (with_reducible refine Kd.C_drewN ?_ _) | (with_reducible refine Kd.C_drew ?_))); (case side4 => exact (Kd.N_reads' HO397.out).2.1); rintro e w59 ⟨rfl, hb⟩; refine ⟨_, rfl, ?_⟩; have n0_ := Aside0.mk (Kd.N_below (by (with_reducible repeat (first | apply Kd.N_alloc | apply Kd.N_drewN | apply Kd.N_drew)); exact HO_6.out) hb); have n1_ := Aside0.mk (Kd.N_below (by (with_reducible repeat (first | apply Kd.N_alloc | apply Kd.N_drewN | apply Kd.N_drew)); exact HO_11.out) hb); have n2_ := Aside0.mk (Kd.V_below (by (with_reducible repeat (first | apply Kd.V_alloc | apply Kd.V_drewN | apply Kd.V_drew)); exact HL394_0.out) hb); have n3_ := Aside0.mk (Kd.N_below (by (with_reducible repeat (first | apply Kd.N_alloc | apply Kd.N_drewN | apply Kd.N_drew)); exact HO397.out) hb); have n4_ := Aside0.mk (Kd.N_below (by (with_reducible repeat (first | apply Kd.N_alloc | apply Kd.N_drewN | apply Kd.N_drew)); exact HO400.out) hb); have n5_ := Aside0.mk (below_step (by repeat (first | (with_reducible first | exact HB.out | apply below_alloc | apply pw_below_drewN | apply below_drew1) | exact HB.out)) hb); clear HO_6; clear HO_11; clear HL394_0; clear HO397; clear HO400; clear HB; have HO_6 := n0_; have HO_11 := n1_; have HL394_0 := n2_; have HO397 := n3_; have HO400 := n4_; have HB := n5_; clear n0_ n1_ n2_ n3_ n4_ n5_; (try clear hb); (try clear hb2); (try clear hk); (try clear hi)))
                            go_roundg kj33
                            case measure => have := HK1.out; have := HJ33.out; omega
                            case rel => exact ⟨(y395), ((rd_T36 t386 (ji48)).f0), (true), (wrap64 (x10_1 + 1)), (by first | rfl | (simp; done) | (simp [*]; done)), (by first | rfl | (simp; done) | (simp [*]; done)), H', ⟨by have := HK1.out; have := HJ33.out; omega⟩, ⟨by (with_reducible repeat (first | apply Kd.N_alloc | apply Kd.N_drewN | apply Kd.N_drew)); exact Kd.N_mono HO_6.out (fun _ hk => hk.1.2)⟩, ⟨by (with_reducible repeat (first | apply Kd.N_alloc | apply Kd.N_drewN | apply Kd.N_drew)); exact Kd.N_mono HO397.out (fun _ hk => hk.1)⟩, ⟨by (with_reducible repeat (first | apply Kd.V_alloc | apply Kd.V_drewN | apply Kd.V_drew)); exact Kd.V_mono HL394_0.out (fun _ hk => ⟨hk.1.1.1, hk.1.2⟩)⟩, ⟨by repeat (first | (with_reducible first | exact HB.out | apply below_alloc | apply pw_below_drewN | apply below_drew1) | exact HB.out)⟩⟩
                          · replace c54 := Bool.eq_false_iff.mpr c54
                            subst c54
                            have H1 : (some false) = some r := by rw [if_neg (show ¬ (false = true) by decide)] at H; exact H
                            clear H
                            have H := H1
                            clear H1
                            obtain rfl := Option.some.inj H
                            have p394 : 0 ≤ ((ji48) : Int) := of_decide_eq_true (by first | (with_reducible assumption) | assumption)
                            have q394 : (ji48) < (t386.length : Int) := of_decide_eq_true (by first | (with_reducible assumption) | assumption)
                            obtain ⟨ad394, A394_0, c394_0, e394, hx394_0, hx394_1, hl394_0, hi394_0⟩ := at_T36 (Kd.N_reads' HO_11.out).2.2 (ji48) p394 q394
                            cases e394
                            obtain ⟨ce394, hce394, hMe394, hcc394⟩ := Kd.N_get HO_11.out z36 (ji48) p394 (by first | exact q394 | exact of_decide_eq_true (by first | (with_reducible assumption) | assumption) | (have e_ := (Kd.N_reads' HO_11.out).1; omega))
                            obtain ⟨ua394_0, uc394_0, rfl, ul394_0, ge394_0⟩ := k36_openF hMe394
                            have hv394_0 := hcc394 0 _ rfl
                            rw [Nat.add_zero] at hv394_0
                            replace hv394_0 := Option.some.inj (hv394_0.symm.trans hx394_0)
                            injection hv394_0 with hva_ hvn_ hvc_
                            rw [hva_] at ge394_0
                            rw [hvc_] at ul394_0
                            have HL394_0 := Aside0.mk (show Kd.V k41 41 _ w.heap.size _ _ ((rd_T36 t386 (ji48)).f0) from Kd.V_mk ul394_0 ge394_0)
                            clear hva_ hvn_ hvc_ ge394_0 ul394_0
                            clear hcc394 hce394
                            have HR394_0 := Aside0.mk hi394_0
                            have HC394_0 := Aside0.mk hl394_0
                            clear hi394_0 hl394_0
                            replace p394 := eq_true p394
                            replace q394 := eq_true q394
                            go_wp2_with (first | ((with_reducible refine gate_builtin (b := .append) (xs := #[.tmp 73, .tmp 74]) rfl ?_); (try (refine gate_guard (by rfl) ?_; dsimp only)); at_builtin; refine Kd.N_append_rows k36 (w0 := w) w.heap.size rfl (.tmp 73) (.tmp 74) 27 36 (.agg #[(.slice none 0 0), (.int .i64 0)]) 32 rfl Try.underlying27 info36 rfl (by decide) (by omega) u7 x7_1 t386 _ _ _ (fun k_ => some k_ ≠ (.slice Ao35 t380.length co35 : Value).ownBlock) (fun k_ => ((fun k_ => some k_ ≠ (.slice Ao35 t380.length co35 : Value).ownBlock)) k_ ∧ some k_ ≠ (u7 : Value).ownBlock) rfl rfl ?aO ?aR (fun _ hk => hk) ?aF ?aB ?aS ?aL ?_; (case aR => exact (by skip; exact Kd.N_F (Kd.N_mono (ok' := (fun k_ => ((fun k_ => some k_ ≠ (.slice Ao35 t380.length co35 : Value).ownBlock)) k_ ∧ some k_ ≠ (u7 : Value).ownBlock)) (HO_11.out) (fun k_ hk => ⟨hk.1, hk.2⟩)))); (case aB => exact (by repeat (first | (with_reducible first | exact HB.out | apply below_alloc | apply pw_below_drewN | apply below_drew1) | exact HB.out))); (case aF => exact (fun k_ hk => Kd.fresh' (Kd.N_lt (by (with_reducible repeat (first | apply Kd.N_alloc | apply Kd.N_drewN | apply Kd.N_drew)); exact HO_6.out)) k_ hk)); (case aO => exact (by (with_reducible repeat (first | apply Kd.N_alloc | apply Kd.N_drewN | apply Kd.N_drew)); exact Kd.N_mono HO_7.out (fun _ hk => hk.1))); (case aS => exact (below_size (by repeat (first | (with_reducible first | exact HB.out | apply below_alloc | apply pw_below_drewN | apply below_drew1) | exact HB.out)))); (case aL => have := LMc51.out; omega); intro v396 w60 ho hb hg hat; rw [← Ny395.out] at ho; have n0_ := Aside0.mk (Kd.N_afterv (ok := (fun k_ => some k_ ≠ (.slice (some ad394) t386.length co38 : Value).ownBlock)) (by (with_reducible repeat (first | apply Kd.N_alloc | apply Kd.N_drewN | apply Kd.N_drew)); exact Kd.N_mono HO_6.out (fun _ hk => ⟨hk.2, hk.1⟩)) hg hat); have n1_ := Aside0.mk (Kd.N_afterv (ok := (fun k_ => some k_ ≠ (.slice Ao35 t380.length co35 : Value).ownBlock)) (by (with_reducible repeat (first | apply Kd.N_alloc | apply Kd.N_drewN | apply Kd.N_drew)); exact HO_11.out) hg hat); have n2_ := Aside0.mk (Kd.V_afterv (ok := (fun k_ => some k_ ≠ (.slice Ao35 t380.length co35 : Value).ownBlock ∧ some k_ ≠ (.slice (some ad394) t386.length co38 : Value).ownBlock)) (by (with_reducible repeat (first | apply Kd.V_alloc | apply Kd.V_drewN | apply Kd.V_drew)); exact Kd.V_mono HL394_0.out (fun _ hk => ⟨⟨hk.1.1, hk.2⟩, hk.1.2⟩)) hg hat); have n3_ := Aside0.mk (hb); have n4_ := Aside0.mk (ho); clear HO_6; clear HO_11; clear HL394_0; clear HB; clear HO_7; have HO_6 := n0_; have HO_11 := n1_; have HL394_0 := n2_; have HB := n3_; have HO397 := n4_; clear n0_ n1_ n2_ n3_ n4_; clear ho hb hg hat) | ((with_reducible refine gate_callee (f := 20) rfl ?_); refine goesL_ (some 78) rfl rfl Try.func20 (by kernel_rfl) rfl #[.slice Ao35 t380.length co35, .slice A394_0 ((rd_T36 t386 (ji48)).f0).length c394_0, .bool true] rfl (by (try simp only [List.map_toArray, List.map_cons, List.map_nil]); first | done | (simp only [hji48]; rfl) | rfl | (simp only [List.length_drop, List.length_take]; rfl)) ?_; (with_reducible refine (slice_Upto.calls kj33 _ _ t380 _ _ ((rd_T36 t386 (ji48)).f0) true t398 _ ?side1 ?side2 ?side3 ?side4 A52.out).mono ?_); (case side1 => repeat (first | exact (Kd.N_reads' HO_6.out).2.2 | (with_reducible refine Kd.C_alloc ?_ _) | (with_reducible refine Kd.C_drewN ?_ _) | (with_reducible refine Kd.C_drew ?_))); (case side2 => exact (Kd.N_reads' HO_6.out).2.1); (case side3 => repeat (first | exact ((Kd.V_reads' (by (with_reducible repeat (first | apply Kd.V_alloc | apply Kd.V_drewN | apply Kd.V_drew)); exact HL394_0.out)).2.2) | (with_reducible refine Kd.C_alloc ?_ _) | (with_reducible refine Kd.C_drewN ?_ _) | (with_reducible refine Kd.C_drew ?_))); (case side4 => exact HC394_0.out); rintro e w61 ⟨v399, rfl, ho0, hb⟩; refine ⟨_, rfl, ?_⟩; have n0_ := Aside0.mk (Kd.N_elder' (by (with_reducible repeat (first | apply Kd.N_alloc | apply Kd.N_drewN | apply Kd.N_drew)); exact HO_6.out) (by first | exact Kd.N_base ho0 | exact Kd.S_base ho0 | exact Kd.R_base ho0) hb); have n1_ := Aside0.mk (Kd.N_elder' (by (with_reducible repeat (first | apply Kd.N_alloc | apply Kd.N_drewN | apply Kd.N_drew)); exact HO_11.out) (by first | exact Kd.N_base ho0 | exact Kd.S_base ho0 | exact Kd.R_base ho0) hb); have n2_ := Aside0.mk (Kd.V_elder' (by (with_reducible repeat (first | apply Kd.V_alloc | apply Kd.V_drewN | apply Kd.V_drew)); exact HL394_0.out) (by first | exact Kd.N_base ho0 | exact Kd.S_base ho0 | exact Kd.R_base ho0) hb); have n3_ := Aside0.mk (Kd.N_elder' (by (with_reducible repeat (first | apply Kd.N_alloc | apply Kd.N_drewN | apply Kd.N_drew)); exact HO397.out) (by first | exact Kd.N_base ho0 | exact Kd.S_base ho0 | exact Kd.R_base ho0) hb); have n4_ := Aside0.mk (Kd.N_lower (Kd.N_mono (ok' := fun k_ => some k_ ≠ (.slice Ao35 t380.length co35 : Value).ownBlock ∧ some k_ ≠ (.slice (some ad394) t386.length co38 : Value).ownBlock ∧ some k_ ≠ (v396 : Value).ownBlock) (Kd.S_N (Kd.S_bound ho0)) (fun k_ hk_ => ⟨(Kd.fresh' (Kd.N_lt (by (with_reducible repeat (first | apply Kd.N_alloc | apply Kd.N_drewN | apply Kd.N_drew)); exact HO_6.out)) k_ hk_.2.1), (Kd.fresh' (Kd.N_lt (by (with_reducible repeat (first | apply Kd.N_alloc | apply Kd.N_drewN | apply Kd.N_drew)); exact HO_11.out)) k_ hk_.2.1), (Kd.fresh' (Kd.N_lt (by (with_reducible repeat (first | apply Kd.N_alloc | apply Kd.N_drewN | apply Kd.N_drew)); exact HO397.out)) k_ hk_.2.1)⟩)) (below_size (by repeat (first | (with_reducible first | exact HB.out | apply below_alloc | apply pw_below_drewN | apply below_drew1) | exact HB.out)))); have n5_ := Aside0.mk (below_step (by repeat (first | (with_reducible first | exact HB.out | apply below_alloc | apply pw_below_drewN | apply below_drew1) | exact HB.out)) hb); clear HO_6; clear HO_11; clear HL394_0; clear HO397; clear HB; have HO_6 := n0_; have HO_11 := n1_; have HL394_0 := n2_; have HO397 := n3_; have HO400 := n4_; have HB := n5_; clear n0_ n1_ n2_ n3_ n4_ n5_; (try clear hb); (try clear hb2); (try clear hk); (try clear hi); (try clear ho0); obtain ⟨Ao62, co62, eo62⟩ := Kd.N_slice HO400.out; subst eo62; obtain ⟨Ao63, co63, eo63⟩ := Kd.N_slice HO397.out; subst eo63) | ((with_reducible refine gate_callee (f := 21) rfl ?_); refine goesL_ (some 80) rfl rfl Try.func21 (by kernel_rfl) rfl #[.slice Ao62 t398.length co62, .slice Ao63 y395.length co63] rfl (by (try simp only [List.map_toArray, List.map_cons, List.map_nil]); first | done | rfl | (simp only [List.length_drop, List.length_take]; rfl)) ?_; (with_reducible refine (belvedereref_SameEntries.calls kj33 _ _ t398 _ _ y395 false _ ?side1 ?side2 ?side3 ?side4 A53.out).mono ?_); (case side1 => repeat (first | exact (Kd.N_reads' HO400.out).2.2 | (with_reducible refine Kd.C_alloc ?_ _) | (with_reducible refine Kd.C_drewN ?_ _) | (with_reducible refine Kd.C_drew ?_))); (case side2 => exact (Kd.N_reads' HO400.out).2.1); (case side3 => repeat (first | exact (Kd.N_reads' HO397.out).2.2 | (with_reducible refine Kd.C_alloc ?_ _) | (with_reducible refine Kd.C_drewN ?_ _) | (with_reducible refine Kd.C_drew ?_))); (case side4 => exact (Kd.N_reads' HO397.out).2.1); rintro e w64 ⟨rfl, hb⟩; refine ⟨_, rfl, ?_⟩; have n0_ := Aside0.mk (Kd.N_below (by (with_reducible repeat (first | apply Kd.N_alloc | apply Kd.N_drewN | apply Kd.N_drew)); exact HO_6.out) hb); have n1_ := Aside0.mk (Kd.N_below (by (with_reducible repeat (first | apply Kd.N_alloc | apply Kd.N_drewN | apply Kd.N_drew)); exact HO_11.out) hb); have n2_ := Aside0.mk (Kd.V_below (by (with_reducible repeat (first | apply Kd.V_alloc | apply Kd.V_drewN | apply Kd.V_drew)); exact HL394_0.out) hb); have n3_ := Aside0.mk (Kd.N_below (by (with_reducible repeat (first | apply Kd.N_alloc | apply Kd.N_drewN | apply Kd.N_drew)); exact HO397.out) hb); have n4_ := Aside0.mk (Kd.N_below (by (with_reducible repeat (first | apply Kd.N_alloc | apply Kd.N_drewN | apply Kd.N_drew)); exact HO400.out) hb); have n5_ := Aside0.mk (below_step (by repeat (first | (with_reducible first | exact HB.out | apply below_alloc | apply pw_below_drewN | apply below_drew1) | exact HB.out)) hb); clear HO_6; clear HO_11; clear HL394_0; clear HO397; clear HO400; clear HB; have HO_6 := n0_; have HO_11 := n1_; have HL394_0 := n2_; have HO397 := n3_; have HO400 := n4_; have HB := n5_; clear n0_ n1_ n2_ n3_ n4_ n5_; (try clear hb); (try clear hb2); (try clear hk); (try clear hi)))
                            go_ret
                            exact ⟨by first | rfl | (simp [errW_none, errW_some] <;> rfl) | (simp only [← hji48]; first | rfl | (simp [errW_none, errW_some] <;> rfl)) | (simp [*, errW_none, errW_some] <;> rfl), by repeat (first | (with_reducible first | exact HB.out | apply below_alloc | apply pw_below_drewN | apply below_drew1) | exact HB.out)⟩
                        · rw [if_neg c51] at H
                          exact absurd H (by simp)
                      · rw [if_neg c50] at H
                        exact absurd H (by simp)
                    · rw [if_neg c49] at H
                      exact absurd H (by simp)
          · rw [if_neg c15] at H
            have c15b0 : decide (x10_1 ≤ (t380.length : Int)) = false := decide_eq_false c15
            clear c15
            have H1 : ((belvedereref_SameEntries.f k1 x7_1 t380).bind fun t384 => (if t384 = true then ((slice_Count.f k1 t380 x8_1 x9_1).bind fun t385 => (some (t385 == 0))) else (some false))) = some r := by first | (rw [if_pos trivial] at H; exact H) | (rw [if_pos rfl] at H; exact H) | exact H
            clear H
            have H := H1
            clear H1
            replace H := Option.bind_eq_some_iff.mp H
            obtain ⟨t384, A650, H⟩ := H
            replace H : (if t384 = true then ((slice_Count.f k1 t380 x8_1 x9_1).bind fun t385 => (some (t385 == 0))) else (some false)) = some r := H
            have A65 := Aside0.mk A650
            clear A650
            by_cases c66 : t384 = true
            · subst c66
              have H1 : ((slice_Count.f k1 t380 x8_1 x9_1).bind fun t385 => (some (t385 == 0))) = some r := by rw [if_pos rfl] at H; exact H
              clear H
              have H := H1
              clear H1
              replace H := Option.bind_eq_some_iff.mp H
              obtain ⟨t385, A670, H⟩ := H
              replace H : (some (t385 == 0)) = some r := H
              have A67 := Aside0.mk A670
              clear A670
              obtain rfl := Option.some.inj H
              obtain ⟨Ao68, co68, eo68⟩ := Kd.N_slice HO_6.out
              subst eo68
              obtain ⟨Ao69, co69, eo69⟩ := Kd.N_slice HO_7.out
              subst eo69
              go_wp2_with (first | (go_at_call 21; (with_reducible refine (belvedereref_SameEntries.calls k1 _ _ x7_1 _ _ t380 true _ ?side1 ?side2 ?side3 ?side4 A65.out).mono ?_); (case side1 => repeat (first | exact (Kd.N_reads' HO_7.out).2.2 | (with_reducible refine Kd.C_alloc ?_ _) | (with_reducible refine Kd.C_drewN ?_ _) | (with_reducible refine Kd.C_drew ?_))); (case side2 => exact (Kd.N_reads' HO_7.out).2.1); (case side3 => repeat (first | exact (Kd.N_reads' HO_6.out).2.2 | (with_reducible refine Kd.C_alloc ?_ _) | (with_reducible refine Kd.C_drewN ?_ _) | (with_reducible refine Kd.C_drew ?_))); (case side4 => exact (Kd.N_reads' HO_6.out).2.1); rintro e w70 ⟨rfl, hb⟩; have n0_ := Aside0.mk (Kd.N_below (by (with_reducible repeat (first | apply Kd.N_alloc | apply Kd.N_drewN | apply Kd.N_drew)); exact HO_6.out) hb); have n1_ := Aside0.mk (Kd.N_below (by (with_reducible repeat (first | apply Kd.N_alloc | apply Kd.N_drewN | apply Kd.N_drew)); exact HO_7.out) hb); have n2_ := Aside0.mk (Kd.V_below (by (with_reducible repeat (first | apply Kd.V_alloc | apply Kd.V_drewN | apply Kd.V_drew)); exact HO_8.out) hb); have n3_ := Aside0.mk (below_step (by repeat (first | (with_reducible first | exact HB.out | apply below_alloc | apply pw_below_drewN | apply below_drew1) | exact HB.out)) hb); clear HO_6; clear HO_7; clear HO_8; clear HB; have HO_6 := n0_; have HO_7 := n1_; have HO_8 := n2_; have HB := n3_; clear n0_ n1_ n2_ n3_; (try clear hb); (try clear hb2); (try clear hk); (try clear hi); obtain ⟨Ao71, co71, eo71⟩ := Kd.V_slice HO_8.out; subst eo71) | (go_at_call 22; (with_reducible refine (slice_Count.calls k1 _ _ t380 _ _ x8_1 x9_1 t385 _ ?side1 ?side2 ?side3 ?side4 A67.out).mono ?_); (case side1 => repeat (first | exact (Kd.N_reads' HO_6.out).2.2 | (with_reducible refine Kd.C_alloc ?_ _) | (with_reducible refine Kd.C_drewN ?_ _) | (with_reducible refine Kd.C_drew ?_))); (case side2 => exact (Kd.N_reads' HO_6.out).2.1); (case side3 => repeat (first | exact (Kd.V_reads' HO_8.out).2.2 | (with_reducible refine Kd.C_alloc ?_ _) | (with_reducible refine Kd.C_drewN ?_ _) | (with_reducible refine Kd.C_drew ?_))); (case side4 => exact (Kd.V_reads' HO_8.out).2.1); rintro e w72 ⟨rfl, hb⟩; have n0_ := Aside0.mk (Kd.N_below (by (with_reducible repeat (first | apply Kd.N_alloc | apply Kd.N_drewN | apply Kd.N_drew)); exact HO_6.out) hb); have n1_ := Aside0.mk (Kd.N_below (by (with_reducible repeat (first | apply Kd.N_alloc | apply Kd.N_drewN | apply Kd.N_drew)); exact HO_7.out) hb); have n2_ := Aside0.mk (Kd.V_below (by (with_reducible repeat (first | apply Kd.V_alloc | apply Kd.V_drewN | apply Kd.V_drew)); exact HO_8.out) hb); have n3_ := Aside0.mk (below_step (by repeat (first | (with_reducible first | exact HB.out | apply below_alloc | apply pw_below_drewN | apply below_drew1) | exact HB.out)) hb); clear HO_6; clear HO_7; clear HO_8; clear HB; have HO_6 := n0_; have HO_7 := n1_; have HO_8 := n2_; have HB := n3_; clear n0_ n1_ n2_ n3_; (try clear hb); (try clear hb2); (try clear hk); (try clear hi)))
              go_ret
              exact ⟨by first | rfl | (simp [errW_none, errW_some] <;> rfl) | (simp [*, errW_none, errW_some] <;> rfl), by repeat (first | (with_reducible first | exact HB.out | apply below_alloc | apply pw_below_drewN | apply below_drew1) | exact HB.out)⟩
            · replace c66 := Bool.eq_false_iff.mpr c66
              subst c66
              have H1 : (some false) = some r := by rw [if_neg (show ¬ (false = true) by decide)] at H; exact H
              clear H
              have H := H1
              clear H1
              obtain rfl := Option.some.inj H
              obtain ⟨Ao73, co73, eo73⟩ := Kd.N_slice HO_6.out
              subst eo73
              obtain ⟨Ao74, co74, eo74⟩ := Kd.N_slice HO_7.out
              subst eo74
              go_wp2_with (first | (go_at_call 21; (with_reducible refine (belvedereref_SameEntries.calls k1 _ _ x7_1 _ _ t380 false _ ?side1 ?side2 ?side3 ?side4 A65.out).mono ?_); (case side1 => repeat (first | exact (Kd.N_reads' HO_7.out).2.2 | (with_reducible refine Kd.C_alloc ?_ _) | (with_reducible refine Kd.C_drewN ?_ _) | (with_reducible refine Kd.C_drew ?_))); (case side2 => exact (Kd.N_reads' HO_7.out).2.1); (case side3 => repeat (first | exact (Kd.N_reads' HO_6.out).2.2 | (with_reducible refine Kd.C_alloc ?_ _) | (with_reducible refine Kd.C_drewN ?_ _) | (with_reducible refine Kd.C_drew ?_))); (case side4 => exact (Kd.N_reads' HO_6.out).2.1); rintro e w75 ⟨rfl, hb⟩; have n0_ := Aside0.mk (Kd.N_below (by (with_reducible repeat (first | apply Kd.N_alloc | apply Kd.N_drewN | apply Kd.N_drew)); exact HO_6.out) hb); have n1_ := Aside0.mk (Kd.N_below (by (with_reducible repeat (first | apply Kd.N_alloc | apply Kd.N_drewN | apply Kd.N_drew)); exact HO_7.out) hb); have n2_ := Aside0.mk (Kd.V_below (by (with_reducible repeat (first | apply Kd.V_alloc | apply Kd.V_drewN | apply Kd.V_drew)); exact HO_8.out) hb); have n3_ := Aside0.mk (below_step (by repeat (first | (with_reducible first | exact HB.out | apply below_alloc | apply pw_below_drewN | apply below_drew1) | exact HB.out)) hb); clear HO_6; clear HO_7; clear HO_8; clear HB; have HO_6 := n0_; have HO_7 := n1_; have HO_8 := n2_; have HB := n3_; clear n0_ n1_ n2_ n3_; (try clear hb); (try clear hb2); (try clear hk); (try clear hi)))
              go_ret
              exact ⟨by first | rfl | (simp [errW_none, errW_some] <;> rfl) | (simp [*, errW_none, errW_some] <;> rfl), by repeat (first | (with_reducible first | exact HB.out | apply below_alloc | apply pw_below_drewN | apply below_drew1) | exact HB.out)⟩
  · replace c4 := Bool.eq_false_iff.mpr c4
    subst c4
    have H1 : (some false) = some r := by rw [if_neg (show ¬ (false = true) by decide)] at H; exact H
    clear H
    have H := H1
    clear H1
    obtain rfl := Option.some.inj H
    go_enter Try.func5, Try.ntmps5
    go_wp2_with (first | ((with_reducible refine gate_callee (f := 17) rfl ?_); refine goesL_ (some 12) rfl rfl Try.func17 (by kernel_rfl) rfl #[] rfl (by (try simp only [List.map_toArray, List.map_cons, List.map_nil]); first | done | rfl | (simp only [List.length_drop, List.length_take]; rfl)) ?_; (with_reducible refine (belvederelaw4_first.calls  false _ A3.out).mono ?_); rintro e w76 ⟨rfl, hb⟩; refine ⟨_, rfl, ?_⟩; have n0_ := Aside0.mk (below_step (by repeat (first | (with_reducible first | exact HB.out | apply below_alloc | apply pw_below_drewN | apply below_drew1) | exact HB.out)) hb); clear HB; have HB := n0_; clear n0_; (try clear hb); (try clear hb2); (try clear hk); (try clear hi)))
    go_ret
    exact ⟨by first | rfl | (simp [errW_none, errW_some] <;> rfl) | (simp [*, errW_none, errW_some] <;> rfl), by repeat (first | (with_reducible first | exact HB.out | apply below_alloc | apply pw_below_drewN | apply below_drew1) | exact HB.out)⟩
/-- THE ONE PURE STATEMENT of belvederelaw4_SliceChunks: yours. -/
def belvederelaw4_SliceChunks.Pure : Prop := ∀ (l0 : List Int) (a1 : Int), l0.length ≤ maxLen → l0.length * 8 ≤ 140737488351232 → (∀ x ∈ l0, (Lit.int .i64 x).wf = true) → (Lit.int .i64 a1).wf = true → ∃ k, belvederelaw4_SliceChunks.f k l0 a1 = some true
theorem belvederelaw4_SliceChunks.walk (P : belvederelaw4_SliceChunks.Pure) (a0 : Option Addr) (len0 cap0 : Nat) (z0 : List Int) (a1 : Int) (w : World) (w0 : (a0 = none ∧ len0 = 0 ∧ cap0 = 0 ∧ z0 = []) ∨ ∃ x, a0 = some x ∧ len0 ≤ cap0 ∧ cap0 ≤ maxLen ∧ z0.length = cap0 ∧ (∀ i, i < z0.length → w.cell? (x.add i) = some (.int .i64 (z0.getD i 0))) ∧ ∀ n ∈ z0, (Lit.int .i64 n).wf = true) (y0 : len0 * 8 ≤ 140737488351232) (w1 : (Lit.int .i64 a1).wf = true) :
    Calls Try.prog 5 #[.slice a0 len0 cap0, .int .i64 a1] w fun e w' => e = .returned (.bool true) ∧ Below w.heap.size w w' := by
  obtain ⟨l0, rfl, hr0, hm0, hw0, hc0⟩ := ReadsInt.ofRowC w0
  obtain ⟨k, h⟩ := P l0 a1 hm0 y0 hw0 w1
  refine (belvederelaw4_SliceChunks.calls k _ _ l0 a1 true w (Kd.C_of_reads (d := (0 : Int)) (h1 := fun _ => rfl) hr0) hc0 h).mono ?_
  rintro e w' ⟨rfl, hd⟩
  exact ⟨rfl, hd⟩
mutual
def belvedereref1_After.l0 : Nat → List (S36) → List (S41) → Bool → Int → List (S36) → Int → Option ((List (S36)))
  | 0, _, _, _, _, _, _ => none
  | k + 1, x0, x1, x2, x3, x9, x10 => if x10 < (x0.length : Int) then (belvedereref1_After.j1 k x0 x1 x2 x3 x9 x10 (decide ((x9.length : Int) < x3))) else (belvedereref1_After.j1 k x0 x1 x2 x3 x9 x10 false)
def belvedereref1_After.j1 : Nat → List (S36) → List (S41) → Bool → Int → List (S36) → Int → Bool → Option ((List (S36)))
  | 0, _, _, _, _, _, _, _ => none
  | k + 1, x0, x1, x2, x3, x9, x10, x20 => if x20 = true then (if x2 = true then (if 0 ≤ x10 then (if x10 < (x0.length : Int) then ((belvedereref1_CompareRows.f k ((rd_T36 x0 x10).f0) x1).bind fun t403 => (if t403 > 0 then (if x9.length < 4398046511104 then (belvedereref1_After.l0 k x0 x1 x2 x3 (x9 ++ [(⟨(rd_T36 x0 x10).f0, (rd_T36 x0 x10).f1⟩ : S36)]) (wrap64 (x10 + 1))) else (none)) else (belvedereref1_After.l0 k x0 x1 x2 x3 x9 (wrap64 (x10 + 1))))) else (none)) else (none)) else (if 0 ≤ x10 then (if x10 < (x0.length : Int) then (if x9.length < 4398046511104 then (belvedereref1_After.l0 k x0 x1 x2 x3 (x9 ++ [(⟨(rd_T36 x0 x10).f0, (rd_T36 x0 x10).f1⟩ : S36)]) (wrap64 (x10 + 1))) else (none)) else (none)) else (none))) else (some x9)
end
def belvedereref1_After.f (k : Nat) (l0 : List (S36)) (l1 : List (S41)) (a2 : Bool) (a3 : Int) : Option ((List (S36))) := belvedereref1_After.l0 k l0 l1 a2 a3 ([] : List (S36)) 0
set_option maxHeartbeats 8000000 in
set_option maxRecDepth 100000 in
theorem belvedereref1_After.calls (k : Nat) (P0_ : Nat → Prop) (A0 : Option Addr) (c0 : Nat) (l0 : List (S36)) (A1 : Option Addr) (c1 : Nat) (l1 : List (S41)) (a2 : Bool) (a3 : Int) (r : List (S36)) (w : World) (hs0 : Kd.V k36 36 w w.heap.size (fun k_ => P0_ k_) (.slice A0 l0.length c0) l0) (hr1 : Kd.C k41 w A1 l1.length l1) (hc1 : l1.length ≤ c1) (h : belvedereref1_After.f k l0 l1 a2 a3 = some r) :
    Calls Try.prog 25 #[.slice A0 l0.length c0, .slice A1 l1.length c1, .bool a2, .int .i64 a3] w fun e w' => ∃ v0_ : Value, e = .returned (v0_) ∧ Kd.N k36 36 w' w.heap.size (fun k_ => (P0_ k_ ∨ w.heap.size ≤ k_)) v0_ r ∧ Below w.heap.size w w' := by
  have hu36 := Try.underlying36
  have HO0 := Aside0.mk (show Kd.V k36 36 w w.heap.size (fun k_ => (P0_ k_ ∨ w.heap.size ≤ k_)) (.slice A0 l0.length c0) l0 from Kd.V_mono hs0 (fun k_ hk => .inl hk))
  have HR1 := Aside0.mk hr1
  have HC1 := Aside0.mk hc1
  clear hr1 hc1
  have HB := Aside0.mk (Below.refl w.heap.size w)
  have H : (belvedereref1_After.l0 k l0 l1 a2 a3 ([] : List (S36)) 0) = some r := h
  clear h
  have H' := Aside0.mk H
  clear H
  go_enter Try.func25, Try.ntmps25
  go_wp2
  go_loopg [9, 10] k (fun kq v9 v10 w' => ∃ (x9_1 : List (S36)) (x10_1 : Int), v10 = .int .i64 x10_1 ∧ Aside0 (belvedereref1_After.l0 kq l0 l1 a2 a3 x9_1 x10_1 = some r) ∧ Aside0 (kq ≤ k) ∧ Aside0 (Kd.V k36 36 w' w.heap.size (fun k_ => (P0_ k_ ∨ w.heap.size ≤ k_) ∧ some k_ ≠ (v9 : Value).ownBlock) (.slice A0 l0.length c0) l0) ∧ Aside0 (Kd.N k36 36 w' w.heap.size (fun k_ => (P0_ k_ ∨ w.heap.size ≤ k_)) v9 x9_1) ∧ Aside0 (Below w.heap.size w w'))
  case atStart => exact ⟨(([] : List (S36))), (0), (by first | rfl | (simp; done) | (simp [*]; done)), H', ⟨Nat.le_refl _⟩, ⟨by (with_reducible repeat (first | apply Kd.V_alloc | apply Kd.V_drewN | apply Kd.V_drew)); exact Kd.V_mono HO0.out (fun _ hk => ⟨hk, (by simp [Value.ownBlock])⟩)⟩, ⟨by first | exact Kd.S_nil _ _ _ _ _ | exact Kd.N_nil _ _ _ _ _ | exact Kd.V_nil _ _ _ _ _ | exact Kd.Q_nil _ _ _ _ _ | exact Kd.R_nil _ _ _ _ _⟩, ⟨by repeat (first | (with_reducible first | exact HB.out | apply below_alloc | apply pw_below_drewN | apply below_drew1) | exact HB.out)⟩⟩
  case round =>
    clear H'
    try clear c1
    try clear c2
    try clear p2
    obtain ⟨x9_1, x10_1, rfl, HA, HK1, HO_0, HO_9, HB⟩ := hrel
    cases gk with
    | zero => exact absurd HA.out (by simp [belvedereref1_After.l0])
    | succ k1 =>
      have H := HA.out
      clear HA
      simp only [belvedereref1_After.l0] at H
      have HC5 := Aside0.mk H
      clear H
      go_upto_region 3 with (fail)
      go_cut [20] (fun v20 wc => ∃ (kq : Nat) (x20_4 : Bool), v20 = .bool x20_4 ∧ Aside0 (belvedereref1_After.j1 kq l0 l1 a2 a3 x9_1 x10_1 x20_4 = some r) ∧ Aside0 (kq ≤ k1) ∧ Aside0 (Kd.V k36 36 wc w.heap.size (fun k_ => (P0_ k_ ∨ w.heap.size ≤ k_) ∧ some k_ ≠ (u9 : Value).ownBlock) (.slice A0 l0.length c0) l0) ∧ Aside0 (Kd.N k36 36 wc w.heap.size (fun k_ => (P0_ k_ ∨ w.heap.size ≤ k_)) u9 x9_1) ∧ Aside0 (Below w.heap.size w wc))
      case first =>
        have H := HC5.out
        clear HC5
        by_cases c6 : x10_1 < (l0.length : Int)
        · rw [if_pos c6] at H
          have c6b0 : decide (x10_1 < (l0.length : Int)) = true := decide_eq_true c6
          clear c6
          (first | rw [c6b0] | (simp only [i64_w, i32_w]; rw [c6b0]) | skip)
          have H' := Aside0.mk H
          clear H
          obtain ⟨Ao7, co7, eo7⟩ := Kd.N_slice HO_9.out
          subst eo7
          go_wp2
          go_meet
          case rel => exact ⟨_, (decide ((x9_1.length : Int) < a3)), (by first | rfl | (simp; done) | (simp [*]; done)), H', ⟨by have := HK1.out; first | omega | exact Nat.le_refl _⟩, ⟨by (with_reducible repeat (first | apply Kd.V_alloc | apply Kd.V_drewN | apply Kd.V_drew)); exact HO_0.out⟩, ⟨by (with_reducible repeat (first | apply Kd.N_alloc | apply Kd.N_drewN | apply Kd.N_drew)); exact HO_9.out⟩, ⟨by repeat (first | (with_reducible first | exact HB.out | apply below_alloc | apply pw_below_drewN | apply below_drew1) | exact HB.out)⟩⟩
        · rw [if_neg c6] at H
          have c6b0 : decide (x10_1 < (l0.length : Int)) = false := decide_eq_false c6
          clear c6
          (first | rw [c6b0] | (simp only [i64_w, i32_w]; rw [c6b0]) | skip)
          have H' := Aside0.mk H
          clear H
          go_wp2
          go_meet
          case rel => exact ⟨_, (false), (by first | rfl | (simp; done) | (simp [*]; done)), H', ⟨by have := HK1.out; first | omega | exact Nat.le_refl _⟩, ⟨by (with_reducible repeat (first | apply Kd.V_alloc | apply Kd.V_drewN | apply Kd.V_drew)); exact HO_0.out⟩, ⟨by (with_reducible repeat (first | apply Kd.N_alloc | apply Kd.N_drewN | apply Kd.N_drew)); exact HO_9.out⟩, ⟨by repeat (first | (with_reducible first | exact HB.out | apply below_alloc | apply pw_below_drewN | apply below_drew1) | exact HB.out)⟩⟩
      case rest =>
        clear HC5
        try clear c1
        try clear c2
        try clear p2
        try clear c6
        try clear c6b0
        try clear p2
        obtain ⟨kq, x20_4, rfl, HA, HJ4, HO_0, HO_9, HB⟩ := hcut
        cases kq with
        | zero => exact absurd HA.out (by simp [belvedereref1_After.j1])
        | succ kj4 =>
          have H := HA.out
          clear HA
          simp only [belvedereref1_After.j1] at H
          by_cases c8 : x20_4 = true
          · subst c8
            have H1 : (if a2 = true then (if 0 ≤ x10_1 then (if x10_1 < (l0.length : Int) then ((belvedereref1_CompareRows.f kj4 ((rd_T36 l0 x10_1).f0) l1).bind fun t403 => (if t403 > 0 then (if x9_1.length < 4398046511104 then (belvedereref1_After.l0 kj4 l0 l1 a2 a3 (x9_1 ++ [(⟨(rd_T36 l0 x10_1).f0, (rd_T36 l0 x10_1).f1⟩ : S36)]) (wrap64 (x10_1 + 1))) else (none)) else (belvedereref1_After.l0 kj4 l0 l1 a2 a3 x9_1 (wrap64 (x10_1 + 1))))) else (none)) else (none)) else (if 0 ≤ x10_1 then (if x10_1 < (l0.length : Int) then (if x9_1.length < 4398046511104 then (belvedereref1_After.l0 kj4 l0 l1 a2 a3 (x9_1 ++ [(⟨(rd_T36 l0 x10_1).f0, (rd_T36 l0 x10_1).f1⟩ : S36)]) (wrap64 (x10_1 + 1))) else (none)) else (none)) else (none))) = some r := by rw [if_pos rfl] at H; exact H
            clear H
            have H := H1
            clear H1
            by_cases c9 : a2 = true
            · subst c9
              have H1 : (if 0 ≤ x10_1 then (if x10_1 < (l0.length : Int) then ((belvedereref1_CompareRows.f kj4 ((rd_T36 l0 x10_1).f0) l1).bind fun t403 => (if t403 > 0 then (if x9_1.length < 4398046511104 then (belvedereref1_After.l0 kj4 l0 l1 true a3 (x9_1 ++ [(⟨(rd_T36 l0 x10_1).f0, (rd_T36 l0 x10_1).f1⟩ : S36)]) (wrap64 (x10_1 + 1))) else (none)) else (belvedereref1_After.l0 kj4 l0 l1 true a3 x9_1 (wrap64 (x10_1 + 1))))) else (none)) else (none)) = some r := by rw [if_pos rfl] at H; exact H
              clear H
              have H := H1
              clear H1
              by_cases c10 : 0 ≤ x10_1
              · rw [if_pos c10] at H
                have c10b0 : decide (0 ≤ x10_1) = true := decide_eq_true c10
                clear c10
                by_cases c11 : x10_1 < (l0.length : Int)
                · rw [if_pos c11] at H
                  have c11b0 : decide (x10_1 < (l0.length : Int)) = true := decide_eq_true c11
                  clear c11
                  replace H := Option.bind_eq_some_iff.mp H
                  obtain ⟨t403, A120, H⟩ := H
                  replace H : (if t403 > 0 then (if x9_1.length < 4398046511104 then (belvedereref1_After.l0 kj4 l0 l1 true a3 (x9_1 ++ [(⟨(rd_T36 l0 x10_1).f0, (rd_T36 l0 x10_1).f1⟩ : S36)]) (wrap64 (x10_1 + 1))) else (none)) else (belvedereref1_After.l0 kj4 l0 l1 true a3 x9_1 (wrap64 (x10_1 + 1)))) = some r := H
                  have A12 := Aside0.mk A120
                  clear A120
                  by_cases c13 : t403 > 0
                  · rw [if_pos c13] at H
                    have c13b0 : decide (0 < t403) = true := decide_eq_true c13
                    clear c13
                    by_cases c14 : x9_1.length < 4398046511104
                    · rw [if_pos c14] at H
                      have LMc14 := Aside0.mk c14
                      clear c14
                      obtain ⟨y405, hy405⟩ : ∃ y_ : List (S36), y_ = (x9_1 ++ [(⟨(rd_T36 l0 x10_1).f0, (rd_T36 l0 x10_1).f1⟩ : S36)]) := ⟨_, rfl⟩
                      replace H : (belvedereref1_After.l0 kj4 l0 l1 true a3 y405 (wrap64 (x10_1 + 1))) = some r := by first | (rw [hy405]; with_reducible exact H) | (have H2_ := (Option.bind_some _ _).symm.trans H; rw [hy405]; with_reducible exact H2_) | (have H2_ := (Option.bind_some _ _).symm.trans H; with_reducible exact H2_) | with_reducible exact H | (rw [hy405]; exact H) | exact H
                      have Ny405 := Aside0.mk hy405
                      clear hy405
                      have H' := Aside0.mk H
                      clear H
                      have p402 : 0 ≤ (x10_1 : Int) := of_decide_eq_true (by first | (with_reducible assumption) | assumption)
                      have q402 : x10_1 < (l0.length : Int) := of_decide_eq_true (by first | (with_reducible assumption) | assumption)
                      obtain ⟨ad402, A402_0, c402_0, e402, hx402_0, hx402_1, hl402_0, hi402_0⟩ := at_T36 (Kd.V_reads' HO_0.out).2.2 x10_1 p402 q402
                      cases e402
                      obtain ⟨ce402, hce402, hMe402, hcc402⟩ := Kd.V_get HO_0.out z36 x10_1 p402 (by first | exact q402 | exact of_decide_eq_true (by first | (with_reducible assumption) | assumption) | (have e_ := (Kd.V_reads' HO_0.out).1; omega))
                      obtain ⟨ua402_0, uc402_0, rfl, ul402_0, ge402_0⟩ := k36_openF hMe402
                      have hv402_0 := hcc402 0 _ rfl
                      rw [Nat.add_zero] at hv402_0
                      replace hv402_0 := Option.some.inj (hv402_0.symm.trans hx402_0)
                      injection hv402_0 with hva_ hvn_ hvc_
                      rw [hva_] at ge402_0
                      rw [hvc_] at ul402_0
                      have HL402_0 := Aside0.mk (show Kd.V k41 41 _ w.heap.size _ _ ((rd_T36 l0 x10_1).f0) from Kd.V_mk ul402_0 ge402_0)
                      clear hva_ hvn_ hvc_ ge402_0 ul402_0
                      clear hcc402 hce402
                      have HR402_0 := Aside0.mk hi402_0
                      have HC402_0 := Aside0.mk hl402_0
                      clear hi402_0 hl402_0
                      replace p402 := eq_true p402
                      replace q402 := eq_true q402
                      go_wp2_with (first | (go_at_call 30; (with_reducible refine (belvedereref1_CompareRows.calls kj4 _ _ ((rd_T36 l0 x10_1).f0) _ _ l1 t403 _ ?side1 ?side2 ?side3 ?side4 A12.out).mono ?_); (case side1 => repeat (first | exact (by repeat (first | (with_reducible exact HR402_0.out) | (with_reducible refine Kd.C_alloc ?_ _) | (with_reducible refine Kd.C_drewN ?_ _) | (with_reducible refine Kd.C_drew ?_) | exact HR402_0.out)) | (with_reducible refine Kd.C_alloc ?_ _) | (with_reducible refine Kd.C_drewN ?_ _) | (with_reducible refine Kd.C_drew ?_))); (case side2 => exact HC402_0.out); (case side3 => repeat (first | exact (Kd.C_below HR1.out HB.out) | (with_reducible refine Kd.C_alloc ?_ _) | (with_reducible refine Kd.C_drewN ?_ _) | (with_reducible refine Kd.C_drew ?_))); (case side4 => exact HC1.out); rintro e w15 ⟨rfl, hb⟩; have n0_ := Aside0.mk (Kd.V_below (by (with_reducible repeat (first | apply Kd.V_alloc | apply Kd.V_drewN | apply Kd.V_drew)); exact HO_0.out) hb); have n1_ := Aside0.mk (Kd.N_below (by (with_reducible repeat (first | apply Kd.N_alloc | apply Kd.N_drewN | apply Kd.N_drew)); exact HO_9.out) hb); have n2_ := Aside0.mk (Kd.V_below (by (with_reducible repeat (first | apply Kd.V_alloc | apply Kd.V_drewN | apply Kd.V_drew)); exact HL402_0.out) hb); have n3_ := Aside0.mk (Kd.C_below (by repeat (first | (with_reducible exact HR402_0.out) | (with_reducible refine Kd.C_alloc ?_ _) | (with_reducible refine Kd.C_drewN ?_ _) | (with_reducible refine Kd.C_drew ?_) | exact HR402_0.out)) hb); have n4_ := Aside0.mk (below_step (by repeat (first | (with_reducible first | exact HB.out | apply below_alloc | apply pw_below_drewN | apply below_drew1) | exact HB.out)) hb); clear HO_0; clear HO_9; clear HL402_0; clear HR402_0; clear HB; have HO_0 := n0_; have HO_9 := n1_; have HL402_0 := n2_; have HR402_0 := n3_; have HB := n4_; clear n0_ n1_ n2_ n3_ n4_; (try clear hb); (try clear hb2); (try clear hk); (try clear hi); have p404 : 0 ≤ (x10_1 : Int) := of_decide_eq_true (by first | (with_reducible assumption) | assumption); have q404 : x10_1 < (l0.length : Int) := of_decide_eq_true (by first | (with_reducible assumption) | assumption); obtain ⟨ad404, A404_0, c404_0, e404, hx404_0, hx404_1, hl404_0, hi404_0⟩ := at_T36 (Kd.V_reads' HO_0.out).2.2 x10_1 p404 q404; obtain rfl : ad402 = ad404 := (by injection e404); obtain ⟨ce404, hce404, hMe404, hcc404⟩ := Kd.V_get HO_0.out z36 x10_1 p404 (by first | exact q404 | exact of_decide_eq_true (by first | (with_reducible assumption) | assumption) | (have e_ := (Kd.V_reads' HO_0.out).1; omega)); obtain ⟨ua404_0, uc404_0, rfl, ul404_0, ge404_0⟩ := k36_openF hMe404; have hv404_0 := hcc404 0 _ rfl; rw [Nat.add_zero] at hv404_0; replace hv404_0 := Option.some.inj (hv404_0.symm.trans hx404_0); injection hv404_0 with hva_ hvn_ hvc_; rw [hva_] at ge404_0; rw [hvc_] at ul404_0; have HL404_0 := Aside0.mk (show Kd.V k41 41 _ w.heap.size _ _ ((rd_T36 l0 x10_1).f0) from Kd.V_mk ul404_0 ge404_0); clear hva_ hvn_ hvc_ ge404_0 ul404_0; clear hcc404 hce404; have HR404_0 := Aside0.mk hi404_0; have HC404_0 := Aside0.mk hl404_0; clear hi404_0 hl404_0; replace p404 := eq_true p404; replace q404 := eq_true q404) | ((with_reducible refine gate_builtin (b := .append) (xs := #[.tmp 35, .tmp 40]) rfl ?_); (try (refine gate_guard (by rfl) ?_; dsimp only)); at_builtin; refine Kd.N_append k36 (w0 := w) w.heap.size rfl (.tmp 35) (.tmp 40) 27 36 (.agg #[(.slice none 0 0), (.int .i64 0)]) 32 rfl Try.underlying27 info36 rfl (by decide) (by omega) u9 x9_1 (⟨(rd_T36 l0 x10_1).f0, (rd_T36 l0 x10_1).f1⟩ : S36) [.slice A404_0 ((rd_T36 l0 x10_1).f0).length c404_0, .int .i64 ((rd_T36 l0 x10_1).f1)] (fun k_ => (P0_ k_ ∨ w.heap.size ≤ k_)) (fun k_ => ((fun k_ => (P0_ k_ ∨ w.heap.size ≤ k_))) k_ ∧ some k_ ≠ (u9 : Value).ownBlock) rfl rfl ?aP (fun _ hk => hk) ?aF ?aO ?aB ?aS ?aL ?_; (case aP => exact (k36_mkF _ _ (⟨(rd_T36 l0 x10_1).f0, (rd_T36 l0 x10_1).f1⟩ : S36) (Kd.V_reads' (Kd.V_mono (ok' := (fun k_ => ((fun k_ => (P0_ k_ ∨ w.heap.size ≤ k_))) k_ ∧ some k_ ≠ (u9 : Value).ownBlock)) (HL404_0.out) (fun k_ hk => ⟨hk.1, hk.2⟩))).2.1 (Kd.V_F (Kd.V_mono (ok' := (fun k_ => ((fun k_ => (P0_ k_ ∨ w.heap.size ≤ k_))) k_ ∧ some k_ ≠ (u9 : Value).ownBlock)) (HL404_0.out) (fun k_ hk => ⟨hk.1, hk.2⟩))))); (case aB => exact (by repeat (first | (with_reducible first | exact HB.out | apply below_alloc | apply pw_below_drewN | apply below_drew1) | exact HB.out))); (case aF => exact (fun k_ hk => (.inr (Nat.le_trans (below_size (by repeat (first | (with_reducible first | exact HB.out | apply below_alloc | apply pw_below_drewN | apply below_drew1) | exact HB.out))) hk)))); (case aO => exact (by (with_reducible repeat (first | apply Kd.N_alloc | apply Kd.N_drewN | apply Kd.N_drew)); exact HO_9.out)); (case aS => exact (below_size (by repeat (first | (with_reducible first | exact HB.out | apply below_alloc | apply pw_below_drewN | apply below_drew1) | exact HB.out)))); (case aL => have := LMc14.out; omega); intro v406 w16 ho hb hg hat; rw [← Ny405.out] at ho; have n0_ := Aside0.mk (Kd.V_afterv (ok := (fun k_ => (P0_ k_ ∨ w.heap.size ≤ k_))) (by (with_reducible repeat (first | apply Kd.V_alloc | apply Kd.V_drewN | apply Kd.V_drew)); exact HO_0.out) hg hat); have n1_ := Aside0.mk (Kd.V_afterv (ok := (fun k_ => (P0_ k_ ∨ w.heap.size ≤ k_))) (by (with_reducible repeat (first | apply Kd.V_alloc | apply Kd.V_drewN | apply Kd.V_drew)); exact HL402_0.out) hg hat); have n2_ := Aside0.mk (Kd.V_afterv (ok := (fun k_ => (P0_ k_ ∨ w.heap.size ≤ k_))) (by (with_reducible repeat (first | apply Kd.V_alloc | apply Kd.V_drewN | apply Kd.V_drew)); exact HL404_0.out) hg hat); have n3_ := Aside0.mk (hb); have n4_ := Aside0.mk (ho); clear HO_0; clear HL402_0; clear HL404_0; clear HB; clear HO_9; have HO_0 := n0_; have HL402_0 := n1_; have HL404_0 := n2_; have HB := n3_; have HO407 := n4_; clear n0_ n1_ n2_ n3_ n4_; clear ho hb hg hat))
                      go_roundg kj4
                      case measure => have := HK1.out; have := HJ4.out; omega
                      case rel => exact ⟨(y405), (wrap64 (x10_1 + 1)), (by first | rfl | (simp; done) | (simp [*]; done)), H', ⟨by have := HK1.out; have := HJ4.out; omega⟩, ⟨by (with_reducible repeat (first | apply Kd.V_alloc | apply Kd.V_drewN | apply Kd.V_drew)); exact HO_0.out⟩, ⟨by (with_reducible repeat (first | apply Kd.N_alloc | apply Kd.N_drewN | apply Kd.N_drew)); exact HO407.out⟩, ⟨by repeat (first | (with_reducible first | exact HB.out | apply below_alloc | apply pw_below_drewN | apply below_drew1) | exact HB.out)⟩⟩
                    · rw [if_neg c14] at H
                      exact absurd H (by simp)
                  · rw [if_neg c13] at H
                    have c13b0 : decide (0 < t403) = false := decide_eq_false c13
                    clear c13
                    have H' := Aside0.mk H
                    clear H
                    have p402 : 0 ≤ (x10_1 : Int) := of_decide_eq_true (by first | (with_reducible assumption) | assumption)
                    have q402 : x10_1 < (l0.length : Int) := of_decide_eq_true (by first | (with_reducible assumption) | assumption)
                    obtain ⟨ad402, A402_0, c402_0, e402, hx402_0, hx402_1, hl402_0, hi402_0⟩ := at_T36 (Kd.V_reads' HO_0.out).2.2 x10_1 p402 q402
                    cases e402
                    obtain ⟨ce402, hce402, hMe402, hcc402⟩ := Kd.V_get HO_0.out z36 x10_1 p402 (by first | exact q402 | exact of_decide_eq_true (by first | (with_reducible assumption) | assumption) | (have e_ := (Kd.V_reads' HO_0.out).1; omega))
                    obtain ⟨ua402_0, uc402_0, rfl, ul402_0, ge402_0⟩ := k36_openF hMe402
                    have hv402_0 := hcc402 0 _ rfl
                    rw [Nat.add_zero] at hv402_0
                    replace hv402_0 := Option.some.inj (hv402_0.symm.trans hx402_0)
                    injection hv402_0 with hva_ hvn_ hvc_
                    rw [hva_] at ge402_0
                    rw [hvc_] at ul402_0
                    have HL402_0 := Aside0.mk (show Kd.V k41 41 _ w.heap.size _ _ ((rd_T36 l0 x10_1).f0) from Kd.V_mk ul402_0 ge402_0)
                    clear hva_ hvn_ hvc_ ge402_0 ul402_0
                    clear hcc402 hce402
                    have HR402_0 := Aside0.mk hi402_0
                    have HC402_0 := Aside0.mk hl402_0
                    clear hi402_0 hl402_0
                    replace p402 := eq_true p402
                    replace q402 := eq_true q402
                    go_wp2_with (first | (go_at_call 30; (with_reducible refine (belvedereref1_CompareRows.calls kj4 _ _ ((rd_T36 l0 x10_1).f0) _ _ l1 t403 _ ?side1 ?side2 ?side3 ?side4 A12.out).mono ?_); (case side1 => repeat (first | exact (by repeat (first | (with_reducible exact HR402_0.out) | (with_reducible refine Kd.C_alloc ?_ _) | (with_reducible refine Kd.C_drewN ?_ _) | (with_reducible refine Kd.C_drew ?_) | exact HR402_0.out)) | (with_reducible refine Kd.C_alloc ?_ _) | (with_reducible refine Kd.C_drewN ?_ _) | (with_reducible refine Kd.C_drew ?_))); (case side2 => exact HC402_0.out); (case side3 => repeat (first | exact (Kd.C_below HR1.out HB.out) | (with_reducible refine Kd.C_alloc ?_ _) | (with_reducible refine Kd.C_drewN ?_ _) | (with_reducible refine Kd.C_drew ?_))); (case side4 => exact HC1.out); rintro e w17 ⟨rfl, hb⟩; have n0_ := Aside0.mk (Kd.V_below (by (with_reducible repeat (first | apply Kd.V_alloc | apply Kd.V_drewN | apply Kd.V_drew)); exact HO_0.out) hb); have n1_ := Aside0.mk (Kd.N_below (by (with_reducible repeat (first | apply Kd.N_alloc | apply Kd.N_drewN | apply Kd.N_drew)); exact HO_9.out) hb); have n2_ := Aside0.mk (Kd.V_below (by (with_reducible repeat (first | apply Kd.V_alloc | apply Kd.V_drewN | apply Kd.V_drew)); exact HL402_0.out) hb); have n3_ := Aside0.mk (Kd.C_below (by repeat (first | (with_reducible exact HR402_0.out) | (with_reducible refine Kd.C_alloc ?_ _) | (with_reducible refine Kd.C_drewN ?_ _) | (with_reducible refine Kd.C_drew ?_) | exact HR402_0.out)) hb); have n4_ := Aside0.mk (below_step (by repeat (first | (with_reducible first | exact HB.out | apply below_alloc | apply pw_below_drewN | apply below_drew1) | exact HB.out)) hb); clear HO_0; clear HO_9; clear HL402_0; clear HR402_0; clear HB; have HO_0 := n0_; have HO_9 := n1_; have HL402_0 := n2_; have HR402_0 := n3_; have HB := n4_; clear n0_ n1_ n2_ n3_ n4_; (try clear hb); (try clear hb2); (try clear hk); (try clear hi)))
                    go_roundg kj4
                    case measure => have := HK1.out; have := HJ4.out; omega
                    case rel => exact ⟨(x9_1), (wrap64 (x10_1 + 1)), (by first | rfl | (simp; done) | (simp [*]; done)), H', ⟨by have := HK1.out; have := HJ4.out; omega⟩, ⟨by (with_reducible repeat (first | apply Kd.V_alloc | apply Kd.V_drewN | apply Kd.V_drew)); exact HO_0.out⟩, ⟨by (with_reducible repeat (first | apply Kd.N_alloc | apply Kd.N_drewN | apply Kd.N_drew)); exact HO_9.out⟩, ⟨by repeat (first | (with_reducible first | exact HB.out | apply below_alloc | apply pw_below_drewN | apply below_drew1) | exact HB.out)⟩⟩
                · rw [if_neg c11] at H
                  exact absurd H (by simp)
              · rw [if_neg c10] at H
                exact absurd H (by simp)
            · replace c9 := Bool.eq_false_iff.mpr c9
              subst c9
              have H1 : (if 0 ≤ x10_1 then (if x10_1 < (l0.length : Int) then (if x9_1.length < 4398046511104 then (belvedereref1_After.l0 kj4 l0 l1 false a3 (x9_1 ++ [(⟨(rd_T36 l0 x10_1).f0, (rd_T36 l0 x10_1).f1⟩ : S36)]) (wrap64 (x10_1 + 1))) else (none)) else (none)) else (none)) = some r := by rw [if_neg (show ¬ (false = true) by decide)] at H; exact H
              clear H
              have H := H1
              clear H1
              by_cases c18 : 0 ≤ x10_1
              · rw [if_pos c18] at H
                have c18b0 : decide (0 ≤ x10_1) = true := decide_eq_true c18
                clear c18
                by_cases c19 : x10_1 < (l0.length : Int)
                · rw [if_pos c19] at H
                  have c19b0 : decide (x10_1 < (l0.length : Int)) = true := decide_eq_true c19
                  clear c19
                  by_cases c20 : x9_1.length < 4398046511104
                  · rw [if_pos c20] at H
                    have LMc20 := Aside0.mk c20
                    clear c20
                    obtain ⟨y409, hy409⟩ : ∃ y_ : List (S36), y_ = (x9_1 ++ [(⟨(rd_T36 l0 x10_1).f0, (rd_T36 l0 x10_1).f1⟩ : S36)]) := ⟨_, rfl⟩
                    replace H : (belvedereref1_After.l0 kj4 l0 l1 false a3 y409 (wrap64 (x10_1 + 1))) = some r := by first | (rw [hy409]; with_reducible exact H) | (have H2_ := (Option.bind_some _ _).symm.trans H; rw [hy409]; with_reducible exact H2_) | (have H2_ := (Option.bind_some _ _).symm.trans H; with_reducible exact H2_) | with_reducible exact H | (rw [hy409]; exact H) | exact H
                    have Ny409 := Aside0.mk hy409
                    clear hy409
                    have H' := Aside0.mk H
                    clear H
                    have p408 : 0 ≤ (x10_1 : Int) := of_decide_eq_true (by first | (with_reducible assumption) | assumption)
                    have q408 : x10_1 < (l0.length : Int) := of_decide_eq_true (by first | (with_reducible assumption) | assumption)
                    obtain ⟨ad408, A408_0, c408_0, e408, hx408_0, hx408_1, hl408_0, hi408_0⟩ := at_T36 (Kd.V_reads' HO_0.out).2.2 x10_1 p408 q408
                    cases e408
                    obtain ⟨ce408, hce408, hMe408, hcc408⟩ := Kd.V_get HO_0.out z36 x10_1 p408 (by first | exact q408 | exact of_decide_eq_true (by first | (with_reducible assumption) | assumption) | (have e_ := (Kd.V_reads' HO_0.out).1; omega))
                    obtain ⟨ua408_0, uc408_0, rfl, ul408_0, ge408_0⟩ := k36_openF hMe408
                    have hv408_0 := hcc408 0 _ rfl
                    rw [Nat.add_zero] at hv408_0
                    replace hv408_0 := Option.some.inj (hv408_0.symm.trans hx408_0)
                    injection hv408_0 with hva_ hvn_ hvc_
                    rw [hva_] at ge408_0
                    rw [hvc_] at ul408_0
                    have HL408_0 := Aside0.mk (show Kd.V k41 41 _ w.heap.size _ _ ((rd_T36 l0 x10_1).f0) from Kd.V_mk ul408_0 ge408_0)
                    clear hva_ hvn_ hvc_ ge408_0 ul408_0
                    clear hcc408 hce408
                    have HR408_0 := Aside0.mk hi408_0
                    have HC408_0 := Aside0.mk hl408_0
                    clear hi408_0 hl408_0
                    replace p408 := eq_true p408
                    replace q408 := eq_true q408
                    go_wp2_with (first | ((with_reducible refine gate_builtin (b := .append) (xs := #[.tmp 35, .tmp 40]) rfl ?_); (try (refine gate_guard (by rfl) ?_; dsimp only)); at_builtin; refine Kd.N_append k36 (w0 := w) w.heap.size rfl (.tmp 35) (.tmp 40) 27 36 (.agg #[(.slice none 0 0), (.int .i64 0)]) 32 rfl Try.underlying27 info36 rfl (by decide) (by omega) u9 x9_1 (⟨(rd_T36 l0 x10_1).f0, (rd_T36 l0 x10_1).f1⟩ : S36) [.slice A408_0 ((rd_T36 l0 x10_1).f0).length c408_0, .int .i64 ((rd_T36 l0 x10_1).f1)] (fun k_ => (P0_ k_ ∨ w.heap.size ≤ k_)) (fun k_ => ((fun k_ => (P0_ k_ ∨ w.heap.size ≤ k_))) k_ ∧ some k_ ≠ (u9 : Value).ownBlock) rfl rfl ?aP (fun _ hk => hk) ?aF ?aO ?aB ?aS ?aL ?_; (case aP => exact (k36_mkF _ _ (⟨(rd_T36 l0 x10_1).f0, (rd_T36 l0 x10_1).f1⟩ : S36) (Kd.V_reads' (Kd.V_mono (ok' := (fun k_ => ((fun k_ => (P0_ k_ ∨ w.heap.size ≤ k_))) k_ ∧ some k_ ≠ (u9 : Value).ownBlock)) (HL408_0.out) (fun k_ hk => ⟨hk.1, hk.2⟩))).2.1 (Kd.V_F (Kd.V_mono (ok' := (fun k_ => ((fun k_ => (P0_ k_ ∨ w.heap.size ≤ k_))) k_ ∧ some k_ ≠ (u9 : Value).ownBlock)) (HL408_0.out) (fun k_ hk => ⟨hk.1, hk.2⟩))))); (case aB => exact (by repeat (first | (with_reducible first | exact HB.out | apply below_alloc | apply pw_below_drewN | apply below_drew1) | exact HB.out))); (case aF => exact (fun k_ hk => (.inr (Nat.le_trans (below_size (by repeat (first | (with_reducible first | exact HB.out | apply below_alloc | apply pw_below_drewN | apply below_drew1) | exact HB.out))) hk)))); (case aO => exact (by (with_reducible repeat (first | apply Kd.N_alloc | apply Kd.N_drewN | apply Kd.N_drew)); exact HO_9.out)); (case aS => exact (below_size (by repeat (first | (with_reducible first | exact HB.out | apply below_alloc | apply pw_below_drewN | apply below_drew1) | exact HB.out)))); (case aL => have := LMc20.out; omega); intro v410 w21 ho hb hg hat; rw [← Ny409.out] at ho; have n0_ := Aside0.mk (Kd.V_afterv (ok := (fun k_ => (P0_ k_ ∨ w.heap.size ≤ k_))) (by (with_reducible repeat (first | apply Kd.V_alloc | apply Kd.V_drewN | apply Kd.V_drew)); exact HO_0.out) hg hat); have n1_ := Aside0.mk (Kd.V_afterv (ok := (fun k_ => (P0_ k_ ∨ w.heap.size ≤ k_))) (by (with_reducible repeat (first | apply Kd.V_alloc | apply Kd.V_drewN | apply Kd.V_drew)); exact HL408_0.out) hg hat); have n2_ := Aside0.mk (hb); have n3_ := Aside0.mk (ho); clear HO_0; clear HL408_0; clear HB; clear HO_9; have HO_0 := n0_; have HL408_0 := n1_; have HB := n2_; have HO411 := n3_; clear n0_ n1_ n2_ n3_; clear ho hb hg hat))
                    go_roundg kj4
                    case measure => have := HK1.out; have := HJ4.out; omega
                    case rel => exact ⟨(y409), (wrap64 (x10_1 + 1)), (by first | rfl | (simp; done) | (simp [*]; done)), H', ⟨by have := HK1.out; have := HJ4.out; omega⟩, ⟨by (with_reducible repeat (first | apply Kd.V_alloc | apply Kd.V_drewN | apply Kd.V_drew)); exact HO_0.out⟩, ⟨by (with_reducible repeat (first | apply Kd.N_alloc | apply Kd.N_drewN | apply Kd.N_drew)); exact HO411.out⟩, ⟨by repeat (first | (with_reducible first | exact HB.out | apply below_alloc | apply pw_below_drewN | apply below_drew1) | exact HB.out)⟩⟩
                  · rw [if_neg c20] at H
                    exact absurd H (by simp)
                · rw [if_neg c19] at H
                  exact absurd H (by simp)
              · rw [if_neg c18] at H
                exact absurd H (by simp)
          · replace c8 := Bool.eq_false_iff.mpr c8
            subst c8
            have H1 : (some x9_1) = some r := by rw [if_neg (show ¬ (false = true) by decide)] at H; exact H
            clear H
            have H := H1
            clear H1
            obtain rfl := Option.some.inj H
            go_wp2
            go_ret
            exact ⟨_, by first | rfl | (simp [errW_none, errW_some] <;> rfl) | (simp [*, errW_none, errW_some] <;> rfl), by (with_reducible repeat (first | apply Kd.N_alloc | apply Kd.N_drewN | apply Kd.N_drew)); exact HO_9.out, by repeat (first | (with_reducible first | exact HB.out | apply below_alloc | apply pw_below_drewN | apply below_drew1) | exact HB.out)⟩
end Go.Proofs.Ythegdcodjhbonaa.PA
