/- What the Go functions behind the law come to: for each a Lean function with the same answers and a proof that the call returns them; laid by a program of this session. -/
import Derived.Test.YthegdcodjhbonaaZSliceChunksx13
import Derived.Test.YthegdcodjhbonaaZSliceChunksx14
import Derived.Test.YthegdcodjhbonaaZSliceChunksx18
import Derived.Test.YthegdcodjhbonaaZSliceChunksx20
import Derived.Test.YthegdcodjhbonaaZSliceChunksx21
namespace Go.Proofs.Ythegdcodjhbonaa.PA
open Go.RowKit Go.Proofs.YthegdcodjhbonaaW.PrintWords Go.Proofs.YthegdcodjhbonaaW.PrintLast Go.Proofs.YthegdcodjhbonaaW.PrintMore
set_option linter.unusedVariables false
set_option linter.unusedSimpArgs false
mutual
def belvederelaw4_SliceOwn.l0 : Nat → Bool → List (S36) → List (S36) → List (S36) → Int → Option (Bool)
  | 0, _, _, _, _, _ => none
  | k + 1, x3, x4, x5, x6, x7 => if x7 < (x6.length : Int) then (if 0 ≤ x7 then (belvederelaw4_SliceOwn.l0 k x3 x4 x5 (x6.set (x7 : Int).toNat (⟨(rd_T36 x6 x7).f0, 7777⟩ : S36)) (wrap64 (x7 + 1))) else (none)) else (if x6.length < 4398046511104 then ((slice_Upto.f k x4 (([(⟨3, 1, (⟨#[]⟩ : ByteArray)⟩ : S41)] : List (S41))) true).bind fun t367 => (belvederelaw4_SliceOwn.l1 k x3 x4 x5 (x6 ++ [(⟨([] : List (S41)), 5⟩ : S36)]) t367 0)) else (none))
def belvederelaw4_SliceOwn.l1 : Nat → Bool → List (S36) → List (S36) → List (S36) → List (S36) → Int → Option (Bool)
  | 0, _, _, _, _, _, _ => none
  | k + 1, x3, x4, x5, x6, x8, x9 => if x9 < (x8.length : Int) then (if 0 ≤ x9 then (belvederelaw4_SliceOwn.l1 k x3 x4 x5 x6 (x8.set (x9 : Int).toNat (⟨([] : List (S41)), (rd_T36 x8 x9).f1⟩ : S36)) (wrap64 (x9 + 1))) else (none)) else (if x3 = true then ((belvedereref_SameEntries.f k x4 x5).bind fun t371 => (if t371 = true then (some ((x6.length : Int) == (wrap64 ((x4.length : Int) + 1)))) else (some false))) else (some false))
end
def belvederelaw4_SliceOwn.f (k : Nat) (l0 : List Int) : Option (Bool) := (belvederelaw4_first.f).bind fun t343 => (if t343 = true then (if (l0.length : Int) > 120 then (some t343) else ((newS26.f l0 0).bind fun bt344 => ((belvederemake_Set.f k bt344.1 bt344.2 (([1, 3] : List Int)) 10).bind fun bt350 => ((belvedereref_Entries.f k bt350.1).bind fun t354 => ((slice_After.f k bt350.1 ([] : List (S41)) false (bt350.1.length : Int)).bind fun t357 => (belvederelaw4_SliceOwn.l0 k t343 bt350.1 t354 t357 0)))))) else (some false))
set_option maxHeartbeats 8000000 in
set_option maxRecDepth 100000 in
theorem belvederelaw4_SliceOwn.calls (k : Nat) (A0 : Option Addr) (c0 : Nat) (l0 : List Int) (r : Bool) (w : World) (hr0 : Kd.C (Kd.int .i64) w A0 l0.length l0) (hc0 : l0.length ≤ c0) (h : belvederelaw4_SliceOwn.f k l0 = some r) :
    Calls Try.prog 4 #[.slice A0 l0.length c0] w fun e w' => e = .returned (.bool r) ∧ Below w.heap.size w w' := by
  have hu26 := Try.underlying26
  have hu36 := Try.underlying36
  have hu41 := Try.underlying41
  have HR0 := Aside0.mk hr0
  have HC0 := Aside0.mk hc0
  clear hr0 hc0
  have HB := Aside0.mk (Below.refl w.heap.size w)
  have H : ((belvederelaw4_first.f).bind fun t343 => (if t343 = true then (if (l0.length : Int) > 120 then (some t343) else ((newS26.f l0 0).bind fun bt344 => ((belvederemake_Set.f k bt344.1 bt344.2 (([1, 3] : List Int)) 10).bind fun bt350 => ((belvedereref_Entries.f k bt350.1).bind fun t354 => ((slice_After.f k bt350.1 ([] : List (S41)) false (bt350.1.length : Int)).bind fun t357 => (belvederelaw4_SliceOwn.l0 k t343 bt350.1 t354 t357 0)))))) else (some false))) = some r := h
  clear h
  replace H := Option.bind_eq_some_iff.mp H
  obtain ⟨t343, A20, H⟩ := H
  replace H : (if t343 = true then (if (l0.length : Int) > 120 then (some t343) else ((newS26.f l0 0).bind fun bt344 => ((belvederemake_Set.f k bt344.1 bt344.2 (([1, 3] : List Int)) 10).bind fun bt350 => ((belvedereref_Entries.f k bt350.1).bind fun t354 => ((slice_After.f k bt350.1 ([] : List (S41)) false (bt350.1.length : Int)).bind fun t357 => (belvederelaw4_SliceOwn.l0 k t343 bt350.1 t354 t357 0)))))) else (some false)) = some r := H
  have A2 := Aside0.mk A20
  clear A20
  by_cases c3 : t343 = true
  · subst c3
    have H1 : (if (l0.length : Int) > 120 then (some true) else ((newS26.f l0 0).bind fun bt344 => ((belvederemake_Set.f k bt344.1 bt344.2 (([1, 3] : List Int)) 10).bind fun bt350 => ((belvedereref_Entries.f k bt350.1).bind fun t354 => ((slice_After.f k bt350.1 ([] : List (S41)) false (bt350.1.length : Int)).bind fun t357 => (belvederelaw4_SliceOwn.l0 k true bt350.1 t354 t357 0)))))) = some r := by rw [if_pos rfl] at H; exact H
    clear H
    have H := H1
    clear H1
    by_cases c4 : (l0.length : Int) > 120
    · rw [if_pos c4] at H
      have c4b0 : decide (120 < (l0.length : Int)) = true := decide_eq_true c4
      have c4b1 : decide (120 < l0.length) = true := decide_eq_true (by omega)
      clear c4
      obtain rfl := Option.some.inj H
      go_enter Try.func4, Try.ntmps4
      go_wp2_with (first | ((with_reducible refine gate_callee (f := 17) rfl ?_); refine goesL_ (some 10) rfl rfl Try.func17 (by kernel_rfl) rfl #[] rfl (by (try simp only [List.map_toArray, List.map_cons, List.map_nil]); first | done | rfl | (simp only [List.length_drop, List.length_take]; rfl)) ?_; (with_reducible refine (belvederelaw4_first.calls  true _ A2.out).mono ?_); rintro e w5 ⟨rfl, hb⟩; refine ⟨_, rfl, ?_⟩; have n0_ := Aside0.mk (below_step (by repeat (first | (with_reducible first | exact HB.out | apply below_alloc | apply pw_below_drewN | apply below_drew1) | exact HB.out)) hb); clear HB; have HB := n0_; clear n0_; (try clear hb); (try clear hb2); (try clear hk); (try clear hi)))
      go_ret
      exact ⟨by first | rfl | (simp [errW_none, errW_some] <;> rfl) | (simp [*, errW_none, errW_some] <;> rfl), by repeat (first | (with_reducible first | exact HB.out | apply below_alloc | apply pw_below_drewN | apply below_drew1) | exact HB.out)⟩
    · rw [if_neg c4] at H
      have c4b0 : decide (120 < (l0.length : Int)) = false := decide_eq_false c4
      have c4b1 : decide (120 < l0.length) = false := decide_eq_false (by omega)
      clear c4
      replace H := Option.bind_eq_some_iff.mp H
      obtain ⟨⟨t344, t345⟩, A60, H⟩ := H
      replace H : ((belvederemake_Set.f k t344 t345 (([1, 3] : List Int)) 10).bind fun bt350 => ((belvedereref_Entries.f k bt350.1).bind fun t354 => ((slice_After.f k bt350.1 ([] : List (S41)) false (bt350.1.length : Int)).bind fun t357 => (belvederelaw4_SliceOwn.l0 k true bt350.1 t354 t357 0)))) = some r := H
      have A6 := Aside0.mk A60
      clear A60
      obtain ⟨y347, hy347⟩ : ∃ y_ : List Int, y_ = (([1, 3] : List Int)) := ⟨_, rfl⟩
      replace H : ((belvederemake_Set.f k t344 t345 y347 10).bind fun bt350 => ((belvedereref_Entries.f k bt350.1).bind fun t354 => ((slice_After.f k bt350.1 ([] : List (S41)) false (bt350.1.length : Int)).bind fun t357 => (belvederelaw4_SliceOwn.l0 k true bt350.1 t354 t357 0)))) = some r := by first | (rw [hy347]; with_reducible exact H) | (have H2_ := (Option.bind_some _ _).symm.trans H; rw [hy347]; with_reducible exact H2_) | (have H2_ := (Option.bind_some _ _).symm.trans H; with_reducible exact H2_) | with_reducible exact H | (rw [hy347]; exact H) | exact H
      have Ny347 := Aside0.mk hy347
      clear hy347
      replace H := Option.bind_eq_some_iff.mp H
      obtain ⟨⟨t350, t353⟩, A70, H⟩ := H
      replace H : ((belvedereref_Entries.f k t350).bind fun t354 => ((slice_After.f k t350 ([] : List (S41)) false (t350.length : Int)).bind fun t357 => (belvederelaw4_SliceOwn.l0 k true t350 t354 t357 0))) = some r := H
      have A7 := Aside0.mk A70
      clear A70
      replace H := Option.bind_eq_some_iff.mp H
      obtain ⟨t354, A80, H⟩ := H
      replace H : ((slice_After.f k t350 ([] : List (S41)) false (t350.length : Int)).bind fun t357 => (belvederelaw4_SliceOwn.l0 k true t350 t354 t357 0)) = some r := H
      have A8 := Aside0.mk A80
      clear A80
      replace H := Option.bind_eq_some_iff.mp H
      obtain ⟨t357, A90, H⟩ := H
      replace H : (belvederelaw4_SliceOwn.l0 k true t350 t354 t357 0) = some r := H
      have A9 := Aside0.mk A90
      clear A90
      have H' := Aside0.mk H
      clear H
      go_enter Try.func4, Try.ntmps4
      go_wp2_with (first | ((with_reducible refine gate_callee (f := 17) rfl ?_); refine goesL_ (some 10) rfl rfl Try.func17 (by kernel_rfl) rfl #[] rfl (by (try simp only [List.map_toArray, List.map_cons, List.map_nil]); first | done | rfl | (simp only [List.length_drop, List.length_take]; rfl)) ?_; (with_reducible refine (belvederelaw4_first.calls  true _ A2.out).mono ?_); rintro e w10 ⟨rfl, hb⟩; refine ⟨_, rfl, ?_⟩; have n0_ := Aside0.mk (below_step (by repeat (first | (with_reducible first | exact HB.out | apply below_alloc | apply pw_below_drewN | apply below_drew1) | exact HB.out)) hb); clear HB; have HB := n0_; clear n0_; (try clear hb); (try clear hb2); (try clear hk); (try clear hi)) | ((with_reducible refine gate_dst (N := 19) rfl ?_); (try (refine gate_guard (by rfl) ?_; dsimp only)); refine boxC_ ?hg (N := 19) ?hd (cs := #[.slice A0 l0.length c0, .int .i64 0]) (t := 26) ?hr ?_; (case hd => rfl); (case hg => rfl); (case hr => first | (go_simp; done) | (go_simp; rfl)); (with_reducible refine (newS26.calls _ _ l0 0 t344 t345 w _ ?side1 ?side2 ?side3 A6.out).mono ?_); (case side1 => repeat (first | (with_reducible first | exact HB.out | apply below_alloc | apply pw_below_drewN | apply below_drew1) | exact HB.out)); (case side2 => exact HR0.out); (case side3 => exact HC0.out); rintro e w11 ⟨g346, rfl, hi, hb, hb2⟩; refine ⟨_, rfl, ?_⟩; have n0_ := Aside0.mk (hb); have n1_ := Aside0.mk (hi); clear HB; have HB := n0_; have HI346 := n1_; clear n0_ n1_; (try clear hb); (try clear hb2); (try clear hk); (try clear hi)) | ((with_reducible refine gate_dst (N := 20) rfl ?_); (try (refine gate_guard (by rfl) ?_; dsimp only)); refine Kd.R_lit (Kd.int .i64) _ 3 ?hg (N := 20) ?hd (xs := ([1, 3] : List Int)) (inner := [.int .i64 1, .int .i64 3]) (ok := fun _ => True) (okp := fun _ => True) ?hr ?hp (fun _ hk => hk) trivial (Below.refl _ _) (Nat.le_refl _) (by simp) ?_; (case hd => rfl); (case hg => rfl); (case hr => first | (go_simp; done) | (go_simp; rfl)); (case hp => exact (Reps.one (show Kd.M (Kd.int .i64) _ _ _ 1 [.int .i64 1] from rfl) (Reps.one (show Kd.M (Kd.int .i64) _ _ _ 3 [.int .i64 3] from rfl) (Reps.none _ _)))); intro v348 w12 ho13 hb hg_ hnew_; clear hg_ hnew_; (first | rw [← Ny347.out] at ho13 | (simp only [Int.reduceToNat] at ho13; rw [← Ny347.out] at ho13)); have n0_ := Aside0.mk (Kd.R_lower ho13 (below_size (by repeat (first | (with_reducible first | exact HB.out | apply below_alloc | apply pw_below_drewN | apply below_drew1 | refine below_set ?_ (IsS26.ge HI346.out)) | exact HB.out)))); have n1_ := Aside0.mk (IsS26.below (by repeat (first | (with_reducible first | exact HI346.out | apply IsS26.alloc | apply IsS26.drewN | apply IsS26.drew | apply IsS26.set_1) | exact HI346.out)) hb); have n2_ := Aside0.mk (below_step (by repeat (first | (with_reducible first | exact HB.out | apply below_alloc | apply pw_below_drewN | apply below_drew1 | refine below_set ?_ (IsS26.ge HI346.out)) | exact HB.out)) hb); clear HI346; clear HB; have HO349 := n0_; have HI346 := n1_; have HB := n2_; clear n0_ n1_ n2_; clear hb ho13; obtain ⟨Ao14, co14, eo14⟩ := Kd.R_slice HO349.out; subst eo14) | ((with_reducible refine gate_callee (f := 14) rfl ?_); refine goesL_ (some 21) rfl rfl Try.func14 (by kernel_rfl) rfl #[.pointer (some ⟨g346, 0, none⟩), .slice Ao14 y347.length co14, .int .i64 10] rfl (by (try simp only [List.map_toArray, List.map_cons, List.map_nil]); first | done | rfl | (simp only [List.length_drop, List.length_take]; rfl)) ?_; (with_reducible refine (belvederemake_Set.calls k g346 t344 t345 _ _ y347 10 t350 t353 w _ ?side1 ?side2 ?side3 ?side4 ?side5 A7.out).mono ?_); (case side1 => repeat (first | (with_reducible first | exact HI346.out | apply IsS26.alloc | apply IsS26.drewN | apply IsS26.drew | apply IsS26.set_1) | exact HI346.out)); (case side2 => repeat (first | (with_reducible first | exact HB.out | apply below_alloc | apply pw_below_drewN | apply below_drew1 | refine below_set ?_ (IsS26.ge HI346.out)) | exact HB.out)); (case side3 => repeat (first | exact (Kd.R_reads' HO349.out).2.2 | (with_reducible refine Kd.C_alloc ?_ _) | (with_reducible refine Kd.C_drewN ?_ _) | (with_reducible refine Kd.C_drew ?_))); (case side4 => exact (Kd.R_reads' HO349.out).2.1); (case side5 => exact far_slice (IsS26.own_ne HI346.out HO349.out (by decide))); rintro e w15 ⟨v351, rfl, ho0, hi, hb, hk⟩; refine ⟨_, rfl, ?_⟩; have n0_ := Aside0.mk (Kd.R_mono (Kd.R_keep (IsS26.apart (show IsS26 w _ g346 t344 t345 from by repeat (first | (with_reducible first | exact HI346.out | apply IsS26.alloc | apply IsS26.drewN | apply IsS26.drew | apply IsS26.set_1) | exact HI346.out)) (by (with_reducible repeat (first | apply Kd.R_alloc | apply Kd.R_drewN | apply Kd.R_drew)); exact HO349.out) (by decide)) hk (fun _ h => h.2)) (fun _ h => h.1)); have n1_ := Aside0.mk (Kd.N_lower (Kd.N_mono (ok' := fun k_ => some k_ ≠ (.slice Ao14 y347.length co14 : Value).ownBlock ∧ k_ ≠ g346) ho0 (fun k_ hk_ => ⟨(Kd.fresh' (Kd.R_lt (by (with_reducible repeat (first | apply Kd.R_alloc | apply Kd.R_drewN | apply Kd.R_drew)); exact HO349.out)) k_ hk_), (IsS26.fresh (by repeat (first | (with_reducible first | exact HI346.out | apply IsS26.alloc | apply IsS26.drewN | apply IsS26.drew | apply IsS26.set_1) | exact HI346.out)) k_ hk_)⟩)) (below_size (by repeat (first | (with_reducible first | exact HB.out | apply below_alloc | apply pw_below_drewN | apply below_drew1 | refine below_set ?_ (IsS26.ge HI346.out)) | exact HB.out)))); have n2_ := Aside0.mk (hb); have n3_ := Aside0.mk (hi); clear HO349; clear HB; clear HI346; have HO349 := n0_; have HO352 := n1_; have HB := n2_; have HI346 := n3_; clear n0_ n1_ n2_ n3_; (try clear hb); (try clear hb2); (try clear hk); (try clear hi); (try clear ho0); obtain ⟨Ao16, co16, eo16⟩ := Kd.N_slice HO352.out; subst eo16) | ((with_reducible refine gate_callee (f := 18) rfl ?_); refine goesL_ (some 23) rfl rfl Try.func18 (by kernel_rfl) rfl #[.slice Ao16 t350.length co16] rfl (by (try simp only [List.map_toArray, List.map_cons, List.map_nil]); first | done | rfl | (simp only [List.length_drop, List.length_take]; rfl)) ?_; (with_reducible refine (belvedereref_Entries.calls k (fun k_ => (some k_ ≠ (.slice Ao14 y347.length co14 : Value).ownBlock ∧ k_ ≠ g346)) _ _ t350 t354 _ ?side1 A8.out).mono ?_); (case side1 => exact Kd.N_V (HO352.out)); rintro e w17 ⟨v355, rfl, ho0, hb⟩; refine ⟨_, rfl, ?_⟩; have n0_ := Aside0.mk (Kd.R_below (by (with_reducible repeat (first | apply Kd.R_alloc | apply Kd.R_drewN | apply Kd.R_drew)); exact HO349.out) hb); have n1_ := Aside0.mk (Kd.N_elder' (by (with_reducible repeat (first | apply Kd.N_alloc | apply Kd.N_drewN | apply Kd.N_drew)); exact HO352.out) (by first | exact Kd.N_base ho0 | exact Kd.S_base ho0 | exact Kd.R_base ho0) hb); have n2_ := Aside0.mk (Kd.N_lower (Kd.N_mono (ok' := fun k_ => some k_ ≠ (.slice Ao14 y347.length co14 : Value).ownBlock ∧ k_ ≠ g346) ho0 (fun k_ hk_ => ⟨Or.elim hk_ (fun hs_ => hs_.1) (fun hn_ => (Kd.fresh' (Kd.R_lt (by (with_reducible repeat (first | apply Kd.R_alloc | apply Kd.R_drewN | apply Kd.R_drew)); exact HO349.out)) k_ hn_)), Or.elim hk_ (fun hs_ => hs_.2) (fun hn_ => (IsS26.fresh (by repeat (first | (with_reducible first | exact HI346.out | apply IsS26.alloc | apply IsS26.drewN | apply IsS26.drew | apply IsS26.set_1) | exact HI346.out)) k_ hn_))⟩)) (below_size (by repeat (first | (with_reducible first | exact HB.out | apply below_alloc | apply pw_below_drewN | apply below_drew1 | refine below_set ?_ (IsS26.ge HI346.out)) | exact HB.out)))); have n3_ := Aside0.mk (IsS26.below (by repeat (first | (with_reducible first | exact HI346.out | apply IsS26.alloc | apply IsS26.drewN | apply IsS26.drew | apply IsS26.set_1) | exact HI346.out)) hb); have n4_ := Aside0.mk (below_step (by repeat (first | (with_reducible first | exact HB.out | apply below_alloc | apply pw_below_drewN | apply below_drew1 | refine below_set ?_ (IsS26.ge HI346.out)) | exact HB.out)) hb); clear HO349; clear HO352; clear HI346; clear HB; have HO349 := n0_; have HO352 := n1_; have HO356 := n2_; have HI346 := n3_; have HB := n4_; clear n0_ n1_ n2_ n3_ n4_; (try clear hb); (try clear hb2); (try clear hk); (try clear hi); (try clear ho0)) | ((with_reducible refine gate_callee (f := 19) rfl ?_); refine goesL_ (some 27) rfl rfl Try.func19 (by kernel_rfl) rfl #[.slice Ao16 t350.length co16, .slice none 0 0, .bool false, .int .i64 (t350.length : Int)] rfl (by (try simp only [List.map_toArray, List.map_cons, List.map_nil]); first | done | rfl | (simp only [List.length_drop, List.length_take]; rfl)) ?_; (refine (slice_After.calls k _ _ t350 _ _ ([] : List (S41)) false (t350.length : Int) t357 _ ?side1 ?side2 ?side3 ?side4 A9.out).mono ?_); (case side1 => repeat (first | exact (Kd.N_reads' HO352.out).2.2 | (with_reducible refine Kd.C_alloc ?_ _) | (with_reducible refine Kd.C_drewN ?_ _) | (with_reducible refine Kd.C_drew ?_))); (case side2 => exact (Kd.N_reads' HO352.out).2.1); (case side3 => exact Kd.C_nil _ _); (case side4 => exact Nat.le_refl _); rintro e w18 ⟨v358, rfl, ho0, hb⟩; refine ⟨_, rfl, ?_⟩; have n0_ := Aside0.mk (Kd.R_below (by (with_reducible repeat (first | apply Kd.R_alloc | apply Kd.R_drewN | apply Kd.R_drew)); exact HO349.out) hb); have n1_ := Aside0.mk (Kd.N_elder' (by (with_reducible repeat (first | apply Kd.N_alloc | apply Kd.N_drewN | apply Kd.N_drew)); exact HO352.out) (by first | exact Kd.N_base ho0 | exact Kd.S_base ho0 | exact Kd.R_base ho0) hb); have n2_ := Aside0.mk (Kd.N_elder' (by (with_reducible repeat (first | apply Kd.N_alloc | apply Kd.N_drewN | apply Kd.N_drew)); exact HO356.out) (by first | exact Kd.N_base ho0 | exact Kd.S_base ho0 | exact Kd.R_base ho0) hb); have n3_ := Aside0.mk (Kd.N_lower (Kd.N_mono (ok' := fun k_ => some k_ ≠ (.slice Ao14 y347.length co14 : Value).ownBlock ∧ some k_ ≠ (.slice Ao16 t350.length co16 : Value).ownBlock ∧ some k_ ≠ (v355 : Value).ownBlock ∧ k_ ≠ g346) (Kd.S_N (Kd.S_bound ho0)) (fun k_ hk_ => ⟨(Kd.fresh' (Kd.R_lt (by (with_reducible repeat (first | apply Kd.R_alloc | apply Kd.R_drewN | apply Kd.R_drew)); exact HO349.out)) k_ hk_.2.1), (Kd.fresh' (Kd.N_lt (by (with_reducible repeat (first | apply Kd.N_alloc | apply Kd.N_drewN | apply Kd.N_drew)); exact HO352.out)) k_ hk_.2.1), (Kd.fresh' (Kd.N_lt (by (with_reducible repeat (first | apply Kd.N_alloc | apply Kd.N_drewN | apply Kd.N_drew)); exact HO356.out)) k_ hk_.2.1), (IsS26.fresh (by repeat (first | (with_reducible first | exact HI346.out | apply IsS26.alloc | apply IsS26.drewN | apply IsS26.drew | apply IsS26.set_1) | exact HI346.out)) k_ hk_.2.1)⟩)) (below_size (by repeat (first | (with_reducible first | exact HB.out | apply below_alloc | apply pw_below_drewN | apply below_drew1 | refine below_set ?_ (IsS26.ge HI346.out)) | exact HB.out)))); have n4_ := Aside0.mk (IsS26.below (by repeat (first | (with_reducible first | exact HI346.out | apply IsS26.alloc | apply IsS26.drewN | apply IsS26.drew | apply IsS26.set_1) | exact HI346.out)) hb); have n5_ := Aside0.mk (below_step (by repeat (first | (with_reducible first | exact HB.out | apply below_alloc | apply pw_below_drewN | apply below_drew1 | refine below_set ?_ (IsS26.ge HI346.out)) | exact HB.out)) hb); clear HO349; clear HO352; clear HO356; clear HI346; clear HB; have HO349 := n0_; have HO352 := n1_; have HO356 := n2_; have HO359 := n3_; have HI346 := n4_; have HB := n5_; clear n0_ n1_ n2_ n3_ n4_ n5_; (try clear hb); (try clear hb2); (try clear hk); (try clear hi); (try clear ho0)))
      go_loopg [7] k (fun kq v7 w' => ∃ (x6_1 : List (S36)) (x7_1 : Int), v7 = .int .i64 x7_1 ∧ Aside0 (belvederelaw4_SliceOwn.l0 kq true t350 t354 x6_1 x7_1 = some r) ∧ Aside0 (kq ≤ k) ∧ Aside0 (Kd.N k36 36 w' w.heap.size (fun k_ => some k_ ≠ (v355 : Value).ownBlock ∧ some k_ ≠ (v358 : Value).ownBlock) (.slice Ao16 t350.length co16) t350) ∧ Aside0 (Kd.N k36 36 w' w.heap.size (fun k_ => some k_ ≠ (v358 : Value).ownBlock) v355 t354) ∧ Aside0 (Kd.N k36 36 w' w.heap.size (fun k_ => some k_ ≠ ((.slice Ao16 t350.length co16) : Value).ownBlock ∧ some k_ ≠ (v355 : Value).ownBlock) v358 x6_1) ∧ Aside0 (Below w.heap.size w w'))
      case atStart => exact ⟨(t357), (0), (by first | rfl | (simp; done) | (simp [*]; done)), H', ⟨Nat.le_refl _⟩, ⟨by (with_reducible repeat (first | apply Kd.N_alloc | apply Kd.N_drewN | apply Kd.N_drew)); exact Kd.N_mono HO352.out (fun _ hk => ⟨hk.1.2, hk.2⟩)⟩, ⟨by (with_reducible repeat (first | apply Kd.N_alloc | apply Kd.N_drewN | apply Kd.N_drew)); exact Kd.N_mono HO356.out (fun _ hk => hk.2)⟩, ⟨by (with_reducible repeat (first | apply Kd.N_alloc | apply Kd.N_drewN | apply Kd.N_drew)); exact Kd.N_mono HO359.out (fun _ hk => ⟨hk.2.1, hk.2.2.1⟩)⟩, ⟨by repeat (first | (with_reducible first | exact HB.out | apply below_alloc | apply pw_below_drewN | apply below_drew1 | refine below_set ?_ (IsS26.ge HI346.out)) | exact HB.out)⟩⟩
      case round =>
        clear H'
        try clear c1
        try clear p2
        try clear c3
        try clear c4
        try clear c4b0
        try clear c4b1
        try clear c14
        try clear c17
        try clear c18
        obtain ⟨x6_1, x7_1, rfl, HA, HK1, HO_4, HO_5, HO_6, HB⟩ := hrel
        cases gk with
        | zero => exact absurd HA.out (by simp [belvederelaw4_SliceOwn.l0])
        | succ k1 =>
          have H := HA.out
          clear HA
          simp only [belvederelaw4_SliceOwn.l0] at H
          by_cases c19 : x7_1 < (x6_1.length : Int)
          · rw [if_pos c19] at H
            have c19b0 : decide (x7_1 < (x6_1.length : Int)) = true := decide_eq_true c19
            clear c19
            by_cases c20 : 0 ≤ x7_1
            · rw [if_pos c20] at H
              have c20b0 : decide (0 ≤ x7_1) = true := decide_eq_true c20
              clear c20
              obtain ⟨y360, hy360⟩ : ∃ y_ : List (S36), y_ = (x6_1.set (x7_1 : Int).toNat (⟨(rd_T36 x6_1 x7_1).f0, 7777⟩ : S36)) := ⟨_, rfl⟩
              replace H : (belvederelaw4_SliceOwn.l0 k1 true t350 t354 y360 (wrap64 (x7_1 + 1))) = some r := by first | (rw [hy360]; with_reducible exact H) | (have H2_ := (Option.bind_some _ _).symm.trans H; rw [hy360]; with_reducible exact H2_) | (have H2_ := (Option.bind_some _ _).symm.trans H; with_reducible exact H2_) | with_reducible exact H | (rw [hy360]; exact H) | exact H
              have Ny360 := Aside0.mk hy360
              clear hy360
              have H' := Aside0.mk H
              clear H
              obtain ⟨Ao22, co22, eo22⟩ := Kd.N_slice HO_6.out
              subst eo22
              have p21 : 0 ≤ (x7_1 : Int) := of_decide_eq_true (by first | (with_reducible assumption) | assumption)
              have q21 : (x7_1 : Int) < ((x6_1.length : Int) : Int) := of_decide_eq_true (by first | (with_reducible assumption) | assumption)
              obtain ⟨go21, co21, eo21, gb21, gl21, cl21, HG21⟩ := Kd.N_form HO_6.out (by omega)
              (first | cases eo21 | (injection eo21 with ea_ en_ ec_; (first | subst ea_ | (injection ea_ with ea_; subst ea_)); subst ec_; clear en_))
              have GB21 := Aside0.mk gb21
              have GG21 := Aside0.mk HG21
              clear gb21 gl21 HG21
              obtain ⟨ce21, hcl21, hM21, hcc21, hfr21⟩ := Kd.N_elem HO_6.out z36 (x7_1 : Int) p21 q21
              obtain ⟨ua21_0, uc21_0, rfl, ul21_0, ge21_0⟩ := k36_openF hM21
              have hx21_0 : wr.cell? ⟨go21, (x7_1 : Int).toNat * 2, none⟩ = some (.slice ua21_0 ((rd_T36 x6_1 x7_1).f0).length uc21_0) := hcc21 0 _ rfl
              have hx21_1 : wr.cell? ⟨go21, (x7_1 : Int).toNat * 2 + 1, none⟩ = some (.int .i64 ((rd_T36 x6_1 x7_1).f1)) := hcc21 1 _ rfl
              have hf21_0 : wr.frozen? ⟨go21, (x7_1 : Int).toNat * 2, none⟩ = false := hfr21 0
              have hf21_1 : wr.frozen? ⟨go21, (x7_1 : Int).toNat * 2 + 1, none⟩ = false := hfr21 1
              clear hcl21 hcc21 hfr21 hM21
              replace p21 := eq_true p21
              replace q21 := eq_true q21
              have HX23 := Aside0.mk (show Kd.N k36 36 wr w.heap.size (fun k_ => some k_ ≠ (.slice Ao16 t350.length co16 : Value).ownBlock ∧ some k_ ≠ (v355 : Value).ownBlock) (.slice (some ⟨go21, 0, none⟩) x6_1.length co22) x6_1 from (by (with_reducible repeat (first | apply Kd.N_alloc | apply Kd.N_drewN | apply Kd.N_drew)); exact HO_6.out))
              obtain ⟨ce23, hcl23, hM23, hcc23, hfr23⟩ := Kd.N_elem HX23.out z36 (x7_1 : Int) (of_decide_eq_true (by first | (with_reducible assumption) | assumption)) (by have h_ : (x7_1 : Int) < ((x6_1.length : Int) : Int) := of_decide_eq_true (by first | (with_reducible assumption) | assumption); first | exact h_ | (have e_ := (Kd.N_reads' HO_6.out).1; omega) | simpa using h_)
              obtain ⟨ua23_0, uc23_0, rfl, ul23_0, ge23_0⟩ := k36_openF hM23
              have HP23 := Kd.N_seg HX23.out (x7_1 : Int) (of_decide_eq_true (by first | (with_reducible assumption) | assumption)) (by have h_ : (x7_1 : Int) < ((x6_1.length : Int) : Int) := of_decide_eq_true (by first | (with_reducible assumption) | assumption); first | exact h_ | (have e_ := (Kd.N_reads' HO_6.out).1; omega) | simpa using h_) (seg := [.int .i64 7777]) (j := 1) hcl23 hcc23 (show 2 ≤ 2 from by decide) (x' := (⟨(rd_T36 x6_1 x7_1).f0, 7777⟩ : S36)) (k36_mkF _ _ (⟨(rd_T36 x6_1 x7_1).f0, 7777⟩ : S36) ul23_0 ge23_0) (fun _ hk => hk)
              have hx23_1 := hcc23 1 _ rfl
              (try simp only [show (k36).sz = 2 from rfl, Nat.mul_one, Nat.add_zero] at hx23_1)
              have hf23_1 := hfr23 1
              (try simp only [show (k36).sz = 2 from rfl, Nat.mul_one, Nat.add_zero] at hf23_1)
              clear hcl23 hcc23 hfr23 hM23
              go_wp2_with (first | ((with_reducible refine gate_store (t := 2) (p := 37) rfl ?_); refine store_event (t := 2) (p := 37) (v := ?vo_w24) (w1 := (wr.setCell ⟨go21, (x7_1 : Int).toNat * 2 + 1, none⟩ (.int .i64 7777))) ?hg ?ho ?hn ?hr ?_; (case ho => rfl); (case hg => rfl); (case hn => rfl); (case hr => first | (go_simp; done) | (go_simp; rfl)); intro w24 hw; have hg : wr.grownBy w24 (some go21) := (by rw [hw]; exact HP23.2); have hp_ : Kd.N k36 36 w24 w.heap.size (fun k_ => some k_ ≠ (.slice Ao16 t350.length co16 : Value).ownBlock ∧ some k_ ≠ (v355 : Value).ownBlock) (.slice (some ⟨go21, 0, none⟩) x6_1.length co22) y360 := (by rw [hw, Ny360.out]; exact HP23.1); clear HP23; have n0_ := Aside0.mk (Kd.N_afterv (v := (.slice (some ⟨go21, 0, none⟩) x6_1.length co22)) (v1 := (.slice (some ⟨go21, 0, none⟩) x6_1.length co22)) (ok := (fun k_ => some k_ ≠ (v355 : Value).ownBlock)) (by (with_reducible repeat (first | apply Kd.N_alloc | apply Kd.N_drewN | apply Kd.N_drew)); exact HO_4.out) hg (.inl rfl)); have n1_ := Aside0.mk (Kd.N_afterv (v := (.slice (some ⟨go21, 0, none⟩) x6_1.length co22)) (v1 := (.slice (some ⟨go21, 0, none⟩) x6_1.length co22)) (ok := (fun _ => True)) (by (with_reducible repeat (first | apply Kd.N_alloc | apply Kd.N_drewN | apply Kd.N_drew)); exact Kd.N_mono HO_5.out (fun _ hk => ⟨trivial, hk⟩)) hg (.inl rfl)); have n2_ := Aside0.mk (hp_); have n3_ := Aside0.mk ((by rw [hw]; exact below_set (HB.out) GB21.out : Below w.heap.size w w24)); clear HO_4; clear HO_5; clear HO_6; clear HB; have HO_4 := n0_; have HO_5 := n1_; have HO_6 := n2_; have HB := n3_; clear n0_ n1_ n2_ n3_; clear hg hw hp_))
              go_roundg k1
              case measure => have := HK1.out; omega
              case rel => exact ⟨(y360), (wrap64 (x7_1 + 1)), (by first | rfl | (simp; done) | (simp [*]; done)), H', ⟨by have := HK1.out; omega⟩, ⟨by (with_reducible repeat (first | apply Kd.N_alloc | apply Kd.N_drewN | apply Kd.N_drew)); exact HO_4.out⟩, ⟨by (with_reducible repeat (first | apply Kd.N_alloc | apply Kd.N_drewN | apply Kd.N_drew)); exact Kd.N_mono HO_5.out (fun _ hk => hk.2)⟩, ⟨by (with_reducible repeat (first | apply Kd.N_alloc | apply Kd.N_drewN | apply Kd.N_drew)); exact HO_6.out⟩, ⟨by repeat (first | (with_reducible first | exact HB.out | apply below_alloc | apply pw_below_drewN | apply below_drew1) | exact HB.out)⟩⟩
            · rw [if_neg c20] at H
              exact absurd H (by simp)
          · rw [if_neg c19] at H
            have c19b0 : decide (x7_1 < (x6_1.length : Int)) = false := decide_eq_false c19
            clear c19
            by_cases c25 : x6_1.length < 4398046511104
            · rw [if_pos c25] at H
              have LMc25 := Aside0.mk c25
              clear c25
              obtain ⟨y361, hy361⟩ : ∃ y_ : List (S36), y_ = (x6_1 ++ [(⟨([] : List (S41)), 5⟩ : S36)]) := ⟨_, rfl⟩
              replace H : ((slice_Upto.f k1 t350 (([(⟨3, 1, (⟨#[]⟩ : ByteArray)⟩ : S41)] : List (S41))) true).bind fun t367 => (belvederelaw4_SliceOwn.l1 k1 true t350 t354 y361 t367 0)) = some r := by first | (rw [hy361]; with_reducible exact H) | (have H2_ := (Option.bind_some _ _).symm.trans H; rw [hy361]; with_reducible exact H2_) | (have H2_ := (Option.bind_some _ _).symm.trans H; with_reducible exact H2_) | with_reducible exact H | (rw [hy361]; exact H) | exact H
              have Ny361 := Aside0.mk hy361
              clear hy361
              obtain ⟨y364, hy364⟩ : ∃ y_ : List (S41), y_ = (([(⟨3, 1, (⟨#[]⟩ : ByteArray)⟩ : S41)] : List (S41))) := ⟨_, rfl⟩
              replace H : ((slice_Upto.f k1 t350 y364 true).bind fun t367 => (belvederelaw4_SliceOwn.l1 k1 true t350 t354 y361 t367 0)) = some r := by first | (rw [hy364]; with_reducible exact H) | (have H2_ := (Option.bind_some _ _).symm.trans H; rw [hy364]; with_reducible exact H2_) | (have H2_ := (Option.bind_some _ _).symm.trans H; with_reducible exact H2_) | with_reducible exact H | (rw [hy364]; exact H) | exact H
              have Ny364 := Aside0.mk hy364
              clear hy364
              replace H := Option.bind_eq_some_iff.mp H
              obtain ⟨t367, A260, H⟩ := H
              replace H : (belvederelaw4_SliceOwn.l1 k1 true t350 t354 y361 t367 0) = some r := H
              have A26 := Aside0.mk A260
              clear A260
              have H' := Aside0.mk H
              clear H
              obtain ⟨Ao27, co27, eo27⟩ := Kd.N_slice HO_6.out
              subst eo27
              go_wp2_with (first | ((with_reducible refine gate_builtin (b := .append) (xs := #[.tmp 38, .tmp 40]) rfl ?_); (try (refine gate_guard (by rfl) ?_; dsimp only)); at_builtin; refine Kd.N_append k36 (w0 := w) w.heap.size rfl (.tmp 38) (.tmp 40) 27 36 (.agg #[(.slice none 0 0), (.int .i64 0)]) 32 rfl Try.underlying27 info36 rfl (by decide) (by omega) (.slice Ao27 x6_1.length co27) x6_1 (⟨([] : List (S41)), 5⟩ : S36) [.slice none 0 0, .int .i64 5] (fun k_ => some k_ ≠ (.slice Ao16 t350.length co16 : Value).ownBlock ∧ some k_ ≠ (v355 : Value).ownBlock) (fun k_ => ((fun k_ => some k_ ≠ (.slice Ao16 t350.length co16 : Value).ownBlock ∧ some k_ ≠ (v355 : Value).ownBlock)) k_ ∧ some k_ ≠ (.slice Ao27 x6_1.length co27 : Value).ownBlock) rfl rfl ?aP (fun _ hk => hk) ?aF ?aO ?aB ?aS ?aL ?_; (case aP => exact (k36_mkF _ _ (⟨([] : List (S41)), 5⟩ : S36) (Nat.le_refl _) (Kd.F_nil _ _ _))); (case aB => exact (by repeat (first | (with_reducible first | exact HB.out | apply below_alloc | apply pw_below_drewN | apply below_drew1) | exact HB.out))); (case aF => exact (fun k_ hk => ⟨Kd.fresh' (Kd.N_lt (by (with_reducible repeat (first | apply Kd.N_alloc | apply Kd.N_drewN | apply Kd.N_drew)); exact HO_4.out)) k_ hk, Kd.fresh' (Kd.N_lt (by (with_reducible repeat (first | apply Kd.N_alloc | apply Kd.N_drewN | apply Kd.N_drew)); exact HO_5.out)) k_ hk⟩)); (case aO => exact (by (with_reducible repeat (first | apply Kd.N_alloc | apply Kd.N_drewN | apply Kd.N_drew)); exact HO_6.out)); (case aS => exact (below_size (by repeat (first | (with_reducible first | exact HB.out | apply below_alloc | apply pw_below_drewN | apply below_drew1) | exact HB.out)))); (case aL => have := LMc25.out; omega); intro v362 w28 ho hb hg hat; rw [← Ny361.out] at ho; have n0_ := Aside0.mk (Kd.N_afterv (ok := (fun k_ => some k_ ≠ (v355 : Value).ownBlock)) (by (with_reducible repeat (first | apply Kd.N_alloc | apply Kd.N_drewN | apply Kd.N_drew)); exact HO_4.out) hg hat); have n1_ := Aside0.mk (Kd.N_afterv (ok := (fun _ => True)) (by (with_reducible repeat (first | apply Kd.N_alloc | apply Kd.N_drewN | apply Kd.N_drew)); exact Kd.N_mono HO_5.out (fun _ hk => ⟨trivial, hk⟩)) hg hat); have n2_ := Aside0.mk (hb); have n3_ := Aside0.mk (ho); clear HO_4; clear HO_5; clear HB; clear HO_6; have HO_4 := n0_; have HO_5 := n1_; have HB := n2_; have HO363 := n3_; clear n0_ n1_ n2_ n3_; clear ho hb hg hat) | ((with_reducible refine gate_dst (N := 44) rfl ?_); (try (refine gate_guard (by rfl) ?_; dsimp only)); refine Kd.R_lit k41 _ 41 ?hg (N := 44) ?hd (xs := ([(⟨3, 1, (⟨#[]⟩ : ByteArray)⟩ : S41)] : List (S41))) (inner := [.int .i64 3, .int .i64 1, .string (⟨#[]⟩ : ByteArray)]) (ok := fun _ => True) (okp := fun _ => True) ?hr ?hp (fun _ hk => hk) trivial (Below.refl _ _) (Nat.le_refl _) (by simp) ?_; (case hd => rfl); (case hg => rfl); (case hr => first | (go_simp; done) | (go_simp; rfl)); (case hp => exact (Reps.c3 (show Kd.M k41 _ _ _ (⟨3, 1, (⟨#[]⟩ : ByteArray)⟩ : S41) [.int .i64 3, .int .i64 1, .string (⟨#[]⟩ : ByteArray)] from (k41_mkM _ _ _ (⟨3, 1, (⟨#[]⟩ : ByteArray)⟩ : S41) )) (Reps.none _ _))); intro v365 w29 ho30 hb hg_ hnew_; clear hg_ hnew_; (first | rw [← Ny364.out] at ho30 | (simp only [Int.reduceToNat] at ho30; rw [← Ny364.out] at ho30)); have n0_ := Aside0.mk (Kd.N_elder' (by (with_reducible repeat (first | apply Kd.N_alloc | apply Kd.N_drewN | apply Kd.N_drew)); exact HO_4.out) (Kd.R_base ho30) hb); have n1_ := Aside0.mk (Kd.N_elder' (by (with_reducible repeat (first | apply Kd.N_alloc | apply Kd.N_drewN | apply Kd.N_drew)); exact HO_5.out) (Kd.R_base ho30) hb); have n2_ := Aside0.mk (Kd.N_elder' (by (with_reducible repeat (first | apply Kd.N_alloc | apply Kd.N_drewN | apply Kd.N_drew)); exact HO363.out) (Kd.R_base ho30) hb); have n3_ := Aside0.mk (Kd.R_lower ho30 (below_size (by repeat (first | (with_reducible first | exact HB.out | apply below_alloc | apply pw_below_drewN | apply below_drew1) | exact HB.out)))); have n4_ := Aside0.mk (below_step (by repeat (first | (with_reducible first | exact HB.out | apply below_alloc | apply pw_below_drewN | apply below_drew1) | exact HB.out)) hb); clear HO_4; clear HO_5; clear HO363; clear HB; have HO_4 := n0_; have HO_5 := n1_; have HO363 := n2_; have HO366 := n3_; have HB := n4_; clear n0_ n1_ n2_ n3_ n4_; clear hb ho30; obtain ⟨Ao31, co31, eo31⟩ := Kd.R_slice HO366.out; subst eo31) | ((with_reducible refine gate_callee (f := 20) rfl ?_); refine goesL_ (some 45) rfl rfl Try.func20 (by kernel_rfl) rfl #[.slice Ao16 t350.length co16, .slice Ao31 y364.length co31, .bool true] rfl (by (try simp only [List.map_toArray, List.map_cons, List.map_nil]); first | done | rfl | (simp only [List.length_drop, List.length_take]; rfl)) ?_; (with_reducible refine (slice_Upto.calls k1 _ _ t350 _ _ y364 true t367 _ ?side1 ?side2 ?side3 ?side4 A26.out).mono ?_); (case side1 => repeat (first | exact (Kd.N_reads' HO_4.out).2.2 | (with_reducible refine Kd.C_alloc ?_ _) | (with_reducible refine Kd.C_drewN ?_ _) | (with_reducible refine Kd.C_drew ?_))); (case side2 => exact (Kd.N_reads' HO_4.out).2.1); (case side3 => repeat (first | exact (Kd.R_reads' HO366.out).2.2 | (with_reducible refine Kd.C_alloc ?_ _) | (with_reducible refine Kd.C_drewN ?_ _) | (with_reducible refine Kd.C_drew ?_))); (case side4 => exact (Kd.R_reads' HO366.out).2.1); rintro e w32 ⟨v368, rfl, ho0, hb⟩; refine ⟨_, rfl, ?_⟩; have n0_ := Aside0.mk (Kd.N_elder' (by (with_reducible repeat (first | apply Kd.N_alloc | apply Kd.N_drewN | apply Kd.N_drew)); exact HO_4.out) (by first | exact Kd.N_base ho0 | exact Kd.S_base ho0 | exact Kd.R_base ho0) hb); have n1_ := Aside0.mk (Kd.N_elder' (by (with_reducible repeat (first | apply Kd.N_alloc | apply Kd.N_drewN | apply Kd.N_drew)); exact HO_5.out) (by first | exact Kd.N_base ho0 | exact Kd.S_base ho0 | exact Kd.R_base ho0) hb); have n2_ := Aside0.mk (Kd.N_elder' (by (with_reducible repeat (first | apply Kd.N_alloc | apply Kd.N_drewN | apply Kd.N_drew)); exact HO363.out) (by first | exact Kd.N_base ho0 | exact Kd.S_base ho0 | exact Kd.R_base ho0) hb); have n3_ := Aside0.mk (Kd.R_below (by (with_reducible repeat (first | apply Kd.R_alloc | apply Kd.R_drewN | apply Kd.R_drew)); exact HO366.out) hb); have n4_ := Aside0.mk (Kd.N_lower (Kd.N_mono (ok' := fun k_ => some k_ ≠ (.slice Ao16 t350.length co16 : Value).ownBlock ∧ some k_ ≠ (v355 : Value).ownBlock ∧ some k_ ≠ (v362 : Value).ownBlock ∧ some k_ ≠ (.slice Ao31 y364.length co31 : Value).ownBlock) (Kd.S_N (Kd.S_bound ho0)) (fun k_ hk_ => ⟨(Kd.fresh' (Kd.N_lt (by (with_reducible repeat (first | apply Kd.N_alloc | apply Kd.N_drewN | apply Kd.N_drew)); exact HO_4.out)) k_ hk_.2.1), (Kd.fresh' (Kd.N_lt (by (with_reducible repeat (first | apply Kd.N_alloc | apply Kd.N_drewN | apply Kd.N_drew)); exact HO_5.out)) k_ hk_.2.1), (Kd.fresh' (Kd.N_lt (by (with_reducible repeat (first | apply Kd.N_alloc | apply Kd.N_drewN | apply Kd.N_drew)); exact HO363.out)) k_ hk_.2.1), (Kd.fresh' (Kd.R_lt (by (with_reducible repeat (first | apply Kd.R_alloc | apply Kd.R_drewN | apply Kd.R_drew)); exact HO366.out)) k_ hk_.2.1)⟩)) (below_size (by repeat (first | (with_reducible first | exact HB.out | apply below_alloc | apply pw_below_drewN | apply below_drew1) | exact HB.out)))); have n5_ := Aside0.mk (below_step (by repeat (first | (with_reducible first | exact HB.out | apply below_alloc | apply pw_below_drewN | apply below_drew1) | exact HB.out)) hb); clear HO_4; clear HO_5; clear HO363; clear HO366; clear HB; have HO_4 := n0_; have HO_5 := n1_; have HO363 := n2_; have HO366 := n3_; have HO369 := n4_; have HB := n5_; clear n0_ n1_ n2_ n3_ n4_ n5_; (try clear hb); (try clear hb2); (try clear hk); (try clear hi); (try clear ho0)))
              go_loopg [9] k1 (fun kq v9 w' => ∃ (x8_2 : List (S36)) (x9_2 : Int), v9 = .int .i64 x9_2 ∧ Aside0 (belvederelaw4_SliceOwn.l1 kq true t350 t354 y361 x8_2 x9_2 = some r) ∧ Aside0 (kq ≤ k1) ∧ Aside0 (Kd.N k36 36 w' w.heap.size (fun k_ => some k_ ≠ (v355 : Value).ownBlock ∧ some k_ ≠ (v362 : Value).ownBlock ∧ some k_ ≠ (v368 : Value).ownBlock) (.slice Ao16 t350.length co16) t350) ∧ Aside0 (Kd.N k36 36 w' w.heap.size (fun k_ => some k_ ≠ (v362 : Value).ownBlock ∧ some k_ ≠ (v368 : Value).ownBlock) v355 t354) ∧ Aside0 (Kd.N k36 36 w' w.heap.size (fun k_ => some k_ ≠ ((.slice Ao16 t350.length co16) : Value).ownBlock ∧ some k_ ≠ (v355 : Value).ownBlock ∧ some k_ ≠ (v368 : Value).ownBlock) v362 y361) ∧ Aside0 (Kd.N k36 36 w' w.heap.size (fun k_ => some k_ ≠ ((.slice Ao16 t350.length co16) : Value).ownBlock ∧ some k_ ≠ (v355 : Value).ownBlock ∧ some k_ ≠ (v362 : Value).ownBlock) v368 x8_2) ∧ Aside0 (Below w.heap.size w w'))
              case atStart => exact ⟨(t367), (0), (by first | rfl | (simp; done) | (simp [*]; done)), H', ⟨Nat.le_refl _⟩, ⟨by (with_reducible repeat (first | apply Kd.N_alloc | apply Kd.N_drewN | apply Kd.N_drew)); exact Kd.N_mono HO_4.out (fun _ hk => ⟨hk.1.1.1, ⟨hk.1.1.2, hk.2⟩⟩)⟩, ⟨by (with_reducible repeat (first | apply Kd.N_alloc | apply Kd.N_drewN | apply Kd.N_drew)); exact Kd.N_mono HO_5.out (fun _ hk => ⟨hk.1.1.2, hk.2⟩)⟩, ⟨by (with_reducible repeat (first | apply Kd.N_alloc | apply Kd.N_drewN | apply Kd.N_drew)); exact Kd.N_mono HO363.out (fun _ hk => ⟨hk.1.1.1, ⟨hk.1.1.2, hk.2⟩⟩)⟩, ⟨by (with_reducible repeat (first | apply Kd.N_alloc | apply Kd.N_drewN | apply Kd.N_drew)); exact Kd.N_mono HO369.out (fun _ hk => ⟨hk.1, ⟨hk.2.1, hk.2.2.1⟩⟩)⟩, ⟨by repeat (first | (with_reducible first | exact HB.out | apply below_alloc | apply pw_below_drewN | apply below_drew1) | exact HB.out)⟩⟩
              case round =>
                clear H'
                try clear c1
                try clear c2
                try clear p2
                try clear q2
                try clear hx2
                try clear hf2
                try clear c3
                try clear c4
                try clear c4b0
                try clear c4b1
                try clear p6
                try clear c14
                try clear c17
                try clear c18
                try clear c19
                try clear c19b0
                try clear c20
                try clear c20b0
                try clear c21
                try clear p21
                try clear q21
                try clear hx21
                try clear hf21
                try clear c23
                try clear hx23
                try clear hf23
                try clear c25
                try clear hx21_0
                try clear hx21_1
                try clear hx23_1
                try clear p2
                try clear p21
                try clear q21
                obtain ⟨x8_2, x9_2, rfl, HA, HK2, HO_4, HO_5, HO_6, HO_8, HB⟩ := hrel
                cases gk with
                | zero => exact absurd HA.out (by simp [belvederelaw4_SliceOwn.l1])
                | succ k2 =>
                  have H := HA.out
                  clear HA
                  simp only [belvederelaw4_SliceOwn.l1] at H
                  by_cases c33 : x9_2 < (x8_2.length : Int)
                  · rw [if_pos c33] at H
                    have c33b0 : decide (x9_2 < (x8_2.length : Int)) = true := decide_eq_true c33
                    clear c33
                    by_cases c34 : 0 ≤ x9_2
                    · rw [if_pos c34] at H
                      have c34b0 : decide (0 ≤ x9_2) = true := decide_eq_true c34
                      clear c34
                      obtain ⟨y370, hy370⟩ : ∃ y_ : List (S36), y_ = (x8_2.set (x9_2 : Int).toNat (⟨([] : List (S41)), (rd_T36 x8_2 x9_2).f1⟩ : S36)) := ⟨_, rfl⟩
                      replace H : (belvederelaw4_SliceOwn.l1 k2 true t350 t354 y361 y370 (wrap64 (x9_2 + 1))) = some r := by first | (rw [hy370]; with_reducible exact H) | (have H2_ := (Option.bind_some _ _).symm.trans H; rw [hy370]; with_reducible exact H2_) | (have H2_ := (Option.bind_some _ _).symm.trans H; with_reducible exact H2_) | with_reducible exact H | (rw [hy370]; exact H) | exact H
                      have Ny370 := Aside0.mk hy370
                      clear hy370
                      have H' := Aside0.mk H
                      clear H
                      obtain ⟨Ao36, co36, eo36⟩ := Kd.N_slice HO_8.out
                      subst eo36
                      have p35 : 0 ≤ (x9_2 : Int) := of_decide_eq_true (by first | (with_reducible assumption) | assumption)
                      have q35 : (x9_2 : Int) < ((x8_2.length : Int) : Int) := of_decide_eq_true (by first | (with_reducible assumption) | assumption)
                      obtain ⟨go35, co35, eo35, gb35, gl35, cl35, HG35⟩ := Kd.N_form HO_8.out (by omega)
                      (first | cases eo35 | (injection eo35 with ea_ en_ ec_; (first | subst ea_ | (injection ea_ with ea_; subst ea_)); subst ec_; clear en_))
                      have GB35 := Aside0.mk gb35
                      have GG35 := Aside0.mk HG35
                      clear gb35 gl35 HG35
                      obtain ⟨ce35, hcl35, hM35, hcc35, hfr35⟩ := Kd.N_elem HO_8.out z36 (x9_2 : Int) p35 q35
                      obtain ⟨ua35_0, uc35_0, rfl, ul35_0, ge35_0⟩ := k36_openF hM35
                      have hx35_0 : wr.cell? ⟨go35, (x9_2 : Int).toNat * 2, none⟩ = some (.slice ua35_0 ((rd_T36 x8_2 x9_2).f0).length uc35_0) := hcc35 0 _ rfl
                      have hx35_1 : wr.cell? ⟨go35, (x9_2 : Int).toNat * 2 + 1, none⟩ = some (.int .i64 ((rd_T36 x8_2 x9_2).f1)) := hcc35 1 _ rfl
                      have hf35_0 : wr.frozen? ⟨go35, (x9_2 : Int).toNat * 2, none⟩ = false := hfr35 0
                      have hf35_1 : wr.frozen? ⟨go35, (x9_2 : Int).toNat * 2 + 1, none⟩ = false := hfr35 1
                      clear hcl35 hcc35 hfr35 hM35
                      replace p35 := eq_true p35
                      replace q35 := eq_true q35
                      have HX37 := Aside0.mk (show Kd.N k36 36 wr w.heap.size (fun k_ => some k_ ≠ (.slice Ao16 t350.length co16 : Value).ownBlock ∧ some k_ ≠ (v355 : Value).ownBlock ∧ some k_ ≠ (v362 : Value).ownBlock) (.slice (some ⟨go35, 0, none⟩) x8_2.length co36) x8_2 from (by (with_reducible repeat (first | apply Kd.N_alloc | apply Kd.N_drewN | apply Kd.N_drew)); exact HO_8.out))
                      obtain ⟨ce37, hcl37, hM37, hcc37, hfr37⟩ := Kd.N_elem HX37.out z36 (x9_2 : Int) (of_decide_eq_true (by first | (with_reducible assumption) | assumption)) (by have h_ : (x9_2 : Int) < ((x8_2.length : Int) : Int) := of_decide_eq_true (by first | (with_reducible assumption) | assumption); first | exact h_ | (have e_ := (Kd.N_reads' HO_8.out).1; omega) | simpa using h_)
                      obtain ⟨ua37_0, uc37_0, rfl, ul37_0, ge37_0⟩ := k36_openF hM37
                      have HP37 := Kd.N_seg HX37.out (x9_2 : Int) (of_decide_eq_true (by first | (with_reducible assumption) | assumption)) (by have h_ : (x9_2 : Int) < ((x8_2.length : Int) : Int) := of_decide_eq_true (by first | (with_reducible assumption) | assumption); first | exact h_ | (have e_ := (Kd.N_reads' HO_8.out).1; omega) | simpa using h_) (seg := [.slice none 0 0]) (j := 0) hcl37 hcc37 (show 1 ≤ 2 from by decide) (x' := (⟨([] : List (S41)), (rd_T36 x8_2 x9_2).f1⟩ : S36)) (k36_mkF _ _ (⟨([] : List (S41)), (rd_T36 x8_2 x9_2).f1⟩ : S36) (Nat.le_refl _) (Kd.F_nil _ _ _)) (fun _ hk => hk)
                      have hx37_0 := hcc37 0 _ rfl
                      (try simp only [show (k36).sz = 2 from rfl, Nat.mul_one, Nat.add_zero] at hx37_0)
                      have hf37_0 := hfr37 0
                      (try simp only [show (k36).sz = 2 from rfl, Nat.mul_one, Nat.add_zero] at hf37_0)
                      clear hcl37 hcc37 hfr37 hM37
                      go_wp2_with (first | ((with_reducible refine gate_store (t := 34) (p := 55) rfl ?_); refine store_event (t := 34) (p := 55) (v := ?vo_w38) (w1 := (wr.setCell ⟨go35, (x9_2 : Int).toNat * 2, none⟩ (.slice none 0 0))) ?hg ?ho ?hn ?hr ?_; (case ho => rfl); (case hg => rfl); (case hn => rfl); (case hr => first | (go_simp; done) | (go_simp; rfl)); intro w38 hw; have hg : wr.grownBy w38 (some go35) := (by rw [hw]; exact HP37.2); have hp_ : Kd.N k36 36 w38 w.heap.size (fun k_ => some k_ ≠ (.slice Ao16 t350.length co16 : Value).ownBlock ∧ some k_ ≠ (v355 : Value).ownBlock ∧ some k_ ≠ (v362 : Value).ownBlock) (.slice (some ⟨go35, 0, none⟩) x8_2.length co36) y370 := (by rw [hw, Ny370.out]; exact HP37.1); clear HP37; have n0_ := Aside0.mk (Kd.N_afterv (v := (.slice (some ⟨go35, 0, none⟩) x8_2.length co36)) (v1 := (.slice (some ⟨go35, 0, none⟩) x8_2.length co36)) (ok := (fun k_ => some k_ ≠ (v355 : Value).ownBlock ∧ some k_ ≠ (v362 : Value).ownBlock)) (by (with_reducible repeat (first | apply Kd.N_alloc | apply Kd.N_drewN | apply Kd.N_drew)); exact Kd.N_mono HO_4.out (fun _ hk => ⟨⟨hk.1, hk.2.1⟩, hk.2.2⟩)) hg (.inl rfl)); have n1_ := Aside0.mk (Kd.N_afterv (v := (.slice (some ⟨go35, 0, none⟩) x8_2.length co36)) (v1 := (.slice (some ⟨go35, 0, none⟩) x8_2.length co36)) (ok := (fun k_ => some k_ ≠ (v362 : Value).ownBlock)) (by (with_reducible repeat (first | apply Kd.N_alloc | apply Kd.N_drewN | apply Kd.N_drew)); exact HO_5.out) hg (.inl rfl)); have n2_ := Aside0.mk (Kd.N_afterv (v := (.slice (some ⟨go35, 0, none⟩) x8_2.length co36)) (v1 := (.slice (some ⟨go35, 0, none⟩) x8_2.length co36)) (ok := (fun k_ => some k_ ≠ (.slice Ao16 t350.length co16 : Value).ownBlock ∧ some k_ ≠ (v355 : Value).ownBlock)) (by (with_reducible repeat (first | apply Kd.N_alloc | apply Kd.N_drewN | apply Kd.N_drew)); exact Kd.N_mono HO_6.out (fun _ hk => ⟨⟨hk.1, hk.2.1⟩, hk.2.2⟩)) hg (.inl rfl)); have n3_ := Aside0.mk (hp_); have n4_ := Aside0.mk ((by rw [hw]; exact below_set (HB.out) GB35.out : Below w.heap.size w w38)); clear HO_4; clear HO_5; clear HO_6; clear HO_8; clear HB; have HO_4 := n0_; have HO_5 := n1_; have HO_6 := n2_; have HO_8 := n3_; have HB := n4_; clear n0_ n1_ n2_ n3_ n4_; clear hg hw hp_))
                      go_roundg k2
                      case measure => have := HK1.out; have := HK2.out; omega
                      case rel => exact ⟨(y370), (wrap64 (x9_2 + 1)), (by first | rfl | (simp; done) | (simp [*]; done)), H', ⟨by have := HK1.out; have := HK2.out; omega⟩, ⟨by (with_reducible repeat (first | apply Kd.N_alloc | apply Kd.N_drewN | apply Kd.N_drew)); exact Kd.N_mono HO_4.out (fun _ hk => ⟨hk.1.1, ⟨hk.1.2, hk.2⟩⟩)⟩, ⟨by (with_reducible repeat (first | apply Kd.N_alloc | apply Kd.N_drewN | apply Kd.N_drew)); exact HO_5.out⟩, ⟨by (with_reducible repeat (first | apply Kd.N_alloc | apply Kd.N_drewN | apply Kd.N_drew)); exact Kd.N_mono HO_6.out (fun _ hk => ⟨hk.1.1, ⟨hk.1.2, hk.2⟩⟩)⟩, ⟨by (with_reducible repeat (first | apply Kd.N_alloc | apply Kd.N_drewN | apply Kd.N_drew)); exact HO_8.out⟩, ⟨by repeat (first | (with_reducible first | exact HB.out | apply below_alloc | apply pw_below_drewN | apply below_drew1) | exact HB.out)⟩⟩
                    · rw [if_neg c34] at H
                      exact absurd H (by simp)
                  · rw [if_neg c33] at H
                    have c33b0 : decide (x9_2 < (x8_2.length : Int)) = false := decide_eq_false c33
                    clear c33
                    have H1 : ((belvedereref_SameEntries.f k2 t350 t354).bind fun t371 => (if t371 = true then (some ((y361.length : Int) == (wrap64 ((t350.length : Int) + 1)))) else (some false))) = some r := by first | (rw [if_pos trivial] at H; exact H) | (rw [if_pos rfl] at H; exact H) | exact H
                    clear H
                    have H := H1
                    clear H1
                    replace H := Option.bind_eq_some_iff.mp H
                    obtain ⟨t371, A390, H⟩ := H
                    replace H : (if t371 = true then (some ((y361.length : Int) == (wrap64 ((t350.length : Int) + 1)))) else (some false)) = some r := H
                    have A39 := Aside0.mk A390
                    clear A390
                    by_cases c40 : t371 = true
                    · subst c40
                      have H1 : (some ((y361.length : Int) == (wrap64 ((t350.length : Int) + 1)))) = some r := by rw [if_pos rfl] at H; exact H
                      clear H
                      have H := H1
                      clear H1
                      obtain rfl := Option.some.inj H
                      obtain ⟨Ao41, co41, eo41⟩ := Kd.N_slice HO_8.out
                      subst eo41
                      obtain ⟨Ao42, co42, eo42⟩ := Kd.N_slice HO_5.out
                      subst eo42
                      go_wp2_with (first | (go_at_call 21; (with_reducible refine (belvedereref_SameEntries.calls k2 _ _ t350 _ _ t354 true _ ?side1 ?side2 ?side3 ?side4 A39.out).mono ?_); (case side1 => repeat (first | exact (Kd.N_reads' HO_4.out).2.2 | (with_reducible refine Kd.C_alloc ?_ _) | (with_reducible refine Kd.C_drewN ?_ _) | (with_reducible refine Kd.C_drew ?_))); (case side2 => exact (Kd.N_reads' HO_4.out).2.1); (case side3 => repeat (first | exact (Kd.N_reads' HO_5.out).2.2 | (with_reducible refine Kd.C_alloc ?_ _) | (with_reducible refine Kd.C_drewN ?_ _) | (with_reducible refine Kd.C_drew ?_))); (case side4 => exact (Kd.N_reads' HO_5.out).2.1); rintro e w43 ⟨rfl, hb⟩; have n0_ := Aside0.mk (Kd.N_below (by (with_reducible repeat (first | apply Kd.N_alloc | apply Kd.N_drewN | apply Kd.N_drew)); exact HO_4.out) hb); have n1_ := Aside0.mk (Kd.N_below (by (with_reducible repeat (first | apply Kd.N_alloc | apply Kd.N_drewN | apply Kd.N_drew)); exact HO_5.out) hb); have n2_ := Aside0.mk (Kd.N_below (by (with_reducible repeat (first | apply Kd.N_alloc | apply Kd.N_drewN | apply Kd.N_drew)); exact HO_6.out) hb); have n3_ := Aside0.mk (Kd.N_below (by (with_reducible repeat (first | apply Kd.N_alloc | apply Kd.N_drewN | apply Kd.N_drew)); exact HO_8.out) hb); have n4_ := Aside0.mk (below_step (by repeat (first | (with_reducible first | exact HB.out | apply below_alloc | apply pw_below_drewN | apply below_drew1) | exact HB.out)) hb); clear HO_4; clear HO_5; clear HO_6; clear HO_8; clear HB; have HO_4 := n0_; have HO_5 := n1_; have HO_6 := n2_; have HO_8 := n3_; have HB := n4_; clear n0_ n1_ n2_ n3_ n4_; (try clear hb); (try clear hb2); (try clear hk); (try clear hi); obtain ⟨Ao44, co44, eo44⟩ := Kd.N_slice HO_6.out; subst eo44))
                      go_ret
                      exact ⟨by first | rfl | (simp [errW_none, errW_some] <;> rfl) | (simp [*, errW_none, errW_some] <;> rfl), by repeat (first | (with_reducible first | exact HB.out | apply below_alloc | apply pw_below_drewN | apply below_drew1) | exact HB.out)⟩
                    · replace c40 := Bool.eq_false_iff.mpr c40
                      subst c40
                      have H1 : (some false) = some r := by rw [if_neg (show ¬ (false = true) by decide)] at H; exact H
                      clear H
                      have H := H1
                      clear H1
                      obtain rfl := Option.some.inj H
                      obtain ⟨Ao45, co45, eo45⟩ := Kd.N_slice HO_8.out
                      subst eo45
                      obtain ⟨Ao46, co46, eo46⟩ := Kd.N_slice HO_5.out
                      subst eo46
                      go_wp2_with (first | (go_at_call 21; (with_reducible refine (belvedereref_SameEntries.calls k2 _ _ t350 _ _ t354 false _ ?side1 ?side2 ?side3 ?side4 A39.out).mono ?_); (case side1 => repeat (first | exact (Kd.N_reads' HO_4.out).2.2 | (with_reducible refine Kd.C_alloc ?_ _) | (with_reducible refine Kd.C_drewN ?_ _) | (with_reducible refine Kd.C_drew ?_))); (case side2 => exact (Kd.N_reads' HO_4.out).2.1); (case side3 => repeat (first | exact (Kd.N_reads' HO_5.out).2.2 | (with_reducible refine Kd.C_alloc ?_ _) | (with_reducible refine Kd.C_drewN ?_ _) | (with_reducible refine Kd.C_drew ?_))); (case side4 => exact (Kd.N_reads' HO_5.out).2.1); rintro e w47 ⟨rfl, hb⟩; have n0_ := Aside0.mk (Kd.N_below (by (with_reducible repeat (first | apply Kd.N_alloc | apply Kd.N_drewN | apply Kd.N_drew)); exact HO_4.out) hb); have n1_ := Aside0.mk (Kd.N_below (by (with_reducible repeat (first | apply Kd.N_alloc | apply Kd.N_drewN | apply Kd.N_drew)); exact HO_5.out) hb); have n2_ := Aside0.mk (Kd.N_below (by (with_reducible repeat (first | apply Kd.N_alloc | apply Kd.N_drewN | apply Kd.N_drew)); exact HO_6.out) hb); have n3_ := Aside0.mk (Kd.N_below (by (with_reducible repeat (first | apply Kd.N_alloc | apply Kd.N_drewN | apply Kd.N_drew)); exact HO_8.out) hb); have n4_ := Aside0.mk (below_step (by repeat (first | (with_reducible first | exact HB.out | apply below_alloc | apply pw_below_drewN | apply below_drew1) | exact HB.out)) hb); clear HO_4; clear HO_5; clear HO_6; clear HO_8; clear HB; have HO_4 := n0_; have HO_5 := n1_; have HO_6 := n2_; have HO_8 := n3_; have HB := n4_; clear n0_ n1_ n2_ n3_ n4_; (try clear hb); (try clear hb2); (try clear hk); (try clear hi)))
                      go_ret
                      exact ⟨by first | rfl | (simp [errW_none, errW_some] <;> rfl) | (simp [*, errW_none, errW_some] <;> rfl), by repeat (first | (with_reducible first | exact HB.out | apply below_alloc | apply pw_below_drewN | apply below_drew1) | exact HB.out)⟩
            · rw [if_neg c25] at H
              exact absurd H (by simp)
  · replace c3 := Bool.eq_false_iff.mpr c3
    subst c3
    have H1 : (some false) = some r := by rw [if_neg (show ¬ (false = true) by decide)] at H; exact H
    clear H
    have H := H1
    clear H1
    obtain rfl := Option.some.inj H
    go_enter Try.func4, Try.ntmps4
    go_wp2_with (first | ((with_reducible refine gate_callee (f := 17) rfl ?_); refine goesL_ (some 10) rfl rfl Try.func17 (by kernel_rfl) rfl #[] rfl (by (try simp only [List.map_toArray, List.map_cons, List.map_nil]); first | done | rfl | (simp only [List.length_drop, List.length_take]; rfl)) ?_; (with_reducible refine (belvederelaw4_first.calls  false _ A2.out).mono ?_); rintro e w48 ⟨rfl, hb⟩; refine ⟨_, rfl, ?_⟩; have n0_ := Aside0.mk (below_step (by repeat (first | (with_reducible first | exact HB.out | apply below_alloc | apply pw_below_drewN | apply below_drew1) | exact HB.out)) hb); clear HB; have HB := n0_; clear n0_; (try clear hb); (try clear hb2); (try clear hk); (try clear hi)))
    go_ret
    exact ⟨by first | rfl | (simp [errW_none, errW_some] <;> rfl) | (simp [*, errW_none, errW_some] <;> rfl), by repeat (first | (with_reducible first | exact HB.out | apply below_alloc | apply pw_below_drewN | apply below_drew1) | exact HB.out)⟩
/-- THE ONE PURE STATEMENT of belvederelaw4_SliceOwn: yours. -/
def belvederelaw4_SliceOwn.Pure : Prop := ∀ (l0 : List Int), l0.length ≤ maxLen → l0.length * 8 ≤ 140737488351232 → (∀ x ∈ l0, (Lit.int .i64 x).wf = true) → ∃ k, belvederelaw4_SliceOwn.f k l0 = some true
theorem belvederelaw4_SliceOwn.walk (P : belvederelaw4_SliceOwn.Pure) (a0 : Option Addr) (len0 cap0 : Nat) (z0 : List Int) (w : World) (w0 : (a0 = none ∧ len0 = 0 ∧ cap0 = 0 ∧ z0 = []) ∨ ∃ x, a0 = some x ∧ len0 ≤ cap0 ∧ cap0 ≤ maxLen ∧ z0.length = cap0 ∧ (∀ i, i < z0.length → w.cell? (x.add i) = some (.int .i64 (z0.getD i 0))) ∧ ∀ n ∈ z0, (Lit.int .i64 n).wf = true) (y0 : len0 * 8 ≤ 140737488351232) :
    Calls Try.prog 4 #[.slice a0 len0 cap0] w fun e w' => e = .returned (.bool true) ∧ Below w.heap.size w w' := by
  obtain ⟨l0, rfl, hr0, hm0, hw0, hc0⟩ := ReadsInt.ofRowC w0
  obtain ⟨k, h⟩ := P l0 hm0 y0 hw0
  refine (belvederelaw4_SliceOwn.calls k _ _ l0 true w (Kd.C_of_reads (d := (0 : Int)) (h1 := fun _ => rfl) hr0) hc0 h).mono ?_
  rintro e w' ⟨rfl, hd⟩
  exact ⟨rfl, hd⟩
def slice_Count.f (k : Nat) (l0 : List (S36)) (l1 : List (S41)) (a2 : Bool) : Option (Int) := (slice_upto.f k l0 l1 a2).bind fun t372 => (some (wrap64 ((l0.length : Int) - t372)))
set_option maxHeartbeats 8000000 in
set_option maxRecDepth 100000 in
theorem slice_Count.calls (k : Nat) (A0 : Option Addr) (c0 : Nat) (l0 : List (S36)) (A1 : Option Addr) (c1 : Nat) (l1 : List (S41)) (a2 : Bool) (r : Int) (w : World) (hr0 : Kd.C k36 w A0 l0.length l0) (hc0 : l0.length ≤ c0) (hr1 : Kd.C k41 w A1 l1.length l1) (hc1 : l1.length ≤ c1) (h : slice_Count.f k l0 l1 a2 = some r) :
    Calls Try.prog 22 #[.slice A0 l0.length c0, .slice A1 l1.length c1, .bool a2] w fun e w' => e = .returned (.int .i64 r) ∧ Below w.heap.size w w' := by
  have HR0 := Aside0.mk hr0
  have HC0 := Aside0.mk hc0
  clear hr0 hc0
  have HR1 := Aside0.mk hr1
  have HC1 := Aside0.mk hc1
  clear hr1 hc1
  have HB := Aside0.mk (Below.refl w.heap.size w)
  have H : ((slice_upto.f k l0 l1 a2).bind fun t372 => (some (wrap64 ((l0.length : Int) - t372)))) = some r := h
  clear h
  replace H := Option.bind_eq_some_iff.mp H
  obtain ⟨t372, A40, H⟩ := H
  replace H : (some (wrap64 ((l0.length : Int) - t372))) = some r := H
  have A4 := Aside0.mk A40
  clear A40
  obtain rfl := Option.some.inj H
  go_enter Try.func22, Try.ntmps22
  go_wp2_with (first | ((with_reducible refine gate_callee (f := 44) rfl ?_); refine goesL_ (some 12) rfl rfl Try.func44 (by kernel_rfl) rfl #[.slice A0 l0.length c0, .slice A1 l1.length c1, .bool a2] rfl (by (try simp only [List.map_toArray, List.map_cons, List.map_nil]); first | done | rfl | (simp only [List.length_drop, List.length_take]; rfl)) ?_; (with_reducible refine (slice_upto.calls k _ _ l0 _ _ l1 a2 t372 _ ?side1 ?side2 ?side3 ?side4 A4.out).mono ?_); (case side1 => repeat (first | exact HR0.out | (with_reducible refine Kd.C_alloc ?_ _) | (with_reducible refine Kd.C_drewN ?_ _) | (with_reducible refine Kd.C_drew ?_))); (case side2 => exact HC0.out); (case side3 => repeat (first | exact HR1.out | (with_reducible refine Kd.C_alloc ?_ _) | (with_reducible refine Kd.C_drewN ?_ _) | (with_reducible refine Kd.C_drew ?_))); (case side4 => exact HC1.out); rintro e w5 ⟨rfl, hb⟩; refine ⟨_, rfl, ?_⟩; have n0_ := Aside0.mk (below_step (by repeat (first | (with_reducible first | exact HB.out | apply below_alloc | apply pw_below_drewN | apply below_drew1) | exact HB.out)) hb); clear HB; have HB := n0_; clear n0_; (try clear hb); (try clear hb2); (try clear hk); (try clear hi)))
  go_ret
  exact ⟨by first | rfl | (simp [errW_none, errW_some] <;> rfl) | (simp [*, errW_none, errW_some] <;> rfl), by repeat (first | (with_reducible first | exact HB.out | apply below_alloc | apply pw_below_drewN | apply below_drew1) | exact HB.out)⟩
end Go.Proofs.Ythegdcodjhbonaa.PA
