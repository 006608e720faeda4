/- What the Go functions behind the law come to: for each a Lean function with the same answers and a proof that the call returns them; laid by a program of this session. -/
import Derived.Test.YthegdcodjhbonaaPAx0
import Derived.Test.YthegdcodjhbonaaPAx1
import Derived.Test.YthegdcodjhbonaaPAx5
import Derived.Test.YthegdcodjhbonaaPAx6
namespace Go.Proofs.Ythegdcodjhbonaa.PA
open Go.RowKit Go.Proofs.YthegdcodjhbonaaW.PrintWords Go.Proofs.YthegdcodjhbonaaW.PrintLast Go.Proofs.YthegdcodjhbonaaW.PrintMore
attribute [local go_sem] max2_int min2_int max_two min_two max_three min_three max_four min_four   -- for this text's walks alone
set_option linter.unusedVariables false
set_option linter.unusedSimpArgs false

/-! ### belvederelaw13_OnceSums: function 3 -/
def belvederelaw13_OnceSums.l0 : Nat → Bool → List (S36) → List (S36) → List (S36) → Int → List (S36) → Int → Option (Bool)
  | 0, _, _, _, _, _, _, _ => none
  | k + 1, x3, x5, x6, x7, x8, x9, x10 => if x10 < (x9.length : Int) then (if 0 ≤ x10 then ((belvedereref1_Get.f k x5 ((rd_T36 x9 x10).f0)).bind fun t278 => ((belvedereref1_Get.f k x6 ((rd_T36 x9 x10).f0)).bind fun t280 => (if (wrap64 (t278 + t280)) < 1 then (some false) else (if ((rd_T36 x9 x10).f1) = 1 then (belvederelaw13_OnceSums.l0 k x3 x5 x6 x7 x8 x9 (wrap64 (x10 + 1))) else (some false))))) else (none)) else (if x3 = true then (if x8 = 0 then (if (x9.length : Int) = (x7.length : Int) then (if (x9.length : Int) ≥ (x5.length : Int) then (some (decide ((x9.length : Int) ≥ (x6.length : Int)))) else (some false)) else (some false)) else (some false)) else (some false))
def belvederelaw13_OnceSums.f (k : Nat) (l0 : List Int) : Option (Bool) := (belvederelaw13_first.f).bind fun t246 => (if t246 = true then (if (l0.length : Int) > 150 then (some t246) else ((newS26.f l0 0).bind fun bt247 => ((belvederemake_Set.f k bt247.1 bt247.2 (([1, 3] : List Int)) 10).bind fun bt253 => ((once_Once.f k bt253.1).bind fun t257 => ((belvederemake_Set.f k bt247.1 bt253.2 (([1, 3] : List Int)) 10).bind fun bt263 => ((once_Once.f k bt263.1).bind fun t267 => ((belvedereref1_Add.f k t257 t267).bind fun bt270 => ((once_Once.f k bt270.1).bind fun t274 => (belvederelaw13_OnceSums.l0 k t246 t257 t267 bt270.1 bt270.2 t274 0))))))))) else (some false))
theorem belvederelaw13_OnceSums.mono_l : ∀ k, (∀ y0 y1 y2 y3 y4 y5 y6, LeO (belvederelaw13_OnceSums.l0 k y0 y1 y2 y3 y4 y5 y6) (belvederelaw13_OnceSums.l0 (k + 1) y0 y1 y2 y3 y4 y5 y6))
  | 0 => fun _ _ _ _ _ _ _ r h => by simp [belvederelaw13_OnceSums.l0] at h
  | k + 1 => by
    have ih0 := belvederelaw13_OnceSums.mono_l k
    · intro y0 y1 y2 y3 y4 y5 y6
      unfold belvederelaw13_OnceSums.l0
      repeat' first
      | (with_reducible exact ih0 _ _ _ _ _ _ _)
      | (with_reducible exact belvederemake_Set.mono _ _ _ _ _)
      | (with_reducible exact belvedereref1_Add.mono _ _ _)
      | (with_reducible exact belvedereref1_Get.mono _ _ _)
      | (with_reducible exact once_Once.mono _ _)
      | (with_reducible exact LeO.refl _)
      | (with_reducible exact LeO.none _)
      | (with_reducible refine LeO.ite ?_ ?_)
      | (with_reducible refine LeO.bind ?_ (fun _ => ?_))
      | exact ih0 _ _ _ _ _ _ _
      | exact belvederemake_Set.mono _ _ _ _ _
      | exact belvedereref1_Add.mono _ _ _
      | exact belvedereref1_Get.mono _ _ _
      | exact once_Once.mono _ _
      | exact LeO.none _
      | refine LeO.ite ?_ ?_
      | refine LeO.bind ?_ (fun _ => ?_)
theorem belvederelaw13_OnceSums.mono : ∀ a0 k, LeO (belvederelaw13_OnceSums.f k a0) (belvederelaw13_OnceSums.f (k + 1) a0) := by
  intro a0 k
  have ih0 := belvederelaw13_OnceSums.mono_l k
  unfold belvederelaw13_OnceSums.f
  repeat' first
      | (with_reducible exact ih0 _ _ _ _ _ _ _)
      | (with_reducible exact belvederemake_Set.mono _ _ _ _ _)
      | (with_reducible exact belvedereref1_Add.mono _ _ _)
      | (with_reducible exact belvedereref1_Get.mono _ _ _)
      | (with_reducible exact once_Once.mono _ _)
      | (with_reducible exact LeO.refl _)
      | (with_reducible exact LeO.none _)
      | (with_reducible refine LeO.ite ?_ ?_)
      | (with_reducible refine LeO.bind ?_ (fun _ => ?_))
      | exact ih0 _ _ _ _ _ _ _
      | exact belvederemake_Set.mono _ _ _ _ _
      | exact belvedereref1_Add.mono _ _ _
      | exact belvedereref1_Get.mono _ _ _
      | exact once_Once.mono _ _
      | exact LeO.none _
      | refine LeO.ite ?_ ?_
      | refine LeO.bind ?_ (fun _ => ?_)
def belvederelaw13_OnceSums.T14 : Bool × List (List Nat × List Nat) := (true, [([], []), ([], []), ([], []), ([1, 2], [1, 2]), ([3], [3]), ([4], [4]), ([0, 5], [0, 5]), ([], []), ([], []), ([], []), ([8, 9], [8, 9]), ([10], [10]), ([11], [11]), ([7, 12, 6], [7, 12]), ([6, 13], [6, 13]), ([14], [14]), ([15, 13], [15]), ([16], [16]), ([16], [16]), ([17, 18, 16], [16, 17, 18]), ([19, 16], [16, 19]), ([20, 16], [16, 20]), ([21, 16], [16, 21]), ([16, 22], [16, 22])])
def belvederelaw13_OnceSums.B14 : List Nat := [0, 0, 0, 6, 14, 30, 63, 0, 0, 0, 768, 1792, 3840, 8191, 16383, 32767, 65535, 131071, 131071, 524287, 1048575, 2097151, 4194303, 8388607]
theorem belvederelaw13_OnceSums.tab14 : rtab .any (opsOf Try.f3 14) = belvederelaw13_OnceSums.T14 := by kernel_rfl
theorem belvederelaw13_OnceSums.bits14 : waitsOk belvederelaw13_OnceSums.T14.2 belvederelaw13_OnceSums.B14 = true := by kernel_rfl
set_option maxHeartbeats 8000000 in
set_option maxRecDepth 100000 in
theorem belvederelaw13_OnceSums.calls (k : Nat) (A0 : Option Addr) (c0 : Nat) (l0 : List Int) (r : Bool) (w : World) (hr0 : Kd.C (Kd.int .i64) w A0 l0.length l0) (hc0 : l0.length ≤ c0) (h : belvederelaw13_OnceSums.f k l0 = some r) :
    Calls Try.prog 3 #[.slice A0 l0.length c0] w fun e w' => e = .returned (.bool r) ∧ Below w.heap.size w w' := by
  have hu26 := Try.underlying26
  have HR0 := Aside0.mk hr0
  have HC0 := Aside0.mk hc0
  clear hr0 hc0
  have HB := Aside0.mk (Below.refl w.heap.size w)
  have H : ((belvederelaw13_first.f).bind fun t246 => (if t246 = true then (if (l0.length : Int) > 150 then (some t246) else ((newS26.f l0 0).bind fun bt247 => ((belvederemake_Set.f k bt247.1 bt247.2 (([1, 3] : List Int)) 10).bind fun bt253 => ((once_Once.f k bt253.1).bind fun t257 => ((belvederemake_Set.f k bt247.1 bt253.2 (([1, 3] : List Int)) 10).bind fun bt263 => ((once_Once.f k bt263.1).bind fun t267 => ((belvedereref1_Add.f k t257 t267).bind fun bt270 => ((once_Once.f k bt270.1).bind fun t274 => (belvederelaw13_OnceSums.l0 k t246 t257 t267 bt270.1 bt270.2 t274 0))))))))) else (some false))) = some r := h
  clear h
  replace H := Option.bind_eq_some_iff.mp H
  obtain ⟨t246, A20, H⟩ := H
  replace H : (if t246 = true then (if (l0.length : Int) > 150 then (some t246) else ((newS26.f l0 0).bind fun bt247 => ((belvederemake_Set.f k bt247.1 bt247.2 (([1, 3] : List Int)) 10).bind fun bt253 => ((once_Once.f k bt253.1).bind fun t257 => ((belvederemake_Set.f k bt247.1 bt253.2 (([1, 3] : List Int)) 10).bind fun bt263 => ((once_Once.f k bt263.1).bind fun t267 => ((belvedereref1_Add.f k t257 t267).bind fun bt270 => ((once_Once.f k bt270.1).bind fun t274 => (belvederelaw13_OnceSums.l0 k t246 t257 t267 bt270.1 bt270.2 t274 0))))))))) else (some false)) = some r := H
  have A2 := Aside0.mk A20
  clear A20
  by_cases c3 : t246 = true
  · subst c3
    have H1 : (if (l0.length : Int) > 150 then (some true) else ((newS26.f l0 0).bind fun bt247 => ((belvederemake_Set.f k bt247.1 bt247.2 (([1, 3] : List Int)) 10).bind fun bt253 => ((once_Once.f k bt253.1).bind fun t257 => ((belvederemake_Set.f k bt247.1 bt253.2 (([1, 3] : List Int)) 10).bind fun bt263 => ((once_Once.f k bt263.1).bind fun t267 => ((belvedereref1_Add.f k t257 t267).bind fun bt270 => ((once_Once.f k bt270.1).bind fun t274 => (belvederelaw13_OnceSums.l0 k true t257 t267 bt270.1 bt270.2 t274 0))))))))) = some r := by rw [if_pos rfl] at H; exact H
    clear H
    have H := H1
    clear H1
    by_cases c4 : (l0.length : Int) > 150
    · rw [if_pos c4] at H
      have c4b0 : decide (150 < (l0.length : Int)) = true := decide_eq_true c4
      have c4b1 : decide (150 < l0.length) = true := decide_eq_true (by omega)
      clear c4
      obtain rfl := Option.some.inj H
      go_enter Try.func3, Try.ntmps3
      go_wp2_with (first | ((with_reducible refine gate_callee (f := 12) rfl ?_); refine goesL_ (some 11) rfl rfl Try.func12 (by kernel_rfl) rfl #[] rfl (by (try simp only [List.map_toArray, List.map_cons, List.map_nil]); first | done | rfl | (simp only [List.length_drop, List.length_take]; rfl)) ?_; (with_reducible refine (belvederelaw13_first.calls  true _ A2.out).mono ?_); rintro e w5 ⟨rfl, hb⟩; refine ⟨_, rfl, ?_⟩; have n0_ := Aside0.mk (below_step (by repeat (first | (with_reducible first | exact HB.out | apply below_alloc | apply pw_below_drewN | apply below_drew1) | exact HB.out)) hb); clear HB; have HB := n0_; clear n0_; (try clear hb); (try clear hb2); (try clear hk); (try clear hi)))
      go_ret
      exact ⟨by first | rfl | (simp [errW_none, errW_some] <;> rfl) | (simp [*, errW_none, errW_some] <;> rfl), by repeat (first | (with_reducible first | exact HB.out | apply below_alloc | apply pw_below_drewN | apply below_drew1) | exact HB.out)⟩
    · rw [if_neg c4] at H
      have c4b0 : decide (150 < (l0.length : Int)) = false := decide_eq_false c4
      have c4b1 : decide (150 < l0.length) = false := decide_eq_false (by omega)
      clear c4
      replace H := Option.bind_eq_some_iff.mp H
      obtain ⟨⟨t247, t248⟩, A60, H⟩ := H
      replace H : ((belvederemake_Set.f k t247 t248 (([1, 3] : List Int)) 10).bind fun bt253 => ((once_Once.f k bt253.1).bind fun t257 => ((belvederemake_Set.f k t247 bt253.2 (([1, 3] : List Int)) 10).bind fun bt263 => ((once_Once.f k bt263.1).bind fun t267 => ((belvedereref1_Add.f k t257 t267).bind fun bt270 => ((once_Once.f k bt270.1).bind fun t274 => (belvederelaw13_OnceSums.l0 k true t257 t267 bt270.1 bt270.2 t274 0))))))) = some r := H
      have A6 := Aside0.mk A60
      clear A60
      obtain ⟨y250, hy250⟩ : ∃ y_ : List Int, y_ = (([1, 3] : List Int)) := ⟨_, rfl⟩
      replace H : ((belvederemake_Set.f k t247 t248 y250 10).bind fun bt253 => ((once_Once.f k bt253.1).bind fun t257 => ((belvederemake_Set.f k t247 bt253.2 (([1, 3] : List Int)) 10).bind fun bt263 => ((once_Once.f k bt263.1).bind fun t267 => ((belvedereref1_Add.f k t257 t267).bind fun bt270 => ((once_Once.f k bt270.1).bind fun t274 => (belvederelaw13_OnceSums.l0 k true t257 t267 bt270.1 bt270.2 t274 0))))))) = some r := by first | (rw [hy250]; with_reducible exact H) | (have H2_ := (Option.bind_some _ _).symm.trans H; rw [hy250]; with_reducible exact H2_) | (have H2_ := (Option.bind_some _ _).symm.trans H; with_reducible exact H2_) | with_reducible exact H | (rw [hy250]; exact H) | exact H
      have Ny250 := Aside0.mk hy250
      clear hy250
      replace H := Option.bind_eq_some_iff.mp H
      obtain ⟨⟨t253, t256⟩, A70, H⟩ := H
      replace H : ((once_Once.f k t253).bind fun t257 => ((belvederemake_Set.f k t247 t256 (([1, 3] : List Int)) 10).bind fun bt263 => ((once_Once.f k bt263.1).bind fun t267 => ((belvedereref1_Add.f k t257 t267).bind fun bt270 => ((once_Once.f k bt270.1).bind fun t274 => (belvederelaw13_OnceSums.l0 k true t257 t267 bt270.1 bt270.2 t274 0)))))) = some r := H
      have A7 := Aside0.mk A70
      clear A70
      replace H := Option.bind_eq_some_iff.mp H
      obtain ⟨t257, A80, H⟩ := H
      replace H : ((belvederemake_Set.f k t247 t256 (([1, 3] : List Int)) 10).bind fun bt263 => ((once_Once.f k bt263.1).bind fun t267 => ((belvedereref1_Add.f k t257 t267).bind fun bt270 => ((once_Once.f k bt270.1).bind fun t274 => (belvederelaw13_OnceSums.l0 k true t257 t267 bt270.1 bt270.2 t274 0))))) = some r := H
      have A8 := Aside0.mk A80
      clear A80
      obtain ⟨y260, hy260⟩ : ∃ y_ : List Int, y_ = (([1, 3] : List Int)) := ⟨_, rfl⟩
      replace H : ((belvederemake_Set.f k t247 t256 y260 10).bind fun bt263 => ((once_Once.f k bt263.1).bind fun t267 => ((belvedereref1_Add.f k t257 t267).bind fun bt270 => ((once_Once.f k bt270.1).bind fun t274 => (belvederelaw13_OnceSums.l0 k true t257 t267 bt270.1 bt270.2 t274 0))))) = some r := by first | (rw [hy260]; with_reducible exact H) | (have H2_ := (Option.bind_some _ _).symm.trans H; rw [hy260]; with_reducible exact H2_) | (have H2_ := (Option.bind_some _ _).symm.trans H; with_reducible exact H2_) | with_reducible exact H | (rw [hy260]; exact H) | exact H
      have Ny260 := Aside0.mk hy260
      clear hy260
      replace H := Option.bind_eq_some_iff.mp H
      obtain ⟨⟨t263, t266⟩, A90, H⟩ := H
      replace H : ((once_Once.f k t263).bind fun t267 => ((belvedereref1_Add.f k t257 t267).bind fun bt270 => ((once_Once.f k bt270.1).bind fun t274 => (belvederelaw13_OnceSums.l0 k true t257 t267 bt270.1 bt270.2 t274 0)))) = some r := H
      have A9 := Aside0.mk A90
      clear A90
      replace H := Option.bind_eq_some_iff.mp H
      obtain ⟨t267, A100, H⟩ := H
      replace H : ((belvedereref1_Add.f k t257 t267).bind fun bt270 => ((once_Once.f k bt270.1).bind fun t274 => (belvederelaw13_OnceSums.l0 k true t257 t267 bt270.1 bt270.2 t274 0))) = some r := H
      have A10 := Aside0.mk A100
      clear A100
      replace H := Option.bind_eq_some_iff.mp H
      obtain ⟨⟨t270, t273⟩, A110, H⟩ := H
      replace H : ((once_Once.f k t270).bind fun t274 => (belvederelaw13_OnceSums.l0 k true t257 t267 t270 t273 t274 0)) = some r := H
      have A11 := Aside0.mk A110
      clear A110
      replace H := Option.bind_eq_some_iff.mp H
      obtain ⟨t274, A120, H⟩ := H
      replace H : (belvederelaw13_OnceSums.l0 k true t257 t267 t270 t273 t274 0) = some r := H
      have A12 := Aside0.mk A120
      clear A120
      have H' := Aside0.mk H
      clear H
      go_enter Try.func3, Try.ntmps3
      go_wp2_with (first | ((with_reducible refine gate_callee (f := 12) rfl ?_); refine goesL_ (some 11) rfl rfl Try.func12 (by kernel_rfl) rfl #[] rfl (by (try simp only [List.map_toArray, List.map_cons, List.map_nil]); first | done | rfl | (simp only [List.length_drop, List.length_take]; rfl)) ?_; (with_reducible refine (belvederelaw13_first.calls  true _ A2.out).mono ?_); rintro e w13 ⟨rfl, hb⟩; refine ⟨_, rfl, ?_⟩; have n0_ := Aside0.mk (below_step (by repeat (first | (with_reducible first | exact HB.out | apply below_alloc | apply pw_below_drewN | apply below_drew1) | exact HB.out)) hb); clear HB; have HB := n0_; clear n0_; (try clear hb); (try clear hb2); (try clear hk); (try clear hi)) | ((with_reducible refine gate_dst (N := 20) rfl ?_); (try (refine gate_guard (by rfl) ?_; dsimp only)); refine boxC_ ?hg (N := 20) ?hd (cs := #[.slice A0 l0.length c0, .int .i64 0]) (t := 26) ?hr ?_; (case hd => rfl); (case hg => rfl); (case hr => first | (go_simp; done) | (go_simp; rfl)); (with_reducible refine (newS26.calls _ _ l0 0 t247 t248 w _ ?side1 ?side2 ?side3 A6.out).mono ?_); (case side1 => repeat (first | (with_reducible first | exact HB.out | apply below_alloc | apply pw_below_drewN | apply below_drew1) | exact HB.out)); (case side2 => exact HR0.out); (case side3 => exact HC0.out); rintro e w14 ⟨g249, rfl, hi, hb, hb2⟩; refine ⟨_, rfl, ?_⟩; have n0_ := Aside0.mk (hb); have n1_ := Aside0.mk (hi); clear HB; have HB := n0_; have HI249 := n1_; clear n0_ n1_; (try clear hb); (try clear hb2); (try clear hk); (try clear hi)) | ((with_reducible refine gate_dst (N := 22) rfl ?_); (try (refine gate_guard (by rfl) ?_; dsimp only)); refine Kd.R_lit (Kd.int .i64) _ 3 ?hg (N := 22) ?hd (xs := ([1, 3] : List Int)) (inner := [.int .i64 1, .int .i64 3]) (ok := fun _ => True) (okp := fun _ => True) ?hr ?hp (fun _ hk => hk) trivial (Below.refl _ _) (Nat.le_refl _) (by simp) ?_; (case hd => rfl); (case hg => rfl); (case hr => first | (go_simp; done) | (go_simp; rfl)); (case hp => exact (Reps.one (show Kd.M (Kd.int .i64) _ _ _ 1 [.int .i64 1] from rfl) (Reps.one (show Kd.M (Kd.int .i64) _ _ _ 3 [.int .i64 3] from rfl) (Reps.none _ _)))); intro v251 w15 ho16 hb hg_ hnew_; clear hg_ hnew_; (first | rw [← Ny250.out] at ho16 | (simp only [Int.reduceToNat] at ho16; rw [← Ny250.out] at ho16)); have n0_ := Aside0.mk (Kd.R_lower ho16 (below_size (by repeat (first | (with_reducible first | exact HB.out | apply below_alloc | apply pw_below_drewN | apply below_drew1 | refine below_set ?_ (IsS26.ge HI249.out)) | exact HB.out)))); have n1_ := Aside0.mk (IsS26.below (by repeat (first | (with_reducible first | exact HI249.out | apply IsS26.alloc | apply IsS26.drewN | apply IsS26.drew | apply IsS26.set_1) | exact HI249.out)) hb); have n2_ := Aside0.mk (below_step (by repeat (first | (with_reducible first | exact HB.out | apply below_alloc | apply pw_below_drewN | apply below_drew1 | refine below_set ?_ (IsS26.ge HI249.out)) | exact HB.out)) hb); clear HI249; clear HB; have HO252 := n0_; have HI249 := n1_; have HB := n2_; clear n0_ n1_ n2_; clear hb ho16; obtain ⟨Ao17, co17, eo17⟩ := Kd.R_slice HO252.out; subst eo17) | ((with_reducible refine gate_callee (f := 14) rfl ?_); refine goesL_ (some 23) rfl rfl Try.func14 (by kernel_rfl) rfl #[.pointer (some ⟨g249, 0, none⟩), .slice Ao17 y250.length co17, .int .i64 10] rfl (by (try simp only [List.map_toArray, List.map_cons, List.map_nil]); first | done | rfl | (simp only [List.length_drop, List.length_take]; rfl)) ?_; (with_reducible refine (belvederemake_Set.calls k g249 t247 t248 _ _ y250 10 t253 t256 w _ ?side1 ?side2 ?side3 ?side4 ?side5 A7.out).mono ?_); (case side1 => repeat (first | (with_reducible first | exact HI249.out | apply IsS26.alloc | apply IsS26.drewN | apply IsS26.drew | apply IsS26.set_1) | exact HI249.out)); (case side2 => repeat (first | (with_reducible first | exact HB.out | apply below_alloc | apply pw_below_drewN | apply below_drew1 | refine below_set ?_ (IsS26.ge HI249.out)) | exact HB.out)); (case side3 => repeat (first | exact (Kd.R_reads' HO252.out).2.2 | (with_reducible refine Kd.C_alloc ?_ _) | (with_reducible refine Kd.C_drewN ?_ _) | (with_reducible refine Kd.C_drew ?_))); (case side4 => exact (Kd.R_reads' HO252.out).2.1); (case side5 => exact far_slice (IsS26.own_ne HI249.out HO252.out (by decide))); rintro e w18 ⟨v254, rfl, ho0, hi, hb, hk⟩; refine ⟨_, rfl, ?_⟩; have n0_ := Aside0.mk (Kd.R_mono (Kd.R_keep (IsS26.apart (show IsS26 w _ g249 t247 t248 from by repeat (first | (with_reducible first | exact HI249.out | apply IsS26.alloc | apply IsS26.drewN | apply IsS26.drew | apply IsS26.set_1) | exact HI249.out)) (by (with_reducible repeat (first | apply Kd.R_alloc | apply Kd.R_drewN | apply Kd.R_drew)); exact HO252.out) (by decide)) hk (fun _ h => h.2)) (fun _ h => h.1)); have n1_ := Aside0.mk (Kd.N_lower (Kd.N_mono (ok' := fun k_ => some k_ ≠ (.slice Ao17 y250.length co17 : Value).ownBlock ∧ k_ ≠ g249) ho0 (fun k_ hk_ => ⟨(Kd.fresh' (Kd.R_lt (by (with_reducible repeat (first | apply Kd.R_alloc | apply Kd.R_drewN | apply Kd.R_drew)); exact HO252.out)) k_ hk_), (IsS26.fresh (by repeat (first | (with_reducible first | exact HI249.out | apply IsS26.alloc | apply IsS26.drewN | apply IsS26.drew | apply IsS26.set_1) | exact HI249.out)) k_ hk_)⟩)) (below_size (by repeat (first | (with_reducible first | exact HB.out | apply below_alloc | apply pw_below_drewN | apply below_drew1 | refine below_set ?_ (IsS26.ge HI249.out)) | exact HB.out)))); have n2_ := Aside0.mk (hb); have n3_ := Aside0.mk (hi); clear HO252; clear HB; clear HI249; have HO252 := n0_; have HO255 := n1_; have HB := n2_; have HI249 := n3_; clear n0_ n1_ n2_ n3_; (try clear hb); (try clear hb2); (try clear hk); (try clear hi); (try clear ho0); obtain ⟨Ao19, co19, eo19⟩ := Kd.N_slice HO255.out; subst eo19) | ((with_reducible refine gate_callee (f := 13) rfl ?_); refine goesL_ (some 24) rfl rfl Try.func13 (by kernel_rfl) rfl #[.slice Ao19 t253.length co19] rfl (by (try simp only [List.map_toArray, List.map_cons, List.map_nil]); first | done | rfl | (simp only [List.length_drop, List.length_take]; rfl)) ?_; (with_reducible refine (once_Once.calls k _ _ t253 t257 _ ?side1 ?side2 A8.out).mono ?_); (case side1 => repeat (first | exact (Kd.N_reads' HO255.out).2.2 | (with_reducible refine Kd.C_alloc ?_ _) | (with_reducible refine Kd.C_drewN ?_ _) | (with_reducible refine Kd.C_drew ?_))); (case side2 => exact (Kd.N_reads' HO255.out).2.1); rintro e w20 ⟨v258, rfl, ho0, hb⟩; refine ⟨_, rfl, ?_⟩; have n0_ := Aside0.mk (Kd.R_below (by (with_reducible repeat (first | apply Kd.R_alloc | apply Kd.R_drewN | apply Kd.R_drew)); exact HO252.out) hb); have n1_ := Aside0.mk (Kd.N_elder' (by (with_reducible repeat (first | apply Kd.N_alloc | apply Kd.N_drewN | apply Kd.N_drew)); exact HO255.out) (by first | exact Kd.N_base ho0 | exact Kd.S_base ho0 | exact Kd.R_base ho0) hb); have n2_ := Aside0.mk (Kd.N_lower (Kd.N_mono (ok' := fun k_ => some k_ ≠ (.slice Ao17 y250.length co17 : Value).ownBlock ∧ some k_ ≠ (.slice Ao19 t253.length co19 : Value).ownBlock ∧ k_ ≠ g249) (Kd.S_N (Kd.S_bound ho0)) (fun k_ hk_ => ⟨(Kd.fresh' (Kd.R_lt (by (with_reducible repeat (first | apply Kd.R_alloc | apply Kd.R_drewN | apply Kd.R_drew)); exact HO252.out)) k_ hk_.2.1), (Kd.fresh' (Kd.N_lt (by (with_reducible repeat (first | apply Kd.N_alloc | apply Kd.N_drewN | apply Kd.N_drew)); exact HO255.out)) k_ hk_.2.1), (IsS26.fresh (by repeat (first | (with_reducible first | exact HI249.out | apply IsS26.alloc | apply IsS26.drewN | apply IsS26.drew | apply IsS26.set_1) | exact HI249.out)) k_ hk_.2.1)⟩)) (below_size (by repeat (first | (with_reducible first | exact HB.out | apply below_alloc | apply pw_below_drewN | apply below_drew1 | refine below_set ?_ (IsS26.ge HI249.out)) | exact HB.out)))); have n3_ := Aside0.mk (IsS26.below (by repeat (first | (with_reducible first | exact HI249.out | apply IsS26.alloc | apply IsS26.drewN | apply IsS26.drew | apply IsS26.set_1) | exact HI249.out)) hb); have n4_ := Aside0.mk (below_step (by repeat (first | (with_reducible first | exact HB.out | apply below_alloc | apply pw_below_drewN | apply below_drew1 | refine below_set ?_ (IsS26.ge HI249.out)) | exact HB.out)) hb); clear HO252; clear HO255; clear HI249; clear HB; have HO252 := n0_; have HO255 := n1_; have HO259 := n2_; have HI249 := n3_; have HB := n4_; clear n0_ n1_ n2_ n3_ n4_; (try clear hb); (try clear hb2); (try clear hk); (try clear hi); (try clear ho0)) | ((with_reducible refine gate_dst (N := 26) rfl ?_); (try (refine gate_guard (by rfl) ?_; dsimp only)); refine Kd.R_lit (Kd.int .i64) _ 3 ?hg (N := 26) ?hd (xs := ([1, 3] : List Int)) (inner := [.int .i64 1, .int .i64 3]) (ok := fun _ => True) (okp := fun _ => True) ?hr ?hp (fun _ hk => hk) trivial (Below.refl _ _) (Nat.le_refl _) (by simp) ?_; (case hd => rfl); (case hg => rfl); (case hr => first | (go_simp; done) | (go_simp; rfl)); (case hp => exact (Reps.one (show Kd.M (Kd.int .i64) _ _ _ 1 [.int .i64 1] from rfl) (Reps.one (show Kd.M (Kd.int .i64) _ _ _ 3 [.int .i64 3] from rfl) (Reps.none _ _)))); intro v261 w21 ho22 hb hg_ hnew_; clear hg_ hnew_; (first | rw [← Ny260.out] at ho22 | (simp only [Int.reduceToNat] at ho22; rw [← Ny260.out] at ho22)); have n0_ := Aside0.mk (Kd.R_elder' (by (with_reducible repeat (first | apply Kd.R_alloc | apply Kd.R_drewN | apply Kd.R_drew)); exact HO252.out) (Kd.R_base ho22) hb); have n1_ := Aside0.mk (Kd.N_elder' (by (with_reducible repeat (first | apply Kd.N_alloc | apply Kd.N_drewN | apply Kd.N_drew)); exact HO255.out) (Kd.R_base ho22) hb); have n2_ := Aside0.mk (Kd.N_elder' (by (with_reducible repeat (first | apply Kd.N_alloc | apply Kd.N_drewN | apply Kd.N_drew)); exact HO259.out) (Kd.R_base ho22) hb); have n3_ := Aside0.mk (Kd.R_lower (Kd.R_new' ho22 (Kd.R_lt (by (with_reducible repeat (first | apply Kd.R_alloc | apply Kd.R_drewN | apply Kd.R_drew)); exact HO252.out))) (below_size (by repeat (first | (with_reducible first | exact HB.out | apply below_alloc | apply pw_below_drewN | apply below_drew1 | refine below_set ?_ (IsS26.ge HI249.out)) | exact HB.out)))); have n4_ := Aside0.mk (IsS26.below (by repeat (first | (with_reducible first | exact HI249.out | apply IsS26.alloc | apply IsS26.drewN | apply IsS26.drew | apply IsS26.set_1) | exact HI249.out)) hb); have n5_ := Aside0.mk (below_step (by repeat (first | (with_reducible first | exact HB.out | apply below_alloc | apply pw_below_drewN | apply below_drew1 | refine below_set ?_ (IsS26.ge HI249.out)) | exact HB.out)) hb); clear HO252; clear HO255; clear HO259; clear HI249; clear HB; have HO252 := n0_; have HO255 := n1_; have HO259 := n2_; have HO262 := n3_; have HI249 := n4_; have HB := n5_; clear n0_ n1_ n2_ n3_ n4_ n5_; clear hb ho22; obtain ⟨Ao23, co23, eo23⟩ := Kd.R_slice HO262.out; subst eo23) | ((with_reducible refine gate_callee (f := 14) rfl ?_); refine goesL_ (some 27) rfl rfl Try.func14 (by kernel_rfl) rfl #[.pointer (some ⟨g249, 0, none⟩), .slice Ao23 y260.length co23, .int .i64 10] rfl (by (try simp only [List.map_toArray, List.map_cons, List.map_nil]); first | done | rfl | (simp only [List.length_drop, List.length_take]; rfl)) ?_; (with_reducible refine (belvederemake_Set.calls k g249 t247 t256 _ _ y260 10 t263 t266 w _ ?side1 ?side2 ?side3 ?side4 ?side5 A9.out).mono ?_); (case side1 => repeat (first | (with_reducible first | exact HI249.out | apply IsS26.alloc | apply IsS26.drewN | apply IsS26.drew | apply IsS26.set_1) | exact HI249.out)); (case side2 => repeat (first | (with_reducible first | exact HB.out | apply below_alloc | apply pw_below_drewN | apply below_drew1 | refine below_set ?_ (IsS26.ge HI249.out)) | exact HB.out)); (case side3 => repeat (first | exact (Kd.R_reads' HO262.out).2.2 | (with_reducible refine Kd.C_alloc ?_ _) | (with_reducible refine Kd.C_drewN ?_ _) | (with_reducible refine Kd.C_drew ?_))); (case side4 => exact (Kd.R_reads' HO262.out).2.1); (case side5 => exact far_slice (IsS26.own_ne HI249.out HO262.out (by decide))); rintro e w24 ⟨v264, rfl, ho0, hi, hb, hk⟩; refine ⟨_, rfl, ?_⟩; have n0_ := Aside0.mk (Kd.R_mono (Kd.R_keep (IsS26.apart (show IsS26 w _ g249 t247 t256 from by repeat (first | (with_reducible first | exact HI249.out | apply IsS26.alloc | apply IsS26.drewN | apply IsS26.drew | apply IsS26.set_1) | exact HI249.out)) (by (with_reducible repeat (first | apply Kd.R_alloc | apply Kd.R_drewN | apply Kd.R_drew)); exact HO252.out) (by decide)) hk (fun _ h => h.2)) (fun _ h => h.1)); have n1_ := Aside0.mk (Kd.N_mono (Kd.N_told (Kd.N_oldK (Kd.N_mono (ok := fun k_ => (((some k_ ≠ (.slice Ao17 y250.length co17 : Value).ownBlock ∧ k_ ≠ g249) ∧ some k_ ≠ (v258 : Value).ownBlock) ∧ some k_ ≠ (.slice Ao23 y260.length co23 : Value).ownBlock)) (by (with_reducible repeat (first | apply Kd.N_alloc | apply Kd.N_drewN | apply Kd.N_drew)); exact HO255.out) (fun k_ hk_ => (⟨hk_, hk_.1.1.2⟩ : _ ∧ k_ ≠ g249))) hk) (by first | exact Kd.N_base ho0 | exact Kd.S_base ho0 | exact Kd.R_base ho0)) (fun _ h_ => h_.1)); have n2_ := Aside0.mk (Kd.N_mono (Kd.N_told (Kd.N_oldK (Kd.N_mono (ok := fun k_ => ((some k_ ≠ (.slice Ao17 y250.length co17 : Value).ownBlock ∧ (some k_ ≠ (.slice Ao19 t253.length co19 : Value).ownBlock ∧ k_ ≠ g249)) ∧ some k_ ≠ (.slice Ao23 y260.length co23 : Value).ownBlock)) (by (with_reducible repeat (first | apply Kd.N_alloc | apply Kd.N_drewN | apply Kd.N_drew)); exact HO259.out) (fun k_ hk_ => (⟨hk_, hk_.1.2.2⟩ : _ ∧ k_ ≠ g249))) hk) (by first | exact Kd.N_base ho0 | exact Kd.S_base ho0 | exact Kd.R_base ho0)) (fun _ h_ => h_.1)); have n3_ := Aside0.mk (Kd.R_mono (Kd.R_keep (IsS26.apart (show IsS26 w _ g249 t247 t256 from by repeat (first | (with_reducible first | exact HI249.out | apply IsS26.alloc | apply IsS26.drewN | apply IsS26.drew | apply IsS26.set_1) | exact HI249.out)) (by (with_reducible repeat (first | apply Kd.R_alloc | apply Kd.R_drewN | apply Kd.R_drew)); exact HO262.out) (by decide)) hk (fun _ h => h.2)) (fun _ h => h.1)); have n4_ := Aside0.mk (Kd.N_lower (Kd.N_mono (ok' := fun k_ => some k_ ≠ (.slice Ao17 y250.length co17 : Value).ownBlock ∧ some k_ ≠ (.slice Ao19 t253.length co19 : Value).ownBlock ∧ some k_ ≠ (v258 : Value).ownBlock ∧ some k_ ≠ (.slice Ao23 y260.length co23 : Value).ownBlock ∧ k_ ≠ g249) ho0 (fun k_ hk_ => ⟨(Kd.fresh' (Kd.R_lt (by (with_reducible repeat (first | apply Kd.R_alloc | apply Kd.R_drewN | apply Kd.R_drew)); exact HO252.out)) k_ hk_), (Kd.fresh' (Kd.N_lt (by (with_reducible repeat (first | apply Kd.N_alloc | apply Kd.N_drewN | apply Kd.N_drew)); exact HO255.out)) k_ hk_), (Kd.fresh' (Kd.N_lt (by (with_reducible repeat (first | apply Kd.N_alloc | apply Kd.N_drewN | apply Kd.N_drew)); exact HO259.out)) k_ hk_), (Kd.fresh' (Kd.R_lt (by (with_reducible repeat (first | apply Kd.R_alloc | apply Kd.R_drewN | apply Kd.R_drew)); exact HO262.out)) k_ hk_), (IsS26.fresh (by repeat (first | (with_reducible first | exact HI249.out | apply IsS26.alloc | apply IsS26.drewN | apply IsS26.drew | apply IsS26.set_1) | exact HI249.out)) k_ hk_)⟩)) (below_size (by repeat (first | (with_reducible first | exact HB.out | apply below_alloc | apply pw_below_drewN | apply below_drew1 | refine below_set ?_ (IsS26.ge HI249.out)) | exact HB.out)))); have n5_ := Aside0.mk (hb); have n6_ := Aside0.mk (hi); clear HO252; clear HO255; clear HO259; clear HO262; clear HB; clear HI249; have HO252 := n0_; have HO255 := n1_; have HO259 := n2_; have HO262 := n3_; have HO265 := n4_; have HB := n5_; have HI249 := n6_; clear n0_ n1_ n2_ n3_ n4_ n5_ n6_; (try clear hb); (try clear hb2); (try clear hk); (try clear hi); (try clear ho0); obtain ⟨Ao25, co25, eo25⟩ := Kd.N_slice HO265.out; subst eo25) | ((with_reducible refine gate_callee (f := 13) rfl ?_); refine goesL_ (some 28) rfl rfl Try.func13 (by kernel_rfl) rfl #[.slice Ao25 t263.length co25] rfl (by (try simp only [List.map_toArray, List.map_cons, List.map_nil]); first | done | rfl | (simp only [List.length_drop, List.length_take]; rfl)) ?_; (with_reducible refine (once_Once.calls k _ _ t263 t267 _ ?side1 ?side2 A10.out).mono ?_); (case side1 => repeat (first | exact (Kd.N_reads' HO265.out).2.2 | (with_reducible refine Kd.C_alloc ?_ _) | (with_reducible refine Kd.C_drewN ?_ _) | (with_reducible refine Kd.C_drew ?_))); (case side2 => exact (Kd.N_reads' HO265.out).2.1); rintro e w26 ⟨v268, rfl, ho0, hb⟩; refine ⟨_, rfl, ?_⟩; have n0_ := Aside0.mk (Kd.R_below (by (with_reducible repeat (first | apply Kd.R_alloc | apply Kd.R_drewN | apply Kd.R_drew)); exact HO252.out) hb); have n1_ := Aside0.mk (Kd.N_elder' (by (with_reducible repeat (first | apply Kd.N_alloc | apply Kd.N_drewN | apply Kd.N_drew)); exact HO255.out) (by first | exact Kd.N_base ho0 | exact Kd.S_base ho0 | exact Kd.R_base ho0) hb); have n2_ := Aside0.mk (Kd.N_elder' (by (with_reducible repeat (first | apply Kd.N_alloc | apply Kd.N_drewN | apply Kd.N_drew)); exact HO259.out) (by first | exact Kd.N_base ho0 | exact Kd.S_base ho0 | exact Kd.R_base ho0) hb); have n3_ := Aside0.mk (Kd.R_below (by (with_reducible repeat (first | apply Kd.R_alloc | apply Kd.R_drewN | apply Kd.R_drew)); exact HO262.out) hb); have n4_ := Aside0.mk (Kd.N_elder' (by (with_reducible repeat (first | apply Kd.N_alloc | apply Kd.N_drewN | apply Kd.N_drew)); exact HO265.out) (by first | exact Kd.N_base ho0 | exact Kd.S_base ho0 | exact Kd.R_base ho0) hb); have n5_ := Aside0.mk (Kd.N_lower (Kd.N_mono (ok' := fun k_ => some k_ ≠ (.slice Ao17 y250.length co17 : Value).ownBlock ∧ some k_ ≠ (.slice Ao19 t253.length co19 : Value).ownBlock ∧ some k_ ≠ (v258 : Value).ownBlock ∧ some k_ ≠ (.slice Ao23 y260.length co23 : Value).ownBlock ∧ some k_ ≠ (.slice Ao25 t263.length co25 : Value).ownBlock ∧ k_ ≠ g249) (Kd.S_N (Kd.S_bound ho0)) (fun k_ hk_ => ⟨(Kd.fresh' (Kd.R_lt (by (with_reducible repeat (first | apply Kd.R_alloc | apply Kd.R_drewN | apply Kd.R_drew)); exact HO252.out)) k_ hk_.2.1), (Kd.fresh' (Kd.N_lt (by (with_reducible repeat (first | apply Kd.N_alloc | apply Kd.N_drewN | apply Kd.N_drew)); exact HO255.out)) k_ hk_.2.1), (Kd.fresh' (Kd.N_lt (by (with_reducible repeat (first | apply Kd.N_alloc | apply Kd.N_drewN | apply Kd.N_drew)); exact HO259.out)) k_ hk_.2.1), (Kd.fresh' (Kd.R_lt (by (with_reducible repeat (first | apply Kd.R_alloc | apply Kd.R_drewN | apply Kd.R_drew)); exact HO262.out)) k_ hk_.2.1), (Kd.fresh' (Kd.N_lt (by (with_reducible repeat (first | apply Kd.N_alloc | apply Kd.N_drewN | apply Kd.N_drew)); exact HO265.out)) k_ hk_.2.1), (IsS26.fresh (by repeat (first | (with_reducible first | exact HI249.out | apply IsS26.alloc | apply IsS26.drewN | apply IsS26.drew | apply IsS26.set_1) | exact HI249.out)) k_ hk_.2.1)⟩)) (below_size (by repeat (first | (with_reducible first | exact HB.out | apply below_alloc | apply pw_below_drewN | apply below_drew1 | refine below_set ?_ (IsS26.ge HI249.out)) | exact HB.out)))); have n6_ := Aside0.mk (IsS26.below (by repeat (first | (with_reducible first | exact HI249.out | apply IsS26.alloc | apply IsS26.drewN | apply IsS26.drew | apply IsS26.set_1) | exact HI249.out)) hb); have n7_ := Aside0.mk (below_step (by repeat (first | (with_reducible first | exact HB.out | apply below_alloc | apply pw_below_drewN | apply below_drew1 | refine below_set ?_ (IsS26.ge HI249.out)) | exact HB.out)) hb); clear HO252; clear HO255; clear HO259; clear HO262; clear HO265; clear HI249; clear HB; have HO252 := n0_; have HO255 := n1_; have HO259 := n2_; have HO262 := n3_; have HO265 := n4_; have HO269 := n5_; have HI249 := n6_; have HB := n7_; clear n0_ n1_ n2_ n3_ n4_ n5_ n6_ n7_; (try clear hb); (try clear hb2); (try clear hk); (try clear hi); (try clear ho0); obtain ⟨Ao27, co27, eo27⟩ := Kd.N_slice HO259.out; subst eo27; obtain ⟨Ao28, co28, eo28⟩ := Kd.N_slice HO269.out; subst eo28) | ((with_reducible refine gate_callee (f := 15) rfl ?_); refine goesL_ (some 32) rfl rfl Try.func15 (by kernel_rfl) rfl #[.slice Ao27 t257.length co27, .slice Ao28 t267.length co28] rfl (by (try simp only [List.map_toArray, List.map_cons, List.map_nil]); first | done | rfl | (simp only [List.length_drop, List.length_take]; rfl)) ?_; (with_reducible refine (belvedereref1_Add.calls k (fun k_ => ((((some k_ ≠ (.slice Ao17 y250.length co17 : Value).ownBlock ∧ (some k_ ≠ (.slice Ao19 t253.length co19 : Value).ownBlock ∧ k_ ≠ g249)) ∧ some k_ ≠ (.slice Ao23 y260.length co23 : Value).ownBlock) ∧ some k_ ≠ (.slice Ao25 t263.length co25 : Value).ownBlock) ∧ some k_ ≠ (.slice Ao28 t267.length co28 : Value).ownBlock)) _ _ t257 (fun k_ => (some k_ ≠ (.slice Ao17 y250.length co17 : Value).ownBlock ∧ (some k_ ≠ (.slice Ao19 t253.length co19 : Value).ownBlock ∧ (some k_ ≠ (.slice Ao27 t257.length co27 : Value).ownBlock ∧ (some k_ ≠ (.slice Ao23 y260.length co23 : Value).ownBlock ∧ (some k_ ≠ (.slice Ao25 t263.length co25 : Value).ownBlock ∧ k_ ≠ g249)))))) _ _ t267 t270 t273 _ ?side1 ?side2 A11.out).mono ?_); (case side1 => exact Kd.N_V (HO259.out)); (case side2 => exact Kd.N_V (HO269.out)); rintro e w29 ⟨v271, rfl, ho0, hb⟩; refine ⟨_, rfl, ?_⟩; have n0_ := Aside0.mk (Kd.R_below (by (with_reducible repeat (first | apply Kd.R_alloc | apply Kd.R_drewN | apply Kd.R_drew)); exact HO252.out) hb); have n1_ := Aside0.mk (Kd.N_elder' (by (with_reducible repeat (first | apply Kd.N_alloc | apply Kd.N_drewN | apply Kd.N_drew)); exact HO255.out) (by first | exact Kd.N_base ho0 | exact Kd.S_base ho0 | exact Kd.R_base ho0) hb); have n2_ := Aside0.mk (Kd.N_elder' (by (with_reducible repeat (first | apply Kd.N_alloc | apply Kd.N_drewN | apply Kd.N_drew)); exact HO259.out) (by first | exact Kd.N_base ho0 | exact Kd.S_base ho0 | exact Kd.R_base ho0) hb); have n3_ := Aside0.mk (Kd.R_below (by (with_reducible repeat (first | apply Kd.R_alloc | apply Kd.R_drewN | apply Kd.R_drew)); exact HO262.out) hb); have n4_ := Aside0.mk (Kd.N_elder' (by (with_reducible repeat (first | apply Kd.N_alloc | apply Kd.N_drewN | apply Kd.N_drew)); exact HO265.out) (by first | exact Kd.N_base ho0 | exact Kd.S_base ho0 | exact Kd.R_base ho0) hb); have n5_ := Aside0.mk (Kd.N_elder' (by (with_reducible repeat (first | apply Kd.N_alloc | apply Kd.N_drewN | apply Kd.N_drew)); exact HO269.out) (by first | exact Kd.N_base ho0 | exact Kd.S_base ho0 | exact Kd.R_base ho0) hb); have n6_ := Aside0.mk (Kd.N_lower (Kd.N_mono (ok' := fun k_ => some k_ ≠ (.slice Ao17 y250.length co17 : Value).ownBlock ∧ some k_ ≠ (.slice Ao19 t253.length co19 : Value).ownBlock ∧ some k_ ≠ (.slice Ao23 y260.length co23 : Value).ownBlock ∧ some k_ ≠ (.slice Ao25 t263.length co25 : Value).ownBlock ∧ k_ ≠ g249) ho0 (fun k_ hk_ => ⟨Or.elim hk_ (fun hs_ => Or.elim hs_ (fun hs_ => hs_.1.1.1.1) (fun hs_ => hs_.1)) (fun hn_ => (Kd.fresh' (Kd.R_lt (by (with_reducible repeat (first | apply Kd.R_alloc | apply Kd.R_drewN | apply Kd.R_drew)); exact HO252.out)) k_ hn_)), Or.elim hk_ (fun hs_ => Or.elim hs_ (fun hs_ => hs_.1.1.1.2.1) (fun hs_ => hs_.2.1)) (fun hn_ => (Kd.fresh' (Kd.N_lt (by (with_reducible repeat (first | apply Kd.N_alloc | apply Kd.N_drewN | apply Kd.N_drew)); exact HO255.out)) k_ hn_)), Or.elim hk_ (fun hs_ => Or.elim hs_ (fun hs_ => hs_.1.1.2) (fun hs_ => hs_.2.2.2.1)) (fun hn_ => (Kd.fresh' (Kd.R_lt (by (with_reducible repeat (first | apply Kd.R_alloc | apply Kd.R_drewN | apply Kd.R_drew)); exact HO262.out)) k_ hn_)), Or.elim hk_ (fun hs_ => Or.elim hs_ (fun hs_ => hs_.1.2) (fun hs_ => hs_.2.2.2.2.1)) (fun hn_ => (Kd.fresh' (Kd.N_lt (by (with_reducible repeat (first | apply Kd.N_alloc | apply Kd.N_drewN | apply Kd.N_drew)); exact HO265.out)) k_ hn_)), Or.elim hk_ (fun hs_ => Or.elim hs_ (fun hs_ => hs_.1.1.1.2.2) (fun hs_ => hs_.2.2.2.2.2)) (fun hn_ => (IsS26.fresh (by repeat (first | (with_reducible first | exact HI249.out | apply IsS26.alloc | apply IsS26.drewN | apply IsS26.drew | apply IsS26.set_1) | exact HI249.out)) k_ hn_))⟩)) (below_size (by repeat (first | (with_reducible first | exact HB.out | apply below_alloc | apply pw_below_drewN | apply below_drew1 | refine below_set ?_ (IsS26.ge HI249.out)) | exact HB.out)))); have n7_ := Aside0.mk (IsS26.below (by repeat (first | (with_reducible first | exact HI249.out | apply IsS26.alloc | apply IsS26.drewN | apply IsS26.drew | apply IsS26.set_1) | exact HI249.out)) hb); have n8_ := Aside0.mk (below_step (by repeat (first | (with_reducible first | exact HB.out | apply below_alloc | apply pw_below_drewN | apply below_drew1 | refine below_set ?_ (IsS26.ge HI249.out)) | exact HB.out)) hb); clear HO252; clear HO255; clear HO259; clear HO262; clear HO265; clear HO269; clear HI249; clear HB; have HO252 := n0_; have HO255 := n1_; have HO259 := n2_; have HO262 := n3_; have HO265 := n4_; have HO269 := n5_; have HO272 := n6_; have HI249 := n7_; have HB := n8_; clear n0_ n1_ n2_ n3_ n4_ n5_ n6_ n7_ n8_; (try clear hb); (try clear hb2); (try clear hk); (try clear hi); (try clear ho0); obtain ⟨Ao30, co30, eo30⟩ := Kd.N_slice HO272.out; subst eo30) | ((with_reducible refine gate_callee (f := 13) rfl ?_); refine goesL_ (some 36) rfl rfl Try.func13 (by kernel_rfl) rfl #[.slice Ao30 t270.length co30] rfl (by (try simp only [List.map_toArray, List.map_cons, List.map_nil]); first | done | rfl | (simp only [List.length_drop, List.length_take]; rfl)) ?_; (with_reducible refine (once_Once.calls k _ _ t270 t274 _ ?side1 ?side2 A12.out).mono ?_); (case side1 => repeat (first | exact (Kd.N_reads' HO272.out).2.2 | (with_reducible refine Kd.C_alloc ?_ _) | (with_reducible refine Kd.C_drewN ?_ _) | (with_reducible refine Kd.C_drew ?_))); (case side2 => exact (Kd.N_reads' HO272.out).2.1); rintro e w31 ⟨v275, rfl, ho0, hb⟩; refine ⟨_, rfl, ?_⟩; have n0_ := Aside0.mk (Kd.R_below (by (with_reducible repeat (first | apply Kd.R_alloc | apply Kd.R_drewN | apply Kd.R_drew)); exact HO252.out) hb); have n1_ := Aside0.mk (Kd.N_elder' (by (with_reducible repeat (first | apply Kd.N_alloc | apply Kd.N_drewN | apply Kd.N_drew)); exact HO255.out) (by first | exact Kd.N_base ho0 | exact Kd.S_base ho0 | exact Kd.R_base ho0) hb); have n2_ := Aside0.mk (Kd.N_elder' (by (with_reducible repeat (first | apply Kd.N_alloc | apply Kd.N_drewN | apply Kd.N_drew)); exact HO259.out) (by first | exact Kd.N_base ho0 | exact Kd.S_base ho0 | exact Kd.R_base ho0) hb); have n3_ := Aside0.mk (Kd.R_below (by (with_reducible repeat (first | apply Kd.R_alloc | apply Kd.R_drewN | apply Kd.R_drew)); exact HO262.out) hb); have n4_ := Aside0.mk (Kd.N_elder' (by (with_reducible repeat (first | apply Kd.N_alloc | apply Kd.N_drewN | apply Kd.N_drew)); exact HO265.out) (by first | exact Kd.N_base ho0 | exact Kd.S_base ho0 | exact Kd.R_base ho0) hb); have n5_ := Aside0.mk (Kd.N_elder' (by (with_reducible repeat (first | apply Kd.N_alloc | apply Kd.N_drewN | apply Kd.N_drew)); exact HO269.out) (by first | exact Kd.N_base ho0 | exact Kd.S_base ho0 | exact Kd.R_base ho0) hb); have n6_ := Aside0.mk (Kd.N_elder' (by (with_reducible repeat (first | apply Kd.N_alloc | apply Kd.N_drewN | apply Kd.N_drew)); exact HO272.out) (by first | exact Kd.N_base ho0 | exact Kd.S_base ho0 | exact Kd.R_base ho0) hb); have n7_ := Aside0.mk (Kd.N_lower (Kd.N_mono (ok' := fun k_ => some k_ ≠ (.slice Ao17 y250.length co17 : Value).ownBlock ∧ some k_ ≠ (.slice Ao19 t253.length co19 : Value).ownBlock ∧ some k_ ≠ (.slice Ao27 t257.length co27 : Value).ownBlock ∧ some k_ ≠ (.slice Ao23 y260.length co23 : Value).ownBlock ∧ some k_ ≠ (.slice Ao25 t263.length co25 : Value).ownBlock ∧ some k_ ≠ (.slice Ao28 t267.length co28 : Value).ownBlock ∧ some k_ ≠ (.slice Ao30 t270.length co30 : Value).ownBlock ∧ k_ ≠ g249) (Kd.S_N (Kd.S_bound ho0)) (fun k_ hk_ => ⟨(Kd.fresh' (Kd.R_lt (by (with_reducible repeat (first | apply Kd.R_alloc | apply Kd.R_drewN | apply Kd.R_drew)); exact HO252.out)) k_ hk_.2.1), (Kd.fresh' (Kd.N_lt (by (with_reducible repeat (first | apply Kd.N_alloc | apply Kd.N_drewN | apply Kd.N_drew)); exact HO255.out)) k_ hk_.2.1), (Kd.fresh' (Kd.N_lt (by (with_reducible repeat (first | apply Kd.N_alloc | apply Kd.N_drewN | apply Kd.N_drew)); exact HO259.out)) k_ hk_.2.1), (Kd.fresh' (Kd.R_lt (by (with_reducible repeat (first | apply Kd.R_alloc | apply Kd.R_drewN | apply Kd.R_drew)); exact HO262.out)) k_ hk_.2.1), (Kd.fresh' (Kd.N_lt (by (with_reducible repeat (first | apply Kd.N_alloc | apply Kd.N_drewN | apply Kd.N_drew)); exact HO265.out)) k_ hk_.2.1), (Kd.fresh' (Kd.N_lt (by (with_reducible repeat (first | apply Kd.N_alloc | apply Kd.N_drewN | apply Kd.N_drew)); exact HO269.out)) k_ hk_.2.1), (Kd.fresh' (Kd.N_lt (by (with_reducible repeat (first | apply Kd.N_alloc | apply Kd.N_drewN | apply Kd.N_drew)); exact HO272.out)) k_ hk_.2.1), (IsS26.fresh (by repeat (first | (with_reducible first | exact HI249.out | apply IsS26.alloc | apply IsS26.drewN | apply IsS26.drew | apply IsS26.set_1) | exact HI249.out)) k_ hk_.2.1)⟩)) (below_size (by repeat (first | (with_reducible first | exact HB.out | apply below_alloc | apply pw_below_drewN | apply below_drew1 | refine below_set ?_ (IsS26.ge HI249.out)) | exact HB.out)))); have n8_ := Aside0.mk (IsS26.below (by repeat (first | (with_reducible first | exact HI249.out | apply IsS26.alloc | apply IsS26.drewN | apply IsS26.drew | apply IsS26.set_1) | exact HI249.out)) hb); have n9_ := Aside0.mk (below_step (by repeat (first | (with_reducible first | exact HB.out | apply below_alloc | apply pw_below_drewN | apply below_drew1 | refine below_set ?_ (IsS26.ge HI249.out)) | exact HB.out)) hb); clear HO252; clear HO255; clear HO259; clear HO262; clear HO265; clear HO269; clear HO272; clear HI249; clear HB; have HO252 := n0_; have HO255 := n1_; have HO259 := n2_; have HO262 := n3_; have HO265 := n4_; have HO269 := n5_; have HO272 := n6_; have HO276 := n7_; have HI249 := n8_; have HB := n9_; clear n0_ n1_ n2_ n3_ n4_ n5_ n6_ n7_ n8_ n9_; (try clear hb); (try clear hb2); (try clear hk); (try clear hi); (try clear ho0)))
      go_loopg [10] k (fun kq v10 w' => ∃ (x10_1 : Int), v10 = .int .i64 x10_1 ∧ Aside0 (belvederelaw13_OnceSums.l0 kq true t257 t267 t270 t273 t274 x10_1 = some r) ∧ Aside0 (kq ≤ k) ∧ Aside0 (Kd.N k36 36 w' w.heap.size (fun k_ => some k_ ≠ ((.slice Ao28 t267.length co28) : Value).ownBlock ∧ some k_ ≠ ((.slice Ao30 t270.length co30) : Value).ownBlock ∧ some k_ ≠ (v275 : Value).ownBlock) (.slice Ao27 t257.length co27) t257) ∧ Aside0 (Kd.N k36 36 w' w.heap.size (fun k_ => some k_ ≠ ((.slice Ao27 t257.length co27) : Value).ownBlock ∧ some k_ ≠ ((.slice Ao30 t270.length co30) : Value).ownBlock ∧ some k_ ≠ (v275 : Value).ownBlock) (.slice Ao28 t267.length co28) t267) ∧ Aside0 (Kd.N k36 36 w' w.heap.size (fun k_ => some k_ ≠ (v275 : Value).ownBlock) (.slice Ao30 t270.length co30) t270) ∧ Aside0 (Kd.N k36 36 w' w.heap.size (fun k_ => some k_ ≠ ((.slice Ao27 t257.length co27) : Value).ownBlock ∧ some k_ ≠ ((.slice Ao28 t267.length co28) : Value).ownBlock ∧ some k_ ≠ ((.slice Ao30 t270.length co30) : Value).ownBlock) v275 t274) ∧ Aside0 (Below w.heap.size w w'))
      case atStart => exact ⟨(0), (by first | rfl | (simp; done) | (simp [*]; done)), H', ⟨Nat.le_refl _⟩, ⟨by (with_reducible repeat (first | apply Kd.N_alloc | apply Kd.N_drewN | apply Kd.N_drew)); exact Kd.N_mono HO259.out (fun _ hk => ⟨hk.1.1.2, ⟨hk.1.2, hk.2⟩⟩)⟩, ⟨by (with_reducible repeat (first | apply Kd.N_alloc | apply Kd.N_drewN | apply Kd.N_drew)); exact Kd.N_mono HO269.out (fun _ hk => ⟨hk.1.1.2.2.1, ⟨hk.1.2, hk.2⟩⟩)⟩, ⟨by (with_reducible repeat (first | apply Kd.N_alloc | apply Kd.N_drewN | apply Kd.N_drew)); exact Kd.N_mono HO272.out (fun _ hk => hk.2)⟩, ⟨by (with_reducible repeat (first | apply Kd.N_alloc | apply Kd.N_drewN | apply Kd.N_drew)); exact Kd.N_mono HO276.out (fun _ hk => ⟨hk.2.2.1, ⟨hk.2.2.2.2.2.1, hk.2.2.2.2.2.2.1⟩⟩)⟩, ⟨by repeat (first | (with_reducible first | exact HB.out | apply below_alloc | apply pw_below_drewN | apply below_drew1 | refine below_set ?_ (IsS26.ge HI249.out)) | exact HB.out)⟩⟩
      case round =>
        clear H'
        try clear c1
        try clear p2
        try clear c3
        try clear c4
        try clear c4b0
        try clear c4b1
        try clear c12
        try clear c13
        try clear c14
        try clear c15
        obtain ⟨x10_1, rfl, HA, HK1, HO_5, HO_6, HO_7, HO_9, HB⟩ := hrel
        cases gk with
        | zero => exact absurd HA.out (by simp [belvederelaw13_OnceSums.l0])
        | succ k1 =>
          have H := HA.out
          clear HA
          simp only [belvederelaw13_OnceSums.l0] at H
          by_cases c32 : x10_1 < (t274.length : Int)
          · rw [if_pos c32] at H
            have c32b0 : decide (x10_1 < (t274.length : Int)) = true := decide_eq_true c32
            clear c32
            by_cases c33 : 0 ≤ x10_1
            · rw [if_pos c33] at H
              have c33b0 : decide (0 ≤ x10_1) = true := decide_eq_true c33
              clear c33
              replace H := Option.bind_eq_some_iff.mp H
              obtain ⟨t278, A340, H⟩ := H
              replace H : ((belvedereref1_Get.f k1 t267 ((rd_T36 t274 x10_1).f0)).bind fun t280 => (if (wrap64 (t278 + t280)) < 1 then (some false) else (if ((rd_T36 t274 x10_1).f1) = 1 then (belvederelaw13_OnceSums.l0 k1 true t257 t267 t270 t273 t274 (wrap64 (x10_1 + 1))) else (some false)))) = some r := H
              have A34 := Aside0.mk A340
              clear A340
              replace H := Option.bind_eq_some_iff.mp H
              obtain ⟨t280, A350, H⟩ := H
              replace H : (if (wrap64 (t278 + t280)) < 1 then (some false) else (if ((rd_T36 t274 x10_1).f1) = 1 then (belvederelaw13_OnceSums.l0 k1 true t257 t267 t270 t273 t274 (wrap64 (x10_1 + 1))) else (some false))) = some r := H
              have A35 := Aside0.mk A350
              clear A350
              by_cases c36 : (wrap64 (t278 + t280)) < 1
              · rw [if_pos c36] at H
                have c36b0 : decide ((wrap64 (t278 + t280)) < 1) = true := decide_eq_true c36
                clear c36
                obtain rfl := Option.some.inj H
                obtain ⟨Ao37, co37, eo37⟩ := Kd.N_slice HO_9.out
                subst eo37
                try go_wp2
                have n0_ := Aside0.mk (Kd.N_drew HO_5.out)
                have n1_ := Aside0.mk (Kd.N_drew HO_6.out)
                have n2_ := Aside0.mk (Kd.N_drew HO_7.out)
                have n3_ := Aside0.mk (Kd.N_drew HO_9.out)
                have n4_ := Aside0.mk (below_drew1 HB.out)
                clear HO_5
                clear HO_6
                clear HO_7
                clear HO_9
                clear HB
                have HO_5 := n0_
                have HO_6 := n1_
                have HO_7 := n2_
                have HO_9 := n3_
                have HB := n4_
                clear n0_ n1_ n2_ n3_ n4_
                have p277 : 0 ≤ (x10_1 : Int) := of_decide_eq_true (by first | (with_reducible assumption) | assumption)
                have q277 : x10_1 < (t274.length : Int) := of_decide_eq_true (by first | (with_reducible assumption) | assumption)
                obtain ⟨ad277, A277_0, c277_0, e277, hx277_0, hx277_1, hl277_0, hi277_0⟩ := at_T36 (Kd.N_reads' HO_9.out).2.2 x10_1 p277 q277
                cases e277
                obtain ⟨ce277, hce277, hMe277, hcc277⟩ := Kd.N_get HO_9.out z36 x10_1 p277 (by first | exact q277 | exact of_decide_eq_true (by first | (with_reducible assumption) | assumption) | (have e_ := (Kd.N_reads' HO_9.out).1; omega))
                obtain ⟨ua277_0, uc277_0, rfl, ul277_0, ge277_0⟩ := k36_openF hMe277
                have hv277_0 := hcc277 0 _ rfl
                rw [Nat.add_zero] at hv277_0
                replace hv277_0 := Option.some.inj (hv277_0.symm.trans hx277_0)
                injection hv277_0 with hva_ hvn_ hvc_
                rw [hva_] at ge277_0
                rw [hvc_] at ul277_0
                have HL277_0 := Aside0.mk (show Kd.V k41 41 _ w.heap.size _ _ ((rd_T36 t274 x10_1).f0) from Kd.V_mk ul277_0 ge277_0)
                clear hva_ hvn_ hvc_ ge277_0 ul277_0
                clear hcc277 hce277
                have HR277_0 := Aside0.mk hi277_0
                have HC277_0 := Aside0.mk hl277_0
                clear hi277_0 hl277_0
                replace p277 := eq_true p277
                replace q277 := eq_true q277
                have p279 : 0 ≤ (x10_1 : Int) := of_decide_eq_true (by first | (with_reducible assumption) | assumption)
                have q279 : x10_1 < (t274.length : Int) := of_decide_eq_true (by first | (with_reducible assumption) | assumption)
                obtain ⟨ad279, A279_0, c279_0, e279, hx279_0, hx279_1, hl279_0, hi279_0⟩ := at_T36 (Kd.N_reads' HO_9.out).2.2 x10_1 p279 q279
                obtain rfl : ad277 = ad279 := (by injection e279)
                obtain ⟨ce279, hce279, hMe279, hcc279⟩ := Kd.N_get HO_9.out z36 x10_1 p279 (by first | exact q279 | exact of_decide_eq_true (by first | (with_reducible assumption) | assumption) | (have e_ := (Kd.N_reads' HO_9.out).1; omega))
                obtain ⟨ua279_0, uc279_0, rfl, ul279_0, ge279_0⟩ := k36_openF hMe279
                have hv279_0 := hcc279 0 _ rfl
                rw [Nat.add_zero] at hv279_0
                replace hv279_0 := Option.some.inj (hv279_0.symm.trans hx279_0)
                injection hv279_0 with hva_ hvn_ hvc_
                rw [hva_] at ge279_0
                rw [hvc_] at ul279_0
                have HL279_0 := Aside0.mk (show Kd.V k41 41 _ w.heap.size _ _ ((rd_T36 t274 x10_1).f0) from Kd.V_mk ul279_0 ge279_0)
                clear hva_ hvn_ hvc_ ge279_0 ul279_0
                clear hcc279 hce279
                have HR279_0 := Aside0.mk hi279_0
                have HC279_0 := Aside0.mk hl279_0
                clear hi279_0 hl279_0
                replace p279 := eq_true p279
                replace q279 := eq_true q279
                have ea_ := Option.some.inj (hx277_0.symm.trans hx279_0)
                injection ea_ with ea_ en_ ec_
                subst ea_
                subst ec_
                clear en_
                refine start_ (n := 24) (S := fun w' => w'.cell? (ad277.add ((x10_1).toNat * 2)) = some (.slice A277_0 ((rd_T36 t274 x10_1).f0).length c277_0) ∧ w'.cell? ⟨(ad277.add ((x10_1).toNat * 2)).block, (ad277.add ((x10_1).toNat * 2)).off + 1, none⟩ = some (.int .i64 ((rd_T36 t274 x10_1).f1)) ∧ w'.cell? (ad277.add ((x10_1).toNat * 2)) = some (.slice A277_0 ((rd_T36 t274 x10_1).f0).length c277_0) ∧ w'.cell? ⟨(ad277.add ((x10_1).toNat * 2)).block, (ad277.add ((x10_1).toNat * 2)).off + 1, none⟩ = some (.int .i64 ((rd_T36 t274 x10_1).f1))) (ds := []) #[false, false, false, false, false, false, false, false, false, false, false, false, false, false, false, false, false, false, false, false, false, false, false, false] (by kernel_rfl) rfl rfl ⟨hx277_0, hx277_1, hx279_0, hx279_1⟩ (fun hHeld => ?_); refine with_tabW belvederelaw13_OnceSums.tab14 belvederelaw13_OnceSums.bits14 (fun HT_ HW_ => ?_)
                generalize wr.drew = w38 at HO_5 HO_6 HO_7 HO_9 HB HL277_0 HL279_0 HR277_0 HR279_0 hx277_0 hx277_1 hx279_0 hx279_1 hHeld ⊢
                refine pure_ (i := 0) (N := some 43) (v := ?_) (a' := ?_) #[true, false, false, false, false, false, false, false, false, false, false, false, false, false, false, false, false, false, false, false, false, false, false, false] rfl rfl (any_of HT_.out (by kernel_rfl)) (fun _ _ _ h => h) (Or.inl ⟨by rfl, ?_⟩) ?_ ?_
                rotate_left
                · intro w'
                  go_simp
                  with_reducible rfl
                rotate_left
                · simp only [Act.put, List.setIfInBounds_toArray, List.set_cons_zero, List.set_cons_succ, i64_w, i32_w]
                  rfl
                refine pure_ (i := 1) (N := some 44) (v := ?_) (a' := ?_) #[true, true, false, false, false, false, false, false, false, false, false, false, false, false, false, false, false, false, false, false, false, false, false, false] rfl rfl (any_of HT_.out (by kernel_rfl)) (fun _ _ _ h => h) (Or.inl ⟨by rfl, ?_⟩) ?_ ?_
                rotate_left
                · intro w'
                  go_simp
                  with_reducible rfl
                rotate_left
                · simp only [Act.put, List.setIfInBounds_toArray, List.set_cons_zero, List.set_cons_succ, i64_w, i32_w]
                  rfl
                refine pure_ (i := 2) (N := some 45) (v := ?_) (a' := ?_) #[true, true, true, false, false, false, false, false, false, false, false, false, false, false, false, false, false, false, false, false, false, false, false, false] rfl rfl (any_of HT_.out (by kernel_rfl)) (fun _ _ _ h => h) (Or.inl ⟨by rfl, ?_⟩) ?_ ?_
                rotate_left
                · intro w'
                  go_simp
                  with_reducible rfl
                rotate_left
                · simp only [Act.put, List.setIfInBounds_toArray, List.set_cons_zero, List.set_cons_succ, i64_w, i32_w]
                  rfl
                refine pure_ (i := 3) (N := some 46) (v := ?_) (a' := ?_) #[true, true, true, true, false, false, false, false, false, false, false, false, false, false, false, false, false, false, false, false, false, false, false, false] rfl rfl (any_of HT_.out (by kernel_rfl)) (fun _ _ _ h => h) (Or.inl ⟨by rfl, ?_⟩) ?_ ?_
                rotate_left
                · intro w'
                  go_simp
                  with_reducible rfl
                rotate_left
                · simp only [Act.put, List.setIfInBounds_toArray, List.set_cons_zero, List.set_cons_succ, i64_w, i32_w]
                  rfl
                refine pure_ (i := 4) (N := some 47) (v := ?_) (a' := ?_) #[true, true, true, true, true, false, false, false, false, false, false, false, false, false, false, false, false, false, false, false, false, false, false, false] rfl rfl (any_of HT_.out (by kernel_rfl)) (fun _ _ _ h => h) (Or.inl ⟨by rfl, ?_⟩) ?_ ?_
                rotate_left
                · intro w'
                  go_simp
                  with_reducible rfl
                rotate_left
                · simp only [Act.put, List.setIfInBounds_toArray, List.set_cons_zero, List.set_cons_succ, i64_w, i32_w]
                  rfl
                refine pure_ (i := 7) (N := some 50) (v := ?_) (a' := ?_) #[true, true, true, true, true, false, false, true, false, false, false, false, false, false, false, false, false, false, false, false, false, false, false, false] rfl rfl (any_of HT_.out (by kernel_rfl)) (fun _ _ _ h => h) (Or.inl ⟨by rfl, ?_⟩) ?_ ?_
                rotate_left
                · intro w'
                  go_simp
                  with_reducible rfl
                rotate_left
                · simp only [Act.put, List.setIfInBounds_toArray, List.set_cons_zero, List.set_cons_succ, i64_w, i32_w]
                  rfl
                refine pure_ (i := 8) (N := some 51) (v := ?_) (a' := ?_) #[true, true, true, true, true, false, false, true, true, false, false, false, false, false, false, false, false, false, false, false, false, false, false, false] rfl rfl (any_of HT_.out (by kernel_rfl)) (fun _ _ _ h => h) (Or.inl ⟨by rfl, ?_⟩) ?_ ?_
                rotate_left
                · intro w'
                  go_simp
                  with_reducible rfl
                rotate_left
                · simp only [Act.put, List.setIfInBounds_toArray, List.set_cons_zero, List.set_cons_succ, i64_w, i32_w]
                  rfl
                refine pure_ (i := 9) (N := some 52) (v := ?_) (a' := ?_) #[true, true, true, true, true, false, false, true, true, true, false, false, false, false, false, false, false, false, false, false, false, false, false, false] rfl rfl (any_of HT_.out (by kernel_rfl)) (fun _ _ _ h => h) (Or.inl ⟨by rfl, ?_⟩) ?_ ?_
                rotate_left
                · intro w'
                  go_simp
                  with_reducible rfl
                rotate_left
                · simp only [Act.put, List.setIfInBounds_toArray, List.set_cons_zero, List.set_cons_succ, i64_w, i32_w]
                  rfl
                refine pure_ (i := 10) (N := some 53) (v := ?_) (a' := ?_) #[true, true, true, true, true, false, false, true, true, true, true, false, false, false, false, false, false, false, false, false, false, false, false, false] rfl rfl (any_of HT_.out (by kernel_rfl)) (fun _ _ _ h => h) (Or.inl ⟨by rfl, ?_⟩) ?_ ?_
                rotate_left
                · intro w'
                  go_simp
                  with_reducible rfl
                rotate_left
                · simp only [Act.put, List.setIfInBounds_toArray, List.set_cons_zero, List.set_cons_succ, i64_w, i32_w]
                  rfl
                refine pure_ (i := 11) (N := some 54) (v := ?_) (a' := ?_) #[true, true, true, true, true, false, false, true, true, true, true, true, false, false, false, false, false, false, false, false, false, false, false, false] rfl rfl (any_of HT_.out (by kernel_rfl)) (fun _ _ _ h => h) (Or.inl ⟨by rfl, ?_⟩) ?_ ?_
                rotate_left
                · intro w'
                  go_simp
                  with_reducible rfl
                rotate_left
                · simp only [Act.put, List.setIfInBounds_toArray, List.set_cons_zero, List.set_cons_succ, i64_w, i32_w]
                  rfl
                refine take_ (i := 5) (N := some 48) (v := ?_) (a' := ?_) #[true, true, true, true, true, true, false, true, true, true, true, true, false, false, false, false, false, false, false, false, false, false, false, false] rfl rfl (take_ofW HT_.out HW_.out (by kernel_rfl)) (fun _ _ _ h => h) (Or.inl ⟨by rfl, ?_⟩) hHeld ?_ ?_
                rotate_left
                · rintro w' ⟨s0, s1, s2, s3⟩
                  go_simp
                  with_reducible rfl
                rotate_left
                · simp only [Act.put, List.setIfInBounds_toArray, List.set_cons_zero, List.set_cons_succ, i64_w, i32_w]
                  rfl
                refine take_ (i := 12) (N := some 55) (v := ?_) (a' := ?_) #[true, true, true, true, true, true, false, true, true, true, true, true, true, false, false, false, false, false, false, false, false, false, false, false] rfl rfl (take_ofW HT_.out HW_.out (by kernel_rfl)) (fun _ _ _ h => h) (Or.inl ⟨by rfl, ?_⟩) hHeld ?_ ?_
                rotate_left
                · rintro w' ⟨s0, s1, s2, s3⟩
                  go_simp
                  with_reducible rfl
                rotate_left
                · simp only [Act.put, List.setIfInBounds_toArray, List.set_cons_zero, List.set_cons_succ, i64_w, i32_w]
                  rfl
                refine one_ (i := 6) (N := some 49) #[true, true, true, true, true, true, true, true, true, true, true, true, true, false, false, false, false, false, false, false, false, false, false, false] rfl rfl (one_of HT_.out (by kernel_rfl)) (by decide) (fun K hK => ?_)
                refine goes_ Try.func16 (by kernel_rfl) rfl #[.slice Ao27 t257.length co27, .slice A277_0 ((rd_T36 t274 x10_1).f0).length c277_0] (by rfl) rfl rfl (by (try simp only [List.map_toArray, List.map_cons, List.map_nil]); first | done | rfl | (simp only [List.length_drop, List.length_take]; rfl)) ?_
                with_reducible refine (belvedereref1_Get.calls k1 _ _ t257 _ _ ((rd_T36 t274 x10_1).f0) t278 _ ?side1 ?side2 ?side3 ?side4 A34.out).mono ?_
                (case side1 => repeat (first | exact (Kd.N_reads' HO_5.out).2.2 | (with_reducible refine Kd.C_alloc ?_ _) | (with_reducible refine Kd.C_drewN ?_ _) | (with_reducible refine Kd.C_drew ?_)))
                (case side2 => exact (Kd.N_reads' HO_5.out).2.1)
                (case side3 => repeat (first | exact (by repeat (first | (with_reducible exact HR277_0.out) | (with_reducible refine Kd.C_alloc ?_ _) | (with_reducible refine Kd.C_drewN ?_ _) | (with_reducible refine Kd.C_drew ?_) | exact HR277_0.out)) | (with_reducible refine Kd.C_alloc ?_ _) | (with_reducible refine Kd.C_drewN ?_ _) | (with_reducible refine Kd.C_drew ?_)))
                (case side4 => exact HC277_0.out)
                rintro e w39 ⟨rfl, hb⟩
                have HS0_ := (hb.cell (World.block_lt_of_cell? _ _ (hHeld.1))).trans (hHeld.1)
                have HS1_ := (hb.cell (World.block_lt_of_cell? _ _ (hHeld.2.1))).trans (hHeld.2.1)
                have HS2_ := (hb.cell (World.block_lt_of_cell? _ _ (hHeld.2.2.1))).trans (hHeld.2.2.1)
                have HS3_ := (hb.cell (World.block_lt_of_cell? _ _ (hHeld.2.2.2))).trans (hHeld.2.2.2)
                refine ⟨_, rfl, ?_⟩
                have n0_ := Aside0.mk (Kd.N_below (by (with_reducible repeat (first | apply Kd.N_alloc | apply Kd.N_drewN | apply Kd.N_drew)); exact HO_5.out) hb)
                have n1_ := Aside0.mk (Kd.N_below (by (with_reducible repeat (first | apply Kd.N_alloc | apply Kd.N_drewN | apply Kd.N_drew)); exact HO_6.out) hb)
                have n2_ := Aside0.mk (Kd.N_below (by (with_reducible repeat (first | apply Kd.N_alloc | apply Kd.N_drewN | apply Kd.N_drew)); exact HO_7.out) hb)
                have n3_ := Aside0.mk (Kd.N_below (by (with_reducible repeat (first | apply Kd.N_alloc | apply Kd.N_drewN | apply Kd.N_drew)); exact HO_9.out) hb)
                have n4_ := Aside0.mk (Kd.V_below (by (with_reducible repeat (first | apply Kd.V_alloc | apply Kd.V_drewN | apply Kd.V_drew)); exact HL277_0.out) hb)
                have n5_ := Aside0.mk (Kd.V_below (by (with_reducible repeat (first | apply Kd.V_alloc | apply Kd.V_drewN | apply Kd.V_drew)); exact HL279_0.out) hb)
                have n6_ := Aside0.mk (Kd.C_below (by repeat (first | (with_reducible exact HR277_0.out) | (with_reducible refine Kd.C_alloc ?_ _) | (with_reducible refine Kd.C_drewN ?_ _) | (with_reducible refine Kd.C_drew ?_) | exact HR277_0.out)) hb)
                have n7_ := Aside0.mk (Kd.C_below (by repeat (first | (with_reducible exact HR279_0.out) | (with_reducible refine Kd.C_alloc ?_ _) | (with_reducible refine Kd.C_drewN ?_ _) | (with_reducible refine Kd.C_drew ?_) | exact HR279_0.out)) hb)
                have n8_ := Aside0.mk (below_step (by repeat (first | (with_reducible first | exact HB.out | apply below_alloc | apply pw_below_drewN | apply below_drew1) | exact HB.out)) hb)
                clear HO_5
                clear HO_6
                clear HO_7
                clear HO_9
                clear HL277_0
                clear HL279_0
                clear HR277_0
                clear HR279_0
                clear HB
                have HO_5 := n0_
                have HO_6 := n1_
                have HO_7 := n2_
                have HO_9 := n3_
                have HL277_0 := n4_
                have HL279_0 := n5_
                have HR277_0 := n6_
                have HR279_0 := n7_
                have HB := n8_
                clear n0_ n1_ n2_ n3_ n4_ n5_ n6_ n7_ n8_
                (try clear hb)
                (try clear hb2)
                (try clear hk)
                (try clear hi)
                refine hK.out _ _ ⟨HS0_, HS1_, HS2_, HS3_⟩ (fun hHeld => ?_)
                clear hK K
                refine norm_ (a' := ?_) ?_ ?_
                rotate_left
                · show Act.put _ (some 49) _ = _
                  simp only [Act.put, List.setIfInBounds_toArray, List.set_cons_zero, List.set_cons_succ, i64_w, i32_w]
                  rfl
                refine one_ (i := 13) (N := some 56) #[true, true, true, true, true, true, true, true, true, true, true, true, true, true, false, false, false, false, false, false, false, false, false, false] rfl rfl (one_of HT_.out (by kernel_rfl)) (by decide) (fun K hK => ?_)
                refine goes_ Try.func16 (by kernel_rfl) rfl #[.slice Ao28 t267.length co28, .slice A277_0 ((rd_T36 t274 x10_1).f0).length c277_0] (by rfl) rfl rfl (by (try simp only [List.map_toArray, List.map_cons, List.map_nil]); first | done | rfl | (simp only [List.length_drop, List.length_take]; rfl)) ?_
                with_reducible refine (belvedereref1_Get.calls k1 _ _ t267 _ _ ((rd_T36 t274 x10_1).f0) t280 _ ?side1 ?side2 ?side3 ?side4 A35.out).mono ?_
                (case side1 => repeat (first | exact (Kd.N_reads' HO_6.out).2.2 | (with_reducible refine Kd.C_alloc ?_ _) | (with_reducible refine Kd.C_drewN ?_ _) | (with_reducible refine Kd.C_drew ?_)))
                (case side2 => exact (Kd.N_reads' HO_6.out).2.1)
                (case side3 => repeat (first | exact (by repeat (first | (with_reducible exact HR279_0.out) | (with_reducible refine Kd.C_alloc ?_ _) | (with_reducible refine Kd.C_drewN ?_ _) | (with_reducible refine Kd.C_drew ?_) | exact HR279_0.out)) | (with_reducible refine Kd.C_alloc ?_ _) | (with_reducible refine Kd.C_drewN ?_ _) | (with_reducible refine Kd.C_drew ?_)))
                (case side4 => exact HC279_0.out)
                rintro e w40 ⟨rfl, hb⟩
                have HS0_ := (hb.cell (World.block_lt_of_cell? _ _ (hHeld.1))).trans (hHeld.1)
                have HS1_ := (hb.cell (World.block_lt_of_cell? _ _ (hHeld.2.1))).trans (hHeld.2.1)
                have HS2_ := (hb.cell (World.block_lt_of_cell? _ _ (hHeld.2.2.1))).trans (hHeld.2.2.1)
                have HS3_ := (hb.cell (World.block_lt_of_cell? _ _ (hHeld.2.2.2))).trans (hHeld.2.2.2)
                refine ⟨_, rfl, ?_⟩
                have n0_ := Aside0.mk (Kd.N_below (by (with_reducible repeat (first | apply Kd.N_alloc | apply Kd.N_drewN | apply Kd.N_drew)); exact HO_5.out) hb)
                have n1_ := Aside0.mk (Kd.N_below (by (with_reducible repeat (first | apply Kd.N_alloc | apply Kd.N_drewN | apply Kd.N_drew)); exact HO_6.out) hb)
                have n2_ := Aside0.mk (Kd.N_below (by (with_reducible repeat (first | apply Kd.N_alloc | apply Kd.N_drewN | apply Kd.N_drew)); exact HO_7.out) hb)
                have n3_ := Aside0.mk (Kd.N_below (by (with_reducible repeat (first | apply Kd.N_alloc | apply Kd.N_drewN | apply Kd.N_drew)); exact HO_9.out) hb)
                have n4_ := Aside0.mk (Kd.V_below (by (with_reducible repeat (first | apply Kd.V_alloc | apply Kd.V_drewN | apply Kd.V_drew)); exact HL277_0.out) hb)
                have n5_ := Aside0.mk (Kd.V_below (by (with_reducible repeat (first | apply Kd.V_alloc | apply Kd.V_drewN | apply Kd.V_drew)); exact HL279_0.out) hb)
                have n6_ := Aside0.mk (Kd.C_below (by repeat (first | (with_reducible exact HR277_0.out) | (with_reducible refine Kd.C_alloc ?_ _) | (with_reducible refine Kd.C_drewN ?_ _) | (with_reducible refine Kd.C_drew ?_) | exact HR277_0.out)) hb)
                have n7_ := Aside0.mk (Kd.C_below (by repeat (first | (with_reducible exact HR279_0.out) | (with_reducible refine Kd.C_alloc ?_ _) | (with_reducible refine Kd.C_drewN ?_ _) | (with_reducible refine Kd.C_drew ?_) | exact HR279_0.out)) hb)
                have n8_ := Aside0.mk (below_step (by repeat (first | (with_reducible first | exact HB.out | apply below_alloc | apply pw_below_drewN | apply below_drew1) | exact HB.out)) hb)
                clear HO_5
                clear HO_6
                clear HO_7
                clear HO_9
                clear HL277_0
                clear HL279_0
                clear HR277_0
                clear HR279_0
                clear HB
                have HO_5 := n0_
                have HO_6 := n1_
                have HO_7 := n2_
                have HO_9 := n3_
                have HL277_0 := n4_
                have HL279_0 := n5_
                have HR277_0 := n6_
                have HR279_0 := n7_
                have HB := n8_
                clear n0_ n1_ n2_ n3_ n4_ n5_ n6_ n7_ n8_
                (try clear hb)
                (try clear hb2)
                (try clear hk)
                (try clear hi)
                refine hK.out _ _ ⟨HS0_, HS1_, HS2_, HS3_⟩ (fun hHeld => ?_)
                clear hK K
                refine norm_ (a' := ?_) ?_ ?_
                rotate_left
                · show Act.put _ (some 56) _ = _
                  simp only [Act.put, List.setIfInBounds_toArray, List.set_cons_zero, List.set_cons_succ, i64_w, i32_w]
                  rfl
                refine pure_ (i := 14) (N := some 57) (v := ?_) (a' := ?_) #[true, true, true, true, true, true, true, true, true, true, true, true, true, true, true, false, false, false, false, false, false, false, false, false] rfl rfl (any_of HT_.out (by kernel_rfl)) (fun _ _ _ h => h) (Or.inl ⟨by rfl, ?_⟩) ?_ ?_
                rotate_left
                · intro w'
                  go_simp
                  with_reducible rfl
                rotate_left
                · simp only [Act.put, List.setIfInBounds_toArray, List.set_cons_zero, List.set_cons_succ, i64_w, i32_w]
                  rfl
                refine pure_ (i := 15) (N := some 58) (v := ?_) (a' := ?_) #[true, true, true, true, true, true, true, true, true, true, true, true, true, true, true, true, false, false, false, false, false, false, false, false] rfl rfl (any_of HT_.out (by kernel_rfl)) (fun _ _ _ h => h) (Or.inl ⟨by rfl, ?_⟩) ?_ ?_
                rotate_left
                · intro w'
                  go_simp
                  with_reducible rfl
                rotate_left
                · simp only [Act.put, List.setIfInBounds_toArray, List.set_cons_zero, List.set_cons_succ, i64_w, i32_w]
                  rfl
                refine pure_ (i := 16) (N := some 59) (v := ?_) (a' := ?_) #[true, true, true, true, true, true, true, true, true, true, true, true, true, true, true, true, true, false, false, false, false, false, false, false] rfl rfl (any_of HT_.out (by kernel_rfl)) (fun _ _ _ h => h) (Or.inl ⟨by rfl, ?_⟩) ?_ ?_
                rotate_left
                · intro w'
                  go_simp
                  with_reducible rfl
                rotate_left
                · simp only [Act.put, List.setIfInBounds_toArray, List.set_cons_zero, List.set_cons_succ, i64_w, i32_w]
                  rfl
                refine pure_ (i := 17) (N := some 60) (v := undef) (a' := ?_) #[true, true, true, true, true, true, true, true, true, true, true, true, true, true, true, true, true, true, false, false, false, false, false, false] rfl rfl (any_of HT_.out (by kernel_rfl)) (fun _ _ _ h => h) (Or.inr ⟨by rfl, rfl⟩) ?_ ?_
                rotate_left
                · simp only [Act.put, List.setIfInBounds_toArray, List.set_cons_zero, List.set_cons_succ, i64_w, i32_w]
                  rfl
                refine pure_ (i := 18) (N := some 61) (v := undef) (a' := ?_) #[true, true, true, true, true, true, true, true, true, true, true, true, true, true, true, true, true, true, true, false, false, false, false, false] rfl rfl (any_of HT_.out (by kernel_rfl)) (fun _ _ _ h => h) (Or.inr ⟨by rfl, rfl⟩) ?_ ?_
                rotate_left
                · simp only [Act.put, List.setIfInBounds_toArray, List.set_cons_zero, List.set_cons_succ, i64_w, i32_w]
                  rfl
                refine pure_ (i := 19) (N := some 62) (v := undef) (a' := ?_) #[true, true, true, true, true, true, true, true, true, true, true, true, true, true, true, true, true, true, true, true, false, false, false, false] rfl rfl (any_of HT_.out (by kernel_rfl)) (fun _ _ _ h => h) (Or.inr ⟨by rfl, rfl⟩) ?_ ?_
                rotate_left
                · simp only [Act.put, List.setIfInBounds_toArray, List.set_cons_zero, List.set_cons_succ, i64_w, i32_w]
                  rfl
                refine pure_ (i := 20) (N := some 63) (v := undef) (a' := ?_) #[true, true, true, true, true, true, true, true, true, true, true, true, true, true, true, true, true, true, true, true, true, false, false, false] rfl rfl (any_of HT_.out (by kernel_rfl)) (fun _ _ _ h => h) (Or.inr ⟨by rfl, rfl⟩) ?_ ?_
                rotate_left
                · simp only [Act.put, List.setIfInBounds_toArray, List.set_cons_zero, List.set_cons_succ, i64_w, i32_w]
                  rfl
                refine pure_ (i := 21) (N := some 64) (v := undef) (a' := ?_) #[true, true, true, true, true, true, true, true, true, true, true, true, true, true, true, true, true, true, true, true, true, true, false, false] rfl rfl (any_of HT_.out (by kernel_rfl)) (fun _ _ _ h => h) (Or.inr ⟨by rfl, rfl⟩) ?_ ?_
                rotate_left
                · simp only [Act.put, List.setIfInBounds_toArray, List.set_cons_zero, List.set_cons_succ, i64_w, i32_w]
                  rfl
                refine pure_ (i := 22) (N := some 65) (v := undef) (a' := ?_) #[true, true, true, true, true, true, true, true, true, true, true, true, true, true, true, true, true, true, true, true, true, true, true, false] rfl rfl (any_of HT_.out (by kernel_rfl)) (fun _ _ _ h => h) (Or.inr ⟨by rfl, rfl⟩) ?_ ?_
                rotate_left
                · simp only [Act.put, List.setIfInBounds_toArray, List.set_cons_zero, List.set_cons_succ, i64_w, i32_w]
                  rfl
                refine pure_ (i := 23) (N := some 66) (v := ?_) (a' := ?_) #[true, true, true, true, true, true, true, true, true, true, true, true, true, true, true, true, true, true, true, true, true, true, true, true] rfl rfl (any_of HT_.out (by kernel_rfl)) (fun _ _ _ h => h) (Or.inl ⟨by rfl, ?_⟩) ?_ ?_
                rotate_left
                · intro w'
                  go_simp
                  with_reducible rfl
                rotate_left
                · simp only [Act.put, List.setIfInBounds_toArray, List.set_cons_zero, List.set_cons_succ, i64_w, i32_w]
                  rfl
                refine done_ (done_of HT_.out (by kernel_rfl)) ?_
                try go_wp2
                go_ret
                exact ⟨by first | rfl | (simp [errW_none, errW_some] <;> rfl) | (simp [*, errW_none, errW_some] <;> rfl), by repeat (first | (with_reducible first | exact HB.out | apply below_alloc | apply pw_below_drewN | apply below_drew1) | exact HB.out)⟩
              · rw [if_neg c36] at H
                have c36b0 : decide ((wrap64 (t278 + t280)) < 1) = false := decide_eq_false c36
                clear c36
                by_cases c41 : ((rd_T36 t274 x10_1).f1) = 1
                · rw [if_pos c41] at H
                  have c41b0 : (((rd_T36 t274 x10_1).f1) == 1) = true := beq_iff_eq.mpr c41
                  have c41b1 : (((rd_T36 t274 x10_1).f1) != 1) = false := bne_eq_false_iff_eq.mpr c41
                  clear c41
                  have H' := Aside0.mk H
                  clear H
                  obtain ⟨Ao42, co42, eo42⟩ := Kd.N_slice HO_9.out
                  subst eo42
                  try go_wp2
                  have n0_ := Aside0.mk (Kd.N_drew HO_5.out)
                  have n1_ := Aside0.mk (Kd.N_drew HO_6.out)
                  have n2_ := Aside0.mk (Kd.N_drew HO_7.out)
                  have n3_ := Aside0.mk (Kd.N_drew HO_9.out)
                  have n4_ := Aside0.mk (below_drew1 HB.out)
                  clear HO_5
                  clear HO_6
                  clear HO_7
                  clear HO_9
                  clear HB
                  have HO_5 := n0_
                  have HO_6 := n1_
                  have HO_7 := n2_
                  have HO_9 := n3_
                  have HB := n4_
                  clear n0_ n1_ n2_ n3_ n4_
                  have p277 : 0 ≤ (x10_1 : Int) := of_decide_eq_true (by first | (with_reducible assumption) | assumption)
                  have q277 : x10_1 < (t274.length : Int) := of_decide_eq_true (by first | (with_reducible assumption) | assumption)
                  obtain ⟨ad277, A277_0, c277_0, e277, hx277_0, hx277_1, hl277_0, hi277_0⟩ := at_T36 (Kd.N_reads' HO_9.out).2.2 x10_1 p277 q277
                  cases e277
                  obtain ⟨ce277, hce277, hMe277, hcc277⟩ := Kd.N_get HO_9.out z36 x10_1 p277 (by first | exact q277 | exact of_decide_eq_true (by first | (with_reducible assumption) | assumption) | (have e_ := (Kd.N_reads' HO_9.out).1; omega))
                  obtain ⟨ua277_0, uc277_0, rfl, ul277_0, ge277_0⟩ := k36_openF hMe277
                  have hv277_0 := hcc277 0 _ rfl
                  rw [Nat.add_zero] at hv277_0
                  replace hv277_0 := Option.some.inj (hv277_0.symm.trans hx277_0)
                  injection hv277_0 with hva_ hvn_ hvc_
                  rw [hva_] at ge277_0
                  rw [hvc_] at ul277_0
                  have HL277_0 := Aside0.mk (show Kd.V k41 41 _ w.heap.size _ _ ((rd_T36 t274 x10_1).f0) from Kd.V_mk ul277_0 ge277_0)
                  clear hva_ hvn_ hvc_ ge277_0 ul277_0
                  clear hcc277 hce277
                  have HR277_0 := Aside0.mk hi277_0
                  have HC277_0 := Aside0.mk hl277_0
                  clear hi277_0 hl277_0
                  replace p277 := eq_true p277
                  replace q277 := eq_true q277
                  have p279 : 0 ≤ (x10_1 : Int) := of_decide_eq_true (by first | (with_reducible assumption) | assumption)
                  have q279 : x10_1 < (t274.length : Int) := of_decide_eq_true (by first | (with_reducible assumption) | assumption)
                  obtain ⟨ad279, A279_0, c279_0, e279, hx279_0, hx279_1, hl279_0, hi279_0⟩ := at_T36 (Kd.N_reads' HO_9.out).2.2 x10_1 p279 q279
                  obtain rfl : ad277 = ad279 := (by injection e279)
                  obtain ⟨ce279, hce279, hMe279, hcc279⟩ := Kd.N_get HO_9.out z36 x10_1 p279 (by first | exact q279 | exact of_decide_eq_true (by first | (with_reducible assumption) | assumption) | (have e_ := (Kd.N_reads' HO_9.out).1; omega))
                  obtain ⟨ua279_0, uc279_0, rfl, ul279_0, ge279_0⟩ := k36_openF hMe279
                  have hv279_0 := hcc279 0 _ rfl
                  rw [Nat.add_zero] at hv279_0
                  replace hv279_0 := Option.some.inj (hv279_0.symm.trans hx279_0)
                  injection hv279_0 with hva_ hvn_ hvc_
                  rw [hva_] at ge279_0
                  rw [hvc_] at ul279_0
                  have HL279_0 := Aside0.mk (show Kd.V k41 41 _ w.heap.size _ _ ((rd_T36 t274 x10_1).f0) from Kd.V_mk ul279_0 ge279_0)
                  clear hva_ hvn_ hvc_ ge279_0 ul279_0
                  clear hcc279 hce279
                  have HR279_0 := Aside0.mk hi279_0
                  have HC279_0 := Aside0.mk hl279_0
                  clear hi279_0 hl279_0
                  replace p279 := eq_true p279
                  replace q279 := eq_true q279
                  have ea_ := Option.some.inj (hx277_0.symm.trans hx279_0)
                  injection ea_ with ea_ en_ ec_
                  subst ea_
                  subst ec_
                  clear en_
                  have p281 : 0 ≤ (x10_1 : Int) := of_decide_eq_true (by first | (with_reducible assumption) | assumption)
                  have q281 : x10_1 < (t274.length : Int) := of_decide_eq_true (by first | (with_reducible assumption) | assumption)
                  obtain ⟨ad281, A281_0, c281_0, e281, hx281_0, hx281_1, hl281_0, hi281_0⟩ := at_T36 (Kd.N_reads' HO_9.out).2.2 x10_1 p281 q281
                  obtain rfl : ad277 = ad281 := (by injection e281)
                  obtain ⟨ce281, hce281, hMe281, hcc281⟩ := Kd.N_get HO_9.out z36 x10_1 p281 (by first | exact q281 | exact of_decide_eq_true (by first | (with_reducible assumption) | assumption) | (have e_ := (Kd.N_reads' HO_9.out).1; omega))
                  obtain ⟨ua281_0, uc281_0, rfl, ul281_0, ge281_0⟩ := k36_openF hMe281
                  have hv281_0 := hcc281 0 _ rfl
                  rw [Nat.add_zero] at hv281_0
                  replace hv281_0 := Option.some.inj (hv281_0.symm.trans hx281_0)
                  injection hv281_0 with hva_ hvn_ hvc_
                  rw [hva_] at ge281_0
                  rw [hvc_] at ul281_0
                  have HL281_0 := Aside0.mk (show Kd.V k41 41 _ w.heap.size _ _ ((rd_T36 t274 x10_1).f0) from Kd.V_mk ul281_0 ge281_0)
                  clear hva_ hvn_ hvc_ ge281_0 ul281_0
                  clear hcc281 hce281
                  have HR281_0 := Aside0.mk hi281_0
                  have HC281_0 := Aside0.mk hl281_0
                  clear hi281_0 hl281_0
                  replace p281 := eq_true p281
                  replace q281 := eq_true q281
                  refine start_ (n := 24) (S := fun w' => w'.cell? (ad277.add ((x10_1).toNat * 2)) = some (.slice A277_0 ((rd_T36 t274 x10_1).f0).length c277_0) ∧ w'.cell? ⟨(ad277.add ((x10_1).toNat * 2)).block, (ad277.add ((x10_1).toNat * 2)).off + 1, none⟩ = some (.int .i64 ((rd_T36 t274 x10_1).f1)) ∧ w'.cell? (ad277.add ((x10_1).toNat * 2)) = some (.slice A277_0 ((rd_T36 t274 x10_1).f0).length c277_0) ∧ w'.cell? ⟨(ad277.add ((x10_1).toNat * 2)).block, (ad277.add ((x10_1).toNat * 2)).off + 1, none⟩ = some (.int .i64 ((rd_T36 t274 x10_1).f1)) ∧ w'.cell? (ad277.add ((x10_1).toNat * 2)) = some (.slice A281_0 ((rd_T36 t274 x10_1).f0).length c281_0) ∧ w'.cell? ⟨(ad277.add ((x10_1).toNat * 2)).block, (ad277.add ((x10_1).toNat * 2)).off + 1, none⟩ = some (.int .i64 ((rd_T36 t274 x10_1).f1))) (ds := []) #[false, false, false, false, false, false, false, false, false, false, false, false, false, false, false, false, false, false, false, false, false, false, false, false] (by kernel_rfl) rfl rfl ⟨hx277_0, hx277_1, hx279_0, hx279_1, hx281_0, hx281_1⟩ (fun hHeld => ?_); refine with_tabW belvederelaw13_OnceSums.tab14 belvederelaw13_OnceSums.bits14 (fun HT_ HW_ => ?_)
                  generalize wr.drew = w43 at HO_5 HO_6 HO_7 HO_9 HB HL277_0 HL279_0 HL281_0 HR277_0 HR279_0 HR281_0 hx277_0 hx277_1 hx279_0 hx279_1 hx281_0 hx281_1 hHeld ⊢
                  refine pure_ (i := 0) (N := some 43) (v := ?_) (a' := ?_) #[true, false, false, false, false, false, false, false, false, false, false, false, false, false, false, false, false, false, false, false, false, false, false, false] rfl rfl (any_of HT_.out (by kernel_rfl)) (fun _ _ _ h => h) (Or.inl ⟨by rfl, ?_⟩) ?_ ?_
                  rotate_left
                  · intro w'
                    go_simp
                    with_reducible rfl
                  rotate_left
                  · simp only [Act.put, List.setIfInBounds_toArray, List.set_cons_zero, List.set_cons_succ, i64_w, i32_w]
                    rfl
                  refine pure_ (i := 1) (N := some 44) (v := ?_) (a' := ?_) #[true, true, false, false, false, false, false, false, false, false, false, false, false, false, false, false, false, false, false, false, false, false, false, false] rfl rfl (any_of HT_.out (by kernel_rfl)) (fun _ _ _ h => h) (Or.inl ⟨by rfl, ?_⟩) ?_ ?_
                  rotate_left
                  · intro w'
                    go_simp
                    with_reducible rfl
                  rotate_left
                  · simp only [Act.put, List.setIfInBounds_toArray, List.set_cons_zero, List.set_cons_succ, i64_w, i32_w]
                    rfl
                  refine pure_ (i := 2) (N := some 45) (v := ?_) (a' := ?_) #[true, true, true, false, false, false, false, false, false, false, false, false, false, false, false, false, false, false, false, false, false, false, false, false] rfl rfl (any_of HT_.out (by kernel_rfl)) (fun _ _ _ h => h) (Or.inl ⟨by rfl, ?_⟩) ?_ ?_
                  rotate_left
                  · intro w'
                    go_simp
                    with_reducible rfl
                  rotate_left
                  · simp only [Act.put, List.setIfInBounds_toArray, List.set_cons_zero, List.set_cons_succ, i64_w, i32_w]
                    rfl
                  refine pure_ (i := 3) (N := some 46) (v := ?_) (a' := ?_) #[true, true, true, true, false, false, false, false, false, false, false, false, false, false, false, false, false, false, false, false, false, false, false, false] rfl rfl (any_of HT_.out (by kernel_rfl)) (fun _ _ _ h => h) (Or.inl ⟨by rfl, ?_⟩) ?_ ?_
                  rotate_left
                  · intro w'
                    go_simp
                    with_reducible rfl
                  rotate_left
                  · simp only [Act.put, List.setIfInBounds_toArray, List.set_cons_zero, List.set_cons_succ, i64_w, i32_w]
                    rfl
                  refine pure_ (i := 4) (N := some 47) (v := ?_) (a' := ?_) #[true, true, true, true, true, false, false, false, false, false, false, false, false, false, false, false, false, false, false, false, false, false, false, false] rfl rfl (any_of HT_.out (by kernel_rfl)) (fun _ _ _ h => h) (Or.inl ⟨by rfl, ?_⟩) ?_ ?_
                  rotate_left
                  · intro w'
                    go_simp
                    with_reducible rfl
                  rotate_left
                  · simp only [Act.put, List.setIfInBounds_toArray, List.set_cons_zero, List.set_cons_succ, i64_w, i32_w]
                    rfl
                  refine pure_ (i := 7) (N := some 50) (v := ?_) (a' := ?_) #[true, true, true, true, true, false, false, true, false, false, false, false, false, false, false, false, false, false, false, false, false, false, false, false] rfl rfl (any_of HT_.out (by kernel_rfl)) (fun _ _ _ h => h) (Or.inl ⟨by rfl, ?_⟩) ?_ ?_
                  rotate_left
                  · intro w'
                    go_simp
                    with_reducible rfl
                  rotate_left
                  · simp only [Act.put, List.setIfInBounds_toArray, List.set_cons_zero, List.set_cons_succ, i64_w, i32_w]
                    rfl
                  refine pure_ (i := 8) (N := some 51) (v := ?_) (a' := ?_) #[true, true, true, true, true, false, false, true, true, false, false, false, false, false, false, false, false, false, false, false, false, false, false, false] rfl rfl (any_of HT_.out (by kernel_rfl)) (fun _ _ _ h => h) (Or.inl ⟨by rfl, ?_⟩) ?_ ?_
                  rotate_left
                  · intro w'
                    go_simp
                    with_reducible rfl
                  rotate_left
                  · simp only [Act.put, List.setIfInBounds_toArray, List.set_cons_zero, List.set_cons_succ, i64_w, i32_w]
                    rfl
                  refine pure_ (i := 9) (N := some 52) (v := ?_) (a' := ?_) #[true, true, true, true, true, false, false, true, true, true, false, false, false, false, false, false, false, false, false, false, false, false, false, false] rfl rfl (any_of HT_.out (by kernel_rfl)) (fun _ _ _ h => h) (Or.inl ⟨by rfl, ?_⟩) ?_ ?_
                  rotate_left
                  · intro w'
                    go_simp
                    with_reducible rfl
                  rotate_left
                  · simp only [Act.put, List.setIfInBounds_toArray, List.set_cons_zero, List.set_cons_succ, i64_w, i32_w]
                    rfl
                  refine pure_ (i := 10) (N := some 53) (v := ?_) (a' := ?_) #[true, true, true, true, true, false, false, true, true, true, true, false, false, false, false, false, false, false, false, false, false, false, false, false] rfl rfl (any_of HT_.out (by kernel_rfl)) (fun _ _ _ h => h) (Or.inl ⟨by rfl, ?_⟩) ?_ ?_
                  rotate_left
                  · intro w'
                    go_simp
                    with_reducible rfl
                  rotate_left
                  · simp only [Act.put, List.setIfInBounds_toArray, List.set_cons_zero, List.set_cons_succ, i64_w, i32_w]
                    rfl
                  refine pure_ (i := 11) (N := some 54) (v := ?_) (a' := ?_) #[true, true, true, true, true, false, false, true, true, true, true, true, false, false, false, false, false, false, false, false, false, false, false, false] rfl rfl (any_of HT_.out (by kernel_rfl)) (fun _ _ _ h => h) (Or.inl ⟨by rfl, ?_⟩) ?_ ?_
                  rotate_left
                  · intro w'
                    go_simp
                    with_reducible rfl
                  rotate_left
                  · simp only [Act.put, List.setIfInBounds_toArray, List.set_cons_zero, List.set_cons_succ, i64_w, i32_w]
                    rfl
                  refine take_ (i := 5) (N := some 48) (v := ?_) (a' := ?_) #[true, true, true, true, true, true, false, true, true, true, true, true, false, false, false, false, false, false, false, false, false, false, false, false] rfl rfl (take_ofW HT_.out HW_.out (by kernel_rfl)) (fun _ _ _ h => h) (Or.inl ⟨by rfl, ?_⟩) hHeld ?_ ?_
                  rotate_left
                  · rintro w' ⟨s0, s1, s2, s3, s4, s5⟩
                    go_simp
                    with_reducible rfl
                  rotate_left
                  · simp only [Act.put, List.setIfInBounds_toArray, List.set_cons_zero, List.set_cons_succ, i64_w, i32_w]
                    rfl
                  refine take_ (i := 12) (N := some 55) (v := ?_) (a' := ?_) #[true, true, true, true, true, true, false, true, true, true, true, true, true, false, false, false, false, false, false, false, false, false, false, false] rfl rfl (take_ofW HT_.out HW_.out (by kernel_rfl)) (fun _ _ _ h => h) (Or.inl ⟨by rfl, ?_⟩) hHeld ?_ ?_
                  rotate_left
                  · rintro w' ⟨s0, s1, s2, s3, s4, s5⟩
                    go_simp
                    with_reducible rfl
                  rotate_left
                  · simp only [Act.put, List.setIfInBounds_toArray, List.set_cons_zero, List.set_cons_succ, i64_w, i32_w]
                    rfl
                  refine one_ (i := 6) (N := some 49) #[true, true, true, true, true, true, true, true, true, true, true, true, true, false, false, false, false, false, false, false, false, false, false, false] rfl rfl (one_of HT_.out (by kernel_rfl)) (by decide) (fun K hK => ?_)
                  refine goes_ Try.func16 (by kernel_rfl) rfl #[.slice Ao27 t257.length co27, .slice A277_0 ((rd_T36 t274 x10_1).f0).length c277_0] (by rfl) rfl rfl (by (try simp only [List.map_toArray, List.map_cons, List.map_nil]); first | done | rfl | (simp only [List.length_drop, List.length_take]; rfl)) ?_
                  with_reducible refine (belvedereref1_Get.calls k1 _ _ t257 _ _ ((rd_T36 t274 x10_1).f0) t278 _ ?side1 ?side2 ?side3 ?side4 A34.out).mono ?_
                  (case side1 => repeat (first | exact (Kd.N_reads' HO_5.out).2.2 | (with_reducible refine Kd.C_alloc ?_ _) | (with_reducible refine Kd.C_drewN ?_ _) | (with_reducible refine Kd.C_drew ?_)))
                  (case side2 => exact (Kd.N_reads' HO_5.out).2.1)
                  (case side3 => repeat (first | exact (by repeat (first | (with_reducible exact HR277_0.out) | (with_reducible refine Kd.C_alloc ?_ _) | (with_reducible refine Kd.C_drewN ?_ _) | (with_reducible refine Kd.C_drew ?_) | exact HR277_0.out)) | (with_reducible refine Kd.C_alloc ?_ _) | (with_reducible refine Kd.C_drewN ?_ _) | (with_reducible refine Kd.C_drew ?_)))
                  (case side4 => exact HC277_0.out)
                  rintro e w44 ⟨rfl, hb⟩
                  have HS0_ := (hb.cell (World.block_lt_of_cell? _ _ (hHeld.1))).trans (hHeld.1)
                  have HS1_ := (hb.cell (World.block_lt_of_cell? _ _ (hHeld.2.1))).trans (hHeld.2.1)
                  have HS2_ := (hb.cell (World.block_lt_of_cell? _ _ (hHeld.2.2.1))).trans (hHeld.2.2.1)
                  have HS3_ := (hb.cell (World.block_lt_of_cell? _ _ (hHeld.2.2.2.1))).trans (hHeld.2.2.2.1)
                  have HS4_ := (hb.cell (World.block_lt_of_cell? _ _ (hHeld.2.2.2.2.1))).trans (hHeld.2.2.2.2.1)
                  have HS5_ := (hb.cell (World.block_lt_of_cell? _ _ (hHeld.2.2.2.2.2))).trans (hHeld.2.2.2.2.2)
                  refine ⟨_, rfl, ?_⟩
                  have n0_ := Aside0.mk (Kd.N_below (by (with_reducible repeat (first | apply Kd.N_alloc | apply Kd.N_drewN | apply Kd.N_drew)); exact HO_5.out) hb)
                  have n1_ := Aside0.mk (Kd.N_below (by (with_reducible repeat (first | apply Kd.N_alloc | apply Kd.N_drewN | apply Kd.N_drew)); exact HO_6.out) hb)
                  have n2_ := Aside0.mk (Kd.N_below (by (with_reducible repeat (first | apply Kd.N_alloc | apply Kd.N_drewN | apply Kd.N_drew)); exact HO_7.out) hb)
                  have n3_ := Aside0.mk (Kd.N_below (by (with_reducible repeat (first | apply Kd.N_alloc | apply Kd.N_drewN | apply Kd.N_drew)); exact HO_9.out) hb)
                  have n4_ := Aside0.mk (Kd.V_below (by (with_reducible repeat (first | apply Kd.V_alloc | apply Kd.V_drewN | apply Kd.V_drew)); exact HL277_0.out) hb)
                  have n5_ := Aside0.mk (Kd.V_below (by (with_reducible repeat (first | apply Kd.V_alloc | apply Kd.V_drewN | apply Kd.V_drew)); exact HL279_0.out) hb)
                  have n6_ := Aside0.mk (Kd.C_below (by repeat (first | (with_reducible exact HR277_0.out) | (with_reducible refine Kd.C_alloc ?_ _) | (with_reducible refine Kd.C_drewN ?_ _) | (with_reducible refine Kd.C_drew ?_) | exact HR277_0.out)) hb)
                  have n7_ := Aside0.mk (Kd.C_below (by repeat (first | (with_reducible exact HR279_0.out) | (with_reducible refine Kd.C_alloc ?_ _) | (with_reducible refine Kd.C_drewN ?_ _) | (with_reducible refine Kd.C_drew ?_) | exact HR279_0.out)) hb)
                  have n8_ := Aside0.mk (below_step (by repeat (first | (with_reducible first | exact HB.out | apply below_alloc | apply pw_below_drewN | apply below_drew1) | exact HB.out)) hb)
                  clear HO_5
                  clear HO_6
                  clear HO_7
                  clear HO_9
                  clear HL277_0
                  clear HL279_0
                  clear HR277_0
                  clear HR279_0
                  clear HB
                  have HO_5 := n0_
                  have HO_6 := n1_
                  have HO_7 := n2_
                  have HO_9 := n3_
                  have HL277_0 := n4_
                  have HL279_0 := n5_
                  have HR277_0 := n6_
                  have HR279_0 := n7_
                  have HB := n8_
                  clear n0_ n1_ n2_ n3_ n4_ n5_ n6_ n7_ n8_
                  (try clear hb)
                  (try clear hb2)
                  (try clear hk)
                  (try clear hi)
                  refine hK.out _ _ ⟨HS0_, HS1_, HS2_, HS3_, HS4_, HS5_⟩ (fun hHeld => ?_)
                  clear hK K
                  refine norm_ (a' := ?_) ?_ ?_
                  rotate_left
                  · show Act.put _ (some 49) _ = _
                    simp only [Act.put, List.setIfInBounds_toArray, List.set_cons_zero, List.set_cons_succ, i64_w, i32_w]
                    rfl
                  refine one_ (i := 13) (N := some 56) #[true, true, true, true, true, true, true, true, true, true, true, true, true, true, false, false, false, false, false, false, false, false, false, false] rfl rfl (one_of HT_.out (by kernel_rfl)) (by decide) (fun K hK => ?_)
                  refine goes_ Try.func16 (by kernel_rfl) rfl #[.slice Ao28 t267.length co28, .slice A277_0 ((rd_T36 t274 x10_1).f0).length c277_0] (by rfl) rfl rfl (by (try simp only [List.map_toArray, List.map_cons, List.map_nil]); first | done | rfl | (simp only [List.length_drop, List.length_take]; rfl)) ?_
                  with_reducible refine (belvedereref1_Get.calls k1 _ _ t267 _ _ ((rd_T36 t274 x10_1).f0) t280 _ ?side1 ?side2 ?side3 ?side4 A35.out).mono ?_
                  (case side1 => repeat (first | exact (Kd.N_reads' HO_6.out).2.2 | (with_reducible refine Kd.C_alloc ?_ _) | (with_reducible refine Kd.C_drewN ?_ _) | (with_reducible refine Kd.C_drew ?_)))
                  (case side2 => exact (Kd.N_reads' HO_6.out).2.1)
                  (case side3 => repeat (first | exact (by repeat (first | (with_reducible exact HR279_0.out) | (with_reducible refine Kd.C_alloc ?_ _) | (with_reducible refine Kd.C_drewN ?_ _) | (with_reducible refine Kd.C_drew ?_) | exact HR279_0.out)) | (with_reducible refine Kd.C_alloc ?_ _) | (with_reducible refine Kd.C_drewN ?_ _) | (with_reducible refine Kd.C_drew ?_)))
                  (case side4 => exact HC279_0.out)
                  rintro e w45 ⟨rfl, hb⟩
                  have HS0_ := (hb.cell (World.block_lt_of_cell? _ _ (hHeld.1))).trans (hHeld.1)
                  have HS1_ := (hb.cell (World.block_lt_of_cell? _ _ (hHeld.2.1))).trans (hHeld.2.1)
                  have HS2_ := (hb.cell (World.block_lt_of_cell? _ _ (hHeld.2.2.1))).trans (hHeld.2.2.1)
                  have HS3_ := (hb.cell (World.block_lt_of_cell? _ _ (hHeld.2.2.2.1))).trans (hHeld.2.2.2.1)
                  have HS4_ := (hb.cell (World.block_lt_of_cell? _ _ (hHeld.2.2.2.2.1))).trans (hHeld.2.2.2.2.1)
                  have HS5_ := (hb.cell (World.block_lt_of_cell? _ _ (hHeld.2.2.2.2.2))).trans (hHeld.2.2.2.2.2)
                  refine ⟨_, rfl, ?_⟩
                  have n0_ := Aside0.mk (Kd.N_below (by (with_reducible repeat (first | apply Kd.N_alloc | apply Kd.N_drewN | apply Kd.N_drew)); exact HO_5.out) hb)
                  have n1_ := Aside0.mk (Kd.N_below (by (with_reducible repeat (first | apply Kd.N_alloc | apply Kd.N_drewN | apply Kd.N_drew)); exact HO_6.out) hb)
                  have n2_ := Aside0.mk (Kd.N_below (by (with_reducible repeat (first | apply Kd.N_alloc | apply Kd.N_drewN | apply Kd.N_drew)); exact HO_7.out) hb)
                  have n3_ := Aside0.mk (Kd.N_below (by (with_reducible repeat (first | apply Kd.N_alloc | apply Kd.N_drewN | apply Kd.N_drew)); exact HO_9.out) hb)
                  have n4_ := Aside0.mk (Kd.V_below (by (with_reducible repeat (first | apply Kd.V_alloc | apply Kd.V_drewN | apply Kd.V_drew)); exact HL277_0.out) hb)
                  have n5_ := Aside0.mk (Kd.V_below (by (with_reducible repeat (first | apply Kd.V_alloc | apply Kd.V_drewN | apply Kd.V_drew)); exact HL279_0.out) hb)
                  have n6_ := Aside0.mk (Kd.C_below (by repeat (first | (with_reducible exact HR277_0.out) | (with_reducible refine Kd.C_alloc ?_ _) | (with_reducible refine Kd.C_drewN ?_ _) | (with_reducible refine Kd.C_drew ?_) | exact HR277_0.out)) hb)
                  have n7_ := Aside0.mk (Kd.C_below (by repeat (first | (with_reducible exact HR279_0.out) | (with_reducible refine Kd.C_alloc ?_ _) | (with_reducible refine Kd.C_drewN ?_ _) | (with_reducible refine Kd.C_drew ?_) | exact HR279_0.out)) hb)
                  have n8_ := Aside0.mk (below_step (by repeat (first | (with_reducible first | exact HB.out | apply below_alloc | apply pw_below_drewN | apply below_drew1) | exact HB.out)) hb)
                  clear HO_5
                  clear HO_6
                  clear HO_7
                  clear HO_9
                  clear HL277_0
                  clear HL279_0
                  clear HR277_0
                  clear HR279_0
                  clear HB
                  have HO_5 := n0_
                  have HO_6 := n1_
                  have HO_7 := n2_
                  have HO_9 := n3_
                  have HL277_0 := n4_
                  have HL279_0 := n5_
                  have HR277_0 := n6_
                  have HR279_0 := n7_
                  have HB := n8_
                  clear n0_ n1_ n2_ n3_ n4_ n5_ n6_ n7_ n8_
                  (try clear hb)
                  (try clear hb2)
                  (try clear hk)
                  (try clear hi)
                  refine hK.out _ _ ⟨HS0_, HS1_, HS2_, HS3_, HS4_, HS5_⟩ (fun hHeld => ?_)
                  clear hK K
                  refine norm_ (a' := ?_) ?_ ?_
                  rotate_left
                  · show Act.put _ (some 56) _ = _
                    simp only [Act.put, List.setIfInBounds_toArray, List.set_cons_zero, List.set_cons_succ, i64_w, i32_w]
                    rfl
                  refine pure_ (i := 14) (N := some 57) (v := ?_) (a' := ?_) #[true, true, true, true, true, true, true, true, true, true, true, true, true, true, true, false, false, false, false, false, false, false, false, false] rfl rfl (any_of HT_.out (by kernel_rfl)) (fun _ _ _ h => h) (Or.inl ⟨by rfl, ?_⟩) ?_ ?_
                  rotate_left
                  · intro w'
                    go_simp
                    with_reducible rfl
                  rotate_left
                  · simp only [Act.put, List.setIfInBounds_toArray, List.set_cons_zero, List.set_cons_succ, i64_w, i32_w]
                    rfl
                  refine pure_ (i := 15) (N := some 58) (v := ?_) (a' := ?_) #[true, true, true, true, true, true, true, true, true, true, true, true, true, true, true, true, false, false, false, false, false, false, false, false] rfl rfl (any_of HT_.out (by kernel_rfl)) (fun _ _ _ h => h) (Or.inl ⟨by rfl, ?_⟩) ?_ ?_
                  rotate_left
                  · intro w'
                    go_simp
                    with_reducible rfl
                  rotate_left
                  · simp only [Act.put, List.setIfInBounds_toArray, List.set_cons_zero, List.set_cons_succ, i64_w, i32_w]
                    rfl
                  refine pure_ (i := 16) (N := some 59) (v := ?_) (a' := ?_) #[true, true, true, true, true, true, true, true, true, true, true, true, true, true, true, true, true, false, false, false, false, false, false, false] rfl rfl (any_of HT_.out (by kernel_rfl)) (fun _ _ _ h => h) (Or.inl ⟨by rfl, ?_⟩) ?_ ?_
                  rotate_left
                  · intro w'
                    go_simp
                    with_reducible rfl
                  rotate_left
                  · simp only [Act.put, List.setIfInBounds_toArray, List.set_cons_zero, List.set_cons_succ, i64_w, i32_w]
                    rfl
                  refine pure_ (i := 17) (N := some 60) (v := ?_) (a' := ?_) #[true, true, true, true, true, true, true, true, true, true, true, true, true, true, true, true, true, true, false, false, false, false, false, false] rfl rfl (any_of HT_.out (by kernel_rfl)) (fun _ _ _ h => h) (Or.inl ⟨by rfl, ?_⟩) ?_ ?_
                  rotate_left
                  · intro w'
                    go_simp
                    with_reducible rfl
                  rotate_left
                  · simp only [Act.put, List.setIfInBounds_toArray, List.set_cons_zero, List.set_cons_succ, i64_w, i32_w]
                    rfl
                  refine pure_ (i := 18) (N := some 61) (v := ?_) (a' := ?_) #[true, true, true, true, true, true, true, true, true, true, true, true, true, true, true, true, true, true, true, false, false, false, false, false] rfl rfl (any_of HT_.out (by kernel_rfl)) (fun _ _ _ h => h) (Or.inl ⟨by rfl, ?_⟩) ?_ ?_
                  rotate_left
                  · intro w'
                    go_simp
                    with_reducible rfl
                  rotate_left
                  · simp only [Act.put, List.setIfInBounds_toArray, List.set_cons_zero, List.set_cons_succ, i64_w, i32_w]
                    rfl
                  refine pure_ (i := 19) (N := some 62) (v := ?_) (a' := ?_) #[true, true, true, true, true, true, true, true, true, true, true, true, true, true, true, true, true, true, true, true, false, false, false, false] rfl rfl (any_of HT_.out (by kernel_rfl)) (fun _ _ _ h => h) (Or.inl ⟨by rfl, ?_⟩) ?_ ?_
                  rotate_left
                  · intro w'
                    go_simp
                    with_reducible rfl
                  rotate_left
                  · simp only [Act.put, List.setIfInBounds_toArray, List.set_cons_zero, List.set_cons_succ, i64_w, i32_w]
                    rfl
                  refine pure_ (i := 20) (N := some 63) (v := ?_) (a' := ?_) #[true, true, true, true, true, true, true, true, true, true, true, true, true, true, true, true, true, true, true, true, true, false, false, false] rfl rfl (any_of HT_.out (by kernel_rfl)) (fun _ _ _ h => h) (Or.inl ⟨by rfl, ?_⟩) ?_ ?_
                  rotate_left
                  · intro w'
                    go_simp
                    with_reducible rfl
                  rotate_left
                  · simp only [Act.put, List.setIfInBounds_toArray, List.set_cons_zero, List.set_cons_succ, i64_w, i32_w]
                    rfl
                  refine take_ (i := 21) (N := some 64) (v := ?_) (a' := ?_) #[true, true, true, true, true, true, true, true, true, true, true, true, true, true, true, true, true, true, true, true, true, true, false, false] rfl rfl (take_ofW HT_.out HW_.out (by kernel_rfl)) (fun _ _ _ h => h) (Or.inl ⟨by rfl, ?_⟩) hHeld ?_ ?_
                  rotate_left
                  · rintro w' ⟨s0, s1, s2, s3, s4, s5⟩
                    go_simp
                    with_reducible rfl
                  rotate_left
                  · simp only [Act.put, List.setIfInBounds_toArray, List.set_cons_zero, List.set_cons_succ, i64_w, i32_w]
                    rfl
                  refine pure_ (i := 22) (N := some 65) (v := ?_) (a' := ?_) #[true, true, true, true, true, true, true, true, true, true, true, true, true, true, true, true, true, true, true, true, true, true, true, false] rfl rfl (any_of HT_.out (by kernel_rfl)) (fun _ _ _ h => h) (Or.inl ⟨by rfl, ?_⟩) ?_ ?_
                  rotate_left
                  · intro w'
                    go_simp
                    with_reducible rfl
                  rotate_left
                  · simp only [Act.put, List.setIfInBounds_toArray, List.set_cons_zero, List.set_cons_succ, i64_w, i32_w]
                    rfl
                  refine pure_ (i := 23) (N := some 66) (v := ?_) (a' := ?_) #[true, true, true, true, true, true, true, true, true, true, true, true, true, true, true, true, true, true, true, true, true, true, true, true] rfl rfl (any_of HT_.out (by kernel_rfl)) (fun _ _ _ h => h) (Or.inl ⟨by rfl, ?_⟩) ?_ ?_
                  rotate_left
                  · intro w'
                    go_simp
                    with_reducible rfl
                  rotate_left
                  · simp only [Act.put, List.setIfInBounds_toArray, List.set_cons_zero, List.set_cons_succ, i64_w, i32_w]
                    rfl
                  refine done_ (done_of HT_.out (by kernel_rfl)) ?_
                  try go_wp2
                  go_roundg k1
                  case measure => have := HK1.out; omega
                  case rel => exact ⟨(wrap64 (x10_1 + 1)), (by first | rfl | (simp; done) | (simp [*]; done)), H', ⟨by have := HK1.out; omega⟩, ⟨by (with_reducible repeat (first | apply Kd.N_alloc | apply Kd.N_drewN | apply Kd.N_drew)); exact HO_5.out⟩, ⟨by (with_reducible repeat (first | apply Kd.N_alloc | apply Kd.N_drewN | apply Kd.N_drew)); exact HO_6.out⟩, ⟨by (with_reducible repeat (first | apply Kd.N_alloc | apply Kd.N_drewN | apply Kd.N_drew)); exact HO_7.out⟩, ⟨by (with_reducible repeat (first | apply Kd.N_alloc | apply Kd.N_drewN | apply Kd.N_drew)); exact HO_9.out⟩, ⟨by repeat (first | (with_reducible first | exact HB.out | apply below_alloc | apply pw_below_drewN | apply below_drew1) | exact HB.out)⟩⟩
                · rw [if_neg c41] at H
                  have c41b0 : (((rd_T36 t274 x10_1).f1) == 1) = false := beq_eq_false_iff_ne.mpr c41
                  have c41b1 : (((rd_T36 t274 x10_1).f1) != 1) = true := bne_iff_ne.mpr c41
                  obtain rfl := Option.some.inj H
                  obtain ⟨Ao46, co46, eo46⟩ := Kd.N_slice HO_9.out
                  subst eo46
                  try go_wp2
                  have n0_ := Aside0.mk (Kd.N_drew HO_5.out)
                  have n1_ := Aside0.mk (Kd.N_drew HO_6.out)
                  have n2_ := Aside0.mk (Kd.N_drew HO_7.out)
                  have n3_ := Aside0.mk (Kd.N_drew HO_9.out)
                  have n4_ := Aside0.mk (below_drew1 HB.out)
                  clear HO_5
                  clear HO_6
                  clear HO_7
                  clear HO_9
                  clear HB
                  have HO_5 := n0_
                  have HO_6 := n1_
                  have HO_7 := n2_
                  have HO_9 := n3_
                  have HB := n4_
                  clear n0_ n1_ n2_ n3_ n4_
                  have p277 : 0 ≤ (x10_1 : Int) := of_decide_eq_true (by first | (with_reducible assumption) | assumption)
                  have q277 : x10_1 < (t274.length : Int) := of_decide_eq_true (by first | (with_reducible assumption) | assumption)
                  obtain ⟨ad277, A277_0, c277_0, e277, hx277_0, hx277_1, hl277_0, hi277_0⟩ := at_T36 (Kd.N_reads' HO_9.out).2.2 x10_1 p277 q277
                  cases e277
                  obtain ⟨ce277, hce277, hMe277, hcc277⟩ := Kd.N_get HO_9.out z36 x10_1 p277 (by first | exact q277 | exact of_decide_eq_true (by first | (with_reducible assumption) | assumption) | (have e_ := (Kd.N_reads' HO_9.out).1; omega))
                  obtain ⟨ua277_0, uc277_0, rfl, ul277_0, ge277_0⟩ := k36_openF hMe277
                  have hv277_0 := hcc277 0 _ rfl
                  rw [Nat.add_zero] at hv277_0
                  replace hv277_0 := Option.some.inj (hv277_0.symm.trans hx277_0)
                  injection hv277_0 with hva_ hvn_ hvc_
                  rw [hva_] at ge277_0
                  rw [hvc_] at ul277_0
                  have HL277_0 := Aside0.mk (show Kd.V k41 41 _ w.heap.size _ _ ((rd_T36 t274 x10_1).f0) from Kd.V_mk ul277_0 ge277_0)
                  clear hva_ hvn_ hvc_ ge277_0 ul277_0
                  clear hcc277 hce277
                  have HR277_0 := Aside0.mk hi277_0
                  have HC277_0 := Aside0.mk hl277_0
                  clear hi277_0 hl277_0
                  replace p277 := eq_true p277
                  replace q277 := eq_true q277
                  have p279 : 0 ≤ (x10_1 : Int) := of_decide_eq_true (by first | (with_reducible assumption) | assumption)
                  have q279 : x10_1 < (t274.length : Int) := of_decide_eq_true (by first | (with_reducible assumption) | assumption)
                  obtain ⟨ad279, A279_0, c279_0, e279, hx279_0, hx279_1, hl279_0, hi279_0⟩ := at_T36 (Kd.N_reads' HO_9.out).2.2 x10_1 p279 q279
                  obtain rfl : ad277 = ad279 := (by injection e279)
                  obtain ⟨ce279, hce279, hMe279, hcc279⟩ := Kd.N_get HO_9.out z36 x10_1 p279 (by first | exact q279 | exact of_decide_eq_true (by first | (with_reducible assumption) | assumption) | (have e_ := (Kd.N_reads' HO_9.out).1; omega))
                  obtain ⟨ua279_0, uc279_0, rfl, ul279_0, ge279_0⟩ := k36_openF hMe279
                  have hv279_0 := hcc279 0 _ rfl
                  rw [Nat.add_zero] at hv279_0
                  replace hv279_0 := Option.some.inj (hv279_0.symm.trans hx279_0)
                  injection hv279_0 with hva_ hvn_ hvc_
                  rw [hva_] at ge279_0
                  rw [hvc_] at ul279_0
                  have HL279_0 := Aside0.mk (show Kd.V k41 41 _ w.heap.size _ _ ((rd_T36 t274 x10_1).f0) from Kd.V_mk ul279_0 ge279_0)
                  clear hva_ hvn_ hvc_ ge279_0 ul279_0
                  clear hcc279 hce279
                  have HR279_0 := Aside0.mk hi279_0
                  have HC279_0 := Aside0.mk hl279_0
                  clear hi279_0 hl279_0
                  replace p279 := eq_true p279
                  replace q279 := eq_true q279
                  have ea_ := Option.some.inj (hx277_0.symm.trans hx279_0)
                  injection ea_ with ea_ en_ ec_
                  subst ea_
                  subst ec_
                  clear en_
                  have p281 : 0 ≤ (x10_1 : Int) := of_decide_eq_true (by first | (with_reducible assumption) | assumption)
                  have q281 : x10_1 < (t274.length : Int) := of_decide_eq_true (by first | (with_reducible assumption) | assumption)
                  obtain ⟨ad281, A281_0, c281_0, e281, hx281_0, hx281_1, hl281_0, hi281_0⟩ := at_T36 (Kd.N_reads' HO_9.out).2.2 x10_1 p281 q281
                  obtain rfl : ad277 = ad281 := (by injection e281)
                  obtain ⟨ce281, hce281, hMe281, hcc281⟩ := Kd.N_get HO_9.out z36 x10_1 p281 (by first | exact q281 | exact of_decide_eq_true (by first | (with_reducible assumption) | assumption) | (have e_ := (Kd.N_reads' HO_9.out).1; omega))
                  obtain ⟨ua281_0, uc281_0, rfl, ul281_0, ge281_0⟩ := k36_openF hMe281
                  have hv281_0 := hcc281 0 _ rfl
                  rw [Nat.add_zero] at hv281_0
                  replace hv281_0 := Option.some.inj (hv281_0.symm.trans hx281_0)
                  injection hv281_0 with hva_ hvn_ hvc_
                  rw [hva_] at ge281_0
                  rw [hvc_] at ul281_0
                  have HL281_0 := Aside0.mk (show Kd.V k41 41 _ w.heap.size _ _ ((rd_T36 t274 x10_1).f0) from Kd.V_mk ul281_0 ge281_0)
                  clear hva_ hvn_ hvc_ ge281_0 ul281_0
                  clear hcc281 hce281
                  have HR281_0 := Aside0.mk hi281_0
                  have HC281_0 := Aside0.mk hl281_0
                  clear hi281_0 hl281_0
                  replace p281 := eq_true p281
                  replace q281 := eq_true q281
                  refine start_ (n := 24) (S := fun w' => w'.cell? (ad277.add ((x10_1).toNat * 2)) = some (.slice A277_0 ((rd_T36 t274 x10_1).f0).length c277_0) ∧ w'.cell? ⟨(ad277.add ((x10_1).toNat * 2)).block, (ad277.add ((x10_1).toNat * 2)).off + 1, none⟩ = some (.int .i64 ((rd_T36 t274 x10_1).f1)) ∧ w'.cell? (ad277.add ((x10_1).toNat * 2)) = some (.slice A277_0 ((rd_T36 t274 x10_1).f0).length c277_0) ∧ w'.cell? ⟨(ad277.add ((x10_1).toNat * 2)).block, (ad277.add ((x10_1).toNat * 2)).off + 1, none⟩ = some (.int .i64 ((rd_T36 t274 x10_1).f1)) ∧ w'.cell? (ad277.add ((x10_1).toNat * 2)) = some (.slice A281_0 ((rd_T36 t274 x10_1).f0).length c281_0) ∧ w'.cell? ⟨(ad277.add ((x10_1).toNat * 2)).block, (ad277.add ((x10_1).toNat * 2)).off + 1, none⟩ = some (.int .i64 ((rd_T36 t274 x10_1).f1))) (ds := []) #[false, false, false, false, false, false, false, false, false, false, false, false, false, false, false, false, false, false, false, false, false, false, false, false] (by kernel_rfl) rfl rfl ⟨hx277_0, hx277_1, hx279_0, hx279_1, hx281_0, hx281_1⟩ (fun hHeld => ?_); refine with_tabW belvederelaw13_OnceSums.tab14 belvederelaw13_OnceSums.bits14 (fun HT_ HW_ => ?_)
                  generalize wr.drew = w47 at HO_5 HO_6 HO_7 HO_9 HB HL277_0 HL279_0 HL281_0 HR277_0 HR279_0 HR281_0 hx277_0 hx277_1 hx279_0 hx279_1 hx281_0 hx281_1 hHeld ⊢
                  refine pure_ (i := 0) (N := some 43) (v := ?_) (a' := ?_) #[true, false, false, false, false, false, false, false, false, false, false, false, false, false, false, false, false, false, false, false, false, false, false, false] rfl rfl (any_of HT_.out (by kernel_rfl)) (fun _ _ _ h => h) (Or.inl ⟨by rfl, ?_⟩) ?_ ?_
                  rotate_left
                  · intro w'
                    go_simp
                    with_reducible rfl
                  rotate_left
                  · simp only [Act.put, List.setIfInBounds_toArray, List.set_cons_zero, List.set_cons_succ, i64_w, i32_w]
                    rfl
                  refine pure_ (i := 1) (N := some 44) (v := ?_) (a' := ?_) #[true, true, false, false, false, false, false, false, false, false, false, false, false, false, false, false, false, false, false, false, false, false, false, false] rfl rfl (any_of HT_.out (by kernel_rfl)) (fun _ _ _ h => h) (Or.inl ⟨by rfl, ?_⟩) ?_ ?_
                  rotate_left
                  · intro w'
                    go_simp
                    with_reducible rfl
                  rotate_left
                  · simp only [Act.put, List.setIfInBounds_toArray, List.set_cons_zero, List.set_cons_succ, i64_w, i32_w]
                    rfl
                  refine pure_ (i := 2) (N := some 45) (v := ?_) (a' := ?_) #[true, true, true, false, false, false, false, false, false, false, false, false, false, false, false, false, false, false, false, false, false, false, false, false] rfl rfl (any_of HT_.out (by kernel_rfl)) (fun _ _ _ h => h) (Or.inl ⟨by rfl, ?_⟩) ?_ ?_
                  rotate_left
                  · intro w'
                    go_simp
                    with_reducible rfl
                  rotate_left
                  · simp only [Act.put, List.setIfInBounds_toArray, List.set_cons_zero, List.set_cons_succ, i64_w, i32_w]
                    rfl
                  refine pure_ (i := 3) (N := some 46) (v := ?_) (a' := ?_) #[true, true, true, true, false, false, false, false, false, false, false, false, false, false, false, false, false, false, false, false, false, false, false, false] rfl rfl (any_of HT_.out (by kernel_rfl)) (fun _ _ _ h => h) (Or.inl ⟨by rfl, ?_⟩) ?_ ?_
                  rotate_left
                  · intro w'
                    go_simp
                    with_reducible rfl
                  rotate_left
                  · simp only [Act.put, List.setIfInBounds_toArray, List.set_cons_zero, List.set_cons_succ, i64_w, i32_w]
                    rfl
                  refine pure_ (i := 4) (N := some 47) (v := ?_) (a' := ?_) #[true, true, true, true, true, false, false, false, false, false, false, false, false, false, false, false, false, false, false, false, false, false, false, false] rfl rfl (any_of HT_.out (by kernel_rfl)) (fun _ _ _ h => h) (Or.inl ⟨by rfl, ?_⟩) ?_ ?_
                  rotate_left
                  · intro w'
                    go_simp
                    with_reducible rfl
                  rotate_left
                  · simp only [Act.put, List.setIfInBounds_toArray, List.set_cons_zero, List.set_cons_succ, i64_w, i32_w]
                    rfl
                  refine pure_ (i := 7) (N := some 50) (v := ?_) (a' := ?_) #[true, true, true, true, true, false, false, true, false, false, false, false, false, false, false, false, false, false, false, false, false, false, false, false] rfl rfl (any_of HT_.out (by kernel_rfl)) (fun _ _ _ h => h) (Or.inl ⟨by rfl, ?_⟩) ?_ ?_
                  rotate_left
                  · intro w'
                    go_simp
                    with_reducible rfl
                  rotate_left
                  · simp only [Act.put, List.setIfInBounds_toArray, List.set_cons_zero, List.set_cons_succ, i64_w, i32_w]
                    rfl
                  refine pure_ (i := 8) (N := some 51) (v := ?_) (a' := ?_) #[true, true, true, true, true, false, false, true, true, false, false, false, false, false, false, false, false, false, false, false, false, false, false, false] rfl rfl (any_of HT_.out (by kernel_rfl)) (fun _ _ _ h => h) (Or.inl ⟨by rfl, ?_⟩) ?_ ?_
                  rotate_left
                  · intro w'
                    go_simp
                    with_reducible rfl
                  rotate_left
                  · simp only [Act.put, List.setIfInBounds_toArray, List.set_cons_zero, List.set_cons_succ, i64_w, i32_w]
                    rfl
                  refine pure_ (i := 9) (N := some 52) (v := ?_) (a' := ?_) #[true, true, true, true, true, false, false, true, true, true, false, false, false, false, false, false, false, false, false, false, false, false, false, false] rfl rfl (any_of HT_.out (by kernel_rfl)) (fun _ _ _ h => h) (Or.inl ⟨by rfl, ?_⟩) ?_ ?_
                  rotate_left
                  · intro w'
                    go_simp
                    with_reducible rfl
                  rotate_left
                  · simp only [Act.put, List.setIfInBounds_toArray, List.set_cons_zero, List.set_cons_succ, i64_w, i32_w]
                    rfl
                  refine pure_ (i := 10) (N := some 53) (v := ?_) (a' := ?_) #[true, true, true, true, true, false, false, true, true, true, true, false, false, false, false, false, false, false, false, false, false, false, false, false] rfl rfl (any_of HT_.out (by kernel_rfl)) (fun _ _ _ h => h) (Or.inl ⟨by rfl, ?_⟩) ?_ ?_
                  rotate_left
                  · intro w'
                    go_simp
                    with_reducible rfl
                  rotate_left
                  · simp only [Act.put, List.setIfInBounds_toArray, List.set_cons_zero, List.set_cons_succ, i64_w, i32_w]
                    rfl
                  refine pure_ (i := 11) (N := some 54) (v := ?_) (a' := ?_) #[true, true, true, true, true, false, false, true, true, true, true, true, false, false, false, false, false, false, false, false, false, false, false, false] rfl rfl (any_of HT_.out (by kernel_rfl)) (fun _ _ _ h => h) (Or.inl ⟨by rfl, ?_⟩) ?_ ?_
                  rotate_left
                  · intro w'
                    go_simp
                    with_reducible rfl
                  rotate_left
                  · simp only [Act.put, List.setIfInBounds_toArray, List.set_cons_zero, List.set_cons_succ, i64_w, i32_w]
                    rfl
                  refine take_ (i := 5) (N := some 48) (v := ?_) (a' := ?_) #[true, true, true, true, true, true, false, true, true, true, true, true, false, false, false, false, false, false, false, false, false, false, false, false] rfl rfl (take_ofW HT_.out HW_.out (by kernel_rfl)) (fun _ _ _ h => h) (Or.inl ⟨by rfl, ?_⟩) hHeld ?_ ?_
                  rotate_left
                  · rintro w' ⟨s0, s1, s2, s3, s4, s5⟩
                    go_simp
                    with_reducible rfl
                  rotate_left
                  · simp only [Act.put, List.setIfInBounds_toArray, List.set_cons_zero, List.set_cons_succ, i64_w, i32_w]
                    rfl
                  refine take_ (i := 12) (N := some 55) (v := ?_) (a' := ?_) #[true, true, true, true, true, true, false, true, true, true, true, true, true, false, false, false, false, false, false, false, false, false, false, false] rfl rfl (take_ofW HT_.out HW_.out (by kernel_rfl)) (fun _ _ _ h => h) (Or.inl ⟨by rfl, ?_⟩) hHeld ?_ ?_
                  rotate_left
                  · rintro w' ⟨s0, s1, s2, s3, s4, s5⟩
                    go_simp
                    with_reducible rfl
                  rotate_left
                  · simp only [Act.put, List.setIfInBounds_toArray, List.set_cons_zero, List.set_cons_succ, i64_w, i32_w]
                    rfl
                  refine one_ (i := 6) (N := some 49) #[true, true, true, true, true, true, true, true, true, true, true, true, true, false, false, false, false, false, false, false, false, false, false, false] rfl rfl (one_of HT_.out (by kernel_rfl)) (by decide) (fun K hK => ?_)
                  refine goes_ Try.func16 (by kernel_rfl) rfl #[.slice Ao27 t257.length co27, .slice A277_0 ((rd_T36 t274 x10_1).f0).length c277_0] (by rfl) rfl rfl (by (try simp only [List.map_toArray, List.map_cons, List.map_nil]); first | done | rfl | (simp only [List.length_drop, List.length_take]; rfl)) ?_
                  with_reducible refine (belvedereref1_Get.calls k1 _ _ t257 _ _ ((rd_T36 t274 x10_1).f0) t278 _ ?side1 ?side2 ?side3 ?side4 A34.out).mono ?_
                  (case side1 => repeat (first | exact (Kd.N_reads' HO_5.out).2.2 | (with_reducible refine Kd.C_alloc ?_ _) | (with_reducible refine Kd.C_drewN ?_ _) | (with_reducible refine Kd.C_drew ?_)))
                  (case side2 => exact (Kd.N_reads' HO_5.out).2.1)
                  (case side3 => repeat (first | exact (by repeat (first | (with_reducible exact HR277_0.out) | (with_reducible refine Kd.C_alloc ?_ _) | (with_reducible refine Kd.C_drewN ?_ _) | (with_reducible refine Kd.C_drew ?_) | exact HR277_0.out)) | (with_reducible refine Kd.C_alloc ?_ _) | (with_reducible refine Kd.C_drewN ?_ _) | (with_reducible refine Kd.C_drew ?_)))
                  (case side4 => exact HC277_0.out)
                  rintro e w48 ⟨rfl, hb⟩
                  have HS0_ := (hb.cell (World.block_lt_of_cell? _ _ (hHeld.1))).trans (hHeld.1)
                  have HS1_ := (hb.cell (World.block_lt_of_cell? _ _ (hHeld.2.1))).trans (hHeld.2.1)
                  have HS2_ := (hb.cell (World.block_lt_of_cell? _ _ (hHeld.2.2.1))).trans (hHeld.2.2.1)
                  have HS3_ := (hb.cell (World.block_lt_of_cell? _ _ (hHeld.2.2.2.1))).trans (hHeld.2.2.2.1)
                  have HS4_ := (hb.cell (World.block_lt_of_cell? _ _ (hHeld.2.2.2.2.1))).trans (hHeld.2.2.2.2.1)
                  have HS5_ := (hb.cell (World.block_lt_of_cell? _ _ (hHeld.2.2.2.2.2))).trans (hHeld.2.2.2.2.2)
                  refine ⟨_, rfl, ?_⟩
                  have n0_ := Aside0.mk (Kd.N_below (by (with_reducible repeat (first | apply Kd.N_alloc | apply Kd.N_drewN | apply Kd.N_drew)); exact HO_5.out) hb)
                  have n1_ := Aside0.mk (Kd.N_below (by (with_reducible repeat (first | apply Kd.N_alloc | apply Kd.N_drewN | apply Kd.N_drew)); exact HO_6.out) hb)
                  have n2_ := Aside0.mk (Kd.N_below (by (with_reducible repeat (first | apply Kd.N_alloc | apply Kd.N_drewN | apply Kd.N_drew)); exact HO_7.out) hb)
                  have n3_ := Aside0.mk (Kd.N_below (by (with_reducible repeat (first | apply Kd.N_alloc | apply Kd.N_drewN | apply Kd.N_drew)); exact HO_9.out) hb)
                  have n4_ := Aside0.mk (Kd.V_below (by (with_reducible repeat (first | apply Kd.V_alloc | apply Kd.V_drewN | apply Kd.V_drew)); exact HL277_0.out) hb)
                  have n5_ := Aside0.mk (Kd.V_below (by (with_reducible repeat (first | apply Kd.V_alloc | apply Kd.V_drewN | apply Kd.V_drew)); exact HL279_0.out) hb)
                  have n6_ := Aside0.mk (Kd.C_below (by repeat (first | (with_reducible exact HR277_0.out) | (with_reducible refine Kd.C_alloc ?_ _) | (with_reducible refine Kd.C_drewN ?_ _) | (with_reducible refine Kd.C_drew ?_) | exact HR277_0.out)) hb)
                  have n7_ := Aside0.mk (Kd.C_below (by repeat (first | (with_reducible exact HR279_0.out) | (with_reducible refine Kd.C_alloc ?_ _) | (with_reducible refine Kd.C_drewN ?_ _) | (with_reducible refine Kd.C_drew ?_) | exact HR279_0.out)) hb)
                  have n8_ := Aside0.mk (below_step (by repeat (first | (with_reducible first | exact HB.out | apply below_alloc | apply pw_below_drewN | apply below_drew1) | exact HB.out)) hb)
                  clear HO_5
                  clear HO_6
                  clear HO_7
                  clear HO_9
                  clear HL277_0
                  clear HL279_0
                  clear HR277_0
                  clear HR279_0
                  clear HB
                  have HO_5 := n0_
                  have HO_6 := n1_
                  have HO_7 := n2_
                  have HO_9 := n3_
                  have HL277_0 := n4_
                  have HL279_0 := n5_
                  have HR277_0 := n6_
                  have HR279_0 := n7_
                  have HB := n8_
                  clear n0_ n1_ n2_ n3_ n4_ n5_ n6_ n7_ n8_
                  (try clear hb)
                  (try clear hb2)
                  (try clear hk)
                  (try clear hi)
                  refine hK.out _ _ ⟨HS0_, HS1_, HS2_, HS3_, HS4_, HS5_⟩ (fun hHeld => ?_)
                  clear hK K
                  refine norm_ (a' := ?_) ?_ ?_
                  rotate_left
                  · show Act.put _ (some 49) _ = _
                    simp only [Act.put, List.setIfInBounds_toArray, List.set_cons_zero, List.set_cons_succ, i64_w, i32_w]
                    rfl
                  refine one_ (i := 13) (N := some 56) #[true, true, true, true, true, true, true, true, true, true, true, true, true, true, false, false, false, false, false, false, false, false, false, false] rfl rfl (one_of HT_.out (by kernel_rfl)) (by decide) (fun K hK => ?_)
                  refine goes_ Try.func16 (by kernel_rfl) rfl #[.slice Ao28 t267.length co28, .slice A277_0 ((rd_T36 t274 x10_1).f0).length c277_0] (by rfl) rfl rfl (by (try simp only [List.map_toArray, List.map_cons, List.map_nil]); first | done | rfl | (simp only [List.length_drop, List.length_take]; rfl)) ?_
                  with_reducible refine (belvedereref1_Get.calls k1 _ _ t267 _ _ ((rd_T36 t274 x10_1).f0) t280 _ ?side1 ?side2 ?side3 ?side4 A35.out).mono ?_
                  (case side1 => repeat (first | exact (Kd.N_reads' HO_6.out).2.2 | (with_reducible refine Kd.C_alloc ?_ _) | (with_reducible refine Kd.C_drewN ?_ _) | (with_reducible refine Kd.C_drew ?_)))
                  (case side2 => exact (Kd.N_reads' HO_6.out).2.1)
                  (case side3 => repeat (first | exact (by repeat (first | (with_reducible exact HR279_0.out) | (with_reducible refine Kd.C_alloc ?_ _) | (with_reducible refine Kd.C_drewN ?_ _) | (with_reducible refine Kd.C_drew ?_) | exact HR279_0.out)) | (with_reducible refine Kd.C_alloc ?_ _) | (with_reducible refine Kd.C_drewN ?_ _) | (with_reducible refine Kd.C_drew ?_)))
                  (case side4 => exact HC279_0.out)
                  rintro e w49 ⟨rfl, hb⟩
                  have HS0_ := (hb.cell (World.block_lt_of_cell? _ _ (hHeld.1))).trans (hHeld.1)
                  have HS1_ := (hb.cell (World.block_lt_of_cell? _ _ (hHeld.2.1))).trans (hHeld.2.1)
                  have HS2_ := (hb.cell (World.block_lt_of_cell? _ _ (hHeld.2.2.1))).trans (hHeld.2.2.1)
                  have HS3_ := (hb.cell (World.block_lt_of_cell? _ _ (hHeld.2.2.2.1))).trans (hHeld.2.2.2.1)
                  have HS4_ := (hb.cell (World.block_lt_of_cell? _ _ (hHeld.2.2.2.2.1))).trans (hHeld.2.2.2.2.1)
                  have HS5_ := (hb.cell (World.block_lt_of_cell? _ _ (hHeld.2.2.2.2.2))).trans (hHeld.2.2.2.2.2)
                  refine ⟨_, rfl, ?_⟩
                  have n0_ := Aside0.mk (Kd.N_below (by (with_reducible repeat (first | apply Kd.N_alloc | apply Kd.N_drewN | apply Kd.N_drew)); exact HO_5.out) hb)
                  have n1_ := Aside0.mk (Kd.N_below (by (with_reducible repeat (first | apply Kd.N_alloc | apply Kd.N_drewN | apply Kd.N_drew)); exact HO_6.out) hb)
                  have n2_ := Aside0.mk (Kd.N_below (by (with_reducible repeat (first | apply Kd.N_alloc | apply Kd.N_drewN | apply Kd.N_drew)); exact HO_7.out) hb)
                  have n3_ := Aside0.mk (Kd.N_below (by (with_reducible repeat (first | apply Kd.N_alloc | apply Kd.N_drewN | apply Kd.N_drew)); exact HO_9.out) hb)
                  have n4_ := Aside0.mk (Kd.V_below (by (with_reducible repeat (first | apply Kd.V_alloc | apply Kd.V_drewN | apply Kd.V_drew)); exact HL277_0.out) hb)
                  have n5_ := Aside0.mk (Kd.V_below (by (with_reducible repeat (first | apply Kd.V_alloc | apply Kd.V_drewN | apply Kd.V_drew)); exact HL279_0.out) hb)
                  have n6_ := Aside0.mk (Kd.C_below (by repeat (first | (with_reducible exact HR277_0.out) | (with_reducible refine Kd.C_alloc ?_ _) | (with_reducible refine Kd.C_drewN ?_ _) | (with_reducible refine Kd.C_drew ?_) | exact HR277_0.out)) hb)
                  have n7_ := Aside0.mk (Kd.C_below (by repeat (first | (with_reducible exact HR279_0.out) | (with_reducible refine Kd.C_alloc ?_ _) | (with_reducible refine Kd.C_drewN ?_ _) | (with_reducible refine Kd.C_drew ?_) | exact HR279_0.out)) hb)
                  have n8_ := Aside0.mk (below_step (by repeat (first | (with_reducible first | exact HB.out | apply below_alloc | apply pw_below_drewN | apply below_drew1) | exact HB.out)) hb)
                  clear HO_5
                  clear HO_6
                  clear HO_7
                  clear HO_9
                  clear HL277_0
                  clear HL279_0
                  clear HR277_0
                  clear HR279_0
                  clear HB
                  have HO_5 := n0_
                  have HO_6 := n1_
                  have HO_7 := n2_
                  have HO_9 := n3_
                  have HL277_0 := n4_
                  have HL279_0 := n5_
                  have HR277_0 := n6_
                  have HR279_0 := n7_
                  have HB := n8_
                  clear n0_ n1_ n2_ n3_ n4_ n5_ n6_ n7_ n8_
                  (try clear hb)
                  (try clear hb2)
                  (try clear hk)
                  (try clear hi)
                  refine hK.out _ _ ⟨HS0_, HS1_, HS2_, HS3_, HS4_, HS5_⟩ (fun hHeld => ?_)
                  clear hK K
                  refine norm_ (a' := ?_) ?_ ?_
                  rotate_left
                  · show Act.put _ (some 56) _ = _
                    simp only [Act.put, List.setIfInBounds_toArray, List.set_cons_zero, List.set_cons_succ, i64_w, i32_w]
                    rfl
                  refine pure_ (i := 14) (N := some 57) (v := ?_) (a' := ?_) #[true, true, true, true, true, true, true, true, true, true, true, true, true, true, true, false, false, false, false, false, false, false, false, false] rfl rfl (any_of HT_.out (by kernel_rfl)) (fun _ _ _ h => h) (Or.inl ⟨by rfl, ?_⟩) ?_ ?_
                  rotate_left
                  · intro w'
                    go_simp
                    with_reducible rfl
                  rotate_left
                  · simp only [Act.put, List.setIfInBounds_toArray, List.set_cons_zero, List.set_cons_succ, i64_w, i32_w]
                    rfl
                  refine pure_ (i := 15) (N := some 58) (v := ?_) (a' := ?_) #[true, true, true, true, true, true, true, true, true, true, true, true, true, true, true, true, false, false, false, false, false, false, false, false] rfl rfl (any_of HT_.out (by kernel_rfl)) (fun _ _ _ h => h) (Or.inl ⟨by rfl, ?_⟩) ?_ ?_
                  rotate_left
                  · intro w'
                    go_simp
                    with_reducible rfl
                  rotate_left
                  · simp only [Act.put, List.setIfInBounds_toArray, List.set_cons_zero, List.set_cons_succ, i64_w, i32_w]
                    rfl
                  refine pure_ (i := 16) (N := some 59) (v := ?_) (a' := ?_) #[true, true, true, true, true, true, true, true, true, true, true, true, true, true, true, true, true, false, false, false, false, false, false, false] rfl rfl (any_of HT_.out (by kernel_rfl)) (fun _ _ _ h => h) (Or.inl ⟨by rfl, ?_⟩) ?_ ?_
                  rotate_left
                  · intro w'
                    go_simp
                    with_reducible rfl
                  rotate_left
                  · simp only [Act.put, List.setIfInBounds_toArray, List.set_cons_zero, List.set_cons_succ, i64_w, i32_w]
                    rfl
                  refine pure_ (i := 17) (N := some 60) (v := ?_) (a' := ?_) #[true, true, true, true, true, true, true, true, true, true, true, true, true, true, true, true, true, true, false, false, false, false, false, false] rfl rfl (any_of HT_.out (by kernel_rfl)) (fun _ _ _ h => h) (Or.inl ⟨by rfl, ?_⟩) ?_ ?_
                  rotate_left
                  · intro w'
                    go_simp
                    with_reducible rfl
                  rotate_left
                  · simp only [Act.put, List.setIfInBounds_toArray, List.set_cons_zero, List.set_cons_succ, i64_w, i32_w]
                    rfl
                  refine pure_ (i := 18) (N := some 61) (v := ?_) (a' := ?_) #[true, true, true, true, true, true, true, true, true, true, true, true, true, true, true, true, true, true, true, false, false, false, false, false] rfl rfl (any_of HT_.out (by kernel_rfl)) (fun _ _ _ h => h) (Or.inl ⟨by rfl, ?_⟩) ?_ ?_
                  rotate_left
                  · intro w'
                    go_simp
                    with_reducible rfl
                  rotate_left
                  · simp only [Act.put, List.setIfInBounds_toArray, List.set_cons_zero, List.set_cons_succ, i64_w, i32_w]
                    rfl
                  refine pure_ (i := 19) (N := some 62) (v := ?_) (a' := ?_) #[true, true, true, true, true, true, true, true, true, true, true, true, true, true, true, true, true, true, true, true, false, false, false, false] rfl rfl (any_of HT_.out (by kernel_rfl)) (fun _ _ _ h => h) (Or.inl ⟨by rfl, ?_⟩) ?_ ?_
                  rotate_left
                  · intro w'
                    go_simp
                    with_reducible rfl
                  rotate_left
                  · simp only [Act.put, List.setIfInBounds_toArray, List.set_cons_zero, List.set_cons_succ, i64_w, i32_w]
                    rfl
                  refine pure_ (i := 20) (N := some 63) (v := ?_) (a' := ?_) #[true, true, true, true, true, true, true, true, true, true, true, true, true, true, true, true, true, true, true, true, true, false, false, false] rfl rfl (any_of HT_.out (by kernel_rfl)) (fun _ _ _ h => h) (Or.inl ⟨by rfl, ?_⟩) ?_ ?_
                  rotate_left
                  · intro w'
                    go_simp
                    with_reducible rfl
                  rotate_left
                  · simp only [Act.put, List.setIfInBounds_toArray, List.set_cons_zero, List.set_cons_succ, i64_w, i32_w]
                    rfl
                  refine take_ (i := 21) (N := some 64) (v := ?_) (a' := ?_) #[true, true, true, true, true, true, true, true, true, true, true, true, true, true, true, true, true, true, true, true, true, true, false, false] rfl rfl (take_ofW HT_.out HW_.out (by kernel_rfl)) (fun _ _ _ h => h) (Or.inl ⟨by rfl, ?_⟩) hHeld ?_ ?_
                  rotate_left
                  · rintro w' ⟨s0, s1, s2, s3, s4, s5⟩
                    go_simp
                    with_reducible rfl
                  rotate_left
                  · simp only [Act.put, List.setIfInBounds_toArray, List.set_cons_zero, List.set_cons_succ, i64_w, i32_w]
                    rfl
                  refine pure_ (i := 22) (N := some 65) (v := ?_) (a' := ?_) #[true, true, true, true, true, true, true, true, true, true, true, true, true, true, true, true, true, true, true, true, true, true, true, false] rfl rfl (any_of HT_.out (by kernel_rfl)) (fun _ _ _ h => h) (Or.inl ⟨by rfl, ?_⟩) ?_ ?_
                  rotate_left
                  · intro w'
                    go_simp
                    with_reducible rfl
                  rotate_left
                  · simp only [Act.put, List.setIfInBounds_toArray, List.set_cons_zero, List.set_cons_succ, i64_w, i32_w]
                    rfl
                  refine pure_ (i := 23) (N := some 66) (v := ?_) (a' := ?_) #[true, true, true, true, true, true, true, true, true, true, true, true, true, true, true, true, true, true, true, true, true, true, true, true] rfl rfl (any_of HT_.out (by kernel_rfl)) (fun _ _ _ h => h) (Or.inl ⟨by rfl, ?_⟩) ?_ ?_
                  rotate_left
                  · intro w'
                    go_simp
                    with_reducible rfl
                  rotate_left
                  · simp only [Act.put, List.setIfInBounds_toArray, List.set_cons_zero, List.set_cons_succ, i64_w, i32_w]
                    rfl
                  refine done_ (done_of HT_.out (by kernel_rfl)) ?_
                  try go_wp2
                  go_ret
                  exact ⟨by first | rfl | (simp [errW_none, errW_some] <;> rfl) | (simp [*, errW_none, errW_some] <;> rfl), by repeat (first | (with_reducible first | exact HB.out | apply below_alloc | apply pw_below_drewN | apply below_drew1) | exact HB.out)⟩
            · rw [if_neg c33] at H
              exact absurd H (by simp)
          · rw [if_neg c32] at H
            have c32b0 : decide (x10_1 < (t274.length : Int)) = false := decide_eq_false c32
            clear c32
            have H1 : (if t273 = 0 then (if (t274.length : Int) = (t270.length : Int) then (if (t274.length : Int) ≥ (t257.length : Int) then (some (decide ((t274.length : Int) ≥ (t267.length : Int)))) else (some false)) else (some false)) else (some false)) = some r := by first | (rw [if_pos trivial] at H; exact H) | (rw [if_pos rfl] at H; exact H) | exact H
            clear H
            have H := H1
            clear H1
            by_cases c50 : t273 = 0
            · rw [if_pos c50] at H
              have c50b0 : (t273 == 0) = true := beq_iff_eq.mpr c50
              have c50b1 : (t273 != 0) = false := bne_eq_false_iff_eq.mpr c50
              clear c50
              by_cases c51 : (t274.length : Int) = (t270.length : Int)
              · rw [if_pos c51] at H
                have c51b0 : ((t274.length : Int) == (t270.length : Int)) = true := beq_iff_eq.mpr c51
                have c51b1 : ((t274.length : Int) != (t270.length : Int)) = false := bne_eq_false_iff_eq.mpr c51
                have c51b2 : (t274.length == t270.length) = true := by first | simpa using c51 | (simp at c51 ⊢; omega)
                clear c51
                by_cases c52 : (t274.length : Int) ≥ (t257.length : Int)
                · rw [if_pos c52] at H
                  have c52b0 : decide ((t257.length : Int) ≤ (t274.length : Int)) = true := decide_eq_true c52
                  have c52b1 : decide (t257.length ≤ t274.length) = true := decide_eq_true (Int.ofNat_le.mp c52)
                  clear c52
                  obtain rfl := Option.some.inj H
                  obtain ⟨Ao53, co53, eo53⟩ := Kd.N_slice HO_9.out
                  subst eo53
                  go_wp2
                  go_ret
                  exact ⟨by first | rfl | (simp [errW_none, errW_some] <;> rfl) | (simp [*, errW_none, errW_some] <;> rfl), by repeat (first | (with_reducible first | exact HB.out | apply below_alloc | apply pw_below_drewN | apply below_drew1) | exact HB.out)⟩
                · rw [if_neg c52] at H
                  have c52b0 : decide ((t257.length : Int) ≤ (t274.length : Int)) = false := decide_eq_false c52
                  have c52b1 : decide (t257.length ≤ t274.length) = false := decide_eq_false (fun h => c52 (Int.ofNat_le.mpr h))
                  clear c52
                  obtain rfl := Option.some.inj H
                  obtain ⟨Ao54, co54, eo54⟩ := Kd.N_slice HO_9.out
                  subst eo54
                  go_wp2
                  go_ret
                  exact ⟨by first | rfl | (simp [errW_none, errW_some] <;> rfl) | (simp [*, errW_none, errW_some] <;> rfl), by repeat (first | (with_reducible first | exact HB.out | apply below_alloc | apply pw_below_drewN | apply below_drew1) | exact HB.out)⟩
              · rw [if_neg c51] at H
                have c51b0 : ((t274.length : Int) == (t270.length : Int)) = false := beq_eq_false_iff_ne.mpr c51
                have c51b1 : ((t274.length : Int) != (t270.length : Int)) = true := bne_iff_ne.mpr c51
                have c51b2 : (t274.length == t270.length) = false := by first | simpa using c51 | (simp at c51 ⊢; omega)
                obtain rfl := Option.some.inj H
                obtain ⟨Ao55, co55, eo55⟩ := Kd.N_slice HO_9.out
                subst eo55
                go_wp2
                go_ret
                exact ⟨by first | rfl | (simp [errW_none, errW_some] <;> rfl) | (simp [*, errW_none, errW_some] <;> rfl), by repeat (first | (with_reducible first | exact HB.out | apply below_alloc | apply pw_below_drewN | apply below_drew1) | exact HB.out)⟩
            · rw [if_neg c50] at H
              have c50b0 : (t273 == 0) = false := beq_eq_false_iff_ne.mpr c50
              have c50b1 : (t273 != 0) = true := bne_iff_ne.mpr c50
              obtain rfl := Option.some.inj H
              obtain ⟨Ao56, co56, eo56⟩ := Kd.N_slice HO_9.out
              subst eo56
              go_wp2
              go_ret
              exact ⟨by first | rfl | (simp [errW_none, errW_some] <;> rfl) | (simp [*, errW_none, errW_some] <;> rfl), by repeat (first | (with_reducible first | exact HB.out | apply below_alloc | apply pw_below_drewN | apply below_drew1) | exact HB.out)⟩
  · replace c3 := Bool.eq_false_iff.mpr c3
    subst c3
    have H1 : (some false) = some r := by rw [if_neg (show ¬ (false = true) by decide)] at H; exact H
    clear H
    have H := H1
    clear H1
    obtain rfl := Option.some.inj H
    go_enter Try.func3, Try.ntmps3
    go_wp2_with (first | ((with_reducible refine gate_callee (f := 12) rfl ?_); refine goesL_ (some 11) rfl rfl Try.func12 (by kernel_rfl) rfl #[] rfl (by (try simp only [List.map_toArray, List.map_cons, List.map_nil]); first | done | rfl | (simp only [List.length_drop, List.length_take]; rfl)) ?_; (with_reducible refine (belvederelaw13_first.calls  false _ A2.out).mono ?_); rintro e w57 ⟨rfl, hb⟩; refine ⟨_, rfl, ?_⟩; have n0_ := Aside0.mk (below_step (by repeat (first | (with_reducible first | exact HB.out | apply below_alloc | apply pw_below_drewN | apply below_drew1) | exact HB.out)) hb); clear HB; have HB := n0_; clear n0_; (try clear hb); (try clear hb2); (try clear hk); (try clear hi)))
    go_ret
    exact ⟨by first | rfl | (simp [errW_none, errW_some] <;> rfl) | (simp [*, errW_none, errW_some] <;> rfl), by repeat (first | (with_reducible first | exact HB.out | apply below_alloc | apply pw_below_drewN | apply below_drew1) | exact HB.out)⟩

/-- THE ONE PURE STATEMENT of belvederelaw13_OnceSums: yours. -/
def belvederelaw13_OnceSums.Pure : Prop := ∀ (l0 : List Int), l0.length ≤ maxLen → l0.length * 8 ≤ 140737488351232 → (∀ x ∈ l0, (Lit.int .i64 x).wf = true) → ∃ k, belvederelaw13_OnceSums.f k l0 = some true
theorem belvederelaw13_OnceSums.walk (P : belvederelaw13_OnceSums.Pure) (a0 : Option Addr) (len0 cap0 : Nat) (z0 : List Int) (w : World) (w0 : (a0 = none ∧ len0 = 0 ∧ cap0 = 0 ∧ z0 = []) ∨ ∃ x, a0 = some x ∧ len0 ≤ cap0 ∧ cap0 ≤ maxLen ∧ z0.length = cap0 ∧ (∀ i, i < z0.length → w.cell? (x.add i) = some (.int .i64 (z0.getD i 0))) ∧ ∀ n ∈ z0, (Lit.int .i64 n).wf = true) (y0 : len0 * 8 ≤ 140737488351232) :
    Calls Try.prog 3 #[.slice a0 len0 cap0] w fun e w' => e = .returned (.bool true) ∧ Below w.heap.size w w' := by
  obtain ⟨l0, rfl, hr0, hm0, hw0, hc0⟩ := ReadsInt.ofRowC w0
  obtain ⟨k, h⟩ := P l0 hm0 y0 hw0
  refine (belvederelaw13_OnceSums.calls k _ _ l0 true w (Kd.C_of_reads (d := (0 : Int)) (h1 := fun _ => rfl) hr0) hc0 h).mono ?_
  rintro e w' ⟨rfl, hd⟩
  exact ⟨rfl, hd⟩

end Go.Proofs.Ythegdcodjhbonaa.PA
