/- What the Go functions behind the law come to: for each a Lean function with the same answers and a proof that the call returns them; laid by a program of this session. -/
import Derived.Test.YthegdcodjhbonaaZSliceChunksx13
import Derived.Test.YthegdcodjhbonaaZSliceChunksx15
namespace Go.Proofs.Ythegdcodjhbonaa.PA
open Go.RowKit Go.Proofs.YthegdcodjhbonaaW.PrintWords Go.Proofs.YthegdcodjhbonaaW.PrintLast Go.Proofs.YthegdcodjhbonaaW.PrintMore
set_option linter.unusedVariables false
set_option linter.unusedSimpArgs false
mutual
def belvedereref1_CompareRows.l0 : Nat → List (S41) → List (S41) → Int → Option (Int)
  | 0, _, _, _ => none
  | k + 1, x0, x1, x5 => if x5 < (x0.length : Int) then (belvedereref1_CompareRows.j1 k x0 x1 x5 (decide (x5 < (x1.length : Int)))) else (belvedereref1_CompareRows.j1 k x0 x1 x5 false)
def belvedereref1_CompareRows.j1 : Nat → List (S41) → List (S41) → Int → Bool → Option (Int)
  | 0, _, _, _, _ => none
  | k + 1, x0, x1, x5, x16 => if x16 = true then (if 0 ≤ x5 then (if x5 < (x0.length : Int) then (if x5 < (x1.length : Int) then ((belvedereref1_CompareValues.f k ((rd_T41 x0 x5).f0) ((rd_T41 x0 x5).f1) ((rd_T41 x0 x5).f2) ((rd_T41 x1 x5).f0) ((rd_T41 x1 x5).f1) ((rd_T41 x1 x5).f2)).bind fun t167 => (if t167 = 0 then (belvedereref1_CompareRows.l0 k x0 x1 (wrap64 (x5 + 1))) else (some t167))) else (none)) else (none)) else (none)) else (if (x0.length : Int) < (x1.length : Int) then (some (-1)) else (if (x0.length : Int) > (x1.length : Int) then (some 1) else (some 0)))
end
def belvedereref1_CompareRows.f (k : Nat) (l0 : List (S41)) (l1 : List (S41)) : Option (Int) := belvedereref1_CompareRows.l0 k l0 l1 0
def belvedereref1_CompareRows.T4 : Bool × List (List Nat × List Nat) := (true, [([], []), ([], []), ([0, 1], [0, 1]), ([2], [2]), ([], []), ([], []), ([4, 5], [4, 5]), ([6], [6]), ([3, 7], [3, 7]), ([8, 8, 0, 1, 2, 3, 4, 5, 6, 7, 8], [8])])
def belvedereref1_CompareRows.B4 : List Nat := [0, 0, 3, 7, 0, 0, 48, 112, 255, 511]
theorem belvedereref1_CompareRows.tab4 : rtab .any (opsOf Try.f30 4) = belvedereref1_CompareRows.T4 := by kernel_rfl
theorem belvedereref1_CompareRows.bits4 : waitsOk belvedereref1_CompareRows.T4.2 belvedereref1_CompareRows.B4 = true := by kernel_rfl
set_option maxHeartbeats 8000000 in
set_option maxRecDepth 100000 in
theorem belvedereref1_CompareRows.calls (k : Nat) (A0 : Option Addr) (c0 : Nat) (l0 : List (S41)) (A1 : Option Addr) (c1 : Nat) (l1 : List (S41)) (r : Int) (w : World) (hr0 : Kd.C k41 w A0 l0.length l0) (hc0 : l0.length ≤ c0) (hr1 : Kd.C k41 w A1 l1.length l1) (hc1 : l1.length ≤ c1) (h : belvedereref1_CompareRows.f k l0 l1 = some r) :
    Calls Try.prog 30 #[.slice A0 l0.length c0, .slice A1 l1.length c1] w fun e w' => e = .returned (.int .i64 r) ∧ Below w.heap.size w w' := by
  have hu41 := Try.underlying41
  have HR0 := Aside0.mk hr0
  have HC0 := Aside0.mk hc0
  clear hr0 hc0
  have HR1 := Aside0.mk hr1
  have HC1 := Aside0.mk hc1
  clear hr1 hc1
  have HB := Aside0.mk (Below.refl w.heap.size w)
  have H : (belvedereref1_CompareRows.l0 k l0 l1 0) = some r := h
  clear h
  have H' := Aside0.mk H
  clear H
  go_enter Try.func30, Try.ntmps30
  go_wp2
  go_loopg [5] k (fun kq v5 w' => ∃ (x5_1 : Int), v5 = .int .i64 x5_1 ∧ Aside0 (belvedereref1_CompareRows.l0 kq l0 l1 x5_1 = some r) ∧ Aside0 (kq ≤ k) ∧ Aside0 (Below w.heap.size w w'))
  case atStart => exact ⟨(0), (by first | rfl | (simp; done) | (simp [*]; done)), H', ⟨Nat.le_refl _⟩, ⟨by repeat (first | (with_reducible first | exact HB.out | apply below_alloc | apply pw_below_drewN | apply below_drew1) | exact HB.out)⟩⟩
  case round =>
    clear H'
    try clear c1
    try clear p2
    obtain ⟨x5_1, rfl, HA, HK1, HB⟩ := hrel
    cases gk with
    | zero => exact absurd HA.out (by simp [belvedereref1_CompareRows.l0])
    | succ k1 =>
      have H := HA.out
      clear HA
      simp only [belvedereref1_CompareRows.l0] at H
      have HC3 := Aside0.mk H
      clear H
      go_upto_region 2 with (fail)
      go_cut [16] (fun v16 wc => ∃ (kq : Nat) (x16_2 : Bool), v16 = .bool x16_2 ∧ Aside0 (belvedereref1_CompareRows.j1 kq l0 l1 x5_1 x16_2 = some r) ∧ Aside0 (kq ≤ k1) ∧ Aside0 (Below w.heap.size w wc))
      case first =>
        have H := HC3.out
        clear HC3
        by_cases c4 : x5_1 < (l0.length : Int)
        · rw [if_pos c4] at H
          have c4b0 : decide (x5_1 < (l0.length : Int)) = true := decide_eq_true c4
          clear c4
          (first | rw [c4b0] | (simp only [i64_w, i32_w]; rw [c4b0]) | skip)
          have H' := Aside0.mk H
          clear H
          go_wp2
          go_meet
          case rel => exact ⟨_, (decide (x5_1 < (l1.length : Int))), (by first | rfl | (simp; done) | (simp [*]; done)), H', ⟨by have := HK1.out; first | omega | exact Nat.le_refl _⟩, ⟨by repeat (first | (with_reducible first | exact HB.out | apply below_alloc | apply pw_below_drewN | apply below_drew1) | exact HB.out)⟩⟩
        · rw [if_neg c4] at H
          have c4b0 : decide (x5_1 < (l0.length : Int)) = false := decide_eq_false c4
          clear c4
          (first | rw [c4b0] | (simp only [i64_w, i32_w]; rw [c4b0]) | skip)
          have H' := Aside0.mk H
          clear H
          go_wp2
          go_meet
          case rel => exact ⟨_, (false), (by first | rfl | (simp; done) | (simp [*]; done)), H', ⟨by have := HK1.out; first | omega | exact Nat.le_refl _⟩, ⟨by repeat (first | (with_reducible first | exact HB.out | apply below_alloc | apply pw_below_drewN | apply below_drew1) | exact HB.out)⟩⟩
      case rest =>
        clear HC3
        try clear c1
        try clear p2
        try clear c3
        try clear c4
        try clear c4b0
        try clear p2
        obtain ⟨kq, x16_2, rfl, HA, HJ2, HB⟩ := hcut
        cases kq with
        | zero => exact absurd HA.out (by simp [belvedereref1_CompareRows.j1])
        | succ kj2 =>
          have H := HA.out
          clear HA
          simp only [belvedereref1_CompareRows.j1] at H
          by_cases c5 : x16_2 = true
          · subst c5
            have H1 : (if 0 ≤ x5_1 then (if x5_1 < (l0.length : Int) then (if x5_1 < (l1.length : Int) then ((belvedereref1_CompareValues.f kj2 ((rd_T41 l0 x5_1).f0) ((rd_T41 l0 x5_1).f1) ((rd_T41 l0 x5_1).f2) ((rd_T41 l1 x5_1).f0) ((rd_T41 l1 x5_1).f1) ((rd_T41 l1 x5_1).f2)).bind fun t167 => (if t167 = 0 then (belvedereref1_CompareRows.l0 kj2 l0 l1 (wrap64 (x5_1 + 1))) else (some t167))) else (none)) else (none)) else (none)) = some r := by rw [if_pos rfl] at H; exact H
            clear H
            have H := H1
            clear H1
            by_cases c6 : 0 ≤ x5_1
            · rw [if_pos c6] at H
              have c6b0 : decide (0 ≤ x5_1) = true := decide_eq_true c6
              clear c6
              by_cases c7 : x5_1 < (l0.length : Int)
              · rw [if_pos c7] at H
                have c7b0 : decide (x5_1 < (l0.length : Int)) = true := decide_eq_true c7
                clear c7
                by_cases c8 : x5_1 < (l1.length : Int)
                · rw [if_pos c8] at H
                  have c8b0 : decide (x5_1 < (l1.length : Int)) = true := decide_eq_true c8
                  clear c8
                  replace H := Option.bind_eq_some_iff.mp H
                  obtain ⟨t167, A90, H⟩ := H
                  replace H : (if t167 = 0 then (belvedereref1_CompareRows.l0 kj2 l0 l1 (wrap64 (x5_1 + 1))) else (some t167)) = some r := H
                  have A9 := Aside0.mk A90
                  clear A90
                  by_cases c10 : t167 = 0
                  · rw [if_pos c10] at H
                    have c10b0 : (t167 == 0) = true := beq_iff_eq.mpr c10
                    have c10b1 : (t167 != 0) = false := bne_eq_false_iff_eq.mpr c10
                    clear c10
                    have H' := Aside0.mk H
                    clear H
                    try go_wp2
                    have n0_ := Aside0.mk (below_drew1 HB.out)
                    clear HB
                    have HB := n0_
                    clear n0_
                    have p165 : 0 ≤ (x5_1 : Int) := of_decide_eq_true (by first | (with_reducible assumption) | assumption)
                    have q165 : x5_1 < (l0.length : Int) := of_decide_eq_true (by first | (with_reducible assumption) | assumption)
                    obtain ⟨ad165, e165, hx165_0, hx165_1, hx165_2⟩ := at_T41 HR0.out x5_1 p165 q165
                    have hw165_2 := hx165_2
                    have hw165_1 := hx165_1
                    have hw165_0 := hx165_0
                    cases e165
                    replace hx165_0 := (HB.out.cell (World.block_lt_of_cell? w _ hx165_0)).trans hx165_0
                    replace hx165_1 := (HB.out.cell (World.block_lt_of_cell? w _ hx165_1)).trans hx165_1
                    replace hx165_2 := (HB.out.cell (World.block_lt_of_cell? w _ hx165_2)).trans hx165_2
                    replace p165 := eq_true p165
                    replace q165 := eq_true q165
                    have p166 : 0 ≤ (x5_1 : Int) := of_decide_eq_true (by first | (with_reducible assumption) | assumption)
                    have q166 : x5_1 < (l1.length : Int) := of_decide_eq_true (by first | (with_reducible assumption) | assumption)
                    obtain ⟨ad166, e166, hx166_0, hx166_1, hx166_2⟩ := at_T41 HR1.out x5_1 p166 q166
                    have hw166_2 := hx166_2
                    have hw166_1 := hx166_1
                    have hw166_0 := hx166_0
                    cases e166
                    replace hx166_0 := (HB.out.cell (World.block_lt_of_cell? w _ hx166_0)).trans hx166_0
                    replace hx166_1 := (HB.out.cell (World.block_lt_of_cell? w _ hx166_1)).trans hx166_1
                    replace hx166_2 := (HB.out.cell (World.block_lt_of_cell? w _ hx166_2)).trans hx166_2
                    replace p166 := eq_true p166
                    replace q166 := eq_true q166
                    refine start_ (n := 10) (S := fun w' => w'.cell? (ad165.add ((x5_1).toNat * 3)) = some (.int .i64 ((rd_T41 l0 x5_1).f0)) ∧ w'.cell? ⟨(ad165.add ((x5_1).toNat * 3)).block, (ad165.add ((x5_1).toNat * 3)).off + 1, none⟩ = some (.int .i64 ((rd_T41 l0 x5_1).f1)) ∧ w'.cell? ⟨(ad165.add ((x5_1).toNat * 3)).block, (ad165.add ((x5_1).toNat * 3)).off + 2, none⟩ = some (.string ((rd_T41 l0 x5_1).f2)) ∧ w'.cell? (ad166.add ((x5_1).toNat * 3)) = some (.int .i64 ((rd_T41 l1 x5_1).f0)) ∧ w'.cell? ⟨(ad166.add ((x5_1).toNat * 3)).block, (ad166.add ((x5_1).toNat * 3)).off + 1, none⟩ = some (.int .i64 ((rd_T41 l1 x5_1).f1)) ∧ w'.cell? ⟨(ad166.add ((x5_1).toNat * 3)).block, (ad166.add ((x5_1).toNat * 3)).off + 2, none⟩ = some (.string ((rd_T41 l1 x5_1).f2))) (ds := []) #[false, false, false, false, false, false, false, false, false, false] (by kernel_rfl) rfl rfl ⟨((HB.out.cell (World.block_lt_of_cell? w _ hw165_0)).trans hw165_0), ((HB.out.cell (World.block_lt_of_cell? w _ hw165_1)).trans hw165_1), ((HB.out.cell (World.block_lt_of_cell? w _ hw165_2)).trans hw165_2), ((HB.out.cell (World.block_lt_of_cell? w _ hw166_0)).trans hw166_0), ((HB.out.cell (World.block_lt_of_cell? w _ hw166_1)).trans hw166_1), ((HB.out.cell (World.block_lt_of_cell? w _ hw166_2)).trans hw166_2)⟩ (fun hHeld => ?_); refine with_tabW belvedereref1_CompareRows.tab4 belvedereref1_CompareRows.bits4 (fun HT_ HW_ => ?_)
                    generalize wc.drew = w11 at HB hx165_0 hx165_1 hx165_2 hx166_0 hx166_1 hx166_2 hHeld ⊢
                    refine pure_ (i := 0) (N := some 19) (v := ?_) (a' := ?_) #[true, false, false, false, false, false, false, false, false, false] rfl rfl (any_of HT_.out (by kernel_rfl)) (fun _ _ _ h => h) (Or.inl ⟨by rfl, ?_⟩) ?_ ?_
                    rotate_left
                    · intro w'
                      go_simp
                      with_reducible rfl
                    rotate_left
                    · simp only [Act.put, List.setIfInBounds_toArray, List.set_cons_zero, List.set_cons_succ, i64_w, i32_w]
                      rfl
                    refine pure_ (i := 1) (N := some 20) (v := ?_) (a' := ?_) #[true, true, false, false, false, false, false, false, false, false] rfl rfl (any_of HT_.out (by kernel_rfl)) (fun _ _ _ h => h) (Or.inl ⟨by rfl, ?_⟩) ?_ ?_
                    rotate_left
                    · intro w'
                      go_simp
                      with_reducible rfl
                    rotate_left
                    · simp only [Act.put, List.setIfInBounds_toArray, List.set_cons_zero, List.set_cons_succ, i64_w, i32_w]
                      rfl
                    refine pure_ (i := 2) (N := some 21) (v := ?_) (a' := ?_) #[true, true, true, false, false, false, false, false, false, false] rfl rfl (any_of HT_.out (by kernel_rfl)) (fun _ _ _ h => h) (Or.inl ⟨by rfl, ?_⟩) ?_ ?_
                    rotate_left
                    · intro w'
                      go_simp
                      with_reducible rfl
                    rotate_left
                    · simp only [Act.put, List.setIfInBounds_toArray, List.set_cons_zero, List.set_cons_succ, i64_w, i32_w]
                      rfl
                    refine pure_ (i := 4) (N := some 23) (v := ?_) (a' := ?_) #[true, true, true, false, true, false, false, false, false, false] rfl rfl (any_of HT_.out (by kernel_rfl)) (fun _ _ _ h => h) (Or.inl ⟨by rfl, ?_⟩) ?_ ?_
                    rotate_left
                    · intro w'
                      go_simp
                      with_reducible rfl
                    rotate_left
                    · simp only [Act.put, List.setIfInBounds_toArray, List.set_cons_zero, List.set_cons_succ, i64_w, i32_w]
                      rfl
                    refine pure_ (i := 5) (N := some 24) (v := ?_) (a' := ?_) #[true, true, true, false, true, true, false, false, false, false] rfl rfl (any_of HT_.out (by kernel_rfl)) (fun _ _ _ h => h) (Or.inl ⟨by rfl, ?_⟩) ?_ ?_
                    rotate_left
                    · intro w'
                      go_simp
                      with_reducible rfl
                    rotate_left
                    · simp only [Act.put, List.setIfInBounds_toArray, List.set_cons_zero, List.set_cons_succ, i64_w, i32_w]
                      rfl
                    refine pure_ (i := 6) (N := some 25) (v := ?_) (a' := ?_) #[true, true, true, false, true, true, true, false, false, false] rfl rfl (any_of HT_.out (by kernel_rfl)) (fun _ _ _ h => h) (Or.inl ⟨by rfl, ?_⟩) ?_ ?_
                    rotate_left
                    · intro w'
                      go_simp
                      with_reducible rfl
                    rotate_left
                    · simp only [Act.put, List.setIfInBounds_toArray, List.set_cons_zero, List.set_cons_succ, i64_w, i32_w]
                      rfl
                    refine take_ (i := 3) (N := some 22) (v := ?_) (a' := ?_) #[true, true, true, true, true, true, true, false, false, false] rfl rfl (take_ofW HT_.out HW_.out (by kernel_rfl)) (fun _ _ _ h => h) (Or.inl ⟨by rfl, ?_⟩) hHeld ?_ ?_
                    rotate_left
                    · rintro w' ⟨s0, s1, s2, s3, s4, s5⟩
                      go_simp
                      with_reducible rfl
                    rotate_left
                    · simp only [Act.put, List.setIfInBounds_toArray, List.set_cons_zero, List.set_cons_succ, i64_w, i32_w]
                      rfl
                    refine take_ (i := 7) (N := some 26) (v := ?_) (a' := ?_) #[true, true, true, true, true, true, true, true, false, false] rfl rfl (take_ofW HT_.out HW_.out (by kernel_rfl)) (fun _ _ _ h => h) (Or.inl ⟨by rfl, ?_⟩) hHeld ?_ ?_
                    rotate_left
                    · rintro w' ⟨s0, s1, s2, s3, s4, s5⟩
                      go_simp
                      with_reducible rfl
                    rotate_left
                    · simp only [Act.put, List.setIfInBounds_toArray, List.set_cons_zero, List.set_cons_succ, i64_w, i32_w]
                      rfl
                    refine one_ (i := 8) (N := some 27) #[true, true, true, true, true, true, true, true, true, false] rfl rfl (one_of HT_.out (by kernel_rfl)) (by decide) (fun K hK => ?_)
                    refine goes_ Try.func49 (by kernel_rfl) rfl #[.agg #[.int .i64 ((rd_T41 l0 x5_1).f0), .int .i64 ((rd_T41 l0 x5_1).f1), .string ((rd_T41 l0 x5_1).f2)], .agg #[.int .i64 ((rd_T41 l1 x5_1).f0), .int .i64 ((rd_T41 l1 x5_1).f1), .string ((rd_T41 l1 x5_1).f2)]] (by rfl) rfl rfl (by (try simp only [List.map_toArray, List.map_cons, List.map_nil]); first | done | rfl | (simp only [List.length_drop, List.length_take]; rfl)) ?_
                    with_reducible refine (belvedereref1_CompareValues.calls kj2 ((rd_T41 l0 x5_1).f0) ((rd_T41 l0 x5_1).f1) ((rd_T41 l0 x5_1).f2) ((rd_T41 l1 x5_1).f0) ((rd_T41 l1 x5_1).f1) ((rd_T41 l1 x5_1).f2) t167 _ A9.out).mono ?_
                    rintro e w12 ⟨rfl, hb⟩
                    refine ⟨_, rfl, ?_⟩
                    have n0_ := Aside0.mk (below_step (by repeat (first | (with_reducible first | exact HB.out | apply below_alloc | apply pw_below_drewN | apply below_drew1) | exact HB.out)) hb)
                    clear HB
                    have HB := n0_
                    clear n0_
                    (try clear hb)
                    (try clear hb2)
                    (try clear hk)
                    (try clear hi)
                    refine hK.out _ _ ⟨((HB.out.cell (World.block_lt_of_cell? w _ hw165_0)).trans hw165_0), ((HB.out.cell (World.block_lt_of_cell? w _ hw165_1)).trans hw165_1), ((HB.out.cell (World.block_lt_of_cell? w _ hw165_2)).trans hw165_2), ((HB.out.cell (World.block_lt_of_cell? w _ hw166_0)).trans hw166_0), ((HB.out.cell (World.block_lt_of_cell? w _ hw166_1)).trans hw166_1), ((HB.out.cell (World.block_lt_of_cell? w _ hw166_2)).trans hw166_2)⟩ (fun hHeld => ?_)
                    clear hK K
                    refine norm_ (a' := ?_) ?_ ?_
                    rotate_left
                    · show Act.put _ (some 27) _ = _
                      simp only [Act.put, List.setIfInBounds_toArray, List.set_cons_zero, List.set_cons_succ, i64_w, i32_w]
                      rfl
                    refine pure_ (i := 9) (N := some 6) (v := ?_) (a' := ?_) #[true, true, true, true, true, true, true, true, true, true] rfl rfl (any_of HT_.out (by kernel_rfl)) (fun _ _ _ h => h) (Or.inl ⟨by rfl, ?_⟩) ?_ ?_
                    rotate_left
                    · intro w'
                      go_simp
                      with_reducible rfl
                    rotate_left
                    · simp only [Act.put, List.setIfInBounds_toArray, List.set_cons_zero, List.set_cons_succ, i64_w, i32_w]
                      rfl
                    refine done_ (done_of HT_.out (by kernel_rfl)) ?_
                    try go_wp2
                    go_roundg kj2
                    case measure => have := HK1.out; have := HJ2.out; omega
                    case rel => exact ⟨(wrap64 (x5_1 + 1)), (by first | rfl | (simp; done) | (simp [*]; done)), H', ⟨by have := HK1.out; have := HJ2.out; omega⟩, ⟨by repeat (first | (with_reducible first | exact HB.out | apply below_alloc | apply pw_below_drewN | apply below_drew1) | exact HB.out)⟩⟩
                  · rw [if_neg c10] at H
                    have c10b0 : (t167 == 0) = false := beq_eq_false_iff_ne.mpr c10
                    have c10b1 : (t167 != 0) = true := bne_iff_ne.mpr c10
                    obtain rfl := Option.some.inj H
                    try go_wp2
                    have n0_ := Aside0.mk (below_drew1 HB.out)
                    clear HB
                    have HB := n0_
                    clear n0_
                    have p165 : 0 ≤ (x5_1 : Int) := of_decide_eq_true (by first | (with_reducible assumption) | assumption)
                    have q165 : x5_1 < (l0.length : Int) := of_decide_eq_true (by first | (with_reducible assumption) | assumption)
                    obtain ⟨ad165, e165, hx165_0, hx165_1, hx165_2⟩ := at_T41 HR0.out x5_1 p165 q165
                    have hw165_2 := hx165_2
                    have hw165_1 := hx165_1
                    have hw165_0 := hx165_0
                    cases e165
                    replace hx165_0 := (HB.out.cell (World.block_lt_of_cell? w _ hx165_0)).trans hx165_0
                    replace hx165_1 := (HB.out.cell (World.block_lt_of_cell? w _ hx165_1)).trans hx165_1
                    replace hx165_2 := (HB.out.cell (World.block_lt_of_cell? w _ hx165_2)).trans hx165_2
                    replace p165 := eq_true p165
                    replace q165 := eq_true q165
                    have p166 : 0 ≤ (x5_1 : Int) := of_decide_eq_true (by first | (with_reducible assumption) | assumption)
                    have q166 : x5_1 < (l1.length : Int) := of_decide_eq_true (by first | (with_reducible assumption) | assumption)
                    obtain ⟨ad166, e166, hx166_0, hx166_1, hx166_2⟩ := at_T41 HR1.out x5_1 p166 q166
                    have hw166_2 := hx166_2
                    have hw166_1 := hx166_1
                    have hw166_0 := hx166_0
                    cases e166
                    replace hx166_0 := (HB.out.cell (World.block_lt_of_cell? w _ hx166_0)).trans hx166_0
                    replace hx166_1 := (HB.out.cell (World.block_lt_of_cell? w _ hx166_1)).trans hx166_1
                    replace hx166_2 := (HB.out.cell (World.block_lt_of_cell? w _ hx166_2)).trans hx166_2
                    replace p166 := eq_true p166
                    replace q166 := eq_true q166
                    refine start_ (n := 10) (S := fun w' => w'.cell? (ad165.add ((x5_1).toNat * 3)) = some (.int .i64 ((rd_T41 l0 x5_1).f0)) ∧ w'.cell? ⟨(ad165.add ((x5_1).toNat * 3)).block, (ad165.add ((x5_1).toNat * 3)).off + 1, none⟩ = some (.int .i64 ((rd_T41 l0 x5_1).f1)) ∧ w'.cell? ⟨(ad165.add ((x5_1).toNat * 3)).block, (ad165.add ((x5_1).toNat * 3)).off + 2, none⟩ = some (.string ((rd_T41 l0 x5_1).f2)) ∧ w'.cell? (ad166.add ((x5_1).toNat * 3)) = some (.int .i64 ((rd_T41 l1 x5_1).f0)) ∧ w'.cell? ⟨(ad166.add ((x5_1).toNat * 3)).block, (ad166.add ((x5_1).toNat * 3)).off + 1, none⟩ = some (.int .i64 ((rd_T41 l1 x5_1).f1)) ∧ w'.cell? ⟨(ad166.add ((x5_1).toNat * 3)).block, (ad166.add ((x5_1).toNat * 3)).off + 2, none⟩ = some (.string ((rd_T41 l1 x5_1).f2))) (ds := []) #[false, false, false, false, false, false, false, false, false, false] (by kernel_rfl) rfl rfl ⟨((HB.out.cell (World.block_lt_of_cell? w _ hw165_0)).trans hw165_0), ((HB.out.cell (World.block_lt_of_cell? w _ hw165_1)).trans hw165_1), ((HB.out.cell (World.block_lt_of_cell? w _ hw165_2)).trans hw165_2), ((HB.out.cell (World.block_lt_of_cell? w _ hw166_0)).trans hw166_0), ((HB.out.cell (World.block_lt_of_cell? w _ hw166_1)).trans hw166_1), ((HB.out.cell (World.block_lt_of_cell? w _ hw166_2)).trans hw166_2)⟩ (fun hHeld => ?_); refine with_tabW belvedereref1_CompareRows.tab4 belvedereref1_CompareRows.bits4 (fun HT_ HW_ => ?_)
                    generalize wc.drew = w13 at HB hx165_0 hx165_1 hx165_2 hx166_0 hx166_1 hx166_2 hHeld ⊢
                    refine pure_ (i := 0) (N := some 19) (v := ?_) (a' := ?_) #[true, false, false, false, false, false, false, false, false, false] rfl rfl (any_of HT_.out (by kernel_rfl)) (fun _ _ _ h => h) (Or.inl ⟨by rfl, ?_⟩) ?_ ?_
                    rotate_left
                    · intro w'
                      go_simp
                      with_reducible rfl
                    rotate_left
                    · simp only [Act.put, List.setIfInBounds_toArray, List.set_cons_zero, List.set_cons_succ, i64_w, i32_w]
                      rfl
                    refine pure_ (i := 1) (N := some 20) (v := ?_) (a' := ?_) #[true, true, false, false, false, false, false, false, false, false] rfl rfl (any_of HT_.out (by kernel_rfl)) (fun _ _ _ h => h) (Or.inl ⟨by rfl, ?_⟩) ?_ ?_
                    rotate_left
                    · intro w'
                      go_simp
                      with_reducible rfl
                    rotate_left
                    · simp only [Act.put, List.setIfInBounds_toArray, List.set_cons_zero, List.set_cons_succ, i64_w, i32_w]
                      rfl
                    refine pure_ (i := 2) (N := some 21) (v := ?_) (a' := ?_) #[true, true, true, false, false, false, false, false, false, false] rfl rfl (any_of HT_.out (by kernel_rfl)) (fun _ _ _ h => h) (Or.inl ⟨by rfl, ?_⟩) ?_ ?_
                    rotate_left
                    · intro w'
                      go_simp
                      with_reducible rfl
                    rotate_left
                    · simp only [Act.put, List.setIfInBounds_toArray, List.set_cons_zero, List.set_cons_succ, i64_w, i32_w]
                      rfl
                    refine pure_ (i := 4) (N := some 23) (v := ?_) (a' := ?_) #[true, true, true, false, true, false, false, false, false, false] rfl rfl (any_of HT_.out (by kernel_rfl)) (fun _ _ _ h => h) (Or.inl ⟨by rfl, ?_⟩) ?_ ?_
                    rotate_left
                    · intro w'
                      go_simp
                      with_reducible rfl
                    rotate_left
                    · simp only [Act.put, List.setIfInBounds_toArray, List.set_cons_zero, List.set_cons_succ, i64_w, i32_w]
                      rfl
                    refine pure_ (i := 5) (N := some 24) (v := ?_) (a' := ?_) #[true, true, true, false, true, true, false, false, false, false] rfl rfl (any_of HT_.out (by kernel_rfl)) (fun _ _ _ h => h) (Or.inl ⟨by rfl, ?_⟩) ?_ ?_
                    rotate_left
                    · intro w'
                      go_simp
                      with_reducible rfl
                    rotate_left
                    · simp only [Act.put, List.setIfInBounds_toArray, List.set_cons_zero, List.set_cons_succ, i64_w, i32_w]
                      rfl
                    refine pure_ (i := 6) (N := some 25) (v := ?_) (a' := ?_) #[true, true, true, false, true, true, true, false, false, false] rfl rfl (any_of HT_.out (by kernel_rfl)) (fun _ _ _ h => h) (Or.inl ⟨by rfl, ?_⟩) ?_ ?_
                    rotate_left
                    · intro w'
                      go_simp
                      with_reducible rfl
                    rotate_left
                    · simp only [Act.put, List.setIfInBounds_toArray, List.set_cons_zero, List.set_cons_succ, i64_w, i32_w]
                      rfl
                    refine take_ (i := 3) (N := some 22) (v := ?_) (a' := ?_) #[true, true, true, true, true, true, true, false, false, false] rfl rfl (take_ofW HT_.out HW_.out (by kernel_rfl)) (fun _ _ _ h => h) (Or.inl ⟨by rfl, ?_⟩) hHeld ?_ ?_
                    rotate_left
                    · rintro w' ⟨s0, s1, s2, s3, s4, s5⟩
                      go_simp
                      with_reducible rfl
                    rotate_left
                    · simp only [Act.put, List.setIfInBounds_toArray, List.set_cons_zero, List.set_cons_succ, i64_w, i32_w]
                      rfl
                    refine take_ (i := 7) (N := some 26) (v := ?_) (a' := ?_) #[true, true, true, true, true, true, true, true, false, false] rfl rfl (take_ofW HT_.out HW_.out (by kernel_rfl)) (fun _ _ _ h => h) (Or.inl ⟨by rfl, ?_⟩) hHeld ?_ ?_
                    rotate_left
                    · rintro w' ⟨s0, s1, s2, s3, s4, s5⟩
                      go_simp
                      with_reducible rfl
                    rotate_left
                    · simp only [Act.put, List.setIfInBounds_toArray, List.set_cons_zero, List.set_cons_succ, i64_w, i32_w]
                      rfl
                    refine one_ (i := 8) (N := some 27) #[true, true, true, true, true, true, true, true, true, false] rfl rfl (one_of HT_.out (by kernel_rfl)) (by decide) (fun K hK => ?_)
                    refine goes_ Try.func49 (by kernel_rfl) rfl #[.agg #[.int .i64 ((rd_T41 l0 x5_1).f0), .int .i64 ((rd_T41 l0 x5_1).f1), .string ((rd_T41 l0 x5_1).f2)], .agg #[.int .i64 ((rd_T41 l1 x5_1).f0), .int .i64 ((rd_T41 l1 x5_1).f1), .string ((rd_T41 l1 x5_1).f2)]] (by rfl) rfl rfl (by (try simp only [List.map_toArray, List.map_cons, List.map_nil]); first | done | rfl | (simp only [List.length_drop, List.length_take]; rfl)) ?_
                    with_reducible refine (belvedereref1_CompareValues.calls kj2 ((rd_T41 l0 x5_1).f0) ((rd_T41 l0 x5_1).f1) ((rd_T41 l0 x5_1).f2) ((rd_T41 l1 x5_1).f0) ((rd_T41 l1 x5_1).f1) ((rd_T41 l1 x5_1).f2) t167 _ A9.out).mono ?_
                    rintro e w14 ⟨rfl, hb⟩
                    refine ⟨_, rfl, ?_⟩
                    have n0_ := Aside0.mk (below_step (by repeat (first | (with_reducible first | exact HB.out | apply below_alloc | apply pw_below_drewN | apply below_drew1) | exact HB.out)) hb)
                    clear HB
                    have HB := n0_
                    clear n0_
                    (try clear hb)
                    (try clear hb2)
                    (try clear hk)
                    (try clear hi)
                    refine hK.out _ _ ⟨((HB.out.cell (World.block_lt_of_cell? w _ hw165_0)).trans hw165_0), ((HB.out.cell (World.block_lt_of_cell? w _ hw165_1)).trans hw165_1), ((HB.out.cell (World.block_lt_of_cell? w _ hw165_2)).trans hw165_2), ((HB.out.cell (World.block_lt_of_cell? w _ hw166_0)).trans hw166_0), ((HB.out.cell (World.block_lt_of_cell? w _ hw166_1)).trans hw166_1), ((HB.out.cell (World.block_lt_of_cell? w _ hw166_2)).trans hw166_2)⟩ (fun hHeld => ?_)
                    clear hK K
                    refine norm_ (a' := ?_) ?_ ?_
                    rotate_left
                    · show Act.put _ (some 27) _ = _
                      simp only [Act.put, List.setIfInBounds_toArray, List.set_cons_zero, List.set_cons_succ, i64_w, i32_w]
                      rfl
                    refine pure_ (i := 9) (N := some 6) (v := ?_) (a' := ?_) #[true, true, true, true, true, true, true, true, true, true] rfl rfl (any_of HT_.out (by kernel_rfl)) (fun _ _ _ h => h) (Or.inl ⟨by rfl, ?_⟩) ?_ ?_
                    rotate_left
                    · intro w'
                      go_simp
                      with_reducible rfl
                    rotate_left
                    · simp only [Act.put, List.setIfInBounds_toArray, List.set_cons_zero, List.set_cons_succ, i64_w, i32_w]
                      rfl
                    refine done_ (done_of HT_.out (by kernel_rfl)) ?_
                    try go_wp2
                    go_ret
                    exact ⟨by first | rfl | (simp [errW_none, errW_some] <;> rfl) | (simp [*, errW_none, errW_some] <;> rfl), by repeat (first | (with_reducible first | exact HB.out | apply below_alloc | apply pw_below_drewN | apply below_drew1) | exact HB.out)⟩
                · rw [if_neg c8] at H
                  exact absurd H (by simp)
              · rw [if_neg c7] at H
                exact absurd H (by simp)
            · rw [if_neg c6] at H
              exact absurd H (by simp)
          · replace c5 := Bool.eq_false_iff.mpr c5
            subst c5
            have H1 : (if (l0.length : Int) < (l1.length : Int) then (some (-1)) else (if (l0.length : Int) > (l1.length : Int) then (some 1) else (some 0))) = some r := by rw [if_neg (show ¬ (false = true) by decide)] at H; exact H
            clear H
            have H := H1
            clear H1
            by_cases c15 : (l0.length : Int) < (l1.length : Int)
            · rw [if_pos c15] at H
              have c15b0 : decide ((l0.length : Int) < (l1.length : Int)) = true := decide_eq_true c15
              have c15b1 : decide (l0.length < l1.length) = true := decide_eq_true (Int.ofNat_lt.mp c15)
              clear c15
              obtain rfl := Option.some.inj H
              go_wp2
              go_ret
              exact ⟨by first | rfl | (simp [errW_none, errW_some] <;> rfl) | (simp [*, errW_none, errW_some] <;> rfl), by repeat (first | (with_reducible first | exact HB.out | apply below_alloc | apply pw_below_drewN | apply below_drew1) | exact HB.out)⟩
            · rw [if_neg c15] at H
              have c15b0 : decide ((l0.length : Int) < (l1.length : Int)) = false := decide_eq_false c15
              have c15b1 : decide (l0.length < l1.length) = false := decide_eq_false (fun h => c15 (Int.ofNat_lt.mpr h))
              clear c15
              by_cases c16 : (l0.length : Int) > (l1.length : Int)
              · rw [if_pos c16] at H
                have c16b0 : decide ((l1.length : Int) < (l0.length : Int)) = true := decide_eq_true c16
                have c16b1 : decide (l1.length < l0.length) = true := decide_eq_true (Int.ofNat_lt.mp c16)
                clear c16
                obtain rfl := Option.some.inj H
                go_wp2
                go_ret
                exact ⟨by first | rfl | (simp [errW_none, errW_some] <;> rfl) | (simp [*, errW_none, errW_some] <;> rfl), by repeat (first | (with_reducible first | exact HB.out | apply below_alloc | apply pw_below_drewN | apply below_drew1) | exact HB.out)⟩
              · rw [if_neg c16] at H
                have c16b0 : decide ((l1.length : Int) < (l0.length : Int)) = false := decide_eq_false c16
                have c16b1 : decide (l1.length < l0.length) = false := decide_eq_false (fun h => c16 (Int.ofNat_lt.mpr h))
                clear c16
                obtain rfl := Option.some.inj H
                go_wp2
                go_ret
                exact ⟨by first | rfl | (simp [errW_none, errW_some] <;> rfl) | (simp [*, errW_none, errW_some] <;> rfl), by repeat (first | (with_reducible first | exact HB.out | apply below_alloc | apply pw_below_drewN | apply below_drew1) | exact HB.out)⟩
def bits_Mul64.f (a0 : Int) (a1 : Int) : Option (Int × Int) := some (IntKind.u64.wrap ((IntKind.u64.wrap ((IntKind.u64.wrap ((a0 / 4294967296) * (a1 / 4294967296))) + ((IntKind.u64.wrap ((IntKind.u64.wrap ((a0 / 4294967296) * (Go.bits .and .u64 a1 4294967295))) + ((IntKind.u64.wrap ((Go.bits .and .u64 a0 4294967295) * (Go.bits .and .u64 a1 4294967295))) / 4294967296))) / 4294967296))) + ((IntKind.u64.wrap ((Go.bits .and .u64 (IntKind.u64.wrap ((IntKind.u64.wrap ((a0 / 4294967296) * (Go.bits .and .u64 a1 4294967295))) + ((IntKind.u64.wrap ((Go.bits .and .u64 a0 4294967295) * (Go.bits .and .u64 a1 4294967295))) / 4294967296))) 4294967295) + (IntKind.u64.wrap ((Go.bits .and .u64 a0 4294967295) * (a1 / 4294967296))))) / 4294967296)), IntKind.u64.wrap (a0 * a1))
set_option maxHeartbeats 8000000 in
set_option maxRecDepth 100000 in
theorem bits_Mul64.calls (a0 : Int) (a1 : Int) (r1 : Int) (r2 : Int) (w : World) (h : bits_Mul64.f a0 a1 = some (r1, r2)) :
    Calls Try.prog 63 #[.int .u64 a0, .int .u64 a1] w fun e w' => e = .returned (.tuple #[.int .u64 r1, .int .u64 r2]) ∧ Drawn0 w w' := by
  have H : (some (IntKind.u64.wrap ((IntKind.u64.wrap ((IntKind.u64.wrap ((a0 / 4294967296) * (a1 / 4294967296))) + ((IntKind.u64.wrap ((IntKind.u64.wrap ((a0 / 4294967296) * (Go.bits .and .u64 a1 4294967295))) + ((IntKind.u64.wrap ((Go.bits .and .u64 a0 4294967295) * (Go.bits .and .u64 a1 4294967295))) / 4294967296))) / 4294967296))) + ((IntKind.u64.wrap ((Go.bits .and .u64 (IntKind.u64.wrap ((IntKind.u64.wrap ((a0 / 4294967296) * (Go.bits .and .u64 a1 4294967295))) + ((IntKind.u64.wrap ((Go.bits .and .u64 a0 4294967295) * (Go.bits .and .u64 a1 4294967295))) / 4294967296))) 4294967295) + (IntKind.u64.wrap ((Go.bits .and .u64 a0 4294967295) * (a1 / 4294967296))))) / 4294967296)), IntKind.u64.wrap (a0 * a1))) = some (r1, r2) := h
  clear h
  simp only [Option.some.injEq, Prod.mk.injEq] at H
  obtain ⟨rfl, rfl⟩ := H
  go_enter Try.func63, Try.ntmps63
  go_wp2
  go_ret2
  exact ⟨by first | rfl | (simp; done) | (simp [*]; done), by repeat (first | exact Drawn0.refl _ | apply Drawn0.step)⟩
def belvedereref1_size.f (a0 : Int) : Option (Int) := if a0 < 0 then (some (IntKind.u64.wrap ((IntKind.u64.wrap (wrap64 (-(wrap64 (a0 + 1))))) + 1))) else (some (IntKind.u64.wrap (a0)))
set_option maxHeartbeats 8000000 in
set_option maxRecDepth 100000 in
theorem belvedereref1_size.calls (a0 : Int) (r : Int) (w : World) (h : belvedereref1_size.f a0 = some r) :
    Calls Try.prog 64 #[.int .i64 a0] w fun e w' => e = .returned (.int .u64 r) ∧ Drawn0 w w' := by
  have H : (if a0 < 0 then (some (IntKind.u64.wrap ((IntKind.u64.wrap (wrap64 (-(wrap64 (a0 + 1))))) + 1))) else (some (IntKind.u64.wrap (a0)))) = some r := h
  clear h
  by_cases c2 : a0 < 0
  · rw [if_pos c2] at H
    have c2b0 : decide (a0 < 0) = true := decide_eq_true c2
    clear c2
    obtain rfl := Option.some.inj H
    go_enter Try.func64, Try.ntmps64
    go_wp2
    go_ret
    exact ⟨by first | rfl | (simp; done) | (simp [*]; done), by repeat (first | exact Drawn0.refl _ | apply Drawn0.step)⟩
  · rw [if_neg c2] at H
    have c2b0 : decide (a0 < 0) = false := decide_eq_false c2
    clear c2
    obtain rfl := Option.some.inj H
    go_enter Try.func64, Try.ntmps64
    go_wp2
    go_ret
    exact ⟨by first | rfl | (simp; done) | (simp [*]; done), by repeat (first | exact Drawn0.refl _ | apply Drawn0.step)⟩
-- NOT PRINTED: function 66 (bits_Add64)
theorem add64_66 (x y c : Int) (hx : 0 ≤ x) (hy : 0 ≤ y) (hc0 : 0 ≤ c) (hc : c ≤ 1) (W : World) :
    (callFunc 66 #[.int .u64 x, .int .u64 y, .int .u64 c]).run Try.prog W = .ok (.value (.tuple #[.int .u64 ((x + y + c) % 18446744073709551616), .int .u64 ((x + y + c) / 18446744073709551616)])) W := by
  rw [run_callFunc_extern (fn := Try.f66) Try.func66 (by kernel_rfl) (by kernel_rfl) (by kernel_rfl) (e := add64Entry) (by kernel_rfl), run_add64 x y c hx hy hc0 hc]
  rfl
theorem add64_66z (x y : Int) (hx : 0 ≤ x) (hy : 0 ≤ y) (W : World) :
    (callFunc 66 #[.int .u64 x, .int .u64 y, .int .u64 0]).run Try.prog W = .ok (.value (.tuple #[.int .u64 ((x + y) % 18446744073709551616), .int .u64 ((x + y) / 18446744073709551616)])) W := by
  rw [add64_66 x y 0 hx hy (Int.le_refl _) (by omega) W, Int.add_zero]
def belvedereref1_plus.f (a0_0 : Int) (a0_1 : Int) (a0_2 : Int) (a1_0 : Int) (a1_1 : Int) (a1_2 : Int) : Option (Int × Int × Int) :=
  if 0 ≤ a0_0 ∧ 0 ≤ a0_1 ∧ 0 ≤ a0_2 ∧ 0 ≤ a1_0 ∧ 0 ≤ a1_1 ∧ 0 ≤ a1_2 ∧ a0_1 < 18446744073709551616 ∧ a0_2 < 18446744073709551616 ∧ a1_1 < 18446744073709551616 ∧ a1_2 < 18446744073709551616 then
    some ((a0_0 + a1_0 + (a0_1 + a1_1 + (a0_2 + a1_2) / 18446744073709551616) / 18446744073709551616) % 18446744073709551616, (a0_1 + a1_1 + (a0_2 + a1_2) / 18446744073709551616) % 18446744073709551616, (a0_2 + a1_2) % 18446744073709551616)
  else none
set_option maxHeartbeats 8000000 in
set_option maxRecDepth 100000 in
theorem belvedereref1_plus.calls (a0_0 : Int) (a0_1 : Int) (a0_2 : Int) (a1_0 : Int) (a1_1 : Int) (a1_2 : Int) (r1 : Int) (r2 : Int) (r3 : Int) (w : World) (h : belvedereref1_plus.f a0_0 a0_1 a0_2 a1_0 a1_1 a1_2 = some (r1, r2, r3)) :
    Calls Try.prog 60 #[.agg #[.int .u64 a0_0, .int .u64 a0_1, .int .u64 a0_2], .agg #[.int .u64 a1_0, .int .u64 a1_1, .int .u64 a1_2]] w fun e w' => e = .returned (.agg #[.int .u64 r1, .int .u64 r2, .int .u64 r3]) ∧ Below w.heap.size w w' := by
  unfold belvedereref1_plus.f at h
  split at h
  · rename_i hh
    obtain ⟨p0, p1, p2, p3, p4, p5, b1, b2, b3, b4⟩ := hh
    simp only [Option.some.injEq, Prod.mk.injEq] at h
    obtain ⟨rfl, rfl, rfl⟩ := h
    have k0 : 0 ≤ (a0_2 + a1_2) / 18446744073709551616 := by omega
    have k1 : (a0_2 + a1_2) / 18446744073709551616 ≤ 1 := by omega
    have k2 : 0 ≤ (a0_1 + a1_1 + (a0_2 + a1_2) / 18446744073709551616) / 18446744073709551616 := by omega
    have k3 : (a0_1 + a1_1 + (a0_2 + a1_2) / 18446744073709551616) / 18446744073709551616 ≤ 1 := by omega
    go_enter Try.func60, Try.ntmps60
    go_wp2_with (first | simp only [add64_66z a0_2 a1_2 p2 p5] | simp only [add64_66 a0_1 a1_1 _ p1 p4 k0 k1] | simp only [add64_66 a0_0 a1_0 _ p0 p3 k2 k3])
    exact bodyPost_ret (v := .agg #[.int .u64 _, .int .u64 _, .int .u64 _]) (by simp [results, Try.results60, go_sem]) rfl ⟨rfl, by repeat (first | exact Below.refl _ _ | apply below_alloc | (refine below_set ?_ (by simp)))⟩
  · exact absurd h (by simp)
def belvedereref1_minus.f (a0_0 : Int) (a0_1 : Int) (a0_2 : Int) : Option (Int × Int × Int) := (belvedereref1_plus.f (Go.bits .xor .u64 18446744073709551615 a0_0) (Go.bits .xor .u64 18446744073709551615 a0_1) (Go.bits .xor .u64 18446744073709551615 a0_2) 0 0 1).bind fun bt170 => (some (bt170.1, bt170.2.1, bt170.2.2))
set_option maxHeartbeats 8000000 in
set_option maxRecDepth 100000 in
theorem belvedereref1_minus.calls (a0_0 : Int) (a0_1 : Int) (a0_2 : Int) (r1 : Int) (r2 : Int) (r3 : Int) (w : World) (h : belvedereref1_minus.f a0_0 a0_1 a0_2 = some (r1, r2, r3)) :
    Calls Try.prog 65 #[.agg #[.int .u64 a0_0, .int .u64 a0_1, .int .u64 a0_2]] w fun e w' => e = .returned (.agg #[.int .u64 r1, .int .u64 r2, .int .u64 r3]) ∧ Below w.heap.size w w' := by
  have hu80 := Try.underlying80
  have HB := Aside0.mk (Below.refl w.heap.size w)
  have H : ((belvedereref1_plus.f (Go.bits .xor .u64 18446744073709551615 a0_0) (Go.bits .xor .u64 18446744073709551615 a0_1) (Go.bits .xor .u64 18446744073709551615 a0_2) 0 0 1).bind fun bt170 => (some (bt170.1, bt170.2.1, bt170.2.2))) = some (r1, r2, r3) := h
  clear h
  replace H := Option.bind_eq_some_iff.mp H
  obtain ⟨⟨t170, t171, t172⟩, A20, H⟩ := H
  replace H : (some (t170, t171, t172)) = some (r1, r2, r3) := H
  have A2 := Aside0.mk A20
  clear A20
  simp only [Option.some.injEq, Prod.mk.injEq] at H
  obtain ⟨rfl, rfl, rfl⟩ := H
  go_enter Try.func65, Try.ntmps65
  go_wp2_with (first | ((with_reducible refine gate_dst (N := 1) rfl ?_); refine box_event ?hg (N := 1) ?hd (cs := #[.int .u64 a0_0, .int .u64 a0_1, .int .u64 a0_2]) (t := 80) ?hr ?_; (case hd => rfl); (case hg => rfl); (case hr => first | (go_simp; done) | (go_simp; rfl)); intro gb168 hg w3 hbox hb; have n0_ := Aside0.mk (below_step (by repeat (first | (with_reducible first | exact HB.out | apply below_alloc | apply pw_below_drewN | apply below_drew1) | exact HB.out)) hb); have n1_ := Aside0.mk (hbox); have n2_ := Aside0.mk ((by rw [hg]; exact (below_size (by repeat (first | (with_reducible first | exact HB.out | apply below_alloc | apply pw_below_drewN | apply below_drew1) | exact HB.out))) : w.heap.size ≤ gb168)); have n3_ := Aside0.mk ((by rw [hg]; exact (below_size (by repeat (first | (with_reducible first | exact HB.out | apply below_alloc | apply pw_below_drewN | apply below_drew1) | exact HB.out))) : w.heap.size ≤ gb168)); clear HB; have HB := n0_; have BK168 := n1_; have GW168 := n2_; have GE168 := n3_; clear n0_ n1_ n2_ n3_; clear hb hbox hg) | ((with_reducible refine gate_dst (N := 2) rfl ?_); refine box_event ?hg (N := 2) ?hd (cs := #[.int .u64 0, .int .u64 0, .int .u64 0]) (t := 80) ?hr ?_; (case hd => rfl); (case hg => rfl); (case hr => first | (go_simp; done) | (go_simp; rfl)); intro gb169 hg w4 hbox hb; have n0_ := Aside0.mk (blk_below (g := gb168) (o := .cells #[.int .u64 a0_0, .int .u64 a0_1, .int .u64 a0_2] 80 (0, 0)) (by (with_reducible repeat (first | refine blk_drewN ?_ _ | refine blk_drew ?_ | refine blk_alloc ?_ _)); exact BK168.out) hb); have n1_ := Aside0.mk (below_step (by repeat (first | (with_reducible first | exact HB.out | apply below_alloc | apply pw_below_drewN | apply below_drew1 | refine below_set ?_ GE168.out) | exact HB.out)) hb); have n2_ := Aside0.mk (hbox); have n3_ := Aside0.mk ((by rw [hg]; exact (below_size (by repeat (first | (with_reducible first | exact HB.out | apply below_alloc | apply pw_below_drewN | apply below_drew1 | refine below_set ?_ GE168.out) | exact HB.out))) : w.heap.size ≤ gb169)); have n4_ := Aside0.mk ((by rw [hg]; exact (below_size (by repeat (first | (with_reducible first | exact HB.out | apply below_alloc | apply pw_below_drewN | apply below_drew1 | refine below_set ?_ GE168.out) | exact HB.out))) : w.heap.size ≤ gb169)); have n5_ := Aside0.mk ((by rw [hg]; exact Nat.ne_of_lt (blk_lt (g := gb168) (o := .cells #[.int .u64 a0_0, .int .u64 a0_1, .int .u64 a0_2] 80 (0, 0)) (by (with_reducible repeat (first | refine blk_drewN ?_ _ | refine blk_drew ?_ | refine blk_alloc ?_ _)); exact BK168.out)) : gb168 ≠ gb169)); have n6_ := Aside0.mk ((by rw [hg]; exact Nat.ne_of_gt (blk_lt (g := gb168) (o := .cells #[.int .u64 a0_0, .int .u64 a0_1, .int .u64 a0_2] 80 (0, 0)) (by (with_reducible repeat (first | refine blk_drewN ?_ _ | refine blk_drew ?_ | refine blk_alloc ?_ _)); exact BK168.out)) : gb169 ≠ gb168)); clear BK168; clear HB; have BK168 := n0_; have HB := n1_; have BK169 := n2_; have GW169 := n3_; have GE169 := n4_; have NB168_169 := n5_; have NB169_168 := n6_; clear n0_ n1_ n2_ n3_ n4_ n5_ n6_; clear hb hbox hg; have hnb5 := NB168_169.out; have hnc5 := NB169_168.out; have hcz6_0 : w4.cell? ⟨gb168, 0, none⟩ = some (.int .u64 a0_0) := (blk_cell BK168.out 0).trans rfl; have hcz6_1 : w4.cell? ⟨gb168, 1, none⟩ = some (.int .u64 a0_1) := (blk_cell BK168.out 1).trans rfl; have hcz6_2 : w4.cell? ⟨gb168, 2, none⟩ = some (.int .u64 a0_2) := (blk_cell BK168.out 2).trans rfl; have hfz6_0 := blk_frozen BK168.out 0; have hfz6_1 := blk_frozen BK168.out 1; have hfz6_2 := blk_frozen BK168.out 2) | ((with_reducible refine gate_callee (f := 60) rfl ?_); refine goesL_ (some 14) rfl rfl Try.func60 (by kernel_rfl) rfl #[.agg #[.int .u64 (Go.bits .xor .u64 18446744073709551615 a0_0), .int .u64 (Go.bits .xor .u64 18446744073709551615 a0_1), .int .u64 (Go.bits .xor .u64 18446744073709551615 a0_2)], .agg #[.int .u64 0, .int .u64 0, .int .u64 1]] rfl (by (try simp only [List.map_toArray, List.map_cons, List.map_nil]); first | done | rfl | (simp only [List.length_drop, List.length_take]; rfl)) ?_; (with_reducible refine (belvedereref1_plus.calls (Go.bits .xor .u64 18446744073709551615 a0_0) (Go.bits .xor .u64 18446744073709551615 a0_1) (Go.bits .xor .u64 18446744073709551615 a0_2) 0 0 1 t170 t171 t172 _ A2.out).mono ?_); rintro e w7 ⟨rfl, hb⟩; refine ⟨_, rfl, ?_⟩; have n0_ := Aside0.mk (blk_below (g := gb168) (o := .cells #[.int .u64 a0_0, .int .u64 a0_1, .int .u64 a0_2] 80 (0, 0)) (by (with_reducible repeat (first | refine blk_drewN ?_ _ | refine blk_drew ?_ | refine blk_alloc ?_ _)); exact BK168.out) hb); have n1_ := Aside0.mk (blk_below (g := gb169) (o := .cells #[.int .u64 0, .int .u64 0, .int .u64 0] 80 (0, 0)) (by (with_reducible repeat (first | refine blk_drewN ?_ _ | refine blk_drew ?_ | refine blk_alloc ?_ _)); exact BK169.out) hb); have n2_ := Aside0.mk (below_step (by repeat (first | (with_reducible first | exact HB.out | apply below_alloc | apply pw_below_drewN | apply below_drew1 | refine below_set ?_ GE168.out | refine below_set ?_ GE169.out) | exact HB.out)) hb); clear BK168; clear BK169; clear HB; have BK168 := n0_; have BK169 := n1_; have HB := n2_; clear n0_ n1_ n2_; (try clear hb); (try clear hb2); (try clear hk); (try clear hi); have hcz8_0 : w7.cell? ⟨gb169, 0, none⟩ = some (.int .u64 0) := (blk_cell BK169.out 0).trans rfl; have hcz8_1 : w7.cell? ⟨gb169, 1, none⟩ = some (.int .u64 0) := (blk_cell BK169.out 1).trans rfl; have hcz8_2 : w7.cell? ⟨gb169, 2, none⟩ = some (.int .u64 0) := (blk_cell BK169.out 2).trans rfl; have hfz8_0 := blk_frozen BK169.out 0; have hfz8_1 := blk_frozen BK169.out 1; have hfz8_2 := blk_frozen BK169.out 2))
  refine bodyPost_ret (results_cell_row rfl _ _ gb169 80 #[.int .u64 t170, .int .u64 t171, .int .u64 t172] (0, 0) _ rfl (by (with_reducible repeat (first | refine blk_drewN ?_ _ | refine blk_drew ?_ | refine blk_alloc ?_ _)); refine blk_put (cs := #[.int .u64 t170, .int .u64 t171, .int .u64 0]) ?_ 2 _ rfl; (with_reducible repeat (first | refine blk_drewN ?_ _ | refine blk_drew ?_ | refine blk_alloc ?_ _)); refine blk_put (cs := #[.int .u64 t170, .int .u64 0, .int .u64 0]) ?_ 1 _ rfl; (with_reducible repeat (first | refine blk_drewN ?_ _ | refine blk_drew ?_ | refine blk_alloc ?_ _)); refine blk_put (cs := #[.int .u64 0, .int .u64 0, .int .u64 0]) ?_ 0 _ rfl; (with_reducible repeat (first | refine blk_drewN ?_ _ | refine blk_drew ?_ | refine blk_alloc ?_ _)); exact BK169.out) Try.underlying80 rfl (by kernel_rfl)) rfl ?_
  exact ⟨by first | rfl | (simp [errW_none, errW_some] <;> rfl) | (simp [*, errW_none, errW_some] <;> rfl), by repeat (first | (with_reducible first | exact HB.out | apply below_alloc | apply pw_below_drewN | apply below_drew1 | refine below_set ?_ GE168.out | refine below_set ?_ GE169.out) | exact HB.out)⟩
def belvedereref1_times.f (a0 : Int) (a1 : Int) : Option (Int × Int × Int) := (belvedereref1_size.f a0).bind fun t174 => ((belvedereref1_size.f a1).bind fun t175 => ((bits_Mul64.f t174 t175).bind fun bt176 => (if ((decide (a0 < 0)) != (decide (a1 < 0))) = true then ((belvedereref1_minus.f 0 bt176.1 bt176.2).bind fun bt179 => (some (bt179.1, bt179.2.1, bt179.2.2))) else (some (0, bt176.1, bt176.2)))))
set_option maxHeartbeats 8000000 in
set_option maxRecDepth 100000 in
theorem belvedereref1_times.calls (a0 : Int) (a1 : Int) (r1 : Int) (r2 : Int) (r3 : Int) (w : World) (h : belvedereref1_times.f a0 a1 = some (r1, r2, r3)) :
    Calls Try.prog 59 #[.int .i64 a0, .int .i64 a1] w fun e w' => e = .returned (.agg #[.int .u64 r1, .int .u64 r2, .int .u64 r3]) ∧ Below w.heap.size w w' := by
  have hu80 := Try.underlying80
  have HB := Aside0.mk (Below.refl w.heap.size w)
  have H : ((belvedereref1_size.f a0).bind fun t174 => ((belvedereref1_size.f a1).bind fun t175 => ((bits_Mul64.f t174 t175).bind fun bt176 => (if ((decide (a0 < 0)) != (decide (a1 < 0))) = true then ((belvedereref1_minus.f 0 bt176.1 bt176.2).bind fun bt179 => (some (bt179.1, bt179.2.1, bt179.2.2))) else (some (0, bt176.1, bt176.2)))))) = some (r1, r2, r3) := h
  clear h
  replace H := Option.bind_eq_some_iff.mp H
  obtain ⟨t174, A30, H⟩ := H
  replace H : ((belvedereref1_size.f a1).bind fun t175 => ((bits_Mul64.f t174 t175).bind fun bt176 => (if ((decide (a0 < 0)) != (decide (a1 < 0))) = true then ((belvedereref1_minus.f 0 bt176.1 bt176.2).bind fun bt179 => (some (bt179.1, bt179.2.1, bt179.2.2))) else (some (0, bt176.1, bt176.2))))) = some (r1, r2, r3) := H
  have A3 := Aside0.mk A30
  clear A30
  replace H := Option.bind_eq_some_iff.mp H
  obtain ⟨t175, A40, H⟩ := H
  replace H : ((bits_Mul64.f t174 t175).bind fun bt176 => (if ((decide (a0 < 0)) != (decide (a1 < 0))) = true then ((belvedereref1_minus.f 0 bt176.1 bt176.2).bind fun bt179 => (some (bt179.1, bt179.2.1, bt179.2.2))) else (some (0, bt176.1, bt176.2)))) = some (r1, r2, r3) := H
  have A4 := Aside0.mk A40
  clear A40
  replace H := Option.bind_eq_some_iff.mp H
  obtain ⟨⟨t176, t177⟩, A50, H⟩ := H
  replace H : (if ((decide (a0 < 0)) != (decide (a1 < 0))) = true then ((belvedereref1_minus.f 0 t176 t177).bind fun bt179 => (some (bt179.1, bt179.2.1, bt179.2.2))) else (some (0, t176, t177))) = some (r1, r2, r3) := H
  have A5 := Aside0.mk A50
  clear A50
  by_cases c6 : ((decide (a0 < 0)) != (decide (a1 < 0))) = true
  · rw [if_pos c6] at H
    have c6b0 : ((decide (a0 < 0)) != (decide (a1 < 0))) = true := c6
    (try (have c6b1 : decide ((decide (a0 < 0)) = (decide (a1 < 0))) = false := by simpa using c6))
    (try (have c6b2 : ((decide (a0 < 0)) == (decide (a1 < 0))) = false := by simpa using c6))
    (try (have c6b3 : ¬ ((decide (a0 < 0)) = (decide (a1 < 0))) := by simpa using c6))
    clear c6
    replace H := Option.bind_eq_some_iff.mp H
    obtain ⟨⟨t179, t180, t181⟩, A70, H⟩ := H
    replace H : (some (t179, t180, t181)) = some (r1, r2, r3) := H
    have A7 := Aside0.mk A70
    clear A70
    simp only [Option.some.injEq, Prod.mk.injEq] at H
    obtain ⟨rfl, rfl, rfl⟩ := H
    go_enter Try.func59, Try.ntmps59
    go_wp2_with (first | ((with_reducible refine gate_dst (N := 4) rfl ?_); refine box_event ?hg (N := 4) ?hd (cs := #[.int .u64 0, .int .u64 0, .int .u64 0]) (t := 80) ?hr ?_; (case hd => rfl); (case hg => rfl); (case hr => first | (go_simp; done) | (go_simp; rfl)); intro gb173 hg w8 hbox hb; have n0_ := Aside0.mk (below_step (by repeat (first | (with_reducible first | exact HB.out | apply below_alloc | apply pw_below_drewN | apply below_drew1) | exact HB.out)) hb); have n1_ := Aside0.mk (hbox); have n2_ := Aside0.mk ((by rw [hg]; exact (below_size (by repeat (first | (with_reducible first | exact HB.out | apply below_alloc | apply pw_below_drewN | apply below_drew1) | exact HB.out))) : w.heap.size ≤ gb173)); have n3_ := Aside0.mk ((by rw [hg]; exact (below_size (by repeat (first | (with_reducible first | exact HB.out | apply below_alloc | apply pw_below_drewN | apply below_drew1) | exact HB.out))) : w.heap.size ≤ gb173)); clear HB; have HB := n0_; have BK173 := n1_; have GW173 := n2_; have GE173 := n3_; clear n0_ n1_ n2_ n3_; clear hb hbox hg) | ((with_reducible refine gate_callee (f := 64) rfl ?_); refine goesL_ (some 10) rfl rfl Try.func64 (by kernel_rfl) rfl #[.int .i64 a0] rfl (by (try simp only [List.map_toArray, List.map_cons, List.map_nil]); first | done | rfl | (simp only [List.length_drop, List.length_take]; rfl)) ?_; (with_reducible refine (belvedereref1_size.calls a0 t174 _ A3.out).mono ?_); rintro e w' ⟨rfl, ⟨nd, rfl⟩⟩; refine ⟨_, rfl, ?_⟩; (try (rw [drewN_self w8]; generalize hq_ : World.drewN w8 _ = w8; have n0_ : Aside0 (w8.heap[gb173]? = some (.cells #[.int .u64 0, .int .u64 0, .int .u64 0] 80 (0, 0))) := ⟨by rw [← hq_]; exact (by (with_reducible repeat (first | refine blk_drewN ?_ _ | refine blk_drew ?_ | refine blk_alloc ?_ _)); exact BK173.out)⟩; have n1_ : Aside0 (Below w.heap.size w w8) := ⟨by rw [← hq_]; exact (by repeat (first | (with_reducible first | exact HB.out | apply below_alloc | apply pw_below_drewN | apply below_drew1 | refine below_set ?_ GE173.out) | exact HB.out))⟩; clear BK173 HB hq_; have BK173 := n0_; have HB := n1_; clear n0_ n1_))) | ((with_reducible refine gate_callee (f := 64) rfl ?_); refine goesL_ (some 12) rfl rfl Try.func64 (by kernel_rfl) rfl #[.int .i64 a1] rfl (by (try simp only [List.map_toArray, List.map_cons, List.map_nil]); first | done | rfl | (simp only [List.length_drop, List.length_take]; rfl)) ?_; (with_reducible refine (belvedereref1_size.calls a1 t175 _ A4.out).mono ?_); rintro e w' ⟨rfl, ⟨nd, rfl⟩⟩; refine ⟨_, rfl, ?_⟩; (try (rw [drewN_self w8]; generalize hq_ : World.drewN w8 _ = w8; have n0_ : Aside0 (w8.heap[gb173]? = some (.cells #[.int .u64 0, .int .u64 0, .int .u64 0] 80 (0, 0))) := ⟨by rw [← hq_]; exact (by (with_reducible repeat (first | refine blk_drewN ?_ _ | refine blk_drew ?_ | refine blk_alloc ?_ _)); exact BK173.out)⟩; have n1_ : Aside0 (Below w.heap.size w w8) := ⟨by rw [← hq_]; exact (by repeat (first | (with_reducible first | exact HB.out | apply below_alloc | apply pw_below_drewN | apply below_drew1 | refine below_set ?_ GE173.out) | exact HB.out))⟩; clear BK173 HB hq_; have BK173 := n0_; have HB := n1_; clear n0_ n1_))) | ((with_reducible refine gate_callee (f := 63) rfl ?_); refine goesL_ (some 13) rfl rfl Try.func63 (by kernel_rfl) rfl #[.int .u64 t174, .int .u64 t175] rfl (by (try simp only [List.map_toArray, List.map_cons, List.map_nil]); first | done | rfl | (simp only [List.length_drop, List.length_take]; rfl)) ?_; (with_reducible refine (bits_Mul64.calls t174 t175 t176 t177 _ A5.out).mono ?_); rintro e w' ⟨rfl, ⟨nd, rfl⟩⟩; refine ⟨_, rfl, ?_⟩; (try (rw [drewN_self w8]; generalize hq_ : World.drewN w8 _ = w8; have n0_ : Aside0 (w8.heap[gb173]? = some (.cells #[.int .u64 0, .int .u64 0, .int .u64 0] 80 (0, 0))) := ⟨by rw [← hq_]; exact (by (with_reducible repeat (first | refine blk_drewN ?_ _ | refine blk_drew ?_ | refine blk_alloc ?_ _)); exact BK173.out)⟩; have n1_ : Aside0 (Below w.heap.size w w8) := ⟨by rw [← hq_]; exact (by repeat (first | (with_reducible first | exact HB.out | apply below_alloc | apply pw_below_drewN | apply below_drew1 | refine below_set ?_ GE173.out) | exact HB.out))⟩; clear BK173 HB hq_; have BK173 := n0_; have HB := n1_; clear n0_ n1_))) | ((with_reducible refine gate_dst (N := 7) rfl ?_); refine box_event ?hg (N := 7) ?hd (cs := #[.int .u64 0, .int .u64 0, .int .u64 0]) (t := 80) ?hr ?_; (case hd => rfl); (case hg => rfl); (case hr => first | (go_simp; done) | (go_simp; rfl)); intro gb178 hg w9 hbox hb; have n0_ := Aside0.mk (blk_below (g := gb173) (o := .cells #[.int .u64 0, .int .u64 0, .int .u64 0] 80 (0, 0)) (by (with_reducible repeat (first | refine blk_drewN ?_ _ | refine blk_drew ?_ | refine blk_alloc ?_ _)); exact BK173.out) hb); have n1_ := Aside0.mk (below_step (by repeat (first | (with_reducible first | exact HB.out | apply below_alloc | apply pw_below_drewN | apply below_drew1 | refine below_set ?_ GE173.out) | exact HB.out)) hb); have n2_ := Aside0.mk (hbox); have n3_ := Aside0.mk ((by rw [hg]; exact (below_size (by repeat (first | (with_reducible first | exact HB.out | apply below_alloc | apply pw_below_drewN | apply below_drew1 | refine below_set ?_ GE173.out) | exact HB.out))) : w.heap.size ≤ gb178)); have n4_ := Aside0.mk ((by rw [hg]; exact (below_size (by repeat (first | (with_reducible first | exact HB.out | apply below_alloc | apply pw_below_drewN | apply below_drew1 | refine below_set ?_ GE173.out) | exact HB.out))) : w.heap.size ≤ gb178)); have n5_ := Aside0.mk ((by rw [hg]; exact Nat.ne_of_lt (blk_lt (g := gb173) (o := .cells #[.int .u64 0, .int .u64 0, .int .u64 0] 80 (0, 0)) (by (with_reducible repeat (first | refine blk_drewN ?_ _ | refine blk_drew ?_ | refine blk_alloc ?_ _)); exact BK173.out)) : gb173 ≠ gb178)); have n6_ := Aside0.mk ((by rw [hg]; exact Nat.ne_of_gt (blk_lt (g := gb173) (o := .cells #[.int .u64 0, .int .u64 0, .int .u64 0] 80 (0, 0)) (by (with_reducible repeat (first | refine blk_drewN ?_ _ | refine blk_drew ?_ | refine blk_alloc ?_ _)); exact BK173.out)) : gb178 ≠ gb173)); clear BK173; clear HB; have BK173 := n0_; have HB := n1_; have BK178 := n2_; have GW178 := n3_; have GE178 := n4_; have NB173_178 := n5_; have NB178_173 := n6_; clear n0_ n1_ n2_ n3_ n4_ n5_ n6_; clear hb hbox hg; have hnb10 := NB178_173.out; have hnc10 := NB173_178.out; have hcz11_0 : w9.cell? ⟨gb178, 0, none⟩ = some (.int .u64 0) := (blk_cell BK178.out 0).trans rfl; have hcz11_1 : w9.cell? ⟨gb178, 1, none⟩ = some (.int .u64 0) := (blk_cell BK178.out 1).trans rfl; have hcz11_2 : w9.cell? ⟨gb178, 2, none⟩ = some (.int .u64 0) := (blk_cell BK178.out 2).trans rfl; have hfz11_0 := blk_frozen BK178.out 0; have hfz11_1 := blk_frozen BK178.out 1; have hfz11_2 := blk_frozen BK178.out 2) | ((with_reducible refine gate_callee (f := 65) rfl ?_); refine goesL_ (some 25) rfl rfl Try.func65 (by kernel_rfl) rfl #[.agg #[.int .u64 0, .int .u64 t176, .int .u64 t177]] rfl (by (try simp only [List.map_toArray, List.map_cons, List.map_nil]); first | done | rfl | (simp only [List.length_drop, List.length_take]; rfl)) ?_; (with_reducible refine (belvedereref1_minus.calls 0 t176 t177 t179 t180 t181 _ A7.out).mono ?_); rintro e w12 ⟨rfl, hb⟩; refine ⟨_, rfl, ?_⟩; have n0_ := Aside0.mk (blk_below (g := gb173) (o := .cells #[.int .u64 0, .int .u64 0, .int .u64 0] 80 (0, 0)) (by (with_reducible repeat (first | refine blk_drewN ?_ _ | refine blk_drew ?_ | refine blk_alloc ?_ _)); refine blk_far ?_ NB173_178.out _; (with_reducible repeat (first | refine blk_drewN ?_ _ | refine blk_drew ?_ | refine blk_alloc ?_ _)); refine blk_far ?_ NB173_178.out _; (with_reducible repeat (first | refine blk_drewN ?_ _ | refine blk_drew ?_ | refine blk_alloc ?_ _)); refine blk_far ?_ NB173_178.out _; (with_reducible repeat (first | refine blk_drewN ?_ _ | refine blk_drew ?_ | refine blk_alloc ?_ _)); exact BK173.out) hb); have n1_ := Aside0.mk (blk_below (g := gb178) (o := .cells #[.int .u64 0, .int .u64 t176, .int .u64 t177] 80 (0, 0)) (by (with_reducible repeat (first | refine blk_drewN ?_ _ | refine blk_drew ?_ | refine blk_alloc ?_ _)); refine blk_put (cs := #[.int .u64 0, .int .u64 t176, .int .u64 0]) ?_ 2 _ rfl; (with_reducible repeat (first | refine blk_drewN ?_ _ | refine blk_drew ?_ | refine blk_alloc ?_ _)); refine blk_put (cs := #[.int .u64 0, .int .u64 0, .int .u64 0]) ?_ 1 _ rfl; (with_reducible repeat (first | refine blk_drewN ?_ _ | refine blk_drew ?_ | refine blk_alloc ?_ _)); refine blk_put (cs := #[.int .u64 0, .int .u64 0, .int .u64 0]) ?_ 0 _ rfl; (with_reducible repeat (first | refine blk_drewN ?_ _ | refine blk_drew ?_ | refine blk_alloc ?_ _)); exact BK178.out) hb); have n2_ := Aside0.mk (below_step (by repeat (first | (with_reducible first | exact HB.out | apply below_alloc | apply pw_below_drewN | apply below_drew1 | refine below_set ?_ GE173.out | refine below_set ?_ GE178.out) | exact HB.out)) hb); clear BK173; clear BK178; clear HB; have BK173 := n0_; have BK178 := n1_; have HB := n2_; clear n0_ n1_ n2_; (try clear hb); (try clear hb2); (try clear hk); (try clear hi); have hcz13_0 : w12.cell? ⟨gb173, 0, none⟩ = some (.int .u64 0) := (blk_cell BK173.out 0).trans rfl; have hcz13_1 : w12.cell? ⟨gb173, 1, none⟩ = some (.int .u64 0) := (blk_cell BK173.out 1).trans rfl; have hcz13_2 : w12.cell? ⟨gb173, 2, none⟩ = some (.int .u64 0) := (blk_cell BK173.out 2).trans rfl; have hfz13_0 := blk_frozen BK173.out 0; have hfz13_1 := blk_frozen BK173.out 1; have hfz13_2 := blk_frozen BK173.out 2))
    refine bodyPost_ret (results_cell_row rfl _ _ gb173 80 #[.int .u64 t179, .int .u64 t180, .int .u64 t181] (0, 0) _ rfl (by (with_reducible repeat (first | refine blk_drewN ?_ _ | refine blk_drew ?_ | refine blk_alloc ?_ _)); refine blk_put (cs := #[.int .u64 t179, .int .u64 t180, .int .u64 0]) ?_ 2 _ rfl; (with_reducible repeat (first | refine blk_drewN ?_ _ | refine blk_drew ?_ | refine blk_alloc ?_ _)); refine blk_put (cs := #[.int .u64 t179, .int .u64 0, .int .u64 0]) ?_ 1 _ rfl; (with_reducible repeat (first | refine blk_drewN ?_ _ | refine blk_drew ?_ | refine blk_alloc ?_ _)); refine blk_put (cs := #[.int .u64 0, .int .u64 0, .int .u64 0]) ?_ 0 _ rfl; (with_reducible repeat (first | refine blk_drewN ?_ _ | refine blk_drew ?_ | refine blk_alloc ?_ _)); exact BK173.out) Try.underlying80 rfl (by kernel_rfl)) rfl ?_
    exact ⟨by first | rfl | (simp [errW_none, errW_some] <;> rfl) | (simp [*, errW_none, errW_some] <;> rfl), by repeat (first | (with_reducible first | exact HB.out | apply below_alloc | apply pw_below_drewN | apply below_drew1 | refine below_set ?_ GE173.out | refine below_set ?_ GE178.out) | exact HB.out)⟩
  · rw [if_neg c6] at H
    have c6b0 : ((decide (a0 < 0)) != (decide (a1 < 0))) = false := by simpa using c6
    (try (have c6b1 : decide ((decide (a0 < 0)) = (decide (a1 < 0))) = true := by simpa using c6))
    (try (have c6b2 : ((decide (a0 < 0)) == (decide (a1 < 0))) = true := by simpa using c6))
    clear c6
    simp only [Option.some.injEq, Prod.mk.injEq] at H
    obtain ⟨rfl, rfl, rfl⟩ := H
    go_enter Try.func59, Try.ntmps59
    go_wp2_with (first | ((with_reducible refine gate_dst (N := 4) rfl ?_); refine box_event ?hg (N := 4) ?hd (cs := #[.int .u64 0, .int .u64 0, .int .u64 0]) (t := 80) ?hr ?_; (case hd => rfl); (case hg => rfl); (case hr => first | (go_simp; done) | (go_simp; rfl)); intro gb173 hg w14 hbox hb; have n0_ := Aside0.mk (below_step (by repeat (first | (with_reducible first | exact HB.out | apply below_alloc | apply pw_below_drewN | apply below_drew1) | exact HB.out)) hb); have n1_ := Aside0.mk (hbox); have n2_ := Aside0.mk ((by rw [hg]; exact (below_size (by repeat (first | (with_reducible first | exact HB.out | apply below_alloc | apply pw_below_drewN | apply below_drew1) | exact HB.out))) : w.heap.size ≤ gb173)); have n3_ := Aside0.mk ((by rw [hg]; exact (below_size (by repeat (first | (with_reducible first | exact HB.out | apply below_alloc | apply pw_below_drewN | apply below_drew1) | exact HB.out))) : w.heap.size ≤ gb173)); clear HB; have HB := n0_; have BK173 := n1_; have GW173 := n2_; have GE173 := n3_; clear n0_ n1_ n2_ n3_; clear hb hbox hg) | ((with_reducible refine gate_callee (f := 64) rfl ?_); refine goesL_ (some 10) rfl rfl Try.func64 (by kernel_rfl) rfl #[.int .i64 a0] rfl (by (try simp only [List.map_toArray, List.map_cons, List.map_nil]); first | done | rfl | (simp only [List.length_drop, List.length_take]; rfl)) ?_; (with_reducible refine (belvedereref1_size.calls a0 t174 _ A3.out).mono ?_); rintro e w' ⟨rfl, ⟨nd, rfl⟩⟩; refine ⟨_, rfl, ?_⟩; (try (rw [drewN_self w14]; generalize hq_ : World.drewN w14 _ = w14; have n0_ : Aside0 (w14.heap[gb173]? = some (.cells #[.int .u64 0, .int .u64 0, .int .u64 0] 80 (0, 0))) := ⟨by rw [← hq_]; exact (by (with_reducible repeat (first | refine blk_drewN ?_ _ | refine blk_drew ?_ | refine blk_alloc ?_ _)); exact BK173.out)⟩; have n1_ : Aside0 (Below w.heap.size w w14) := ⟨by rw [← hq_]; exact (by repeat (first | (with_reducible first | exact HB.out | apply below_alloc | apply pw_below_drewN | apply below_drew1 | refine below_set ?_ GE173.out) | exact HB.out))⟩; clear BK173 HB hq_; have BK173 := n0_; have HB := n1_; clear n0_ n1_))) | ((with_reducible refine gate_callee (f := 64) rfl ?_); refine goesL_ (some 12) rfl rfl Try.func64 (by kernel_rfl) rfl #[.int .i64 a1] rfl (by (try simp only [List.map_toArray, List.map_cons, List.map_nil]); first | done | rfl | (simp only [List.length_drop, List.length_take]; rfl)) ?_; (with_reducible refine (belvedereref1_size.calls a1 t175 _ A4.out).mono ?_); rintro e w' ⟨rfl, ⟨nd, rfl⟩⟩; refine ⟨_, rfl, ?_⟩; (try (rw [drewN_self w14]; generalize hq_ : World.drewN w14 _ = w14; have n0_ : Aside0 (w14.heap[gb173]? = some (.cells #[.int .u64 0, .int .u64 0, .int .u64 0] 80 (0, 0))) := ⟨by rw [← hq_]; exact (by (with_reducible repeat (first | refine blk_drewN ?_ _ | refine blk_drew ?_ | refine blk_alloc ?_ _)); exact BK173.out)⟩; have n1_ : Aside0 (Below w.heap.size w w14) := ⟨by rw [← hq_]; exact (by repeat (first | (with_reducible first | exact HB.out | apply below_alloc | apply pw_below_drewN | apply below_drew1 | refine below_set ?_ GE173.out) | exact HB.out))⟩; clear BK173 HB hq_; have BK173 := n0_; have HB := n1_; clear n0_ n1_))) | ((with_reducible refine gate_callee (f := 63) rfl ?_); refine goesL_ (some 13) rfl rfl Try.func63 (by kernel_rfl) rfl #[.int .u64 t174, .int .u64 t175] rfl (by (try simp only [List.map_toArray, List.map_cons, List.map_nil]); first | done | rfl | (simp only [List.length_drop, List.length_take]; rfl)) ?_; (with_reducible refine (bits_Mul64.calls t174 t175 t176 t177 _ A5.out).mono ?_); rintro e w' ⟨rfl, ⟨nd, rfl⟩⟩; refine ⟨_, rfl, ?_⟩; (try (rw [drewN_self w14]; generalize hq_ : World.drewN w14 _ = w14; have n0_ : Aside0 (w14.heap[gb173]? = some (.cells #[.int .u64 0, .int .u64 0, .int .u64 0] 80 (0, 0))) := ⟨by rw [← hq_]; exact (by (with_reducible repeat (first | refine blk_drewN ?_ _ | refine blk_drew ?_ | refine blk_alloc ?_ _)); exact BK173.out)⟩; have n1_ : Aside0 (Below w.heap.size w w14) := ⟨by rw [← hq_]; exact (by repeat (first | (with_reducible first | exact HB.out | apply below_alloc | apply pw_below_drewN | apply below_drew1 | refine below_set ?_ GE173.out) | exact HB.out))⟩; clear BK173 HB hq_; have BK173 := n0_; have HB := n1_; clear n0_ n1_))) | ((with_reducible refine gate_dst (N := 7) rfl ?_); refine box_event ?hg (N := 7) ?hd (cs := #[.int .u64 0, .int .u64 0, .int .u64 0]) (t := 80) ?hr ?_; (case hd => rfl); (case hg => rfl); (case hr => first | (go_simp; done) | (go_simp; rfl)); intro gb178 hg w15 hbox hb; have n0_ := Aside0.mk (blk_below (g := gb173) (o := .cells #[.int .u64 0, .int .u64 0, .int .u64 0] 80 (0, 0)) (by (with_reducible repeat (first | refine blk_drewN ?_ _ | refine blk_drew ?_ | refine blk_alloc ?_ _)); exact BK173.out) hb); have n1_ := Aside0.mk (below_step (by repeat (first | (with_reducible first | exact HB.out | apply below_alloc | apply pw_below_drewN | apply below_drew1 | refine below_set ?_ GE173.out) | exact HB.out)) hb); have n2_ := Aside0.mk (hbox); have n3_ := Aside0.mk ((by rw [hg]; exact (below_size (by repeat (first | (with_reducible first | exact HB.out | apply below_alloc | apply pw_below_drewN | apply below_drew1 | refine below_set ?_ GE173.out) | exact HB.out))) : w.heap.size ≤ gb178)); have n4_ := Aside0.mk ((by rw [hg]; exact (below_size (by repeat (first | (with_reducible first | exact HB.out | apply below_alloc | apply pw_below_drewN | apply below_drew1 | refine below_set ?_ GE173.out) | exact HB.out))) : w.heap.size ≤ gb178)); have n5_ := Aside0.mk ((by rw [hg]; exact Nat.ne_of_lt (blk_lt (g := gb173) (o := .cells #[.int .u64 0, .int .u64 0, .int .u64 0] 80 (0, 0)) (by (with_reducible repeat (first | refine blk_drewN ?_ _ | refine blk_drew ?_ | refine blk_alloc ?_ _)); exact BK173.out)) : gb173 ≠ gb178)); have n6_ := Aside0.mk ((by rw [hg]; exact Nat.ne_of_gt (blk_lt (g := gb173) (o := .cells #[.int .u64 0, .int .u64 0, .int .u64 0] 80 (0, 0)) (by (with_reducible repeat (first | refine blk_drewN ?_ _ | refine blk_drew ?_ | refine blk_alloc ?_ _)); exact BK173.out)) : gb178 ≠ gb173)); clear BK173; clear HB; have BK173 := n0_; have HB := n1_; have BK178 := n2_; have GW178 := n3_; have GE178 := n4_; have NB173_178 := n5_; have NB178_173 := n6_; clear n0_ n1_ n2_ n3_ n4_ n5_ n6_; clear hb hbox hg; have hnb16 := NB178_173.out; have hnc16 := NB173_178.out; have hcz17_0 : w15.cell? ⟨gb178, 0, none⟩ = some (.int .u64 0) := (blk_cell BK178.out 0).trans rfl; have hcz17_1 : w15.cell? ⟨gb178, 1, none⟩ = some (.int .u64 0) := (blk_cell BK178.out 1).trans rfl; have hcz17_2 : w15.cell? ⟨gb178, 2, none⟩ = some (.int .u64 0) := (blk_cell BK178.out 2).trans rfl; have hfz17_0 := blk_frozen BK178.out 0; have hfz17_1 := blk_frozen BK178.out 1; have hfz17_2 := blk_frozen BK178.out 2; have hcz18_0 : w15.cell? ⟨gb173, 0, none⟩ = some (.int .u64 0) := (blk_cell BK173.out 0).trans rfl; have hcz18_1 : w15.cell? ⟨gb173, 1, none⟩ = some (.int .u64 0) := (blk_cell BK173.out 1).trans rfl; have hcz18_2 : w15.cell? ⟨gb173, 2, none⟩ = some (.int .u64 0) := (blk_cell BK173.out 2).trans rfl; have hfz18_0 := blk_frozen BK173.out 0; have hfz18_1 := blk_frozen BK173.out 1; have hfz18_2 := blk_frozen BK173.out 2))
    refine bodyPost_ret (results_cell_row rfl _ _ gb173 80 #[.int .u64 0, .int .u64 t176, .int .u64 t177] (0, 0) _ rfl (by (with_reducible repeat (first | refine blk_drewN ?_ _ | refine blk_drew ?_ | refine blk_alloc ?_ _)); refine blk_put (cs := #[.int .u64 0, .int .u64 t176, .int .u64 0]) ?_ 2 _ rfl; (with_reducible repeat (first | refine blk_drewN ?_ _ | refine blk_drew ?_ | refine blk_alloc ?_ _)); refine blk_put (cs := #[.int .u64 0, .int .u64 0, .int .u64 0]) ?_ 1 _ rfl; (with_reducible repeat (first | refine blk_drewN ?_ _ | refine blk_drew ?_ | refine blk_alloc ?_ _)); refine blk_put (cs := #[.int .u64 0, .int .u64 0, .int .u64 0]) ?_ 0 _ rfl; (with_reducible repeat (first | refine blk_drewN ?_ _ | refine blk_drew ?_ | refine blk_alloc ?_ _)); refine blk_far ?_ NB173_178.out _; (with_reducible repeat (first | refine blk_drewN ?_ _ | refine blk_drew ?_ | refine blk_alloc ?_ _)); refine blk_far ?_ NB173_178.out _; (with_reducible repeat (first | refine blk_drewN ?_ _ | refine blk_drew ?_ | refine blk_alloc ?_ _)); refine blk_far ?_ NB173_178.out _; (with_reducible repeat (first | refine blk_drewN ?_ _ | refine blk_drew ?_ | refine blk_alloc ?_ _)); exact BK173.out) Try.underlying80 rfl (by kernel_rfl)) rfl ?_
    exact ⟨by first | rfl | (simp [errW_none, errW_some] <;> rfl) | (simp [*, errW_none, errW_some] <;> rfl), by repeat (first | (with_reducible first | exact HB.out | apply below_alloc | apply pw_below_drewN | apply below_drew1 | refine below_set ?_ GE173.out | refine below_set ?_ GE178.out) | exact HB.out)⟩
end Go.Proofs.Ythegdcodjhbonaa.PA
