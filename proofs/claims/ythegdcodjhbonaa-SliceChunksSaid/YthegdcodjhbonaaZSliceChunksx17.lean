/- What the Go functions behind the law come to: for each a Lean function with the same answers and a proof that the call returns them; laid by a program of this session. -/
import Derived.Test.YthegdcodjhbonaaZSliceChunksx13
import Derived.Test.YthegdcodjhbonaaZSliceChunksx16
namespace Go.Proofs.Ythegdcodjhbonaa.PA
open Go.RowKit Go.Proofs.YthegdcodjhbonaaW.PrintWords Go.Proofs.YthegdcodjhbonaaW.PrintLast Go.Proofs.YthegdcodjhbonaaW.PrintMore
set_option linter.unusedVariables false
set_option linter.unusedSimpArgs false
mutual
def belvedereref1_gather.l0 : Nat → List (S36) → List (S82) → Int → Option ((List (S82)))
  | 0, _, _, _ => none
  | k + 1, x0, x3, x4 => if x4 < (x0.length : Int) then (belvedereref1_gather.l1 k x0 x3 x4 0 (x3.length : Int)) else (some x3)
def belvedereref1_gather.l1 : Nat → List (S36) → List (S82) → Int → Int → Int → Option ((List (S82)))
  | 0, _, _, _, _, _ => none
  | k + 1, x0, x3, x4, x5, x6 => if x5 < x6 then (if 0 ≤ (wrap64 (Int.tdiv (wrap64 (x5 + x6)) 2)) then (if (wrap64 (Int.tdiv (wrap64 (x5 + x6)) 2)) < (x3.length : Int) then (if 0 ≤ x4 then (if x4 < (x0.length : Int) then ((belvedereref1_CompareRows.f k ((rd_T82 x3 (wrap64 (Int.tdiv (wrap64 (x5 + x6)) 2))).f0) ((rd_T36 x0 x4).f0)).bind fun t184 => (if t184 < 0 then (belvedereref1_gather.l1 k x0 x3 x4 (wrap64 ((wrap64 (Int.tdiv (wrap64 (x5 + x6)) 2)) + 1)) x6) else (belvedereref1_gather.l1 k x0 x3 x4 x5 (wrap64 (Int.tdiv (wrap64 (x5 + x6)) 2))))) else (none)) else (none)) else (none)) else (none)) else (if 0 ≤ x4 then (if x4 < (x0.length : Int) then ((belvedereref1_times.f ((rd_T36 x0 x4).f1) 1).bind fun bt186 => (if x5 < (x3.length : Int) then (if 0 ≤ x5 then ((belvedereref1_CompareRows.f k ((rd_T82 x3 x5).f0) ((rd_T36 x0 x4).f0)).bind fun t192 => (belvedereref1_gather.j2 k x0 x3 x4 x5 (t192 == 0) bt186.1 bt186.2.1 bt186.2.2)) else (none)) else (belvedereref1_gather.j2 k x0 x3 x4 x5 false bt186.1 bt186.2.1 bt186.2.2))) else (none)) else (none))
def belvedereref1_gather.j2 : Nat → List (S36) → List (S82) → Int → Int → Bool → Int → Int → Int → Option ((List (S82)))
  | 0, _, _, _, _, _, _, _, _ => none
  | k + 1, x0, x3, x4, x5, x63, x190000, x190001, x190002 => if x63 = true then (if 0 ≤ x5 then (if x5 < (x3.length : Int) then ((belvedereref1_plus.f ((rd_T82 x3 x5).f1.f0) ((rd_T82 x3 x5).f1.f1) ((rd_T82 x3 x5).f1.f2) x190000 x190001 x190002).bind fun bt194 => (belvedereref1_gather.l0 k x0 (x3.set (x5 : Int).toNat (⟨(rd_T82 x3 x5).f0, (⟨bt194.1, bt194.2.1, bt194.2.2⟩ : S80)⟩ : S82)) (wrap64 (x4 + 1)))) else (none)) else (none)) else (if x3.length < 2932031007402 then ((some (x3 ++ [(⟨([] : List (S41)), (⟨0, 0, 0⟩ : S80)⟩ : S82)] : List (S82))).bind fun y198 => (belvedereref1_gather.l2 k x0 y198 x4 x5 (wrap64 ((y198.length : Int) - 1)) x190000 x190001 x190002)) else (none))
def belvedereref1_gather.l2 : Nat → List (S36) → List (S82) → Int → Int → Int → Int → Int → Int → Option ((List (S82)))
  | 0, _, _, _, _, _, _, _, _ => none
  | k + 1, x0, x3, x4, x5, x9, x190000, x190001, x190002 => if x9 > x5 then (if 0 ≤ (wrap64 (x9 - 1)) then (if (wrap64 (x9 - 1)) < (x3.length : Int) then (if 0 ≤ x9 then (if x9 < (x3.length : Int) then (belvedereref1_gather.l2 k x0 (x3.set (x9 : Int).toNat (⟨(rd_T82 x3 (wrap64 (x9 - 1))).f0, (⟨(rd_T82 x3 (wrap64 (x9 - 1))).f1.f0, (rd_T82 x3 (wrap64 (x9 - 1))).f1.f1, (rd_T82 x3 (wrap64 (x9 - 1))).f1.f2⟩ : S80)⟩ : S82)) x4 x5 (wrap64 (x9 - 1)) x190000 x190001 x190002) else (none)) else (none)) else (none)) else (none)) else (if 0 ≤ x4 then (if x4 < (x0.length : Int) then (if 0 ≤ x5 then (if x5 < (x3.length : Int) then (belvedereref1_gather.l0 k x0 (x3.set (x5 : Int).toNat (⟨(rd_T36 x0 x4).f0, (⟨x190000, x190001, x190002⟩ : S80)⟩ : S82)) (wrap64 (x4 + 1))) else (none)) else (none)) else (none)) else (none))
end
def belvedereref1_gather.f (k : Nat) (l0 : List (S36)) : Option ((List (S82))) := belvedereref1_gather.l0 k l0 ([] : List (S82)) 0
def belvedereref1_gather.T9 : Bool × List (List Nat × List Nat) := (true, [([], []), ([], []), ([0, 1], [0, 1]), ([2], [2]), ([3], [3]), ([], []), ([], []), ([5, 6], [5, 6]), ([7], [7]), ([8], [8]), ([4, 9], [4, 9]), ([10], [10])])
def belvedereref1_gather.B9 : List Nat := [0, 0, 3, 7, 15, 0, 0, 96, 224, 480, 1023, 2047]
theorem belvedereref1_gather.tab9 : rtab .any (opsOf Try.f53 9) = belvedereref1_gather.T9 := by kernel_rfl
theorem belvedereref1_gather.bits9 : waitsOk belvedereref1_gather.T9.2 belvedereref1_gather.B9 = true := by kernel_rfl
def belvedereref1_gather.T13 : Bool × List (List Nat × List Nat) := (true, [([], []), ([], []), ([1], [1]), ([0, 2], [0, 2]), ([3], [3]), ([4], [4]), ([4], [4]), ([5, 6, 4], [4, 5, 6]), ([7, 4], [4, 7]), ([8, 4], [4, 8]), ([4], [4]), ([4], [4]), ([10, 11, 4], [4, 10, 11]), ([12, 4], [4, 12]), ([13, 4], [4, 13]), ([9, 14, 4, 4], [4, 9, 14]), ([15, 4], [4, 15]), ([4, 16], [4, 16])])
def belvedereref1_gather.B13 : List Nat := [0, 0, 2, 7, 15, 31, 31, 127, 255, 511, 31, 31, 3103, 7199, 15391, 32767, 65535, 131071]
theorem belvedereref1_gather.tab13 : rtab .any (opsOf Try.f53 13) = belvedereref1_gather.T13 := by kernel_rfl
theorem belvedereref1_gather.bits13 : waitsOk belvedereref1_gather.T13.2 belvedereref1_gather.B13 = true := by kernel_rfl
def belvedereref1_gather.T14 : Bool × List (List Nat × List Nat) := (true, [([], []), ([], []), ([], []), ([], []), ([2, 3], [2, 3]), ([4], [4]), ([5], [5]), ([], []), ([6, 7], [6, 7]), ([0, 1, 0, 1, 2, 3, 4, 5, 6, 7, 8], [0, 1]), ([9, 0, 1, 2, 3, 4, 5, 6, 7, 8], [9]), ([10, 8, 8, 0, 1, 2, 3, 4, 5, 6, 7, 8], [8, 10])])
def belvedereref1_gather.B14 : List Nat := [0, 0, 0, 0, 12, 28, 60, 0, 252, 511, 1023, 2047]
theorem belvedereref1_gather.tab14 : rtab .any (opsOf Try.f53 14) = belvedereref1_gather.T14 := by kernel_rfl
theorem belvedereref1_gather.bits14 : waitsOk belvedereref1_gather.T14.2 belvedereref1_gather.B14 = true := by kernel_rfl
def belvedereref1_gather.T20 : Bool × List (List Nat × List Nat) := (true, [([], []), ([], []), ([], []), ([], []), ([2, 3], [2, 3]), ([4], [4]), ([5], [5]), ([], []), ([6, 7], [6, 7]), ([0, 1, 0, 1, 2, 3, 4, 5, 6, 7, 8], [0, 1]), ([9, 8, 0, 1, 2, 3, 4, 5, 6, 7, 8], [8, 9])])
def belvedereref1_gather.B20 : List Nat := [0, 0, 0, 0, 12, 28, 60, 0, 252, 511, 1023]
theorem belvedereref1_gather.tab20 : rtab .any (opsOf Try.f53 20) = belvedereref1_gather.T20 := by kernel_rfl
theorem belvedereref1_gather.bits20 : waitsOk belvedereref1_gather.T20.2 belvedereref1_gather.B20 = true := by kernel_rfl
set_option maxHeartbeats 8000000 in
set_option maxRecDepth 100000 in
theorem belvedereref1_gather.calls (k : Nat) (P0_ : Nat → Prop) (A0 : Option Addr) (c0 : Nat) (l0 : List (S36)) (r : List (S82)) (w : World) (hs0 : Kd.V k36 36 w w.heap.size (fun k_ => P0_ k_) (.slice A0 l0.length c0) l0) (h : belvedereref1_gather.f k l0 = some r) :
    Calls Try.prog 53 #[.slice A0 l0.length c0] w fun e w' => ∃ v0_ : Value, e = .returned (v0_) ∧ Kd.N k82 82 w' w.heap.size (fun k_ => (P0_ k_ ∨ w.heap.size ≤ k_)) v0_ r ∧ Below w.heap.size w w' := by
  have hu80 := Try.underlying80
  have hu82 := Try.underlying82
  have HO0 := Aside0.mk (show Kd.V k36 36 w w.heap.size (fun k_ => (P0_ k_ ∨ w.heap.size ≤ k_)) (.slice A0 l0.length c0) l0 from Kd.V_mono hs0 (fun k_ hk => .inl hk))
  have HB := Aside0.mk (Below.refl w.heap.size w)
  have H : (belvedereref1_gather.l0 k l0 ([] : List (S82)) 0) = some r := h
  clear h
  have H' := Aside0.mk H
  clear H
  go_enter Try.func53, Try.ntmps53
  go_wp2
  go_loopg [3, 4] k (fun kq v3 v4 w' => ∃ (x3_1 : List (S82)) (x4_1 : Int), v4 = .int .i64 x4_1 ∧ Aside0 (belvedereref1_gather.l0 kq l0 x3_1 x4_1 = some r) ∧ Aside0 (kq ≤ k) ∧ Aside0 (Kd.V k36 36 w' w.heap.size (fun k_ => (P0_ k_ ∨ w.heap.size ≤ k_) ∧ some k_ ≠ (v3 : Value).ownBlock) (.slice A0 l0.length c0) l0) ∧ Aside0 (Kd.N k82 82 w' w.heap.size (fun k_ => (P0_ k_ ∨ w.heap.size ≤ k_)) v3 x3_1) ∧ Aside0 (Below w.heap.size w w'))
  case atStart => exact ⟨(([] : List (S82))), (0), (by first | rfl | (simp; done) | (simp [*]; done)), H', ⟨Nat.le_refl _⟩, ⟨by (with_reducible repeat (first | apply Kd.V_alloc | apply Kd.V_drewN | apply Kd.V_drew)); exact Kd.V_mono HO0.out (fun _ hk => ⟨hk, (by simp [Value.ownBlock])⟩)⟩, ⟨by first | exact Kd.S_nil _ _ _ _ _ | exact Kd.N_nil _ _ _ _ _ | exact Kd.V_nil _ _ _ _ _ | exact Kd.Q_nil _ _ _ _ _ | exact Kd.R_nil _ _ _ _ _⟩, ⟨by repeat (first | (with_reducible first | exact HB.out | apply below_alloc | apply pw_below_drewN | apply below_drew1) | exact HB.out)⟩⟩
  case round =>
    clear H'
    obtain ⟨x3_1, x4_1, rfl, HA, HK1, HO_0, HO_3, HB⟩ := hrel
    cases gk with
    | zero => exact absurd HA.out (by simp [belvedereref1_gather.l0])
    | succ k1 =>
      have H := HA.out
      clear HA
      simp only [belvedereref1_gather.l0] at H
      by_cases c2 : x4_1 < (l0.length : Int)
      · rw [if_pos c2] at H
        have c2b0 : decide (x4_1 < (l0.length : Int)) = true := decide_eq_true c2
        clear c2
        have H' := Aside0.mk H
        clear H
        obtain ⟨Ao3, co3, eo3⟩ := Kd.N_slice HO_3.out
        subst eo3
        go_wp2
        go_loopg [5, 6] k1 (fun kq v5 v6 w' => ∃ (x5_2 : Int) (x6_2 : Int), v5 = .int .i64 x5_2 ∧ v6 = .int .i64 x6_2 ∧ Aside0 (belvedereref1_gather.l1 kq l0 x3_1 x4_1 x5_2 x6_2 = some r) ∧ Aside0 (kq ≤ k1) ∧ Aside0 (Kd.V k36 36 w' w.heap.size (fun k_ => (P0_ k_ ∨ w.heap.size ≤ k_) ∧ some k_ ≠ ((.slice Ao3 x3_1.length co3) : Value).ownBlock) (.slice A0 l0.length c0) l0) ∧ Aside0 (Kd.N k82 82 w' w.heap.size (fun k_ => (P0_ k_ ∨ w.heap.size ≤ k_)) (.slice Ao3 x3_1.length co3) x3_1) ∧ Aside0 (Below w.heap.size w w'))
        case atStart => exact ⟨(0), ((x3_1.length : Int)), (by first | rfl | (simp; done) | (simp [*]; done)), (by first | rfl | (simp; done) | (simp [*]; done)), H', ⟨Nat.le_refl _⟩, ⟨by (with_reducible repeat (first | apply Kd.V_alloc | apply Kd.V_drewN | apply Kd.V_drew)); exact HO_0.out⟩, ⟨by (with_reducible repeat (first | apply Kd.N_alloc | apply Kd.N_drewN | apply Kd.N_drew)); exact HO_3.out⟩, ⟨by repeat (first | (with_reducible first | exact HB.out | apply below_alloc | apply pw_below_drewN | apply below_drew1) | exact HB.out)⟩⟩
        case round =>
          clear H'
          try clear c2
          try clear c2b0
          try clear p2
          obtain ⟨x5_2, x6_2, rfl, rfl, HA, HK2, HO_0, HO_3, HB⟩ := hrel
          cases gk with
          | zero => exact absurd HA.out (by simp [belvedereref1_gather.l1])
          | succ k2 =>
            have H := HA.out
            clear HA
            simp only [belvedereref1_gather.l1] at H
            by_cases c4 : x5_2 < x6_2
            · rw [if_pos c4] at H
              have c4b0 : decide (x5_2 < x6_2) = true := decide_eq_true c4
              clear c4
              obtain ⟨ji5, hji5⟩ : ∃ j_ : Int, (wrap64 (Int.tdiv (wrap64 (x5_2 + x6_2)) 2)) = j_ := ⟨_, rfl⟩
              replace H : (if 0 ≤ (ji5) then (if (ji5) < (x3_1.length : Int) then (if 0 ≤ x4_1 then (if x4_1 < (l0.length : Int) then ((belvedereref1_CompareRows.f k2 ((rd_T82 x3_1 (ji5)).f0) ((rd_T36 l0 x4_1).f0)).bind fun t184 => (if t184 < 0 then (belvedereref1_gather.l1 k2 l0 x3_1 x4_1 (wrap64 ((ji5) + 1)) x6_2) else (belvedereref1_gather.l1 k2 l0 x3_1 x4_1 x5_2 ji5))) else (none)) else (none)) else (none)) else (none)) = some r := by first | (rw [hji5] at H; exact H) | (simp only [hji5] at H ⊢; exact H)
              have hji5w : (IntKind.i64.wrap (Int.tdiv (wrap64 (x5_2 + x6_2)) 2)) = ji5 := (i64_w _).trans hji5
              by_cases c6 : 0 ≤ (ji5)
              · rw [if_pos c6] at H
                have c6b0 : decide (0 ≤ (ji5)) = true := decide_eq_true c6
                clear c6
                by_cases c7 : (ji5) < (x3_1.length : Int)
                · rw [if_pos c7] at H
                  have c7b0 : decide ((ji5) < (x3_1.length : Int)) = true := decide_eq_true c7
                  clear c7
                  by_cases c8 : 0 ≤ x4_1
                  · rw [if_pos c8] at H
                    have c8b0 : decide (0 ≤ x4_1) = true := decide_eq_true c8
                    clear c8
                    by_cases c9 : x4_1 < (l0.length : Int)
                    · rw [if_pos c9] at H
                      have c9b0 : decide (x4_1 < (l0.length : Int)) = true := decide_eq_true c9
                      clear c9
                      replace H := Option.bind_eq_some_iff.mp H
                      obtain ⟨t184, A100, H⟩ := H
                      replace H : (if t184 < 0 then (belvedereref1_gather.l1 k2 l0 x3_1 x4_1 (wrap64 ((ji5) + 1)) x6_2) else (belvedereref1_gather.l1 k2 l0 x3_1 x4_1 x5_2 ji5)) = some r := H
                      have A10 := Aside0.mk A100
                      clear A100
                      by_cases c11 : t184 < 0
                      · rw [if_pos c11] at H
                        have c11b0 : decide (t184 < 0) = true := decide_eq_true c11
                        clear c11
                        have H' := Aside0.mk H
                        clear H
                        try go_wp2
                        have n0_ := Aside0.mk (Kd.V_drew HO_0.out)
                        have n1_ := Aside0.mk (Kd.N_drew HO_3.out)
                        have n2_ := Aside0.mk (below_drew1 HB.out)
                        clear HO_0
                        clear HO_3
                        clear HB
                        have HO_0 := n0_
                        have HO_3 := n1_
                        have HB := n2_
                        clear n0_ n1_ n2_
                        have p182 : 0 ≤ ((ji5) : Int) := of_decide_eq_true (by first | (with_reducible assumption) | assumption)
                        have q182 : (ji5) < (x3_1.length : Int) := of_decide_eq_true (by first | (with_reducible assumption) | assumption)
                        obtain ⟨ad182, A182_0, c182_0, e182, hx182_0, hx182_1, hx182_2, hx182_3, hl182_0, hi182_0⟩ := at_T82 (Kd.N_reads' HO_3.out).2.2 (ji5) p182 q182
                        cases e182
                        obtain ⟨ce182, hce182, hMe182, hcc182⟩ := Kd.N_get HO_3.out z82 (ji5) p182 (by first | exact q182 | exact of_decide_eq_true (by first | (with_reducible assumption) | assumption) | (have e_ := (Kd.N_reads' HO_3.out).1; omega))
                        obtain ⟨ua182_0, uc182_0, rfl, ul182_0, ge182_0⟩ := k82_openF hMe182
                        have hv182_0 := hcc182 0 _ rfl
                        rw [Nat.add_zero] at hv182_0
                        replace hv182_0 := Option.some.inj (hv182_0.symm.trans hx182_0)
                        injection hv182_0 with hva_ hvn_ hvc_
                        rw [hva_] at ge182_0
                        rw [hvc_] at ul182_0
                        have HL182_0 := Aside0.mk (show Kd.V k41 41 _ w.heap.size _ _ ((rd_T82 x3_1 (ji5)).f0) from Kd.V_mk ul182_0 ge182_0)
                        clear hva_ hvn_ hvc_ ge182_0 ul182_0
                        clear hcc182 hce182
                        have HR182_0 := Aside0.mk hi182_0
                        have HC182_0 := Aside0.mk hl182_0
                        clear hi182_0 hl182_0
                        replace p182 := eq_true p182
                        replace q182 := eq_true q182
                        have p183 : 0 ≤ (x4_1 : Int) := of_decide_eq_true (by first | (with_reducible assumption) | assumption)
                        have q183 : x4_1 < (l0.length : Int) := of_decide_eq_true (by first | (with_reducible assumption) | assumption)
                        obtain ⟨ad183, A183_0, c183_0, e183, hx183_0, hx183_1, hl183_0, hi183_0⟩ := at_T36 (Kd.V_reads' HO_0.out).2.2 x4_1 p183 q183
                        cases e183
                        obtain ⟨ce183, hce183, hMe183, hcc183⟩ := Kd.V_get HO_0.out z36 x4_1 p183 (by first | exact q183 | exact of_decide_eq_true (by first | (with_reducible assumption) | assumption) | (have e_ := (Kd.V_reads' HO_0.out).1; omega))
                        obtain ⟨ua183_0, uc183_0, rfl, ul183_0, ge183_0⟩ := k36_openF hMe183
                        have hv183_0 := hcc183 0 _ rfl
                        rw [Nat.add_zero] at hv183_0
                        replace hv183_0 := Option.some.inj (hv183_0.symm.trans hx183_0)
                        injection hv183_0 with hva_ hvn_ hvc_
                        rw [hva_] at ge183_0
                        rw [hvc_] at ul183_0
                        have HL183_0 := Aside0.mk (show Kd.V k41 41 _ w.heap.size _ _ ((rd_T36 l0 x4_1).f0) from Kd.V_mk ul183_0 ge183_0)
                        clear hva_ hvn_ hvc_ ge183_0 ul183_0
                        clear hcc183 hce183
                        have HR183_0 := Aside0.mk hi183_0
                        have HC183_0 := Aside0.mk hl183_0
                        clear hi183_0 hl183_0
                        replace p183 := eq_true p183
                        replace q183 := eq_true q183
                        refine start_ (n := 12) (S := fun w' => w'.cell? (ad182.add (((ji5)).toNat * 4)) = some (.slice A182_0 ((rd_T82 x3_1 (ji5)).f0).length c182_0) ∧ w'.cell? ⟨(ad182.add (((ji5)).toNat * 4)).block, (ad182.add (((ji5)).toNat * 4)).off + 1, none⟩ = some (.int .u64 ((rd_T82 x3_1 (ji5)).f1.f0)) ∧ w'.cell? ⟨(ad182.add (((ji5)).toNat * 4)).block, (ad182.add (((ji5)).toNat * 4)).off + 2, none⟩ = some (.int .u64 ((rd_T82 x3_1 (ji5)).f1.f1)) ∧ w'.cell? ⟨(ad182.add (((ji5)).toNat * 4)).block, (ad182.add (((ji5)).toNat * 4)).off + 3, none⟩ = some (.int .u64 ((rd_T82 x3_1 (ji5)).f1.f2)) ∧ w'.cell? (ad183.add ((x4_1).toNat * 2)) = some (.slice A183_0 ((rd_T36 l0 x4_1).f0).length c183_0) ∧ w'.cell? ⟨(ad183.add ((x4_1).toNat * 2)).block, (ad183.add ((x4_1).toNat * 2)).off + 1, none⟩ = some (.int .i64 ((rd_T36 l0 x4_1).f1))) (ds := []) #[false, false, false, false, false, false, false, false, false, false, false, false] (by kernel_rfl) rfl rfl ⟨hx182_0, hx182_1, hx182_2, hx182_3, hx183_0, hx183_1⟩ (fun hHeld => ?_); refine with_tabW belvedereref1_gather.tab9 belvedereref1_gather.bits9 (fun HT_ HW_ => ?_)
                        generalize wr.drew = w12 at HO_0 HO_3 HB HL182_0 HL183_0 HR182_0 HR183_0 hx182_0 hx182_1 hx182_2 hx182_3 hx183_0 hx183_1 hHeld ⊢
                        refine pure_ (i := 0) (N := some 25) (v := ?_) (a' := ?_) #[true, false, false, false, false, false, false, false, false, false, false, false] rfl rfl (any_of HT_.out (by kernel_rfl)) (fun _ _ _ h => h) (Or.inl ⟨by rfl, ?_⟩) ?_ ?_
                        rotate_left
                        · intro w'
                          go_simp
                          with_reducible rfl
                        rotate_left
                        · simp only [Act.put, List.setIfInBounds_toArray, List.set_cons_zero, List.set_cons_succ, i64_w, i32_w]
                          rfl
                        refine pure_ (i := 1) (N := some 26) (v := ?_) (a' := ?_) #[true, true, false, false, false, false, false, false, false, false, false, false] rfl rfl (any_of HT_.out (by kernel_rfl)) (fun _ _ _ h => h) (Or.inl ⟨by rfl, ?_⟩) ?_ ?_
                        rotate_left
                        · intro w'
                          go_simp
                          with_reducible rfl
                        rotate_left
                        · simp only [Act.put, List.setIfInBounds_toArray, List.set_cons_zero, List.set_cons_succ, i64_w, i32_w]
                          rfl
                        refine pure_ (i := 2) (N := some 27) (v := ?_) (a' := ?_) #[true, true, true, false, false, false, false, false, false, false, false, false] rfl rfl (any_of HT_.out (by kernel_rfl)) (fun _ _ _ h => h) (Or.inl ⟨by rfl, ?_⟩) ?_ ?_
                        rotate_left
                        · intro w'
                          go_simp
                          with_reducible rfl
                        rotate_left
                        · simp only [Act.put, List.setIfInBounds_toArray, List.set_cons_zero, List.set_cons_succ, i64_w, i32_w]
                          rfl
                        refine pure_ (i := 3) (N := some 28) (v := ?_) (a' := ?_) #[true, true, true, true, false, false, false, false, false, false, false, false] rfl rfl (any_of HT_.out (by kernel_rfl)) (fun _ _ _ h => h) (Or.inl ⟨by rfl, ?_⟩) ?_ ?_
                        rotate_left
                        · intro w'
                          go_simp
                          with_reducible rfl
                        rotate_left
                        · simp only [Act.put, List.setIfInBounds_toArray, List.set_cons_zero, List.set_cons_succ, i64_w, i32_w]
                          rfl
                        refine pure_ (i := 5) (N := some 30) (v := ?_) (a' := ?_) #[true, true, true, true, false, true, false, false, false, false, false, false] rfl rfl (any_of HT_.out (by kernel_rfl)) (fun _ _ _ h => h) (Or.inl ⟨by rfl, ?_⟩) ?_ ?_
                        rotate_left
                        · intro w'
                          go_simp
                          with_reducible rfl
                        rotate_left
                        · simp only [Act.put, List.setIfInBounds_toArray, List.set_cons_zero, List.set_cons_succ, i64_w, i32_w]
                          rfl
                        refine pure_ (i := 6) (N := some 31) (v := ?_) (a' := ?_) #[true, true, true, true, false, true, true, false, false, false, false, false] rfl rfl (any_of HT_.out (by kernel_rfl)) (fun _ _ _ h => h) (Or.inl ⟨by rfl, ?_⟩) ?_ ?_
                        rotate_left
                        · intro w'
                          go_simp
                          with_reducible rfl
                        rotate_left
                        · simp only [Act.put, List.setIfInBounds_toArray, List.set_cons_zero, List.set_cons_succ, i64_w, i32_w]
                          rfl
                        refine pure_ (i := 7) (N := some 32) (v := ?_) (a' := ?_) #[true, true, true, true, false, true, true, true, false, false, false, false] rfl rfl (any_of HT_.out (by kernel_rfl)) (fun _ _ _ h => h) (Or.inl ⟨by rfl, ?_⟩) ?_ ?_
                        rotate_left
                        · intro w'
                          go_simp
                          with_reducible rfl
                        rotate_left
                        · simp only [Act.put, List.setIfInBounds_toArray, List.set_cons_zero, List.set_cons_succ, i64_w, i32_w]
                          rfl
                        refine pure_ (i := 8) (N := some 33) (v := ?_) (a' := ?_) #[true, true, true, true, false, true, true, true, true, false, false, false] rfl rfl (any_of HT_.out (by kernel_rfl)) (fun _ _ _ h => h) (Or.inl ⟨by rfl, ?_⟩) ?_ ?_
                        rotate_left
                        · intro w'
                          go_simp
                          with_reducible rfl
                        rotate_left
                        · simp only [Act.put, List.setIfInBounds_toArray, List.set_cons_zero, List.set_cons_succ, i64_w, i32_w]
                          rfl
                        refine take_ (i := 4) (N := some 29) (v := ?_) (a' := ?_) #[true, true, true, true, true, true, true, true, true, false, false, false] rfl rfl (take_ofW HT_.out HW_.out (by kernel_rfl)) (fun _ _ _ h => h) (Or.inl ⟨by rfl, ?_⟩) hHeld ?_ ?_
                        rotate_left
                        · rintro w' ⟨s0, s1, s2, s3, s4, s5⟩
                          go_simp
                          with_reducible rfl
                        rotate_left
                        · simp only [Act.put, List.setIfInBounds_toArray, List.set_cons_zero, List.set_cons_succ, i64_w, i32_w]
                          rfl
                        refine take_ (i := 9) (N := some 34) (v := ?_) (a' := ?_) #[true, true, true, true, true, true, true, true, true, true, false, false] rfl rfl (take_ofW HT_.out HW_.out (by kernel_rfl)) (fun _ _ _ h => h) (Or.inl ⟨by rfl, ?_⟩) hHeld ?_ ?_
                        rotate_left
                        · rintro w' ⟨s0, s1, s2, s3, s4, s5⟩
                          go_simp
                          with_reducible rfl
                        rotate_left
                        · simp only [Act.put, List.setIfInBounds_toArray, List.set_cons_zero, List.set_cons_succ, i64_w, i32_w]
                          rfl
                        refine one_ (i := 10) (N := some 35) #[true, true, true, true, true, true, true, true, true, true, true, false] rfl rfl (one_of HT_.out (by kernel_rfl)) (by decide) (fun K hK => ?_)
                        refine goes_ Try.func30 (by kernel_rfl) rfl #[.slice A182_0 ((rd_T82 x3_1 (ji5)).f0).length c182_0, .slice A183_0 ((rd_T36 l0 x4_1).f0).length c183_0] (by rfl) rfl rfl (by (try simp only [List.map_toArray, List.map_cons, List.map_nil]); first | done | (simp only [hji5]; rfl) | rfl | (simp only [List.length_drop, List.length_take]; rfl)) ?_
                        with_reducible refine (belvedereref1_CompareRows.calls k2 _ _ ((rd_T82 x3_1 (ji5)).f0) _ _ ((rd_T36 l0 x4_1).f0) t184 _ ?side1 ?side2 ?side3 ?side4 A10.out).mono ?_
                        (case side1 => repeat (first | exact (by repeat (first | (with_reducible exact HR182_0.out) | (with_reducible refine Kd.C_alloc ?_ _) | (with_reducible refine Kd.C_drewN ?_ _) | (with_reducible refine Kd.C_drew ?_) | exact HR182_0.out)) | (with_reducible refine Kd.C_alloc ?_ _) | (with_reducible refine Kd.C_drewN ?_ _) | (with_reducible refine Kd.C_drew ?_)))
                        (case side2 => exact HC182_0.out)
                        (case side3 => repeat (first | exact (by repeat (first | (with_reducible exact HR183_0.out) | (with_reducible refine Kd.C_alloc ?_ _) | (with_reducible refine Kd.C_drewN ?_ _) | (with_reducible refine Kd.C_drew ?_) | exact HR183_0.out)) | (with_reducible refine Kd.C_alloc ?_ _) | (with_reducible refine Kd.C_drewN ?_ _) | (with_reducible refine Kd.C_drew ?_)))
                        (case side4 => exact HC183_0.out)
                        rintro e w13 ⟨rfl, hb⟩
                        have HS0_ := (hb.cell (World.block_lt_of_cell? _ _ (hHeld.1))).trans (hHeld.1)
                        have HS1_ := (hb.cell (World.block_lt_of_cell? _ _ (hHeld.2.1))).trans (hHeld.2.1)
                        have HS2_ := (hb.cell (World.block_lt_of_cell? _ _ (hHeld.2.2.1))).trans (hHeld.2.2.1)
                        have HS3_ := (hb.cell (World.block_lt_of_cell? _ _ (hHeld.2.2.2.1))).trans (hHeld.2.2.2.1)
                        have HS4_ := (hb.cell (World.block_lt_of_cell? _ _ (hHeld.2.2.2.2.1))).trans (hHeld.2.2.2.2.1)
                        have HS5_ := (hb.cell (World.block_lt_of_cell? _ _ (hHeld.2.2.2.2.2))).trans (hHeld.2.2.2.2.2)
                        refine ⟨_, rfl, ?_⟩
                        have n0_ := Aside0.mk (Kd.V_below (by (with_reducible repeat (first | apply Kd.V_alloc | apply Kd.V_drewN | apply Kd.V_drew)); exact HO_0.out) hb)
                        have n1_ := Aside0.mk (Kd.N_below (by (with_reducible repeat (first | apply Kd.N_alloc | apply Kd.N_drewN | apply Kd.N_drew)); exact HO_3.out) hb)
                        have n2_ := Aside0.mk (Kd.V_below (by (with_reducible repeat (first | apply Kd.V_alloc | apply Kd.V_drewN | apply Kd.V_drew)); exact HL182_0.out) hb)
                        have n3_ := Aside0.mk (Kd.V_below (by (with_reducible repeat (first | apply Kd.V_alloc | apply Kd.V_drewN | apply Kd.V_drew)); exact HL183_0.out) hb)
                        have n4_ := Aside0.mk (Kd.C_below (by repeat (first | (with_reducible exact HR182_0.out) | (with_reducible refine Kd.C_alloc ?_ _) | (with_reducible refine Kd.C_drewN ?_ _) | (with_reducible refine Kd.C_drew ?_) | exact HR182_0.out)) hb)
                        have n5_ := Aside0.mk (Kd.C_below (by repeat (first | (with_reducible exact HR183_0.out) | (with_reducible refine Kd.C_alloc ?_ _) | (with_reducible refine Kd.C_drewN ?_ _) | (with_reducible refine Kd.C_drew ?_) | exact HR183_0.out)) hb)
                        have n6_ := Aside0.mk (below_step (by repeat (first | (with_reducible first | exact HB.out | apply below_alloc | apply pw_below_drewN | apply below_drew1) | exact HB.out)) hb)
                        clear HO_0
                        clear HO_3
                        clear HL182_0
                        clear HL183_0
                        clear HR182_0
                        clear HR183_0
                        clear HB
                        have HO_0 := n0_
                        have HO_3 := n1_
                        have HL182_0 := n2_
                        have HL183_0 := n3_
                        have HR182_0 := n4_
                        have HR183_0 := n5_
                        have HB := n6_
                        clear n0_ n1_ n2_ n3_ n4_ n5_ n6_
                        (try clear hb)
                        (try clear hb2)
                        (try clear hk)
                        (try clear hi)
                        refine hK.out _ _ ⟨HS0_, HS1_, HS2_, HS3_, HS4_, HS5_⟩ (fun hHeld => ?_)
                        clear hK K
                        refine norm_ (a' := ?_) ?_ ?_
                        rotate_left
                        · show Act.put _ (some 35) _ = _
                          simp only [Act.put, List.setIfInBounds_toArray, List.set_cons_zero, List.set_cons_succ, i64_w, i32_w]
                          rfl
                        refine pure_ (i := 11) (N := some 36) (v := ?_) (a' := ?_) #[true, true, true, true, true, true, true, true, true, true, true, true] rfl rfl (any_of HT_.out (by kernel_rfl)) (fun _ _ _ h => h) (Or.inl ⟨by rfl, ?_⟩) ?_ ?_
                        rotate_left
                        · intro w'
                          go_simp
                          with_reducible rfl
                        rotate_left
                        · simp only [Act.put, List.setIfInBounds_toArray, List.set_cons_zero, List.set_cons_succ, i64_w, i32_w]
                          rfl
                        refine done_ (done_of HT_.out (by kernel_rfl)) ?_
                        try go_wp2
                        go_roundg k2
                        case measure => have := HK1.out; have := HK2.out; omega
                        case rel => exact ⟨(wrap64 ((ji5) + 1)), (x6_2), (by first | rfl | (simp; done) | (simp only [← hji5] <;> (first | rfl | simp)) | (simp [*]; done)), (by first | rfl | (simp; done) | (simp [*]; done)), H', ⟨by have := HK1.out; have := HK2.out; omega⟩, ⟨by (with_reducible repeat (first | apply Kd.V_alloc | apply Kd.V_drewN | apply Kd.V_drew)); exact HO_0.out⟩, ⟨by (with_reducible repeat (first | apply Kd.N_alloc | apply Kd.N_drewN | apply Kd.N_drew)); exact HO_3.out⟩, ⟨by repeat (first | (with_reducible first | exact HB.out | apply below_alloc | apply pw_below_drewN | apply below_drew1) | exact HB.out)⟩⟩
                      · rw [if_neg c11] at H
                        have c11b0 : decide (t184 < 0) = false := decide_eq_false c11
                        clear c11
                        have H' := Aside0.mk H
                        clear H
                        try go_wp2
                        have n0_ := Aside0.mk (Kd.V_drew HO_0.out)
                        have n1_ := Aside0.mk (Kd.N_drew HO_3.out)
                        have n2_ := Aside0.mk (below_drew1 HB.out)
                        clear HO_0
                        clear HO_3
                        clear HB
                        have HO_0 := n0_
                        have HO_3 := n1_
                        have HB := n2_
                        clear n0_ n1_ n2_
                        have p182 : 0 ≤ ((ji5) : Int) := of_decide_eq_true (by first | (with_reducible assumption) | assumption)
                        have q182 : (ji5) < (x3_1.length : Int) := of_decide_eq_true (by first | (with_reducible assumption) | assumption)
                        obtain ⟨ad182, A182_0, c182_0, e182, hx182_0, hx182_1, hx182_2, hx182_3, hl182_0, hi182_0⟩ := at_T82 (Kd.N_reads' HO_3.out).2.2 (ji5) p182 q182
                        cases e182
                        obtain ⟨ce182, hce182, hMe182, hcc182⟩ := Kd.N_get HO_3.out z82 (ji5) p182 (by first | exact q182 | exact of_decide_eq_true (by first | (with_reducible assumption) | assumption) | (have e_ := (Kd.N_reads' HO_3.out).1; omega))
                        obtain ⟨ua182_0, uc182_0, rfl, ul182_0, ge182_0⟩ := k82_openF hMe182
                        have hv182_0 := hcc182 0 _ rfl
                        rw [Nat.add_zero] at hv182_0
                        replace hv182_0 := Option.some.inj (hv182_0.symm.trans hx182_0)
                        injection hv182_0 with hva_ hvn_ hvc_
                        rw [hva_] at ge182_0
                        rw [hvc_] at ul182_0
                        have HL182_0 := Aside0.mk (show Kd.V k41 41 _ w.heap.size _ _ ((rd_T82 x3_1 (ji5)).f0) from Kd.V_mk ul182_0 ge182_0)
                        clear hva_ hvn_ hvc_ ge182_0 ul182_0
                        clear hcc182 hce182
                        have HR182_0 := Aside0.mk hi182_0
                        have HC182_0 := Aside0.mk hl182_0
                        clear hi182_0 hl182_0
                        replace p182 := eq_true p182
                        replace q182 := eq_true q182
                        have p183 : 0 ≤ (x4_1 : Int) := of_decide_eq_true (by first | (with_reducible assumption) | assumption)
                        have q183 : x4_1 < (l0.length : Int) := of_decide_eq_true (by first | (with_reducible assumption) | assumption)
                        obtain ⟨ad183, A183_0, c183_0, e183, hx183_0, hx183_1, hl183_0, hi183_0⟩ := at_T36 (Kd.V_reads' HO_0.out).2.2 x4_1 p183 q183
                        cases e183
                        obtain ⟨ce183, hce183, hMe183, hcc183⟩ := Kd.V_get HO_0.out z36 x4_1 p183 (by first | exact q183 | exact of_decide_eq_true (by first | (with_reducible assumption) | assumption) | (have e_ := (Kd.V_reads' HO_0.out).1; omega))
                        obtain ⟨ua183_0, uc183_0, rfl, ul183_0, ge183_0⟩ := k36_openF hMe183
                        have hv183_0 := hcc183 0 _ rfl
                        rw [Nat.add_zero] at hv183_0
                        replace hv183_0 := Option.some.inj (hv183_0.symm.trans hx183_0)
                        injection hv183_0 with hva_ hvn_ hvc_
                        rw [hva_] at ge183_0
                        rw [hvc_] at ul183_0
                        have HL183_0 := Aside0.mk (show Kd.V k41 41 _ w.heap.size _ _ ((rd_T36 l0 x4_1).f0) from Kd.V_mk ul183_0 ge183_0)
                        clear hva_ hvn_ hvc_ ge183_0 ul183_0
                        clear hcc183 hce183
                        have HR183_0 := Aside0.mk hi183_0
                        have HC183_0 := Aside0.mk hl183_0
                        clear hi183_0 hl183_0
                        replace p183 := eq_true p183
                        replace q183 := eq_true q183
                        refine start_ (n := 12) (S := fun w' => w'.cell? (ad182.add (((ji5)).toNat * 4)) = some (.slice A182_0 ((rd_T82 x3_1 (ji5)).f0).length c182_0) ∧ w'.cell? ⟨(ad182.add (((ji5)).toNat * 4)).block, (ad182.add (((ji5)).toNat * 4)).off + 1, none⟩ = some (.int .u64 ((rd_T82 x3_1 (ji5)).f1.f0)) ∧ w'.cell? ⟨(ad182.add (((ji5)).toNat * 4)).block, (ad182.add (((ji5)).toNat * 4)).off + 2, none⟩ = some (.int .u64 ((rd_T82 x3_1 (ji5)).f1.f1)) ∧ w'.cell? ⟨(ad182.add (((ji5)).toNat * 4)).block, (ad182.add (((ji5)).toNat * 4)).off + 3, none⟩ = some (.int .u64 ((rd_T82 x3_1 (ji5)).f1.f2)) ∧ w'.cell? (ad183.add ((x4_1).toNat * 2)) = some (.slice A183_0 ((rd_T36 l0 x4_1).f0).length c183_0) ∧ w'.cell? ⟨(ad183.add ((x4_1).toNat * 2)).block, (ad183.add ((x4_1).toNat * 2)).off + 1, none⟩ = some (.int .i64 ((rd_T36 l0 x4_1).f1))) (ds := []) #[false, false, false, false, false, false, false, false, false, false, false, false] (by kernel_rfl) rfl rfl ⟨hx182_0, hx182_1, hx182_2, hx182_3, hx183_0, hx183_1⟩ (fun hHeld => ?_); refine with_tabW belvedereref1_gather.tab9 belvedereref1_gather.bits9 (fun HT_ HW_ => ?_)
                        generalize wr.drew = w14 at HO_0 HO_3 HB HL182_0 HL183_0 HR182_0 HR183_0 hx182_0 hx182_1 hx182_2 hx182_3 hx183_0 hx183_1 hHeld ⊢
                        refine pure_ (i := 0) (N := some 25) (v := ?_) (a' := ?_) #[true, false, false, false, false, false, false, false, false, false, false, false] rfl rfl (any_of HT_.out (by kernel_rfl)) (fun _ _ _ h => h) (Or.inl ⟨by rfl, ?_⟩) ?_ ?_
                        rotate_left
                        · intro w'
                          go_simp
                          with_reducible rfl
                        rotate_left
                        · simp only [Act.put, List.setIfInBounds_toArray, List.set_cons_zero, List.set_cons_succ, i64_w, i32_w]
                          rfl
                        refine pure_ (i := 1) (N := some 26) (v := ?_) (a' := ?_) #[true, true, false, false, false, false, false, false, false, false, false, false] rfl rfl (any_of HT_.out (by kernel_rfl)) (fun _ _ _ h => h) (Or.inl ⟨by rfl, ?_⟩) ?_ ?_
                        rotate_left
                        · intro w'
                          go_simp
                          with_reducible rfl
                        rotate_left
                        · simp only [Act.put, List.setIfInBounds_toArray, List.set_cons_zero, List.set_cons_succ, i64_w, i32_w]
                          rfl
                        refine pure_ (i := 2) (N := some 27) (v := ?_) (a' := ?_) #[true, true, true, false, false, false, false, false, false, false, false, false] rfl rfl (any_of HT_.out (by kernel_rfl)) (fun _ _ _ h => h) (Or.inl ⟨by rfl, ?_⟩) ?_ ?_
                        rotate_left
                        · intro w'
                          go_simp
                          with_reducible rfl
                        rotate_left
                        · simp only [Act.put, List.setIfInBounds_toArray, List.set_cons_zero, List.set_cons_succ, i64_w, i32_w]
                          rfl
                        refine pure_ (i := 3) (N := some 28) (v := ?_) (a' := ?_) #[true, true, true, true, false, false, false, false, false, false, false, false] rfl rfl (any_of HT_.out (by kernel_rfl)) (fun _ _ _ h => h) (Or.inl ⟨by rfl, ?_⟩) ?_ ?_
                        rotate_left
                        · intro w'
                          go_simp
                          with_reducible rfl
                        rotate_left
                        · simp only [Act.put, List.setIfInBounds_toArray, List.set_cons_zero, List.set_cons_succ, i64_w, i32_w]
                          rfl
                        refine pure_ (i := 5) (N := some 30) (v := ?_) (a' := ?_) #[true, true, true, true, false, true, false, false, false, false, false, false] rfl rfl (any_of HT_.out (by kernel_rfl)) (fun _ _ _ h => h) (Or.inl ⟨by rfl, ?_⟩) ?_ ?_
                        rotate_left
                        · intro w'
                          go_simp
                          with_reducible rfl
                        rotate_left
                        · simp only [Act.put, List.setIfInBounds_toArray, List.set_cons_zero, List.set_cons_succ, i64_w, i32_w]
                          rfl
                        refine pure_ (i := 6) (N := some 31) (v := ?_) (a' := ?_) #[true, true, true, true, false, true, true, false, false, false, false, false] rfl rfl (any_of HT_.out (by kernel_rfl)) (fun _ _ _ h => h) (Or.inl ⟨by rfl, ?_⟩) ?_ ?_
                        rotate_left
                        · intro w'
                          go_simp
                          with_reducible rfl
                        rotate_left
                        · simp only [Act.put, List.setIfInBounds_toArray, List.set_cons_zero, List.set_cons_succ, i64_w, i32_w]
                          rfl
                        refine pure_ (i := 7) (N := some 32) (v := ?_) (a' := ?_) #[true, true, true, true, false, true, true, true, false, false, false, false] rfl rfl (any_of HT_.out (by kernel_rfl)) (fun _ _ _ h => h) (Or.inl ⟨by rfl, ?_⟩) ?_ ?_
                        rotate_left
                        · intro w'
                          go_simp
                          with_reducible rfl
                        rotate_left
                        · simp only [Act.put, List.setIfInBounds_toArray, List.set_cons_zero, List.set_cons_succ, i64_w, i32_w]
                          rfl
                        refine pure_ (i := 8) (N := some 33) (v := ?_) (a' := ?_) #[true, true, true, true, false, true, true, true, true, false, false, false] rfl rfl (any_of HT_.out (by kernel_rfl)) (fun _ _ _ h => h) (Or.inl ⟨by rfl, ?_⟩) ?_ ?_
                        rotate_left
                        · intro w'
                          go_simp
                          with_reducible rfl
                        rotate_left
                        · simp only [Act.put, List.setIfInBounds_toArray, List.set_cons_zero, List.set_cons_succ, i64_w, i32_w]
                          rfl
                        refine take_ (i := 4) (N := some 29) (v := ?_) (a' := ?_) #[true, true, true, true, true, true, true, true, true, false, false, false] rfl rfl (take_ofW HT_.out HW_.out (by kernel_rfl)) (fun _ _ _ h => h) (Or.inl ⟨by rfl, ?_⟩) hHeld ?_ ?_
                        rotate_left
                        · rintro w' ⟨s0, s1, s2, s3, s4, s5⟩
                          go_simp
                          with_reducible rfl
                        rotate_left
                        · simp only [Act.put, List.setIfInBounds_toArray, List.set_cons_zero, List.set_cons_succ, i64_w, i32_w]
                          rfl
                        refine take_ (i := 9) (N := some 34) (v := ?_) (a' := ?_) #[true, true, true, true, true, true, true, true, true, true, false, false] rfl rfl (take_ofW HT_.out HW_.out (by kernel_rfl)) (fun _ _ _ h => h) (Or.inl ⟨by rfl, ?_⟩) hHeld ?_ ?_
                        rotate_left
                        · rintro w' ⟨s0, s1, s2, s3, s4, s5⟩
                          go_simp
                          with_reducible rfl
                        rotate_left
                        · simp only [Act.put, List.setIfInBounds_toArray, List.set_cons_zero, List.set_cons_succ, i64_w, i32_w]
                          rfl
                        refine one_ (i := 10) (N := some 35) #[true, true, true, true, true, true, true, true, true, true, true, false] rfl rfl (one_of HT_.out (by kernel_rfl)) (by decide) (fun K hK => ?_)
                        refine goes_ Try.func30 (by kernel_rfl) rfl #[.slice A182_0 ((rd_T82 x3_1 (ji5)).f0).length c182_0, .slice A183_0 ((rd_T36 l0 x4_1).f0).length c183_0] (by rfl) rfl rfl (by (try simp only [List.map_toArray, List.map_cons, List.map_nil]); first | done | (simp only [hji5]; rfl) | rfl | (simp only [List.length_drop, List.length_take]; rfl)) ?_
                        with_reducible refine (belvedereref1_CompareRows.calls k2 _ _ ((rd_T82 x3_1 (ji5)).f0) _ _ ((rd_T36 l0 x4_1).f0) t184 _ ?side1 ?side2 ?side3 ?side4 A10.out).mono ?_
                        (case side1 => repeat (first | exact (by repeat (first | (with_reducible exact HR182_0.out) | (with_reducible refine Kd.C_alloc ?_ _) | (with_reducible refine Kd.C_drewN ?_ _) | (with_reducible refine Kd.C_drew ?_) | exact HR182_0.out)) | (with_reducible refine Kd.C_alloc ?_ _) | (with_reducible refine Kd.C_drewN ?_ _) | (with_reducible refine Kd.C_drew ?_)))
                        (case side2 => exact HC182_0.out)
                        (case side3 => repeat (first | exact (by repeat (first | (with_reducible exact HR183_0.out) | (with_reducible refine Kd.C_alloc ?_ _) | (with_reducible refine Kd.C_drewN ?_ _) | (with_reducible refine Kd.C_drew ?_) | exact HR183_0.out)) | (with_reducible refine Kd.C_alloc ?_ _) | (with_reducible refine Kd.C_drewN ?_ _) | (with_reducible refine Kd.C_drew ?_)))
                        (case side4 => exact HC183_0.out)
                        rintro e w15 ⟨rfl, hb⟩
                        have HS0_ := (hb.cell (World.block_lt_of_cell? _ _ (hHeld.1))).trans (hHeld.1)
                        have HS1_ := (hb.cell (World.block_lt_of_cell? _ _ (hHeld.2.1))).trans (hHeld.2.1)
                        have HS2_ := (hb.cell (World.block_lt_of_cell? _ _ (hHeld.2.2.1))).trans (hHeld.2.2.1)
                        have HS3_ := (hb.cell (World.block_lt_of_cell? _ _ (hHeld.2.2.2.1))).trans (hHeld.2.2.2.1)
                        have HS4_ := (hb.cell (World.block_lt_of_cell? _ _ (hHeld.2.2.2.2.1))).trans (hHeld.2.2.2.2.1)
                        have HS5_ := (hb.cell (World.block_lt_of_cell? _ _ (hHeld.2.2.2.2.2))).trans (hHeld.2.2.2.2.2)
                        refine ⟨_, rfl, ?_⟩
                        have n0_ := Aside0.mk (Kd.V_below (by (with_reducible repeat (first | apply Kd.V_alloc | apply Kd.V_drewN | apply Kd.V_drew)); exact HO_0.out) hb)
                        have n1_ := Aside0.mk (Kd.N_below (by (with_reducible repeat (first | apply Kd.N_alloc | apply Kd.N_drewN | apply Kd.N_drew)); exact HO_3.out) hb)
                        have n2_ := Aside0.mk (Kd.V_below (by (with_reducible repeat (first | apply Kd.V_alloc | apply Kd.V_drewN | apply Kd.V_drew)); exact HL182_0.out) hb)
                        have n3_ := Aside0.mk (Kd.V_below (by (with_reducible repeat (first | apply Kd.V_alloc | apply Kd.V_drewN | apply Kd.V_drew)); exact HL183_0.out) hb)
                        have n4_ := Aside0.mk (Kd.C_below (by repeat (first | (with_reducible exact HR182_0.out) | (with_reducible refine Kd.C_alloc ?_ _) | (with_reducible refine Kd.C_drewN ?_ _) | (with_reducible refine Kd.C_drew ?_) | exact HR182_0.out)) hb)
                        have n5_ := Aside0.mk (Kd.C_below (by repeat (first | (with_reducible exact HR183_0.out) | (with_reducible refine Kd.C_alloc ?_ _) | (with_reducible refine Kd.C_drewN ?_ _) | (with_reducible refine Kd.C_drew ?_) | exact HR183_0.out)) hb)
                        have n6_ := Aside0.mk (below_step (by repeat (first | (with_reducible first | exact HB.out | apply below_alloc | apply pw_below_drewN | apply below_drew1) | exact HB.out)) hb)
                        clear HO_0
                        clear HO_3
                        clear HL182_0
                        clear HL183_0
                        clear HR182_0
                        clear HR183_0
                        clear HB
                        have HO_0 := n0_
                        have HO_3 := n1_
                        have HL182_0 := n2_
                        have HL183_0 := n3_
                        have HR182_0 := n4_
                        have HR183_0 := n5_
                        have HB := n6_
                        clear n0_ n1_ n2_ n3_ n4_ n5_ n6_
                        (try clear hb)
                        (try clear hb2)
                        (try clear hk)
                        (try clear hi)
                        refine hK.out _ _ ⟨HS0_, HS1_, HS2_, HS3_, HS4_, HS5_⟩ (fun hHeld => ?_)
                        clear hK K
                        refine norm_ (a' := ?_) ?_ ?_
                        rotate_left
                        · show Act.put _ (some 35) _ = _
                          simp only [Act.put, List.setIfInBounds_toArray, List.set_cons_zero, List.set_cons_succ, i64_w, i32_w]
                          rfl
                        refine pure_ (i := 11) (N := some 36) (v := ?_) (a' := ?_) #[true, true, true, true, true, true, true, true, true, true, true, true] rfl rfl (any_of HT_.out (by kernel_rfl)) (fun _ _ _ h => h) (Or.inl ⟨by rfl, ?_⟩) ?_ ?_
                        rotate_left
                        · intro w'
                          go_simp
                          with_reducible rfl
                        rotate_left
                        · simp only [Act.put, List.setIfInBounds_toArray, List.set_cons_zero, List.set_cons_succ, i64_w, i32_w]
                          rfl
                        refine done_ (done_of HT_.out (by kernel_rfl)) ?_
                        try go_wp2
                        go_roundg k2
                        case measure => have := HK1.out; have := HK2.out; omega
                        case rel => exact ⟨(x5_2), (ji5), (by first | rfl | (simp; done) | (simp [*]; done)), (by first | rfl | (simp; done) | (simp only [← hji5] <;> (first | rfl | simp)) | (simp [*]; done)), H', ⟨by have := HK1.out; have := HK2.out; omega⟩, ⟨by (with_reducible repeat (first | apply Kd.V_alloc | apply Kd.V_drewN | apply Kd.V_drew)); exact HO_0.out⟩, ⟨by (with_reducible repeat (first | apply Kd.N_alloc | apply Kd.N_drewN | apply Kd.N_drew)); exact HO_3.out⟩, ⟨by repeat (first | (with_reducible first | exact HB.out | apply below_alloc | apply pw_below_drewN | apply below_drew1) | exact HB.out)⟩⟩
                    · rw [if_neg c9] at H
                      exact absurd H (by simp)
                  · rw [if_neg c8] at H
                    exact absurd H (by simp)
                · rw [if_neg c7] at H
                  exact absurd H (by simp)
              · rw [if_neg c6] at H
                exact absurd H (by simp)
            · rw [if_neg c4] at H
              have c4b0 : decide (x5_2 < x6_2) = false := decide_eq_false c4
              clear c4
              by_cases c16 : 0 ≤ x4_1
              · rw [if_pos c16] at H
                have c16b0 : decide (0 ≤ x4_1) = true := decide_eq_true c16
                clear c16
                by_cases c17 : x4_1 < (l0.length : Int)
                · rw [if_pos c17] at H
                  have c17b0 : decide (x4_1 < (l0.length : Int)) = true := decide_eq_true c17
                  clear c17
                  replace H := Option.bind_eq_some_iff.mp H
                  obtain ⟨⟨t186, t187, t188⟩, A180, H⟩ := H
                  replace H : (if x5_2 < (x3_1.length : Int) then (if 0 ≤ x5_2 then ((belvedereref1_CompareRows.f k2 ((rd_T82 x3_1 x5_2).f0) ((rd_T36 l0 x4_1).f0)).bind fun t192 => (belvedereref1_gather.j2 k2 l0 x3_1 x4_1 x5_2 (t192 == 0) t186 t187 t188)) else (none)) else (belvedereref1_gather.j2 k2 l0 x3_1 x4_1 x5_2 false t186 t187 t188)) = some r := H
                  have A18 := Aside0.mk A180
                  clear A180
                  have HC19 := Aside0.mk H
                  clear H
                  have p185 : 0 ≤ (x4_1 : Int) := of_decide_eq_true (by first | (with_reducible assumption) | assumption)
                  have q185 : x4_1 < (l0.length : Int) := of_decide_eq_true (by first | (with_reducible assumption) | assumption)
                  obtain ⟨ad185, A185_0, c185_0, e185, hx185_0, hx185_1, hl185_0, hi185_0⟩ := at_T36 (Kd.V_reads' HO_0.out).2.2 x4_1 p185 q185
                  cases e185
                  obtain ⟨ce185, hce185, hMe185, hcc185⟩ := Kd.V_get HO_0.out z36 x4_1 p185 (by first | exact q185 | exact of_decide_eq_true (by first | (with_reducible assumption) | assumption) | (have e_ := (Kd.V_reads' HO_0.out).1; omega))
                  obtain ⟨ua185_0, uc185_0, rfl, ul185_0, ge185_0⟩ := k36_openF hMe185
                  have hv185_0 := hcc185 0 _ rfl
                  rw [Nat.add_zero] at hv185_0
                  replace hv185_0 := Option.some.inj (hv185_0.symm.trans hx185_0)
                  injection hv185_0 with hva_ hvn_ hvc_
                  rw [hva_] at ge185_0
                  rw [hvc_] at ul185_0
                  have HL185_0 := Aside0.mk (show Kd.V k41 41 _ w.heap.size _ _ ((rd_T36 l0 x4_1).f0) from Kd.V_mk ul185_0 ge185_0)
                  clear hva_ hvn_ hvc_ ge185_0 ul185_0
                  clear hcc185 hce185
                  have HR185_0 := Aside0.mk hi185_0
                  have HC185_0 := Aside0.mk hl185_0
                  clear hi185_0 hl185_0
                  replace p185 := eq_true p185
                  replace q185 := eq_true q185
                  go_upto_region 13 with (first | ((with_reducible refine gate_callee (f := 59) rfl ?_); refine goesL_ (some 45) rfl rfl Try.func59 (by kernel_rfl) rfl #[.int .i64 ((rd_T36 l0 x4_1).f1), .int .i64 1] rfl (by (try simp only [List.map_toArray, List.map_cons, List.map_nil]); first | done | rfl | (simp only [List.length_drop, List.length_take]; rfl)) ?_; (with_reducible refine (belvedereref1_times.calls ((rd_T36 l0 x4_1).f1) 1 t186 t187 t188 _ A18.out).mono ?_); rintro e w20 ⟨rfl, hb⟩; refine ⟨_, rfl, ?_⟩; have n0_ := Aside0.mk (Kd.V_below (by (with_reducible repeat (first | apply Kd.V_alloc | apply Kd.V_drewN | apply Kd.V_drew)); exact HO_0.out) hb); have n1_ := Aside0.mk (Kd.N_below (by (with_reducible repeat (first | apply Kd.N_alloc | apply Kd.N_drewN | apply Kd.N_drew)); exact HO_3.out) hb); have n2_ := Aside0.mk (Kd.V_below (by (with_reducible repeat (first | apply Kd.V_alloc | apply Kd.V_drewN | apply Kd.V_drew)); exact HL185_0.out) hb); have n3_ := Aside0.mk (Kd.C_below (by repeat (first | (with_reducible exact HR185_0.out) | (with_reducible refine Kd.C_alloc ?_ _) | (with_reducible refine Kd.C_drewN ?_ _) | (with_reducible refine Kd.C_drew ?_) | exact HR185_0.out)) hb); have n4_ := Aside0.mk (below_step (by repeat (first | (with_reducible first | exact HB.out | apply below_alloc | apply pw_below_drewN | apply below_drew1) | exact HB.out)) hb); clear HO_0; clear HO_3; clear HL185_0; clear HR185_0; clear HB; have HO_0 := n0_; have HO_3 := n1_; have HL185_0 := n2_; have HR185_0 := n3_; have HB := n4_; clear n0_ n1_ n2_ n3_ n4_; (try clear hb); (try clear hb2); (try clear hk); (try clear hi)) | ((with_reducible refine gate_dst (N := 8) rfl ?_); refine box_event ?hg (N := 8) ?hd (cs := #[.int .u64 0, .int .u64 0, .int .u64 0]) (t := 80) ?hr ?_; (case hd => rfl); (case hg => rfl); (case hr => first | (go_simp; done) | (go_simp; rfl)); intro gb189 hg w21 hbox hb; have n0_ := Aside0.mk (Kd.V_below (Kd.V_elderB (by (with_reducible repeat (first | apply Kd.V_alloc | apply Kd.V_drewN | apply Kd.V_drew)); exact HO_0.out) gb189 (Nat.le_of_eq hg.symm)) hb); have n1_ := Aside0.mk (Kd.N_below (Kd.N_elderB (by (with_reducible repeat (first | apply Kd.N_alloc | apply Kd.N_drewN | apply Kd.N_drew)); exact HO_3.out) gb189 (Nat.le_of_eq hg.symm)) hb); have n2_ := Aside0.mk (Kd.V_below (Kd.V_elderB (by (with_reducible repeat (first | apply Kd.V_alloc | apply Kd.V_drewN | apply Kd.V_drew)); exact HL185_0.out) gb189 (Nat.le_of_eq hg.symm)) hb); have n3_ := Aside0.mk (Kd.C_below (by repeat (first | (with_reducible exact HR185_0.out) | (with_reducible refine Kd.C_alloc ?_ _) | (with_reducible refine Kd.C_drewN ?_ _) | (with_reducible refine Kd.C_drew ?_) | exact HR185_0.out)) hb); have n4_ := Aside0.mk (below_step (by repeat (first | (with_reducible first | exact HB.out | apply below_alloc | apply pw_below_drewN | apply below_drew1) | exact HB.out)) hb); have n5_ := Aside0.mk (hbox); have n6_ := Aside0.mk ((by rw [hg]; exact (below_size (by repeat (first | (with_reducible first | exact HB.out | apply below_alloc | apply pw_below_drewN | apply below_drew1) | exact HB.out))) : w.heap.size ≤ gb189)); have n7_ := Aside0.mk ((by rw [hg]; exact (below_size (by repeat (first | (with_reducible first | exact HB.out | apply below_alloc | apply pw_below_drewN | apply below_drew1) | exact HB.out))) : w.heap.size ≤ gb189)); clear HO_0; clear HO_3; clear HL185_0; clear HR185_0; clear HB; have HO_0 := n0_; have HO_3 := n1_; have HL185_0 := n2_; have HR185_0 := n3_; have HB := n4_; have BK189 := n5_; have GW189 := n6_; have GE189 := n7_; clear n0_ n1_ n2_ n3_ n4_ n5_ n6_ n7_; clear hb hbox hg; have hcz22_0 : w21.cell? ⟨gb189, 0, none⟩ = some (.int .u64 0) := (blk_cell BK189.out 0).trans rfl; have hcz22_1 : w21.cell? ⟨gb189, 1, none⟩ = some (.int .u64 0) := (blk_cell BK189.out 1).trans rfl; have hcz22_2 : w21.cell? ⟨gb189, 2, none⟩ = some (.int .u64 0) := (blk_cell BK189.out 2).trans rfl; have hfz22_0 := blk_frozen BK189.out 0; have hfz22_1 := blk_frozen BK189.out 1; have hfz22_2 := blk_frozen BK189.out 2))
                  (try simp only [Act.put, List.setIfInBounds_toArray, List.set_cons_zero, List.set_cons_succ])
                  go_cut [63] (fun v63 wc => ∃ (kq : Nat) (x63_18 : Bool), v63 = .bool x63_18 ∧ Aside0 (belvedereref1_gather.j2 kq l0 x3_1 x4_1 x5_2 x63_18 t186 t187 t188 = some r) ∧ Aside0 (kq ≤ k2) ∧ Aside0 (Kd.V k36 36 wc w.heap.size (fun k_ => (P0_ k_ ∨ w.heap.size ≤ k_) ∧ some k_ ≠ ((.slice Ao3 x3_1.length co3) : Value).ownBlock ∧ k_ ≠ gb189) (.slice (some ad185) l0.length c0) l0) ∧ Aside0 (Kd.N k82 82 wc w.heap.size (fun k_ => (P0_ k_ ∨ w.heap.size ≤ k_) ∧ k_ ≠ gb189) (.slice Ao3 x3_1.length co3) x3_1) ∧ Aside0 (wc.heap[gb189]? = some (.cells #[.int .u64 t186, .int .u64 t187, .int .u64 t188] 80 (0, 0))) ∧ Aside0 (Below w.heap.size w wc))
                  case first =>
                    have H := HC19.out
                    clear HC19
                    by_cases c23 : x5_2 < (x3_1.length : Int)
                    · rw [if_pos c23] at H
                      have c23b0 : decide (x5_2 < (x3_1.length : Int)) = true := decide_eq_true c23
                      clear c23
                      (first | rw [c23b0] | (simp only [i64_w, i32_w]; rw [c23b0]) | skip)
                      by_cases c24 : 0 ≤ x5_2
                      · rw [if_pos c24] at H
                        have c24b0 : decide (0 ≤ x5_2) = true := decide_eq_true c24
                        clear c24
                        replace H := Option.bind_eq_some_iff.mp H
                        obtain ⟨t192, A250, H⟩ := H
                        replace H : (belvedereref1_gather.j2 k2 l0 x3_1 x4_1 x5_2 (t192 == 0) t186 t187 t188) = some r := H
                        have A25 := Aside0.mk A250
                        clear A250
                        have H' := Aside0.mk H
                        clear H
                        try go_wp2
                        have n0_ : Aside0 (Kd.V k36 36 (((w21.setCell ⟨gb189, 0, none⟩ (.int .u64 t186)).setCell ⟨gb189, 1, none⟩ (.int .u64 t187)).setCell ⟨gb189, 2, none⟩ (.int .u64 t188)) w.heap.size (fun k_ => (P0_ k_ ∨ w.heap.size ≤ k_) ∧ some k_ ≠ (.slice Ao3 x3_1.length co3 : Value).ownBlock ∧ k_ ≠ gb189) (.slice (some ad185) l0.length c0) l0) := ⟨by (with_reducible repeat (first | apply Kd.V_alloc | apply Kd.V_drewN | apply Kd.V_drew)); exact Kd.V_mono (Kd.V_far (p := ⟨gb189, 2, none⟩) (Kd.V_far (p := ⟨gb189, 1, none⟩) (Kd.V_far (p := ⟨gb189, 0, none⟩) (Kd.V_mono HO_0.out (fun k_ hk => (⟨hk, hk.2⟩ : _ ∧ k_ ≠ gb189))) (fun _ hk => hk.2) (.int .u64 t186)) (fun _ hk => hk.2) (.int .u64 t187)) (fun _ hk => hk.2) (.int .u64 t188)) (fun _ hk => ⟨hk.1.1.1, ⟨hk.1.1.2, hk.1.2⟩⟩)⟩
                        have n1_ : Aside0 (Kd.N k82 82 (((w21.setCell ⟨gb189, 0, none⟩ (.int .u64 t186)).setCell ⟨gb189, 1, none⟩ (.int .u64 t187)).setCell ⟨gb189, 2, none⟩ (.int .u64 t188)) w.heap.size (fun k_ => (P0_ k_ ∨ w.heap.size ≤ k_) ∧ k_ ≠ gb189) (.slice Ao3 x3_1.length co3) x3_1) := ⟨by (with_reducible repeat (first | apply Kd.N_alloc | apply Kd.N_drewN | apply Kd.N_drew)); exact Kd.N_mono (Kd.N_far (p := ⟨gb189, 2, none⟩) (Kd.N_far (p := ⟨gb189, 1, none⟩) (Kd.N_far (p := ⟨gb189, 0, none⟩) (Kd.N_mono HO_3.out (fun k_ hk => (⟨hk, hk.2⟩ : _ ∧ k_ ≠ gb189))) (fun _ hk => hk.2) (.int .u64 t186)) (fun _ hk => hk.2) (.int .u64 t187)) (fun _ hk => hk.2) (.int .u64 t188)) (fun _ hk => ⟨hk.1.1, hk.1.2⟩)⟩
                        have n2_ : Aside0 (Kd.V k41 41 (((w21.setCell ⟨gb189, 0, none⟩ (.int .u64 t186)).setCell ⟨gb189, 1, none⟩ (.int .u64 t187)).setCell ⟨gb189, 2, none⟩ (.int .u64 t188)) w.heap.size (fun k_ => (P0_ k_ ∨ w.heap.size ≤ k_) ∧ some k_ ≠ (.slice Ao3 x3_1.length co3 : Value).ownBlock ∧ k_ ≠ gb189) (.slice A185_0 ((rd_T36 l0 x4_1).f0).length c185_0) ((rd_T36 l0 x4_1).f0)) := ⟨by (with_reducible repeat (first | apply Kd.V_alloc | apply Kd.V_drewN | apply Kd.V_drew)); exact Kd.V_mono (Kd.V_far (p := ⟨gb189, 2, none⟩) (Kd.V_far (p := ⟨gb189, 1, none⟩) (Kd.V_far (p := ⟨gb189, 0, none⟩) (Kd.V_mono HL185_0.out (fun k_ hk => (⟨hk, hk.2⟩ : _ ∧ k_ ≠ gb189))) (fun _ hk => hk.2) (.int .u64 t186)) (fun _ hk => hk.2) (.int .u64 t187)) (fun _ hk => hk.2) (.int .u64 t188)) (fun _ hk => ⟨hk.1.1.1, ⟨hk.1.1.2, hk.1.2⟩⟩)⟩
                        have n3_ : Aside0 ((((w21.setCell ⟨gb189, 0, none⟩ (.int .u64 t186)).setCell ⟨gb189, 1, none⟩ (.int .u64 t187)).setCell ⟨gb189, 2, none⟩ (.int .u64 t188)).heap[gb189]? = some (.cells #[.int .u64 t186, .int .u64 t187, .int .u64 t188] 80 (0, 0))) := ⟨by (with_reducible repeat (first | refine blk_drewN ?_ _ | refine blk_drew ?_ | refine blk_alloc ?_ _)); refine blk_put (cs := #[.int .u64 t186, .int .u64 t187, .int .u64 0]) ?_ 2 _ rfl; (with_reducible repeat (first | refine blk_drewN ?_ _ | refine blk_drew ?_ | refine blk_alloc ?_ _)); refine blk_put (cs := #[.int .u64 t186, .int .u64 0, .int .u64 0]) ?_ 1 _ rfl; (with_reducible repeat (first | refine blk_drewN ?_ _ | refine blk_drew ?_ | refine blk_alloc ?_ _)); refine blk_put (cs := #[.int .u64 0, .int .u64 0, .int .u64 0]) ?_ 0 _ rfl; (with_reducible repeat (first | refine blk_drewN ?_ _ | refine blk_drew ?_ | refine blk_alloc ?_ _)); exact BK189.out⟩
                        have n4_ : Aside0 (Below w.heap.size w (((w21.setCell ⟨gb189, 0, none⟩ (.int .u64 t186)).setCell ⟨gb189, 1, none⟩ (.int .u64 t187)).setCell ⟨gb189, 2, none⟩ (.int .u64 t188))) := ⟨by repeat (first | (with_reducible first | exact HB.out | apply below_alloc | apply pw_below_drewN | apply below_drew1 | refine below_set ?_ GE189.out) | exact HB.out)⟩
                        (try clear HO_0)
                        (try clear HO_3)
                        (try clear HL185_0)
                        (try clear BK189)
                        (try clear HB)
                        generalize (((w21.setCell ⟨gb189, 0, none⟩ (.int .u64 t186)).setCell ⟨gb189, 1, none⟩ (.int .u64 t187)).setCell ⟨gb189, 2, none⟩ (.int .u64 t188)) = w26 at n0_ n1_ n2_ n3_ n4_ ⊢
                        have HO_0 := n0_
                        have HO_3 := n1_
                        have HL185_0 := n2_
                        have BK189 := n3_
                        have HB := n4_
                        clear n0_ n1_ n2_ n3_ n4_
                        have n0_ := Aside0.mk (Kd.V_drew HO_0.out)
                        have n1_ := Aside0.mk (Kd.N_drew HO_3.out)
                        have n2_ := Aside0.mk (Kd.V_drew HL185_0.out)
                        have n3_ := Aside0.mk (blk_drew BK189.out)
                        have n4_ := Aside0.mk (below_drew1 HB.out)
                        clear HO_0
                        clear HO_3
                        clear HL185_0
                        clear BK189
                        clear HB
                        have HO_0 := n0_
                        have HO_3 := n1_
                        have HL185_0 := n2_
                        have BK189 := n3_
                        have HB := n4_
                        clear n0_ n1_ n2_ n3_ n4_
                        have p190 : 0 ≤ (x5_2 : Int) := of_decide_eq_true (by first | (with_reducible assumption) | assumption)
                        have q190 : x5_2 < (x3_1.length : Int) := of_decide_eq_true (by first | (with_reducible assumption) | assumption)
                        obtain ⟨ad190, A190_0, c190_0, e190, hx190_0, hx190_1, hx190_2, hx190_3, hl190_0, hi190_0⟩ := at_T82 (Kd.N_reads' HO_3.out).2.2 x5_2 p190 q190
                        cases e190
                        obtain ⟨ce190, hce190, hMe190, hcc190⟩ := Kd.N_get HO_3.out z82 x5_2 p190 (by first | exact q190 | exact of_decide_eq_true (by first | (with_reducible assumption) | assumption) | (have e_ := (Kd.N_reads' HO_3.out).1; omega))
                        obtain ⟨ua190_0, uc190_0, rfl, ul190_0, ge190_0⟩ := k82_openF hMe190
                        have hv190_0 := hcc190 0 _ rfl
                        rw [Nat.add_zero] at hv190_0
                        replace hv190_0 := Option.some.inj (hv190_0.symm.trans hx190_0)
                        injection hv190_0 with hva_ hvn_ hvc_
                        rw [hva_] at ge190_0
                        rw [hvc_] at ul190_0
                        have HL190_0 := Aside0.mk (show Kd.V k41 41 _ w.heap.size _ _ ((rd_T82 x3_1 x5_2).f0) from Kd.V_mk ul190_0 ge190_0)
                        clear hva_ hvn_ hvc_ ge190_0 ul190_0
                        clear hcc190 hce190
                        have HR190_0 := Aside0.mk hi190_0
                        have HC190_0 := Aside0.mk hl190_0
                        clear hi190_0 hl190_0
                        replace p190 := eq_true p190
                        replace q190 := eq_true q190
                        have p191 : 0 ≤ (x4_1 : Int) := of_decide_eq_true (by first | (with_reducible assumption) | assumption)
                        have q191 : x4_1 < (l0.length : Int) := of_decide_eq_true (by first | (with_reducible assumption) | assumption)
                        obtain ⟨ad191, A191_0, c191_0, e191, hx191_0, hx191_1, hl191_0, hi191_0⟩ := at_T36 (Kd.V_reads' HO_0.out).2.2 x4_1 p191 q191
                        obtain rfl : ad185 = ad191 := (by injection e191)
                        obtain ⟨ce191, hce191, hMe191, hcc191⟩ := Kd.V_get HO_0.out z36 x4_1 p191 (by first | exact q191 | exact of_decide_eq_true (by first | (with_reducible assumption) | assumption) | (have e_ := (Kd.V_reads' HO_0.out).1; omega))
                        obtain ⟨ua191_0, uc191_0, rfl, ul191_0, ge191_0⟩ := k36_openF hMe191
                        have hv191_0 := hcc191 0 _ rfl
                        rw [Nat.add_zero] at hv191_0
                        replace hv191_0 := Option.some.inj (hv191_0.symm.trans hx191_0)
                        injection hv191_0 with hva_ hvn_ hvc_
                        rw [hva_] at ge191_0
                        rw [hvc_] at ul191_0
                        have HL191_0 := Aside0.mk (show Kd.V k41 41 _ w.heap.size _ _ ((rd_T36 l0 x4_1).f0) from Kd.V_mk ul191_0 ge191_0)
                        clear hva_ hvn_ hvc_ ge191_0 ul191_0
                        clear hcc191 hce191
                        have HR191_0 := Aside0.mk hi191_0
                        have HC191_0 := Aside0.mk hl191_0
                        clear hi191_0 hl191_0
                        replace p191 := eq_true p191
                        replace q191 := eq_true q191
                        refine start_ (n := 18) (S := fun w' => w'.cell? (ad190.add ((x5_2).toNat * 4)) = some (.slice A190_0 ((rd_T82 x3_1 x5_2).f0).length c190_0) ∧ w'.cell? ⟨(ad190.add ((x5_2).toNat * 4)).block, (ad190.add ((x5_2).toNat * 4)).off + 1, none⟩ = some (.int .u64 ((rd_T82 x3_1 x5_2).f1.f0)) ∧ w'.cell? ⟨(ad190.add ((x5_2).toNat * 4)).block, (ad190.add ((x5_2).toNat * 4)).off + 2, none⟩ = some (.int .u64 ((rd_T82 x3_1 x5_2).f1.f1)) ∧ w'.cell? ⟨(ad190.add ((x5_2).toNat * 4)).block, (ad190.add ((x5_2).toNat * 4)).off + 3, none⟩ = some (.int .u64 ((rd_T82 x3_1 x5_2).f1.f2)) ∧ w'.cell? (ad185.add ((x4_1).toNat * 2)) = some (.slice A191_0 ((rd_T36 l0 x4_1).f0).length c191_0) ∧ w'.cell? ⟨(ad185.add ((x4_1).toNat * 2)).block, (ad185.add ((x4_1).toNat * 2)).off + 1, none⟩ = some (.int .i64 ((rd_T36 l0 x4_1).f1))) (ds := []) #[false, false, false, false, false, false, false, false, false, false, false, false, false, false, false, false, false, false] (by kernel_rfl) rfl rfl ⟨hx190_0, hx190_1, hx190_2, hx190_3, hx191_0, hx191_1⟩ (fun hHeld => ?_); refine with_tabW belvedereref1_gather.tab13 belvedereref1_gather.bits13 (fun HT_ HW_ => ?_)
                        generalize w26.drew = w27 at HO_0 HO_3 HL185_0 BK189 HB HL190_0 HL191_0 HR190_0 HR191_0 hx190_0 hx190_1 hx190_2 hx190_3 hx191_0 hx191_1 hHeld ⊢
                        refine pure_ (i := 0) (N := some 46) (v := ?_) (a' := ?_) #[true, false, false, false, false, false, false, false, false, false, false, false, false, false, false, false, false, false] rfl rfl (any_of HT_.out (by kernel_rfl)) (fun _ _ _ h => h) (Or.inl ⟨by rfl, ?_⟩) ?_ ?_
                        rotate_left
                        · intro w'
                          go_simp
                          with_reducible rfl
                        rotate_left
                        · simp only [Act.put, List.setIfInBounds_toArray, List.set_cons_zero, List.set_cons_succ, i64_w, i32_w]
                          rfl
                        refine pure_ (i := 1) (N := some 47) (v := ?_) (a' := ?_) #[true, true, false, false, false, false, false, false, false, false, false, false, false, false, false, false, false, false] rfl rfl (any_of HT_.out (by kernel_rfl)) (fun _ _ _ h => h) (Or.inl ⟨by rfl, ?_⟩) ?_ ?_
                        rotate_left
                        · intro w'
                          go_simp
                          with_reducible rfl
                        rotate_left
                        · simp only [Act.put, List.setIfInBounds_toArray, List.set_cons_zero, List.set_cons_succ, i64_w, i32_w]
                          rfl
                        refine pure_ (i := 2) (N := some 48) (v := ?_) (a' := ?_) #[true, true, true, false, false, false, false, false, false, false, false, false, false, false, false, false, false, false] rfl rfl (any_of HT_.out (by kernel_rfl)) (fun _ _ _ h => h) (Or.inl ⟨by rfl, ?_⟩) ?_ ?_
                        rotate_left
                        · intro w'
                          go_simp
                          with_reducible rfl
                        rotate_left
                        · simp only [Act.put, List.setIfInBounds_toArray, List.set_cons_zero, List.set_cons_succ, i64_w, i32_w]
                          rfl
                        refine pure_ (i := 3) (N := some 49) (v := ?_) (a' := ?_) #[true, true, true, true, false, false, false, false, false, false, false, false, false, false, false, false, false, false] rfl rfl (any_of HT_.out (by kernel_rfl)) (fun _ _ _ h => h) (Or.inl ⟨by rfl, ?_⟩) ?_ ?_
                        rotate_left
                        · intro w'
                          go_simp
                          with_reducible rfl
                        rotate_left
                        · simp only [Act.put, List.setIfInBounds_toArray, List.set_cons_zero, List.set_cons_succ, i64_w, i32_w]
                          rfl
                        refine pure_ (i := 4) (N := some 50) (v := ?_) (a' := ?_) #[true, true, true, true, true, false, false, false, false, false, false, false, false, false, false, false, false, false] rfl rfl (any_of HT_.out (by kernel_rfl)) (fun _ _ _ h => h) (Or.inl ⟨by rfl, ?_⟩) ?_ ?_
                        rotate_left
                        · intro w'
                          go_simp
                          with_reducible rfl
                        rotate_left
                        · simp only [Act.put, List.setIfInBounds_toArray, List.set_cons_zero, List.set_cons_succ, i64_w, i32_w]
                          rfl
                        refine pure_ (i := 5) (N := some 51) (v := ?_) (a' := ?_) #[true, true, true, true, true, true, false, false, false, false, false, false, false, false, false, false, false, false] rfl rfl (any_of HT_.out (by kernel_rfl)) (fun _ _ _ h => h) (Or.inl ⟨by rfl, ?_⟩) ?_ ?_
                        rotate_left
                        · intro w'
                          go_simp
                          with_reducible rfl
                        rotate_left
                        · simp only [Act.put, List.setIfInBounds_toArray, List.set_cons_zero, List.set_cons_succ, i64_w, i32_w]
                          rfl
                        refine pure_ (i := 6) (N := some 52) (v := ?_) (a' := ?_) #[true, true, true, true, true, true, true, false, false, false, false, false, false, false, false, false, false, false] rfl rfl (any_of HT_.out (by kernel_rfl)) (fun _ _ _ h => h) (Or.inl ⟨by rfl, ?_⟩) ?_ ?_
                        rotate_left
                        · intro w'
                          go_simp
                          with_reducible rfl
                        rotate_left
                        · simp only [Act.put, List.setIfInBounds_toArray, List.set_cons_zero, List.set_cons_succ, i64_w, i32_w]
                          rfl
                        refine pure_ (i := 7) (N := some 53) (v := ?_) (a' := ?_) #[true, true, true, true, true, true, true, true, false, false, false, false, false, false, false, false, false, false] rfl rfl (any_of HT_.out (by kernel_rfl)) (fun _ _ _ h => h) (Or.inl ⟨by rfl, ?_⟩) ?_ ?_
                        rotate_left
                        · intro w'
                          go_simp
                          with_reducible rfl
                        rotate_left
                        · simp only [Act.put, List.setIfInBounds_toArray, List.set_cons_zero, List.set_cons_succ, i64_w, i32_w]
                          rfl
                        refine pure_ (i := 8) (N := some 54) (v := ?_) (a' := ?_) #[true, true, true, true, true, true, true, true, true, false, false, false, false, false, false, false, false, false] rfl rfl (any_of HT_.out (by kernel_rfl)) (fun _ _ _ h => h) (Or.inl ⟨by rfl, ?_⟩) ?_ ?_
                        rotate_left
                        · intro w'
                          go_simp
                          with_reducible rfl
                        rotate_left
                        · simp only [Act.put, List.setIfInBounds_toArray, List.set_cons_zero, List.set_cons_succ, i64_w, i32_w]
                          rfl
                        refine pure_ (i := 10) (N := some 56) (v := ?_) (a' := ?_) #[true, true, true, true, true, true, true, true, true, false, true, false, false, false, false, false, false, false] rfl rfl (any_of HT_.out (by kernel_rfl)) (fun _ _ _ h => h) (Or.inl ⟨by rfl, ?_⟩) ?_ ?_
                        rotate_left
                        · intro w'
                          go_simp
                          with_reducible rfl
                        rotate_left
                        · simp only [Act.put, List.setIfInBounds_toArray, List.set_cons_zero, List.set_cons_succ, i64_w, i32_w]
                          rfl
                        refine pure_ (i := 11) (N := some 57) (v := ?_) (a' := ?_) #[true, true, true, true, true, true, true, true, true, false, true, true, false, false, false, false, false, false] rfl rfl (any_of HT_.out (by kernel_rfl)) (fun _ _ _ h => h) (Or.inl ⟨by rfl, ?_⟩) ?_ ?_
                        rotate_left
                        · intro w'
                          go_simp
                          with_reducible rfl
                        rotate_left
                        · simp only [Act.put, List.setIfInBounds_toArray, List.set_cons_zero, List.set_cons_succ, i64_w, i32_w]
                          rfl
                        refine pure_ (i := 12) (N := some 58) (v := ?_) (a' := ?_) #[true, true, true, true, true, true, true, true, true, false, true, true, true, false, false, false, false, false] rfl rfl (any_of HT_.out (by kernel_rfl)) (fun _ _ _ h => h) (Or.inl ⟨by rfl, ?_⟩) ?_ ?_
                        rotate_left
                        · intro w'
                          go_simp
                          with_reducible rfl
                        rotate_left
                        · simp only [Act.put, List.setIfInBounds_toArray, List.set_cons_zero, List.set_cons_succ, i64_w, i32_w]
                          rfl
                        refine pure_ (i := 13) (N := some 59) (v := ?_) (a' := ?_) #[true, true, true, true, true, true, true, true, true, false, true, true, true, true, false, false, false, false] rfl rfl (any_of HT_.out (by kernel_rfl)) (fun _ _ _ h => h) (Or.inl ⟨by rfl, ?_⟩) ?_ ?_
                        rotate_left
                        · intro w'
                          go_simp
                          with_reducible rfl
                        rotate_left
                        · simp only [Act.put, List.setIfInBounds_toArray, List.set_cons_zero, List.set_cons_succ, i64_w, i32_w]
                          rfl
                        refine take_ (i := 9) (N := some 55) (v := ?_) (a' := ?_) #[true, true, true, true, true, true, true, true, true, true, true, true, true, true, false, false, false, false] rfl rfl (take_ofW HT_.out HW_.out (by kernel_rfl)) (fun _ _ _ h => h) (Or.inl ⟨by rfl, ?_⟩) hHeld ?_ ?_
                        rotate_left
                        · rintro w' ⟨s0, s1, s2, s3, s4, s5⟩
                          go_simp
                          with_reducible rfl
                        rotate_left
                        · simp only [Act.put, List.setIfInBounds_toArray, List.set_cons_zero, List.set_cons_succ, i64_w, i32_w]
                          rfl
                        refine take_ (i := 14) (N := some 60) (v := ?_) (a' := ?_) #[true, true, true, true, true, true, true, true, true, true, true, true, true, true, true, false, false, false] rfl rfl (take_ofW HT_.out HW_.out (by kernel_rfl)) (fun _ _ _ h => h) (Or.inl ⟨by rfl, ?_⟩) hHeld ?_ ?_
                        rotate_left
                        · rintro w' ⟨s0, s1, s2, s3, s4, s5⟩
                          go_simp
                          with_reducible rfl
                        rotate_left
                        · simp only [Act.put, List.setIfInBounds_toArray, List.set_cons_zero, List.set_cons_succ, i64_w, i32_w]
                          rfl
                        refine one_ (i := 15) (N := some 61) #[true, true, true, true, true, true, true, true, true, true, true, true, true, true, true, true, false, false] rfl rfl (one_of HT_.out (by kernel_rfl)) (by decide) (fun K hK => ?_)
                        refine goes_ Try.func30 (by kernel_rfl) rfl #[.slice A190_0 ((rd_T82 x3_1 x5_2).f0).length c190_0, .slice A191_0 ((rd_T36 l0 x4_1).f0).length c191_0] (by rfl) rfl rfl (by (try simp only [List.map_toArray, List.map_cons, List.map_nil]); first | done | rfl | (simp only [List.length_drop, List.length_take]; rfl)) ?_
                        with_reducible refine (belvedereref1_CompareRows.calls k2 _ _ ((rd_T82 x3_1 x5_2).f0) _ _ ((rd_T36 l0 x4_1).f0) t192 _ ?side1 ?side2 ?side3 ?side4 A25.out).mono ?_
                        (case side1 => repeat (first | exact (by repeat (first | (with_reducible exact HR190_0.out) | (with_reducible refine Kd.C_alloc ?_ _) | (with_reducible refine Kd.C_drewN ?_ _) | (with_reducible refine Kd.C_drew ?_) | exact HR190_0.out)) | (with_reducible refine Kd.C_alloc ?_ _) | (with_reducible refine Kd.C_drewN ?_ _) | (with_reducible refine Kd.C_drew ?_)))
                        (case side2 => exact HC190_0.out)
                        (case side3 => repeat (first | exact (by repeat (first | (with_reducible exact HR191_0.out) | (with_reducible refine Kd.C_alloc ?_ _) | (with_reducible refine Kd.C_drewN ?_ _) | (with_reducible refine Kd.C_drew ?_) | exact HR191_0.out)) | (with_reducible refine Kd.C_alloc ?_ _) | (with_reducible refine Kd.C_drewN ?_ _) | (with_reducible refine Kd.C_drew ?_)))
                        (case side4 => exact HC191_0.out)
                        rintro e w28 ⟨rfl, hb⟩
                        have HS0_ := (hb.cell (World.block_lt_of_cell? _ _ (hHeld.1))).trans (hHeld.1)
                        have HS1_ := (hb.cell (World.block_lt_of_cell? _ _ (hHeld.2.1))).trans (hHeld.2.1)
                        have HS2_ := (hb.cell (World.block_lt_of_cell? _ _ (hHeld.2.2.1))).trans (hHeld.2.2.1)
                        have HS3_ := (hb.cell (World.block_lt_of_cell? _ _ (hHeld.2.2.2.1))).trans (hHeld.2.2.2.1)
                        have HS4_ := (hb.cell (World.block_lt_of_cell? _ _ (hHeld.2.2.2.2.1))).trans (hHeld.2.2.2.2.1)
                        have HS5_ := (hb.cell (World.block_lt_of_cell? _ _ (hHeld.2.2.2.2.2))).trans (hHeld.2.2.2.2.2)
                        refine ⟨_, rfl, ?_⟩
                        have n0_ := Aside0.mk (Kd.V_below (by (with_reducible repeat (first | apply Kd.V_alloc | apply Kd.V_drewN | apply Kd.V_drew)); exact HO_0.out) hb)
                        have n1_ := Aside0.mk (Kd.N_below (by (with_reducible repeat (first | apply Kd.N_alloc | apply Kd.N_drewN | apply Kd.N_drew)); exact HO_3.out) hb)
                        have n2_ := Aside0.mk (Kd.V_below (by (with_reducible repeat (first | apply Kd.V_alloc | apply Kd.V_drewN | apply Kd.V_drew)); exact HL185_0.out) hb)
                        have n3_ := Aside0.mk (Kd.V_below (by (with_reducible repeat (first | apply Kd.V_alloc | apply Kd.V_drewN | apply Kd.V_drew)); exact HL190_0.out) hb)
                        have n4_ := Aside0.mk (Kd.V_below (by (with_reducible repeat (first | apply Kd.V_alloc | apply Kd.V_drewN | apply Kd.V_drew)); exact HL191_0.out) hb)
                        have n5_ := Aside0.mk (blk_below (g := gb189) (o := .cells #[.int .u64 t186, .int .u64 t187, .int .u64 t188] 80 (0, 0)) (by (with_reducible repeat (first | refine blk_drewN ?_ _ | refine blk_drew ?_ | refine blk_alloc ?_ _)); exact BK189.out) hb)
                        have n6_ := Aside0.mk (Kd.C_below (by repeat (first | (with_reducible exact HR190_0.out) | (with_reducible refine Kd.C_alloc ?_ _) | (with_reducible refine Kd.C_drewN ?_ _) | (with_reducible refine Kd.C_drew ?_) | exact HR190_0.out)) hb)
                        have n7_ := Aside0.mk (Kd.C_below (by repeat (first | (with_reducible exact HR191_0.out) | (with_reducible refine Kd.C_alloc ?_ _) | (with_reducible refine Kd.C_drewN ?_ _) | (with_reducible refine Kd.C_drew ?_) | exact HR191_0.out)) hb)
                        have n8_ := Aside0.mk (below_step (by repeat (first | (with_reducible first | exact HB.out | apply below_alloc | apply pw_below_drewN | apply below_drew1 | refine below_set ?_ GE189.out) | exact HB.out)) hb)
                        clear HO_0
                        clear HO_3
                        clear HL185_0
                        clear HL190_0
                        clear HL191_0
                        clear BK189
                        clear HR190_0
                        clear HR191_0
                        clear HB
                        have HO_0 := n0_
                        have HO_3 := n1_
                        have HL185_0 := n2_
                        have HL190_0 := n3_
                        have HL191_0 := n4_
                        have BK189 := n5_
                        have HR190_0 := n6_
                        have HR191_0 := n7_
                        have HB := n8_
                        clear n0_ n1_ n2_ n3_ n4_ n5_ n6_ n7_ n8_
                        (try clear hb)
                        (try clear hb2)
                        (try clear hk)
                        (try clear hi)
                        refine hK.out _ _ ⟨HS0_, HS1_, HS2_, HS3_, HS4_, HS5_⟩ (fun hHeld => ?_)
                        clear hK K
                        refine norm_ (a' := ?_) ?_ ?_
                        rotate_left
                        · show Act.put _ (some 61) _ = _
                          simp only [Act.put, List.setIfInBounds_toArray, List.set_cons_zero, List.set_cons_succ, i64_w, i32_w]
                          rfl
                        refine pure_ (i := 16) (N := some 62) (v := ?_) (a' := ?_) #[true, true, true, true, true, true, true, true, true, true, true, true, true, true, true, true, true, false] rfl rfl (any_of HT_.out (by kernel_rfl)) (fun _ _ _ h => h) (Or.inl ⟨by rfl, ?_⟩) ?_ ?_
                        rotate_left
                        · intro w'
                          go_simp
                          with_reducible rfl
                        rotate_left
                        · simp only [Act.put, List.setIfInBounds_toArray, List.set_cons_zero, List.set_cons_succ, i64_w, i32_w]
                          rfl
                        refine pure_ (i := 17) (N := some 63) (v := ?_) (a' := ?_) #[true, true, true, true, true, true, true, true, true, true, true, true, true, true, true, true, true, true] rfl rfl (any_of HT_.out (by kernel_rfl)) (fun _ _ _ h => h) (Or.inl ⟨by rfl, ?_⟩) ?_ ?_
                        rotate_left
                        · intro w'
                          go_simp
                          with_reducible rfl
                        rotate_left
                        · simp only [Act.put, List.setIfInBounds_toArray, List.set_cons_zero, List.set_cons_succ, i64_w, i32_w]
                          rfl
                        refine done_ (done_of HT_.out (by kernel_rfl)) ?_
                        try go_wp2
                        go_meet
                        case rel => exact ⟨_, ((t192 == 0)), (by first | rfl | (simp; done) | (simp [*]; done)), H', ⟨by have := HK1.out; have := HK2.out; first | omega | exact Nat.le_refl _⟩, ⟨by (with_reducible repeat (first | apply Kd.V_alloc | apply Kd.V_drewN | apply Kd.V_drew)); exact HO_0.out⟩, ⟨by (with_reducible repeat (first | apply Kd.N_alloc | apply Kd.N_drewN | apply Kd.N_drew)); exact HO_3.out⟩, ⟨by (with_reducible repeat (first | refine blk_drewN ?_ _ | refine blk_drew ?_ | refine blk_alloc ?_ _)); exact BK189.out⟩, ⟨by repeat (first | (with_reducible first | exact HB.out | apply below_alloc | apply pw_below_drewN | apply below_drew1 | refine below_set ?_ GE189.out) | exact HB.out)⟩⟩
                      · rw [if_neg c24] at H
                        exact absurd H (by simp)
                    · rw [if_neg c23] at H
                      have c23b0 : decide (x5_2 < (x3_1.length : Int)) = false := decide_eq_false c23
                      clear c23
                      (first | rw [c23b0] | (simp only [i64_w, i32_w]; rw [c23b0]) | skip)
                      have H' := Aside0.mk H
                      clear H
                      try go_wp2
                      have n0_ : Aside0 (Kd.V k36 36 (((w21.setCell ⟨gb189, 0, none⟩ (.int .u64 t186)).setCell ⟨gb189, 1, none⟩ (.int .u64 t187)).setCell ⟨gb189, 2, none⟩ (.int .u64 t188)) w.heap.size (fun k_ => (P0_ k_ ∨ w.heap.size ≤ k_) ∧ some k_ ≠ (.slice Ao3 x3_1.length co3 : Value).ownBlock ∧ k_ ≠ gb189) (.slice (some ad185) l0.length c0) l0) := ⟨by (with_reducible repeat (first | apply Kd.V_alloc | apply Kd.V_drewN | apply Kd.V_drew)); exact Kd.V_mono (Kd.V_far (p := ⟨gb189, 2, none⟩) (Kd.V_far (p := ⟨gb189, 1, none⟩) (Kd.V_far (p := ⟨gb189, 0, none⟩) (Kd.V_mono HO_0.out (fun k_ hk => (⟨hk, hk.2⟩ : _ ∧ k_ ≠ gb189))) (fun _ hk => hk.2) (.int .u64 t186)) (fun _ hk => hk.2) (.int .u64 t187)) (fun _ hk => hk.2) (.int .u64 t188)) (fun _ hk => ⟨hk.1.1.1, ⟨hk.1.1.2, hk.1.2⟩⟩)⟩
                      have n1_ : Aside0 (Kd.N k82 82 (((w21.setCell ⟨gb189, 0, none⟩ (.int .u64 t186)).setCell ⟨gb189, 1, none⟩ (.int .u64 t187)).setCell ⟨gb189, 2, none⟩ (.int .u64 t188)) w.heap.size (fun k_ => (P0_ k_ ∨ w.heap.size ≤ k_) ∧ k_ ≠ gb189) (.slice Ao3 x3_1.length co3) x3_1) := ⟨by (with_reducible repeat (first | apply Kd.N_alloc | apply Kd.N_drewN | apply Kd.N_drew)); exact Kd.N_mono (Kd.N_far (p := ⟨gb189, 2, none⟩) (Kd.N_far (p := ⟨gb189, 1, none⟩) (Kd.N_far (p := ⟨gb189, 0, none⟩) (Kd.N_mono HO_3.out (fun k_ hk => (⟨hk, hk.2⟩ : _ ∧ k_ ≠ gb189))) (fun _ hk => hk.2) (.int .u64 t186)) (fun _ hk => hk.2) (.int .u64 t187)) (fun _ hk => hk.2) (.int .u64 t188)) (fun _ hk => ⟨hk.1.1, hk.1.2⟩)⟩
                      have n2_ : Aside0 (Kd.V k41 41 (((w21.setCell ⟨gb189, 0, none⟩ (.int .u64 t186)).setCell ⟨gb189, 1, none⟩ (.int .u64 t187)).setCell ⟨gb189, 2, none⟩ (.int .u64 t188)) w.heap.size (fun k_ => (P0_ k_ ∨ w.heap.size ≤ k_) ∧ some k_ ≠ (.slice Ao3 x3_1.length co3 : Value).ownBlock ∧ k_ ≠ gb189) (.slice A185_0 ((rd_T36 l0 x4_1).f0).length c185_0) ((rd_T36 l0 x4_1).f0)) := ⟨by (with_reducible repeat (first | apply Kd.V_alloc | apply Kd.V_drewN | apply Kd.V_drew)); exact Kd.V_mono (Kd.V_far (p := ⟨gb189, 2, none⟩) (Kd.V_far (p := ⟨gb189, 1, none⟩) (Kd.V_far (p := ⟨gb189, 0, none⟩) (Kd.V_mono HL185_0.out (fun k_ hk => (⟨hk, hk.2⟩ : _ ∧ k_ ≠ gb189))) (fun _ hk => hk.2) (.int .u64 t186)) (fun _ hk => hk.2) (.int .u64 t187)) (fun _ hk => hk.2) (.int .u64 t188)) (fun _ hk => ⟨hk.1.1.1, ⟨hk.1.1.2, hk.1.2⟩⟩)⟩
                      have n3_ : Aside0 ((((w21.setCell ⟨gb189, 0, none⟩ (.int .u64 t186)).setCell ⟨gb189, 1, none⟩ (.int .u64 t187)).setCell ⟨gb189, 2, none⟩ (.int .u64 t188)).heap[gb189]? = some (.cells #[.int .u64 t186, .int .u64 t187, .int .u64 t188] 80 (0, 0))) := ⟨by (with_reducible repeat (first | refine blk_drewN ?_ _ | refine blk_drew ?_ | refine blk_alloc ?_ _)); refine blk_put (cs := #[.int .u64 t186, .int .u64 t187, .int .u64 0]) ?_ 2 _ rfl; (with_reducible repeat (first | refine blk_drewN ?_ _ | refine blk_drew ?_ | refine blk_alloc ?_ _)); refine blk_put (cs := #[.int .u64 t186, .int .u64 0, .int .u64 0]) ?_ 1 _ rfl; (with_reducible repeat (first | refine blk_drewN ?_ _ | refine blk_drew ?_ | refine blk_alloc ?_ _)); refine blk_put (cs := #[.int .u64 0, .int .u64 0, .int .u64 0]) ?_ 0 _ rfl; (with_reducible repeat (first | refine blk_drewN ?_ _ | refine blk_drew ?_ | refine blk_alloc ?_ _)); exact BK189.out⟩
                      have n4_ : Aside0 (Below w.heap.size w (((w21.setCell ⟨gb189, 0, none⟩ (.int .u64 t186)).setCell ⟨gb189, 1, none⟩ (.int .u64 t187)).setCell ⟨gb189, 2, none⟩ (.int .u64 t188))) := ⟨by repeat (first | (with_reducible first | exact HB.out | apply below_alloc | apply pw_below_drewN | apply below_drew1 | refine below_set ?_ GE189.out) | exact HB.out)⟩
                      (try clear HO_0)
                      (try clear HO_3)
                      (try clear HL185_0)
                      (try clear BK189)
                      (try clear HB)
                      generalize (((w21.setCell ⟨gb189, 0, none⟩ (.int .u64 t186)).setCell ⟨gb189, 1, none⟩ (.int .u64 t187)).setCell ⟨gb189, 2, none⟩ (.int .u64 t188)) = w29 at n0_ n1_ n2_ n3_ n4_ ⊢
                      have HO_0 := n0_
                      have HO_3 := n1_
                      have HL185_0 := n2_
                      have BK189 := n3_
                      have HB := n4_
                      clear n0_ n1_ n2_ n3_ n4_
                      have n0_ := Aside0.mk (Kd.V_drew HO_0.out)
                      have n1_ := Aside0.mk (Kd.N_drew HO_3.out)
                      have n2_ := Aside0.mk (Kd.V_drew HL185_0.out)
                      have n3_ := Aside0.mk (blk_drew BK189.out)
                      have n4_ := Aside0.mk (below_drew1 HB.out)
                      clear HO_0
                      clear HO_3
                      clear HL185_0
                      clear BK189
                      clear HB
                      have HO_0 := n0_
                      have HO_3 := n1_
                      have HL185_0 := n2_
                      have BK189 := n3_
                      have HB := n4_
                      clear n0_ n1_ n2_ n3_ n4_
                      refine start_ (n := 18) (S := fun w' => True) (ds := []) #[false, false, false, false, false, false, false, false, false, false, false, false, false, false, false, false, false, false] (by kernel_rfl) rfl rfl trivial (fun hHeld => ?_); refine with_tabW belvedereref1_gather.tab13 belvedereref1_gather.bits13 (fun HT_ HW_ => ?_)
                      generalize w29.drew = w30 at HO_0 HO_3 HL185_0 BK189 HB hHeld ⊢
                      refine pure_ (i := 0) (N := some 46) (v := ?_) (a' := ?_) #[true, false, false, false, false, false, false, false, false, false, false, false, false, false, false, false, false, false] rfl rfl (any_of HT_.out (by kernel_rfl)) (fun _ _ _ h => h) (Or.inl ⟨by rfl, ?_⟩) ?_ ?_
                      rotate_left
                      · intro w'
                        go_simp
                        with_reducible rfl
                      rotate_left
                      · simp only [Act.put, List.setIfInBounds_toArray, List.set_cons_zero, List.set_cons_succ, i64_w, i32_w]
                        rfl
                      refine pure_ (i := 1) (N := some 47) (v := ?_) (a' := ?_) #[true, true, false, false, false, false, false, false, false, false, false, false, false, false, false, false, false, false] rfl rfl (any_of HT_.out (by kernel_rfl)) (fun _ _ _ h => h) (Or.inl ⟨by rfl, ?_⟩) ?_ ?_
                      rotate_left
                      · intro w'
                        go_simp
                        with_reducible rfl
                      rotate_left
                      · simp only [Act.put, List.setIfInBounds_toArray, List.set_cons_zero, List.set_cons_succ, i64_w, i32_w]
                        rfl
                      refine pure_ (i := 2) (N := some 48) (v := ?_) (a' := ?_) #[true, true, true, false, false, false, false, false, false, false, false, false, false, false, false, false, false, false] rfl rfl (any_of HT_.out (by kernel_rfl)) (fun _ _ _ h => h) (Or.inl ⟨by rfl, ?_⟩) ?_ ?_
                      rotate_left
                      · intro w'
                        go_simp
                        with_reducible rfl
                      rotate_left
                      · simp only [Act.put, List.setIfInBounds_toArray, List.set_cons_zero, List.set_cons_succ, i64_w, i32_w]
                        rfl
                      refine pure_ (i := 3) (N := some 49) (v := ?_) (a' := ?_) #[true, true, true, true, false, false, false, false, false, false, false, false, false, false, false, false, false, false] rfl rfl (any_of HT_.out (by kernel_rfl)) (fun _ _ _ h => h) (Or.inl ⟨by rfl, ?_⟩) ?_ ?_
                      rotate_left
                      · intro w'
                        go_simp
                        with_reducible rfl
                      rotate_left
                      · simp only [Act.put, List.setIfInBounds_toArray, List.set_cons_zero, List.set_cons_succ, i64_w, i32_w]
                        rfl
                      refine pure_ (i := 4) (N := some 50) (v := ?_) (a' := ?_) #[true, true, true, true, true, false, false, false, false, false, false, false, false, false, false, false, false, false] rfl rfl (any_of HT_.out (by kernel_rfl)) (fun _ _ _ h => h) (Or.inl ⟨by rfl, ?_⟩) ?_ ?_
                      rotate_left
                      · intro w'
                        go_simp
                        with_reducible rfl
                      rotate_left
                      · simp only [Act.put, List.setIfInBounds_toArray, List.set_cons_zero, List.set_cons_succ, i64_w, i32_w]
                        rfl
                      refine pure_ (i := 5) (N := some 51) (v := undef) (a' := ?_) #[true, true, true, true, true, true, false, false, false, false, false, false, false, false, false, false, false, false] rfl rfl (any_of HT_.out (by kernel_rfl)) (fun _ _ _ h => h) (Or.inr ⟨by rfl, rfl⟩) ?_ ?_
                      rotate_left
                      · simp only [Act.put, List.setIfInBounds_toArray, List.set_cons_zero, List.set_cons_succ, i64_w, i32_w]
                        rfl
                      refine pure_ (i := 6) (N := some 52) (v := undef) (a' := ?_) #[true, true, true, true, true, true, true, false, false, false, false, false, false, false, false, false, false, false] rfl rfl (any_of HT_.out (by kernel_rfl)) (fun _ _ _ h => h) (Or.inr ⟨by rfl, rfl⟩) ?_ ?_
                      rotate_left
                      · simp only [Act.put, List.setIfInBounds_toArray, List.set_cons_zero, List.set_cons_succ, i64_w, i32_w]
                        rfl
                      refine pure_ (i := 7) (N := some 53) (v := undef) (a' := ?_) #[true, true, true, true, true, true, true, true, false, false, false, false, false, false, false, false, false, false] rfl rfl (any_of HT_.out (by kernel_rfl)) (fun _ _ _ h => h) (Or.inr ⟨by rfl, rfl⟩) ?_ ?_
                      rotate_left
                      · simp only [Act.put, List.setIfInBounds_toArray, List.set_cons_zero, List.set_cons_succ, i64_w, i32_w]
                        rfl
                      refine pure_ (i := 8) (N := some 54) (v := undef) (a' := ?_) #[true, true, true, true, true, true, true, true, true, false, false, false, false, false, false, false, false, false] rfl rfl (any_of HT_.out (by kernel_rfl)) (fun _ _ _ h => h) (Or.inr ⟨by rfl, rfl⟩) ?_ ?_
                      rotate_left
                      · simp only [Act.put, List.setIfInBounds_toArray, List.set_cons_zero, List.set_cons_succ, i64_w, i32_w]
                        rfl
                      refine pure_ (i := 9) (N := some 55) (v := undef) (a' := ?_) #[true, true, true, true, true, true, true, true, true, true, false, false, false, false, false, false, false, false] rfl rfl (any_of HT_.out (by kernel_rfl)) (fun _ _ _ h => h) (Or.inr ⟨by rfl, rfl⟩) ?_ ?_
                      rotate_left
                      · simp only [Act.put, List.setIfInBounds_toArray, List.set_cons_zero, List.set_cons_succ, i64_w, i32_w]
                        rfl
                      refine pure_ (i := 10) (N := some 56) (v := undef) (a' := ?_) #[true, true, true, true, true, true, true, true, true, true, true, false, false, false, false, false, false, false] rfl rfl (any_of HT_.out (by kernel_rfl)) (fun _ _ _ h => h) (Or.inr ⟨by rfl, rfl⟩) ?_ ?_
                      rotate_left
                      · simp only [Act.put, List.setIfInBounds_toArray, List.set_cons_zero, List.set_cons_succ, i64_w, i32_w]
                        rfl
                      refine pure_ (i := 11) (N := some 57) (v := undef) (a' := ?_) #[true, true, true, true, true, true, true, true, true, true, true, true, false, false, false, false, false, false] rfl rfl (any_of HT_.out (by kernel_rfl)) (fun _ _ _ h => h) (Or.inr ⟨by rfl, rfl⟩) ?_ ?_
                      rotate_left
                      · simp only [Act.put, List.setIfInBounds_toArray, List.set_cons_zero, List.set_cons_succ, i64_w, i32_w]
                        rfl
                      refine pure_ (i := 12) (N := some 58) (v := undef) (a' := ?_) #[true, true, true, true, true, true, true, true, true, true, true, true, true, false, false, false, false, false] rfl rfl (any_of HT_.out (by kernel_rfl)) (fun _ _ _ h => h) (Or.inr ⟨by rfl, rfl⟩) ?_ ?_
                      rotate_left
                      · simp only [Act.put, List.setIfInBounds_toArray, List.set_cons_zero, List.set_cons_succ, i64_w, i32_w]
                        rfl
                      refine pure_ (i := 13) (N := some 59) (v := undef) (a' := ?_) #[true, true, true, true, true, true, true, true, true, true, true, true, true, true, false, false, false, false] rfl rfl (any_of HT_.out (by kernel_rfl)) (fun _ _ _ h => h) (Or.inr ⟨by rfl, rfl⟩) ?_ ?_
                      rotate_left
                      · simp only [Act.put, List.setIfInBounds_toArray, List.set_cons_zero, List.set_cons_succ, i64_w, i32_w]
                        rfl
                      refine pure_ (i := 14) (N := some 60) (v := undef) (a' := ?_) #[true, true, true, true, true, true, true, true, true, true, true, true, true, true, true, false, false, false] rfl rfl (any_of HT_.out (by kernel_rfl)) (fun _ _ _ h => h) (Or.inr ⟨by rfl, rfl⟩) ?_ ?_
                      rotate_left
                      · simp only [Act.put, List.setIfInBounds_toArray, List.set_cons_zero, List.set_cons_succ, i64_w, i32_w]
                        rfl
                      refine pure_ (i := 15) (N := some 61) (v := undef) (a' := ?_) #[true, true, true, true, true, true, true, true, true, true, true, true, true, true, true, true, false, false] rfl rfl (any_of HT_.out (by kernel_rfl)) (fun _ _ _ h => h) (Or.inr ⟨by rfl, rfl⟩) ?_ ?_
                      rotate_left
                      · simp only [Act.put, List.setIfInBounds_toArray, List.set_cons_zero, List.set_cons_succ, i64_w, i32_w]
                        rfl
                      refine pure_ (i := 16) (N := some 62) (v := undef) (a' := ?_) #[true, true, true, true, true, true, true, true, true, true, true, true, true, true, true, true, true, false] rfl rfl (any_of HT_.out (by kernel_rfl)) (fun _ _ _ h => h) (Or.inr ⟨by rfl, rfl⟩) ?_ ?_
                      rotate_left
                      · simp only [Act.put, List.setIfInBounds_toArray, List.set_cons_zero, List.set_cons_succ, i64_w, i32_w]
                        rfl
                      refine pure_ (i := 17) (N := some 63) (v := ?_) (a' := ?_) #[true, true, true, true, true, true, true, true, true, true, true, true, true, true, true, true, true, true] rfl rfl (any_of HT_.out (by kernel_rfl)) (fun _ _ _ h => h) (Or.inl ⟨by rfl, ?_⟩) ?_ ?_
                      rotate_left
                      · intro w'
                        go_simp
                        with_reducible rfl
                      rotate_left
                      · simp only [Act.put, List.setIfInBounds_toArray, List.set_cons_zero, List.set_cons_succ, i64_w, i32_w]
                        rfl
                      refine done_ (done_of HT_.out (by kernel_rfl)) ?_
                      try go_wp2
                      go_meet
                      case rel => exact ⟨_, (false), (by first | rfl | (simp; done) | (simp [*]; done)), H', ⟨by have := HK1.out; have := HK2.out; first | omega | exact Nat.le_refl _⟩, ⟨by (with_reducible repeat (first | apply Kd.V_alloc | apply Kd.V_drewN | apply Kd.V_drew)); exact HO_0.out⟩, ⟨by (with_reducible repeat (first | apply Kd.N_alloc | apply Kd.N_drewN | apply Kd.N_drew)); exact HO_3.out⟩, ⟨by (with_reducible repeat (first | refine blk_drewN ?_ _ | refine blk_drew ?_ | refine blk_alloc ?_ _)); exact BK189.out⟩, ⟨by repeat (first | (with_reducible first | exact HB.out | apply below_alloc | apply pw_below_drewN | apply below_drew1 | refine below_set ?_ GE189.out) | exact HB.out)⟩⟩
                  case rest =>
                    clear HC19
                    try clear c1
                    try clear p1
                    try clear q1
                    try clear hx1
                    try clear c2
                    try clear p2
                    try clear c3
                    try clear c4
                    try clear c4b0
                    try clear c5
                    try clear c6
                    try clear c7
                    try clear c8
                    try clear c9
                    try clear c16
                    try clear c16b0
                    try clear c17
                    try clear c17b0
                    try clear c18
                    try clear p18
                    try clear q18
                    try clear hx18
                    try clear c19
                    try clear p19
                    try clear q19
                    try clear hx19
                    try clear c23
                    try clear c23b0
                    try clear c24
                    try clear c24b0
                    try clear c30
                    try clear hcz22_0
                    try clear hcz22_1
                    try clear hcz22_2
                    try clear hfz22_0
                    try clear hfz22_1
                    try clear hfz22_2
                    try clear hx185_0
                    try clear hx185_1
                    try clear hx190_0
                    try clear hx190_1
                    try clear hx190_2
                    try clear hx190_3
                    try clear hx191_0
                    try clear hx191_1
                    try clear p185
                    try clear p190
                    try clear p191
                    try clear q185
                    try clear q190
                    try clear q191
                    obtain ⟨kq, x63_18, rfl, HA, HJ18, HO_0, HO_3, BK189, HB⟩ := hcut
                    cases kq with
                    | zero => exact absurd HA.out (by simp [belvedereref1_gather.j2])
                    | succ kj18 =>
                      have H := HA.out
                      clear HA
                      simp only [belvedereref1_gather.j2] at H
                      by_cases c31 : x63_18 = true
                      · subst c31
                        have H1 : (if 0 ≤ x5_2 then (if x5_2 < (x3_1.length : Int) then ((belvedereref1_plus.f ((rd_T82 x3_1 x5_2).f1.f0) ((rd_T82 x3_1 x5_2).f1.f1) ((rd_T82 x3_1 x5_2).f1.f2) t186 t187 t188).bind fun bt194 => (belvedereref1_gather.l0 kj18 l0 (x3_1.set (x5_2 : Int).toNat (⟨(rd_T82 x3_1 x5_2).f0, (⟨bt194.1, bt194.2.1, bt194.2.2⟩ : S80)⟩ : S82)) (wrap64 (x4_1 + 1)))) else (none)) else (none)) = some r := by rw [if_pos rfl] at H; exact H
                        clear H
                        have H := H1
                        clear H1
                        by_cases c32 : 0 ≤ x5_2
                        · rw [if_pos c32] at H
                          have c32b0 : decide (0 ≤ x5_2) = true := decide_eq_true c32
                          clear c32
                          by_cases c33 : x5_2 < (x3_1.length : Int)
                          · rw [if_pos c33] at H
                            have c33b0 : decide (x5_2 < (x3_1.length : Int)) = true := decide_eq_true c33
                            clear c33
                            replace H := Option.bind_eq_some_iff.mp H
                            obtain ⟨⟨t194, t195, t196⟩, A340, H⟩ := H
                            replace H : (belvedereref1_gather.l0 kj18 l0 (x3_1.set (x5_2 : Int).toNat (⟨(rd_T82 x3_1 x5_2).f0, (⟨t194, t195, t196⟩ : S80)⟩ : S82)) (wrap64 (x4_1 + 1))) = some r := H
                            have A34 := Aside0.mk A340
                            clear A340
                            obtain ⟨y197, hy197⟩ : ∃ y_ : List (S82), y_ = (x3_1.set (x5_2 : Int).toNat (⟨(rd_T82 x3_1 x5_2).f0, (⟨t194, t195, t196⟩ : S80)⟩ : S82)) := ⟨_, rfl⟩
                            replace H : (belvedereref1_gather.l0 kj18 l0 y197 (wrap64 (x4_1 + 1))) = some r := by first | (rw [hy197]; with_reducible exact H) | (have H2_ := (Option.bind_some _ _).symm.trans H; rw [hy197]; with_reducible exact H2_) | (have H2_ := (Option.bind_some _ _).symm.trans H; with_reducible exact H2_) | with_reducible exact H | (rw [hy197]; exact H) | exact H
                            have Ny197 := Aside0.mk hy197
                            clear hy197
                            have H' := Aside0.mk H
                            clear H
                            try go_wp2
                            have n0_ := Aside0.mk (Kd.V_drew HO_0.out)
                            have n1_ := Aside0.mk (Kd.N_drew HO_3.out)
                            have n2_ := Aside0.mk (blk_drew BK189.out)
                            have n3_ := Aside0.mk (below_drew1 HB.out)
                            clear HO_0
                            clear HO_3
                            clear BK189
                            clear HB
                            have HO_0 := n0_
                            have HO_3 := n1_
                            have BK189 := n2_
                            have HB := n3_
                            clear n0_ n1_ n2_ n3_
                            have p193 : 0 ≤ (x5_2 : Int) := of_decide_eq_true (by first | (with_reducible assumption) | assumption)
                            have q193 : x5_2 < (x3_1.length : Int) := of_decide_eq_true (by first | (with_reducible assumption) | assumption)
                            obtain ⟨ad193, A193_0, c193_0, e193, hx193_0, hx193_1, hx193_2, hx193_3, hl193_0, hi193_0⟩ := at_T82 (Kd.N_reads' HO_3.out).2.2 x5_2 p193 q193
                            cases e193
                            obtain ⟨ce193, hce193, hMe193, hcc193⟩ := Kd.N_get HO_3.out z82 x5_2 p193 (by first | exact q193 | exact of_decide_eq_true (by first | (with_reducible assumption) | assumption) | (have e_ := (Kd.N_reads' HO_3.out).1; omega))
                            obtain ⟨ua193_0, uc193_0, rfl, ul193_0, ge193_0⟩ := k82_openF hMe193
                            have hv193_0 := hcc193 0 _ rfl
                            rw [Nat.add_zero] at hv193_0
                            replace hv193_0 := Option.some.inj (hv193_0.symm.trans hx193_0)
                            injection hv193_0 with hva_ hvn_ hvc_
                            rw [hva_] at ge193_0
                            rw [hvc_] at ul193_0
                            have HL193_0 := Aside0.mk (show Kd.V k41 41 _ w.heap.size _ _ ((rd_T82 x3_1 x5_2).f0) from Kd.V_mk ul193_0 ge193_0)
                            clear hva_ hvn_ hvc_ ge193_0 ul193_0
                            clear hcc193 hce193
                            have HR193_0 := Aside0.mk hi193_0
                            have HC193_0 := Aside0.mk hl193_0
                            clear hi193_0 hl193_0
                            replace p193 := eq_true p193
                            replace q193 := eq_true q193
                            refine start_ (n := 12) (S := fun w' => w'.cell? ⟨gb189, 0, none⟩ = some (.int .u64 t186) ∧ w'.cell? ⟨gb189, 1, none⟩ = some (.int .u64 t187) ∧ w'.cell? ⟨gb189, 2, none⟩ = some (.int .u64 t188) ∧ w'.cell? (ad193.add ((x5_2).toNat * 4)) = some (.slice A193_0 ((rd_T82 x3_1 x5_2).f0).length c193_0) ∧ w'.cell? ⟨(ad193.add ((x5_2).toNat * 4)).block, (ad193.add ((x5_2).toNat * 4)).off + 1, none⟩ = some (.int .u64 ((rd_T82 x3_1 x5_2).f1.f0)) ∧ w'.cell? ⟨(ad193.add ((x5_2).toNat * 4)).block, (ad193.add ((x5_2).toNat * 4)).off + 2, none⟩ = some (.int .u64 ((rd_T82 x3_1 x5_2).f1.f1)) ∧ w'.cell? ⟨(ad193.add ((x5_2).toNat * 4)).block, (ad193.add ((x5_2).toNat * 4)).off + 3, none⟩ = some (.int .u64 ((rd_T82 x3_1 x5_2).f1.f2))) (ds := [11]) #[false, false, false, false, false, false, false, false, false, false, false, false] (by kernel_rfl) rfl rfl ⟨(blk_cell BK189.out 0).trans rfl, (blk_cell BK189.out 1).trans rfl, (blk_cell BK189.out 2).trans rfl, hx193_0, hx193_1, hx193_2, hx193_3⟩ (fun hHeld => ?_); refine with_tabW belvedereref1_gather.tab14 belvedereref1_gather.bits14 (fun HT_ HW_ => ?_)
                            generalize wc.drew = w36 at HO_0 HO_3 BK189 HB HL193_0 HR193_0 hx193_0 hx193_1 hx193_2 hx193_3 hHeld ⊢
                            refine pure_ (i := 0) (N := some 64) (v := ?_) (a' := ?_) #[true, false, false, false, false, false, false, false, false, false, false, false] rfl rfl (any_of HT_.out (by kernel_rfl)) (fun _ _ _ h => h) (Or.inl ⟨by rfl, ?_⟩) ?_ ?_
                            rotate_left
                            · intro w'
                              go_simp
                              with_reducible rfl
                            rotate_left
                            · simp only [Act.put, List.setIfInBounds_toArray, List.set_cons_zero, List.set_cons_succ, i64_w, i32_w]
                              rfl
                            refine pure_ (i := 1) (N := some 65) (v := ?_) (a' := ?_) #[true, true, false, false, false, false, false, false, false, false, false, false] rfl rfl (any_of HT_.out (by kernel_rfl)) (fun _ _ _ h => h) (Or.inl ⟨by rfl, ?_⟩) ?_ ?_
                            rotate_left
                            · intro w'
                              go_simp
                              with_reducible rfl
                            rotate_left
                            · simp only [Act.put, List.setIfInBounds_toArray, List.set_cons_zero, List.set_cons_succ, i64_w, i32_w]
                              rfl
                            refine pure_ (i := 2) (N := some 66) (v := ?_) (a' := ?_) #[true, true, true, false, false, false, false, false, false, false, false, false] rfl rfl (any_of HT_.out (by kernel_rfl)) (fun _ _ _ h => h) (Or.inl ⟨by rfl, ?_⟩) ?_ ?_
                            rotate_left
                            · intro w'
                              go_simp
                              with_reducible rfl
                            rotate_left
                            · simp only [Act.put, List.setIfInBounds_toArray, List.set_cons_zero, List.set_cons_succ, i64_w, i32_w]
                              rfl
                            refine pure_ (i := 3) (N := some 67) (v := ?_) (a' := ?_) #[true, true, true, true, false, false, false, false, false, false, false, false] rfl rfl (any_of HT_.out (by kernel_rfl)) (fun _ _ _ h => h) (Or.inl ⟨by rfl, ?_⟩) ?_ ?_
                            rotate_left
                            · intro w'
                              go_simp
                              with_reducible rfl
                            rotate_left
                            · simp only [Act.put, List.setIfInBounds_toArray, List.set_cons_zero, List.set_cons_succ, i64_w, i32_w]
                              rfl
                            refine pure_ (i := 4) (N := some 68) (v := ?_) (a' := ?_) #[true, true, true, true, true, false, false, false, false, false, false, false] rfl rfl (any_of HT_.out (by kernel_rfl)) (fun _ _ _ h => h) (Or.inl ⟨by rfl, ?_⟩) ?_ ?_
                            rotate_left
                            · intro w'
                              go_simp
                              with_reducible rfl
                            rotate_left
                            · simp only [Act.put, List.setIfInBounds_toArray, List.set_cons_zero, List.set_cons_succ, i64_w, i32_w]
                              rfl
                            refine pure_ (i := 5) (N := some 69) (v := ?_) (a' := ?_) #[true, true, true, true, true, true, false, false, false, false, false, false] rfl rfl (any_of HT_.out (by kernel_rfl)) (fun _ _ _ h => h) (Or.inl ⟨by rfl, ?_⟩) ?_ ?_
                            rotate_left
                            · intro w'
                              go_simp
                              with_reducible rfl
                            rotate_left
                            · simp only [Act.put, List.setIfInBounds_toArray, List.set_cons_zero, List.set_cons_succ, i64_w, i32_w]
                              rfl
                            refine take_ (i := 6) (N := some 70) (v := ?_) (a' := ?_) #[true, true, true, true, true, true, true, false, false, false, false, false] rfl rfl (take_ofW HT_.out HW_.out (by kernel_rfl)) (fun _ _ _ h => h) (Or.inl ⟨by rfl, ?_⟩) hHeld ?_ ?_
                            rotate_left
                            · rintro w' ⟨s0, s1, s2, s3, s4, s5, s6⟩
                              go_simp
                              with_reducible rfl
                            rotate_left
                            · simp only [Act.put, List.setIfInBounds_toArray, List.set_cons_zero, List.set_cons_succ, i64_w, i32_w]
                              rfl
                            refine take_ (i := 7) (N := some 71) (v := ?_) (a' := ?_) #[true, true, true, true, true, true, true, true, false, false, false, false] rfl rfl (take_ofW HT_.out HW_.out (by kernel_rfl)) (fun _ _ _ h => h) (Or.inl ⟨by rfl, ?_⟩) hHeld ?_ ?_
                            rotate_left
                            · rintro w' ⟨s0, s1, s2, s3, s4, s5, s6⟩
                              go_simp
                              with_reducible rfl
                            rotate_left
                            · simp only [Act.put, List.setIfInBounds_toArray, List.set_cons_zero, List.set_cons_succ, i64_w, i32_w]
                              rfl
                            refine one_ (i := 8) (N := some 72) #[true, true, true, true, true, true, true, true, true, false, false, false] rfl rfl (one_of HT_.out (by kernel_rfl)) (by decide) (fun K hK => ?_)
                            refine goes_ Try.func60 (by kernel_rfl) rfl #[.agg #[.int .u64 ((rd_T82 x3_1 x5_2).f1.f0), .int .u64 ((rd_T82 x3_1 x5_2).f1.f1), .int .u64 ((rd_T82 x3_1 x5_2).f1.f2)], .agg #[.int .u64 t186, .int .u64 t187, .int .u64 t188]] (by rfl) rfl rfl (by (try simp only [List.map_toArray, List.map_cons, List.map_nil]); first | done | rfl | (simp only [List.length_drop, List.length_take]; rfl)) ?_
                            with_reducible refine (belvedereref1_plus.calls ((rd_T82 x3_1 x5_2).f1.f0) ((rd_T82 x3_1 x5_2).f1.f1) ((rd_T82 x3_1 x5_2).f1.f2) t186 t187 t188 t194 t195 t196 _ A34.out).mono ?_
                            rintro e w37 ⟨rfl, hb⟩
                            have HS3_ := (hb.cell (World.block_lt_of_cell? _ _ (hHeld.2.2.2.1))).trans (hHeld.2.2.2.1)
                            have HS4_ := (hb.cell (World.block_lt_of_cell? _ _ (hHeld.2.2.2.2.1))).trans (hHeld.2.2.2.2.1)
                            have HS5_ := (hb.cell (World.block_lt_of_cell? _ _ (hHeld.2.2.2.2.2.1))).trans (hHeld.2.2.2.2.2.1)
                            have HS6_ := (hb.cell (World.block_lt_of_cell? _ _ (hHeld.2.2.2.2.2.2))).trans (hHeld.2.2.2.2.2.2)
                            refine ⟨_, rfl, ?_⟩
                            have n0_ := Aside0.mk (Kd.V_below (by (with_reducible repeat (first | apply Kd.V_alloc | apply Kd.V_drewN | apply Kd.V_drew)); exact HO_0.out) hb)
                            have n1_ := Aside0.mk (Kd.N_below (by (with_reducible repeat (first | apply Kd.N_alloc | apply Kd.N_drewN | apply Kd.N_drew)); exact HO_3.out) hb)
                            have n2_ := Aside0.mk (Kd.V_below (by (with_reducible repeat (first | apply Kd.V_alloc | apply Kd.V_drewN | apply Kd.V_drew)); exact HL193_0.out) hb)
                            have n3_ := Aside0.mk (blk_below (g := gb189) (o := .cells #[.int .u64 t186, .int .u64 t187, .int .u64 t188] 80 (0, 0)) (by (with_reducible repeat (first | refine blk_drewN ?_ _ | refine blk_drew ?_ | refine blk_alloc ?_ _)); exact BK189.out) hb)
                            have n4_ := Aside0.mk (Kd.C_below (by repeat (first | (with_reducible exact HR193_0.out) | (with_reducible refine Kd.C_alloc ?_ _) | (with_reducible refine Kd.C_drewN ?_ _) | (with_reducible refine Kd.C_drew ?_) | exact HR193_0.out)) hb)
                            have n5_ := Aside0.mk (below_step (by repeat (first | (with_reducible first | exact HB.out | apply below_alloc | apply pw_below_drewN | apply below_drew1 | refine below_set ?_ GE189.out) | exact HB.out)) hb)
                            clear HO_0
                            clear HO_3
                            clear HL193_0
                            clear BK189
                            clear HR193_0
                            clear HB
                            have HO_0 := n0_
                            have HO_3 := n1_
                            have HL193_0 := n2_
                            have BK189 := n3_
                            have HR193_0 := n4_
                            have HB := n5_
                            clear n0_ n1_ n2_ n3_ n4_ n5_
                            (try clear hb)
                            (try clear hb2)
                            (try clear hk)
                            (try clear hi)
                            have p35 : 0 ≤ (x5_2 : Int) := of_decide_eq_true (by first | (with_reducible assumption) | assumption)
                            have q35 : (x5_2 : Int) < ((x3_1.length : Int) : Int) := of_decide_eq_true (by first | (with_reducible assumption) | assumption)
                            obtain ⟨go35, co35, eo35, gb35, gl35, cl35, HG35⟩ := Kd.N_form HO_3.out (by omega)
                            (first | cases eo35 | (injection eo35 with ea_ en_ ec_; (first | subst ea_ | (injection ea_ with ea_; subst ea_)); subst ec_; clear en_))
                            have GB35 := Aside0.mk gb35
                            have GG35 := Aside0.mk HG35
                            clear gb35 gl35 HG35
                            (first | simp only [add_plain] at hx193_0 | skip)
                            (first | simp only [add_plain] at hx193_1 | skip)
                            (first | simp only [add_plain] at hx193_2 | skip)
                            (first | simp only [add_plain] at hx193_3 | skip)
                            obtain ⟨ce35, hcl35, hM35, hcc35, hfr35⟩ := Kd.N_elem HO_3.out z82 (x5_2 : Int) p35 q35
                            obtain ⟨ua35_0, uc35_0, rfl, ul35_0, ge35_0⟩ := k82_openF hM35
                            have hx35_0 : World.cell? _ ⟨go35, (x5_2 : Int).toNat * 4, none⟩ = some (.slice ua35_0 ((rd_T82 x3_1 x5_2).f0).length uc35_0) := hcc35 0 _ rfl
                            have hx35_1 : World.cell? _ ⟨go35, (x5_2 : Int).toNat * 4 + 1, none⟩ = some (.int .u64 ((rd_T82 x3_1 x5_2).f1.f0)) := hcc35 1 _ rfl
                            have hx35_2 : World.cell? _ ⟨go35, (x5_2 : Int).toNat * 4 + 2, none⟩ = some (.int .u64 ((rd_T82 x3_1 x5_2).f1.f1)) := hcc35 2 _ rfl
                            have hx35_3 : World.cell? _ ⟨go35, (x5_2 : Int).toNat * 4 + 3, none⟩ = some (.int .u64 ((rd_T82 x3_1 x5_2).f1.f2)) := hcc35 3 _ rfl
                            have hf35_0 : World.frozen? _ ⟨go35, (x5_2 : Int).toNat * 4, none⟩ = false := hfr35 0
                            have hf35_1 : World.frozen? _ ⟨go35, (x5_2 : Int).toNat * 4 + 1, none⟩ = false := hfr35 1
                            have hf35_2 : World.frozen? _ ⟨go35, (x5_2 : Int).toNat * 4 + 2, none⟩ = false := hfr35 2
                            have hf35_3 : World.frozen? _ ⟨go35, (x5_2 : Int).toNat * 4 + 3, none⟩ = false := hfr35 3
                            clear hcl35 hcc35 hfr35 hM35
                            replace p35 := eq_true p35
                            replace q35 := eq_true q35
                            have HX38 := Aside0.mk (show Kd.N k82 82 _ w.heap.size (fun k_ => (P0_ k_ ∨ w.heap.size ≤ k_) ∧ k_ ≠ gb189) (.slice (some ⟨go35, 0, none⟩) x3_1.length co3) x3_1 from (Kd.N_mono (HO_3.out) (fun k_ hk => ⟨hk.1, hk.2⟩)))
                            obtain ⟨ce38, hcl38, hM38, hcc38, hfr38⟩ := Kd.N_elem HX38.out z82 (x5_2 : Int) (of_decide_eq_true (by first | (with_reducible assumption) | assumption)) (by have h_ : (x5_2 : Int) < ((x3_1.length : Int) : Int) := of_decide_eq_true (by first | (with_reducible assumption) | assumption); first | exact h_ | (have e_ := (Kd.N_reads' HO_3.out).1; omega) | simpa using h_)
                            obtain ⟨ua38_0, uc38_0, rfl, ul38_0, ge38_0⟩ := k82_openF hM38
                            have HP38 := (Kd.N_seg HX38.out (x5_2 : Int) (of_decide_eq_true (by first | (with_reducible assumption) | assumption)) (by have h_ : (x5_2 : Int) < ((x3_1.length : Int) : Int) := of_decide_eq_true (by first | (with_reducible assumption) | assumption); first | exact h_ | (have e_ := (Kd.N_reads' HO_3.out).1; omega) | simpa using h_) (seg := [.int .u64 t194, .int .u64 t195, .int .u64 t196]) (j := 1) hcl38 hcc38 (show 4 ≤ 4 from by decide) (x' := (⟨(rd_T82 x3_1 x5_2).f0, (⟨t194, t195, t196⟩ : S80)⟩ : S82)) (k82_mkF _ _ (⟨(rd_T82 x3_1 x5_2).f0, (⟨t194, t195, t196⟩ : S80)⟩ : S82) ul38_0 ge38_0) (fun _ hk => hk)).1
                            rw [← Ny197.out] at HP38
                            have HQ38 := Aside0.mk HP38
                            clear hcl38 hcc38 hfr38 hM38 HP38
                            refine hK.out _ _ ⟨(blk_cell BK189.out 0).trans rfl, (blk_cell BK189.out 1).trans rfl, (blk_cell BK189.out 2).trans rfl, HS3_, HS4_, HS5_, HS6_⟩ (fun hHeld => ?_)
                            clear hK K
                            refine norm_ (a' := ?_) ?_ ?_
                            rotate_left
                            · show Act.put _ (some 72) _ = _
                              simp only [Act.put, List.setIfInBounds_toArray, List.set_cons_zero, List.set_cons_succ, i64_w, i32_w]
                              rfl
                            refine pure_ (i := 9) (N := some 73) (v := ?_) (a' := ?_) #[true, true, true, true, true, true, true, true, true, true, false, false] rfl rfl (any_of HT_.out (by kernel_rfl)) (fun _ _ _ h => h) (Or.inl ⟨by rfl, ?_⟩) ?_ ?_
                            rotate_left
                            · intro w'
                              go_simp
                              with_reducible rfl
                            rotate_left
                            · simp only [Act.put, List.setIfInBounds_toArray, List.set_cons_zero, List.set_cons_succ, i64_w, i32_w]
                              rfl
                            refine pure_ (i := 10) (N := some 74) (v := ?_) (a' := ?_) #[true, true, true, true, true, true, true, true, true, true, true, false] rfl rfl (any_of HT_.out (by kernel_rfl)) (fun _ _ _ h => h) (Or.inl ⟨by rfl, ?_⟩) ?_ ?_
                            rotate_left
                            · intro w'
                              go_simp
                              with_reducible rfl
                            rotate_left
                            · simp only [Act.put, List.setIfInBounds_toArray, List.set_cons_zero, List.set_cons_succ, i64_w, i32_w]
                              rfl
                            refine last_ (i := 11) (N := none) #[true, true, true, true, true, true, true, true, true, true, true, true] rfl rfl (one_of HT_.out (by kernel_rfl)) (by decide) (fun K hK => ?_)
                            refine skip_ (w1 := ?_) (by rfl) rfl ?_ ?_
                            rotate_left
                            · go_simp
                              rfl
                            refine hK.out _ _ ?_
                            clear hK K
                            refine done_ (done_of HT_.out (by kernel_rfl)) ?_
                            try go_wp2
                            go_roundg kj18
                            case measure => have := HK1.out; have := HK2.out; have := HJ18.out; omega
                            case rel => exact ⟨(y197), (wrap64 (x4_1 + 1)), (by first | rfl | (simp; done) | (simp [*]; done)), H', ⟨by have := HK1.out; have := HK2.out; have := HJ18.out; omega⟩, ⟨by (with_reducible repeat (first | apply Kd.V_alloc | apply Kd.V_drewN | apply Kd.V_drew)); exact Kd.V_mono (Kd.V_far (p := ⟨go35, (x5_2 : Int).toNat * 4 + 3, none⟩) (Kd.V_far (p := ⟨go35, (x5_2 : Int).toNat * 4 + 2, none⟩) (Kd.V_far (p := ⟨go35, (x5_2 : Int).toNat * 4 + 1, none⟩) (Kd.V_mono HO_0.out (fun k_ hk => (⟨hk, fun e_ => hk.2.1 (by rw [e_]; rfl)⟩ : _ ∧ k_ ≠ go35))) (fun _ hk => hk.2) (.int .u64 t194)) (fun _ hk => hk.2) (.int .u64 t195)) (fun _ hk => hk.2) (.int .u64 t196)) (fun _ hk => ⟨hk.1.1, hk.1.2.1⟩)⟩, ⟨by (with_reducible repeat (first | apply Kd.N_alloc | apply Kd.N_drewN | apply Kd.N_drew)); exact Kd.N_mono HQ38.out (fun _ hk => hk.1)⟩, ⟨by repeat (first | (with_reducible first | exact HB.out | apply below_alloc | apply pw_below_drewN | apply below_drew1 | refine below_set ?_ GB35.out | refine below_set ?_ GB35.out | refine below_set ?_ GB35.out | refine below_set ?_ GE189.out) | exact HB.out)⟩⟩
                          · rw [if_neg c33] at H
                            exact absurd H (by simp)
                        · rw [if_neg c32] at H
                          exact absurd H (by simp)
                      · replace c31 := Bool.eq_false_iff.mpr c31
                        subst c31
                        have H1 : (if x3_1.length < 2932031007402 then ((some (x3_1 ++ [(⟨([] : List (S41)), (⟨0, 0, 0⟩ : S80)⟩ : S82)] : List (S82))).bind fun y198 => (belvedereref1_gather.l2 kj18 l0 y198 x4_1 x5_2 (wrap64 ((y198.length : Int) - 1)) t186 t187 t188)) else (none)) = some r := by rw [if_neg (show ¬ (false = true) by decide)] at H; exact H
                        clear H
                        have H := H1
                        clear H1
                        by_cases c39 : x3_1.length < 2932031007402
                        · rw [if_pos c39] at H
                          have LMc39 := Aside0.mk c39
                          clear c39
                          obtain ⟨y198, hy198⟩ : ∃ y_ : List (S82), y_ = (x3_1 ++ [(⟨([] : List (S41)), (⟨0, 0, 0⟩ : S80)⟩ : S82)]) := ⟨_, rfl⟩
                          replace H : (belvedereref1_gather.l2 kj18 l0 y198 x4_1 x5_2 (wrap64 ((y198.length : Int) - 1)) t186 t187 t188) = some r := by first | (rw [hy198]; with_reducible exact H) | (have H2_ := (Option.bind_some _ _).symm.trans H; rw [hy198]; with_reducible exact H2_) | (have H2_ := (Option.bind_some _ _).symm.trans H; with_reducible exact H2_) | with_reducible exact H | (rw [hy198]; exact H) | exact H
                          have Ny198 := Aside0.mk hy198
                          clear hy198
                          have H' := Aside0.mk H
                          clear H
                          go_wp2_with (first | ((with_reducible refine gate_builtin (b := .append) (xs := #[.tmp 75, .tmp 77]) rfl ?_); at_builtin; refine Kd.N_append k82 (w0 := w) w.heap.size rfl (.tmp 75) (.tmp 77) 74 82 (.agg #[(.slice none 0 0), (.int .u64 0), (.int .u64 0), (.int .u64 0)]) 48 rfl Try.underlying74 info82 rfl (by decide) (by omega) (.slice Ao3 x3_1.length co3) x3_1 (⟨([] : List (S41)), (⟨0, 0, 0⟩ : S80)⟩ : S82) [.slice none 0 0, .int .u64 0, .int .u64 0, .int .u64 0] (fun k_ => (P0_ k_ ∨ w.heap.size ≤ k_) ∧ k_ ≠ gb189) (fun k_ => ((fun k_ => (P0_ k_ ∨ w.heap.size ≤ k_) ∧ k_ ≠ gb189)) k_ ∧ some k_ ≠ (.slice Ao3 x3_1.length co3 : Value).ownBlock) rfl rfl ?aP (fun _ hk => hk) ?aF ?aO ?aB ?aS ?aL ?_; (case aP => exact (k82_mkF _ _ (⟨([] : List (S41)), (⟨0, 0, 0⟩ : S80)⟩ : S82) (Nat.le_refl _) (Kd.F_nil _ _ _))); (case aB => exact (by repeat (first | (with_reducible first | exact HB.out | apply below_alloc | apply pw_below_drewN | apply below_drew1 | refine below_set ?_ GE189.out) | exact HB.out))); (case aF => exact (fun k_ hk => ⟨(.inr (Nat.le_trans (below_size (by repeat (first | (with_reducible first | exact HB.out | apply below_alloc | apply pw_below_drewN | apply below_drew1 | refine below_set ?_ GE189.out) | exact HB.out))) hk)), Kd.freshB (g := gb189) (o := .cells #[.int .u64 t186, .int .u64 t187, .int .u64 t188] 80 (0, 0)) (by (with_reducible repeat (first | refine blk_drewN ?_ _ | refine blk_drew ?_ | refine blk_alloc ?_ _)); exact BK189.out) k_ hk⟩)); (case aO => exact (by (with_reducible repeat (first | apply Kd.N_alloc | apply Kd.N_drewN | apply Kd.N_drew)); exact HO_3.out)); (case aS => exact (below_size (by repeat (first | (with_reducible first | exact HB.out | apply below_alloc | apply pw_below_drewN | apply below_drew1 | refine below_set ?_ GE189.out) | exact HB.out)))); (case aL => have := LMc39.out; omega); intro v199 w40 ho hb hg hat; rw [← Ny198.out] at ho; have n0_ := Aside0.mk (Kd.V_afterv (ok := (fun k_ => (P0_ k_ ∨ w.heap.size ≤ k_) ∧ k_ ≠ gb189)) (by (with_reducible repeat (first | apply Kd.V_alloc | apply Kd.V_drewN | apply Kd.V_drew)); exact Kd.V_mono HO_0.out (fun _ hk => ⟨⟨hk.1, hk.2.2⟩, hk.2.1⟩)) hg hat); have n1_ := Aside0.mk (blk_grown (g := gb189) (o := .cells #[.int .u64 t186, .int .u64 t187, .int .u64 t188] 80 (0, 0)) (by (with_reducible repeat (first | refine blk_drewN ?_ _ | refine blk_drew ?_ | refine blk_alloc ?_ _)); exact BK189.out) hg (Kd.N_ne HO_3.out BK189.out (by decide))); have n2_ := Aside0.mk (hb); have n3_ := Aside0.mk (ho); clear HO_0; clear BK189; clear HB; clear HO_3; have HO_0 := n0_; have BK189 := n1_; have HB := n2_; have HO200 := n3_; clear n0_ n1_ n2_ n3_; clear ho hb hg hat; obtain ⟨Ao41, co41, eo41⟩ := Kd.N_slice HO200.out; subst eo41))
                          go_loopg [9] kj18 (fun kq v9 w' => ∃ (x3_4 : List (S82)) (x9_4 : Int), v9 = .int .i64 x9_4 ∧ Aside0 (belvedereref1_gather.l2 kq l0 x3_4 x4_1 x5_2 x9_4 t186 t187 t188 = some r) ∧ Aside0 (kq ≤ kj18) ∧ Aside0 (Kd.V k36 36 w' w.heap.size (fun k_ => (P0_ k_ ∨ w.heap.size ≤ k_) ∧ some k_ ≠ ((.slice Ao41 y198.length co41) : Value).ownBlock ∧ k_ ≠ gb189) (.slice (some ad185) l0.length c0) l0) ∧ Aside0 (Kd.N k82 82 w' w.heap.size (fun k_ => (P0_ k_ ∨ w.heap.size ≤ k_) ∧ k_ ≠ gb189) (.slice Ao41 y198.length co41) x3_4) ∧ Aside0 (w'.heap[gb189]? = some (.cells #[.int .u64 t186, .int .u64 t187, .int .u64 t188] 80 (0, 0))) ∧ Aside0 (Below w.heap.size w w'))
                          case atStart => exact ⟨(y198), (wrap64 ((y198.length : Int) - 1)), (by first | rfl | (simp; done) | (simp [*]; done)), H', ⟨Nat.le_refl _⟩, ⟨by (with_reducible repeat (first | apply Kd.V_alloc | apply Kd.V_drewN | apply Kd.V_drew)); exact Kd.V_mono HO_0.out (fun _ hk => ⟨hk.1.1, ⟨hk.2, hk.1.2⟩⟩)⟩, ⟨by (with_reducible repeat (first | apply Kd.N_alloc | apply Kd.N_drewN | apply Kd.N_drew)); exact HO200.out⟩, ⟨by (with_reducible repeat (first | refine blk_drewN ?_ _ | refine blk_drew ?_ | refine blk_alloc ?_ _)); exact BK189.out⟩, ⟨by repeat (first | (with_reducible first | exact HB.out | apply below_alloc | apply pw_below_drewN | apply below_drew1 | refine below_set ?_ GE189.out) | exact HB.out)⟩⟩
                          case round =>
                            clear H'
                            try clear c1
                            try clear p1
                            try clear q1
                            try clear hx1
                            try clear c2
                            try clear p2
                            try clear c3
                            try clear p3
                            try clear q3
                            try clear hx3
                            try clear hf3
                            try clear c4
                            try clear c4b0
                            try clear c5
                            try clear c6
                            try clear p6
                            try clear c7
                            try clear c8
                            try clear c9
                            try clear c16
                            try clear c16b0
                            try clear c17
                            try clear c17b0
                            try clear c18
                            try clear p18
                            try clear q18
                            try clear hx18
                            try clear c19
                            try clear p19
                            try clear q19
                            try clear hx19
                            try clear c23
                            try clear c23b0
                            try clear c24
                            try clear c24b0
                            try clear c30
                            try clear c31
                            try clear c32
                            try clear c32b0
                            try clear c33
                            try clear c33b0
                            try clear c35
                            try clear p35
                            try clear q35
                            try clear hx35
                            try clear hf35
                            try clear c38
                            try clear c39
                            try clear hcz22_0
                            try clear hcz22_1
                            try clear hcz22_2
                            try clear hfz22_0
                            try clear hfz22_1
                            try clear hfz22_2
                            try clear hx185_0
                            try clear hx185_1
                            try clear hx190_0
                            try clear hx190_1
                            try clear hx190_2
                            try clear hx190_3
                            try clear hx191_0
                            try clear hx191_1
                            try clear hx193_0
                            try clear hx193_1
                            try clear hx193_2
                            try clear hx193_3
                            try clear hx35_0
                            try clear hx35_1
                            try clear hx35_2
                            try clear hx35_3
                            try clear p1
                            try clear p18
                            try clear p185
                            try clear p19
                            try clear p190
                            try clear p191
                            try clear p193
                            try clear p2
                            try clear p35
                            try clear q1
                            try clear q18
                            try clear q185
                            try clear q19
                            try clear q190
                            try clear q191
                            try clear q193
                            try clear q35
                            obtain ⟨x3_4, x9_4, rfl, HA, HK4, HO_0, HO_3, BK189, HB⟩ := hrel
                            have hl3_4 := (Kd.N_reads' HO_3.out).1
                            rw [hl3_4] at HO_3
                            (try simp only [hl3_4])
                            (try simp only [hl3_4] at BK189)
                            (try simp only [hl3_4] at HO_0)
                            cases gk with
                            | zero => exact absurd HA.out (by simp [belvedereref1_gather.l2])
                            | succ k4 =>
                              have H := HA.out
                              clear HA
                              simp only [belvedereref1_gather.l2] at H
                              by_cases c42 : x9_4 > x5_2
                              · rw [if_pos c42] at H
                                have c42b0 : decide (x5_2 < x9_4) = true := decide_eq_true c42
                                clear c42
                                obtain ⟨ji43, hji43⟩ : ∃ j_ : Int, (wrap64 (x9_4 - 1)) = j_ := ⟨_, rfl⟩
                                replace H : (if 0 ≤ (ji43) then (if (ji43) < (x3_4.length : Int) then (if 0 ≤ x9_4 then (if x9_4 < (x3_4.length : Int) then (belvedereref1_gather.l2 k4 l0 (x3_4.set (x9_4 : Int).toNat (⟨(rd_T82 x3_4 (ji43)).f0, (⟨(rd_T82 x3_4 (ji43)).f1.f0, (rd_T82 x3_4 (ji43)).f1.f1, (rd_T82 x3_4 (ji43)).f1.f2⟩ : S80)⟩ : S82)) x4_1 x5_2 ji43 t186 t187 t188) else (none)) else (none)) else (none)) else (none)) = some r := by first | (rw [hji43] at H; exact H) | (simp only [hji43] at H ⊢; exact H)
                                have hji43w : (IntKind.i64.wrap (x9_4 - 1)) = ji43 := (i64_w _).trans hji43
                                by_cases c44 : 0 ≤ (ji43)
                                · rw [if_pos c44] at H
                                  have c44b0 : decide (0 ≤ (ji43)) = true := decide_eq_true c44
                                  clear c44
                                  by_cases c45 : (ji43) < (x3_4.length : Int)
                                  · rw [if_pos c45] at H
                                    have c45b0 : decide ((ji43) < (x3_4.length : Int)) = true := decide_eq_true c45
                                    clear c45
                                    by_cases c46 : 0 ≤ x9_4
                                    · rw [if_pos c46] at H
                                      have c46b0 : decide (0 ≤ x9_4) = true := decide_eq_true c46
                                      clear c46
                                      by_cases c47 : x9_4 < (x3_4.length : Int)
                                      · rw [if_pos c47] at H
                                        have c47b0 : decide (x9_4 < (x3_4.length : Int)) = true := decide_eq_true c47
                                        clear c47
                                        obtain ⟨y202, hy202⟩ : ∃ y_ : List (S82), y_ = (x3_4.set (x9_4 : Int).toNat (⟨(rd_T82 x3_4 (ji43)).f0, (⟨(rd_T82 x3_4 (ji43)).f1.f0, (rd_T82 x3_4 (ji43)).f1.f1, (rd_T82 x3_4 (ji43)).f1.f2⟩ : S80)⟩ : S82)) := ⟨_, rfl⟩
                                        replace H : (belvedereref1_gather.l2 k4 l0 y202 x4_1 x5_2 ji43 t186 t187 t188) = some r := by first | (rw [hy202]; with_reducible exact H) | (have H2_ := (Option.bind_some _ _).symm.trans H; rw [hy202]; with_reducible exact H2_) | (have H2_ := (Option.bind_some _ _).symm.trans H; with_reducible exact H2_) | with_reducible exact H | (rw [hy202]; exact H) | exact H
                                        have Ny202 := Aside0.mk hy202
                                        clear hy202
                                        have H' := Aside0.mk H
                                        clear H
                                        have p201 : 0 ≤ ((ji43) : Int) := of_decide_eq_true (by first | (with_reducible assumption) | assumption)
                                        have q201 : (ji43) < (x3_4.length : Int) := of_decide_eq_true (by first | (with_reducible assumption) | assumption)
                                        obtain ⟨ad201, A201_0, c201_0, e201, hx201_0, hx201_1, hx201_2, hx201_3, hl201_0, hi201_0⟩ := at_T82 (Kd.N_reads' HO_3.out).2.2 (ji43) p201 q201
                                        cases e201
                                        obtain ⟨ce201, hce201, hMe201, hcc201⟩ := Kd.N_get HO_3.out z82 (ji43) p201 (by first | exact q201 | exact of_decide_eq_true (by first | (with_reducible assumption) | assumption) | (have e_ := (Kd.N_reads' HO_3.out).1; omega))
                                        obtain ⟨ua201_0, uc201_0, rfl, ul201_0, ge201_0⟩ := k82_openF hMe201
                                        have hv201_0 := hcc201 0 _ rfl
                                        rw [Nat.add_zero] at hv201_0
                                        replace hv201_0 := Option.some.inj (hv201_0.symm.trans hx201_0)
                                        injection hv201_0 with hva_ hvn_ hvc_
                                        rw [hva_] at ge201_0
                                        rw [hvc_] at ul201_0
                                        have HL201_0 := Aside0.mk (show Kd.V k41 41 _ w.heap.size _ _ ((rd_T82 x3_4 (ji43)).f0) from Kd.V_mk ul201_0 ge201_0)
                                        clear hva_ hvn_ hvc_ ge201_0 ul201_0
                                        clear hcc201 hce201
                                        have HR201_0 := Aside0.mk hi201_0
                                        have HC201_0 := Aside0.mk hl201_0
                                        clear hi201_0 hl201_0
                                        replace p201 := eq_true p201
                                        replace q201 := eq_true q201
                                        have p48 : 0 ≤ (x9_4 : Int) := of_decide_eq_true (by first | (with_reducible assumption) | assumption)
                                        have q48 : (x9_4 : Int) < ((x3_4.length : Int) : Int) := of_decide_eq_true (by first | (with_reducible assumption) | assumption)
                                        obtain ⟨go48, co48, eo48, gb48, gl48, cl48, HG48⟩ := Kd.N_form HO_3.out (by omega)
                                        (first | cases eo48 | (injection eo48 with ea_ en_ ec_; (first | subst ea_ | (injection ea_ with ea_; subst ea_)); subst ec_; clear en_))
                                        have GB48 := Aside0.mk gb48
                                        have GG48 := Aside0.mk HG48
                                        clear gb48 gl48 HG48
                                        (first | simp only [add_plain] at hx201_0 | skip)
                                        (first | simp only [add_plain] at hx201_1 | skip)
                                        (first | simp only [add_plain] at hx201_2 | skip)
                                        (first | simp only [add_plain] at hx201_3 | skip)
                                        obtain ⟨ce48, hcl48, hM48, hcc48, hfr48⟩ := Kd.N_elem HO_3.out z82 (x9_4 : Int) p48 q48
                                        obtain ⟨ua48_0, uc48_0, rfl, ul48_0, ge48_0⟩ := k82_openF hM48
                                        have hx48_0 : wr.cell? ⟨go48, (x9_4 : Int).toNat * 4, none⟩ = some (.slice ua48_0 ((rd_T82 x3_4 x9_4).f0).length uc48_0) := hcc48 0 _ rfl
                                        have hx48_1 : wr.cell? ⟨go48, (x9_4 : Int).toNat * 4 + 1, none⟩ = some (.int .u64 ((rd_T82 x3_4 x9_4).f1.f0)) := hcc48 1 _ rfl
                                        have hx48_2 : wr.cell? ⟨go48, (x9_4 : Int).toNat * 4 + 2, none⟩ = some (.int .u64 ((rd_T82 x3_4 x9_4).f1.f1)) := hcc48 2 _ rfl
                                        have hx48_3 : wr.cell? ⟨go48, (x9_4 : Int).toNat * 4 + 3, none⟩ = some (.int .u64 ((rd_T82 x3_4 x9_4).f1.f2)) := hcc48 3 _ rfl
                                        have hf48_0 : wr.frozen? ⟨go48, (x9_4 : Int).toNat * 4, none⟩ = false := hfr48 0
                                        have hf48_1 : wr.frozen? ⟨go48, (x9_4 : Int).toNat * 4 + 1, none⟩ = false := hfr48 1
                                        have hf48_2 : wr.frozen? ⟨go48, (x9_4 : Int).toNat * 4 + 2, none⟩ = false := hfr48 2
                                        have hf48_3 : wr.frozen? ⟨go48, (x9_4 : Int).toNat * 4 + 3, none⟩ = false := hfr48 3
                                        clear hcl48 hcc48 hfr48 hM48
                                        replace p48 := eq_true p48
                                        replace q48 := eq_true q48
                                        have HX49 := Aside0.mk (show Kd.N k82 82 wr w.heap.size (fun k_ => (P0_ k_ ∨ w.heap.size ≤ k_) ∧ k_ ≠ gb189) (.slice (some ⟨go48, 0, none⟩) x3_4.length co41) x3_4 from (by (with_reducible repeat (first | apply Kd.N_alloc | apply Kd.N_drewN | apply Kd.N_drew)); exact HO_3.out))
                                        obtain ⟨ce49, hcl49, hM49, hcc49, hfr49⟩ := Kd.N_elem HX49.out z82 (x9_4 : Int) (of_decide_eq_true (by first | (with_reducible assumption) | assumption)) (by have h_ : (x9_4 : Int) < ((x3_4.length : Int) : Int) := of_decide_eq_true (by first | (with_reducible assumption) | assumption); first | exact h_ | (have e_ := (Kd.N_reads' HO_3.out).1; omega) | simpa using h_)
                                        obtain ⟨ua49_0, uc49_0, rfl, ul49_0, ge49_0⟩ := k82_openF hM49
                                        have HP49 := Kd.N_seg HX49.out (x9_4 : Int) (of_decide_eq_true (by first | (with_reducible assumption) | assumption)) (by have h_ : (x9_4 : Int) < ((x3_4.length : Int) : Int) := of_decide_eq_true (by first | (with_reducible assumption) | assumption); first | exact h_ | (have e_ := (Kd.N_reads' HO_3.out).1; omega) | simpa using h_) (seg := [.slice A201_0 ((rd_T82 x3_4 (ji43)).f0).length c201_0, .int .u64 ((rd_T82 x3_4 (ji43)).f1.f0), .int .u64 ((rd_T82 x3_4 (ji43)).f1.f1), .int .u64 ((rd_T82 x3_4 (ji43)).f1.f2)]) (j := 0) hcl49 hcc49 (show 4 ≤ 4 from by decide) (x' := (⟨(rd_T82 x3_4 (ji43)).f0, (⟨(rd_T82 x3_4 (ji43)).f1.f0, (rd_T82 x3_4 (ji43)).f1.f1, (rd_T82 x3_4 (ji43)).f1.f2⟩ : S80)⟩ : S82)) (k82_mkF _ _ (⟨(rd_T82 x3_4 (ji43)).f0, (⟨(rd_T82 x3_4 (ji43)).f1.f0, (rd_T82 x3_4 (ji43)).f1.f1, (rd_T82 x3_4 (ji43)).f1.f2⟩ : S80)⟩ : S82) (Kd.V_reads' (Kd.V_mono (ok' := (fun k_ => ((fun k_ => (P0_ k_ ∨ w.heap.size ≤ k_) ∧ k_ ≠ gb189)) k_ ∧ k_ ≠ go48)) (HL201_0.out) (fun k_ hk => ⟨⟨hk.1.1, hk.1.2⟩, fun e_ => (hk.2) (by rw [e_]; rfl)⟩))).2.1 (Kd.V_F (Kd.V_mono (ok' := (fun k_ => ((fun k_ => (P0_ k_ ∨ w.heap.size ≤ k_) ∧ k_ ≠ gb189)) k_ ∧ k_ ≠ go48)) (HL201_0.out) (fun k_ hk => ⟨⟨hk.1.1, hk.1.2⟩, fun e_ => (hk.2) (by rw [e_]; rfl)⟩)))) (fun _ hk => hk)
                                        have hx49_0 := hcc49 0 _ rfl
                                        (try simp only [show (k82).sz = 4 from rfl, Nat.mul_one, Nat.add_zero] at hx49_0)
                                        have hf49_0 := hfr49 0
                                        (try simp only [show (k82).sz = 4 from rfl, Nat.mul_one, Nat.add_zero] at hf49_0)
                                        have hx49_1 := hcc49 1 _ rfl
                                        (try simp only [show (k82).sz = 4 from rfl, Nat.mul_one, Nat.add_zero] at hx49_1)
                                        have hf49_1 := hfr49 1
                                        (try simp only [show (k82).sz = 4 from rfl, Nat.mul_one, Nat.add_zero] at hf49_1)
                                        have hx49_2 := hcc49 2 _ rfl
                                        (try simp only [show (k82).sz = 4 from rfl, Nat.mul_one, Nat.add_zero] at hx49_2)
                                        have hf49_2 := hfr49 2
                                        (try simp only [show (k82).sz = 4 from rfl, Nat.mul_one, Nat.add_zero] at hf49_2)
                                        have hx49_3 := hcc49 3 _ rfl
                                        (try simp only [show (k82).sz = 4 from rfl, Nat.mul_one, Nat.add_zero] at hx49_3)
                                        have hf49_3 := hfr49 3
                                        (try simp only [show (k82).sz = 4 from rfl, Nat.mul_one, Nat.add_zero] at hf49_3)
                                        clear hcl49 hcc49 hfr49 hM49
                                        go_wp2_with (first | ((with_reducible refine gate_store (t := 82) (p := 94) rfl ?_); refine store_event (t := 82) (p := 94) (v := ?vo_w50) (w1 := ((((wr.setCell ⟨go48, (x9_4 : Int).toNat * 4, none⟩ (.slice A201_0 ((rd_T82 x3_4 (ji43)).f0).length c201_0)).setCell ⟨go48, (x9_4 : Int).toNat * 4 + 1, none⟩ (.int .u64 ((rd_T82 x3_4 (ji43)).f1.f0))).setCell ⟨go48, (x9_4 : Int).toNat * 4 + 2, none⟩ (.int .u64 ((rd_T82 x3_4 (ji43)).f1.f1))).setCell ⟨go48, (x9_4 : Int).toNat * 4 + 3, none⟩ (.int .u64 ((rd_T82 x3_4 (ji43)).f1.f2)))) ?hg ?ho ?hn ?hr ?_; (case ho => rfl); (case hg => rfl); (case hn => rfl); (case hr => first | (go_simp; done) | (go_simp; rfl)); intro w50 hw; have hg : wr.grownBy w50 (some go48) := (by rw [hw]; exact HP49.2); have hp_ : Kd.N k82 82 w50 w.heap.size (fun k_ => (P0_ k_ ∨ w.heap.size ≤ k_) ∧ k_ ≠ gb189) (.slice (some ⟨go48, 0, none⟩) x3_4.length co41) y202 := (by rw [hw, Ny202.out]; exact HP49.1); clear HP49; have n0_ := Aside0.mk (Kd.V_afterv (v := (.slice (some ⟨go48, 0, none⟩) x3_4.length co41)) (v1 := (.slice (some ⟨go48, 0, none⟩) x3_4.length co41)) (ok := (fun k_ => (P0_ k_ ∨ w.heap.size ≤ k_) ∧ k_ ≠ gb189)) (by (with_reducible repeat (first | apply Kd.V_alloc | apply Kd.V_drewN | apply Kd.V_drew)); exact Kd.V_mono HO_0.out (fun _ hk => ⟨⟨hk.1, hk.2.2⟩, hk.2.1⟩)) hg (.inl rfl)); have n1_ := Aside0.mk (hp_); have n2_ := Aside0.mk (blk_grown (g := gb189) (o := .cells #[.int .u64 t186, .int .u64 t187, .int .u64 t188] 80 (0, 0)) (by (with_reducible repeat (first | refine blk_drewN ?_ _ | refine blk_drew ?_ | refine blk_alloc ?_ _)); exact BK189.out) hg (Kd.N_ne HO_3.out BK189.out (by decide))); have n3_ := Aside0.mk (Kd.V_afterv (v := (.slice (some ⟨go48, 0, none⟩) x3_4.length co41)) (v1 := (.slice (some ⟨go48, 0, none⟩) x3_4.length co41)) (ok := (fun k_ => (P0_ k_ ∨ w.heap.size ≤ k_) ∧ k_ ≠ gb189)) (by (with_reducible repeat (first | apply Kd.V_alloc | apply Kd.V_drewN | apply Kd.V_drew)); exact HL201_0.out) hg (.inl rfl)); have n4_ := Aside0.mk ((by rw [hw]; exact below_set (below_set (below_set (below_set (HB.out) GB48.out) GB48.out) GB48.out) GB48.out : Below w.heap.size w w50)); clear HO_0; clear HO_3; clear BK189; clear HL201_0; clear HB; have HO_0 := n0_; have HO_3 := n1_; have BK189 := n2_; have HL201_0 := n3_; have HB := n4_; clear n0_ n1_ n2_ n3_ n4_; clear hg hw hp_))
                                        (try simp only [← hl3_4])
                                        go_roundg k4
                                        case measure => have := HK1.out; have := HK2.out; have := HJ18.out; have := HK4.out; omega
                                        case rel => exact ⟨(y202), (ji43), (by first | rfl | (simp; done) | (simp only [← hji43] <;> (first | rfl | simp)) | (simp [*]; done)), H', ⟨by have := HK1.out; have := HK2.out; have := HJ18.out; have := HK4.out; omega⟩, ⟨by (try simp only [hl3_4]); (with_reducible repeat (first | apply Kd.V_alloc | apply Kd.V_drewN | apply Kd.V_drew)); exact Kd.V_mono HO_0.out (fun _ hk => ⟨hk.1.1, ⟨hk.2, hk.1.2⟩⟩)⟩, ⟨by (try simp only [hl3_4]); (with_reducible repeat (first | apply Kd.N_alloc | apply Kd.N_drewN | apply Kd.N_drew)); exact HO_3.out⟩, ⟨by (try simp only [hl3_4]); (with_reducible repeat (first | refine blk_drewN ?_ _ | refine blk_drew ?_ | refine blk_alloc ?_ _)); exact BK189.out⟩, ⟨by repeat (first | (with_reducible first | exact HB.out | apply below_alloc | apply pw_below_drewN | apply below_drew1 | refine below_set ?_ GE189.out) | exact HB.out)⟩⟩
                                      · rw [if_neg c47] at H
                                        exact absurd H (by simp)
                                    · rw [if_neg c46] at H
                                      exact absurd H (by simp)
                                  · rw [if_neg c45] at H
                                    exact absurd H (by simp)
                                · rw [if_neg c44] at H
                                  exact absurd H (by simp)
                              · rw [if_neg c42] at H
                                have c42b0 : decide (x5_2 < x9_4) = false := decide_eq_false c42
                                clear c42
                                by_cases c51 : 0 ≤ x4_1
                                · rw [if_pos c51] at H
                                  have c51b0 : decide (0 ≤ x4_1) = true := decide_eq_true c51
                                  clear c51
                                  by_cases c52 : x4_1 < (l0.length : Int)
                                  · rw [if_pos c52] at H
                                    have c52b0 : decide (x4_1 < (l0.length : Int)) = true := decide_eq_true c52
                                    clear c52
                                    by_cases c53 : 0 ≤ x5_2
                                    · rw [if_pos c53] at H
                                      have c53b0 : decide (0 ≤ x5_2) = true := decide_eq_true c53
                                      clear c53
                                      by_cases c54 : x5_2 < (x3_4.length : Int)
                                      · rw [if_pos c54] at H
                                        have c54b0 : decide (x5_2 < (x3_4.length : Int)) = true := decide_eq_true c54
                                        clear c54
                                        obtain ⟨y204, hy204⟩ : ∃ y_ : List (S82), y_ = (x3_4.set (x5_2 : Int).toNat (⟨(rd_T36 l0 x4_1).f0, (⟨t186, t187, t188⟩ : S80)⟩ : S82)) := ⟨_, rfl⟩
                                        replace H : (belvedereref1_gather.l0 k4 l0 y204 (wrap64 (x4_1 + 1))) = some r := by first | (rw [hy204]; with_reducible exact H) | (have H2_ := (Option.bind_some _ _).symm.trans H; rw [hy204]; with_reducible exact H2_) | (have H2_ := (Option.bind_some _ _).symm.trans H; with_reducible exact H2_) | with_reducible exact H | (rw [hy204]; exact H) | exact H
                                        have Ny204 := Aside0.mk hy204
                                        clear hy204
                                        have H' := Aside0.mk H
                                        clear H
                                        try go_wp2
                                        have n0_ := Aside0.mk (Kd.V_drew HO_0.out)
                                        have n1_ := Aside0.mk (Kd.N_drew HO_3.out)
                                        have n2_ := Aside0.mk (blk_drew BK189.out)
                                        have n3_ := Aside0.mk (below_drew1 HB.out)
                                        clear HO_0
                                        clear HO_3
                                        clear BK189
                                        clear HB
                                        have HO_0 := n0_
                                        have HO_3 := n1_
                                        have BK189 := n2_
                                        have HB := n3_
                                        clear n0_ n1_ n2_ n3_
                                        have p203 : 0 ≤ (x4_1 : Int) := of_decide_eq_true (by first | (with_reducible assumption) | assumption)
                                        have q203 : x4_1 < (l0.length : Int) := of_decide_eq_true (by first | (with_reducible assumption) | assumption)
                                        obtain ⟨ad203, A203_0, c203_0, e203, hx203_0, hx203_1, hl203_0, hi203_0⟩ := at_T36 (Kd.V_reads' HO_0.out).2.2 x4_1 p203 q203
                                        obtain rfl : ad185 = ad203 := (by injection e203)
                                        obtain ⟨ce203, hce203, hMe203, hcc203⟩ := Kd.V_get HO_0.out z36 x4_1 p203 (by first | exact q203 | exact of_decide_eq_true (by first | (with_reducible assumption) | assumption) | (have e_ := (Kd.V_reads' HO_0.out).1; omega))
                                        obtain ⟨ua203_0, uc203_0, rfl, ul203_0, ge203_0⟩ := k36_openF hMe203
                                        have hv203_0 := hcc203 0 _ rfl
                                        rw [Nat.add_zero] at hv203_0
                                        replace hv203_0 := Option.some.inj (hv203_0.symm.trans hx203_0)
                                        injection hv203_0 with hva_ hvn_ hvc_
                                        rw [hva_] at ge203_0
                                        rw [hvc_] at ul203_0
                                        have HL203_0 := Aside0.mk (show Kd.V k41 41 _ w.heap.size _ _ ((rd_T36 l0 x4_1).f0) from Kd.V_mk ul203_0 ge203_0)
                                        clear hva_ hvn_ hvc_ ge203_0 ul203_0
                                        clear hcc203 hce203
                                        have HR203_0 := Aside0.mk hi203_0
                                        have HC203_0 := Aside0.mk hl203_0
                                        clear hi203_0 hl203_0
                                        replace p203 := eq_true p203
                                        replace q203 := eq_true q203
                                        have p55 : 0 ≤ (x5_2 : Int) := of_decide_eq_true (by first | (with_reducible assumption) | assumption)
                                        have q55 : (x5_2 : Int) < ((x3_4.length : Int) : Int) := of_decide_eq_true (by first | (with_reducible assumption) | assumption)
                                        obtain ⟨go55, co55, eo55, gb55, gl55, cl55, HG55⟩ := Kd.N_form HO_3.out (by omega)
                                        (first | cases eo55 | (injection eo55 with ea_ en_ ec_; (first | subst ea_ | (injection ea_ with ea_; subst ea_)); subst ec_; clear en_))
                                        have GB55 := Aside0.mk gb55
                                        have GG55 := Aside0.mk HG55
                                        clear gb55 gl55 HG55
                                        obtain ⟨ce55, hcl55, hM55, hcc55, hfr55⟩ := Kd.N_elem HO_3.out z82 (x5_2 : Int) p55 q55
                                        obtain ⟨ua55_0, uc55_0, rfl, ul55_0, ge55_0⟩ := k82_openF hM55
                                        have hx55_0 : World.cell? _ ⟨go55, (x5_2 : Int).toNat * 4, none⟩ = some (.slice ua55_0 ((rd_T82 x3_4 x5_2).f0).length uc55_0) := hcc55 0 _ rfl
                                        have hx55_1 : World.cell? _ ⟨go55, (x5_2 : Int).toNat * 4 + 1, none⟩ = some (.int .u64 ((rd_T82 x3_4 x5_2).f1.f0)) := hcc55 1 _ rfl
                                        have hx55_2 : World.cell? _ ⟨go55, (x5_2 : Int).toNat * 4 + 2, none⟩ = some (.int .u64 ((rd_T82 x3_4 x5_2).f1.f1)) := hcc55 2 _ rfl
                                        have hx55_3 : World.cell? _ ⟨go55, (x5_2 : Int).toNat * 4 + 3, none⟩ = some (.int .u64 ((rd_T82 x3_4 x5_2).f1.f2)) := hcc55 3 _ rfl
                                        have hf55_0 : World.frozen? _ ⟨go55, (x5_2 : Int).toNat * 4, none⟩ = false := hfr55 0
                                        have hf55_1 : World.frozen? _ ⟨go55, (x5_2 : Int).toNat * 4 + 1, none⟩ = false := hfr55 1
                                        have hf55_2 : World.frozen? _ ⟨go55, (x5_2 : Int).toNat * 4 + 2, none⟩ = false := hfr55 2
                                        have hf55_3 : World.frozen? _ ⟨go55, (x5_2 : Int).toNat * 4 + 3, none⟩ = false := hfr55 3
                                        clear hcl55 hcc55 hfr55 hM55
                                        replace p55 := eq_true p55
                                        replace q55 := eq_true q55
                                        have HX57 := Aside0.mk (show Kd.N k82 82 _ w.heap.size (fun k_ => (P0_ k_ ∨ w.heap.size ≤ k_) ∧ k_ ≠ gb189) (.slice (some ⟨go55, 0, none⟩) x3_4.length co41) x3_4 from (Kd.N_mono (HO_3.out) (fun k_ hk => ⟨hk.1, hk.2⟩)))
                                        obtain ⟨ce57, hcl57, hM57, hcc57, hfr57⟩ := Kd.N_elem HX57.out z82 (x5_2 : Int) (of_decide_eq_true (by first | (with_reducible assumption) | assumption)) (by have h_ : (x5_2 : Int) < ((x3_4.length : Int) : Int) := of_decide_eq_true (by first | (with_reducible assumption) | assumption); first | exact h_ | (have e_ := (Kd.N_reads' HO_3.out).1; omega) | simpa using h_)
                                        obtain ⟨ua57_0, uc57_0, rfl, ul57_0, ge57_0⟩ := k82_openF hM57
                                        have HP57 := (Kd.N_seg HX57.out (x5_2 : Int) (of_decide_eq_true (by first | (with_reducible assumption) | assumption)) (by have h_ : (x5_2 : Int) < ((x3_4.length : Int) : Int) := of_decide_eq_true (by first | (with_reducible assumption) | assumption); first | exact h_ | (have e_ := (Kd.N_reads' HO_3.out).1; omega) | simpa using h_) (seg := [.slice A203_0 ((rd_T36 l0 x4_1).f0).length c203_0, .int .u64 t186, .int .u64 t187, .int .u64 t188]) (j := 0) hcl57 hcc57 (show 4 ≤ 4 from by decide) (x' := (⟨(rd_T36 l0 x4_1).f0, (⟨t186, t187, t188⟩ : S80)⟩ : S82)) (k82_mkF _ _ (⟨(rd_T36 l0 x4_1).f0, (⟨t186, t187, t188⟩ : S80)⟩ : S82) (Kd.V_reads' (Kd.V_mono (ok' := (fun k_ => ((fun k_ => (P0_ k_ ∨ w.heap.size ≤ k_) ∧ k_ ≠ gb189)) k_ ∧ k_ ≠ go55)) (HL203_0.out) (fun k_ hk => ⟨⟨hk.1, hk.2.2⟩, fun e_ => (hk.2.1) (by rw [e_]; rfl)⟩))).2.1 (Kd.V_F (Kd.V_mono (ok' := (fun k_ => ((fun k_ => (P0_ k_ ∨ w.heap.size ≤ k_) ∧ k_ ≠ gb189)) k_ ∧ k_ ≠ go55)) (HL203_0.out) (fun k_ hk => ⟨⟨hk.1, hk.2.2⟩, fun e_ => (hk.2.1) (by rw [e_]; rfl)⟩)))) (fun _ hk => hk)).1
                                        rw [← Ny204.out] at HP57
                                        have HQ57 := Aside0.mk HP57
                                        clear hcl57 hcc57 hfr57 hM57 HP57
                                        refine start_ (n := 11) (S := fun w' => w'.cell? ⟨gb189, 0, none⟩ = some (.int .u64 t186) ∧ w'.cell? ⟨gb189, 1, none⟩ = some (.int .u64 t187) ∧ w'.cell? ⟨gb189, 2, none⟩ = some (.int .u64 t188) ∧ w'.cell? (ad185.add ((x4_1).toNat * 2)) = some (.slice A203_0 ((rd_T36 l0 x4_1).f0).length c203_0) ∧ w'.cell? ⟨(ad185.add ((x4_1).toNat * 2)).block, (ad185.add ((x4_1).toNat * 2)).off + 1, none⟩ = some (.int .i64 ((rd_T36 l0 x4_1).f1))) (ds := [10]) #[false, false, false, false, false, false, false, false, false, false, false] (by kernel_rfl) rfl rfl ⟨(blk_cell BK189.out 0).trans rfl, (blk_cell BK189.out 1).trans rfl, (blk_cell BK189.out 2).trans rfl, hx203_0, hx203_1⟩ (fun hHeld => ?_); refine with_tabW belvedereref1_gather.tab20 belvedereref1_gather.bits20 (fun HT_ HW_ => ?_)
                                        generalize wr.drew = w56 at HO_0 HO_3 BK189 HB GG55 HL203_0 HQ57 HR203_0 hf55_0 hf55_1 hf55_2 hf55_3 hx203_0 hx203_1 hx55_0 hx55_1 hx55_2 hx55_3 hHeld ⊢
                                        refine pure_ (i := 0) (N := some 95) (v := ?_) (a' := ?_) #[true, false, false, false, false, false, false, false, false, false, false] rfl rfl (any_of HT_.out (by kernel_rfl)) (fun _ _ _ h => h) (Or.inl ⟨by rfl, ?_⟩) ?_ ?_
                                        rotate_left
                                        · intro w'
                                          go_simp
                                          with_reducible rfl
                                        rotate_left
                                        · simp only [Act.put, List.setIfInBounds_toArray, List.set_cons_zero, List.set_cons_succ, i64_w, i32_w]
                                          rfl
                                        refine pure_ (i := 1) (N := some 96) (v := ?_) (a' := ?_) #[true, true, false, false, false, false, false, false, false, false, false] rfl rfl (any_of HT_.out (by kernel_rfl)) (fun _ _ _ h => h) (Or.inl ⟨by rfl, ?_⟩) ?_ ?_
                                        rotate_left
                                        · intro w'
                                          go_simp
                                          with_reducible rfl
                                        rotate_left
                                        · simp only [Act.put, List.setIfInBounds_toArray, List.set_cons_zero, List.set_cons_succ, i64_w, i32_w]
                                          rfl
                                        refine pure_ (i := 2) (N := some 97) (v := ?_) (a' := ?_) #[true, true, true, false, false, false, false, false, false, false, false] rfl rfl (any_of HT_.out (by kernel_rfl)) (fun _ _ _ h => h) (Or.inl ⟨by rfl, ?_⟩) ?_ ?_
                                        rotate_left
                                        · intro w'
                                          go_simp
                                          with_reducible rfl
                                        rotate_left
                                        · simp only [Act.put, List.setIfInBounds_toArray, List.set_cons_zero, List.set_cons_succ, i64_w, i32_w]
                                          rfl
                                        refine pure_ (i := 3) (N := some 98) (v := ?_) (a' := ?_) #[true, true, true, true, false, false, false, false, false, false, false] rfl rfl (any_of HT_.out (by kernel_rfl)) (fun _ _ _ h => h) (Or.inl ⟨by rfl, ?_⟩) ?_ ?_
                                        rotate_left
                                        · intro w'
                                          go_simp
                                          with_reducible rfl
                                        rotate_left
                                        · simp only [Act.put, List.setIfInBounds_toArray, List.set_cons_zero, List.set_cons_succ, i64_w, i32_w]
                                          rfl
                                        refine pure_ (i := 4) (N := some 99) (v := ?_) (a' := ?_) #[true, true, true, true, true, false, false, false, false, false, false] rfl rfl (any_of HT_.out (by kernel_rfl)) (fun _ _ _ h => h) (Or.inl ⟨by rfl, ?_⟩) ?_ ?_
                                        rotate_left
                                        · intro w'
                                          go_simp
                                          with_reducible rfl
                                        rotate_left
                                        · simp only [Act.put, List.setIfInBounds_toArray, List.set_cons_zero, List.set_cons_succ, i64_w, i32_w]
                                          rfl
                                        refine pure_ (i := 5) (N := some 100) (v := ?_) (a' := ?_) #[true, true, true, true, true, true, false, false, false, false, false] rfl rfl (any_of HT_.out (by kernel_rfl)) (fun _ _ _ h => h) (Or.inl ⟨by rfl, ?_⟩) ?_ ?_
                                        rotate_left
                                        · intro w'
                                          go_simp
                                          with_reducible rfl
                                        rotate_left
                                        · simp only [Act.put, List.setIfInBounds_toArray, List.set_cons_zero, List.set_cons_succ, i64_w, i32_w]
                                          rfl
                                        refine take_ (i := 6) (N := some 101) (v := ?_) (a' := ?_) #[true, true, true, true, true, true, true, false, false, false, false] rfl rfl (take_ofW HT_.out HW_.out (by kernel_rfl)) (fun _ _ _ h => h) (Or.inl ⟨by rfl, ?_⟩) hHeld ?_ ?_
                                        rotate_left
                                        · rintro w' ⟨s0, s1, s2, s3, s4⟩
                                          go_simp
                                          with_reducible rfl
                                        rotate_left
                                        · simp only [Act.put, List.setIfInBounds_toArray, List.set_cons_zero, List.set_cons_succ, i64_w, i32_w]
                                          rfl
                                        refine take_ (i := 7) (N := some 102) (v := ?_) (a' := ?_) #[true, true, true, true, true, true, true, true, false, false, false] rfl rfl (take_ofW HT_.out HW_.out (by kernel_rfl)) (fun _ _ _ h => h) (Or.inl ⟨by rfl, ?_⟩) hHeld ?_ ?_
                                        rotate_left
                                        · rintro w' ⟨s0, s1, s2, s3, s4⟩
                                          go_simp
                                          with_reducible rfl
                                        rotate_left
                                        · simp only [Act.put, List.setIfInBounds_toArray, List.set_cons_zero, List.set_cons_succ, i64_w, i32_w]
                                          rfl
                                        refine pure_ (i := 8) (N := some 103) (v := ?_) (a' := ?_) #[true, true, true, true, true, true, true, true, true, false, false] rfl rfl (any_of HT_.out (by kernel_rfl)) (fun _ _ _ h => h) (Or.inl ⟨by rfl, ?_⟩) ?_ ?_
                                        rotate_left
                                        · intro w'
                                          go_simp
                                          with_reducible rfl
                                        rotate_left
                                        · simp only [Act.put, List.setIfInBounds_toArray, List.set_cons_zero, List.set_cons_succ, i64_w, i32_w]
                                          rfl
                                        refine pure_ (i := 9) (N := some 104) (v := ?_) (a' := ?_) #[true, true, true, true, true, true, true, true, true, true, false] rfl rfl (any_of HT_.out (by kernel_rfl)) (fun _ _ _ h => h) (Or.inl ⟨by rfl, ?_⟩) ?_ ?_
                                        rotate_left
                                        · intro w'
                                          go_simp
                                          with_reducible rfl
                                        rotate_left
                                        · simp only [Act.put, List.setIfInBounds_toArray, List.set_cons_zero, List.set_cons_succ, i64_w, i32_w]
                                          rfl
                                        refine last_ (i := 10) (N := none) #[true, true, true, true, true, true, true, true, true, true, true] rfl rfl (one_of HT_.out (by kernel_rfl)) (by decide) (fun K hK => ?_)
                                        refine skip_ (w1 := ?_) (by rfl) rfl ?_ ?_
                                        rotate_left
                                        · go_simp
                                          rfl
                                        refine hK.out _ _ ?_
                                        clear hK K
                                        refine done_ (done_of HT_.out (by kernel_rfl)) ?_
                                        try go_wp2
                                        (try simp only [← hl3_4])
                                        go_roundg k4
                                        case measure => have := HK1.out; have := HK2.out; have := HJ18.out; have := HK4.out; omega
                                        case rel => exact ⟨(y204), (wrap64 (x4_1 + 1)), (by first | rfl | (simp; done) | (simp [*]; done)), H', ⟨by have := HK1.out; have := HK2.out; have := HJ18.out; have := HK4.out; omega⟩, ⟨by (try simp only [hl3_4]); (with_reducible repeat (first | apply Kd.V_alloc | apply Kd.V_drewN | apply Kd.V_drew)); exact Kd.V_mono (Kd.V_far (p := ⟨go55, (x5_2 : Int).toNat * 4 + 3, none⟩) (Kd.V_far (p := ⟨go55, (x5_2 : Int).toNat * 4 + 2, none⟩) (Kd.V_far (p := ⟨go55, (x5_2 : Int).toNat * 4 + 1, none⟩) (Kd.V_far (p := ⟨go55, (x5_2 : Int).toNat * 4, none⟩) (Kd.V_mono HO_0.out (fun k_ hk => (⟨hk, fun e_ => hk.2.1 (by rw [e_]; rfl)⟩ : _ ∧ k_ ≠ go55))) (fun _ hk => hk.2) (.slice A203_0 ((rd_T36 l0 x4_1).f0).length c203_0)) (fun _ hk => hk.2) (.int .u64 t186)) (fun _ hk => hk.2) (.int .u64 t187)) (fun _ hk => hk.2) (.int .u64 t188)) (fun _ hk => ⟨hk.1.1, hk.1.2.1⟩)⟩, ⟨by (try simp only [hl3_4]); (with_reducible repeat (first | apply Kd.N_alloc | apply Kd.N_drewN | apply Kd.N_drew)); exact Kd.N_mono HQ57.out (fun _ hk => hk.1)⟩, ⟨by repeat (first | (with_reducible first | exact HB.out | apply below_alloc | apply pw_below_drewN | apply below_drew1 | refine below_set ?_ GB55.out | refine below_set ?_ GB55.out | refine below_set ?_ GB55.out | refine below_set ?_ GB55.out | refine below_set ?_ GE189.out) | exact HB.out)⟩⟩
                                      · rw [if_neg c54] at H
                                        exact absurd H (by simp)
                                    · rw [if_neg c53] at H
                                      exact absurd H (by simp)
                                  · rw [if_neg c52] at H
                                    exact absurd H (by simp)
                                · rw [if_neg c51] at H
                                  exact absurd H (by simp)
                        · rw [if_neg c39] at H
                          exact absurd H (by simp)
                · rw [if_neg c17] at H
                  exact absurd H (by simp)
              · rw [if_neg c16] at H
                exact absurd H (by simp)
      · rw [if_neg c2] at H
        have c2b0 : decide (x4_1 < (l0.length : Int)) = false := decide_eq_false c2
        clear c2
        obtain rfl := Option.some.inj H
        go_wp2
        go_ret
        exact ⟨_, by first | rfl | (simp [errW_none, errW_some] <;> rfl) | (simp [*, errW_none, errW_some] <;> rfl), by (with_reducible repeat (first | apply Kd.N_alloc | apply Kd.N_drewN | apply Kd.N_drew)); exact HO_3.out, by repeat (first | (with_reducible first | exact HB.out | apply below_alloc | apply pw_below_drewN | apply below_drew1) | exact HB.out)⟩
end Go.Proofs.Ythegdcodjhbonaa.PA
