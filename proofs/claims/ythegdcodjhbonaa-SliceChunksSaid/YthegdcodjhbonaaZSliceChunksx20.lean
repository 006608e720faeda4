/- What the Go functions behind the law come to: for each a Lean function with the same answers and a proof that the call returns them; laid by a program of this session. -/
import Derived.Test.YthegdcodjhbonaaZSliceChunksx13
import Derived.Test.YthegdcodjhbonaaZSliceChunksx14
import Derived.Test.YthegdcodjhbonaaZSliceChunksx19
namespace Go.Proofs.Ythegdcodjhbonaa.PA
open Go.RowKit Go.Proofs.YthegdcodjhbonaaW.PrintWords Go.Proofs.YthegdcodjhbonaaW.PrintLast Go.Proofs.YthegdcodjhbonaaW.PrintMore
set_option linter.unusedVariables false
set_option linter.unusedSimpArgs false
set_option maxHeartbeats 8000000 in
set_option maxRecDepth 100000 in
theorem slice_below.cl (k : Nat) (ad : Addr) (i : Int) (A1 : Option Addr) (c1 : Nat) (l1 : List S41) (a2 : Bool) (n0 c0 : Nat) (Ar : Option Addr) (cr : Nat) (lr : List S41) (c : Int) (g3 g4 g5 : Nat) (w : World)
    (h3 : w.cell? ⟨g3, 0, none⟩ = some (.slice (some ad) n0 c0)) (h4 : w.cell? ⟨g4, 0, none⟩ = some (.slice A1 l1.length c1)) (h5 : w.cell? ⟨g5, 0, none⟩ = some (.bool a2))
    (hi : 0 ≤ i) (hn : i < n0) (hc : w.cell? (ad.add (i.toNat * 2)) = some (.slice Ar lr.length cr)) (hlr : lr.length ≤ cr) (hr : Kd.C k41 w Ar lr.length lr)
    (hr1 : Kd.C k41 w A1 l1.length l1) (hc1 : l1.length ≤ c1)
    (hv : row_Compare.f k lr l1 = some c) (b : Bool) (hb : b = (decide (c > 0) || (decide (c = 0) && !a2))) :
    Calls Try.prog 56 #[.int .i64 i, .pointer (some ⟨g3, 0, none⟩), .pointer (some ⟨g4, 0, none⟩), .pointer (some ⟨g5, 0, none⟩)] w fun e w' => e = .returned (.bool b) ∧ Below w.heap.size w w' := by
  have HV := Aside0.mk hv
  have HR := Aside0.mk hr
  have HLR := Aside0.mk hlr
  have HR1 := Aside0.mk hr1
  have HC1 := Aside0.mk hc1
  have HBB := Aside0.mk hb
  clear hv hr hlr hr1 hc1 hb
  have hi' := eq_true hi
  have hn' := eq_true hn
  by_cases c1' : 0 < c
  · have k1 : decide (0 < c) = true := decide_eq_true c1'
    have hb0 : b = true := by rw [HBB.out, decide_eq_true (show c > 0 from c1')]; rfl
    subst hb0
    clear c1'
    go_enter Try.func56, Try.ntmps56
    go_wp2
    go_region_with (go_at_call 57; refine (row_Compare.calls k _ _ lr _ _ l1 _ _ ?side1 HLR.out ?side2 HC1.out HV.out).mono ?_; (case side1 => repeat (first | exact HR.out | (with_reducible refine Kd.C_alloc ?_ _) | (with_reducible refine Kd.C_drewN ?_ _) | (with_reducible refine Kd.C_drew ?_))); (case side2 => repeat (first | exact HR1.out | (with_reducible refine Kd.C_alloc ?_ _) | (with_reducible refine Kd.C_drewN ?_ _) | (with_reducible refine Kd.C_drew ?_))); rintro e w1 ⟨rfl, hb1⟩)
    all_goals
      have e5 := (hb1.cell (World.block_lt_of_cell? _ _ (show w.drew.cell? ⟨g5, 0, none⟩ = _ from h5))).trans h5
      have HB1 := Aside0.mk hb1
      clear hb1 h3 h4 h5 hc
      go_wp2
      go_ret
      exact ⟨by first | rfl | simp, below_step (below_drew (Below.refl _ _)) HB1.out⟩
  · have k1 : decide (0 < c) = false := decide_eq_false c1'
    by_cases c2' : c = 0
    · subst c2'
      have hb0 : b = !a2 := by rw [HBB.out]; simp
      clear HBB
      subst hb0
      clear c1' k1
      go_enter Try.func56, Try.ntmps56
      go_wp2
      go_region_with (go_at_call 57; refine (row_Compare.calls k _ _ lr _ _ l1 _ _ ?side1 HLR.out ?side2 HC1.out HV.out).mono ?_; (case side1 => repeat (first | exact HR.out | (with_reducible refine Kd.C_alloc ?_ _) | (with_reducible refine Kd.C_drewN ?_ _) | (with_reducible refine Kd.C_drew ?_))); (case side2 => repeat (first | exact HR1.out | (with_reducible refine Kd.C_alloc ?_ _) | (with_reducible refine Kd.C_drewN ?_ _) | (with_reducible refine Kd.C_drew ?_))); rintro e w1 ⟨rfl, hb1⟩)
      all_goals
        have e5 := (hb1.cell (World.block_lt_of_cell? _ _ (show w.drew.cell? ⟨g5, 0, none⟩ = _ from h5))).trans h5
        have HB1 := Aside0.mk hb1
        clear hb1 h3 h4 h5 hc
        go_wp2
        go_ret
        exact ⟨by first | rfl | simp, below_step (below_drew (Below.refl _ _)) HB1.out⟩
    · have k2 : (c == 0) = false := beq_eq_false_iff_ne.mpr c2'
      have hb0 : b = false := by rw [HBB.out]; simp [c2']; omega
      subst hb0
      clear c1' c2'
      go_enter Try.func56, Try.ntmps56
      go_wp2
      go_region_with (go_at_call 57; refine (row_Compare.calls k _ _ lr _ _ l1 _ _ ?side1 HLR.out ?side2 HC1.out HV.out).mono ?_; (case side1 => repeat (first | exact HR.out | (with_reducible refine Kd.C_alloc ?_ _) | (with_reducible refine Kd.C_drewN ?_ _) | (with_reducible refine Kd.C_drew ?_))); (case side2 => repeat (first | exact HR1.out | (with_reducible refine Kd.C_alloc ?_ _) | (with_reducible refine Kd.C_drewN ?_ _) | (with_reducible refine Kd.C_drew ?_))); rintro e w1 ⟨rfl, hb1⟩)
      all_goals
        have e5 := (hb1.cell (World.block_lt_of_cell? _ _ (show w.drew.cell? ⟨g5, 0, none⟩ = _ from h5))).trans h5
        have HB1 := Aside0.mk hb1
        clear hb1 h3 h4 h5 hc
        go_wp2
        go_ret
        exact ⟨by first | rfl | simp, below_step (below_drew (Below.refl _ _)) HB1.out⟩
def slice_below.p (k : Nat) (l0 : List S36) (l1 : List S41) (a2 : Bool) (i : Int) : Option Bool := (row_Compare.f k (rd_T36 l0 i).f0 l1).bind fun c => some (decide (c > 0) || (decide (c = 0) && !a2))
def slice_below.l0 : Nat → List S36 → List S41 → Bool → Int → Int → Option Int
  | 0, _, _, _, _, _ => none
  | k + 1, l0, l1, a2, i, j => if i < j then (slice_below.p k l0 l1 a2 ((i + j) / 2)).bind fun b => if b = true then slice_below.l0 k l0 l1 a2 i ((i + j) / 2) else slice_below.l0 k l0 l1 a2 ((i + j) / 2 + 1) j else some i
def slice_below.f (k : Nat) (l0 : List S36) (l1 : List S41) (a2 : Bool) : Option Int := if (l0.length : Int) < 4611686018427387904 then slice_below.l0 k l0 l1 a2 0 (l0.length : Int) else none
set_option maxHeartbeats 8000000 in
set_option maxRecDepth 100000 in
theorem slice_below.search (k : Nat) (A0 : Option Addr) (c0 : Nat) (l0 : List S36) (A1 : Option Addr) (c1 : Nat) (l1 : List S41) (a2 : Bool) (r : Int) (g3 g4 g5 : Nat) (w : World)
    (h3 : w.cell? ⟨g3, 0, none⟩ = some (.slice A0 l0.length c0)) (h4 : w.cell? ⟨g4, 0, none⟩ = some (.slice A1 l1.length c1)) (h5 : w.cell? ⟨g5, 0, none⟩ = some (.bool a2))
    (hr0 : Kd.C k36 w A0 l0.length l0) (hr1 : Kd.C k41 w A1 l1.length l1) (hc1 : l1.length ≤ c1) (hm : (l0.length : Int) < 4611686018427387904)
    (h : slice_below.l0 k l0 l1 a2 0 (l0.length : Int) = some r) :
    Calls Try.prog 55 #[.int .i64 (l0.length : Int), .func (.func 56) #[] #[.pointer (some ⟨g3, 0, none⟩), .pointer (some ⟨g4, 0, none⟩), .pointer (some ⟨g5, 0, none⟩)]] w fun e w' => e = .returned (.int .i64 r) ∧ Below w.heap.size w w' := by
  have HR0 := Aside0.mk hr0
  have HR1 := Aside0.mk hr1
  have HC1 := Aside0.mk hc1
  have H3 := Aside0.mk h3
  have H4 := Aside0.mk h4
  have H5 := Aside0.mk h5
  have HB := Aside0.mk (Below.refl w.heap.size w)
  have H' := Aside0.mk h
  clear hr0 hr1 hc1 h3 h4 h5 h
  go_enter Try.func55, Try.ntmps55
  go_wp2
  go_loopg [5, 6] k (fun kq v5 v6 w' => ∃ (i j : Int), v5 = .int .i64 i ∧ v6 = .int .i64 j ∧ 0 ≤ i ∧ i ≤ j ∧ j ≤ (l0.length : Int) ∧ Aside0 (slice_below.l0 kq l0 l1 a2 i j = some r) ∧ Aside0 (kq ≤ k) ∧ Aside0 (Below w.heap.size w w'))
  case atStart => exact ⟨0, (l0.length : Int), rfl, rfl, Int.le_refl _, by omega, Int.le_refl _, H', ⟨Nat.le_refl _⟩, HB⟩
  case round =>
    clear H' HB
    obtain ⟨i, j, rfl, rfl, h0, hij, hj, HA, HK, HB⟩ := hrel
    cases gk with
    | zero => exact absurd HA.out (by simp [slice_below.l0])
    | succ k1 =>
      have H := HA.out
      clear HA
      simp only [slice_below.l0] at H
      by_cases c3 : i < j
      · rw [if_pos c3] at H
        have c3b0 : decide (i < j) = true := decide_eq_true c3
        obtain ⟨b, hp, H⟩ := Option.bind_eq_some_iff.mp H
        have hh0 : 0 ≤ (i + j) / 2 := by omega
        have hh1 : (i + j) / 2 < (l0.length : Int) := by omega
        obtain ⟨ad, Ar, cr, hA, hx0, hx1, hlr, hkr⟩ := at_T36 HR0.out ((i + j) / 2) hh0 hh1
        subst hA
        obtain ⟨c, hcv, hb⟩ := Option.bind_eq_some_iff.mp hp
        replace hb : b = (decide (c > 0) || (decide (c = 0) && !a2)) := by injection hb with hb; exact hb.symm
        clear hp hx1
        have e1 : wrap64 (i + j) = i + j := by unfold wrap64; omega
        have e2 : IntKind.u64.wrap (i + j) = i + j := by simp [IntKind.wrap, IntKind.bits, IntKind.signed]; omega
        have HCV := Aside0.mk hcv
        have HBQ := Aside0.mk hb
        have HX0 := Aside0.mk hx0
        have HLR := Aside0.mk hlr
        have HKR := Aside0.mk hkr
        clear hcv hb hx0 hlr hkr
        cases b with
        | true =>
          have H1 : slice_below.l0 k1 l0 l1 a2 i ((i + j) / 2) = some r := by rw [if_pos rfl] at H; exact H
          have H2 := Aside0.mk H1
          clear H H1
          go_wp2_with (go_at_call 56; refine (slice_below.cl k1 ad ((i + j) / 2) A1 c1 l1 a2 l0.length c0 Ar cr (rd_T36 l0 ((i + j) / 2)).f0 c g3 g4 g5 _ ?b3 ?b4 ?b5 hh0 hh1 ?bc HLR.out ?br ?br1 HC1.out HCV.out _ HBQ.out).mono ?_; (case b3 => exact (HB.out.cell (World.block_lt_of_cell? _ _ H3.out)).trans H3.out); (case b4 => exact (HB.out.cell (World.block_lt_of_cell? _ _ H4.out)).trans H4.out); (case b5 => exact (HB.out.cell (World.block_lt_of_cell? _ _ H5.out)).trans H5.out); (case bc => exact (HB.out.cell (World.block_lt_of_cell? _ _ HX0.out)).trans HX0.out); (case br => exact Kd.C_below HKR.out HB.out); (case br1 => exact Kd.C_below HR1.out HB.out); rintro e w1 ⟨rfl, hb1⟩; have n0_ := Aside0.mk (below_step HB.out hb1); clear HB hb1; have HB := n0_; clear n0_)
          go_roundg k1
          case measure => have := HK.out; omega
          case rel => exact ⟨i, (i + j) / 2, rfl, rfl, h0, by omega, by omega, H2, ⟨by have := HK.out; omega⟩, HB⟩
        | false =>
          have H1 : slice_below.l0 k1 l0 l1 a2 ((i + j) / 2 + 1) j = some r := by rw [if_neg (by simp)] at H; exact H
          have H2 := Aside0.mk H1
          clear H H1
          go_wp2_with (go_at_call 56; refine (slice_below.cl k1 ad ((i + j) / 2) A1 c1 l1 a2 l0.length c0 Ar cr (rd_T36 l0 ((i + j) / 2)).f0 c g3 g4 g5 _ ?b3 ?b4 ?b5 hh0 hh1 ?bc HLR.out ?br ?br1 HC1.out HCV.out _ HBQ.out).mono ?_; (case b3 => exact (HB.out.cell (World.block_lt_of_cell? _ _ H3.out)).trans H3.out); (case b4 => exact (HB.out.cell (World.block_lt_of_cell? _ _ H4.out)).trans H4.out); (case b5 => exact (HB.out.cell (World.block_lt_of_cell? _ _ H5.out)).trans H5.out); (case bc => exact (HB.out.cell (World.block_lt_of_cell? _ _ HX0.out)).trans HX0.out); (case br => exact Kd.C_below HKR.out HB.out); (case br1 => exact Kd.C_below HR1.out HB.out); rintro e w1 ⟨rfl, hb1⟩; have n0_ := Aside0.mk (below_step HB.out hb1); clear HB hb1; have HB := n0_; clear n0_)
          go_roundg k1
          case measure => have := HK.out; omega
          case rel => exact ⟨(i + j) / 2 + 1, j, by first | rfl | (simp; done) | (simp [*]; done), rfl, by omega, by omega, hj, H2, ⟨by have := HK.out; omega⟩, HB⟩
      · rw [if_neg c3] at H
        have c3b0 : decide (i < j) = false := decide_eq_false c3
        obtain rfl := Option.some.inj H
        go_wp2
        go_ret
        exact ⟨rfl, HB.out⟩
set_option maxHeartbeats 8000000 in
set_option maxRecDepth 100000 in
theorem slice_below.calls (k : Nat) (A0 : Option Addr) (c0 : Nat) (l0 : List S36) (A1 : Option Addr) (c1 : Nat) (l1 : List S41) (a2 : Bool) (r : Int) (w : World) (hr0 : Kd.C k36 w A0 l0.length l0) (hc0 : l0.length ≤ c0) (hr1 : Kd.C k41 w A1 l1.length l1) (hc1 : l1.length ≤ c1) (h : slice_below.f k l0 l1 a2 = some r) :
    Calls Try.prog 48 #[.slice A0 l0.length c0, .slice A1 l1.length c1, .bool a2] w fun e w' => e = .returned (.int .i64 r) ∧ Below w.heap.size w w' := by
  unfold slice_below.f at h
  by_cases hm : (l0.length : Int) < 4611686018427387904
  · rw [if_pos hm] at h
    have HR0 := Aside0.mk hr0
    have HR1 := Aside0.mk hr1
    have HC1 := Aside0.mk hc1
    have H := Aside0.mk h
    clear hr0 hr1 hc0 hc1 h
    go_enter Try.func48, Try.ntmps48
    go_wp2_with (go_at_call 55; refine (slice_below.search k A0 c0 l0 A1 c1 l1 a2 r _ _ _ _ ?b3 ?b4 ?b5 ?br0 ?br1 HC1.out hm H.out).mono ?_; (case b3 => go_simp); (case b4 => go_simp); (case b5 => go_simp); (case br0 => repeat (first | exact HR0.out | (with_reducible refine Kd.C_alloc ?_ _) | (with_reducible refine Kd.C_drewN ?_ _) | (with_reducible refine Kd.C_drew ?_))); (case br1 => repeat (first | exact HR1.out | (with_reducible refine Kd.C_alloc ?_ _) | (with_reducible refine Kd.C_drewN ?_ _) | (with_reducible refine Kd.C_drew ?_))); rintro e w1 ⟨rfl, hb1⟩; have HB := Aside0.mk hb1; clear hb1)
    go_ret
    exact ⟨rfl, below_step (by repeat (first | exact Below.refl _ _ | apply below_alloc)) HB.out⟩
  · rw [if_neg hm] at h
    exact absurd h (by simp)
def slice_upto.f (k : Nat) (l0 : List (S36)) (l1 : List (S41)) (a2 : Bool) : Option (Int) := if a2 = true then ((slice_below.f k l0 l1 true).bind fun t303 => (some t303)) else (some 0)
set_option maxHeartbeats 8000000 in
set_option maxRecDepth 100000 in
theorem slice_upto.calls (k : Nat) (A0 : Option Addr) (c0 : Nat) (l0 : List (S36)) (A1 : Option Addr) (c1 : Nat) (l1 : List (S41)) (a2 : Bool) (r : Int) (w : World) (hr0 : Kd.C k36 w A0 l0.length l0) (hc0 : l0.length ≤ c0) (hr1 : Kd.C k41 w A1 l1.length l1) (hc1 : l1.length ≤ c1) (h : slice_upto.f k l0 l1 a2 = some r) :
    Calls Try.prog 44 #[.slice A0 l0.length c0, .slice A1 l1.length c1, .bool a2] w fun e w' => e = .returned (.int .i64 r) ∧ Below w.heap.size w w' := by
  have HR0 := Aside0.mk hr0
  have HC0 := Aside0.mk hc0
  clear hr0 hc0
  have HR1 := Aside0.mk hr1
  have HC1 := Aside0.mk hc1
  clear hr1 hc1
  have HB := Aside0.mk (Below.refl w.heap.size w)
  have H : (if a2 = true then ((slice_below.f k l0 l1 true).bind fun t303 => (some t303)) else (some 0)) = some r := h
  clear h
  by_cases c4 : a2 = true
  · subst c4
    have H1 : ((slice_below.f k l0 l1 true).bind fun t303 => (some t303)) = some r := by rw [if_pos rfl] at H; exact H
    clear H
    have H := H1
    clear H1
    replace H := Option.bind_eq_some_iff.mp H
    obtain ⟨t303, A50, H⟩ := H
    replace H : (some t303) = some r := H
    have A5 := Aside0.mk A50
    clear A50
    obtain rfl := Option.some.inj H
    go_enter Try.func44, Try.ntmps44
    go_wp2_with (first | ((with_reducible refine gate_callee (f := 48) rfl ?_); refine goesL_ (some 11) rfl rfl Try.func48 (by kernel_rfl) rfl #[.slice A0 l0.length c0, .slice A1 l1.length c1, .bool true] rfl (by (try simp only [List.map_toArray, List.map_cons, List.map_nil]); first | done | rfl | (simp only [List.length_drop, List.length_take]; rfl)) ?_; (with_reducible refine (slice_below.calls k _ _ l0 _ _ l1 true t303 _ ?side1 ?side2 ?side3 ?side4 A5.out).mono ?_); (case side1 => repeat (first | exact HR0.out | (with_reducible refine Kd.C_alloc ?_ _) | (with_reducible refine Kd.C_drewN ?_ _) | (with_reducible refine Kd.C_drew ?_))); (case side2 => exact HC0.out); (case side3 => repeat (first | exact HR1.out | (with_reducible refine Kd.C_alloc ?_ _) | (with_reducible refine Kd.C_drewN ?_ _) | (with_reducible refine Kd.C_drew ?_))); (case side4 => exact HC1.out); rintro e w6 ⟨rfl, hb⟩; refine ⟨_, rfl, ?_⟩; have n0_ := Aside0.mk (below_step (by repeat (first | (with_reducible first | exact HB.out | apply below_alloc | apply pw_below_drewN | apply below_drew1) | exact HB.out)) hb); clear HB; have HB := n0_; clear n0_; (try clear hb); (try clear hb2); (try clear hk); (try clear hi)))
    go_ret
    exact ⟨by first | rfl | (simp [errW_none, errW_some] <;> rfl) | (simp [*, errW_none, errW_some] <;> rfl), by repeat (first | (with_reducible first | exact HB.out | apply below_alloc | apply pw_below_drewN | apply below_drew1) | exact HB.out)⟩
  · replace c4 := Bool.eq_false_iff.mpr c4
    subst c4
    have H1 : (some 0) = some r := by rw [if_neg (show ¬ (false = true) by decide)] at H; exact H
    clear H
    have H := H1
    clear H1
    obtain rfl := Option.some.inj H
    go_enter Try.func44, Try.ntmps44
    go_wp2
    go_ret
    exact ⟨by first | rfl | (simp [errW_none, errW_some] <;> rfl) | (simp [*, errW_none, errW_some] <;> rfl), by repeat (first | (with_reducible first | exact HB.out | apply below_alloc | apply pw_below_drewN | apply below_drew1) | exact HB.out)⟩
def zset_Copy.l0 : Nat → List (S36) → List (S36) → Int → Int → Option ((List (S36)))
  | 0, _, _, _, _ => none
  | k + 1, x3, x6, x7, x8 => if x8 < x7 then (if 0 ≤ x8 then (if x8 < (x6.length : Int) then ((row_Copy.f ((rd_T36 x6 x8).f0)).bind fun t306 => (if x3.length < 4398046511104 then (zset_Copy.l0 k (x3 ++ [(⟨t306, (rd_T36 x6 x8).f1⟩ : S36)]) x6 x7 (wrap64 (x8 + 1))) else (none))) else (none)) else (none)) else (some x3)
def zset_Copy.f (k : Nat) (l0 : List (S36)) : Option ((List (S36))) := zset_Copy.l0 k ([] : List (S36)) l0 (l0.length : Int) 0
def zset_Copy.T5 : Bool × List (List Nat × List Nat) := (true, [([], []), ([], []), ([1], [1]), ([2], [2]), ([], []), ([4], [4]), ([3, 5], [3, 5]), ([6], [6]), ([0, 7, 3], [0, 7]), ([8, 8, 0, 1, 2, 3, 4, 5, 6, 7, 8], [0, 8])])
def zset_Copy.B5 : List Nat := [0, 0, 2, 6, 0, 16, 62, 126, 255, 511]
theorem zset_Copy.tab5 : rtab .any (opsOf Try.f45 5) = zset_Copy.T5 := by kernel_rfl
theorem zset_Copy.bits5 : waitsOk zset_Copy.T5.2 zset_Copy.B5 = true := by kernel_rfl
set_option maxHeartbeats 8000000 in
set_option maxRecDepth 100000 in
theorem zset_Copy.calls (k : Nat) (A0 : Option Addr) (c0 : Nat) (l0 : List (S36)) (r : List (S36)) (w : World) (hr0 : Kd.C k36 w A0 l0.length l0) (hc0 : l0.length ≤ c0) (h : zset_Copy.f k l0 = some r) :
    Calls Try.prog 45 #[.slice A0 l0.length c0] w fun e w' => ∃ v0_ : Value, e = .returned (v0_) ∧ Kd.S k36 36 w' w.heap.size (fun _ => True) v0_ r ∧ Below w.heap.size w w' := by
  have hu36 := Try.underlying36
  have HR0 := Aside0.mk hr0
  have HC0 := Aside0.mk hc0
  clear hr0 hc0
  have HB := Aside0.mk (Below.refl w.heap.size w)
  have H : (zset_Copy.l0 k ([] : List (S36)) l0 (l0.length : Int) 0) = some r := h
  clear h
  have H' := Aside0.mk H
  clear H
  go_enter Try.func45, Try.ntmps45
  go_wp2
  go_loopg [3, 8] k (fun kq v3 v8 w' => ∃ (x3_1 : List (S36)) (x8_1 : Int), v8 = .int .i64 x8_1 ∧ Aside0 (zset_Copy.l0 kq x3_1 l0 (l0.length : Int) x8_1 = some r) ∧ Aside0 (kq ≤ k) ∧ Aside0 (Kd.S k36 36 w' w.heap.size (fun _ => True) v3 x3_1) ∧ Aside0 (Below w.heap.size w w'))
  case atStart => exact ⟨(([] : List (S36))), (0), (by first | rfl | (simp; done) | (simp [*]; done)), H', ⟨Nat.le_refl _⟩, ⟨by first | exact Kd.S_nil _ _ _ _ _ | exact Kd.N_nil _ _ _ _ _ | exact Kd.V_nil _ _ _ _ _ | exact Kd.Q_nil _ _ _ _ _ | exact Kd.R_nil _ _ _ _ _⟩, ⟨by repeat (first | (with_reducible first | exact HB.out | apply below_alloc | apply pw_below_drewN | apply below_drew1) | exact HB.out)⟩⟩
  case round =>
    clear H'
    obtain ⟨x3_1, x8_1, rfl, HA, HK1, HO_3, HB⟩ := hrel
    cases gk with
    | zero => exact absurd HA.out (by simp [zset_Copy.l0])
    | succ k1 =>
      have H := HA.out
      clear HA
      simp only [zset_Copy.l0] at H
      by_cases c2 : x8_1 < (l0.length : Int)
      · rw [if_pos c2] at H
        have c2b0 : decide (x8_1 < (l0.length : Int)) = true := decide_eq_true c2
        clear c2
        by_cases c3 : 0 ≤ x8_1
        · rw [if_pos c3] at H
          have c3b0 : decide (0 ≤ x8_1) = true := decide_eq_true c3
          clear c3
          by_cases c4 : x8_1 < (l0.length : Int)
          · rw [if_pos c4] at H
            have c4b0 : decide (x8_1 < (l0.length : Int)) = true := decide_eq_true c4
            clear c4
            replace H := Option.bind_eq_some_iff.mp H
            obtain ⟨t306, A50, H⟩ := H
            replace H : (if x3_1.length < 4398046511104 then (zset_Copy.l0 k1 (x3_1 ++ [(⟨t306, (rd_T36 l0 x8_1).f1⟩ : S36)]) l0 (l0.length : Int) (wrap64 (x8_1 + 1))) else (none)) = some r := H
            have A5 := Aside0.mk A50
            clear A50
            by_cases c6 : x3_1.length < 4398046511104
            · rw [if_pos c6] at H
              have LMc6 := Aside0.mk c6
              clear c6
              obtain ⟨y309, hy309⟩ : ∃ y_ : List (S36), y_ = (x3_1 ++ [(⟨t306, (rd_T36 l0 x8_1).f1⟩ : S36)]) := ⟨_, rfl⟩
              replace H : (zset_Copy.l0 k1 y309 l0 (l0.length : Int) (wrap64 (x8_1 + 1))) = some r := by first | (rw [hy309]; with_reducible exact H) | (have H2_ := (Option.bind_some _ _).symm.trans H; rw [hy309]; with_reducible exact H2_) | (have H2_ := (Option.bind_some _ _).symm.trans H; with_reducible exact H2_) | with_reducible exact H | (rw [hy309]; exact H) | exact H
              have Ny309 := Aside0.mk hy309
              clear hy309
              have H' := Aside0.mk H
              clear H
              have p304 : 0 ≤ (x8_1 : Int) := of_decide_eq_true (by first | (with_reducible assumption) | assumption)
              have q304 : x8_1 < (l0.length : Int) := of_decide_eq_true (by first | (with_reducible assumption) | assumption)
              obtain ⟨ad304, A304_0, c304_0, e304, hx304_0, hx304_1, hl304_0, hi304_0⟩ := at_T36 HR0.out x8_1 p304 q304
              cases e304
              replace hx304_0 := (HB.out.cell (World.block_lt_of_cell? w _ hx304_0)).trans hx304_0
              replace hx304_1 := (HB.out.cell (World.block_lt_of_cell? w _ hx304_1)).trans hx304_1
              have HR304_0 := Aside0.mk hi304_0
              have HC304_0 := Aside0.mk hl304_0
              clear hi304_0 hl304_0
              replace p304 := eq_true p304
              replace q304 := eq_true q304
              try go_wp2_with (first | ((with_reducible refine gate_dst (N := 5) rfl ?_); refine box_event ?hg (N := 5) ?hd (cs := #[.slice none 0 0, .int .i64 0]) (t := 36) ?hr ?_; (case hd => rfl); (case hg => rfl); (case hr => first | (go_simp; done) | (go_simp; rfl)); intro gb305 hg w7 hbox hb; have n0_ := Aside0.mk (Kd.S_below (Kd.S_elderB (by (with_reducible repeat (first | apply Kd.S_alloc | apply Kd.S_drewN | apply Kd.S_drew)); exact HO_3.out) gb305 (Nat.le_of_eq hg.symm)) hb); have n1_ := Aside0.mk (below_step (by repeat (first | (with_reducible first | exact HB.out | apply below_alloc | apply pw_below_drewN | apply below_drew1) | exact HB.out)) hb); have n2_ := Aside0.mk (hbox); have n3_ := Aside0.mk ((by rw [hg]; exact (below_size (by repeat (first | (with_reducible first | exact HB.out | apply below_alloc | apply pw_below_drewN | apply below_drew1) | exact HB.out))) : w.heap.size ≤ gb305)); have n4_ := Aside0.mk ((by rw [hg]; exact (below_size (by repeat (first | (with_reducible first | exact HB.out | apply below_alloc | apply pw_below_drewN | apply below_drew1) | exact HB.out))) : w.heap.size ≤ gb305)); clear HO_3; clear HB; have HO_3 := n0_; have HB := n1_; have BK305 := n2_; have GW305 := n3_; have GE305 := n4_; clear n0_ n1_ n2_ n3_ n4_; clear hb hbox hg; have hcz8_0 : w7.cell? ⟨gb305, 0, none⟩ = some (.slice none 0 0) := (blk_cell BK305.out 0).trans rfl; have hcz8_1 : w7.cell? ⟨gb305, 1, none⟩ = some (.int .i64 0) := (blk_cell BK305.out 1).trans rfl; have hfz8_0 := blk_frozen BK305.out 0; have hfz8_1 := blk_frozen BK305.out 1))
              have n0_ : Aside0 (Kd.S k36 36 ((w7.setCell ⟨gb305, 0, none⟩ (.slice A304_0 ((rd_T36 l0 x8_1).f0).length c304_0)).setCell ⟨gb305, 1, none⟩ (.int .i64 ((rd_T36 l0 x8_1).f1))) w.heap.size (fun k_ => k_ ≠ gb305) u3 x3_1) := ⟨by (with_reducible repeat (first | apply Kd.S_alloc | apply Kd.S_drewN | apply Kd.S_drew)); exact Kd.S_mono (Kd.S_far (p := ⟨gb305, 1, none⟩) (Kd.S_far (p := ⟨gb305, 0, none⟩) (Kd.S_mono HO_3.out (fun k_ hk => (⟨hk, hk.2⟩ : _ ∧ k_ ≠ gb305))) (fun _ hk => hk.2) (.slice A304_0 ((rd_T36 l0 x8_1).f0).length c304_0)) (fun _ hk => hk.2) (.int .i64 ((rd_T36 l0 x8_1).f1))) (fun _ hk => hk.1.2)⟩
              have n1_ : Aside0 (((w7.setCell ⟨gb305, 0, none⟩ (.slice A304_0 ((rd_T36 l0 x8_1).f0).length c304_0)).setCell ⟨gb305, 1, none⟩ (.int .i64 ((rd_T36 l0 x8_1).f1))).heap[gb305]? = some (.cells #[.slice A304_0 ((rd_T36 l0 x8_1).f0).length c304_0, .int .i64 ((rd_T36 l0 x8_1).f1)] 36 (0, 0))) := ⟨by (with_reducible repeat (first | refine blk_drewN ?_ _ | refine blk_drew ?_ | refine blk_alloc ?_ _)); refine blk_put (cs := #[.slice A304_0 ((rd_T36 l0 x8_1).f0).length c304_0, .int .i64 0]) ?_ 1 _ rfl; (with_reducible repeat (first | refine blk_drewN ?_ _ | refine blk_drew ?_ | refine blk_alloc ?_ _)); refine blk_put (cs := #[.slice none 0 0, .int .i64 0]) ?_ 0 _ rfl; (with_reducible repeat (first | refine blk_drewN ?_ _ | refine blk_drew ?_ | refine blk_alloc ?_ _)); exact BK305.out⟩
              have n2_ : Aside0 (Below w.heap.size w ((w7.setCell ⟨gb305, 0, none⟩ (.slice A304_0 ((rd_T36 l0 x8_1).f0).length c304_0)).setCell ⟨gb305, 1, none⟩ (.int .i64 ((rd_T36 l0 x8_1).f1)))) := ⟨by repeat (first | (with_reducible first | exact HB.out | apply below_alloc | apply pw_below_drewN | apply below_drew1 | refine below_set ?_ GE305.out) | exact HB.out)⟩
              (try clear HO_3)
              (try clear BK305)
              (try clear HB)
              generalize ((w7.setCell ⟨gb305, 0, none⟩ (.slice A304_0 ((rd_T36 l0 x8_1).f0).length c304_0)).setCell ⟨gb305, 1, none⟩ (.int .i64 ((rd_T36 l0 x8_1).f1))) = w9 at n0_ n1_ n2_ ⊢
              have HO_3 := n0_
              have BK305 := n1_
              have HB := n2_
              clear n0_ n1_ n2_
              have n0_ := Aside0.mk (Kd.S_drew HO_3.out)
              have n1_ := Aside0.mk (blk_drew BK305.out)
              have n2_ := Aside0.mk (below_drew1 HB.out)
              clear HO_3
              clear BK305
              clear HB
              have HO_3 := n0_
              have BK305 := n1_
              have HB := n2_
              clear n0_ n1_ n2_
              refine start_ (n := 10) (S := fun w' => w'.cell? ⟨gb305, 0, none⟩ = some (.slice A304_0 ((rd_T36 l0 x8_1).f0).length c304_0) ∧ w'.cell? ⟨gb305, 1, none⟩ = some (.int .i64 ((rd_T36 l0 x8_1).f1))) (ds := []) #[false, false, false, false, false, false, false, false, false, false] (by kernel_rfl) rfl rfl ⟨(blk_cell BK305.out 0).trans rfl, (blk_cell BK305.out 1).trans rfl⟩ (fun hHeld => ?_); refine with_tabW zset_Copy.tab5 zset_Copy.bits5 (fun HT_ HW_ => ?_)
              generalize w9.drew = w10 at HO_3 BK305 HB hHeld ⊢
              refine pure_ (i := 0) (N := some 12) (v := ?_) (a' := ?_) #[true, false, false, false, false, false, false, false, false, false] rfl rfl (any_of HT_.out (by kernel_rfl)) (fun _ _ _ h => h) (Or.inl ⟨by rfl, ?_⟩) ?_ ?_
              rotate_left
              · intro w'
                go_simp
                with_reducible rfl
              rotate_left
              · simp only [Act.put, List.setIfInBounds_toArray, List.set_cons_zero, List.set_cons_succ, i64_w, i32_w]
                rfl
              refine pure_ (i := 1) (N := some 13) (v := ?_) (a' := ?_) #[true, true, false, false, false, false, false, false, false, false] rfl rfl (any_of HT_.out (by kernel_rfl)) (fun _ _ _ h => h) (Or.inl ⟨by rfl, ?_⟩) ?_ ?_
              rotate_left
              · intro w'
                go_simp
                with_reducible rfl
              rotate_left
              · simp only [Act.put, List.setIfInBounds_toArray, List.set_cons_zero, List.set_cons_succ, i64_w, i32_w]
                rfl
              refine pure_ (i := 4) (N := some 16) (v := ?_) (a' := ?_) #[true, true, false, false, true, false, false, false, false, false] rfl rfl (any_of HT_.out (by kernel_rfl)) (fun _ _ _ h => h) (Or.inl ⟨by rfl, ?_⟩) ?_ ?_
              rotate_left
              · intro w'
                go_simp
                with_reducible rfl
              rotate_left
              · simp only [Act.put, List.setIfInBounds_toArray, List.set_cons_zero, List.set_cons_succ, i64_w, i32_w]
                rfl
              refine take_ (i := 2) (N := some 14) (v := ?_) (a' := ?_) #[true, true, true, false, true, false, false, false, false, false] rfl rfl (take_ofW HT_.out HW_.out (by kernel_rfl)) (fun _ _ _ h => h) (Or.inl ⟨by rfl, ?_⟩) hHeld ?_ ?_
              rotate_left
              · rintro w' ⟨s0, s1⟩
                go_simp
                with_reducible rfl
              rotate_left
              · simp only [Act.put, List.setIfInBounds_toArray, List.set_cons_zero, List.set_cons_succ, i64_w, i32_w]
                rfl
              refine take_ (i := 5) (N := some 17) (v := ?_) (a' := ?_) #[true, true, true, false, true, true, false, false, false, false] rfl rfl (take_ofW HT_.out HW_.out (by kernel_rfl)) (fun _ _ _ h => h) (Or.inl ⟨by rfl, ?_⟩) hHeld ?_ ?_
              rotate_left
              · rintro w' ⟨s0, s1⟩
                go_simp
                with_reducible rfl
              rotate_left
              · simp only [Act.put, List.setIfInBounds_toArray, List.set_cons_zero, List.set_cons_succ, i64_w, i32_w]
                rfl
              refine one_ (i := 3) (N := some 15) #[true, true, true, true, true, true, false, false, false, false] rfl rfl (one_of HT_.out (by kernel_rfl)) (by decide) (fun K hK => ?_)
              refine goes_ Try.func41 (by kernel_rfl) rfl #[.slice A304_0 ((rd_T36 l0 x8_1).f0).length c304_0] (by rfl) rfl rfl (by (try simp only [List.map_toArray, List.map_cons, List.map_nil]); first | done | rfl | (simp only [List.length_drop, List.length_take]; rfl)) ?_
              with_reducible refine (row_Copy.calls _ _ ((rd_T36 l0 x8_1).f0) t306 _ ?side1 ?side2 A5.out).mono ?_
              (case side1 => repeat (first | exact (Kd.C_below HR304_0.out HB.out) | (with_reducible refine Kd.C_alloc ?_ _) | (with_reducible refine Kd.C_drewN ?_ _) | (with_reducible refine Kd.C_drew ?_)))
              (case side2 => exact HC304_0.out)
              rintro e w11 ⟨v307, rfl, ho0, hb⟩
              refine ⟨_, rfl, ?_⟩
              have n0_ := Aside0.mk (Kd.S_elder' (by (with_reducible repeat (first | apply Kd.S_alloc | apply Kd.S_drewN | apply Kd.S_drew)); exact HO_3.out) (Kd.R_base ho0) hb)
              have n1_ := Aside0.mk (Kd.R_lower ho0 (below_size (by repeat (first | (with_reducible first | exact HB.out | apply below_alloc | apply pw_below_drewN | apply below_drew1 | refine below_set ?_ GE305.out) | exact HB.out))))
              have n2_ := Aside0.mk (blk_below (g := gb305) (o := .cells #[.slice A304_0 ((rd_T36 l0 x8_1).f0).length c304_0, .int .i64 ((rd_T36 l0 x8_1).f1)] 36 (0, 0)) (by (with_reducible repeat (first | refine blk_drewN ?_ _ | refine blk_drew ?_ | refine blk_alloc ?_ _)); exact BK305.out) hb)
              have n3_ := Aside0.mk (below_step (by repeat (first | (with_reducible first | exact HB.out | apply below_alloc | apply pw_below_drewN | apply below_drew1 | refine below_set ?_ GE305.out) | exact HB.out)) hb)
              clear HO_3
              clear BK305
              clear HB
              have HO_3 := n0_
              have HO308 := n1_
              have BK305 := n2_
              have HB := n3_
              clear n0_ n1_ n2_ n3_
              (try clear hb)
              (try clear hb2)
              (try clear hk)
              (try clear hi)
              (try clear ho0)
              obtain ⟨Ao12, co12, eo12⟩ := Kd.R_slice HO308.out
              (first | subst eo12 | (injection eo12 with f1_ f2_ f3_; have f4_ := f1_.symm; have f5_ := f3_.symm; clear f1_ f2_ f3_; subst f4_; subst f5_))
              refine hK.out _ _ ⟨(blk_cell BK305.out 0).trans rfl, (blk_cell BK305.out 1).trans rfl⟩ (fun hHeld => ?_)
              clear hK K
              refine norm_ (a' := ?_) ?_ ?_
              rotate_left
              · show Act.put _ (some 15) _ = _
                simp only [Act.put, List.setIfInBounds_toArray, List.set_cons_zero, List.set_cons_succ, i64_w, i32_w]
                rfl
              refine pure_ (i := 6) (N := some 18) (v := ?_) (a' := ?_) #[true, true, true, true, true, true, true, false, false, false] rfl rfl (any_of HT_.out (by kernel_rfl)) (fun _ _ _ h => h) (Or.inl ⟨by rfl, ?_⟩) ?_ ?_
              rotate_left
              · intro w'
                go_simp
                with_reducible rfl
              rotate_left
              · simp only [Act.put, List.setIfInBounds_toArray, List.set_cons_zero, List.set_cons_succ, i64_w, i32_w]
                rfl
              refine one_ (i := 7) (N := some 19) #[true, true, true, true, true, true, true, true, false, false] rfl rfl (one_of HT_.out (by kernel_rfl)) (by decide) (fun K hK => ?_)
              refine value_ (w1 := ?_) (v := ?_) (by rfl) rfl ?_ ?_
              rotate_left 2
              · go_simp
                constructor
                · rfl
                · rfl
              refine hK.out _ _ ⟨(blk_cell (blk_alloc BK305.out _) 0).trans rfl, (blk_cell (blk_alloc BK305.out _) 1).trans rfl⟩ (fun hHeld => ?_)
              clear hK K
              refine norm_ (a' := ?_) ?_ ?_
              rotate_left
              · show Act.put _ (some 19) _ = _
                simp only [Act.put, List.setIfInBounds_toArray, List.set_cons_zero, List.set_cons_succ, i64_w, i32_w]
                rfl
              refine one_ (i := 8) (N := some 20) #[true, true, true, true, true, true, true, true, true, false] rfl rfl (one_of HT_.out (by kernel_rfl)) (by decide) (fun K hK => ?_)
              refine Kd.S_append_step k36 (w0 := w) w.heap.size (by rfl) (.tmp 12) (.tmp 19) 27 36 (.agg #[(.slice none 0 0), (.int .i64 0)]) 32 rfl Try.underlying27 info36 rfl (by decide) (by omega) u3 x3_1 (⟨t306, (rd_T36 l0 x8_1).f1⟩ : S36) [.slice Ao12 t306.length co12, .int .i64 ((rd_T36 l0 x8_1).f1)] (fun k_ => k_ ≠ gb305) (fun k_ => some k_ = (.slice Ao12 t306.length co12 : Value).ownBlock) rfl rfl ?aP (fun k_ hk_ => ((Kd.R_mono (ok' := fun k_ => ((fun k_ => k_ ≠ gb305)) k_ ∧ some k_ ≠ (u3 : Value).ownBlock) (Kd.R_types (Kd.R_apart' (HO308.out) (Kd.S_typed HO_3.out) (by decide)) BK305.out (by decide)) (fun k_ hk => ⟨hk.2, hk.1.2⟩))).1 k_ hk_.symm) ?aF ?aO ?aB ?aS ?aL ?_
              (case aP => exact k36_mkM _ _ _ (⟨t306, (rd_T36 l0 x8_1).f1⟩ : S36) (Kd.R_mono (Kd.R_tight rfl (Kd.R_mono (ok' := fun k_ => ((fun k_ => k_ ≠ gb305)) k_ ∧ some k_ ≠ (u3 : Value).ownBlock) (Kd.R_types (Kd.R_apart' (HO308.out) (Kd.S_typed HO_3.out) (by decide)) BK305.out (by decide)) (fun k_ hk => ⟨hk.2, hk.1.2⟩))) (fun _ h_ => h_)))
              (case aB => exact (by repeat (first | (with_reducible first | exact HB.out | apply below_alloc | apply pw_below_drewN | apply below_drew1 | refine below_set ?_ GE305.out) | exact HB.out)))
              (case aF => exact (fun k_ hk => Kd.freshB (g := gb305) (o := .cells #[.slice A304_0 ((rd_T36 l0 x8_1).f0).length c304_0, .int .i64 ((rd_T36 l0 x8_1).f1)] 36 (0, 0)) (by (with_reducible repeat (first | refine blk_drewN ?_ _ | refine blk_drew ?_ | refine blk_alloc ?_ _)); exact BK305.out) k_ hk))
              (case aO => exact (by (with_reducible repeat (first | apply Kd.S_alloc | apply Kd.S_drewN | apply Kd.S_drew)); exact Kd.S_mono HO_3.out (fun k_ hk => ⟨hk.1, fun e_ => hk.2 e_⟩)))
              (case aS => exact (below_size (by repeat (first | (with_reducible first | exact HB.out | apply below_alloc | apply pw_below_drewN | apply below_drew1 | refine below_set ?_ GE305.out) | exact HB.out))))
              (case aL => have := LMc6.out; omega)
              intro v310 w13 ho hb hg hat
              rw [← Ny309.out] at ho
              have n0_ := Aside0.mk (blk_grown (g := gb305) (o := .cells #[.slice A304_0 ((rd_T36 l0 x8_1).f0).length c304_0, .int .i64 ((rd_T36 l0 x8_1).f1)] 36 (0, 0)) (by (with_reducible repeat (first | refine blk_drewN ?_ _ | refine blk_drew ?_ | refine blk_alloc ?_ _)); exact BK305.out) hg (Kd.S_away HO_3.out (fun _ hk => hk.1)))
              have n1_ := Aside0.mk (hb)
              have n2_ := Aside0.mk (ho)
              clear BK305
              clear HB
              clear HO_3
              clear HO308
              have BK305 := n0_
              have HB := n1_
              have HO311 := n2_
              clear n0_ n1_ n2_
              clear ho hb hg hat
              refine hK.out _ _ ⟨(blk_cell BK305.out 0).trans rfl, (blk_cell BK305.out 1).trans rfl⟩ (fun hHeld => ?_)
              clear hK K
              refine norm_ (a' := ?_) ?_ ?_
              rotate_left
              · show Act.put _ (some 20) _ = _
                simp only [Act.put, List.setIfInBounds_toArray, List.set_cons_zero, List.set_cons_succ, i64_w, i32_w]
                rfl
              refine pure_ (i := 9) (N := some 3) (v := ?_) (a' := ?_) #[true, true, true, true, true, true, true, true, true, true] rfl rfl (any_of HT_.out (by kernel_rfl)) (fun _ _ _ h => h) (Or.inl ⟨by rfl, ?_⟩) ?_ ?_
              rotate_left
              · intro w'
                go_simp
                with_reducible rfl
              rotate_left
              · simp only [Act.put, List.setIfInBounds_toArray, List.set_cons_zero, List.set_cons_succ, i64_w, i32_w]
                rfl
              refine done_ (done_of HT_.out (by kernel_rfl)) ?_
              try go_wp2
              go_roundg k1
              case measure => have := HK1.out; omega
              case rel => exact ⟨(y309), (wrap64 (x8_1 + 1)), (by first | rfl | (simp; done) | (simp [*]; done)), H', ⟨by have := HK1.out; omega⟩, ⟨by (with_reducible repeat (first | apply Kd.S_alloc | apply Kd.S_drewN | apply Kd.S_drew)); exact Kd.S_mono HO311.out (fun _ hk => trivial)⟩, ⟨by repeat (first | (with_reducible first | exact HB.out | apply below_alloc | apply pw_below_drewN | apply below_drew1 | refine below_set ?_ GE305.out) | exact HB.out)⟩⟩
            · rw [if_neg c6] at H
              exact absurd H (by simp)
          · rw [if_neg c4] at H
            exact absurd H (by simp)
        · rw [if_neg c3] at H
          exact absurd H (by simp)
      · rw [if_neg c2] at H
        have c2b0 : decide (x8_1 < (l0.length : Int)) = false := decide_eq_false c2
        clear c2
        obtain rfl := Option.some.inj H
        go_wp2
        go_ret
        exact ⟨_, by first | rfl | (simp [errW_none, errW_some] <;> rfl) | (simp [*, errW_none, errW_some] <;> rfl), by (with_reducible repeat (first | apply Kd.S_alloc | apply Kd.S_drewN | apply Kd.S_drew)); exact HO_3.out, by repeat (first | (with_reducible first | exact HB.out | apply below_alloc | apply pw_below_drewN | apply below_drew1) | exact HB.out)⟩
def slice_After.f (k : Nat) (l0 : List (S36)) (l1 : List (S41)) (a2 : Bool) (a3 : Int) : Option ((List (S36))) := (slice_upto.f k l0 l1 a2).bind fun t312 => (if 0 ≤ t312 then (if t312 ≤ (l0.length : Int) then ((some (l0.drop (t312 : Int).toNat : List (S36))).bind fun y313 => (if 0 ≤ (mn (mx a3 0) (y313.length : Int)) then (if (mn (mx a3 0) (y313.length : Int)) ≤ (y313.length : Int) then ((zset_Copy.f k (y313.take ((mn (mx a3 0) (y313.length : Int)) : Int).toNat)).bind fun t321 => (some t321)) else (none)) else (none))) else (none)) else (none))
set_option maxHeartbeats 8000000 in
set_option maxRecDepth 100000 in
theorem slice_After.calls (k : Nat) (A0 : Option Addr) (c0 : Nat) (l0 : List (S36)) (A1 : Option Addr) (c1 : Nat) (l1 : List (S41)) (a2 : Bool) (a3 : Int) (r : List (S36)) (w : World) (hr0 : Kd.C k36 w A0 l0.length l0) (hc0 : l0.length ≤ c0) (hr1 : Kd.C k41 w A1 l1.length l1) (hc1 : l1.length ≤ c1) (h : slice_After.f k l0 l1 a2 a3 = some r) :
    Calls Try.prog 19 #[.slice A0 l0.length c0, .slice A1 l1.length c1, .bool a2, .int .i64 a3] w fun e w' => ∃ v0_ : Value, e = .returned (v0_) ∧ Kd.S k36 36 w' w.heap.size (fun _ => True) v0_ r ∧ Below w.heap.size w w' := by
  have HR0 := Aside0.mk hr0
  have HC0 := Aside0.mk hc0
  clear hr0 hc0
  have HR1 := Aside0.mk hr1
  have HC1 := Aside0.mk hc1
  clear hr1 hc1
  have HB := Aside0.mk (Below.refl w.heap.size w)
  have H : ((slice_upto.f k l0 l1 a2).bind fun t312 => (if 0 ≤ t312 then (if t312 ≤ (l0.length : Int) then ((some (l0.drop (t312 : Int).toNat : List (S36))).bind fun y313 => (if 0 ≤ (mn (mx a3 0) (y313.length : Int)) then (if (mn (mx a3 0) (y313.length : Int)) ≤ (y313.length : Int) then ((zset_Copy.f k (y313.take ((mn (mx a3 0) (y313.length : Int)) : Int).toNat)).bind fun t321 => (some t321)) else (none)) else (none))) else (none)) else (none))) = some r := h
  clear h
  replace H := Option.bind_eq_some_iff.mp H
  obtain ⟨t312, A50, H⟩ := H
  replace H : (if 0 ≤ t312 then (if t312 ≤ (l0.length : Int) then ((some (l0.drop (t312 : Int).toNat : List (S36))).bind fun y313 => (if 0 ≤ (mn (mx a3 0) (y313.length : Int)) then (if (mn (mx a3 0) (y313.length : Int)) ≤ (y313.length : Int) then ((zset_Copy.f k (y313.take ((mn (mx a3 0) (y313.length : Int)) : Int).toNat)).bind fun t321 => (some t321)) else (none)) else (none))) else (none)) else (none)) = some r := H
  have A5 := Aside0.mk A50
  clear A50
  by_cases c6 : 0 ≤ t312
  · rw [if_pos c6] at H
    have c6b0 := eq_true c6
    have c6b1 : decide (0 ≤ t312) = true := decide_eq_true c6
    clear c6
    by_cases c7 : t312 ≤ (l0.length : Int)
    · rw [if_pos c7] at H
      have c7b0 := eq_true c7
      have c7b1 : decide (t312 ≤ (l0.length : Int)) = true := decide_eq_true c7
      clear c7
      obtain ⟨y313, hy313⟩ : ∃ y_ : List (S36), y_ = (l0.drop (t312 : Int).toNat) := ⟨_, rfl⟩
      replace H : (if 0 ≤ (mn (mx a3 0) (y313.length : Int)) then (if (mn (mx a3 0) (y313.length : Int)) ≤ (y313.length : Int) then ((zset_Copy.f k (y313.take ((mn (mx a3 0) (y313.length : Int)) : Int).toNat)).bind fun t321 => (some t321)) else (none)) else (none)) = some r := by first | (rw [hy313]; with_reducible exact H) | (have H2_ := (Option.bind_some _ _).symm.trans H; rw [hy313]; with_reducible exact H2_) | (have H2_ := (Option.bind_some _ _).symm.trans H; with_reducible exact H2_) | with_reducible exact H | (rw [hy313]; exact H) | exact H
      have Ny313 := Aside0.mk hy313
      clear hy313
      obtain ⟨ji8, hji8⟩ : ∃ j_ : Int, (mx a3 0) = j_ := ⟨_, rfl⟩
      replace H : (if 0 ≤ (mn (ji8) (y313.length : Int)) then (if (mn (ji8) (y313.length : Int)) ≤ (y313.length : Int) then ((zset_Copy.f k (y313.take ((mn (ji8) (y313.length : Int)) : Int).toNat)).bind fun t321 => (some t321)) else (none)) else (none)) = some r := by first | (rw [hji8] at H; exact H) | (simp only [hji8] at H ⊢; exact H)
      (try rw [hji8] at A5)
      (try (have hji8l : 0 ≤ ji8 := by (rw [← hji8]; unfold mx; (repeat' split) <;> omega)))
      (try (have hji8m : 0 ≤ ji8 := by omega))
      have hji8_ : (if a3 < 0 then 0 else a3) = ji8 := hji8
      obtain ⟨ji9, hji9⟩ : ∃ j_ : Int, (mn (ji8) (y313.length : Int)) = j_ := ⟨_, rfl⟩
      replace H : (if 0 ≤ (ji9) then (if (ji9) ≤ (y313.length : Int) then ((zset_Copy.f k (y313.take ((ji9) : Int).toNat)).bind fun t321 => (some t321)) else (none)) else (none)) = some r := by first | (rw [hji9] at H; exact H) | (simp only [hji9] at H ⊢; exact H)
      (try rw [hji9] at A5)
      have hji9_ : (if (y313.length : Int) < (ji8) then (y313.length : Int) else (ji8)) = ji9 := hji9
      by_cases c10 : 0 ≤ (ji9)
      · rw [if_pos c10] at H
        have c10b0 := eq_true c10
        have c10b1 : decide (0 ≤ (ji9)) = true := decide_eq_true c10
        clear c10
        by_cases c11 : (ji9) ≤ (y313.length : Int)
        · rw [if_pos c11] at H
          have c11b0 := eq_true c11
          have c11b1 : decide ((ji9) ≤ (y313.length : Int)) = true := decide_eq_true c11
          clear c11
          obtain ⟨y317, hy317⟩ : ∃ y_ : List (S36), y_ = (y313.take ((ji9) : Int).toNat) := ⟨_, rfl⟩
          replace H : ((zset_Copy.f k y317).bind fun t321 => (some t321)) = some r := by first | (rw [hy317]; with_reducible exact H) | (have H2_ := (Option.bind_some _ _).symm.trans H; rw [hy317]; with_reducible exact H2_) | (have H2_ := (Option.bind_some _ _).symm.trans H; with_reducible exact H2_) | with_reducible exact H | (rw [hy317]; exact H) | exact H
          have Ny317 := Aside0.mk hy317
          clear hy317
          replace H := Option.bind_eq_some_iff.mp H
          obtain ⟨t321, A120, H⟩ := H
          replace H : (some t321) = some r := H
          have A12 := Aside0.mk A120
          clear A120
          obtain rfl := Option.some.inj H
          go_enter Try.func19, Try.ntmps19
          go_wp2_with (first | ((with_reducible refine gate_callee (f := 44) rfl ?_); refine goesL_ (some 13) rfl rfl Try.func44 (by kernel_rfl) rfl #[.slice A0 l0.length c0, .slice A1 l1.length c1, .bool a2] rfl (by (try simp only [List.map_toArray, List.map_cons, List.map_nil]); first | done | rfl | (simp only [List.length_drop, List.length_take]; rfl)) ?_; (with_reducible refine (slice_upto.calls k _ _ l0 _ _ l1 a2 t312 _ ?side1 ?side2 ?side3 ?side4 A5.out).mono ?_); (case side1 => repeat (first | exact HR0.out | (with_reducible refine Kd.C_alloc ?_ _) | (with_reducible refine Kd.C_drewN ?_ _) | (with_reducible refine Kd.C_drew ?_))); (case side2 => exact HC0.out); (case side3 => repeat (first | exact HR1.out | (with_reducible refine Kd.C_alloc ?_ _) | (with_reducible refine Kd.C_drewN ?_ _) | (with_reducible refine Kd.C_drew ?_))); (case side4 => exact HC1.out); rintro e w13 ⟨rfl, hb⟩; refine ⟨_, rfl, ?_⟩; have n0_ := Aside0.mk (below_step (by repeat (first | (with_reducible first | exact HB.out | apply below_alloc | apply pw_below_drewN | apply below_drew1) | exact HB.out)) hb); clear HB; have HB := n0_; clear n0_; (try clear hb); (try clear hb2); (try clear hk); (try clear hi); have q14 : (t312 : Int) ≤ ((l0.length : Int) : Int) := of_decide_eq_true (by first | (with_reducible assumption) | assumption); obtain ⟨i014, hi014, _, hsz14, _⟩ := info_parts info36; have hroom14 : l0.length ≤ c0 := HC0.out; have hC14 : Kd.C k36 _ A0 l0.length l0 := HR0.out; have q014 : (0 : Int) ≤ (t312 : Int) := of_decide_eq_true (by first | (with_reducible assumption) | assumption); have hcut14 := cut_from (P := Try.prog) 27 36 .i64 Try.underlying27 hi014 2 hsz14 A0 l0.length c0 t312 q014 q14; have hr14 := Kd.C_drop (m := (t312 : Int).toNat) (c := c0) hC14 (by omega) hroom14; obtain ⟨A14, hA14⟩ : ∃ A1, A1 = (if c0 = (t312 : Int).toNat then A0 else (A0 : Option Addr).map (·.add ((t312 : Int).toNat * 2))) := ⟨_, rfl⟩; obtain ⟨c14, hc14⟩ : ∃ c1, c1 = c0 - (t312 : Int).toNat := ⟨_, rfl⟩; have hy14 : y313.length = l0.length - (t312 : Int).toNat := (by rw [Ny313.out, List.length_drop] <;> omega); rw [show (l0).drop (t312 : Int).toNat = y313 from Ny313.out.symm] at hr14; replace hr14 : Kd.C k36 _ A14 y313.length y313 := (by rw [hA14]; exact hr14); rw [← hy14, ← hA14, ← hc14] at hcut14; have HR316 := Aside0.mk hr14; have HC316 := Aside0.mk (show y313.length ≤ c14 from by rw [hy14, hc14]; exact Nat.sub_le_sub_right hroom14 _); clear hr14 hC14 hroom14 hi014 hsz14 hc14; have KY14 := Aside0.mk hy14; have KA14 := Aside0.mk hA14; clear hy14 hA14; replace q14 := eq_true q14; have q15 : ((ji9) : Int) ≤ ((y313.length : Int) : Int) := of_decide_eq_true (by first | (with_reducible assumption) | assumption); obtain ⟨i015, hi015, _, hsz15, _⟩ := info_parts info36; have hroom15 : y313.length ≤ c14 := HC316.out; have hC15 : Kd.C k36 _ A14 y313.length y313 := HR316.out; have hcut15 := cut_to (P := Try.prog) 27 36 .i64 Try.underlying27 hi015 A14 y313.length c14 (ji9) (of_decide_eq_true (by first | (with_reducible assumption) | assumption)) q15 hroom15; have hr15 := Kd.C_take (m := ((ji9) : Int).toNat) hC15 (by omega); have hy15 : y317.length = ((ji9) : Int).toNat := (by rw [Ny317.out, List.length_take]; omega); rw [← Ny317.out] at hr15; rw [← hy15] at hcut15; have HR320 := Aside0.mk hr15; have HC320 := Aside0.mk (show y317.length ≤ c14 from by omega); clear hr15 hC15 hroom15 hi015 hsz15; have KY15 := Aside0.mk hy15; clear hy15; replace q15 := eq_true q15) | ((with_reducible refine gate_callee (f := 45) rfl ?_); refine goesL_ (some 22) rfl rfl Try.func45 (by kernel_rfl) rfl #[.slice A14 y317.length c14] rfl (by (try simp only [List.map_toArray, List.map_cons, List.map_nil]); first | done | rfl | (simp only [List.length_drop, List.length_take]; rfl)) ?_; (with_reducible refine (zset_Copy.calls k _ _ y317 t321 _ ?side1 ?side2 A12.out).mono ?_); (case side1 => repeat (first | exact (Kd.C_below HR320.out HB.out) | (with_reducible refine Kd.C_alloc ?_ _) | (with_reducible refine Kd.C_drewN ?_ _) | (with_reducible refine Kd.C_drew ?_))); (case side2 => exact HC320.out); rintro e w16 ⟨v322, rfl, ho0, hb⟩; refine ⟨_, rfl, ?_⟩; have n0_ := Aside0.mk (Kd.S_lower ho0 (below_size (by repeat (first | (with_reducible first | exact HB.out | apply below_alloc | apply pw_below_drewN | apply below_drew1) | exact HB.out)))); have n1_ := Aside0.mk (below_step (by repeat (first | (with_reducible first | exact HB.out | apply below_alloc | apply pw_below_drewN | apply below_drew1) | exact HB.out)) hb); clear HB; have HO323 := n0_; have HB := n1_; clear n0_ n1_; (try clear hb); (try clear hb2); (try clear hk); (try clear hi); (try clear ho0)))
          go_ret
          exact ⟨_, by first | rfl | (simp [errW_none, errW_some] <;> rfl) | (simp only [← hji8, ← hji9]; first | rfl | (simp [errW_none, errW_some] <;> rfl)) | (simp [*, errW_none, errW_some] <;> rfl), by (with_reducible repeat (first | apply Kd.S_alloc | apply Kd.S_drewN | apply Kd.S_drew)); exact HO323.out, by repeat (first | (with_reducible first | exact HB.out | apply below_alloc | apply pw_below_drewN | apply below_drew1) | exact HB.out)⟩
        · rw [if_neg c11] at H
          exact absurd H (by simp)
      · rw [if_neg c10] at H
        exact absurd H (by simp)
    · rw [if_neg c7] at H
      exact absurd H (by simp)
  · rw [if_neg c6] at H
    exact absurd H (by simp)
def belvederelaw4_first.f : Option Bool := some true
set_option maxHeartbeats 8000000 in
set_option maxRecDepth 100000 in
theorem belvederelaw4_first.calls (r : Bool) (w : World) (h : belvederelaw4_first.f = some r) :
    Calls Try.prog 17 #[] w fun e w' => e = .returned (.bool r) ∧ Below w.heap.size w w' := by
  obtain rfl := Option.some.inj h
  go_enter Try.func17, Try.ntmps17
  go_wp2_with fail
  refine (slice_After.calls 5 none 0 [] none 0 [] false 5 [] _ (Kd.C_nil _ _) (Nat.le_refl _) (Kd.C_nil _ _) (Nat.le_refl _) (by kernel_rfl)).mono ?_
  rintro e w1 ⟨v, rfl, hS, hb⟩
  obtain ⟨A1, c1, rfl⟩ := Kd.S_slice hS
  have HC := Aside0.mk (Kd.C_below (show k36.C _ (some ⟨w.heap.size + 1, 0, none⟩) 1 [⟨[⟨1, 5, ⟨#[]⟩⟩], 1⟩] from C_one36 (A := some ⟨w.heap.size, 0, none⟩) (c := 1) (by go_simp) (by go_simp) (Nat.le_refl _) (C_one41 (by go_simp) (by go_simp) (by go_simp))) hb)
  have HB := Aside0.mk (below_step (show Below w.heap.size w _ by repeat (first | exact Below.refl _ _ | apply below_alloc)) hb)
  clear hb hS
  go_wp2_with fail
  refine (slice_After.calls 5 (some ⟨w.heap.size + 1, 0, none⟩) 1 [⟨[⟨1, 5, ⟨#[]⟩⟩], 1⟩] none 0 [] false 5 [⟨[⟨1, 5, ⟨#[]⟩⟩], 1⟩] _ HC.out (Nat.le_refl _) (Kd.C_nil _ _) (Nat.le_refl _) (by kernel_rfl)).mono ?_
  rintro e w2 ⟨v, rfl, hS, hb⟩
  obtain ⟨A2, c2, rfl⟩ := Kd.S_slice hS
  have HB2 := Aside0.mk (below_step HB.out hb)
  clear hb hS
  go_wp2
  go_ret
  exact ⟨rfl, HB2.out⟩
def slice_Upto.f (k : Nat) (l0 : List (S36)) (l1 : List (S41)) (a2 : Bool) : Option ((List (S36))) := (slice_upto.f k l0 l1 a2).bind fun t324 => (if 0 ≤ t324 then (if t324 ≤ (l0.length : Int) then ((zset_Copy.f k (l0.take (t324 : Int).toNat)).bind fun t329 => (some t329)) else (none)) else (none))
set_option maxHeartbeats 8000000 in
set_option maxRecDepth 100000 in
theorem slice_Upto.calls (k : Nat) (A0 : Option Addr) (c0 : Nat) (l0 : List (S36)) (A1 : Option Addr) (c1 : Nat) (l1 : List (S41)) (a2 : Bool) (r : List (S36)) (w : World) (hr0 : Kd.C k36 w A0 l0.length l0) (hc0 : l0.length ≤ c0) (hr1 : Kd.C k41 w A1 l1.length l1) (hc1 : l1.length ≤ c1) (h : slice_Upto.f k l0 l1 a2 = some r) :
    Calls Try.prog 20 #[.slice A0 l0.length c0, .slice A1 l1.length c1, .bool a2] w fun e w' => ∃ v0_ : Value, e = .returned (v0_) ∧ Kd.S k36 36 w' w.heap.size (fun _ => True) v0_ r ∧ Below w.heap.size w w' := by
  have HR0 := Aside0.mk hr0
  have HC0 := Aside0.mk hc0
  clear hr0 hc0
  have HR1 := Aside0.mk hr1
  have HC1 := Aside0.mk hc1
  clear hr1 hc1
  have HB := Aside0.mk (Below.refl w.heap.size w)
  have H : ((slice_upto.f k l0 l1 a2).bind fun t324 => (if 0 ≤ t324 then (if t324 ≤ (l0.length : Int) then ((zset_Copy.f k (l0.take (t324 : Int).toNat)).bind fun t329 => (some t329)) else (none)) else (none))) = some r := h
  clear h
  replace H := Option.bind_eq_some_iff.mp H
  obtain ⟨t324, A40, H⟩ := H
  replace H : (if 0 ≤ t324 then (if t324 ≤ (l0.length : Int) then ((zset_Copy.f k (l0.take (t324 : Int).toNat)).bind fun t329 => (some t329)) else (none)) else (none)) = some r := H
  have A4 := Aside0.mk A40
  clear A40
  by_cases c5 : 0 ≤ t324
  · rw [if_pos c5] at H
    have c5b0 := eq_true c5
    have c5b1 : decide (0 ≤ t324) = true := decide_eq_true c5
    clear c5
    by_cases c6 : t324 ≤ (l0.length : Int)
    · rw [if_pos c6] at H
      have c6b0 := eq_true c6
      have c6b1 : decide (t324 ≤ (l0.length : Int)) = true := decide_eq_true c6
      clear c6
      obtain ⟨y325, hy325⟩ : ∃ y_ : List (S36), y_ = (l0.take (t324 : Int).toNat) := ⟨_, rfl⟩
      replace H : ((zset_Copy.f k y325).bind fun t329 => (some t329)) = some r := by first | (rw [hy325]; with_reducible exact H) | (have H2_ := (Option.bind_some _ _).symm.trans H; rw [hy325]; with_reducible exact H2_) | (have H2_ := (Option.bind_some _ _).symm.trans H; with_reducible exact H2_) | with_reducible exact H | (rw [hy325]; exact H) | exact H
      have Ny325 := Aside0.mk hy325
      clear hy325
      replace H := Option.bind_eq_some_iff.mp H
      obtain ⟨t329, A70, H⟩ := H
      replace H : (some t329) = some r := H
      have A7 := Aside0.mk A70
      clear A70
      obtain rfl := Option.some.inj H
      go_enter Try.func20, Try.ntmps20
      go_wp2_with (first | ((with_reducible refine gate_callee (f := 44) rfl ?_); refine goesL_ (some 11) rfl rfl Try.func44 (by kernel_rfl) rfl #[.slice A0 l0.length c0, .slice A1 l1.length c1, .bool a2] rfl (by (try simp only [List.map_toArray, List.map_cons, List.map_nil]); first | done | rfl | (simp only [List.length_drop, List.length_take]; rfl)) ?_; (with_reducible refine (slice_upto.calls k _ _ l0 _ _ l1 a2 t324 _ ?side1 ?side2 ?side3 ?side4 A4.out).mono ?_); (case side1 => repeat (first | exact HR0.out | (with_reducible refine Kd.C_alloc ?_ _) | (with_reducible refine Kd.C_drewN ?_ _) | (with_reducible refine Kd.C_drew ?_))); (case side2 => exact HC0.out); (case side3 => repeat (first | exact HR1.out | (with_reducible refine Kd.C_alloc ?_ _) | (with_reducible refine Kd.C_drewN ?_ _) | (with_reducible refine Kd.C_drew ?_))); (case side4 => exact HC1.out); rintro e w8 ⟨rfl, hb⟩; refine ⟨_, rfl, ?_⟩; have n0_ := Aside0.mk (below_step (by repeat (first | (with_reducible first | exact HB.out | apply below_alloc | apply pw_below_drewN | apply below_drew1) | exact HB.out)) hb); clear HB; have HB := n0_; clear n0_; (try clear hb); (try clear hb2); (try clear hk); (try clear hi); have q9 : (t324 : Int) ≤ ((l0.length : Int) : Int) := of_decide_eq_true (by first | (with_reducible assumption) | assumption); obtain ⟨i09, hi09, _, hsz9, _⟩ := info_parts info36; have hroom9 : l0.length ≤ c0 := HC0.out; have hC9 : Kd.C k36 _ A0 l0.length l0 := HR0.out; have hcut9 := cut_to (P := Try.prog) 27 36 .i64 Try.underlying27 hi09 A0 l0.length c0 t324 (of_decide_eq_true (by first | (with_reducible assumption) | assumption)) q9 hroom9; have hr9 := Kd.C_take (m := (t324 : Int).toNat) hC9 (by omega); have hy9 : y325.length = (t324 : Int).toNat := (by rw [Ny325.out, List.length_take]; omega); rw [← Ny325.out] at hr9; rw [← hy9] at hcut9; have HR328 := Aside0.mk hr9; have HC328 := Aside0.mk (show y325.length ≤ c0 from by omega); clear hr9 hC9 hroom9 hi09 hsz9; have KY9 := Aside0.mk hy9; clear hy9; replace q9 := eq_true q9) | ((with_reducible refine gate_callee (f := 45) rfl ?_); refine goesL_ (some 13) rfl rfl Try.func45 (by kernel_rfl) rfl #[.slice A0 y325.length c0] rfl (by (try simp only [List.map_toArray, List.map_cons, List.map_nil]); first | done | rfl | (simp only [List.length_drop, List.length_take]; rfl)) ?_; (with_reducible refine (zset_Copy.calls k _ _ y325 t329 _ ?side1 ?side2 A7.out).mono ?_); (case side1 => repeat (first | exact (Kd.C_below HR328.out HB.out) | (with_reducible refine Kd.C_alloc ?_ _) | (with_reducible refine Kd.C_drewN ?_ _) | (with_reducible refine Kd.C_drew ?_))); (case side2 => exact HC328.out); rintro e w10 ⟨v330, rfl, ho0, hb⟩; refine ⟨_, rfl, ?_⟩; have n0_ := Aside0.mk (Kd.S_lower ho0 (below_size (by repeat (first | (with_reducible first | exact HB.out | apply below_alloc | apply pw_below_drewN | apply below_drew1) | exact HB.out)))); have n1_ := Aside0.mk (below_step (by repeat (first | (with_reducible first | exact HB.out | apply below_alloc | apply pw_below_drewN | apply below_drew1) | exact HB.out)) hb); clear HB; have HO331 := n0_; have HB := n1_; clear n0_ n1_; (try clear hb); (try clear hb2); (try clear hk); (try clear hi); (try clear ho0)))
      go_ret
      exact ⟨_, by first | rfl | (simp [errW_none, errW_some] <;> rfl) | (simp [*, errW_none, errW_some] <;> rfl), by (with_reducible repeat (first | apply Kd.S_alloc | apply Kd.S_drewN | apply Kd.S_drew)); exact HO331.out, by repeat (first | (with_reducible first | exact HB.out | apply below_alloc | apply pw_below_drewN | apply below_drew1) | exact HB.out)⟩
    · rw [if_neg c6] at H
      exact absurd H (by simp)
  · rw [if_neg c5] at H
    exact absurd H (by simp)
def belvedereref_SameValue.f (a0_0 : Int) (a0_1 : Int) (a0_2 : ByteArray) (a1_0 : Int) (a1_1 : Int) (a1_2 : ByteArray) : Option (Bool) := if a0_0 = a1_0 then (if a0_1 = a1_1 then (some (a0_2.toList == a1_2.toList)) else (some false)) else (some false)
set_option maxHeartbeats 8000000 in
set_option maxRecDepth 100000 in
theorem belvedereref_SameValue.calls (a0_0 : Int) (a0_1 : Int) (a0_2 : ByteArray) (a1_0 : Int) (a1_1 : Int) (a1_2 : ByteArray) (r : Bool) (w : World) (h : belvedereref_SameValue.f a0_0 a0_1 a0_2 a1_0 a1_1 a1_2 = some r) :
    Calls Try.prog 58 #[.agg #[.int .i64 a0_0, .int .i64 a0_1, .string a0_2], .agg #[.int .i64 a1_0, .int .i64 a1_1, .string a1_2]] w fun e w' => e = .returned (.bool r) ∧ Below w.heap.size w w' := by
  have hu41 := Try.underlying41
  have HB := Aside0.mk (Below.refl w.heap.size w)
  have H : (if a0_0 = a1_0 then (if a0_1 = a1_1 then (some (a0_2.toList == a1_2.toList)) else (some false)) else (some false)) = some r := h
  clear h
  by_cases c3 : a0_0 = a1_0
  · rw [if_pos c3] at H
    have c3b0 : (a0_0 == a1_0) = true := beq_iff_eq.mpr c3
    have c3b1 : (a0_0 != a1_0) = false := bne_eq_false_iff_eq.mpr c3
    clear c3
    by_cases c4 : a0_1 = a1_1
    · rw [if_pos c4] at H
      have c4b0 : (a0_1 == a1_1) = true := beq_iff_eq.mpr c4
      have c4b1 : (a0_1 != a1_1) = false := bne_eq_false_iff_eq.mpr c4
      clear c4
      obtain rfl := Option.some.inj H
      go_enter Try.func58, Try.ntmps58
      go_wp2_with (first | ((with_reducible refine gate_dst (N := 2) rfl ?_); refine box_event ?hg (N := 2) ?hd (cs := #[.int .i64 a0_0, .int .i64 a0_1, .string a0_2]) (t := 41) ?hr ?_; (case hd => rfl); (case hg => rfl); (case hr => first | (go_simp; done) | (go_simp; rfl)); intro gb332 hg w5 hbox hb; have n0_ := Aside0.mk (below_step (by repeat (first | (with_reducible first | exact HB.out | apply below_alloc | apply pw_below_drewN | apply below_drew1) | exact HB.out)) hb); have n1_ := Aside0.mk (hbox); have n2_ := Aside0.mk ((by rw [hg]; exact (below_size (by repeat (first | (with_reducible first | exact HB.out | apply below_alloc | apply pw_below_drewN | apply below_drew1) | exact HB.out))) : w.heap.size ≤ gb332)); have n3_ := Aside0.mk ((by rw [hg]; exact (below_size (by repeat (first | (with_reducible first | exact HB.out | apply below_alloc | apply pw_below_drewN | apply below_drew1) | exact HB.out))) : w.heap.size ≤ gb332)); clear HB; have HB := n0_; have BK332 := n1_; have GW332 := n2_; have GE332 := n3_; clear n0_ n1_ n2_ n3_; clear hb hbox hg) | ((with_reducible refine gate_dst (N := 3) rfl ?_); refine box_event ?hg (N := 3) ?hd (cs := #[.int .i64 a1_0, .int .i64 a1_1, .string a1_2]) (t := 41) ?hr ?_; (case hd => rfl); (case hg => rfl); (case hr => first | (go_simp; done) | (go_simp; rfl)); intro gb333 hg w6 hbox hb; have n0_ := Aside0.mk (blk_below (g := gb332) (o := .cells #[.int .i64 a0_0, .int .i64 a0_1, .string a0_2] 41 (0, 0)) (by (with_reducible repeat (first | refine blk_drewN ?_ _ | refine blk_drew ?_ | refine blk_alloc ?_ _)); exact BK332.out) hb); have n1_ := Aside0.mk (below_step (by repeat (first | (with_reducible first | exact HB.out | apply below_alloc | apply pw_below_drewN | apply below_drew1 | refine below_set ?_ GE332.out) | exact HB.out)) hb); have n2_ := Aside0.mk (hbox); have n3_ := Aside0.mk ((by rw [hg]; exact (below_size (by repeat (first | (with_reducible first | exact HB.out | apply below_alloc | apply pw_below_drewN | apply below_drew1 | refine below_set ?_ GE332.out) | exact HB.out))) : w.heap.size ≤ gb333)); have n4_ := Aside0.mk ((by rw [hg]; exact (below_size (by repeat (first | (with_reducible first | exact HB.out | apply below_alloc | apply pw_below_drewN | apply below_drew1 | refine below_set ?_ GE332.out) | exact HB.out))) : w.heap.size ≤ gb333)); have n5_ := Aside0.mk ((by rw [hg]; exact Nat.ne_of_lt (blk_lt (g := gb332) (o := .cells #[.int .i64 a0_0, .int .i64 a0_1, .string a0_2] 41 (0, 0)) (by (with_reducible repeat (first | refine blk_drewN ?_ _ | refine blk_drew ?_ | refine blk_alloc ?_ _)); exact BK332.out)) : gb332 ≠ gb333)); have n6_ := Aside0.mk ((by rw [hg]; exact Nat.ne_of_gt (blk_lt (g := gb332) (o := .cells #[.int .i64 a0_0, .int .i64 a0_1, .string a0_2] 41 (0, 0)) (by (with_reducible repeat (first | refine blk_drewN ?_ _ | refine blk_drew ?_ | refine blk_alloc ?_ _)); exact BK332.out)) : gb333 ≠ gb332)); clear BK332; clear HB; have BK332 := n0_; have HB := n1_; have BK333 := n2_; have GW333 := n3_; have GE333 := n4_; have NB332_333 := n5_; have NB333_332 := n6_; clear n0_ n1_ n2_ n3_ n4_ n5_ n6_; clear hb hbox hg; have hnb7 := NB332_333.out; have hnc7 := NB333_332.out; have hcz8_0 : w6.cell? ⟨gb332, 0, none⟩ = some (.int .i64 a0_0) := (blk_cell BK332.out 0).trans rfl; have hcz8_1 : w6.cell? ⟨gb332, 1, none⟩ = some (.int .i64 a0_1) := (blk_cell BK332.out 1).trans rfl; have hcz8_2 : w6.cell? ⟨gb332, 2, none⟩ = some (.string a0_2) := (blk_cell BK332.out 2).trans rfl; have hfz8_0 := blk_frozen BK332.out 0; have hfz8_1 := blk_frozen BK332.out 1; have hfz8_2 := blk_frozen BK332.out 2; have hcz9_0 : w6.cell? ⟨gb333, 0, none⟩ = some (.int .i64 a1_0) := (blk_cell BK333.out 0).trans rfl; have hcz9_1 : w6.cell? ⟨gb333, 1, none⟩ = some (.int .i64 a1_1) := (blk_cell BK333.out 1).trans rfl; have hcz9_2 : w6.cell? ⟨gb333, 2, none⟩ = some (.string a1_2) := (blk_cell BK333.out 2).trans rfl; have hfz9_0 := blk_frozen BK333.out 0; have hfz9_1 := blk_frozen BK333.out 1; have hfz9_2 := blk_frozen BK333.out 2))
      go_ret
      exact ⟨by first | rfl | (simp [errW_none, errW_some] <;> rfl) | (simp [*, errW_none, errW_some] <;> rfl), by repeat (first | (with_reducible first | exact HB.out | apply below_alloc | apply pw_below_drewN | apply below_drew1 | refine below_set ?_ GE332.out | refine below_set ?_ GE333.out) | exact HB.out)⟩
    · rw [if_neg c4] at H
      have c4b0 : (a0_1 == a1_1) = false := beq_eq_false_iff_ne.mpr c4
      have c4b1 : (a0_1 != a1_1) = true := bne_iff_ne.mpr c4
      obtain rfl := Option.some.inj H
      go_enter Try.func58, Try.ntmps58
      go_wp2_with (first | ((with_reducible refine gate_dst (N := 2) rfl ?_); refine box_event ?hg (N := 2) ?hd (cs := #[.int .i64 a0_0, .int .i64 a0_1, .string a0_2]) (t := 41) ?hr ?_; (case hd => rfl); (case hg => rfl); (case hr => first | (go_simp; done) | (go_simp; rfl)); intro gb332 hg w10 hbox hb; have n0_ := Aside0.mk (below_step (by repeat (first | (with_reducible first | exact HB.out | apply below_alloc | apply pw_below_drewN | apply below_drew1) | exact HB.out)) hb); have n1_ := Aside0.mk (hbox); have n2_ := Aside0.mk ((by rw [hg]; exact (below_size (by repeat (first | (with_reducible first | exact HB.out | apply below_alloc | apply pw_below_drewN | apply below_drew1) | exact HB.out))) : w.heap.size ≤ gb332)); have n3_ := Aside0.mk ((by rw [hg]; exact (below_size (by repeat (first | (with_reducible first | exact HB.out | apply below_alloc | apply pw_below_drewN | apply below_drew1) | exact HB.out))) : w.heap.size ≤ gb332)); clear HB; have HB := n0_; have BK332 := n1_; have GW332 := n2_; have GE332 := n3_; clear n0_ n1_ n2_ n3_; clear hb hbox hg) | ((with_reducible refine gate_dst (N := 3) rfl ?_); refine box_event ?hg (N := 3) ?hd (cs := #[.int .i64 a1_0, .int .i64 a1_1, .string a1_2]) (t := 41) ?hr ?_; (case hd => rfl); (case hg => rfl); (case hr => first | (go_simp; done) | (go_simp; rfl)); intro gb333 hg w11 hbox hb; have n0_ := Aside0.mk (blk_below (g := gb332) (o := .cells #[.int .i64 a0_0, .int .i64 a0_1, .string a0_2] 41 (0, 0)) (by (with_reducible repeat (first | refine blk_drewN ?_ _ | refine blk_drew ?_ | refine blk_alloc ?_ _)); exact BK332.out) hb); have n1_ := Aside0.mk (below_step (by repeat (first | (with_reducible first | exact HB.out | apply below_alloc | apply pw_below_drewN | apply below_drew1 | refine below_set ?_ GE332.out) | exact HB.out)) hb); have n2_ := Aside0.mk (hbox); have n3_ := Aside0.mk ((by rw [hg]; exact (below_size (by repeat (first | (with_reducible first | exact HB.out | apply below_alloc | apply pw_below_drewN | apply below_drew1 | refine below_set ?_ GE332.out) | exact HB.out))) : w.heap.size ≤ gb333)); have n4_ := Aside0.mk ((by rw [hg]; exact (below_size (by repeat (first | (with_reducible first | exact HB.out | apply below_alloc | apply pw_below_drewN | apply below_drew1 | refine below_set ?_ GE332.out) | exact HB.out))) : w.heap.size ≤ gb333)); have n5_ := Aside0.mk ((by rw [hg]; exact Nat.ne_of_lt (blk_lt (g := gb332) (o := .cells #[.int .i64 a0_0, .int .i64 a0_1, .string a0_2] 41 (0, 0)) (by (with_reducible repeat (first | refine blk_drewN ?_ _ | refine blk_drew ?_ | refine blk_alloc ?_ _)); exact BK332.out)) : gb332 ≠ gb333)); have n6_ := Aside0.mk ((by rw [hg]; exact Nat.ne_of_gt (blk_lt (g := gb332) (o := .cells #[.int .i64 a0_0, .int .i64 a0_1, .string a0_2] 41 (0, 0)) (by (with_reducible repeat (first | refine blk_drewN ?_ _ | refine blk_drew ?_ | refine blk_alloc ?_ _)); exact BK332.out)) : gb333 ≠ gb332)); clear BK332; clear HB; have BK332 := n0_; have HB := n1_; have BK333 := n2_; have GW333 := n3_; have GE333 := n4_; have NB332_333 := n5_; have NB333_332 := n6_; clear n0_ n1_ n2_ n3_ n4_ n5_ n6_; clear hb hbox hg; have hnb12 := NB332_333.out; have hnc12 := NB333_332.out; have hcz13_0 : w11.cell? ⟨gb332, 0, none⟩ = some (.int .i64 a0_0) := (blk_cell BK332.out 0).trans rfl; have hcz13_1 : w11.cell? ⟨gb332, 1, none⟩ = some (.int .i64 a0_1) := (blk_cell BK332.out 1).trans rfl; have hcz13_2 : w11.cell? ⟨gb332, 2, none⟩ = some (.string a0_2) := (blk_cell BK332.out 2).trans rfl; have hfz13_0 := blk_frozen BK332.out 0; have hfz13_1 := blk_frozen BK332.out 1; have hfz13_2 := blk_frozen BK332.out 2; have hcz14_0 : w11.cell? ⟨gb333, 0, none⟩ = some (.int .i64 a1_0) := (blk_cell BK333.out 0).trans rfl; have hcz14_1 : w11.cell? ⟨gb333, 1, none⟩ = some (.int .i64 a1_1) := (blk_cell BK333.out 1).trans rfl; have hcz14_2 : w11.cell? ⟨gb333, 2, none⟩ = some (.string a1_2) := (blk_cell BK333.out 2).trans rfl; have hfz14_0 := blk_frozen BK333.out 0; have hfz14_1 := blk_frozen BK333.out 1; have hfz14_2 := blk_frozen BK333.out 2))
      go_ret
      exact ⟨by first | rfl | (simp [errW_none, errW_some] <;> rfl) | (simp [*, errW_none, errW_some] <;> rfl), by repeat (first | (with_reducible first | exact HB.out | apply below_alloc | apply pw_below_drewN | apply below_drew1 | refine below_set ?_ GE332.out | refine below_set ?_ GE333.out) | exact HB.out)⟩
  · rw [if_neg c3] at H
    have c3b0 : (a0_0 == a1_0) = false := beq_eq_false_iff_ne.mpr c3
    have c3b1 : (a0_0 != a1_0) = true := bne_iff_ne.mpr c3
    obtain rfl := Option.some.inj H
    go_enter Try.func58, Try.ntmps58
    go_wp2_with (first | ((with_reducible refine gate_dst (N := 2) rfl ?_); refine box_event ?hg (N := 2) ?hd (cs := #[.int .i64 a0_0, .int .i64 a0_1, .string a0_2]) (t := 41) ?hr ?_; (case hd => rfl); (case hg => rfl); (case hr => first | (go_simp; done) | (go_simp; rfl)); intro gb332 hg w15 hbox hb; have n0_ := Aside0.mk (below_step (by repeat (first | (with_reducible first | exact HB.out | apply below_alloc | apply pw_below_drewN | apply below_drew1) | exact HB.out)) hb); have n1_ := Aside0.mk (hbox); have n2_ := Aside0.mk ((by rw [hg]; exact (below_size (by repeat (first | (with_reducible first | exact HB.out | apply below_alloc | apply pw_below_drewN | apply below_drew1) | exact HB.out))) : w.heap.size ≤ gb332)); have n3_ := Aside0.mk ((by rw [hg]; exact (below_size (by repeat (first | (with_reducible first | exact HB.out | apply below_alloc | apply pw_below_drewN | apply below_drew1) | exact HB.out))) : w.heap.size ≤ gb332)); clear HB; have HB := n0_; have BK332 := n1_; have GW332 := n2_; have GE332 := n3_; clear n0_ n1_ n2_ n3_; clear hb hbox hg) | ((with_reducible refine gate_dst (N := 3) rfl ?_); refine box_event ?hg (N := 3) ?hd (cs := #[.int .i64 a1_0, .int .i64 a1_1, .string a1_2]) (t := 41) ?hr ?_; (case hd => rfl); (case hg => rfl); (case hr => first | (go_simp; done) | (go_simp; rfl)); intro gb333 hg w16 hbox hb; have n0_ := Aside0.mk (blk_below (g := gb332) (o := .cells #[.int .i64 a0_0, .int .i64 a0_1, .string a0_2] 41 (0, 0)) (by (with_reducible repeat (first | refine blk_drewN ?_ _ | refine blk_drew ?_ | refine blk_alloc ?_ _)); exact BK332.out) hb); have n1_ := Aside0.mk (below_step (by repeat (first | (with_reducible first | exact HB.out | apply below_alloc | apply pw_below_drewN | apply below_drew1 | refine below_set ?_ GE332.out) | exact HB.out)) hb); have n2_ := Aside0.mk (hbox); have n3_ := Aside0.mk ((by rw [hg]; exact (below_size (by repeat (first | (with_reducible first | exact HB.out | apply below_alloc | apply pw_below_drewN | apply below_drew1 | refine below_set ?_ GE332.out) | exact HB.out))) : w.heap.size ≤ gb333)); have n4_ := Aside0.mk ((by rw [hg]; exact (below_size (by repeat (first | (with_reducible first | exact HB.out | apply below_alloc | apply pw_below_drewN | apply below_drew1 | refine below_set ?_ GE332.out) | exact HB.out))) : w.heap.size ≤ gb333)); have n5_ := Aside0.mk ((by rw [hg]; exact Nat.ne_of_lt (blk_lt (g := gb332) (o := .cells #[.int .i64 a0_0, .int .i64 a0_1, .string a0_2] 41 (0, 0)) (by (with_reducible repeat (first | refine blk_drewN ?_ _ | refine blk_drew ?_ | refine blk_alloc ?_ _)); exact BK332.out)) : gb332 ≠ gb333)); have n6_ := Aside0.mk ((by rw [hg]; exact Nat.ne_of_gt (blk_lt (g := gb332) (o := .cells #[.int .i64 a0_0, .int .i64 a0_1, .string a0_2] 41 (0, 0)) (by (with_reducible repeat (first | refine blk_drewN ?_ _ | refine blk_drew ?_ | refine blk_alloc ?_ _)); exact BK332.out)) : gb333 ≠ gb332)); clear BK332; clear HB; have BK332 := n0_; have HB := n1_; have BK333 := n2_; have GW333 := n3_; have GE333 := n4_; have NB332_333 := n5_; have NB333_332 := n6_; clear n0_ n1_ n2_ n3_ n4_ n5_ n6_; clear hb hbox hg; have hnb17 := NB332_333.out; have hnc17 := NB333_332.out; have hcz18_0 : w16.cell? ⟨gb332, 0, none⟩ = some (.int .i64 a0_0) := (blk_cell BK332.out 0).trans rfl; have hcz18_1 : w16.cell? ⟨gb332, 1, none⟩ = some (.int .i64 a0_1) := (blk_cell BK332.out 1).trans rfl; have hcz18_2 : w16.cell? ⟨gb332, 2, none⟩ = some (.string a0_2) := (blk_cell BK332.out 2).trans rfl; have hfz18_0 := blk_frozen BK332.out 0; have hfz18_1 := blk_frozen BK332.out 1; have hfz18_2 := blk_frozen BK332.out 2; have hcz19_0 : w16.cell? ⟨gb333, 0, none⟩ = some (.int .i64 a1_0) := (blk_cell BK333.out 0).trans rfl; have hcz19_1 : w16.cell? ⟨gb333, 1, none⟩ = some (.int .i64 a1_1) := (blk_cell BK333.out 1).trans rfl; have hcz19_2 : w16.cell? ⟨gb333, 2, none⟩ = some (.string a1_2) := (blk_cell BK333.out 2).trans rfl; have hfz19_0 := blk_frozen BK333.out 0; have hfz19_1 := blk_frozen BK333.out 1; have hfz19_2 := blk_frozen BK333.out 2))
    go_ret
    exact ⟨by first | rfl | (simp [errW_none, errW_some] <;> rfl) | (simp [*, errW_none, errW_some] <;> rfl), by repeat (first | (with_reducible first | exact HB.out | apply below_alloc | apply pw_below_drewN | apply below_drew1 | refine below_set ?_ GE332.out | refine below_set ?_ GE333.out) | exact HB.out)⟩
end Go.Proofs.Ythegdcodjhbonaa.PA
