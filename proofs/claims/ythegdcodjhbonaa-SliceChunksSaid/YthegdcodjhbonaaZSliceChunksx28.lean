/- What the statements' helper makes of few numbers: values, rows, entries, z-sets; that it makes them, and what is known of them. -/
import Derived.Test.YthegdcodjhbonaaZSliceChunksx27
import Derived.OpenShut
import Derived.Test.YthegdcodjhbonaaZSliceChunksx18
import Derived.Test.YthegdcodjhbonaaZSliceChunksx15
import Derived.Test.YthegdcodjhbonaaZSliceChunksx14
namespace Go.Proofs.Ythegdcodjhbonaa.ThA
open Go.RowKit Go.Proofs.Ythegdcodjhbonaa.PA Go.Proofs.YthegdcodjhbonaaW.PrintWords Go.Proofs.YthegdcodjhbonaaW.PrintLast Go.Proofs.YthegdcodjhbonaaW.PrintMore
theorem fits_of_wf {x : Int} (h : (Lit.int .i64 x).wf = true) : fits x := by
  exact bounds_i64 h
theorem next_ok (L : List Int) (_hL : ∀ x ∈ L, fits x) (a : Int) (h0 : 0 ≤ a) (h1 : a ≤ 1000000000) (b : Int) (hb : 0 < b) (hb2 : b ≤ 4611686018427387904) :
    ∃ r, belvederemake_Seq_Next.f L a b = some (r, a + 1) ∧ 0 ≤ r ∧ r < b := by
  have hw : wrap64 (a + 1) = a + 1 := by unfold wrap64; omega
  have hn : ∀ n : Int, ∃ r, belvedereworld_Number.f n b = some r ∧ 0 ≤ r ∧ r < b := by
    intro n
    unfold belvedereworld_Number.f
    rw [if_neg (by omega)]
    have q1 := Int.tmod_lt_of_pos n hb
    have q2 : -b < Int.tmod n b := by
      have := Int.tmod_lt_of_pos (-n) hb
      rw [Int.neg_tmod] at this
      omega
    by_cases c : Int.tmod n b < 0
    · rw [if_pos c]
      refine ⟨_, rfl, ?_, ?_⟩ <;> (unfold wrap64; omega)
    · rw [if_neg c]
      exact ⟨_, rfl, by omega, q1⟩
  unfold belvederemake_Seq_Next.f
  rw [hw]
  by_cases c : a < (L.length : Int)
  · rw [if_pos c, if_pos h0]
    obtain ⟨r, hr, q⟩ := hn (rd L a)
    exact ⟨r, by rw [hr]; rfl, q⟩
  · rw [if_neg c]
    obtain ⟨r, hr, q⟩ := hn 0
    exact ⟨r, by rw [hr]; rfl, q⟩
/-- A value that is made: Null, or of its kind. -/
def ValOK (kind : Int) (v : S41) : Prop := fits v.f1 ∧ v.f2.size ≤ 4 ∧ (v = ⟨0, 0, ⟨#[]⟩⟩ ∨ v.f0 = kind)
theorem rd_fits {y : List Int} (hy : ∀ x ∈ y, fits x) (i : Int) : fits (rd y i) := by
  unfold rd
  rw [List.getD_eq_getElem?_getD]
  cases h : y[i.toNat]? with
  | none => unfold fits; simp
  | some v => exact hy v (List.mem_of_getElem? h)
theorem mn_ok {a b c : Int} (ha : 0 ≤ a) (hb : 0 ≤ b) (h : a < c) : 0 ≤ mn a b ∧ mn a b < c := by
  unfold mn
  split <;> omega
theorem value_ok (L : List Int) (hL : ∀ x ∈ L, fits x) (a : Int) (h0 : 0 ≤ a) (h1 : a ≤ 900000000) (kind : Int) (hk : kind = 1 ∨ kind = 2 ∨ kind = 3) :
    ∃ (v : S41) (a' : Int), Ev (fun k => belvederemake_Value.f k L a kind) (v.f0, v.f1, v.f2, a') ∧ a ≤ a' ∧ a' ≤ a + 4 ∧ ValOK kind v := by
  obtain ⟨r1, e1, p1, q1⟩ := next_ok L hL a h0 (by omega) 7 (by omega) (by omega)
  have start : ∀ k, belvederemake_Value.f k L a kind = belvederemake_Value.j0 k kind L a := by
    intro k
    unfold belvederemake_Value.f
    rw [if_neg (by omega)]
  by_cases c1 : r1 = 0
  · refine ⟨⟨0, 0, ⟨#[]⟩⟩, a + 1, Ev.congr start ⟨1, fun k hk => ?_⟩, by omega, by omega, by unfold fits; simp, by simp [ByteArray.size], .inl rfl⟩
    obtain ⟨m, rfl⟩ : ∃ m, k = m + 1 := ⟨k - 1, by omega⟩
    simp only [belvederemake_Value.j0, e1, Option.bind_some]
    rw [if_pos c1]
  · rcases hk with rfl | hk
    · obtain ⟨r2, e2, p2, q2⟩ := next_ok L hL (a + 1) (by omega) (by omega) 9 (by omega) (by omega)
      obtain ⟨r3, e3, p3, q3⟩ := next_ok L hL (a + 1 + 1) (by omega) (by omega) 30 (by omega) (by omega)
      have hm := mn_ok p2 p3 q2
      refine ⟨⟨1, rd [0, 1, 2, 3, (-1), 7, 1099511627776, (-9223372036854775808), 9223372036854775807] (mn r2 r3), ⟨#[]⟩⟩, a + 1 + 1 + 1, Ev.congr start ⟨1, fun k hk => ?_⟩, by omega, by omega, rd_fits (by intro x hx; simp at hx; unfold fits; omega) _, by simp [ByteArray.size], .inr rfl⟩
      obtain ⟨m, rfl⟩ : ∃ m, k = m + 1 := ⟨k - 1, by omega⟩
      simp only [belvederemake_Value.j0, e1, Option.bind_some]
      rw [if_neg c1, if_pos trivial]
      simp only [e2, e3, Option.bind_some]
      rw [if_pos hm.1, if_pos (by simp; omega)]
    · rcases hk with rfl | rfl
      · obtain ⟨r2, e2, p2, q2⟩ := next_ok L hL (a + 1) (by omega) (by omega) 5 (by omega) (by omega)
        refine ⟨⟨2, 0, rdOf ByteArray.empty [(⟨#[]⟩ : ByteArray), (⟨#[97]⟩ : ByteArray), (⟨#[98]⟩ : ByteArray), (⟨#[105, 116, 39, 115]⟩ : ByteArray), (⟨#[97, 98]⟩ : ByteArray)] r2⟩, a + 1 + 1, Ev.congr start ⟨1, fun k hk => ?_⟩, by omega, by omega, by unfold fits; simp, ?_, .inr rfl⟩
        · obtain ⟨m, rfl⟩ : ∃ m, k = m + 1 := ⟨k - 1, by omega⟩
          simp only [belvederemake_Value.j0, e1, Option.bind_some]
          rw [if_neg c1, if_neg (by omega), if_pos trivial]
          simp only [e2, Option.bind_some]
          rw [if_pos p2, if_pos (by simp; omega)]
        · have hc : r2 = 0 ∨ r2 = 1 ∨ r2 = 2 ∨ r2 = 3 ∨ r2 = 4 := by omega
          rcases hc with rfl | rfl | rfl | rfl | rfl <;> decide
      · obtain ⟨r2, e2, p2, q2⟩ := next_ok L hL (a + 1) (by omega) (by omega) 2 (by omega) (by omega)
        refine ⟨⟨3, r2, ⟨#[]⟩⟩, a + 1 + 1, Ev.congr start ⟨1, fun k hk => ?_⟩, by omega, by omega, by unfold fits; simp only; omega, by simp [ByteArray.size], .inr rfl⟩
        obtain ⟨m, rfl⟩ : ∃ m, k = m + 1 := ⟨k - 1, by omega⟩
        simp only [belvederemake_Value.j0, e1, Option.bind_some]
        rw [if_neg c1, if_neg (by omega), if_neg (by omega)]
        simp only [e2, Option.bind_some]
/-- A row that is made of columns' types. -/
def RowOK (cols : List Int) (r : List S41) : Prop := r.length = cols.length ∧ ∀ j (h : j < r.length) (h' : j < cols.length), ValOK cols[j] r[j]
theorem rdI {x : List Int} {n : Nat} (h : n < x.length) : rd x (n : Int) = x[n] := by unfold rd; simp [h]
def Kinds (cols : List Int) : Prop := ∀ c ∈ cols, c = 1 ∨ c = 2 ∨ c = 3
theorem row_ok (L : List Int) (hL : ∀ x ∈ L, fits x) (cols : List Int) (hc : Kinds cols) (hn : cols.length ≤ 1000) (a : Int) (h0 : 0 ≤ a) (h1 : a ≤ 800000000) :
    ∃ (r : List S41) (a' : Int), Ev (fun k => belvederemake_Row.f k L a cols) (r, a') ∧ a ≤ a' ∧ a' ≤ a + 4 * (cols.length : Int) ∧ RowOK cols r := by
  have key : ∀ (d n : Nat) (o : List S41) (b : Int), cols.length - n = d → n ≤ cols.length → o.length = n → (∀ j (h : j < o.length) (h' : j < cols.length), ValOK cols[j] o[j]) → a ≤ b → b ≤ a + 4 * (n : Int) →
      ∃ (r : List S41) (a' : Int), Ev (fun k => belvederemake_Row.l0 k cols o (n : Int) L b) (r, a') ∧ a ≤ a' ∧ a' ≤ a + 4 * (cols.length : Int) ∧ RowOK cols r := by
    intro d
    induction d with
    | zero =>
      intro n o b hd hn2 ho hv hb1 hb2
      refine ⟨o, b, ⟨1, fun k hk => ?_⟩, hb1, by omega, by omega, hv⟩
      obtain ⟨m, rfl⟩ : ∃ m, k = m + 1 := ⟨k - 1, by omega⟩
      simp only [belvederemake_Row.l0]
      rw [if_neg (by omega)]
    | succ d ih =>
      intro n o b hd hn2 ho hv hb1 hb2
      have hlt : n < cols.length := by omega
      obtain ⟨v, b', e, q1, q2, qv⟩ := value_ok L hL b (by omega) (by omega) cols[n] (hc _ (List.getElem_mem hlt))
      obtain ⟨r, a', e', p⟩ := ih (n + 1) (o ++ [v]) b' (by omega) (by omega) (by simp; omega) (fun j h h' => by
        by_cases hj : j < o.length
        · rw [List.getElem_append_left hj]; exact hv j hj h'
        · have hjn : j = n := by simp at h; omega
          subst hjn
          rw [List.getElem_append_right (by omega)]
          simpa [ho] using qv) (by omega) (by omega)
      refine ⟨r, a', Ev.step (f := fun k => (belvederemake_Value.f k L b cols[n]).bind fun bt => belvederemake_Row.l0 k cols (o ++ [(⟨bt.1, bt.2.1, bt.2.2.1⟩ : S41)]) ((n + 1 : Nat) : Int) L bt.2.2.2) (fun k => ?_) (Ev.bind e e'), p⟩
      simp only [belvederemake_Row.l0]
      rw [if_pos (by omega), if_pos (by omega), rdI hlt, wrap_succ (by unfold BND; omega)]
      simp only [if_pos (show o.length < 4398046511104 by omega)]
  obtain ⟨r, a', e, p⟩ := key cols.length 0 [] a (by omega) (by omega) rfl (fun j h => by simp at h) (Int.le_refl _) (by omega)
  exact ⟨r, a', by simpa [belvederemake_Row.f] using e, p⟩
theorem weight_ok (L : List Int) (hL : ∀ x ∈ L, fits x) (a : Int) (h0 : 0 ≤ a) (h1 : a ≤ 900000000) : ∃ w, belvederemake_Weight.f L a = some (w, a + 2) ∧ fits w := by
  obtain ⟨r2, e2, p2, q2⟩ := next_ok L hL a (by omega) (by omega) 11 (by omega) (by omega)
  obtain ⟨r3, e3, p3, q3⟩ := next_ok L hL (a + 1) (by omega) (by omega) 60 (by omega) (by omega)
  have hm := mn_ok p2 p3 q2
  unfold belvederemake_Weight.f
  simp only [Option.bind_some, e2, e3]
  rw [if_pos hm.1, if_pos (by simp; omega)]
  exact ⟨_, by rw [show a + 1 + 1 = a + 2 by omega], rd_fits (by intro x hx; simp at hx; unfold fits; omega) _⟩
/-- Entries that are made. -/
def EntOK (cols : List Int) (l : List S36) : Prop := ∀ e ∈ l, RowOK cols e.f0 ∧ fits e.f1
theorem entries_ok (L : List Int) (hL : ∀ x ∈ L, fits x) (cols : List Int) (hc : Kinds cols) (hn : cols.length ≤ 1000) (most : Int) (hm0 : 0 ≤ most) (hm : most ≤ 1000) (a : Int) (h0 : 0 ≤ a) (h1 : a ≤ 700000000) :
    ∃ (l : List S36) (a' : Int), Ev (fun k => belvederemake_Entries.f k L a cols most) (l, a') ∧ a ≤ a' ∧ a' ≤ a + 1 + most * (4 * (cols.length : Int) + 2) ∧ (l.length : Int) ≤ most ∧ EntOK cols l := by
  have hw : wrap64 (most + 1) = most + 1 := by unfold wrap64; omega
  obtain ⟨n, en, pn, qn⟩ := next_ok L hL a h0 (by omega) (most + 1) (by omega) (by omega)
  have key : ∀ (d : Nat) (o : List S36) (b : Int), (d : Int) ≤ most → a + 1 ≤ b → b ≤ a + 1 + (most - d) * (4 * (cols.length : Int) + 2) → (o.length : Int) + d ≤ most → EntOK cols o →
      ∃ (l : List S36) (a' : Int), Ev (fun k => belvederemake_Entries.l0 k cols o (d : Int) L b) (l, a') ∧ a ≤ a' ∧ a' ≤ a + 1 + most * (4 * (cols.length : Int) + 2) ∧ (l.length : Int) ≤ most ∧ EntOK cols l := by
    intro d
    induction d with
    | zero =>
      intro o b hd hb1 hb2 ho hE
      refine ⟨o, b, ⟨1, fun k hk => ?_⟩, by omega, by simpa using hb2, by omega, hE⟩
      obtain ⟨m, rfl⟩ : ∃ m, k = m + 1 := ⟨k - 1, by omega⟩
      simp only [belvederemake_Entries.l0]
      rw [if_neg (by omega)]
    | succ d ih =>
      intro o b hd hb1 hb2 ho hE
      have e0 : (most - ((d + 1 : Nat) : Int)) * (4 * (cols.length : Int) + 2) + (4 * (cols.length : Int) + 2) = (most - (d : Int)) * (4 * (cols.length : Int) + 2) := by
        rw [show most - (d : Int) = (most - ((d + 1 : Nat) : Int)) + 1 by omega, Int.add_mul, Int.one_mul]
      have e1 : (most - ((d + 1 : Nat) : Int)) * (4 * (cols.length : Int) + 2) ≤ 1000 * 4002 := Int.mul_le_mul (by omega) (by omega) (by omega) (by omega)
      obtain ⟨r, b1, er, p1, q1, hr⟩ := row_ok L hL cols hc hn b (by omega) (by omega)
      obtain ⟨w, ew, hw2⟩ := weight_ok L hL b1 (by omega) (by omega)
      obtain ⟨l, a', e', p⟩ := ih (o ++ [⟨r, w⟩]) (b1 + 2) (by omega) (by omega) (by omega) (by simp; omega) (fun e he => by
        rcases List.mem_append.1 he with he | he
        · exact hE e he
        · rw [List.mem_singleton.1 he]; exact ⟨hr, hw2⟩)
      refine ⟨l, a', Ev.step (f := fun k => (belvederemake_Row.f k L b cols).bind fun bt => (belvederemake_Weight.f L bt.2).bind fun u => if o.length < 4398046511104 then belvederemake_Entries.l0 k cols (o ++ [(⟨bt.1, u.1⟩ : S36)]) (d : Int) L u.2 else none) (fun k => ?_) (Ev.bind er ?_), p⟩
      · simp only [belvederemake_Entries.l0]
        rw [if_pos (by omega), show wrap64 (((d + 1 : Nat) : Int) - 1) = (d : Int) by unfold wrap64; omega]
      · simp only [ew, Option.bind_some, if_pos (show o.length < 4398046511104 by omega)]
        exact e'
  obtain ⟨m, rfl⟩ := Int.eq_ofNat_of_zero_le pn
  have e2 : 0 ≤ (most - (m : Int)) * (4 * (cols.length : Int) + 2) := Int.mul_nonneg (by omega) (by omega)
  obtain ⟨l, a', e, p⟩ := key m [] (a + 1) (by omega) (by omega) (by omega) (by simp; omega) (fun e he => by cases he)
  refine ⟨l, a', Ev.congr (fun k => ?_) e, p⟩
  unfold belvederemake_Entries.f
  rw [hw, en]
  rfl
theorem gat_keys {l : List S36} {P : List S41 → Prop} (h : ∀ e ∈ l, P e.f0) : ∀ e ∈ gat l, P e.f0 := by
  have key : ∀ (l s : List S36), (∀ e ∈ l, P e.f0) → (∀ e ∈ s, P e.f0) → ∀ e ∈ l.foldl (fun s e => ins e.f0 e.f1 s) s, P e.f0 := by
    intro l
    induction l with
    | nil => intro s _ hs; exact hs
    | cons x t ih => intro s hl hs; exact ih _ (fun e he => hl e (List.mem_cons_of_mem _ he)) (ins_rows (hl x List.mem_cons_self) hs)
  exact key l [] h (fun e he => by cases he)
theorem mk_keys {l : List S36} {P : List S41 → Prop} (h : ∀ e ∈ l, P e.f0) : ∀ e ∈ mk l, P e.f0 := fun e he => gat_keys h e (List.mem_filter.1 he).1
theorem gat_small (l : List S36) (B : Int) (hB : 0 ≤ B) (hf : ∀ e ∈ l, -B ≤ e.f1 ∧ e.f1 ≤ B) : ∀ e ∈ gat l, -((l.length : Int) * B) ≤ e.f1 ∧ e.f1 ≤ (l.length : Int) * B := by
  have key : ∀ (l s : List S36) (C : Int), 0 ≤ C → (∀ e ∈ l, -B ≤ e.f1 ∧ e.f1 ≤ B) → (∀ e ∈ s, -C ≤ e.f1 ∧ e.f1 ≤ C) → ∀ e ∈ l.foldl (fun s e => ins e.f0 e.f1 s) s, -(C + (l.length : Int) * B) ≤ e.f1 ∧ e.f1 ≤ C + (l.length : Int) * B := by
    intro l
    induction l with
    | nil => intro s C hC _ hs e he; simp at he ⊢; exact hs e he
    | cons x t ih =>
      intro s C hC hf hs e he
      have := ih (ins x.f0 x.f1 s) (C + B) (by omega) (fun e he => hf e (List.mem_cons_of_mem _ he)) (ins_bound hC hB (hf x List.mem_cons_self) hs) e he
      simp only [List.length_cons]
      rw [show ((t.length + 1 : Nat) : Int) * B = (t.length : Int) * B + B by rw [Int.natCast_add, Int.add_mul]; simp]
      omega
  have := key l [] 0 (by omega) hf (fun e he => by cases he)
  simpa [gat] using this
theorem set_len (x : List S36) (e : S36) (n : Nat) : (x.set n e).length = x.length := List.length_set
/-- A z-set that is made, of small weights. -/
def SetOK (cols : List Int) (most : Int) (z : List S36) : Prop := Canon z ∧ (z.length : Int) ≤ most ∧ ∀ e ∈ z, RowOK cols e.f0 ∧ -(most * 99) ≤ e.f1 ∧ e.f1 ≤ most * 99
theorem set_ok (L : List Int) (hL : ∀ x ∈ L, fits x) (cols : List Int) (hc : Kinds cols) (hn : cols.length ≤ 1000) (most : Int) (hm0 : 0 ≤ most) (hm : most ≤ 1000) (a : Int) (h0 : 0 ≤ a) (h1 : a ≤ 700000000) :
    ∃ (z : List S36) (a' : Int), Ev (fun k => belvederemake_Set.f k L a cols most) (z, a') ∧ a ≤ a' ∧ a' ≤ a + 1 + most * (4 * (cols.length : Int) + 2) ∧ SetOK cols most z := by
  obtain ⟨l, a', e, p1, p2, p3, pE⟩ := entries_ok L hL cols hc hn most hm0 hm a h0 h1
  have hlb : l.length ≤ 1000 := by omega
  have key : ∀ (d n : Nat) (o : List S36), o.length - n = d → n ≤ o.length → o.length = l.length → (∀ e ∈ o, RowOK cols e.f0) → (∀ j (h : j < o.length), j < n → -99 ≤ o[j].f1 ∧ o[j].f1 ≤ 99) →
      ∃ z : List S36, Ev (fun k => belvederemake_Set.l0 k o (n : Int) L a') (z, a') ∧ SetOK cols most z := by
    intro d
    induction d with
    | zero =>
      intro n o hd hn2 hol hr hs
      have hs' : ∀ e ∈ o, -99 ≤ e.f1 ∧ e.f1 ≤ 99 := by
        intro e he
        obtain ⟨j, hj, rfl⟩ := List.getElem_of_mem he
        exact hs j hj (by omega)
      have hg := gat_small o 99 (by omega) hs'
      have hmk : mkF o = (mk o, 0) := by
        unfold mkF
        rw [if_pos (fun e he => by have := hg e he; unfold fits; omega)]
      have hmake := ev_make o (by omega) (fun e he => by have := hs' e he; unfold fits; omega) (fun e he => by have := (hr e he).1; unfold BND; omega)
      rw [hmk] at hmake
      refine ⟨mk o, Ev.step (f := fun k => (belvedereref1_Make.f k o).bind fun bt => some (bt.1, a')) (fun k => ?_) (Ev.bind hmake (Ev.now _)), mk_canon o, by have := mk_length o; omega, fun e he => ⟨mk_keys hr e he, ?_⟩⟩
      · simp only [belvederemake_Set.l0]
        rw [if_neg (by omega)]
      · have h3 := hg e (List.mem_filter.1 he).1
        have h4 : (o.length : Int) * 99 ≤ most * 99 := by omega
        omega
    | succ d ih =>
      intro n o hd hn2 hol hr hs
      have hlt : n < o.length := by omega
      have q1 := Int.tmod_lt_of_pos o[n].f1 (show (0 : Int) < 100 by omega)
      have q2 : -100 < Int.tmod o[n].f1 100 := by
        have := Int.tmod_lt_of_pos (-o[n].f1) (show (0 : Int) < 100 by omega)
        rw [Int.neg_tmod] at this
        omega
      obtain ⟨z, ez, hz⟩ := ih (n + 1) (o.set n ⟨o[n].f0, Int.tmod o[n].f1 100⟩) (by rw [set_len]; omega) (by rw [set_len]; omega) (by rw [set_len]; exact hol) (fun e he => by
        rcases List.mem_or_eq_of_mem_set he with he | rfl
        · exact hr e he
        · have hh := hr _ (List.getElem_mem hlt); exact hh) (fun j h hj => by
        rw [List.getElem_set]
        split
        · simp only; omega
        · exact hs j (by rw [set_len] at h; exact h) (by omega))
      refine ⟨z, Ev.step (f := fun k => belvederemake_Set.l0 k (o.set n ⟨o[n].f0, Int.tmod o[n].f1 100⟩) ((n + 1 : Nat) : Int) L a') (fun k => ?_) ez, hz⟩
      simp only [belvederemake_Set.l0]
      rw [if_pos (by omega), if_pos (by omega), rdE hlt, wrap_succ (by unfold BND; omega)]
      simp only [Int.toNat_natCast]
  obtain ⟨z, ez, hz⟩ := key l.length 0 l (by omega) (by omega) rfl (fun e he => (pE e he).1) (fun j _ h => by omega)
  exact ⟨z, a', Ev.congr (fun k => by rw [belvederemake_Set.f]) (Ev.bind e ez), p1, p2, hz⟩
end Go.Proofs.Ythegdcodjhbonaa.ThA
