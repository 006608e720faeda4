/- The order of values and rows, and lists of rows with weights: sorted, each row once; plain facts on them. No program in sight. -/
import Derived.Test.YthegdcodjhbonaaZSliceChunksx13
import Derived.Lib.Bytealg
namespace Go.Proofs.Ythegdcodjhbonaa.ThA
open Go.Proofs.Ythegdcodjhbonaa.PA
structure Lawful {α : Type} (c : α → α → Int) : Prop where
  rng : ∀ a b, c a b = -1 ∨ c a b = 0 ∨ c a b = 1
  zero : ∀ a b, c a b = 0 ↔ a = b
  anti : ∀ a b, c b a = - c a b
  tr : ∀ a b d, c a b = -1 → c b d = -1 → c a d = -1
def cmpI (a b : Int) : Int := if a < b then -1 else if b < a then 1 else 0
theorem cmpI_lawful : Lawful cmpI where
  rng a b := by unfold cmpI; split; · exact .inl rfl
                · split; · exact .inr (.inr rfl)
                  · exact .inr (.inl rfl)
  zero a b := by unfold cmpI; constructor
                 · intro h; split at h; · omega
                   · split at h <;> omega
                 · intro h; subst h; simp
  anti a b := by unfold cmpI; split <;> split <;> (try split) <;> omega
  tr a b d := by unfold cmpI; intro h1 h2; split at h1; · split at h2; · rw [if_pos (by omega)]
                                                          · split at h2 <;> omega
                 · split at h1 <;> omega
/-- Lists, the first unlike element decides. -/
def lexL {α : Type} (c : α → α → Int) : List α → List α → Int
  | [], [] => 0
  | [], _ :: _ => -1
  | _ :: _, [] => 1
  | a :: x, b :: y => if c a b = 0 then lexL c x y else c a b
theorem lexL_lawful {α : Type} {c : α → α → Int} (h : Lawful c) : Lawful (lexL c) where
  rng := by
    intro x
    induction x with
    | nil => intro y; cases y <;> simp [lexL]
    | cons a x ih =>
      intro y
      cases y with
      | nil => simp [lexL]
      | cons b y =>
        simp only [lexL]
        split
        · exact ih y
        · exact h.rng a b
  zero := by
    intro x
    induction x with
    | nil => intro y; cases y <;> simp [lexL]
    | cons a x ih =>
      intro y
      cases y with
      | nil => simp [lexL]
      | cons b y =>
        simp only [lexL]
        split
        · rename_i h0
          rw [ih y, List.cons.injEq, (h.zero a b).1 h0]
          simp
        · rename_i h0
          constructor
          · intro h1; exact absurd h1 h0
          · intro h1; injection h1 with h1 h2; exact absurd ((h.zero a b).2 h1) h0
  anti := by
    intro x
    induction x with
    | nil => intro y; cases y <;> simp [lexL]
    | cons a x ih =>
      intro y
      cases y with
      | nil => simp [lexL]
      | cons b y =>
        simp only [lexL]
        rw [h.anti a b]
        by_cases h0 : c a b = 0
        · rw [if_pos (by omega), if_pos h0]; exact ih y
        · rw [if_neg (by omega), if_neg h0]
  tr := by
    intro x
    induction x with
    | nil =>
      intro y z h1 h2
      cases y with
      | nil => simp [lexL] at h1
      | cons b y => cases z with
        | nil => simp [lexL] at h2
        | cons d z => simp [lexL]
    | cons a x ih =>
      intro y z h1 h2
      cases y with
      | nil => simp [lexL] at h1
      | cons b y => cases z with
        | nil => simp [lexL] at h2
        | cons d z =>
          simp only [lexL] at h1 h2 ⊢
          by_cases hab : c a b = 0
          · have e := (h.zero a b).1 hab
            subst e
            rw [if_pos hab] at h1
            by_cases hbd : c a d = 0
            · rw [if_pos hbd] at h2 ⊢; exact ih y z h1 h2
            · rw [if_neg hbd] at h2 ⊢; exact h2
          · rw [if_neg hab] at h1
            by_cases hbd : c b d = 0
            · have e := (h.zero b d).1 hbd
              subst e
              rw [if_neg hab]; exact h1
            · rw [if_neg hbd] at h2
              have h3 := h.tr a b d h1 h2
              rw [if_neg (by omega)]; exact h3
/-- The first, then the second. -/
def andThen (c d : Int) : Int := if c = 0 then d else c
theorem on2_lawful {α β γ : Type} {c : β → β → Int} {d : γ → γ → Int} (hc : Lawful c) (hd : Lawful d) (f : α → β) (g : α → γ) (hfg : ∀ a b, f a = f b → g a = g b → a = b) : Lawful (fun a b => andThen (c (f a) (f b)) (d (g a) (g b))) where
  rng a b := by unfold andThen; split; · exact hd.rng _ _
                · exact hc.rng _ _
  zero a b := by
    unfold andThen
    split
    · rename_i h0
      rw [hd.zero]
      exact ⟨fun h => hfg a b ((hc.zero _ _).1 h0) h, fun h => by rw [h]⟩
    · rename_i h0
      exact ⟨fun h => absurd h h0, fun h => absurd ((hc.zero _ _).2 (by rw [h])) h0⟩
  anti a b := by
    show andThen (c (f b) (f a)) (d (g b) (g a)) = - andThen (c (f a) (f b)) (d (g a) (g b))
    rw [hc.anti (f a) (f b), hd.anti (g a) (g b)]
    unfold andThen
    by_cases h0 : c (f a) (f b) = 0
    · rw [if_pos (by omega), if_pos h0]
    · rw [if_neg (by omega), if_neg h0]
  tr a b e h1 h2 := by
    have h1 : andThen (c (f a) (f b)) (d (g a) (g b)) = -1 := h1
    have h2 : andThen (c (f b) (f e)) (d (g b) (g e)) = -1 := h2
    show andThen (c (f a) (f e)) (d (g a) (g e)) = -1
    unfold andThen at *
    by_cases hab : c (f a) (f b) = 0
    · rw [if_pos hab] at h1
      have e1 := (hc.zero _ _).1 hab
      rw [← e1] at h2
      by_cases hbd : c (f a) (f e) = 0
      · rw [if_pos hbd] at h2 ⊢; exact hd.tr _ _ _ h1 h2
      · rw [if_neg hbd] at h2 ⊢; exact h2
    · rw [if_neg hab] at h1
      by_cases hbd : c (f b) (f e) = 0
      · have e1 := (hc.zero _ _).1 hbd
        rw [← e1, if_neg hab]; exact h1
      · rw [if_neg hbd] at h2
        have h3 := hc.tr _ _ _ h1 h2
        rw [if_neg (by omega)]; exact h3
def cmp8 (a b : UInt8) : Int := if a < b then -1 else if b < a then 1 else 0
theorem cmp8_lawful : Lawful cmp8 := by
  have key : ∀ a b : UInt8, cmp8 a b = cmpI a.toNat b.toNat := by
    intro a b
    unfold cmp8 cmpI
    simp only [UInt8.lt_iff_toNat_lt, Int.ofNat_lt]
  constructor
  · intro a b; rw [key]; exact cmpI_lawful.rng _ _
  · intro a b; rw [key, cmpI_lawful.zero]
    constructor
    · intro h; exact UInt8.toNat_inj.1 (by omega)
    · intro h; rw [h]
  · intro a b; rw [key, key]; exact cmpI_lawful.anti _ _
  · intro a b d; rw [key, key, key]; exact cmpI_lawful.tr _ _ _
def cmpS (a b : ByteArray) : Int := lexL cmp8 a.data.toList b.data.toList
theorem compareBytes_eq : ∀ a b : List UInt8, Lib.compareBytes a b = lexL cmp8 a b := by
  intro a
  induction a with
  | nil => intro b; cases b <;> simp [Lib.compareBytes, lexL]
  | cons x a ih =>
    intro b
    cases b with
    | nil => simp [Lib.compareBytes, lexL]
    | cons y b =>
      simp only [Lib.compareBytes, lexL]
      unfold cmp8
      by_cases h1 : x < y
      · simp [h1]
      · by_cases h2 : y < x
        · simp [h1, h2]
        · simp [h1, h2]; exact ih b
theorem cmpS_lawful : Lawful cmpS := by
  have h := lexL_lawful cmp8_lawful
  constructor
  · intro a b; exact h.rng _ _
  · intro a b
    unfold cmpS
    rw [h.zero]
    constructor
    · intro e
      rcases a with ⟨⟨a⟩⟩; rcases b with ⟨⟨b⟩⟩
      simp at e
      rw [e]
    · intro e; rw [e]
  · intro a b; exact h.anti _ _
  · intro a b d; exact h.tr _ _ _
/-- Values, as the document orders them. -/
def cv (a b : S41) : Int := andThen (cmpI a.f0 b.f0) (andThen (cmpI a.f1 b.f1) (cmpS a.f2 b.f2))
theorem cv_lawful : Lawful cv := by
  have h1 := on2_lawful (α := Int × ByteArray) cmpI_lawful cmpS_lawful Prod.fst Prod.snd (fun a b h1 h2 => Prod.ext h1 h2)
  exact on2_lawful (α := S41) (c := cmpI) (d := fun a b => andThen (cmpI a.1 b.1) (cmpS a.2 b.2)) cmpI_lawful h1 S41.f0 (fun x => (x.f1, x.f2)) (fun a b e1 e2 => by
    cases a; cases b; simp at e1 e2; simp [e1, e2])
/-- Rows. -/
def cr : List S41 → List S41 → Int := lexL cv
theorem cr_lawful : Lawful cr := lexL_lawful cv_lawful
theorem cr_refl (a : List S41) : cr a a = 0 := (cr_lawful.zero a a).2 rfl
theorem cr_eq {a b : List S41} (h : cr a b = 0) : a = b := (cr_lawful.zero a b).1 h
theorem cr_lt_of_not {a b : List S41} (h1 : ¬ cr a b = -1) (h2 : ¬ cr a b = 0) : cr b a = -1 := by
  have := cr_lawful.rng a b
  have := cr_lawful.anti a b
  omega
theorem cr_neg_iff {a b : List S41} : cr a b < 0 ↔ cr a b = -1 := by
  have := cr_lawful.rng a b
  omega
def Srt (l : List S36) : Prop := l.Pairwise (fun a b => cr a.f0 b.f0 = -1)
def get : List S36 → List S41 → Int
  | [], _ => 0
  | e :: t, r => if cr e.f0 r = 0 then e.f1 else get t r
theorem get_none {l : List S36} {r : List S41} (h : ∀ e ∈ l, cr e.f0 r ≠ 0) : get l r = 0 := by
  induction l with
  | nil => rfl
  | cons e t ih =>
    rw [get, if_neg (h e List.mem_cons_self)]
    exact ih (fun x hx => h x (List.mem_cons_of_mem _ hx))
/-- A z-set: in order, each row once, none 0 times. -/
def Canon (l : List S36) : Prop := Srt l ∧ ∀ e ∈ l, e.f1 ≠ 0
/-- A row's weight more. -/
def ins (r : List S41) (n : Int) : List S36 → List S36
  | [] => [⟨r, n⟩]
  | e :: t => if cr e.f0 r = -1 then e :: ins r n t else if cr e.f0 r = 0 then ⟨e.f0, e.f1 + n⟩ :: t else ⟨r, n⟩ :: e :: t
theorem ins_keys {r : List S41} {n : Int} {l : List S36} : ∀ e ∈ ins r n l, e.f0 = r ∨ ∃ x ∈ l, x.f0 = e.f0 := by
  induction l with
  | nil => intro e he; rw [ins] at he; rw [List.mem_singleton.1 he]; exact .inl rfl
  | cons x t ih =>
    intro e he
    rw [ins] at he
    split at he
    · rcases List.mem_cons.1 he with rfl | he
      · exact .inr ⟨e, List.mem_cons_self, rfl⟩
      · rcases ih e he with h | ⟨y, hy, hk⟩
        · exact .inl h
        · exact .inr ⟨y, List.mem_cons_of_mem _ hy, hk⟩
    · split at he
      · rcases List.mem_cons.1 he with rfl | he
        · exact .inr ⟨x, List.mem_cons_self, rfl⟩
        · exact .inr ⟨e, List.mem_cons_of_mem _ he, rfl⟩
      · rcases List.mem_cons.1 he with rfl | he
        · exact .inl rfl
        · exact .inr ⟨e, he, rfl⟩
theorem ins_srt {r : List S41} {n : Int} {l : List S36} (hs : Srt l) : Srt (ins r n l) := by
  induction l with
  | nil => exact List.pairwise_singleton _ _
  | cons x t ih =>
    have hx := List.pairwise_cons.1 hs
    rw [ins]
    split
    · rename_i h1
      refine List.pairwise_cons.2 ⟨fun e he => ?_, ih hx.2⟩
      rcases ins_keys e he with h | ⟨y, hy, hk⟩
      · rw [h]; exact h1
      · rw [← hk]; exact hx.1 y hy
    · split
      · exact List.pairwise_cons.2 ⟨fun e he => hx.1 e he, hx.2⟩
      · rename_i h1 h2
        have h3 := cr_lt_of_not h1 h2
        refine List.pairwise_cons.2 ⟨fun e he => ?_, hs⟩
        rcases List.mem_cons.1 he with rfl | he
        · exact h3
        · exact cr_lawful.tr _ _ _ h3 (hx.1 e he)
theorem get_ins {r : List S41} {n : Int} {l : List S36} (hs : Srt l) (q : List S41) : get (ins r n l) q = get l q + if cr r q = 0 then n else 0 := by
  induction l with
  | nil => rw [ins, get, get]; split <;> simp [get]
  | cons x t ih =>
    have hx := List.pairwise_cons.1 hs
    rw [ins]
    split
    · rename_i h1
      rw [get, get]
      split
      · rename_i h0
        have e := cr_eq h0
        subst e
        rw [if_neg (by have := cr_lawful.anti x.f0 r; omega)]
        omega
      · exact ih hx.2
    · split
      · rename_i h1 h2
        have e := cr_eq h2
        subst e
        rw [get, get]
        split
        · rfl
        · omega
      · rename_i h1 h2
        have h3 := cr_lt_of_not h1 h2
        rw [get]
        split
        · rename_i h0
          have e := cr_eq h0
          subst e
          rw [get_none (l := x :: t) (r := r) (fun y he => by
            rcases List.mem_cons.1 he with rfl | he
            · exact h2
            · have h4 := cr_lawful.tr _ _ _ h3 (hx.1 y he)
              have h5 := cr_lawful.anti r y.f0; omega)]
          simp
        · omega
/-- What a row's entries come to. -/
def sumw : List S36 → List S41 → Int
  | [], _ => 0
  | e :: t, r => (if cr e.f0 r = 0 then e.f1 else 0) + sumw t r
def gat (l : List S36) : List S36 := l.foldl (fun s e => ins e.f0 e.f1 s) []
theorem gat_go : ∀ (l s : List S36), Srt s → Srt (l.foldl (fun s e => ins e.f0 e.f1 s) s) ∧ ∀ r, get (l.foldl (fun s e => ins e.f0 e.f1 s) s) r = get s r + sumw l r := by
  intro l
  induction l with
  | nil => intro s hs; exact ⟨hs, fun r => by simp [sumw]⟩
  | cons e t ih =>
    intro s hs
    obtain ⟨h1, h2⟩ := ih (ins e.f0 e.f1 s) (ins_srt hs)
    refine ⟨h1, fun r => ?_⟩
    rw [List.foldl_cons, h2, get_ins hs, sumw]
    omega
theorem gat_srt (l : List S36) : Srt (gat l) := (gat_go l [] List.Pairwise.nil).1
def clean (l : List S36) : List S36 := l.filter (fun e => decide (e.f1 ≠ 0))
theorem clean_canon {l : List S36} (hs : Srt l) : Canon (clean l) := ⟨List.Pairwise.filter _ hs, fun e he => by have := (List.mem_filter.1 he).2; simpa using this⟩
/-- Entries as a z-set. -/
def mk (l : List S36) : List S36 := clean (gat l)
theorem mk_canon (l : List S36) : Canon (mk l) := clean_canon (gat_srt l)
theorem ins_length (r : List S41) (n : Int) (l : List S36) : (ins r n l).length ≤ l.length + 1 := by
  induction l with
  | nil => simp [ins]
  | cons x t ih =>
    rw [ins]
    split
    · simp only [List.length_cons]; omega
    · split <;> simp
theorem gat_length (l : List S36) : (gat l).length ≤ l.length := by
  have key : ∀ (l s : List S36), (l.foldl (fun s e => ins e.f0 e.f1 s) s).length ≤ s.length + l.length := by
    intro l
    induction l with
    | nil => intro s; simp
    | cons e t ih =>
      intro s
      have h1 := ih (ins e.f0 e.f1 s)
      have h2 := ins_length e.f0 e.f1 s
      simp only [List.foldl_cons, List.length_cons]
      omega
  have := key l []
  simpa [gat] using this
theorem mk_length (l : List S36) : (mk l).length ≤ l.length := Nat.le_trans (List.length_filter_le _ _) (gat_length l)
end Go.Proofs.Ythegdcodjhbonaa.ThA
