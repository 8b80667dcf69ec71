/- The plain law of sorted pairs: where a key is among them, what a put and a taking away make of them; lists woven of lists and what is between. No program in sight. Conditions: as each theorem says. -/
import Derived.Test.YteoibolompiohaaKit
namespace Go.Proofs.Yteoibolompiohaa

abbrev Key := List UInt8
abbrev Pr := Key × Int
/-- A key is ahead of another one. -/
def kLt (a b : Key) : Bool := Op.bytesLess a b
theorem kLt_irrefl (a : Key) : kLt a a = false := by
  unfold kLt
  induction a with
  | nil => rfl
  | cons x a ih => simp [Op.bytesLess, ih]
theorem kLt_trans : ∀ {a b c : Key}, kLt a b = true → kLt b c = true → kLt a c = true := by
  unfold kLt
  intro a
  induction a with
  | nil => intro b c h k; cases b <;> cases c <;> simp [Op.bytesLess] at *
  | cons x a ih =>
    intro b c h k
    cases b with
    | nil => simp [Op.bytesLess] at h
    | cons y b =>
      cases c with
      | nil => simp [Op.bytesLess] at k
      | cons z c =>
        simp only [Op.bytesLess, Bool.or_eq_true, decide_eq_true_eq, Bool.and_eq_true, beq_iff_eq] at *
        rcases h with h | ⟨rfl, h⟩
        · rcases k with k | ⟨rfl, k⟩
          · exact .inl (UInt8.lt_trans h k)
          · exact .inl h
        · rcases k with k | ⟨rfl, k⟩
          · exact .inl k
          · exact .inr ⟨rfl, ih h k⟩
theorem kLt_tri : ∀ {a b : Key}, kLt a b = false → kLt b a = false → a = b := by
  unfold kLt
  intro a
  induction a with
  | nil => intro b h _; cases b <;> simp [Op.bytesLess] at *
  | cons x a ih =>
    intro b h k
    cases b with
    | nil => simp [Op.bytesLess] at k
    | cons y b =>
      simp only [Op.bytesLess, Bool.or_eq_false_iff, decide_eq_false_iff_not, Bool.and_eq_false_iff, beq_eq_false_iff_ne] at *
      have e : x = y := UInt8.le_antisymm (UInt8.not_lt.1 k.1) (UInt8.not_lt.1 h.1)
      subst e
      congr 1
      exact ih (by rcases h.2 with h | h; exact absurd rfl h; exact h) (by rcases k.2 with k | k; exact absurd rfl k; exact k)
theorem kLt_asymm {a b : Key} (h : kLt a b = true) : kLt b a = false := by
  cases e : kLt b a with
  | false => rfl
  | true => have := kLt_trans h e; rw [kLt_irrefl] at this; cases this
theorem kLt_ne {a b : Key} (h : kLt a b = true) : a ≠ b := by rintro rfl; rw [kLt_irrefl] at h; cases h
theorem kLt_le {a b c : Key} (h : kLt a b = true) (k : kLt c b = false) : kLt a c = true := by
  cases e : kLt a c with
  | true => rfl
  | false =>
    cases e2 : kLt c a with
    | true => rw [kLt_trans e2 h] at k; cases k
    | false => rw [kLt_tri e e2] at h; rw [h] at k; cases k

/-- The first place whose key is not ahead. -/
def spotF (l : List Pr) (k : Key) : Nat := l.findIdx fun p => !kLt p.1 k
theorem spotF_le (l : List Pr) (k : Key) : spotF l k ≤ l.length := List.findIdx_le_length
def hasF (l : List Pr) (k : Key) : Bool := match l[spotF l k]? with | some p => decide (p.1 = k) | none => false
def numF (l : List Pr) (k : Key) : Int := match l[spotF l k]? with | some p => if p.1 = k then p.2 else 0 | none => 0
def putL {α : Type} (l : List α) (i : Nat) (x : α) : List α := l.take i ++ x :: l.drop i
def cutL {α : Type} (l : List α) (i : Nat) : List α := l.take i ++ l.drop (i + 1)
theorem putL_length {α : Type} (l : List α) (i : Nat) (x : α) : (putL l i x).length = l.length + 1 := by simp [putL]; omega
theorem cutL_length {α : Type} (l : List α) (i : Nat) (h : i < l.length) : (cutL l i).length = l.length - 1 := by simp [cutL]; omega
def insF (l : List Pr) (k : Key) (n : Int) : List Pr := l.take (spotF l k) ++ (k, n) :: l.drop (spotF l k + if hasF l k = true then 1 else 0)
def delF (l : List Pr) (k : Key) : List Pr := if hasF l k = true then cutL l (spotF l k) else l
def SortedK (l : List Pr) : Prop := l.Pairwise fun a b => kLt a.1 b.1 = true
theorem spotF_cons (p : Pr) (l : List Pr) (k : Key) : spotF (p :: l) k = if kLt p.1 k = true then spotF l k + 1 else 0 := by
  unfold spotF
  rw [List.findIdx_cons]
  cases kLt p.1 k <;> simp
theorem spotF_nil (k : Key) : spotF [] k = 0 := rfl
theorem spotF_ahead (A l : List Pr) (k : Key) (h : ∀ p ∈ A, kLt p.1 k = true) : spotF (A ++ l) k = A.length + spotF l k := by
  induction A with
  | nil => simp
  | cons a A ih =>
    rw [List.cons_append, spotF_cons, if_pos (h a (by simp)), ih (fun p hp => h p (by simp [hp])), List.length_cons]
    omega
theorem spotF_behind (l B : List Pr) (k : Key) (h : ∀ p ∈ B, kLt k p.1 = true) : spotF (l ++ B) k = spotF l k := by
  induction l with
  | nil =>
    rw [List.nil_append]
    cases B with
    | nil => rfl
    | cons b B => rw [spotF_cons, kLt_asymm (h b (by simp))]; rfl
  | cons a l ih => rw [List.cons_append, spotF_cons, spotF_cons, ih]
theorem spotF_mid (A l B : List Pr) (k : Key) (hA : ∀ p ∈ A, kLt p.1 k = true) (hB : ∀ p ∈ B, kLt k p.1 = true) : spotF (A ++ l ++ B) k = A.length + spotF l k := by
  rw [List.append_assoc, spotF_ahead _ _ _ hA, spotF_behind _ _ _ hB]
theorem get_mid (A l B : List Pr) (k : Key) (hB : ∀ p ∈ B, kLt k p.1 = true) :
    (A ++ l ++ B)[A.length + spotF l k]? = if spotF l k < l.length then l[spotF l k]? else B[0]? := by
  rw [List.append_assoc, List.getElem?_append_right (by omega), show A.length + spotF l k - A.length = spotF l k by omega]
  split
  · rename_i h; rw [List.getElem?_append_left h]
  · rename_i h
    have := spotF_le l k
    rw [List.getElem?_append_right (by omega), show spotF l k - l.length = 0 by omega]
theorem hasF_mid (A l B : List Pr) (k : Key) (hA : ∀ p ∈ A, kLt p.1 k = true) (hB : ∀ p ∈ B, kLt k p.1 = true) : hasF (A ++ l ++ B) k = hasF l k := by
  unfold hasF
  rw [spotF_mid _ _ _ _ hA hB, get_mid _ _ _ _ hB]
  by_cases h : spotF l k < l.length
  · rw [if_pos h]
  · rw [if_neg h]
    rw [List.getElem?_eq_none (by omega : l.length ≤ spotF l k)]
    cases B with
    | nil => rfl
    | cons b B => simp [Ne.symm (kLt_ne (hB b (by simp)))]
theorem numF_mid (A l B : List Pr) (k : Key) (hA : ∀ p ∈ A, kLt p.1 k = true) (hB : ∀ p ∈ B, kLt k p.1 = true) : numF (A ++ l ++ B) k = numF l k := by
  unfold numF
  rw [spotF_mid _ _ _ _ hA hB, get_mid _ _ _ _ hB]
  by_cases h : spotF l k < l.length
  · rw [if_pos h]
  · rw [if_neg h]
    rw [List.getElem?_eq_none (by omega : l.length ≤ spotF l k)]
    cases B with
    | nil => rfl
    | cons b B => simp [Ne.symm (kLt_ne (hB b (by simp)))]
theorem hasF_lt {l : List Pr} {k : Key} (h : hasF l k = true) : ∃ hl : spotF l k < l.length, (l[spotF l k]).1 = k := by
  unfold hasF at h
  by_cases hl : spotF l k < l.length
  · rw [List.getElem?_eq_getElem hl] at h
    exact ⟨hl, of_decide_eq_true h⟩
  · rw [List.getElem?_eq_none (by omega)] at h; cases h
theorem take_mid (A l B : List Pr) (i : Nat) (h : i ≤ l.length) : (A ++ l ++ B).take (A.length + i) = A ++ l.take i := by
  rw [List.append_assoc, List.take_append, List.take_of_length_le (by omega), show A.length + i - A.length = i by omega, List.take_append, show i - l.length = 0 by omega]
  simp
theorem drop_mid (A l B : List Pr) (i : Nat) (h : i ≤ l.length) : (A ++ l ++ B).drop (A.length + i) = l.drop i ++ B := by
  rw [List.append_assoc, List.drop_append, List.drop_of_length_le (by omega), show A.length + i - A.length = i by omega, List.drop_append, show i - l.length = 0 by omega]
  simp
theorem insF_mid (A l B : List Pr) (k : Key) (n : Int) (hA : ∀ p ∈ A, kLt p.1 k = true) (hB : ∀ p ∈ B, kLt k p.1 = true) : insF (A ++ l ++ B) k n = A ++ insF l k n ++ B := by
  have hle := spotF_le l k
  unfold insF
  rw [spotF_mid _ _ _ _ hA hB, hasF_mid _ _ _ _ hA hB, take_mid _ _ _ _ hle]
  by_cases h : hasF l k = true
  · obtain ⟨hl, _⟩ := hasF_lt h
    rw [if_pos h, Nat.add_assoc, drop_mid _ _ _ _ (by omega)]
    simp
  · rw [if_neg h, Nat.add_zero, drop_mid _ _ _ _ hle]
    simp
theorem delF_mid (A l B : List Pr) (k : Key) (hA : ∀ p ∈ A, kLt p.1 k = true) (hB : ∀ p ∈ B, kLt k p.1 = true) : delF (A ++ l ++ B) k = A ++ delF l k ++ B := by
  have hle := spotF_le l k
  unfold delF
  rw [spotF_mid _ _ _ _ hA hB, hasF_mid _ _ _ _ hA hB]
  by_cases h : hasF l k = true
  · obtain ⟨hl, _⟩ := hasF_lt h
    rw [if_pos h, if_pos h]
    unfold cutL
    rw [take_mid _ _ _ _ hle, Nat.add_assoc, drop_mid _ _ _ _ (by omega)]
    simp
  · rw [if_neg h, if_neg h]
/-- Where the key itself is. -/
theorem spotF_at (A B : List Pr) (k : Key) (v : Int) (hA : ∀ p ∈ A, kLt p.1 k = true) : spotF (A ++ (k, v) :: B) k = A.length := by
  rw [spotF_ahead _ _ _ hA, spotF_cons, kLt_irrefl]; rfl
theorem get_at (A B : List Pr) (k : Key) (v : Int) (hA : ∀ p ∈ A, kLt p.1 k = true) : (A ++ (k, v) :: B)[spotF (A ++ (k, v) :: B) k]? = some (k, v) := by
  rw [spotF_at _ _ _ _ hA]; simp
theorem hasF_at (A B : List Pr) (k : Key) (v : Int) (hA : ∀ p ∈ A, kLt p.1 k = true) : hasF (A ++ (k, v) :: B) k = true := by
  unfold hasF; rw [get_at _ _ _ _ hA]; simp
theorem numF_at (A B : List Pr) (k : Key) (v : Int) (hA : ∀ p ∈ A, kLt p.1 k = true) : numF (A ++ (k, v) :: B) k = v := by
  unfold numF; rw [get_at _ _ _ _ hA]; simp
theorem insF_at (A B : List Pr) (k : Key) (v n : Int) (hA : ∀ p ∈ A, kLt p.1 k = true) : insF (A ++ (k, v) :: B) k n = A ++ (k, n) :: B := by
  unfold insF
  rw [hasF_at _ _ _ _ hA, spotF_at _ _ _ _ hA, if_pos rfl]
  simp [List.drop_append]
theorem delF_at (A B : List Pr) (k : Key) (v : Int) (hA : ∀ p ∈ A, kLt p.1 k = true) : delF (A ++ (k, v) :: B) k = A ++ B := by
  unfold delF cutL
  rw [hasF_at _ _ _ _ hA, spotF_at _ _ _ _ hA, if_pos rfl]
  simp [List.drop_append]
/-- What stands ahead of the place is ahead; what stands from it on is not. -/
theorem spotF_lt {l : List Pr} {k : Key} {i : Nat} (h : i < spotF l k) (hl : i < l.length) : kLt (l[i]).1 k = true := by
  have := List.not_of_lt_findIdx (p := fun p : Pr => !kLt p.1 k) (xs := l) h
  simpa using this
theorem spotF_ge {l : List Pr} {k : Key} (hl : spotF l k < l.length) : kLt (l[spotF l k]).1 k = false := by
  have := List.findIdx_getElem (p := fun p : Pr => !kLt p.1 k) (xs := l) (w := hl)
  rw [Bool.not_eq_true'] at this
  exact this
theorem SortedK.append {A B : List Pr} : SortedK (A ++ B) ↔ SortedK A ∧ SortedK B ∧ ∀ a ∈ A, ∀ b ∈ B, kLt a.1 b.1 = true := List.pairwise_append
theorem SortedK.cons {a : Pr} {B : List Pr} : SortedK (a :: B) ↔ (∀ b ∈ B, kLt a.1 b.1 = true) ∧ SortedK B := List.pairwise_cons
/-- A sorted list is parted at the place. -/
theorem sorted_part {l : List Pr} (hs : SortedK l) (k : Key) : (∀ p ∈ l.take (spotF l k), kLt p.1 k = true) ∧ ∀ p ∈ l.drop (spotF l k), kLt p.1 k = false := by
  induction l with
  | nil => simp
  | cons a l ih =>
    obtain ⟨h1, h2⟩ := SortedK.cons.1 hs
    rw [spotF_cons]
    by_cases ha : kLt a.1 k = true
    · rw [if_pos ha]
      obtain ⟨i1, i2⟩ := ih h2
      refine ⟨fun p hp => ?_, i2⟩
      rw [List.take_succ_cons] at hp
      rcases List.mem_cons.1 hp with rfl | hp
      · exact ha
      · exact i1 p hp
    · rw [if_neg ha]
      refine ⟨by simp, fun p hp => ?_⟩
      rcases List.mem_cons.1 (by simpa using hp) with rfl | hp
      · simpa using ha
      · cases e : kLt p.1 k with
        | false => rfl
        | true => exact absurd (kLt_trans (h1 p hp) e) ha
theorem hasF_iff {l : List Pr} (hs : SortedK l) (k : Key) : hasF l k = true ↔ ∃ p ∈ l, p.1 = k := by
  constructor
  · intro h
    obtain ⟨hl, e⟩ := hasF_lt h
    exact ⟨_, List.getElem_mem hl, e⟩
  · rintro ⟨p, hp, rfl⟩
    obtain ⟨A, B, rfl⟩ := List.append_of_mem hp
    obtain ⟨pk, pv⟩ := p
    exact hasF_at A B pk pv (fun q hq => (SortedK.append.1 hs).2.2 q hq (pk, pv) (by simp))
theorem drop_spot {l : List Pr} (hs : SortedK l) (k : Key) (h : hasF l k = false) : ∀ p ∈ l.drop (spotF l k), kLt k p.1 = true := by
  intro p hp
  have h1 := (sorted_part hs k).2 p hp
  cases e : kLt k p.1 with
  | true => rfl
  | false =>
    have := kLt_tri h1 e
    rw [(hasF_iff hs k).2 ⟨p, List.mem_of_mem_drop hp, this⟩] at h
    cases h
theorem insF_sorted {l : List Pr} (hs : SortedK l) (k : Key) (n : Int) : SortedK (insF l k n) := by
  by_cases h : hasF l k = true
  · obtain ⟨hl, e⟩ := hasF_lt h
    have hA := (sorted_part hs k).1
    have e0 : (k, (l[spotF l k]).2) = l[spotF l k] := Prod.ext e.symm rfl
    have hl2 : l = l.take (spotF l k) ++ (k, (l[spotF l k]).2) :: l.drop (spotF l k + 1) := by
      rw [e0, List.getElem_cons_drop, List.take_append_drop]
    have h2 := insF_at (l.take (spotF l k)) (l.drop (spotF l k + 1)) k (l[spotF l k]).2 n hA
    rw [← hl2] at h2
    rw [h2]
    rw [hl2] at hs
    rw [SortedK.append] at hs ⊢
    rw [SortedK.cons] at hs ⊢
    refine ⟨hs.1, hs.2.1, fun a ha b hb => ?_⟩
    rcases List.mem_cons.1 hb with rfl | hb
    · exact hA a ha
    · exact hs.2.2 a ha b (by simp [hb])
  · rw [Bool.not_eq_true] at h
    have hA := (sorted_part hs k).1
    have hB := drop_spot hs k h
    unfold insF
    rw [h]
    simp only [Bool.false_eq_true, if_false, Nat.add_zero]
    rw [SortedK.append, SortedK.cons]
    have hs2 : SortedK (l.take (spotF l k) ++ l.drop (spotF l k)) := by rw [List.take_append_drop]; exact hs
    rw [SortedK.append] at hs2
    refine ⟨hs2.1, ⟨hB, hs2.2.1⟩, fun a ha b hb => ?_⟩
    rcases List.mem_cons.1 hb with rfl | hb
    · exact hA a ha
    · exact hs2.2.2 a ha b hb
theorem cutL_sub {α : Type} (l : List α) (i : Nat) : (cutL l i).Sublist l := by
  unfold cutL
  conv => rhs; rw [← List.take_append_drop i l]
  refine List.Sublist.append_left ?_ _
  rw [← List.drop_drop]
  exact List.drop_sublist _ _
theorem delF_sorted {l : List Pr} (hs : SortedK l) (k : Key) : SortedK (delF l k) := by
  unfold delF
  split
  · exact List.Pairwise.sublist (cutL_sub _ _) hs
  · exact hs
theorem insF_length (l : List Pr) (k : Key) (n : Int) : (insF l k n).length = if hasF l k = true then l.length else l.length + 1 := by
  have hle := spotF_le l k
  unfold insF
  split
  · rename_i h
    obtain ⟨hl, _⟩ := hasF_lt h
    simp; omega
  · simp; omega
theorem delF_length (l : List Pr) (k : Key) : (delF l k).length = if hasF l k = true then l.length - 1 else l.length := by
  unfold delF
  split
  · rename_i h
    obtain ⟨hl, _⟩ := hasF_lt h
    exact cutL_length _ _ hl
  · rfl

/-! Lists woven: a list, what is between, a list .. -/
def weave : List (List Pr) → List Pr → List Pr
  | L :: Ls, p :: ps => L ++ p :: weave Ls ps
  | L :: _, [] => L
  | [], _ => []
def wpre : List (List Pr) → List Pr → Nat → List Pr
  | L :: Ls, p :: ps, j + 1 => L ++ p :: wpre Ls ps j
  | _, _, _ => []
def wpost : List (List Pr) → List Pr → Nat → List Pr
  | _ :: Ls, _ :: ps, j + 1 => wpost Ls ps j
  | _ :: Ls, p :: ps, 0 => p :: weave Ls ps
  | _, _, _ => []
theorem weave_set : ∀ (Ls : List (List Pr)) (ps : List Pr) (j : Nat) (_ : Ls.length = ps.length + 1) (_ : j < Ls.length) (C : List Pr), weave (Ls.set j C) ps = wpre Ls ps j ++ C ++ wpost Ls ps j := by
  intro Ls
  induction Ls with
  | nil => intro ps j h hj; simp at hj
  | cons L Ls ih =>
    intro ps j h hj C
    cases ps with
    | nil =>
      have : j = 0 := by simp at h; subst h; simp at hj; exact hj
      subst this
      simp [weave, wpre, wpost]
    | cons p ps =>
      cases j with
      | zero => simp [weave, wpre, wpost]
      | succ j =>
        rw [List.set_cons_succ, weave, ih ps j (by simpa using h) (by simpa using hj)]
        simp [wpre, wpost]
theorem weave_split (Ls : List (List Pr)) (ps : List Pr) (j : Nat) (h : Ls.length = ps.length + 1) (hj : j < Ls.length) : weave Ls ps = wpre Ls ps j ++ Ls[j] ++ wpost Ls ps j := by
  rw [← weave_set Ls ps j h hj]
  congr 1
  exact (List.set_getElem_self hj).symm
theorem weave_append : ∀ (As Bs : List (List Pr)) (qs : List Pr) (p : Pr) (rs : List Pr), As.length = qs.length + 1 → weave (As ++ Bs) (qs ++ p :: rs) = weave As qs ++ p :: weave Bs rs := by
  intro As
  induction As with
  | nil => intro Bs qs p rs h; simp at h
  | cons A As ih =>
    intro Bs qs p rs h
    cases qs with
    | nil =>
      have : As = [] := by simpa using h
      subst this
      simp [weave]
    | cons q qs =>
      rw [List.cons_append, List.cons_append, weave, ih Bs qs p rs (by simpa using h), weave]
      simp
theorem weave_part : ∀ (As : List (List Pr)) (X Y : List Pr) (Bs : List (List Pr)) (qs : List Pr) (m : Pr) (rs : List Pr), As.length = qs.length →
    weave (As ++ (X ++ m :: Y) :: Bs) (qs ++ rs) = weave (As ++ X :: Y :: Bs) (qs ++ m :: rs) := by
  intro As
  induction As with
  | nil =>
    intro X Y Bs qs m rs h
    have : qs = [] := by cases qs with | nil => rfl | cons a b => simp at h
    subst this
    cases rs with
    | nil => cases Bs <;> simp [weave]
    | cons r rs => simp [weave]
  | cons A As ih =>
    intro X Y Bs qs m rs h
    cases qs with
    | nil => simp at h
    | cons q qs =>
      simp only [List.cons_append]
      rw [weave, weave, ih X Y Bs qs m rs (by simpa using h)]
theorem weave_mem {Ls : List (List Pr)} {ps : List Pr} {p : Pr} (h : Ls.length = ps.length + 1) : p ∈ weave Ls ps ↔ p ∈ ps ∨ ∃ L ∈ Ls, p ∈ L := by
  induction Ls generalizing ps with
  | nil => simp at h
  | cons L Ls ih =>
    cases ps with
    | nil =>
      have : Ls = [] := by simpa using h
      subst this
      simp [weave]
    | cons q ps =>
      have ih := ih (ps := ps) (by simpa using h)
      simp only [weave, List.mem_append, List.mem_cons, ih]
      constructor
      · rintro (h | h | h | ⟨M, h1, h2⟩)
        · exact .inr ⟨L, .inl rfl, h⟩
        · exact .inl (.inl h)
        · exact .inl (.inr h)
        · exact .inr ⟨M, .inr h1, h2⟩
      · rintro ((h | h) | ⟨M, rfl | h1, h2⟩)
        · exact .inr (.inl h)
        · exact .inr (.inr (.inl h))
        · exact .inl h2
        · exact .inr (.inr (.inr ⟨M, h1, h2⟩))
theorem weave_length : ∀ (Ls : List (List Pr)) (ps : List Pr), Ls.length = ps.length + 1 → (weave Ls ps).length = (Ls.map List.length).sum + ps.length := by
  intro Ls
  induction Ls with
  | nil => intro ps h; simp at h
  | cons L Ls ih =>
    intro ps h
    cases ps with
    | nil =>
      have : Ls = [] := by simpa using h
      subst this
      simp [weave]
    | cons p ps =>
      rw [weave, List.length_append, List.length_cons, ih ps (by simpa using h)]
      simp; omega
/-- Where a key is that none of those between is. -/
theorem weave_where : ∀ (Ls : List (List Pr)) (ps : List Pr) (k : Key), Ls.length = ps.length + 1 → SortedK (weave Ls ps) → hasF ps k = false →
    (∀ p ∈ wpre Ls ps (spotF ps k), kLt p.1 k = true) ∧ ∀ p ∈ wpost Ls ps (spotF ps k), kLt k p.1 = true := by
  intro Ls
  induction Ls with
  | nil => intro ps k h; simp at h
  | cons L Ls ih =>
    intro ps k h hs hn
    cases ps with
    | nil => simp [wpre, wpost, spotF]
    | cons q ps =>
      rw [spotF_cons]
      rw [weave, SortedK.append, SortedK.cons] at hs
      by_cases hq : kLt q.1 k = true
      · rw [if_pos hq]
        have hn2 : hasF ps k = false := by
          unfold hasF at hn ⊢
          rw [spotF_cons, if_pos hq] at hn
          simpa using hn
        obtain ⟨i1, i2⟩ := ih ps k (by simpa using h) hs.2.1.2 hn2
        simp only [wpre, wpost]
        refine ⟨fun p hp => ?_, i2⟩
        rcases List.mem_append.1 hp with hp | hp
        · exact kLt_trans (hs.2.2 p hp q (by simp)) hq
        · rcases List.mem_cons.1 hp with rfl | hp
          · exact hq
          · exact i1 p hp
      · rw [if_neg hq]
        have hqk : kLt k q.1 = true := by
          cases e : kLt k q.1 with
          | true => rfl
          | false =>
            rw [Bool.not_eq_true] at hq
            have := kLt_tri hq e
            unfold hasF at hn
            rw [spotF_cons, hq] at hn
            simp [this] at hn
        simp only [wpre, wpost]
        refine ⟨by simp, fun p hp => ?_⟩
        rcases List.mem_cons.1 hp with rfl | hp
        · exact hqk
        · exact kLt_trans hqk (hs.2.1.1 p hp)
/-- Where one of those between is it. -/
theorem weave_is (Ls : List (List Pr)) (ps : List Pr) (k : Key) (h : Ls.length = ps.length + 1) (hs : SortedK (weave Ls ps)) (hi : hasF ps k = true) : ∃ A B v, ps[spotF ps k]? = some (k, v) ∧ weave Ls ps = A ++ (k, v) :: B ∧ (∀ p ∈ A, kLt p.1 k = true) ∧
    (∀ x, weave Ls (ps.set (spotF ps k) x) = A ++ x :: B) ∧ A = weave (Ls.take (spotF ps k + 1)) (ps.take (spotF ps k)) ∧ B = weave (Ls.drop (spotF ps k + 1)) (ps.drop (spotF ps k + 1)) := by
  obtain ⟨hl, e⟩ := hasF_lt hi
  generalize spotF ps k = i at *
  have hlen : (Ls.take (i + 1)).length = (ps.take i).length + 1 := by simp; omega
  have e0 : ps[i] = (k, (ps[i]).2) := by rw [← e]
  have e1 : ps = ps.take i ++ ps[i] :: ps.drop (i + 1) := by rw [List.getElem_cons_drop, List.take_append_drop]
  have e2 : weave Ls ps = weave (Ls.take (i + 1)) (ps.take i) ++ ps[i] :: weave (Ls.drop (i + 1)) (ps.drop (i + 1)) := by
    rw [← weave_append _ _ _ _ _ hlen, List.take_append_drop, ← e1]
  have e2' := e2
  rw [e0] at e2
  refine ⟨_, _, (ps[i]).2, by rw [List.getElem?_eq_getElem hl, ← e0], e2, fun p hp => ?_, fun x => ?_, rfl, rfl⟩
  · rw [e2', SortedK.append] at hs
    have := hs.2.2 p hp ps[i] (by simp)
    rw [e] at this
    exact this
  · rw [List.set_eq_take_append_cons_drop, if_pos hl, ← weave_append _ _ _ _ _ hlen, List.take_append_drop]
/-- Which list a key of one of the lists is in. -/
theorem weave_in : ∀ (Ls : List (List Pr)) (ps : List Pr) (k : Key) (j : Nat) (hj : j < Ls.length), Ls.length = ps.length + 1 → SortedK (weave Ls ps) → (∃ p ∈ Ls[j], p.1 = k) → spotF ps k = j ∧ hasF ps k = false := by
  intro Ls
  induction Ls with
  | nil => intro ps k j hj; simp at hj
  | cons L Ls ih =>
    rintro ps k j hj h hs ⟨p, hp, rfl⟩
    cases ps with
    | nil =>
      have : j = 0 := by simp at h; subst h; simp at hj; exact hj
      subst this
      exact ⟨rfl, rfl⟩
    | cons q ps =>
      rw [weave, SortedK.append, SortedK.cons] at hs
      cases j with
      | zero =>
        have hq := hs.2.2 p hp q (by simp)
        have h0 : spotF (q :: ps) p.1 = 0 := by rw [spotF_cons, kLt_asymm hq]; rfl
        refine ⟨h0, ?_⟩
        unfold hasF
        rw [h0]
        simp [Ne.symm (kLt_ne hq)]
      | succ j =>
        have hj' : j < Ls.length := by simpa using hj
        have hp' : p ∈ Ls[j] := by simpa using hp
        have hpm : p ∈ weave Ls ps := (weave_mem (by simpa using h)).2 (.inr ⟨_, List.getElem_mem hj', hp'⟩)
        have hq := hs.2.1.1 p hpm
        obtain ⟨i1, i2⟩ := ih ps p.1 j hj' (by simpa using h) hs.2.1.2 ⟨p, hp', rfl⟩
        have h0 : spotF (q :: ps) p.1 = j + 1 := by rw [spotF_cons, if_pos hq, i1]
        refine ⟨h0, ?_⟩
        unfold hasF at i2 ⊢
        rw [h0]
        rw [i1] at i2
        simpa using i2
theorem weave_sorted_sub {Ls : List (List Pr)} {ps : List Pr} (h : Ls.length = ps.length + 1) (hs : SortedK (weave Ls ps)) (j : Nat) (hj : j < Ls.length) : SortedK Ls[j] := by
  rw [weave_split Ls ps j h hj, SortedK.append, SortedK.append] at hs
  exact hs.1.2.1
end Go.Proofs.Yteoibolompiohaa
