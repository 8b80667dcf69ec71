/- Plain: unlike right messages have unlike bytes. Conditions: as each theorem says. -/
import Derived.Test.YtlbacddgjagcbaaValEn
import Derived.Test.YtlbacddgjagcbaaValSn
namespace Go.Proofs.Ytlbacddgjagcbaa
open Go.RowKit

theorem numsL_cons (n : Int) (l : List Int) : numsL (n :: l) = numL n ++ numsL l := by unfold numsL; rw [List.flatMap_cons]
theorem numsL_inj : ∀ (l m : List Int) (r q : List UInt8), l.length = m.length → (∀ x ∈ l, i64B x) → (∀ x ∈ m, i64B x) → numsL l ++ r = numsL m ++ q → l = m ∧ r = q := by
  intro l
  induction l with
  | nil =>
    intro m r q hl _ _ h
    match m, hl with
    | [], _ => exact ⟨rfl, by simpa [numsL] using h⟩
  | cons n l ih =>
    intro m r q hl h1 h2 h
    match m, hl with
    | k :: m, hl =>
      rw [numsL_cons, numsL_cons, List.append_assoc, List.append_assoc] at h
      have hn := h1 n (by simp)
      have hk := h2 k (by simp)
      have hj := numL_inj n k _ _ hn.1 hn.2 hk.1 hk.2 h
      have hi := ih m r q (by simpa using hl) (fun x hx => h1 x (by simp [hx])) (fun x hx => h2 x (by simp [hx])) hj.2
      exact ⟨by rw [hj.1, hi.1], hi.2⟩
theorem entL_inj (x y : Ent) (r q : List UInt8) (hx : entOk x) (hy : entOk y) (h : entL x ++ r = entL y ++ q) : x = y ∧ r = q := by
  obtain ⟨e1, c1, b1⟩ := x
  obtain ⟨e2, c2, b2⟩ := y
  unfold entL at h
  rw [List.append_assoc, List.append_assoc] at h
  have hj := numsL_inj [e1, c1] [e2, c2] _ _ rfl (i64_cons hx.1 (i64_cons hx.2.1 i64_nil)) (i64_cons hy.1 (i64_cons hy.2.1 i64_nil)) h
  have h1 : b1.length ≤ 1000000 := hx.2.2
  have h2 : b2.length ≤ 1000000 := hy.2.2
  have hk := textL_inj b1 b2 r q (by omega) (by omega) hj.2
  have hl := hj.1
  simp only [List.cons.injEq, and_true] at hl
  exact ⟨by rw [hl.1, hl.2, hk.1], hk.2⟩
theorem entsL_inj : ∀ (A B : List Ent), A.length = B.length → (∀ x ∈ A, entOk x) → (∀ x ∈ B, entOk x) → A.flatMap entL = B.flatMap entL → A = B := by
  intro A
  induction A with
  | nil =>
    intro B hl _ _ _
    match B, hl with
    | [], _ => rfl
  | cons x A ih =>
    intro B hl h1 h2 h
    match B, hl with
    | y :: B, hl =>
      rw [List.flatMap_cons, List.flatMap_cons] at h
      have hj := entL_inj x y _ _ (h1 x (by simp)) (h2 y (by simp)) h
      rw [hj.1, ih B (by simpa using hl) (fun z hz => h1 z (by simp [hz])) (fun z hz => h2 z (by simp [hz])) hj.2]
theorem flagI_inj {f g : Bool} (h : flagI f = flagI g) : f = g := by cases f <;> cases g <;> first | rfl | (simp [flagI] at h)
/-- The type on the wire. -/
def tagMv : Mv → Int
  | .vote .. => 1 | .info .. => 2 | .sync .. => 3 | .prop .. => 4 | .ack .. => 5 | .ask .. => 6 | .none => 0
def restMv : Mv → List UInt8
  | .vote l z p r s => numsL [l, z.1, z.2, p, r, s]
  | .info k p o z => numsL [k, p, o, z.1, z.2]
  | .sync k p f z b L => numsL [k, p, f.1, f.2, z.1, z.2] ++ (textL b ++ (numsL [(L.length : Int)] ++ L.flatMap entL))
  | .prop x => entL x
  | .ack f z => numsL [flagI f, z.1, z.2]
  | .ask n c q f b => numsL [n, c, q, flagI f] ++ textL b
  | .none => []
theorem bytes_tag (x : Mv) (h : x ≠ .none) : bytesMv x = numL (tagMv x) ++ restMv x := by
  cases x with
  | vote l z p r s => exact numsL_cons _ _
  | info k p o z => exact numsL_cons _ _
  | sync k p f z b L =>
    show syncL k p f z b L = _
    unfold syncL syncHead
    rw [numsL_cons]
    simp only [List.append_assoc, tagMv, restMv]
  | prop x => show numsL [4] ++ entL x = _; rw [numsL_cons]; simp [numsL, tagMv, restMv]
  | ack f z => exact numsL_cons _ _
  | ask n c q f b => show numsL [6, n, c, q, flagI f] ++ textL b = _; rw [numsL_cons]; simp only [List.append_assoc, tagMv, restMv]
  | none => exact absurd rfl h
theorem tag_i64 (x : Mv) : i64B (tagMv x) := by cases x <;> exact ⟨by simp [tagMv], by simp [tagMv]⟩
theorem bytes_inj (x y : Mv) (hx : okMv x) (hy : okMv y) (nx : x ≠ .none) (ny : y ≠ .none) (h : bytesMv x = bytesMv y) : x = y := by
  rw [bytes_tag x nx, bytes_tag y ny] at h
  obtain ⟨ht, hr⟩ := numL_inj _ _ _ _ (tag_i64 x).1 (tag_i64 x).2 (tag_i64 y).1 (tag_i64 y).2 h
  clear h
  cases x <;> cases y <;> simp only [tagMv] at ht <;> first | (exact absurd ht (by decide)) | skip
  case vote.vote l z p r s l' z' p' r' s' =>
    obtain ⟨h1, h2, h3, h4, h5, h6⟩ := hx
    obtain ⟨k1, k2, k3, k4, k5, k6⟩ := hy
    simp only [restMv] at hr
    obtain ⟨hl, _⟩ := numsL_inj [l, z.1, z.2, p, r, s] [l', z'.1, z'.2, p', r', s'] [] [] rfl (i64_cons h1 (i64_cons h2 (i64_cons h3 (i64_cons h4 (i64_cons h5 (i64_cons h6 i64_nil)))))) (i64_cons k1 (i64_cons k2 (i64_cons k3 (i64_cons k4 (i64_cons k5 (i64_cons k6 i64_nil)))))) (by rw [hr])
    simp only [List.cons.injEq, and_true] at hl
    obtain ⟨q1, e1, e2, q2, q3, q4⟩ := hl
    rw [q1, q2, q3, q4, Prod.ext e1 e2]
  case info.info k p o z k' p' o' z' =>
    obtain ⟨h1, h2, h3, h4, h5⟩ := hx
    obtain ⟨k1, k2, k3, k4, k5⟩ := hy
    simp only [restMv] at hr
    obtain ⟨hl, _⟩ := numsL_inj [k, p, o, z.1, z.2] [k', p', o', z'.1, z'.2] [] [] rfl (i64_cons h1 (i64_cons h2 (i64_cons h3 (i64_cons h4 (i64_cons h5 i64_nil))))) (i64_cons k1 (i64_cons k2 (i64_cons k3 (i64_cons k4 (i64_cons k5 i64_nil))))) (by rw [hr])
    simp only [List.cons.injEq, and_true] at hl
    obtain ⟨q1, q2, q3, e1, e2⟩ := hl
    rw [q1, q2, q3, Prod.ext e1 e2]
  case sync.sync k p f z b L k' p' f' z' b' L' =>
    obtain ⟨h1, h2, h3, h4, h5, h6, h7, h8, h9⟩ := hx
    obtain ⟨k1, k2, k3, k4, k5, k6, k7, k8, k9⟩ := hy
    simp only [restMv] at hr
    obtain ⟨hl, hr2⟩ := numsL_inj [k, p, f.1, f.2, z.1, z.2] [k', p', f'.1, f'.2, z'.1, z'.2] _ _ rfl (i64_cons h1 (i64_cons h2 (i64_cons h3 (i64_cons h4 (i64_cons h5 (i64_cons h6 i64_nil)))))) (i64_cons k1 (i64_cons k2 (i64_cons k3 (i64_cons k4 (i64_cons k5 (i64_cons k6 i64_nil)))))) hr
    have hj := textL_inj _ _ _ _ (by omega) (by omega) hr2
    obtain ⟨hn, hr4⟩ := numsL_inj [(L.length : Int)] [(L'.length : Int)] _ _ rfl (i64_cons ⟨by omega, by omega⟩ i64_nil) (i64_cons ⟨by omega, by omega⟩ i64_nil) hj.2
    simp only [List.cons.injEq, and_true] at hl hn
    obtain ⟨q1, q2, e1, e2, e3, e4⟩ := hl
    rw [q1, q2, hj.1, Prod.ext e1 e2, Prod.ext e3 e4, entsL_inj L L' (by omega) h9 k9 hr4]
  case prop.prop x y =>
    simp only [restMv] at hr
    obtain ⟨rfl, _⟩ := entL_inj x y [] [] hx.1 hy.1 (by simpa using hr)
    rfl
  case ack.ack f z f' z' =>
    obtain ⟨h1, h2⟩ := hx
    obtain ⟨k1, k2⟩ := hy
    simp only [restMv] at hr
    obtain ⟨hl, _⟩ := numsL_inj [flagI f, z.1, z.2] [flagI f', z'.1, z'.2] [] [] rfl (i64_cons (flagI_i64 f) (i64_cons h1 (i64_cons h2 i64_nil))) (i64_cons (flagI_i64 f') (i64_cons k1 (i64_cons k2 i64_nil))) (by rw [hr])
    simp only [List.cons.injEq, and_true] at hl
    obtain ⟨e0, e1, e2⟩ := hl
    rw [flagI_inj e0, Prod.ext e1 e2]
  case ask.ask n c q f b n' c' q' f' b' =>
    obtain ⟨h1, h2, h3, h4⟩ := hx
    obtain ⟨k1, k2, k3, k4⟩ := hy
    simp only [restMv] at hr
    obtain ⟨hl, hr2⟩ := numsL_inj [n, c, q, flagI f] [n', c', q', flagI f'] _ _ rfl (i64_cons h1 (i64_cons h2 (i64_cons h3 (i64_cons (flagI_i64 f) i64_nil)))) (i64_cons k1 (i64_cons k2 (i64_cons k3 (i64_cons (flagI_i64 f') i64_nil)))) hr
    have hj := textL_inj b b' [] [] (by omega) (by omega) (by simpa using hr2)
    simp only [List.cons.injEq, and_true] at hl
    obtain ⟨q1, q2, q3, e0⟩ := hl
    rw [q1, q2, q3, hj.1, flagI_inj e0]
  case none.none => rfl
theorem plM_inj (x y : Mv) (h : plM x = plM y) : x = y := by
  cases x <;> cases y <;> simp_all [plM]
/-- THE LAW's answer. -/
theorem apart_law (x y : Mv) (hx : okMv x) (hy : okMv y) (ex : errMv x = 0) (ey : errMv y = 0) : decide (encMv x = encMv y) = decide (plM x = plM y) := by
  have key : ∀ z : Mv, errMv z = 0 → z ≠ .none ∧ rightMv z = true := by
    intro z hz
    cases z <;> simp only [errMv] at hz <;> first | (exact ⟨by simp, by split at hz <;> first | assumption | (exact absurd hz (by decide))⟩) | (exact absurd hz (by decide))
  obtain ⟨nx, rx⟩ := key x ex
  obtain ⟨ny, ry⟩ := key y ey
  unfold encMv
  rw [if_pos rx, if_pos ry]
  by_cases h : x = y
  · subst h; simp
  · rw [decide_eq_false (fun e => h (bytes_inj x y hx hy nx ny e)), decide_eq_false (fun e => h (plM_inj x y e))]
end Go.Proofs.Ytlbacddgjagcbaa
