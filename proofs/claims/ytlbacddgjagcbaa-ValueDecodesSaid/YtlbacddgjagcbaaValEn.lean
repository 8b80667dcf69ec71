/- Encode, the reference's Encode and Plain at any message; the law ValueEncodes. Conditions: as each theorem says. -/
import Derived.Test.YtlbacddgjagcbaaValRc
import Derived.Test.YtlbacddgjagcbaaValSy
import Derived.Test.YtlbacddgjagcbaaValEm
namespace Go.Proofs.Ytlbacddgjagcbaa
open Go.RowKit

/-- Is a message right? -/
def rightMv : Mv → Bool
  | .vote l z p r s => voteB l z p r s
  | .info k p o z => infoB k p o z
  | .sync k p f z b L => syncB k p f z b L
  | .prop x => zxE x
  | .ack _ z => zxB z
  | .ask n c q _ _ => withinB [n, c, q]
  | .none => false
/-- The bytes of a message. -/
def bytesMv : Mv → List UInt8
  | .vote l z p r s => numsL [1, l, z.1, z.2, p, r, s]
  | .info k p o z => numsL [2, k, p, o, z.1, z.2]
  | .sync k p f z b L => syncL k p f z b L
  | .prop x => numsL [4] ++ entL x
  | .ack f z => numsL [5, flagI f, z.1, z.2]
  | .ask n c q f b => numsL [6, n, c, q, flagI f] ++ textL b
  | .none => []
def encMv (x : Mv) : List UInt8 := if rightMv x = true then bytesMv x else []
def errMv (x : Mv) : Nat := match x with | .none => 14 | y => if rightMv y = true then 0 else 1
/-- What a message holds is no greater than it may be. -/
def okMv : Mv → Prop
  | .vote l z p r s => i64B l ∧ i64B z.1 ∧ i64B z.2 ∧ i64B p ∧ i64B r ∧ i64B s
  | .info k p o z => i64B k ∧ i64B p ∧ i64B o ∧ i64B z.1 ∧ i64B z.2
  | .sync k p f z b L => i64B k ∧ i64B p ∧ i64B f.1 ∧ i64B f.2 ∧ i64B z.1 ∧ i64B z.2 ∧ b.length ≤ 1000000 ∧ L.length ≤ 1100 ∧ ∀ x ∈ L, entOk x
  | .prop x => entOk x ∧ x.ok
  | .ack _ z => i64B z.1 ∧ i64B z.2
  | .ask n c q _ b => i64B n ∧ i64B c ∧ i64B q ∧ b.length ≤ 1000000
  | .none => True
theorem sync_few {k p : Int} {f z : Int × Int} {b : List UInt8} {L : List Ent} (h : syncB k p f z b L = true) : L.length ≤ 1000 := by
  unfold syncB at h
  simp only [Bool.and_eq_true, decide_eq_true_eq] at h
  exact h.2.2.2.2.2.1
theorem i64_all {l : List Int} (h : ∀ n ∈ l, i64B n) : ∀ x ∈ l, i64B x := h
theorem enc_any (x : Mv) (v : Value) (hx : okMv x) (w : World) (h : MvAt w x v) : Calls Try.prog 37 #[v] w fun e w' => EncSaid (encMv x) (errMv x) w e w' := by
  cases x with
  | vote l z p r s =>
    obtain ⟨h1, h2, h3, h4, h5, h6⟩ := hx
    obtain rfl : v = _ := h
    cases hr : voteB l z p r s
    · rw [show encMv (.vote l z p r s) = [] by simp [encMv, rightMv, hr], show errMv (.vote l z p r s) = 1 by simp [errMv, rightMv, hr]]
      exact encode_no _ w (fun X => by rw [← hr]; exact right_vote l z p r s X)
    · rw [show encMv (.vote l z p r s) = numsL [1, l, z.1, z.2, p, r, s] by simp [encMv, rightMv, bytesMv, hr], show errMv (.vote l z p r s) = 0 by simp [errMv, rightMv, hr]]
      exact encode_vote l z p r s hr (i64_cons ⟨by decide, by decide⟩ (i64_cons h1 (i64_cons h2 (i64_cons h3 (i64_cons h4 (i64_cons h5 (i64_cons h6 i64_nil))))))) w
  | info k p o z =>
    obtain ⟨h1, h2, h3, h4, h5⟩ := hx
    obtain rfl : v = _ := h
    cases hr : infoB k p o z
    · rw [show encMv (.info k p o z) = [] by simp [encMv, rightMv, hr], show errMv (.info k p o z) = 1 by simp [errMv, rightMv, hr]]
      exact encode_no _ w (fun X => by rw [← hr]; exact right_info k p o z X)
    · rw [show encMv (.info k p o z) = numsL [2, k, p, o, z.1, z.2] by simp [encMv, rightMv, bytesMv, hr], show errMv (.info k p o z) = 0 by simp [errMv, rightMv, hr]]
      exact encode_info k p o z hr (i64_cons ⟨by decide, by decide⟩ (i64_cons h1 (i64_cons h2 (i64_cons h3 (i64_cons h4 (i64_cons h5 i64_nil)))))) w
  | sync k p f z b L =>
    obtain ⟨h1, h2, h3, h4, h5, h6, h7, h8, h9⟩ := hx
    obtain ⟨a, cap, rfl, hE⟩ := h
    cases hr : syncB k p f z b L
    · rw [show encMv (.sync k p f z b L) = [] by simp [encMv, rightMv, hr], show errMv (.sync k p f z b L) = 1 by simp [errMv, rightMv, hr]]
      exact encode_noE w _ a cap L hE (fun X hX => by rw [← hr]; exact right_sync k p f z b L a cap X hX (by unfold maxLen; omega))
    · rw [show encMv (.sync k p f z b L) = syncL k p f z b L by simp [encMv, rightMv, bytesMv, hr], show errMv (.sync k p f z b L) = 0 by simp [errMv, rightMv, hr]]
      exact encode_sync k p f z b L a cap hr (i64_cons ⟨by decide, by decide⟩ (i64_cons h1 (i64_cons h2 (i64_cons h3 (i64_cons h4 (i64_cons h5 (i64_cons h6 i64_nil))))))) h7 (sync_few hr) h9 w hE
  | prop x =>
    obtain ⟨⟨h1, h2, h3⟩, h4⟩ := hx
    obtain rfl : v = _ := h
    cases hr : zxE x
    · rw [show encMv (.prop x) = [] by simp [encMv, rightMv, hr], show errMv (.prop x) = 1 by simp [errMv, rightMv, hr]]
      exact encode_no _ w (fun X => by rw [← hr]; exact right_propose x X)
    · rw [show encMv (.prop x) = numsL [4] ++ entL x by simp [encMv, rightMv, bytesMv, hr], show errMv (.prop x) = 0 by simp [errMv, rightMv, hr]]
      exact encode_prop x hr (i64_cons ⟨by decide, by decide⟩ i64_nil) h1 h2 h3 w
  | ack f z =>
    obtain ⟨h1, h2⟩ := hx
    obtain rfl : v = _ := h
    cases hr : zxB z
    · rw [show encMv (.ack f z) = [] by simp [encMv, rightMv, hr], show errMv (.ack f z) = 1 by simp [errMv, rightMv, hr]]
      exact encode_no _ w (fun X => by rw [← hr]; exact right_ack f z X)
    · rw [show encMv (.ack f z) = numsL [5, flagI f, z.1, z.2] by simp [encMv, rightMv, bytesMv, hr], show errMv (.ack f z) = 0 by simp [errMv, rightMv, hr]]
      exact encode_ack f z hr h1 h2 w
  | ask n c q f b =>
    obtain ⟨h1, h2, h3, h4⟩ := hx
    obtain rfl : v = _ := h
    cases hr : withinB [n, c, q]
    · rw [show encMv (.ask n c q f b) = [] by simp [encMv, rightMv, hr], show errMv (.ask n c q f b) = 1 by simp [errMv, rightMv, hr]]
      exact encode_no _ w (fun X => by rw [← hr]; exact right_ask n c q f b X)
    · rw [show encMv (.ask n c q f b) = numsL [6, n, c, q, flagI f] ++ textL b by simp [encMv, rightMv, bytesMv, hr], show errMv (.ask n c q f b) = 0 by simp [errMv, rightMv, hr]]
      exact encode_ask n c q f b hr (i64_cons ⟨by decide, by decide⟩ (i64_cons h1 (i64_cons h2 (i64_cons h3 (i64_cons (flagI_i64 f) i64_nil))))) h4 w
  | none =>
    obtain rfl : v = _ := h
    exact encode_nil w
def flatMv : Mv → Bool
  | .sync .. => false
  | .prop .. => false
  | _ => true
def PlainAt (x : Mv) (w : World) (e : Ending) (w' : World) : Prop := ∃ a cap, e = .returned (msgV (plM x) a cap) ∧ EntsIn w' a cap (plM x).ents ∧ Below w.heap.size w w' ∧ (flatMv x = true → a = none ∧ cap = 0)
theorem PlainNil.at {x : Mv} {w : World} {e : Ending} {w' : World} (h : PlainNil (plM x) w e w') (hm : (plM x).ents = []) : PlainAt x w e w' := ⟨none, 0, h.1, by rw [hm]; exact ents_none _, h.2, fun _ => ⟨rfl, rfl⟩⟩
theorem PlainSaid.at {x : Mv} {w : World} {e : Ending} {w' : World} (h : PlainSaid (plM x) w e w') (hm : flatMv x = false) : PlainAt x w e w' := by
  obtain ⟨a, cap, h1, h2, h3⟩ := h
  exact ⟨a, cap, h1, h2, h3, fun h => by rw [hm] at h; cases h⟩
theorem plain_all (x : Mv) (v : Value) (hx : okMv x) (w : World) (h : MvAt w x v) : Calls Try.prog 39 #[v] w fun e w' => PlainAt x w e w' := by
  cases x with
  | vote l z p r s => obtain rfl : v = _ := h; exact (plain_vote l z p r s w).mono fun e w' hh => hh.at rfl
  | info k p o z => obtain rfl : v = _ := h; exact (plain_info k p o z w).mono fun e w' hh => hh.at rfl
  | sync k p f z b L => obtain ⟨a, cap, rfl, hE⟩ := h; exact (plain_sync k p f z b L a cap hx.2.2.2.2.2.2.2.1 w hE).mono fun e w' hh => hh.at rfl
  | prop x => obtain rfl : v = _ := h; exact (plain_prop x hx.2 w).mono fun e w' hh => hh.at rfl
  | ack f z => obtain rfl : v = _ := h; exact (plain_ack f z w).mono fun e w' hh => hh.at rfl
  | ask n c q f b => obtain rfl : v = _ := h; exact (plain_ask n c q f b w).mono fun e w' hh => hh.at rfl
  | none => obtain rfl : v = _ := h; exact (plain_nil w).mono fun e w' hh => hh.at rfl
theorem refEnc_any (x : Mv) (a : Option Addr) (cap : Nat) (hx : okMv x) (w : World) (hE : EntsIn w a cap (plM x).ents) (hn : flatMv x = true → a = none ∧ cap = 0) : Calls Try.prog 38 #[msgV (plM x) a cap] w fun e w' => EncSaid (encMv x) (errMv x) w e w' := by
  cases x with
  | vote l z p r s =>
    obtain ⟨rfl, rfl⟩ := hn rfl
    obtain ⟨h1, h2, h3, h4, h5, h6⟩ := hx
    cases hr : voteB l z p r s
    · rw [show encMv (.vote l z p r s) = [] by simp [encMv, rightMv, hr], show errMv (.vote l z p r s) = 1 by simp [errMv, rightMv, hr]]
      exact refEnc_no _ none 0 (by simp [plM]) (by simp [plM]) w hE (fun X _ => by rw [← hr]; exact refRight_vote l z p r s X)
    · rw [show encMv (.vote l z p r s) = numsL [1, l, z.1, z.2, p, r, s] by simp [encMv, rightMv, bytesMv, hr], show errMv (.vote l z p r s) = 0 by simp [errMv, rightMv, hr]]
      exact refEnc_vote l z p r s hr h1 h2 h3 h4 h5 h6 w
  | info k p o z =>
    obtain ⟨rfl, rfl⟩ := hn rfl
    obtain ⟨h1, h2, h3, h4, h5⟩ := hx
    cases hr : infoB k p o z
    · rw [show encMv (.info k p o z) = [] by simp [encMv, rightMv, hr], show errMv (.info k p o z) = 1 by simp [errMv, rightMv, hr]]
      exact refEnc_no _ none 0 (by simp [plM]) (by simp [plM]) w hE (fun X _ => by rw [← hr]; exact refRight_info k p o z X)
    · rw [show encMv (.info k p o z) = numsL [2, k, p, o, z.1, z.2] by simp [encMv, rightMv, bytesMv, hr], show errMv (.info k p o z) = 0 by simp [errMv, rightMv, hr]]
      exact refEnc_info k p o z hr h4 h5 h1 h2 h3 w
  | sync k p f z b L =>
    obtain ⟨h1, h2, h3, h4, h5, h6, h7, h8, h9⟩ := hx
    cases hr : syncB k p f z b L
    · rw [show encMv (.sync k p f z b L) = [] by simp [encMv, rightMv, hr], show errMv (.sync k p f z b L) = 1 by simp [errMv, rightMv, hr]]
      exact refEnc_no _ a cap (by simp [plM]) (by simp [plM]) w hE (fun X hX => by rw [← hr]; exact refRight_sync k p f z b L a cap X hX (by unfold maxLen; omega))
    · rw [show encMv (.sync k p f z b L) = syncL k p f z b L by simp [encMv, rightMv, bytesMv, hr], show errMv (.sync k p f z b L) = 0 by simp [errMv, rightMv, hr]]
      exact refEnc_sync k p f z b L a cap hr h1 h2 h3 h4 h5 h6 h7 (sync_few hr) h9 w hE
  | prop x =>
    obtain ⟨h1, h4⟩ := hx
    cases hr : zxE x
    · rw [show encMv (.prop x) = [] by simp [encMv, rightMv, hr], show errMv (.prop x) = 1 by simp [errMv, rightMv, hr]]
      exact refEnc_no _ a cap (by simp [plM]) (by simp [plM]) w hE (fun X hX => by rw [← hr]; exact refRight_prop x a cap X hX)
    · rw [show encMv (.prop x) = numsL [4] ++ entL x by simp [encMv, rightMv, bytesMv, hr], show errMv (.prop x) = 0 by simp [errMv, rightMv, hr]]
      exact refEnc_prop x a cap hr h1 w hE
  | ack f z =>
    obtain ⟨rfl, rfl⟩ := hn rfl
    obtain ⟨h1, h2⟩ := hx
    cases hr : zxB z
    · rw [show encMv (.ack f z) = [] by simp [encMv, rightMv, hr], show errMv (.ack f z) = 1 by simp [errMv, rightMv, hr]]
      exact refEnc_no _ none 0 (by simp [plM]) (by simp [plM]) w hE (fun X _ => by rw [← hr]; exact refRight_ack f z X)
    · rw [show encMv (.ack f z) = numsL [5, flagI f, z.1, z.2] by simp [encMv, rightMv, bytesMv, hr], show errMv (.ack f z) = 0 by simp [errMv, rightMv, hr]]
      exact refEnc_ack f z hr h1 h2 w
  | ask n c q f b =>
    obtain ⟨rfl, rfl⟩ := hn rfl
    obtain ⟨h1, h2, h3, h4⟩ := hx
    cases hr : withinB [n, c, q]
    · rw [show encMv (.ask n c q f b) = [] by simp [encMv, rightMv, hr], show errMv (.ask n c q f b) = 1 by simp [errMv, rightMv, hr]]
      exact refEnc_no _ none 0 (by simp [plM]) (by simp [plM]) w hE (fun X _ => by rw [← hr]; exact refRight_ask n c q f b X)
    · rw [show encMv (.ask n c q f b) = numsL [6, n, c, q, flagI f] ++ textL b by simp [encMv, rightMv, bytesMv, hr], show errMv (.ask n c q f b) = 0 by simp [errMv, rightMv, hr]]
      exact refEnc_ask n c q f b hr h1 h2 h3 h4 w
  | none =>
    obtain ⟨rfl, rfl⟩ := hn rfl
    exact refEnc_none w
theorem okI_i64 {n : Int} (h : okI n) : i64B n := by
  unfold okI Lit.wf at h
  simp [IntKind.min, IntKind.max, IntKind.bits, IntKind.signed] at h
  unfold i64B
  omega
/-- What Of answers is no greater than what it was given. -/
theorem ofM_ok (m : Msg) (hm : m.ok) (hf : fewM m = true) (he : ∀ x ∈ m.ents, x.ok) : okMv (ofM m) := by
  obtain ⟨k0, k1, k2, k3, k4, k5, k6, k7, k8, k9, k10, k11, k12, k13, k14⟩ := hm
  unfold fewM at hf
  simp only [Bool.and_eq_true, decide_eq_true_eq, List.all_eq_true] at hf
  obtain ⟨f1, f2, f3⟩ := hf
  have hent : ∀ x ∈ m.ents, entOk x := fun x hx => ⟨okI_i64 (he x hx).1, okI_i64 (he x hx).2.1, by have := f3 x hx; omega⟩
  unfold ofM
  by_cases h1 : m.ty = 1
  · rw [if_pos h1]; exact ⟨okI_i64 k1, okI_i64 k2, okI_i64 k3, okI_i64 k4, okI_i64 k8, okI_i64 k9⟩
  rw [if_neg h1]
  by_cases h2 : m.ty = 2
  · rw [if_pos h2]; exact ⟨okI_i64 k10, okI_i64 k4, okI_i64 k5, okI_i64 k2, okI_i64 k3⟩
  rw [if_neg h2]
  by_cases h3 : m.ty = 3
  · rw [if_pos h3]; exact ⟨okI_i64 k10, okI_i64 k4, okI_i64 k6, okI_i64 k7, okI_i64 k2, okI_i64 k3, by omega, f1, hent⟩
  rw [if_neg h3]
  by_cases h4 : m.ty = 4
  · rw [if_pos h4]
    match hents : m.ents with
    | [x] => exact ⟨hent x (by rw [hents]; simp), he x (by rw [hents]; simp)⟩
    | [] => exact trivial
    | _ :: _ :: _ => exact trivial
  rw [if_neg h4]
  by_cases h5 : m.ty = 5
  · rw [if_pos h5]; exact ⟨okI_i64 k2, okI_i64 k3⟩
  rw [if_neg h5]
  by_cases h6 : m.ty = 6
  · rw [if_pos h6]; exact ⟨okI_i64 k12, okI_i64 k13, okI_i64 k14, by omega⟩
  rw [if_neg h6]
  exact trivial
end Go.Proofs.Ytlbacddgjagcbaa
