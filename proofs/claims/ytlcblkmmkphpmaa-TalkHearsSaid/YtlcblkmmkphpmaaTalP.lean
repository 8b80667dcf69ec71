/- Plain: what is written and read, as codes that are put together; requests, ranges and responses. No program in sight. Conditions: as each theorem says. -/
import Derived.Test.YtlcblkmmkphpmaaPackQ
namespace Go.Proofs.Ytlcblkmmkphpmaa

abbrev Byt := List UInt8
theorem numR_stick (r : Rd) (h : (numR r).2.e = 0) : r.e = 0 := by
  unfold numR at h
  by_cases he : r.e = 0
  · exact he
  · rw [if_pos he] at h; exact h
theorem numR_len1 (r : Rd) (h : (numR r).2.e = 0) : r.l = numL (numR r).1 ++ (numR r).2.l := by
  have he := numR_stick r h
  unfold numR at h ⊢
  rw [if_neg (by omega)] at h ⊢
  by_cases hd : (dec 0 0 r.l).1 = 0
  · rw [if_pos hd]
    have := dec_num_back r.l (dec 0 0 r.l).2.2 (dec 0 0 r.l).2.1 (Prod.ext hd (Prod.ext rfl rfl))
    simp only
    unfold numL
    rw [zig_unzig]
    exact this
  · rw [if_neg hd] at h
    exact absurd h hd
theorem numR_bad0 (r : Rd) (h : r.e ≠ 0) : numR r = (0, r) := by unfold numR; rw [if_pos h]
theorem textR_stick (r : Rd) (h : (textR r).2.e = 0) : r.e = 0 := by
  unfold textR at h
  by_cases h1 : (numR r).2.e = 0
  · exact numR_stick r h1
  · rw [if_pos h1] at h; exact absurd h h1
theorem textR_len1 (r : Rd) (h : (textR r).2.e = 0) : r.l = textL (textR r).1 ++ (textR r).2.l := by
  unfold textR at h ⊢
  by_cases h1 : (numR r).2.e = 0
  · rw [if_neg (by omega)] at h ⊢
    by_cases h2 : (numR r).1 < 0
    · rw [if_pos h2] at h; simp at h
    · rw [if_neg h2] at h ⊢
      by_cases h3 : ((numR r).2.l.length : Int) < (numR r).1
      · rw [if_pos h3] at h; simp at h
      · rw [if_neg h3] at h ⊢
        simp only
        have hl := numR_len1 r h1
        unfold textL
        have e : (((numR r).2.l.take (numR r).1.toNat).length : Int) = (numR r).1 := by rw [List.length_take]; omega
        rw [e, List.append_assoc, List.take_append_drop]
        exact hl
  · rw [if_pos h1] at h; exact absurd h h1
/-- A code: how a thing is written, and how it is read. -/
structure Cod (α : Type) where
  enc : α → Byt
  rd : Rd → α × Rd
  ok : α → Prop
  back : ∀ x, ok x → ∀ r, rd ⟨enc x ++ r, 0⟩ = (x, ⟨r, 0⟩)
  stick : ∀ r, (rd r).2.e = 0 → r.e = 0
  fwd : ∀ r, (rd r).2.e = 0 → r.l = enc (rd r).1 ++ (rd r).2.l
def i64 (n : Int) : Prop := -9223372036854775808 ≤ n ∧ n ≤ 9223372036854775807
def numC : Cod Int := ⟨numL, numR, i64, fun x h r => numR_back x r h.1 h.2, numR_stick, numR_len1⟩
def textC : Cod Byt := ⟨textL, textR, fun s => s.length ≤ 9223372036854775807, fun x h r => textR_back x r h, textR_stick, textR_len1⟩
def b2i (b : Bool) : Int := if b then 1 else 0
def flagR (r : Rd) : Bool × Rd := if (numR r).2.e = 0 ∧ (numR r).1 ≠ 0 ∧ (numR r).1 ≠ 1 then (false, ⟨(numR r).2.l, 11⟩) else (decide ((numR r).1 = 1), (numR r).2)
theorem flagR_ok (r : Rd) (h : (flagR r).2.e = 0) : (numR r).2.e = 0 ∧ (flagR r).2 = (numR r).2 ∧ (numR r).1 = b2i (flagR r).1 := by
  unfold flagR at h ⊢
  split at h
  · simp at h
  · rename_i hn
    rw [if_neg hn]
    refine ⟨h, rfl, ?_⟩
    have h : (numR r).2.e = 0 := h
    unfold b2i
    by_cases h1 : (numR r).1 = 1
    · simp [h1]
    · have h0 : (numR r).1 = 0 := Classical.byContradiction (fun q => hn ⟨h, q, h1⟩)
      simp [h0]
def flagC : Cod Bool := ⟨fun b => numL (b2i b), flagR, fun _ => True,
  fun b _ r => by
    have := numR_back (b2i b) r (by unfold b2i; split <;> omega) (by unfold b2i; split <;> omega)
    unfold flagR
    rw [this]
    cases b <;> simp [b2i],
  fun r h => numR_stick r (flagR_ok r h).1,
  fun r h => by
    obtain ⟨h1, h2, h3⟩ := flagR_ok r h
    rw [h2, ← h3]
    exact numR_len1 r h1⟩
def Cod.pair {α β : Type} (a : Cod α) (b : Cod β) : Cod (α × β) := ⟨fun x => a.enc x.1 ++ b.enc x.2, fun r => (((a.rd r).1, (b.rd (a.rd r).2).1), (b.rd (a.rd r).2).2), fun x => a.ok x.1 ∧ b.ok x.2,
  fun x h r => by simp only [List.append_assoc, a.back x.1 h.1, b.back x.2 h.2],
  fun r h => a.stick r (b.stick _ h),
  fun r h => by
    have h1 := b.fwd _ h
    have h2 := a.fwd r (b.stick _ h)
    simp only
    rw [List.append_assoc, ← h1]
    exact h2⟩
def Cod.iso {α β : Type} (a : Cod α) (f : α → β) (g : β → α) (hfg : ∀ x, f (g x) = x) (hgf : ∀ x, g (f x) = x) : Cod β := ⟨fun x => a.enc (g x), fun r => (f (a.rd r).1, (a.rd r).2), fun x => a.ok (g x),
  fun x h r => by simp only [a.back (g x) h, hfg],
  fun r h => a.stick r h,
  fun r h => by simp only [hgf]; exact a.fwd r h⟩
/-- So many things, one behind the other; none where something is wrong. -/
def itemsR {α : Type} (rd : Rd → α × Rd) : Nat → Rd → List α × Rd
  | 0, r => ([], r)
  | k + 1, r => if r.e ≠ 0 then ([], r) else ((rd r).1 :: (itemsR rd k (rd r).2).1, (itemsR rd k (rd r).2).2)
def manyR (r : Rd) : Nat × Rd := if (numR r).2.e ≠ 0 then (0, (numR r).2) else if (numR r).1 < 0 ∨ 10000 < (numR r).1 then (0, ⟨(numR r).2.l, 11⟩) else ((numR r).1.toNat, (numR r).2)
def listR_ {α : Type} (rd : Rd → α × Rd) (r : Rd) : List α × Rd := itemsR rd (manyR r).1 (manyR r).2
def listL_ {α : Type} (enc : α → Byt) (L : List α) : Byt := numL (L.length : Int) ++ L.flatMap enc
theorem items_back {α : Type} (a : Cod α) (L : List α) : ∀ r, (∀ x ∈ L, a.ok x) → itemsR a.rd L.length ⟨L.flatMap a.enc ++ r, 0⟩ = (L, ⟨r, 0⟩) := by
  induction L with
  | nil => intro r _; rfl
  | cons x t ih =>
    intro r h
    rw [List.length_cons, itemsR, if_neg (by simp), List.flatMap_cons, List.append_assoc, a.back x (h x (by simp)), ih r (fun y hy => h y (List.mem_cons_of_mem _ hy))]
theorem items_stick {α : Type} (a : Cod α) : ∀ (k : Nat) (r : Rd), (itemsR a.rd k r).2.e = 0 → r.e = 0 := by
  intro k
  induction k with
  | zero => intro r h; exact h
  | succ k ih =>
    intro r h
    by_cases he : r.e = 0
    · exact he
    · rw [itemsR, if_pos he] at h; exact h
theorem items_fwd {α : Type} (a : Cod α) : ∀ (k : Nat) (r : Rd), (itemsR a.rd k r).2.e = 0 → (itemsR a.rd k r).1.length = k ∧ r.l = (itemsR a.rd k r).1.flatMap a.enc ++ (itemsR a.rd k r).2.l := by
  intro k
  induction k with
  | zero => intro r h; exact ⟨rfl, rfl⟩
  | succ k ih =>
    intro r h
    have he := items_stick a (k + 1) r h
    rw [itemsR, if_neg (by omega)] at h ⊢
    simp only at h ⊢
    obtain ⟨h1, h2⟩ := ih _ h
    have h3 := a.fwd r (items_stick a k _ h)
    refine ⟨by rw [List.length_cons, h1], ?_⟩
    rw [List.flatMap_cons, List.append_assoc, ← h2]
    exact h3
theorem many_back (n : Nat) (hn : n ≤ 10000) (r : Byt) : manyR ⟨numL (n : Int) ++ r, 0⟩ = (n, ⟨r, 0⟩) := by
  unfold manyR
  rw [numR_back (n : Int) r (by omega) (by omega)]
  simp only [ne_eq, not_true_eq_false, if_false]
  rw [if_neg (by omega)]
  simp
theorem many_ok (r : Rd) (h : (manyR r).2.e = 0) : (numR r).2.e = 0 ∧ (manyR r).2 = (numR r).2 ∧ (numR r).1 = ((manyR r).1 : Int) := by
  unfold manyR at h ⊢
  by_cases h1 : (numR r).2.e = 0
  · rw [if_neg (by omega)] at h ⊢
    by_cases h2 : (numR r).1 < 0 ∨ 10000 < (numR r).1
    · rw [if_pos h2] at h; simp at h
    · rw [if_neg h2]
      refine ⟨h1, rfl, ?_⟩
      simp only
      omega
  · rw [if_pos h1] at h; exact absurd h h1
def Cod.list {α : Type} (a : Cod α) : Cod (List α) := ⟨listL_ a.enc, listR_ a.rd, fun L => L.length ≤ 10000 ∧ ∀ x ∈ L, a.ok x,
  fun L h r => by
    unfold listR_ listL_
    rw [List.append_assoc, many_back L.length h.1]
    exact items_back a L r h.2,
  fun r h => numR_stick r (many_ok r (items_stick a _ _ h)).1,
  fun r h => by
    obtain ⟨h1, h2, h3⟩ := many_ok r (items_stick a _ _ h)
    obtain ⟨i1, i2⟩ := items_fwd a _ _ h
    have h4 := numR_len1 r h1
    show r.l = listL_ a.enc (listR_ a.rd r).1 ++ (listR_ a.rd r).2.l
    unfold listL_
    rw [List.append_assoc]
    have e : ((listR_ a.rd r).1.length : Int) = (numR r).1 := by rw [h3]; exact congrArg _ i1
    rw [e, show (listR_ a.rd r).1.flatMap a.enc ++ (listR_ a.rd r).2.l = (manyR r).2.l from i2.symm, h2]
    exact h4⟩
theorem Cod.inj {α : Type} (a : Cod α) {x y : α} (hx : a.ok x) (hy : a.ok y) (h : a.enc x = a.enc y) : x = y := by
  have h1 := a.back x hx []
  have h2 := a.back y hy []
  rw [h, h2] at h1
  exact (Prod.mk.inj h1).1.symm
/-! The things. -/
structure Rg where
  key : Byt
  end_ : Byt
  rev : Int
  limit : Int
  keys : Bool
  count : Bool
  desc : Bool
deriving DecidableEq
structure Cp where
  key : Byt
  what : Int
  how : Int
  number : Int
  value : Byt
deriving DecidableEq
structure Opr where
  kind : Int
  rg : Rg
  value : Byt
  lease : Int
deriving DecidableEq
structure Kvr where
  key : Byt
  value : Byt
  create : Int
  mod : Int
  version : Int
  lease : Int
deriving DecidableEq
structure Ans where
  kind : Int
  kvs : List Kvr
  count : Int
  more : Bool
deriving DecidableEq
structure Req where
  kind : Int
  cmp : List Cp
  thn : List Opr
  els : List Opr
  rev : Int
  lease : Int
  ticks : Int
deriving DecidableEq
structure Res where
  err : Int
  rev : Int
  thn : Bool
  ans : List Ans
  ticks : Int
deriving DecidableEq
def rgC : Cod Rg := (textC.pair (textC.pair (numC.pair (numC.pair (flagC.pair (flagC.pair flagC)))))).iso (fun x => ⟨x.1, x.2.1, x.2.2.1, x.2.2.2.1, x.2.2.2.2.1, x.2.2.2.2.2.1, x.2.2.2.2.2.2⟩) (fun x => (x.key, x.end_, x.rev, x.limit, x.keys, x.count, x.desc)) (fun _ => rfl) (fun _ => rfl)
def cpC : Cod Cp := (textC.pair (numC.pair (numC.pair (numC.pair textC)))).iso (fun x => ⟨x.1, x.2.1, x.2.2.1, x.2.2.2.1, x.2.2.2.2⟩) (fun x => (x.key, x.what, x.how, x.number, x.value)) (fun _ => rfl) (fun _ => rfl)
def opC : Cod Opr := (numC.pair (rgC.pair (textC.pair numC))).iso (fun x => ⟨x.1, x.2.1, x.2.2.1, x.2.2.2⟩) (fun x => (x.kind, x.rg, x.value, x.lease)) (fun _ => rfl) (fun _ => rfl)
def kvC : Cod Kvr := (textC.pair (textC.pair (numC.pair (numC.pair (numC.pair numC))))).iso (fun x => ⟨x.1, x.2.1, x.2.2.1, x.2.2.2.1, x.2.2.2.2.1, x.2.2.2.2.2⟩) (fun x => (x.key, x.value, x.create, x.mod, x.version, x.lease)) (fun _ => rfl) (fun _ => rfl)
def anC : Cod Ans := (numC.pair (kvC.list.pair (numC.pair flagC))).iso (fun x => ⟨x.1, x.2.1, x.2.2.1, x.2.2.2⟩) (fun x => (x.kind, x.kvs, x.count, x.more)) (fun _ => rfl) (fun _ => rfl)
def rqC : Cod Req := (numC.pair (cpC.list.pair (opC.list.pair (opC.list.pair (numC.pair (numC.pair numC)))))).iso (fun x => ⟨x.1, x.2.1, x.2.2.1, x.2.2.2.1, x.2.2.2.2.1, x.2.2.2.2.2.1, x.2.2.2.2.2.2⟩) (fun x => (x.kind, x.cmp, x.thn, x.els, x.rev, x.lease, x.ticks)) (fun _ => rfl) (fun _ => rfl)
def rsC : Cod Res := (numC.pair (numC.pair (flagC.pair (anC.list.pair numC)))).iso (fun x => ⟨x.1, x.2.1, x.2.2.1, x.2.2.2.1, x.2.2.2.2⟩) (fun x => (x.err, x.rev, x.thn, x.ans, x.ticks)) (fun _ => rfl) (fun _ => rfl)
/-- What a client asks. -/
structure Askd where
  client : Int
  seq : Int
  reads : Bool
  req : Req
  rg : Rg
def zeroRg : Rg := ⟨[], [], 0, 0, false, false, false⟩
def zeroReq : Req := ⟨0, [], [], [], 0, 0, 0⟩
def zeroAskd : Askd := ⟨0, 0, false, zeroReq, zeroRg⟩
def zeroRes : Res := ⟨0, 0, false, [], 0⟩
def askL (c s : Int) (r : Req) : Byt := numL c ++ (numL s ++ (numL 0 ++ rqC.enc r))
def readL (c s : Int) (x : Rg) : Byt := numL c ++ (numL s ++ (numL 1 ++ rgC.enc x))
def askR (r : Rd) : Askd × Rd :=
  if (flagR (numR (numR r).2).2).1 then (⟨(numR r).1, (numR (numR r).2).1, true, zeroReq, (rgC.rd (flagR (numR (numR r).2).2).2).1⟩, (rgC.rd (flagR (numR (numR r).2).2).2).2)
  else (⟨(numR r).1, (numR (numR r).2).1, false, (rqC.rd (flagR (numR (numR r).2).2).2).1, zeroRg⟩, (rqC.rd (flagR (numR (numR r).2).2).2).2)
def parseL (l : Byt) : Askd × Nat := if endR (askR ⟨l, 0⟩).2 = 0 then ((askR ⟨l, 0⟩).1, 0) else (zeroAskd, endR (askR ⟨l, 0⟩).2)
def hearL (l : Byt) : Res × Nat := if endR (rsC.rd ⟨l, 0⟩).2 = 0 then ((rsC.rd ⟨l, 0⟩).1, 0) else (zeroRes, endR (rsC.rd ⟨l, 0⟩).2)
theorem endR_zero {r : Rd} (h : endR r = 0) : r.e = 0 ∧ r.l = [] := by
  unfold endR at h
  split at h
  · omega
  · rename_i hn
    refine ⟨h, Classical.byContradiction (fun q => hn ⟨h, q⟩)⟩
theorem askR_ask (c s : Int) (hc : i64 c) (hs : i64 s) (q : Req) (hq : rqC.ok q) (r : Byt) : askR ⟨askL c s q ++ r, 0⟩ = (⟨c, s, false, q, zeroRg⟩, ⟨r, 0⟩) := by
  unfold askR askL
  simp only [List.append_assoc]
  rw [numR_back c _ hc.1 hc.2, numR_back s _ hs.1 hs.2]
  have := flagC.back false trivial (rqC.enc q ++ r)
  have e : flagR ⟨numL 0 ++ (rqC.enc q ++ r), 0⟩ = (false, ⟨rqC.enc q ++ r, 0⟩) := this
  rw [e, rqC.back q hq r]
  rfl
theorem askR_read (c s : Int) (hc : i64 c) (hs : i64 s) (x : Rg) (hx : rgC.ok x) (r : Byt) : askR ⟨readL c s x ++ r, 0⟩ = (⟨c, s, true, zeroReq, x⟩, ⟨r, 0⟩) := by
  unfold askR readL
  simp only [List.append_assoc]
  rw [numR_back c _ hc.1 hc.2, numR_back s _ hs.1 hs.2]
  have := flagC.back true trivial (rgC.enc x ++ r)
  have e : flagR ⟨numL 1 ++ (rgC.enc x ++ r), 0⟩ = (true, ⟨rgC.enc x ++ r, 0⟩) := this
  rw [e, rgC.back x hx r]
  rfl
theorem parse_ask (c s : Int) (hc : i64 c) (hs : i64 s) (q : Req) (hq : rqC.ok q) : parseL (askL c s q) = (⟨c, s, false, q, zeroRg⟩, 0) := by
  have h := askR_ask c s hc hs q hq []
  rw [List.append_nil] at h
  unfold parseL
  rw [h]
  rfl
theorem parse_read (c s : Int) (hc : i64 c) (hs : i64 s) (x : Rg) (hx : rgC.ok x) (rest : Byt) : parseL (readL c s x ++ rest) = if rest = [] then (⟨c, s, true, zeroReq, x⟩, 0) else (zeroAskd, 12) := by
  have h := askR_read c s hc hs x hx rest
  unfold parseL
  rw [h]
  by_cases e : rest = []
  · rw [if_pos e, e]; rfl
  · rw [if_neg e]
    have : endR ⟨rest, 0⟩ = 12 := by unfold endR; rw [if_pos ⟨rfl, e⟩]
    simp only [this]
    rw [if_neg (by decide)]
/-- What is read is written as the same bytes. -/
theorem parse_fwd (l : Byt) (h : (parseL l).2 = 0) : (if (parseL l).1.reads then readL (parseL l).1.client (parseL l).1.seq (parseL l).1.rg else askL (parseL l).1.client (parseL l).1.seq (parseL l).1.req) = l := by
  unfold parseL at h ⊢
  by_cases he : endR (askR ⟨l, 0⟩).2 = 0
  · rw [if_pos he] at h ⊢
    obtain ⟨h1, h2⟩ := endR_zero he
    simp only
    unfold askR at h1 h2 ⊢
    cases hf : (flagR (numR (numR ⟨l, 0⟩).2).2).1 with
    | true =>
      rw [hf] at h1 h2
      simp only [Bool.false_eq_true, if_true, if_false] at h1 h2 ⊢
      have g1 := rgC.stick _ h1
      obtain ⟨f1, f2, f3⟩ := flagR_ok _ g1
      have z2 := numR_stick _ f1
      have z1 := numR_stick _ z2
      have n1 := numR_len1 _ z1
      have n2 := numR_len1 _ z2
      have n3 := numR_len1 _ f1
      have n4 := rgC.fwd _ h1
      rw [h2, List.append_nil] at n4
      rw [hf] at f3
      rw [f3, ← f2, n4] at n3
      rw [n3] at n2
      rw [n2] at n1
      exact n1.symm
    | false =>
      rw [hf] at h1 h2
      simp only [Bool.false_eq_true, if_true, if_false] at h1 h2 ⊢
      have g1 := rqC.stick _ h1
      obtain ⟨f1, f2, f3⟩ := flagR_ok _ g1
      have z2 := numR_stick _ f1
      have z1 := numR_stick _ z2
      have n1 := numR_len1 _ z1
      have n2 := numR_len1 _ z2
      have n3 := numR_len1 _ f1
      have n4 := rqC.fwd _ h1
      rw [h2, List.append_nil] at n4
      rw [hf] at f3
      rw [f3, ← f2, n4] at n3
      rw [n3] at n2
      rw [n2] at n1
      exact n1.symm
  · rw [if_neg he] at h; exact absurd h he
theorem hear_fwd (l : Byt) (h : (hearL l).2 = 0) : rsC.enc (hearL l).1 = l := by
  unfold hearL at h ⊢
  by_cases he : endR (rsC.rd ⟨l, 0⟩).2 = 0
  · rw [if_pos he]
    obtain ⟨h1, h2⟩ := endR_zero he
    have n1 := rsC.fwd _ h1
    rw [h2, List.append_nil] at n1
    exact n1.symm
  · rw [if_neg he] at h
    simp only at h
    exact (he h).elim
theorem hear_back (x : Res) (hx : rsC.ok x) : hearL (rsC.enc x) = (x, 0) := by
  have h := rsC.back x hx []
  rw [List.append_nil] at h
  unfold hearL
  rw [h]
  simp [endR]
theorem ask_inj {c s : Int} {a b : Req} (ha : rqC.ok a) (hb : rqC.ok b) (h : askL c s a = askL c s b) : a = b := by
  unfold askL at h
  exact rqC.inj ha hb (List.append_cancel_left (List.append_cancel_left (List.append_cancel_left h)))
end Go.Proofs.Ytlcblkmmkphpmaa
