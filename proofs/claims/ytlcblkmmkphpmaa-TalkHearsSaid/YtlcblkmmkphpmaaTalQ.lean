/- Plain: which requests and responses are few, that they are right to be written, and how many bytes they have. No program in sight. Conditions: as each theorem says. -/
import Derived.Test.YtlcblkmmkphpmaaTalP
namespace Go.Proofs.Ytlcblkmmkphpmaa

theorem numI_len (n : Int) (h : i64 n) : (numL n).length ≤ 10 := numL_len n h.1 h.2
theorem textI_len (s : Byt) (h : s.length ≤ 9223372036854775807) : (textL s).length ≤ 10 + s.length := by
  have := numL_len (s.length : Int) (by omega) (by omega)
  unfold textL
  rw [List.length_append]
  omega
theorem flagI_len (b : Bool) : (flagC.enc b).length ≤ 10 := numL_len (b2i b) (by unfold b2i; split <;> omega) (by unfold b2i; split <;> omega)
theorem flat_le {α : Type} (enc : α → Byt) (k : Nat) : ∀ (L : List α), (∀ x ∈ L, (enc x).length ≤ k) → (L.flatMap enc).length ≤ L.length * k := by
  intro L
  induction L with
  | nil => intro _; simp
  | cons a r ih =>
    intro h
    have h1 := h a (by simp)
    have h2 := ih (fun x hx => h x (List.mem_cons_of_mem _ hx))
    rw [List.flatMap_cons, List.length_append, List.length_cons, Nat.succ_mul]
    omega
/-! What holds of numbers and texts that come in. -/
def Rg.int (x : Rg) : Prop := i64 x.rev ∧ i64 x.limit
def Cp.int (x : Cp) : Prop := i64 x.what ∧ i64 x.how ∧ i64 x.number
def Opr.int (x : Opr) : Prop := i64 x.kind ∧ x.rg.int ∧ i64 x.lease
def Kvr.int (x : Kvr) : Prop := i64 x.create ∧ i64 x.mod ∧ i64 x.version ∧ i64 x.lease
def Ans.int (x : Ans) : Prop := i64 x.kind ∧ (∀ k ∈ x.kvs, k.int) ∧ i64 x.count
def Req.int (x : Req) : Prop := i64 x.kind ∧ (∀ c ∈ x.cmp, c.int) ∧ (∀ o ∈ x.thn, o.int) ∧ (∀ o ∈ x.els, o.int) ∧ i64 x.rev ∧ i64 x.lease ∧ i64 x.ticks
def Res.int (x : Res) : Prop := i64 x.err ∧ i64 x.rev ∧ (∀ a ∈ x.ans, a.int) ∧ i64 x.ticks
/-! Few. -/
def fewRg (x : Rg) : Bool := decide (x.key.length ≤ 1000) && decide (x.end_.length ≤ 1000)
def fewCp (x : Cp) : Bool := decide (x.key.length ≤ 1000) && decide (x.value.length ≤ 1000)
def fewOp (x : Opr) : Bool := fewRg x.rg && decide (x.value.length ≤ 1000)
def fewKv (x : Kvr) : Bool := decide (x.key.length ≤ 1000) && decide (x.value.length ≤ 1000)
def fewRq (x : Req) : Bool := (decide (x.cmp.length ≤ 30) && (decide (x.thn.length ≤ 30) && decide (x.els.length ≤ 30))) && (x.cmp.all fewCp && (x.thn.all fewOp && x.els.all fewOp))
def fewAn (x : Ans) : Bool := decide (x.kvs.length ≤ 30) && x.kvs.all fewKv
def fewRs (x : Res) : Bool := decide (x.ans.length ≤ 30) && x.ans.all fewAn
theorem rg_ok {x : Rg} (h : fewRg x = true) (hi : x.int) : rgC.ok x ∧ (rgC.enc x).length ≤ 2070 := by
  unfold fewRg at h
  simp only [Bool.and_eq_true, decide_eq_true_eq] at h
  obtain ⟨h1, h2⟩ := h
  refine ⟨⟨(show x.key.length ≤ 9223372036854775807 by omega), (show x.end_.length ≤ 9223372036854775807 by omega), hi.1, hi.2, trivial, trivial, trivial⟩, ?_⟩
  have a := textI_len x.key (by omega)
  have b := textI_len x.end_ (by omega)
  have c := numI_len _ hi.1
  have d := numI_len _ hi.2
  have e := flagI_len x.keys
  have f := flagI_len x.count
  have g := flagI_len x.desc
  show (textL x.key ++ (textL x.end_ ++ (numL x.rev ++ (numL x.limit ++ (flagC.enc x.keys ++ (flagC.enc x.count ++ flagC.enc x.desc)))))).length ≤ _
  simp only [List.length_append]
  omega
theorem cp_ok {x : Cp} (h : fewCp x = true) (hi : x.int) : cpC.ok x ∧ (cpC.enc x).length ≤ 2050 := by
  unfold fewCp at h
  simp only [Bool.and_eq_true, decide_eq_true_eq] at h
  obtain ⟨h1, h2⟩ := h
  refine ⟨⟨(show x.key.length ≤ 9223372036854775807 by omega), hi.1, hi.2.1, hi.2.2, (show x.value.length ≤ 9223372036854775807 by omega)⟩, ?_⟩
  have a := textI_len x.key (by omega)
  have b := textI_len x.value (by omega)
  have c := numI_len _ hi.1
  have d := numI_len _ hi.2.1
  have e := numI_len _ hi.2.2
  show (textL x.key ++ (numL x.what ++ (numL x.how ++ (numL x.number ++ textL x.value)))).length ≤ _
  simp only [List.length_append]
  omega
theorem op_ok {x : Opr} (h : fewOp x = true) (hi : x.int) : opC.ok x ∧ (opC.enc x).length ≤ 3100 := by
  unfold fewOp at h
  simp only [Bool.and_eq_true, decide_eq_true_eq] at h
  obtain ⟨h1, h2⟩ := h
  obtain ⟨r1, r2⟩ := rg_ok h1 hi.2.1
  refine ⟨⟨hi.1, r1, (show x.value.length ≤ 9223372036854775807 by omega), hi.2.2⟩, ?_⟩
  have b := textI_len x.value (by omega)
  have c := numI_len _ hi.1
  have d := numI_len _ hi.2.2
  show (numL x.kind ++ (rgC.enc x.rg ++ (textL x.value ++ numL x.lease))).length ≤ _
  simp only [List.length_append]
  omega
theorem kv_ok {x : Kvr} (h : fewKv x = true) (hi : x.int) : kvC.ok x ∧ (kvC.enc x).length ≤ 2060 := by
  unfold fewKv at h
  simp only [Bool.and_eq_true, decide_eq_true_eq] at h
  obtain ⟨h1, h2⟩ := h
  refine ⟨⟨(show x.key.length ≤ 9223372036854775807 by omega), (show x.value.length ≤ 9223372036854775807 by omega), hi.1, hi.2.1, hi.2.2.1, hi.2.2.2⟩, ?_⟩
  have a := textI_len x.key (by omega)
  have b := textI_len x.value (by omega)
  have c := numI_len _ hi.1
  have d := numI_len _ hi.2.1
  have e := numI_len _ hi.2.2.1
  have f := numI_len _ hi.2.2.2
  show (textL x.key ++ (textL x.value ++ (numL x.create ++ (numL x.mod ++ (numL x.version ++ numL x.lease))))).length ≤ _
  simp only [List.length_append]
  omega
theorem list_ok {α : Type} (a : Cod α) (few : α → Bool) (k : Nat) {L : List α} (hn : L.length ≤ 30) (hf : L.all few = true) (h : ∀ x ∈ L, few x = true → a.ok x ∧ (a.enc x).length ≤ k) : a.list.ok L ∧ (a.list.enc L).length ≤ 10 + 30 * k := by
  rw [List.all_eq_true] at hf
  refine ⟨⟨(show L.length ≤ 10000 by omega), fun x hx => (h x hx (hf x hx)).1⟩, ?_⟩
  have h1 := flat_le a.enc k L (fun x hx => (h x hx (hf x hx)).2)
  have h2 := numL_len (L.length : Int) (by omega) (by omega)
  show (numL (L.length : Int) ++ L.flatMap a.enc).length ≤ _
  rw [List.length_append]
  have h3 : L.length * k ≤ 30 * k := Nat.mul_le_mul_right k hn
  omega
theorem rq_ok {x : Req} (h : fewRq x = true) (hi : x.int) : rqC.ok x ∧ (rqC.enc x).length ≤ 300000 := by
  unfold fewRq at h
  simp only [Bool.and_eq_true, decide_eq_true_eq] at h
  obtain ⟨⟨n1, n2, n3⟩, f1, f2, f3⟩ := h
  obtain ⟨i1, i2, i3, i4, i5, i6, i7⟩ := hi
  obtain ⟨a1, a2⟩ := list_ok cpC fewCp 2050 n1 f1 (fun y hy hf => cp_ok hf (i2 y hy))
  obtain ⟨b1, b2⟩ := list_ok opC fewOp 3100 n2 f2 (fun y hy hf => op_ok hf (i3 y hy))
  obtain ⟨c1, c2⟩ := list_ok opC fewOp 3100 n3 f3 (fun y hy hf => op_ok hf (i4 y hy))
  refine ⟨⟨i1, a1, b1, c1, i5, i6, i7⟩, ?_⟩
  have d := numI_len _ i1
  have e := numI_len _ i5
  have f := numI_len _ i6
  have g := numI_len _ i7
  show (numL x.kind ++ (cpC.list.enc x.cmp ++ (opC.list.enc x.thn ++ (opC.list.enc x.els ++ (numL x.rev ++ (numL x.lease ++ numL x.ticks)))))).length ≤ _
  simp only [List.length_append]
  omega
theorem an_ok {x : Ans} (h : fewAn x = true) (hi : x.int) : anC.ok x ∧ (anC.enc x).length ≤ 62000 := by
  unfold fewAn at h
  simp only [Bool.and_eq_true, decide_eq_true_eq] at h
  obtain ⟨n1, f1⟩ := h
  obtain ⟨i1, i2, i3⟩ := hi
  obtain ⟨a1, a2⟩ := list_ok kvC fewKv 2060 n1 f1 (fun y hy hf => kv_ok hf (i2 y hy))
  refine ⟨⟨i1, a1, i3, trivial⟩, ?_⟩
  have d := numI_len _ i1
  have e := numI_len _ i3
  have f := flagI_len x.more
  show (numL x.kind ++ (kvC.list.enc x.kvs ++ (numL x.count ++ flagC.enc x.more))).length ≤ _
  simp only [List.length_append]
  omega
theorem rs_ok {x : Res} (h : fewRs x = true) (hi : x.int) : rsC.ok x ∧ (rsC.enc x).length ≤ 2000000 := by
  unfold fewRs at h
  simp only [Bool.and_eq_true, decide_eq_true_eq] at h
  obtain ⟨n1, f1⟩ := h
  obtain ⟨i1, i2, i3, i4⟩ := hi
  obtain ⟨a1, a2⟩ := list_ok anC fewAn 62000 n1 f1 (fun y hy hf => an_ok hf (i3 y hy))
  refine ⟨⟨i1, i2, trivial, a1, i4⟩, ?_⟩
  have d := numI_len _ i1
  have e := numI_len _ i2
  have f := numI_len _ i4
  have g := flagI_len x.thn
  show (numL x.err ++ (numL x.rev ++ (flagC.enc x.thn ++ (anC.list.enc x.ans ++ numL x.ticks)))).length ≤ _
  simp only [List.length_append]
  omega
end Go.Proofs.Ytlcblkmmkphpmaa
