/- Plain: files as a list by rising names, and what a disk's calls do. No program in sight. Conditions: as each theorem says. -/
import Derived.Test.YtbaffabemomgjaaGreatDoorKit
import Derived.Maps.Own
import Derived.Maps.OwnSet
import Derived.Maps.Views
import Derived.WideShapes
namespace Go.Proofs.YtbaffabemomgjaaGreatDoor
open Go.RowKit

abbrev Bys := List UInt8
structure Fil where
  d : Bys
  s : Int
deriving DecidableEq, Inhabited
abbrev Dir := List (Bys × Fil)
def Dir.sorted (M : Dir) : Prop := M.Pairwise fun p q => bytesBefore p.1 q.1 = true
def insM (x : Bys × Fil) : Dir → Dir
  | [] => [x]
  | y :: r => if bytesBefore x.1 y.1 then x :: y :: r else y :: insM x r
def delM (M : Dir) (k : Bys) : Dir := M.filter fun p => decide (p.1 ≠ k)
def putM (M : Dir) (k : Bys) (f : Fil) : Dir := insM (k, f) (delM M k)
def getM (M : Dir) (k : Bys) : Option Fil := (M.find? fun p => decide (p.1 = k)).map (·.2)
def total (M : Dir) : Nat := (M.map fun p => p.2.d.length).sum
theorem before_ne {a b : Bys} (h : bytesBefore a b = true) : a ≠ b := by
  intro e
  subst e
  rw [Go.WideAt.bytes_irrefl] at h
  cases h
theorem before_asymm {a b : Bys} (h : bytesBefore a b = true) : bytesBefore b a = false := by
  cases hq : bytesBefore b a with
  | false => rfl
  | true =>
    have := Go.WideShapes.bytes_trans _ _ _ h hq
    rw [Go.WideAt.bytes_irrefl] at this
    cases this
theorem del_sorted {M : Dir} (h : M.sorted) (k : Bys) : (delM M k).sorted := List.Pairwise.filter _ h
theorem del_mem {M : Dir} {k : Bys} {p : Bys × Fil} : p ∈ delM M k ↔ p ∈ M ∧ p.1 ≠ k := by unfold delM; simp
theorem ins_mem {x p : Bys × Fil} : ∀ {M : Dir}, p ∈ insM x M ↔ p = x ∨ p ∈ M := by
  intro M
  induction M with
  | nil => simp [insM]
  | cons y r ih =>
    unfold insM
    split
    · simp
    · simp only [List.mem_cons, ih]
      constructor
      · rintro (h | h | h)
        · exact .inr (.inl h)
        · exact .inl h
        · exact .inr (.inr h)
      · rintro (h | h | h)
        · exact .inr (.inl h)
        · exact .inl h
        · exact .inr (.inr h)
theorem ins_sorted {x : Bys × Fil} : ∀ {M : Dir}, M.sorted → (∀ p ∈ M, p.1 ≠ x.1) → (insM x M).sorted := by
  intro M
  induction M with
  | nil => intro _ _; simp [insM, Dir.sorted]
  | cons y r ih =>
    intro h hn
    unfold Dir.sorted at h
    obtain ⟨h1, h2⟩ := List.pairwise_cons.1 h
    unfold insM
    split
    · rename_i hb
      refine List.pairwise_cons.2 ⟨fun q hq => ?_, h⟩
      rcases List.mem_cons.1 hq with e | hq
      · rw [e]; exact hb
      · exact Go.WideShapes.bytes_trans _ _ _ hb (h1 q hq)
    · rename_i hb
      refine List.pairwise_cons.2 ⟨fun q hq => ?_, ih h2 (fun p hp => hn p (List.mem_cons_of_mem _ hp))⟩
      rcases ins_mem.1 hq with e | hq
      · rw [e]
        rcases Go.WideAt.bytes_total _ _ (hn y (by simp)) with h3 | h3
        · exact h3
        · exact absurd h3 hb
      · exact h1 q hq
theorem put_sorted {M : Dir} (h : M.sorted) (k : Bys) (f : Fil) : (putM M k f).sorted := ins_sorted (del_sorted h k) (fun p hp => (del_mem.1 hp).2)
theorem get_mem {M : Dir} {k : Bys} {f : Fil} (h : getM M k = some f) : (k, f) ∈ M := by
  unfold getM at h
  obtain ⟨p, hp, rfl⟩ := Option.map_eq_some_iff.1 h
  have h1 := List.mem_of_find?_eq_some hp
  have h2 := List.find?_some hp
  have h3 : p.1 = k := by simpa using h2
  rw [← h3]
  exact h1
theorem get_none {M : Dir} {k : Bys} : getM M k = none ↔ ∀ p ∈ M, p.1 ≠ k := by
  unfold getM
  rw [Option.map_eq_none_iff, List.find?_eq_none]
  simp
theorem get_of_mem {M : Dir} (h : M.sorted) {k : Bys} {f : Fil} (hm : (k, f) ∈ M) : getM M k = some f := by
  cases hg : getM M k with
  | none => exact absurd rfl (get_none.1 hg _ hm)
  | some g =>
    have hg' := get_mem hg
    unfold Dir.sorted at h
    by_cases e : f = g
    · rw [e]
    · exfalso
      have : ∀ p ∈ M, ∀ q ∈ M, p.1 = q.1 → p = q := by
        clear hg hg' hm e
        induction M with
        | nil => intro p hp; cases hp
        | cons y r ih =>
          obtain ⟨h1, h2⟩ := List.pairwise_cons.1 h
          intro p hp q hq hpq
          rcases List.mem_cons.1 hp with e1 | hp
          · rcases List.mem_cons.1 hq with e2 | hq
            · rw [e1, e2]
            · have := before_ne (h1 q hq); rw [← e1] at this; exact absurd hpq this
          · rcases List.mem_cons.1 hq with e2 | hq
            · have := before_ne (h1 p hp); rw [← e2] at this; exact absurd hpq.symm this
            · exact ih h2 p hp q hq hpq
      have h3 := this _ hm _ hg' rfl
      simp only [Prod.mk.injEq, true_and] at h3
      exact e h3
theorem get_iff {M : Dir} (h : M.sorted) {k : Bys} {f : Fil} : getM M k = some f ↔ (k, f) ∈ M := ⟨get_mem, get_of_mem h⟩
theorem get_put_same {M : Dir} (h : M.sorted) (k : Bys) (f : Fil) : getM (putM M k f) k = some f := get_of_mem (put_sorted h k f) (ins_mem.2 (.inl rfl))
theorem opt_ext {α : Type} {a b : Option α} (h : ∀ x, a = some x ↔ b = some x) : a = b := by
  cases a with
  | none => cases b with
    | none => rfl
    | some y => exact absurd ((h y).2 rfl) (by simp)
  | some x => exact ((h x).1 rfl).symm
theorem get_put_other {M : Dir} (h : M.sorted) {k k' : Bys} (hne : k' ≠ k) (f : Fil) : getM (putM M k f) k' = getM M k' := by
  refine opt_ext (fun x => ?_)
  rw [get_iff (put_sorted h k f), get_iff h]
  unfold putM
  rw [ins_mem, del_mem]
  simp only [Prod.mk.injEq, ne_eq]
  constructor
  · rintro (⟨e, _⟩ | ⟨e, _⟩)
    · exact absurd e hne
    · exact e
  · intro e; exact .inr ⟨e, hne⟩
theorem get_del_same {M : Dir} (k : Bys) : getM (delM M k) k = none := get_none.2 (fun p hp => (del_mem.1 hp).2)
theorem get_del_other {M : Dir} (h : M.sorted) {k k' : Bys} (hne : k' ≠ k) : getM (delM M k) k' = getM M k' := by
  refine opt_ext (fun x => ?_)
  rw [get_iff (del_sorted h k), get_iff h, del_mem]
  exact ⟨fun e => e.1, fun e => ⟨e, hne⟩⟩
/-! Sums. -/
theorem total_cons (p : Bys × Fil) (M : Dir) : total (p :: M) = p.2.d.length + total M := by simp [total]
theorem total_ins (x : Bys × Fil) (M : Dir) : total (insM x M) = x.2.d.length + total M := by
  induction M with
  | nil => simp [insM, total]
  | cons y r ih =>
    unfold insM
    split
    · rw [total_cons]
    · rw [total_cons, total_cons, ih]; omega
def sizeOf_ (o : Option Fil) : Nat := match o with | some f => f.d.length | none => 0
theorem del_none {M : Dir} {k : Bys} (h : ∀ p ∈ M, p.1 ≠ k) : delM M k = M := by
  unfold delM
  rw [List.filter_eq_self]
  intro p hp
  exact decide_eq_true (h p hp)
theorem total_del {M : Dir} (h : M.sorted) (k : Bys) : total (delM M k) + sizeOf_ (getM M k) = total M := by
  induction M with
  | nil => rfl
  | cons y r ih =>
    unfold Dir.sorted at h
    obtain ⟨h1, h2⟩ := List.pairwise_cons.1 h
    by_cases e : y.1 = k
    · have hr : ∀ p ∈ r, p.1 ≠ k := fun p hp q => before_ne (h1 p hp) (by rw [e, q])
      have hd : delM (y :: r) k = r := by
        have := del_none hr
        unfold delM at this ⊢
        rw [List.filter_cons, if_neg (by simp [e]), this]
      have hg : getM (y :: r) k = some y.2 := by unfold getM; simp [e]
      rw [hd, hg, total_cons]
      show total r + y.2.d.length = _
      omega
    · have hd : delM (y :: r) k = y :: delM r k := by
        unfold delM
        rw [List.filter_cons, if_pos (by simp [e])]
      have hg : getM (y :: r) k = getM r k := by unfold getM; simp [e]
      rw [hd, hg, total_cons, total_cons]
      have := ih h2
      omega
theorem total_put {M : Dir} (h : M.sorted) (k : Bys) (f : Fil) : total (putM M k f) + sizeOf_ (getM M k) = total M + f.d.length := by
  unfold putM
  rw [total_ins]
  have := total_del h k
  simp only
  omega
theorem ins_length (x : Bys × Fil) (M : Dir) : (insM x M).length = M.length + 1 := by
  induction M with
  | nil => rfl
  | cons y r ih =>
    unfold insM
    split
    · rfl
    · simp [ih]
theorem del_length_le (M : Dir) (k : Bys) : (delM M k).length ≤ M.length := List.length_filter_le _ _
theorem put_length_le (M : Dir) (k : Bys) (f : Fil) : (putM M k f).length ≤ M.length + 1 := by
  unfold putM
  rw [ins_length]
  have := del_length_le M k
  omega
theorem put_length_same {M : Dir} {k : Bys} {g : Fil} (h : getM M k = some g) (f : Fil) : (putM M k f).length ≤ M.length := by
  unfold putM
  rw [ins_length]
  have hm := get_mem h
  have h1 : (delM M k).length < M.length := by
    unfold delM
    rw [List.length_filter_lt_length_iff_exists]
    exact ⟨_, hm, by simp⟩
  omega
/-! As the kit's data. -/
abbrev Da := DataW Unit
def encF (f : Fil) : Da := .agg [.lit (.string f.d), .lit (.int .i64 f.s)]
def encM (M : Dir) : Da := .map (M.map fun p => (.string p.1, encF p.2))
theorem enc_ins (x : Bys × Fil) (M : Dir) : DataW.insert (.string x.1, encF x.2) (M.map fun p => (Lit.string p.1, encF p.2)) = (insM x M).map fun p => (Lit.string p.1, encF p.2) := by
  induction M with
  | nil => rfl
  | cons y r ih =>
    rw [List.map_cons, DataW.insert, insM]
    have e : (Lit.string x.1).before (Lit.string y.1) = bytesBefore x.1 y.1 := rfl
    rw [e]
    split
    · rfl
    · rw [List.map_cons, ih]
theorem enc_filter (M : Dir) (k : Bys) : (M.map fun p => ((Lit.string p.1, encF p.2) : Lit × Da)).filter (fun p => !p.1.sameKey (.string k)) = (delM M k).map fun p => (Lit.string p.1, encF p.2) := by
  induction M with
  | nil => rfl
  | cons y r ih =>
    rw [List.map_cons, List.filter_cons, ih]
    unfold delM
    have e : (Lit.string y.1).sameKey (Lit.string k) = (y.1 == k) := rfl
    rw [e, List.filter_cons]
    by_cases h : y.1 = k
    · rw [if_neg (by simp [h]), if_neg (by simp [h])]
    · rw [if_pos (by simpa using h), if_pos (by simpa using h), List.map_cons]
theorem enc_put (M : Dir) (k : Bys) (f : Fil) : (encM M).put (.string k) (encF f) = encM (putM M k f) := by
  show DataW.map (DataW.insert (.string k, encF f) (List.filter _ _)) = _
  rw [enc_filter]
  exact congrArg _ (enc_ins (k, f) (delM M k))
theorem enc_del (M : Dir) (k : Bys) : (encM M).del (.string k) = encM (delM M k) := by
  show DataW.map (List.filter _ _) = _
  rw [enc_filter]
  rfl
theorem enc_at (M : Dir) (k : Bys) (z : Da) : (encM M).atKey (.string k) z = match getM M k with | some f => encF f | none => z := by
  unfold encM DataW.atKey getM
  simp only
  induction M with
  | nil => rfl
  | cons y r ih =>
    rw [List.map_cons, List.find?_cons, List.find?_cons]
    have e : (Lit.string y.1).sameKey (Lit.string k) = decide (y.1 = k) := by show (y.1 == k) = _; rw [Bool.eq_iff_iff]; simp
    simp only [e]
    by_cases h : y.1 = k
    · simp [h]
    · simpa [h] using ih
theorem enc_has (M : Dir) (k : Bys) : Maps.has (encM M) (.string k) = (getM M k).isSome := by
  show (M.map fun p => ((Lit.string p.1, encF p.2) : Lit × Da)).any (fun p => p.1.sameKey (.string k)) = _
  unfold getM
  induction M with
  | nil => rfl
  | cons y r ih =>
    rw [List.map_cons, List.any_cons, List.find?_cons]
    have e : (Lit.string y.1).sameKey (Lit.string k) = decide (y.1 = k) := by show (y.1 == k) = _; rw [Bool.eq_iff_iff]; simp
    simp only [e]
    by_cases h : y.1 = k
    · simp [h]
    · simpa [h] using ih
theorem enc_size (M : Dir) : Maps.size (encM M) = M.length := by show (M.map _).length = _; rw [List.length_map]
/-! A disk. -/
structure Dk where
  m : Dir
  limit : Int
  armed : Int
  dead : Bool
structure Dk.fit (d : Dk) : Prop where
  sorted : d.m.sorted
  lo : 1 ≤ d.limit
  hi : d.limit ≤ 1073741824
  used : (total d.m : Int) ≤ d.limit
  synced : ∀ p ∈ d.m, 0 ≤ p.2.s ∧ p.2.s ≤ p.2.d.length
  armed : 0 ≤ d.armed ∧ d.armed < 9223372036854775808
def actD (d : Dk) : Dk := if 0 < d.armed then { d with armed := d.armed - 1, dead := decide (d.armed - 1 = 0) } else d
def livesD (d : Dk) : Int := if d.dead then 20 else 0
def getF (M : Dir) (k : Bys) : Fil := (getM M k).getD ⟨[], 0⟩
def appendD (d : Dk) (k x : Bys) : Dk × Int :=
  if d.dead then (d, 20) else if k = [] then (d, 1) else if d.limit - total d.m < x.length then (d, 22)
  else (actD { d with m := putM d.m k ⟨(getF d.m k).d ++ x, (getF d.m k).s⟩ }, livesD (actD { d with m := putM d.m k ⟨(getF d.m k).d ++ x, (getF d.m k).s⟩ }))
def thereD (d : Dk) (k : Bys) : Int := if d.dead then 20 else if (getM d.m k).isSome then 0 else 21
def syncD (d : Dk) (k : Bys) : Dk × Int :=
  if thereD d k ≠ 0 then (d, thereD d k)
  else if (actD d).dead then (actD d, 20)
  else ({ actD d with m := putM d.m k ⟨(getF d.m k).d, (getF d.m k).d.length⟩ }, 0)
def removeD (d : Dk) (k : Bys) : Dk × Int :=
  if thereD d k ≠ 0 then (d, thereD d k) else if (actD d).dead then (actD d, 20) else ({ actD d with m := delM d.m k }, 0)
def renameD (d : Dk) (k t : Bys) : Dk × Int :=
  if d.dead then (d, 20) else if t = [] then (d, 1) else if thereD d k ≠ 0 then (d, thereD d k)
  else if (actD d).dead then (actD d, 20) else ({ actD d with m := putM (delM d.m k) t (getF d.m k) }, 0)
def truncD (d : Dk) (k : Bys) (n : Int) : Dk × Int :=
  if thereD d k ≠ 0 then (d, thereD d k)
  else if n < 0 ∨ (getF d.m k).d.length < n then (d, 1)
  else if (actD d).dead then (actD d, 20)
  else ({ actD d with m := putM d.m k ⟨(getF d.m k).d.take n.toNat, min (getF d.m k).s n⟩ }, 0)
def readD (d : Dk) (k : Bys) : Bys × Int := if thereD d k ≠ 0 then ([], thereD d k) else ((getF d.m k).d, 0)
def usedD (d : Dk) : Nat := if d.dead then 0 else total d.m
def armD (d : Dk) (n : Int) : Dk × Int := if d.dead then (d, 20) else if n < 0 then (d, 1) else ({ d with armed := n }, 0)
/-- What of a file stays: so many behind the synced ones. -/
def keepF (f : Fil) (k : Int) : Fil := ⟨f.d.take (f.s + min (max k 0) (f.d.length - f.s)).toNat, f.s + min (max k 0) (f.d.length - f.s)⟩
def crashM : Dir → List Int → Dir
  | [], _ => []
  | p :: r, ks => if (p.2.d.length : Int) - p.2.s = 0 then p :: crashM r ks else (p.1, keepF p.2 (ks.headD 0)) :: crashM r ks.tail
def crashD (d : Dk) (ks : List Int) : Dk := ⟨crashM d.m ks, d.limit, 0, false⟩
theorem act_m (d : Dk) : (actD d).m = d.m := by unfold actD; split <;> rfl
theorem act_limit (d : Dk) : (actD d).limit = d.limit := by unfold actD; split <;> rfl
theorem act_fit {d : Dk} (h : d.fit) : (actD d).fit := by
  unfold actD
  split
  · exact ⟨h.sorted, h.lo, h.hi, h.used, h.synced, by have := h.armed; simp only; omega⟩
  · exact h
theorem getF_len {M : Dir} (k : Bys) : (getF M k).d.length = sizeOf_ (getM M k) := by unfold getF sizeOf_; cases getM M k <;> rfl
theorem getF_synced {d : Dk} (h : d.fit) (k : Bys) : 0 ≤ (getF d.m k).s ∧ (getF d.m k).s ≤ (getF d.m k).d.length := by
  unfold getF
  cases hg : getM d.m k with
  | none => simp
  | some f => exact h.synced _ (get_mem hg)
theorem put_synced {M : Dir} (h : ∀ p ∈ M, 0 ≤ p.2.s ∧ p.2.s ≤ p.2.d.length) (k : Bys) {f : Fil} (hf : 0 ≤ f.s ∧ f.s ≤ f.d.length) : ∀ p ∈ putM M k f, 0 ≤ p.2.s ∧ p.2.s ≤ p.2.d.length := by
  intro p hp
  rcases ins_mem.1 hp with e | hp
  · rw [e]; exact hf
  · exact h p (del_mem.1 hp).1
theorem size_le_total {M : Dir} (h : M.sorted) (k : Bys) : sizeOf_ (getM M k) ≤ total M := by have := total_del h k; omega
theorem append_fit0 {d : Dk} (h : d.fit) (k x : Bys) (hl : ¬ d.limit - total d.m < x.length) : ({ d with m := putM d.m k ⟨(getF d.m k).d ++ x, (getF d.m k).s⟩ } : Dk).fit := by
  refine ⟨put_sorted h.sorted _ _, h.lo, h.hi, ?_, put_synced h.synced k ?_, h.armed⟩
  · have h1 := total_put h.sorted k ⟨(getF d.m k).d ++ x, (getF d.m k).s⟩
    have h2 := getF_len (M := d.m) k
    simp only [List.length_append] at h1
    simp only
    omega
  · have := getF_synced h k
    simp only [List.length_append]
    omega
theorem append_fit {d : Dk} (h : d.fit) (k x : Bys) : (appendD d k x).1.fit := by
  unfold appendD
  split
  · exact h
  · split
    · exact h
    · split
      · exact h
      · rename_i hl
        exact act_fit (append_fit0 h k x hl)
theorem sync_fit {d : Dk} (h : d.fit) (k : Bys) : (syncD d k).1.fit := by
  unfold syncD
  split
  · exact h
  · split
    · exact act_fit h
    · have ha := act_fit h
      refine ⟨put_sorted h.sorted _ _, ha.lo, ha.hi, ?_, put_synced h.synced k ⟨by simp, by simp⟩, ha.armed⟩
      have h1 := total_put h.sorted k ⟨(getF d.m k).d, (getF d.m k).d.length⟩
      have h2 := getF_len (M := d.m) k
      have h3 := h.used
      simp only at h1
      rw [act_limit]
      simp only
      omega
theorem remove_fit {d : Dk} (h : d.fit) (k : Bys) : (removeD d k).1.fit := by
  unfold removeD
  split
  · exact h
  · split
    · exact act_fit h
    · have ha := act_fit h
      refine ⟨del_sorted h.sorted _, ha.lo, ha.hi, ?_, fun p hp => h.synced p (del_mem.1 hp).1, ha.armed⟩
      have h1 := total_del h.sorted k
      have h3 := h.used
      rw [act_limit]
      simp only
      omega
theorem rename_fit {d : Dk} (h : d.fit) (k t : Bys) : (renameD d k t).1.fit := by
  unfold renameD
  split
  · exact h
  · split
    · exact h
    · split
      · exact h
      · split
        · exact act_fit h
        · have ha := act_fit h
          refine ⟨put_sorted (del_sorted h.sorted _) _ _, ha.lo, ha.hi, ?_, put_synced (fun p hp => h.synced p (del_mem.1 hp).1) t (getF_synced h k), ha.armed⟩
          have h1 := total_put (del_sorted h.sorted k) t (getF d.m k)
          have h2 := total_del h.sorted k
          have h4 := getF_len (M := d.m) k
          have h3 := h.used
          rw [act_limit]
          simp only
          omega
theorem trunc_fit {d : Dk} (h : d.fit) (k : Bys) (n : Int) : (truncD d k n).1.fit := by
  unfold truncD
  split
  · exact h
  · split
    · exact h
    · rename_i hn
      split
      · exact act_fit h
      · have ha := act_fit h
        have hs := getF_synced h k
        refine ⟨put_sorted h.sorted _ _, ha.lo, ha.hi, ?_, put_synced h.synced k ?_, ha.armed⟩
        · have h1 := total_put h.sorted k ⟨(getF d.m k).d.take n.toNat, min (getF d.m k).s n⟩
          have h2 := getF_len (M := d.m) k
          have h3 := h.used
          simp only [List.length_take] at h1
          rw [act_limit]
          simp only
          omega
        · simp only [List.length_take]
          omega
theorem arm_fit {d : Dk} (h : d.fit) (n : Int) (hn : n < 9223372036854775808) : (armD d n).1.fit := by
  unfold armD
  split
  · exact h
  · split
    · exact h
    · exact ⟨h.sorted, h.lo, h.hi, h.used, h.synced, by simp only; omega⟩
theorem crash_names : ∀ (M : Dir) (ks : List Int), (crashM M ks).map (·.1) = M.map (·.1) := by
  intro M
  induction M with
  | nil => intro ks; rfl
  | cons p r ih =>
    intro ks
    unfold crashM
    split
    · rw [List.map_cons, List.map_cons, ih]
    · rw [List.map_cons, List.map_cons, ih]
theorem crash_mem : ∀ (M : Dir) (ks : List Int) (q : Bys × Fil), q ∈ crashM M ks → ∃ p ∈ M, p.1 = q.1 ∧ (q.2 = p.2 ∨ ∃ k, q.2 = keepF p.2 k) := by
  intro M
  induction M with
  | nil => intro ks q hq; cases hq
  | cons p r ih =>
    intro ks q hq
    unfold crashM at hq
    split at hq
    · rcases List.mem_cons.1 hq with e | hq
      · exact ⟨p, by simp, by rw [e], .inl (by rw [e])⟩
      · obtain ⟨p', hp', h1, h2⟩ := ih ks q hq
        exact ⟨p', List.mem_cons_of_mem _ hp', h1, h2⟩
    · rcases List.mem_cons.1 hq with e | hq
      · exact ⟨p, by simp, by rw [e], .inr ⟨_, by rw [e]⟩⟩
      · obtain ⟨p', hp', h1, h2⟩ := ih ks.tail q hq
        exact ⟨p', List.mem_cons_of_mem _ hp', h1, h2⟩
theorem keepF_fit (f : Fil) (k : Int) (h : 0 ≤ f.s ∧ f.s ≤ f.d.length) : 0 ≤ (keepF f k).s ∧ (keepF f k).s ≤ (keepF f k).d.length ∧ (keepF f k).d.length ≤ f.d.length := by
  unfold keepF
  simp only [List.length_take]
  omega
theorem crash_total {M : Dir} (h : ∀ p ∈ M, 0 ≤ p.2.s ∧ p.2.s ≤ p.2.d.length) : ∀ ks, total (crashM M ks) ≤ total M := by
  induction M with
  | nil => intro ks; exact Nat.le_refl _
  | cons p r ih =>
    intro ks
    have hr := ih (fun q hq => h q (List.mem_cons_of_mem _ hq))
    unfold crashM
    split
    · rw [total_cons, total_cons]; have := hr ks; omega
    · rw [total_cons, total_cons]
      have := hr ks.tail
      have := (keepF_fit p.2 (ks.headD 0) (h p (by simp))).2.2
      simp only
      omega
theorem crash_sorted {M : Dir} (h : M.sorted) (ks : List Int) : (crashM M ks).sorted := by
  have h1 : ∀ (L : Dir), L.sorted ↔ (L.map (·.1)).Pairwise fun a b => bytesBefore a b = true := fun L => by unfold Dir.sorted; rw [List.pairwise_map]
  rw [h1, crash_names, ← h1]
  exact h
theorem crash_fit {d : Dk} (h : d.fit) (ks : List Int) : (crashD d ks).fit := by
  refine ⟨crash_sorted h.sorted ks, h.lo, h.hi, ?_, fun q hq => ?_, by show (0 : Int) ≤ 0 ∧ (0 : Int) < _; omega⟩
  · have := crash_total h.synced ks
    have := h.used
    show (total (crashM d.m ks) : Int) ≤ d.limit
    omega
  · obtain ⟨p, hp, _, h2⟩ := crash_mem d.m ks q hq
    rcases h2 with e | ⟨k, e⟩
    · rw [e]; exact h.synced p hp
    · rw [e]
      have := keepF_fit p.2 k (h.synced p hp)
      exact ⟨this.1, this.2.1⟩
end Go.Proofs.YtbaffabemomgjaaGreatDoor
