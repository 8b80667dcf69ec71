/- Plain: what a crash leaves, file by file. No program in sight. Conditions: as each theorem says. -/
import Derived.Test.YtbaffabemomgjaaGreatDoorDskP
namespace Go.Proofs.YtbaffabemomgjaaGreatDoor
open Go.RowKit

def restK : Dir → List Int → List Int
  | [], ks => ks
  | p :: r, ks => if (p.2.d.length : Int) - p.2.s = 0 then restK r ks else restK r ks.tail
theorem crash_cons (p : Bys × Fil) (r : Dir) (ks : List Int) : crashM (p :: r) ks = if (p.2.d.length : Int) - p.2.s = 0 then p :: crashM r ks else (p.1, keepF p.2 (ks.headD 0)) :: crashM r ks.tail := rfl
theorem rest_cons (p : Bys × Fil) (r : Dir) (ks : List Int) : restK (p :: r) ks = if (p.2.d.length : Int) - p.2.s = 0 then restK r ks else restK r ks.tail := rfl
theorem crash_append (A B : Dir) : ∀ ks, crashM (A ++ B) ks = crashM A ks ++ crashM B (restK A ks) := by
  induction A with
  | nil => intro ks; rfl
  | cons p r ih =>
    intro ks
    rw [List.cons_append, crash_cons, crash_cons, rest_cons]
    split
    · rw [ih]; rfl
    · rw [ih]; rfl
theorem rest_append (A B : Dir) : ∀ ks, restK (A ++ B) ks = restK B (restK A ks) := by
  induction A with
  | nil => intro ks; rfl
  | cons p r ih =>
    intro ks
    rw [List.cons_append, rest_cons, rest_cons]
    split
    · rw [ih]
    · rw [ih]
theorem crash_length (M : Dir) (ks : List Int) : (crashM M ks).length = M.length := by
  have := congrArg List.length (crash_names M ks)
  simpa using this
theorem ins_mid {A B : Dir} {x : Bys × Fil} (hA : ∀ p ∈ A, bytesBefore p.1 x.1 = true) (hB : ∀ p ∈ B, bytesBefore x.1 p.1 = true) : insM x (A ++ B) = A ++ x :: B := by
  induction A with
  | nil =>
    cases B with
    | nil => rfl
    | cons y r => rw [List.nil_append, insM, if_pos (hB y (by simp))]; rfl
  | cons y r ih =>
    rw [List.cons_append, insM, if_neg (by rw [before_asymm (hA y (by simp))]; decide), ih (fun p hp => hA p (List.mem_cons_of_mem _ hp))]
    rfl
theorem put_mid {A B : Dir} {k : Bys} {f f' : Fil} (h : Dir.sorted (A ++ (k, f) :: B)) : putM (A ++ (k, f) :: B) k f' = A ++ (k, f') :: B := by
  unfold Dir.sorted at h
  obtain ⟨h1, h2, h3⟩ := List.pairwise_append.1 h
  obtain ⟨h4, h5⟩ := List.pairwise_cons.1 h2
  have hA : ∀ p ∈ A, bytesBefore p.1 k = true := fun p hp => h3 p hp (k, f) (by simp)
  have hB : ∀ p ∈ B, bytesBefore k p.1 = true := fun p hp => h4 p hp
  have hd : delM (A ++ (k, f) :: B) k = A ++ B := by
    have e1 := del_none (M := A) (k := k) (fun p hp => before_ne (hA p hp))
    have e2 := del_none (M := B) (k := k) (fun p hp => fun q => before_ne (hB p hp) q.symm)
    unfold delM at *
    rw [List.filter_append, List.filter_cons, if_neg (by simp), e1, e2]
  unfold putM
  rw [hd]
  exact ins_mid hA hB
/-- The files behind so many rounds. -/
def crashK (M : Dir) (ks : List Int) (i : Nat) : Dir := crashM (M.take i) ks ++ M.drop i
def restI (M : Dir) (ks : List Int) (i : Nat) : List Int := restK (M.take i) ks
theorem crashK_names (M : Dir) (ks : List Int) (i : Nat) : (crashK M ks i).map (·.1) = M.map (·.1) := by
  unfold crashK
  rw [List.map_append, crash_names, ← List.map_append, List.take_append_drop]
theorem sorted_names_iff (L : Dir) : L.sorted ↔ (L.map (·.1)).Pairwise fun a b => bytesBefore a b = true := by unfold Dir.sorted; rw [List.pairwise_map]
theorem crashK_sorted {M : Dir} (h : M.sorted) (ks : List Int) (i : Nat) : (crashK M ks i).sorted := by
  rw [sorted_names_iff, crashK_names, ← sorted_names_iff]
  exact h
theorem crashK_length (M : Dir) (ks : List Int) (i : Nat) : (crashK M ks i).length = M.length := by
  have := congrArg List.length (crashK_names M ks i)
  simpa using this
theorem crashK_split (M : Dir) (ks : List Int) (i : Nat) (hi : i < M.length) : crashK M ks i = crashM (M.take i) ks ++ M[i] :: M.drop (i + 1) := by
  unfold crashK
  rw [List.drop_eq_getElem_cons hi]
theorem crashK_get {M : Dir} (h : M.sorted) (ks : List Int) (i : Nat) (hi : i < M.length) : getM (crashK M ks i) M[i].1 = some M[i].2 := by
  refine get_of_mem (crashK_sorted h ks i) ?_
  rw [crashK_split M ks i hi]
  exact List.mem_append_right _ (List.mem_cons_self)
theorem crashK_step0 {M : Dir} (ks : List Int) (i : Nat) (hi : i < M.length) (h0 : (M[i].2.d.length : Int) - M[i].2.s = 0) : crashK M ks (i + 1) = crashK M ks i ∧ restI M ks (i + 1) = restI M ks i := by
  have e : M.take (i + 1) = M.take i ++ [M[i]] := by rw [List.take_succ_eq_append_getElem hi]
  constructor
  · rw [crashK_split M ks i hi]
    unfold crashK
    rw [e, crash_append]
    simp [crashM, h0]
  · unfold restI
    rw [e, rest_append]
    simp [restK, h0]
theorem crashK_step1 {M : Dir} (h : M.sorted) (ks : List Int) (i : Nat) (hi : i < M.length) (h0 : ¬ (M[i].2.d.length : Int) - M[i].2.s = 0) : crashK M ks (i + 1) = putM (crashK M ks i) M[i].1 (keepF M[i].2 ((restI M ks i).headD 0)) ∧ restI M ks (i + 1) = (restI M ks i).tail := by
  have e : M.take (i + 1) = M.take i ++ [M[i]] := by rw [List.take_succ_eq_append_getElem hi]
  constructor
  · have hs := crashK_sorted h ks i
    rw [crashK_split M ks i hi] at hs ⊢
    rw [show M[i] = (M[i].1, M[i].2) from rfl] at hs ⊢
    rw [put_mid hs]
    unfold crashK restI
    rw [e, crash_append]
    simp [crashM, h0]
  · unfold restI
    rw [e, rest_append]
    simp [restK, h0]
theorem crashK_end (M : Dir) (ks : List Int) : crashK M ks M.length = crashM M ks := by unfold crashK; simp
theorem crashK_zero (M : Dir) (ks : List Int) : crashK M ks 0 = M ∧ restI M ks 0 = ks := ⟨rfl, rfl⟩
end Go.Proofs.YtbaffabemomgjaaGreatDoor
