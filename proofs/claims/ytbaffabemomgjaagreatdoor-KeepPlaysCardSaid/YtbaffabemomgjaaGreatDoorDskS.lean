/- A map's keys, sorted, by the shelf's contracts (the three layings of the text Iter). Conditions: as each theorem says. -/
import Derived.Test.YtbaffabemomgjaaGreatDoorIter
import Derived.Test.YtbaffabemomgjaaGreatDoorDskA
import Derived.Test.YtbaffabemomgjaaGreatDoorGrow
namespace Go.Proofs.YtbaffabemomgjaaGreatDoor
open Go.RowKit Go.Maps Go.Sort Go.Shelf

theorem sorts_str (m : Nat) : AnyZ.SortsIn Tryz.prog Tryz.sorted39_ren Fence.wide m :=
  ⟨fun blk off cap ss W hH hblk hsz => callsIn_wide.2 (AnyM.slices_Sort_string Tryz.sort60 blk off cap ss W hH hblk hsz),
   fun p cap W => callsIn_wide.2 (AnyM.slices_Sort_string_none Tryz.sort60 p cap W)⟩
theorem mapsKeys_any (mb : Option Nat) (W : World) : Calls Tryz.prog 40 #[.map mb] W fun e w' => e = .returned (.func (.func 61) #[] #[.pointer (some ⟨W.heap.size, 0, none⟩)]) ∧ w' = W.alloc (.cells #[.map mb] FmT) :=
  callsIn_wide.1 (AnyZ.keys_in Tryz.keys40 Fence.wide 5 trivial rfl mb W)
set_option maxHeartbeats 1000000 in
theorem sortedKeys_any (b nn : Nat) (D0 : Da) (R : Value → Option (Da × List MemPlace)) (w : World) (hown : w.ownsMap Tryz.prog StT R b nn D0) (hmax : Maps.size D0 ≤ maxLen) (hbytes : Maps.size D0 * 16 ≤ 140737488355328) :
    Calls Tryz.prog 39 #[.func (.func 61) #[] #[.pointer (some ⟨w.heap.size, 0, none⟩)]] (w.alloc (.cells #[.map (some b)] FmT)) fun e w' => ∃ (v : Value) (ss : List (List UInt8)), e = .returned v ∧ ss.Perm (strKeys D0) ∧
      w'.ownsRow (w.alloc (.cells #[.map (some b)] FmT)).heap.size StT 1 v ss.length ((ss.mergeSort (fun x y => decide (x ≤ y))).map encStr) ∧ (v = .slice none 0 0 ↔ ss = []) ∧ Below (w.alloc (.cells #[.map (some b)] FmT)).heap.size (w.alloc (.cells #[.map (some b)] FmT)) w' := by
  have hbl := hown.lt
  have hseq : SeqGives Fence.wide 2 Tryz.prog 61 #[.pointer (some ⟨w.heap.size, 0, none⟩)] encStr (fun ss => ss.Perm (strKeys D0)) (Maps.size D0) (w.alloc (.cells #[.map (some b)] FmT)) :=
    AnyZ.keys_gives (ρ := Tryz.keys40_ren) { Tryz.keys40 with } Fence.wide _ trivial rfl (by omega) w.heap.size b nn D0 _ (by simp) (by simp) (by
      obtain ⟨es, clock, hb, Ft, hs, hD⟩ := hown
      exact ⟨es, clock, (Below.heap_alloc _ _ b hbl).trans hb, Ft, hs, hD⟩)
  exact callsIn_wide.1 (AnyZ.sorted_in Tryz.sorted39 Fence.wide 5 trivial trivial trivial trivial rfl (by omega) (sorts_str _) (enters_of Tryz.func60 (by kernel_rfl) rfl) 61 #[.pointer (some ⟨w.heap.size, 0, none⟩)] trivial (enters_of Tryz.func61 (by kernel_rfl) rfl) _ _ hmax hbytes _ hseq)
/-! The keys of a directory are its names, in order. -/
theorem lt_before : ∀ (a b : Bys), bytesBefore a b = true ↔ a < b := by
  intro a
  induction a with
  | nil => intro b; cases b <;> simp [bytesBefore]
  | cons x r ih =>
    intro b
    cases b with
    | nil => simp [bytesBefore]
    | cons y s =>
      rw [bytesBefore, List.cons_lt_cons_iff, Bool.or_eq_true, Bool.and_eq_true, decide_eq_true_eq, beq_iff_eq, ih s]
theorem enc_keys (M : Dir) : strKeys (encM M) = M.map (·.1) := by
  show (M.map _).map _ = _
  rw [List.map_map]
  exact List.map_congr_left (fun p _ => rfl)
theorem sorted_names {M : Dir} (h : M.sorted) {ss : List Bys} (hp : ss.Perm (strKeys (encM M))) : ss.mergeSort (fun x y => decide (x ≤ y)) = M.map (·.1) := by
  rw [enc_keys] at hp
  have h1 : (M.map (·.1)).Pairwise fun a b => leB a b = true := by
    rw [List.pairwise_map]
    refine h.imp (fun {a b} hab => ?_)
    exact decide_eq_true (List.le_of_lt ((lt_before _ _).1 hab))
  rw [mergeSort_of_perm hp]
  exact List.mergeSort_of_pairwise h1
def strCells (l : Bys) : List Value := [strV l]
theorem rowOf_str (L : List Bys) : rowOf strCells L = L.map encStr := by
  unfold rowOf
  induction L with
  | nil => rfl
  | cons a L ih => rw [List.flatMap_cons, ih, List.map_cons]; rfl
theorem sortedFiles_any {b : Nat} {M : Dir} {w : World} (h : FilesAt b M w) (hs : M.sorted) (hn : M.length ≤ 1000000) :
    Calls Tryz.prog 39 #[.func (.func 61) #[] #[.pointer (some ⟨w.heap.size, 0, none⟩)]] (w.alloc (.cells #[.map (some b)] FmT)) fun e w' => ∃ v, e = .returned v ∧ Grow StT 1 strCells w.heap.size v (M.map (·.1)) w' ∧ Below w.heap.size w w' := by
  refine (sortedKeys_any b M.length (encM M) fileR w h (by rw [enc_size]; unfold maxLen; omega) (by rw [enc_size]; omega)).mono ?_
  rintro e w' ⟨v, ss, he, hp, ho, _, hb⟩
  have hl : ss.length = (M.map (·.1)).length := by rw [hp.length_eq, enc_keys]
  rw [sorted_names hs hp, hl] at ho
  refine ⟨v, he, ?_, ((Below.refl _ w).alloc (Nat.le_refl _) _).trans (hb.mono (by simp))⟩
  unfold Grow
  rw [rowOf_str]
  exact World.ownsRow.mono ho (by simp)
end Go.Proofs.YtbaffabemomgjaaGreatDoor
