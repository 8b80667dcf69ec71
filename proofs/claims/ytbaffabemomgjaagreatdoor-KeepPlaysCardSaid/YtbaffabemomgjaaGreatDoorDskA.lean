/- A disk in memory: its map of files, and the laws of that map's operations. Conditions: as each theorem says. -/
import Derived.Test.YtbaffabemomgjaaGreatDoorDskP
import Derived.Test.YtbaffabemomgjaaGreatDoorBlk
import Derived.Test.YtbaffabemomgjaaGreatDoorApt
import Derived.Test.YtbaffabemomgjaaGreatDoorProg
import Derived.Test.YtbaffabemomgjaaGreatDoorChecked
import Derived.Maps.RangeWalk
import Derived.StringKeys
import Derived.StillTail
import Derived.Lib.EndianMore
namespace Go.Proofs.YtbaffabemomgjaaGreatDoor
open Go.RowKit

abbrev DkT : TypeId := 51
abbrev FlT : TypeId := 67
abbrev FmT : TypeId := 49
abbrev StT : TypeId := 9
def strV (l : Bys) : Value := .string (bs l)
def filV (f : Fil) : Value := .agg #[.string (bs f.d), .int .i64 f.s]
def filCells (f : Fil) : List Value := [.string (bs f.d), .int .i64 f.s]
/-- How a file reads. -/
def fileR : Value → Option (Da × List MemPlace)
  | .agg cs => match cs.toList with
    | [.string s, .int .i64 n] => some (.agg [.lit (.string s.data.toList), .lit (.int .i64 n)], [])
    | _ => none
  | _ => none
theorem fileR_mk (f : Fil) : fileR (filV f) = some (encF f, []) := by simp [fileR, filV, encF, bs]
theorem fileR_inv {v : Value} {y : Da × List MemPlace} (h : fileR v = some y) : ∃ f, v = filV f ∧ y = (encF f, []) := by
  unfold fileR at h
  split at h
  · split at h
    · rename_i s n e
      cases h
      refine ⟨⟨s.data.toList, n⟩, ?_, by simp [encF]⟩
      unfold filV
      simp only [bs_of]
      congr 1
      exact Array.toList_inj.1 e
    · cases h
  · cases h
theorem encF_inj {f g : Fil} (h : encF f = encF g) : f = g := by
  unfold encF at h
  simp only [DataW.agg.injEq, List.cons.injEq, DataW.lit.injEq, Lit.string.injEq, Lit.int.injEq, true_and, and_true] at h
  obtain ⟨d, s⟩ := f
  obtain ⟨d', s'⟩ := g
  simp only at h
  rw [h.1, h.2]
def FilesAt (b : Nat) (M : Dir) (w : World) : Prop := w.ownsMap Tryz.prog StT fileR b M.length (encM M)
set_option maxRecDepth 100000 in
theorem zero_file (w : World) : (zeroValue FlT).run Tryz.prog w = .ok (filV ⟨[], 0⟩) w := by kernel_rfl
theorem str_key : Maps.Keyed Tryz.prog StT := Maps.string_keyed Tryz.underlying9
theorem key_of (k : Bys) (h : k.length ≤ maxLen) : keyOf Tryz.prog StT (strV k) = some (.string k) := by
  have := Go.WideMaps.keyOf_string_mk (P := Tryz.prog) (k := StT) Tryz.underlying9 (s := bs k) (by rw [bs_size]; exact h)
  rw [bs_data] at this
  exact this
section
variable {b : Nat} {M : Dir} {w w' : World}
theorem FilesAt.lt (h : FilesAt b M w) : b < w.heap.size := World.ownsMap.lt h
theorem FilesAt.drew (h : FilesAt b M w) : FilesAt b M w.drew := h
theorem FilesAt.kept {row : Option Nat} (h : FilesAt b M w) (hg : w.grownBy w' row) (hne : some b ≠ row) : FilesAt b M w' := World.ownsMap.kept h hg hne
theorem FilesAt.grew (h : FilesAt b M w) (hb : Below w.heap.size w w') : FilesAt b M w' := by
  have hl := h.lt
  obtain ⟨es, clock, hh, r⟩ := h
  exact ⟨es, clock, by rw [hb.block b hl]; exact hh, r⟩
theorem FilesAt.apart {F : Nat → Prop} (h : FilesAt b M w) (hA : Apart F w w') (hF : ¬ F b) : FilesAt b M w' := by
  have hl := h.lt
  obtain ⟨es, clock, hh, r⟩ := h
  exact ⟨es, clock, by rw [hA.block b hl hF]; exact hh, r⟩
theorem files_new (w : World) : FilesAt w.heap.size [] (w.alloc (.map #[] 0)) := World.ownsMap_made w _ _ _
/-- 'files[k]'. -/
theorem FilesAt.look (h : FilesAt b M w) (k : Bys) (hk : k.length ≤ maxLen) : (Instr.lookup FmT (.map (some b)) (strV k) false).run Tryz.prog w = .ok (filV (getF M k)) w := by
  obtain ⟨v, ps, hrun, hv⟩ := World.ownsMap.lookup h str_key Tryz.underlying49 (zero_file w) (fileR_mk _) (key_of k hk)
  obtain ⟨f, rfl, hf⟩ := fileR_inv hv
  rw [hrun]
  simp only [Prod.mk.injEq] at hf
  have : f = getF M k := encF_inj (by
    rw [← hf.1, enc_at]
    unfold getF
    cases getM M k <;> rfl)
  rw [this]
/-- 'f, is := files[k]'. -/
theorem FilesAt.look2 (h : FilesAt b M w) (k : Bys) (hk : k.length ≤ maxLen) : (Instr.lookup FmT (.map (some b)) (strV k) true).run Tryz.prog w = .ok (.tuple #[filV (getF M k), .bool (getM M k).isSome]) w := by
  obtain ⟨v, ps, hrun, hv⟩ := World.ownsMap.look_ok h str_key Tryz.underlying49 (zero_file w) (fileR_mk _) (key_of k hk)
  obtain ⟨f, rfl, hf⟩ := fileR_inv hv
  rw [hrun, enc_has]
  simp only [Prod.mk.injEq] at hf
  have : f = getF M k := encF_inj (by
    rw [← hf.1, enc_at]
    unfold getF
    cases getM M k <;> rfl)
  rw [this]
/-- The count is the list's length. -/
theorem files_tight {n : Nat} (h : w.ownsMap Tryz.prog StT fileR b n (encM M)) : FilesAt b M w := by
  obtain ⟨es, clock, hh, F, hs, hD⟩ := h
  refine ⟨es, clock, hh, F, ?_, hD⟩
  have := enc_size M
  rw [hD] at this
  simp [Maps.size, length_sorted] at this
  omega
/-- 'files[k] = f'. -/
theorem FilesAt.store (h : FilesAt b M w) (hn : M.length < maxLen) (k : Bys) (hk : k.length ≤ maxLen) (f : Fil) : ∃ w', (Instr.mapUpdate FmT (.map (some b)) (strV k) (filV f)).run Tryz.prog w = .ok () w' ∧ FilesAt b (putM M k f) w' ∧ w.grownBy w' (some b) := by
  obtain ⟨w', hrun, ho, hg⟩ := World.ownsMap.update h str_key Tryz.underlying49 hn (key_of k hk) (fileR_mk f)
  rw [enc_put] at ho
  exact ⟨w', hrun, files_tight ho, hg⟩
/-- 'delete(files, k)'. -/
theorem FilesAt.drop (h : FilesAt b M w) (k : Bys) (hk : k.length ≤ maxLen) (ty : TypeId) : ∃ w', (Builtin.delete_ #[FmT, StT] ty #[.map (some b), strV k]).run Tryz.prog w = .ok (.tuple #[]) w' ∧ FilesAt b (delM M k) w' ∧ w.grownBy w' (some b) := by
  obtain ⟨w', hrun, ho, hg⟩ := World.ownsMap.drop h str_key Tryz.underlying49 (key_of k hk) ty
  rw [enc_del] at ho
  exact ⟨w', hrun, files_tight ho, hg.grown⟩
end
def dkCells (b : Nat) (d : Dk) : List Value := [.map (some b), .int .i64 d.limit, .int .i64 d.armed, .bool d.dead]
structure DkAt (g b : Nat) (d : Dk) (w : World) : Prop where
  head : BlkAt g DkT (dkCells b d) w
  files : FilesAt b d.m w
abbrev DkF (g b : Nat) : Nat → Prop := fun i => i = g ∨ i = b
section
variable {g b : Nat} {d : Dk} {w w' : World}
theorem DkAt.ne (h : DkAt g b d w) : g ≠ b := by
  intro e
  subst e
  obtain ⟨es, clock, hh, _⟩ := h.files
  have := h.head
  unfold BlkAt at this
  rw [hh] at this
  cases this
theorem DkAt.grew (h : DkAt g b d w) (hb : Below w.heap.size w w') : DkAt g b d w' := ⟨h.head.grew hb, h.files.grew hb⟩
theorem DkAt.drew (h : DkAt g b d w) : DkAt g b d w.drew := h.grew ((Below.refl _ w).drew)
theorem DkAt.apart {F : Nat → Prop} (h : DkAt g b d w) (hA : Apart F w w') (h1 : ¬ F g) (h2 : ¬ F b) : DkAt g b d w' := by
  refine ⟨?_, h.files.apart hA h2⟩
  have hl := h.head.lt
  unfold BlkAt
  rw [hA.block g hl h1]
  exact h.head
/-- Behind a write to the disk's own block. -/
theorem DkAt.head' (h : DkAt g b d w) {d' : Dk} (hm : d'.m = d.m) (hb : BlkAt g DkT (dkCells b d') w') (hg : w.grownBy w' (some g)) : DkAt g b d' w' := by
  refine ⟨hb, ?_⟩
  rw [hm]
  exact h.files.kept hg (fun e => h.ne (Option.some.inj e).symm)
/-- Behind a write to the map. -/
theorem DkAt.map' (h : DkAt g b d w) {M : Dir} (hf : FilesAt b M w') (hg : w.grownBy w' (some b)) : DkAt g b { d with m := M } w' :=
  ⟨h.head.grown hg (fun e => h.ne (Option.some.inj e)), hf⟩
end
end Go.Proofs.YtbaffabemomgjaaGreatDoor
