/- The walk of Compact. Conditions: as each theorem says. -/
import Derived.Test.YtnliapdhmjljiaaGenCc
namespace Go.Proofs.Ytnliapdhmjljiaa
open Go.RowKit

def nodP (ps : List Value) : Prop := ∀ (i j b : Nat), (ps[i]?.bind Value.ownBlock) = some b → (ps[j]?.bind Value.ownBlock) = some b → i = j
theorem nod_iff : ∀ ps : List Value, nodP ps ↔ (ps.filterMap Value.ownBlock).Nodup := by
  intro ps
  induction ps with
  | nil => exact ⟨fun _ => List.nodup_nil, fun _ i j b h => by simp at h⟩
  | cons p ps ih =>
    constructor
    · intro h
      have h' : nodP ps := fun i j b h1 h2 => by
        have := h (i + 1) (j + 1) b (by simpa using h1) (by simpa using h2)
        omega
      rw [List.filterMap_cons]
      cases e : p.ownBlock with
      | none => exact ih.1 h'
      | some b =>
        refine List.nodup_cons.2 ⟨fun hm => ?_, ih.1 h'⟩
        obtain ⟨v, hv, hb⟩ := List.mem_filterMap.1 hm
        obtain ⟨k, hk, rfl⟩ := List.getElem_of_mem hv
        have := h 0 (k + 1) b (by simpa using e) (by simpa [hk] using hb)
        omega
    · intro h i j b h1 h2
      rw [List.filterMap_cons] at h
      have key : ∀ k : Nat, (ps[k]?.bind Value.ownBlock) = some b → p.ownBlock = some b → False := by
        intro k hk hp
        rw [hp] at h
        refine (List.nodup_cons.1 h).1 (List.mem_filterMap.2 ?_)
        cases e : ps[k]? with
        | none => rw [e] at hk; simp at hk
        | some v => rw [e] at hk; exact ⟨v, List.mem_of_getElem? e, by simpa using hk⟩
      have hn : (ps.filterMap Value.ownBlock).Nodup := by
        cases e : p.ownBlock with
        | none => rw [e] at h; exact h
        | some c => rw [e] at h; exact (List.nodup_cons.1 h).2
      cases i with
      | zero =>
        cases j with
        | zero => rfl
        | succ j => exact (key j (by simpa using h2) (by simpa using h1)).elim
      | succ i =>
        cases j with
        | zero => exact (key i (by simpa using h1) (by simpa using h2)).elim
        | succ j => rw [ih.2 hn i j b (by simpa using h1) (by simpa using h2)]
theorem nod_sub {ps qs : List Value} (h : nodP ps) (hs : qs.Sublist ps) : nodP qs := (nod_iff qs).2 (((nod_iff ps).1 h).sublist (hs.filterMap _))
theorem zip_filter_fst (p : Gn → Bool) : ∀ (gs : List Gn) (ps : List Value), ps.length = gs.length → ((gs.zip ps).filter (fun q => p q.1)).map Prod.fst = gs.filter p := by
  intro gs
  induction gs with
  | nil => intro ps _; rfl
  | cons g gs ih =>
    intro ps h
    cases ps with
    | nil => simp at h
    | cons v ps =>
      rw [List.zip_cons_cons, List.filter_cons, List.filter_cons]
      by_cases hp : p g = true
      · rw [if_pos hp, if_pos hp, List.map_cons, ih ps (by simpa using h)]
      · rw [if_neg hp, if_neg hp, ih ps (by simpa using h)]
theorem zip_snd : ∀ (gs : List Gn) (ps : List Value), ps.length = gs.length → (gs.zip ps).map Prod.snd = ps := by
  intro gs
  induction gs with
  | nil => intro ps h; cases ps with
    | nil => rfl
    | cons v ps => simp at h
  | cons g gs ih =>
    intro ps h
    cases ps with
    | nil => simp at h
    | cons v ps => rw [List.zip_cons_cons, List.map_cons, ih ps (by simpa using h)]
theorem zip_maps (L : List (Gn × Value)) : (L.map Prod.fst).zip (L.map Prod.snd) = L := by
  induction L with
  | nil => rfl
  | cons a L ih => rw [List.map_cons, List.map_cons, List.zip_cons_cons, ih]
section
variable {F : Nat → Prop} {kb : Nat} {s : Ks} {u : Value} {ps : List Value} {w : World}
/-- What is left of a key's row by DeleteFunc, noted in the key. -/
theorem KeyAt.filtered {g cap : Nat} (h : KeyAt F kb s (.slice (some ⟨g, 0, none⟩) s.gs.length cap) ps w) (rev : Int) (w0 w1 : World) (h0 : Below w.heap.size w w0) (hg : w0.grownBy w1 (some g)) (hR : RowIn g cap ((s.gs.zip ps).filter (keepP rev)) w1) :
    (∃ qs, KeyAt F kb ⟨s.gs.filter (fun g => !goneG rev g), s.last⟩ (.slice (some ⟨g, 0, none⟩) (s.gs.filter (fun g => !goneG rev g)).length cap) qs (w1.setCell ⟨kb, 0, none⟩ (.slice (some ⟨g, 0, none⟩) ((s.gs.zip ps).filter (keepP rev)).length cap))) ∧
    Apart F w (w1.setCell ⟨kb, 0, none⟩ (.slice (some ⟨g, 0, none⟩) ((s.gs.zip ps).filter (keepP rev)).length cap)) := by
  obtain ⟨hgF, hgk⟩ := h.uF g rfl
  have hfst := zip_filter_fst (fun g => !goneG rev g) s.gs ps h.len
  have hfst' : ((s.gs.zip ps).filter (keepP rev)).map Prod.fst = s.gs.filter (fun g => !goneG rev g) := hfst
  have hlen : ((s.gs.zip ps).filter (keepP rev)).length = (s.gs.filter (fun g => !goneG rev g)).length := by rw [← hfst', List.length_map]
  have hold : ∀ b, F b → b ≠ g → b ≠ kb → (w1.setCell ⟨kb, 0, none⟩ (.slice (some ⟨g, 0, none⟩) ((s.gs.zip ps).filter (keepP rev)).length cap)).heap[b]? = w.heap[b]? := fun b hb h1 h2 => by
    rw [Below.heap_setCell _ _ _ _ h2, hg.block b (Nat.lt_of_lt_of_le (h.lt b hb) h0.size) (fun e => h1 (Option.some.inj e))]
    exact h0.block b (h.lt b hb)
  have hkey : BlkAt kb KeyT [.slice (some ⟨g, 0, none⟩) s.gs.length cap, .int .i64 s.last] w1 := (h.key.grew h0).grown hg (fun e => hgk (Option.some.inj e).symm)
  have hsub : (((s.gs.zip ps).filter (keepP rev)).map Prod.snd).Sublist ps := by
    have := (List.filter_sublist (l := s.gs.zip ps) (p := keepP rev)).map Prod.snd
    rwa [zip_snd s.gs ps h.len] at this
  have hRk : RowIn g cap ((s.gs.zip ps).filter (keepP rev)) (w1.setCell ⟨kb, 0, none⟩ (.slice (some ⟨g, 0, none⟩) ((s.gs.zip ps).filter (keepP rev)).length cap)) := hR.kept (Below.heap_setCell _ _ _ _ hgk)
  refine ⟨⟨((s.gs.zip ps).filter (keepP rev)).map Prod.snd, ⟨?_, ?_, by rw [List.length_map]; exact hlen, ?_, h.kF, fun b hb => ?_, ?_, nod_sub h.nod hsub, fun b hb => ?_⟩⟩, ?_⟩
  · have := hkey.set 0 (.slice (some ⟨g, 0, none⟩) ((s.gs.zip ps).filter (keepP rev)).length cap)
    rw [← hlen]
    exact this
  · have := hRk.own
    show World.ownsRow _ 0 GnT 4 _ (s.gs.filter (fun g => !goneG rev g)).length (gnRow (s.gs.filter (fun g => !goneG rev g)) _)
    rw [pairRow_zip, ← hfst', zip_maps, List.length_map]
    exact this
  · intro i h1 h2
    simp only [List.length_map] at h2
    have hm := List.getElem_mem h2
    have hm2 := (List.mem_filter.1 hm).1
    obtain ⟨k, hk, he⟩ := List.getElem_of_mem hm2
    have hk1 : k < s.gs.length := by rw [List.length_zip] at hk; omega
    have hk2 : k < ps.length := by rw [h.len]; exact hk1
    have hp := h.puts k hk1 hk2
    rw [List.getElem_zip] at he
    have e1 : (s.gs.filter (fun g => !goneG rev g))[i]'h1 = s.gs[k] := by
      have : (((s.gs.zip ps).filter (keepP rev)).map Prod.fst)[i]'(by rw [List.length_map]; exact h2) = s.gs[k] := by rw [List.getElem_map, ← he]
      rw [← this]
      simp only [hfst']
    have e2 : (((s.gs.zip ps).filter (keepP rev)).map Prod.snd)[i]'(by rw [List.length_map]; exact h2) = ps[k] := by rw [List.getElem_map, ← he]
    show PutsAt _ ((((s.gs.zip ps).filter (keepP rev)).map Prod.snd)[i]'(by rw [List.length_map]; exact h2)) ((s.gs.filter (fun g => !goneG rev g))[i]'h1).puts
    rw [e1, e2]
    refine hp.kept (fun b hb => ?_)
    obtain ⟨a1, a2, a3⟩ := h.pF _ (List.getElem_mem hk2) b hb
    exact hold b a1 (fun e => a3 (by rw [e]; rfl)) a2
  · exact h.uF b hb
  · intro v hv b hb
    exact h.pF v (hsub.subset hv) b hb
  · have : b < w.heap.size := h.lt b hb
    have h1 := h0.size
    have h2 := hg.size
    have : (w1.setCell ⟨kb, 0, none⟩ (.slice (some ⟨g, 0, none⟩) ((s.gs.zip ps).filter (keepP rev)).length cap)).heap.size = w1.heap.size := by simp [World.setCell]
    omega
  · exact ((Apart.of_below h0).trans (Apart.of_grown (F := F) hg (fun k e => .inl (by cases e; exact hgF))) (fun i hi => .inl hi)).trans (Apart.set w1 kb _ _ h.kF) (fun i hi => .inl hi)
def cutTo (rev : Int) (gs : List Gn) (i : Nat) : List Gn := (gs.take i).map (cutG rev) ++ gs.drop i
theorem cutTo_length (rev : Int) (gs : List Gn) (i : Nat) (hi : i ≤ gs.length) : (cutTo rev gs i).length = gs.length := by
  unfold cutTo; rw [List.length_append, List.length_map, List.length_take, List.length_drop]; omega
theorem cutTo_get (rev : Int) (gs : List Gn) (i : Nat) (hi : i < gs.length) : (cutTo rev gs i)[i]'(by rw [cutTo_length rev gs i (by omega)]; exact hi) = gs[i] := by
  unfold cutTo
  rw [List.getElem_append_right (by rw [List.length_map, List.length_take]; omega)]
  simp only [List.length_map, List.length_take, List.getElem_drop]
  congr 1
  omega
theorem cutTo_succ (rev : Int) (gs : List Gn) (i : Nat) (hi : i < gs.length) : cutTo rev gs (i + 1) = (cutTo rev gs i).set i (cutG rev gs[i]) := by
  unfold cutTo
  have hl : ((gs.take i).map (cutG rev)).length = i := by rw [List.length_map, List.length_take]; omega
  rw [List.set_append_right _ _ (by omega), hl, Nat.sub_self, List.drop_eq_getElem_cons hi, List.set_cons_zero, List.take_succ_eq_append_getElem hi, List.map_append]
  simp
theorem cutTo_all (rev : Int) (gs : List Gn) : cutTo rev gs gs.length = gs.map (cutG rev) := by unfold cutTo; simp
theorem cutTo_zero (rev : Int) (gs : List Gn) : cutTo rev gs 0 = gs := by unfold cutTo; simp
/-- A piece of a row of puts, to its end. -/
theorem PutsAt.cut {v : Value} {l : List Int} (h : PutsAt w v l) (k : Nat) (hk : k < l.length) : ∃ b o c, v = .slice (some ⟨b, o, none⟩) l.length c ∧ l.length ≤ c ∧ c ≤ maxLen ∧ PutsAt w (.slice (some ⟨b, o + k, none⟩) (l.length - k) (l.length - k)) (l.drop k) := by
  rcases h with ⟨_, rfl⟩ | ⟨b, o, c, cur, rfl, hh, hoc, hlc, hcm, hget⟩
  · simp at hk
  · refine ⟨b, o, c, rfl, hlc, hcm, .inr ⟨b, o + k, l.length - k, cur, by rw [List.length_drop], hh, by omega, by rw [List.length_drop]; exact Nat.le_refl _, by omega, fun j hj => ?_⟩⟩
    rw [List.length_drop] at hj
    rw [Nat.add_assoc, hget (k + j) (by omega), List.getElem_drop]
end
end Go.Proofs.Ytnliapdhmjljiaa
