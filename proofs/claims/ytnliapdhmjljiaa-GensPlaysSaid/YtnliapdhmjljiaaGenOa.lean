/- The walk of Since, second part. Conditions: as each theorem says. -/
import Derived.Test.YtnliapdhmjljiaaGenO
namespace Go.Proofs.Ytnliapdhmjljiaa
open Go.RowKit

def SinceSaid (w : World) (L : List (Int × Bool)) (e : Ending) (w' : World) : Prop := ∃ v, e = .returned v ∧ Got w v L w'
def partP (rev : Int) (l : List Int) (j : Nat) : List (Int × Bool) := ((l.take j).filter fun p => decide (rev ≤ p)).map fun p => (p, false)
theorem part_step (rev : Int) (l : List Int) (j : Nat) (hj : j < l.length) : partP rev l (j + 1) = partP rev l j ++ if rev ≤ l[j] then [(l[j], false)] else [] := by
  unfold partP
  rw [List.take_succ_eq_append_getElem hj, List.filter_append, List.map_append]
  congr 1
  by_cases h : rev ≤ l[j] <;> simp [h]
theorem part_all (rev : Int) (l : List Int) : partP rev l l.length = (l.filter fun p => decide (rev ≤ p)).map fun p => (p, false) := by unfold partP; rw [List.take_length]
theorem part_len (rev : Int) (l : List Int) (j : Nat) : (partP rev l j).length ≤ l.length := by
  unfold partP
  have h1 := List.length_filter_le (fun p => decide (rev ≤ p)) (l.take j)
  have h2 : (l.take j).length ≤ l.length := by rw [List.length_take]; omega
  rw [List.length_map]; omega
theorem since_le (gs : List Gn) (k : Nat) (rev : Int) : (sinceG (gs.take k) rev).length ≤ sizeG gs := by
  have h1 := since_len rev (gs.take k)
  have h2 := sizeG_app (gs.take k) (gs.drop k)
  rw [List.take_append_drop] at h2
  omega
theorem Got.cast {w : World} {a : Option Addr} {n m c : Nat} {L : List (Int × Bool)} {W : World} (h : Got w (.slice a n c) L W) (e : n = m) : Got w (.slice a m c) L W := e ▸ h
section
variable {F : Nat → Prop} {kb : Nat} {s : Ks} {u : Value} {ps : List Value} {w : World}
theorem KeyAt.gcells (h : KeyAt F kb s u ps w) {g cap : Nat} (hu : u = .slice (some ⟨g, 0, none⟩) s.gs.length cap) (i : Nat) (h1 : i < s.gs.length) (h2 : i < ps.length) :
    w.cell? ⟨g, i * 4, none⟩ = some (.int .i64 s.gs[i].cr) ∧ w.cell? ⟨g, i * 4 + 1, none⟩ = some (.int .i64 s.gs[i].cut) ∧ w.cell? ⟨g, i * 4 + 2, none⟩ = some ps[i] ∧ w.cell? ⟨g, i * 4 + 3, none⟩ = some (.int .i64 s.gs[i].fin) :=
  ⟨(h.gcell hu i h1 h2 0 (by omega)).1, (h.gcell hu i h1 h2 1 (by omega)).1, (h.gcell hu i h1 h2 2 (by omega)).1, (h.gcell hu i h1 h2 3 (by omega)).1⟩
set_option maxRecDepth 100000 in
set_option maxHeartbeats 1000000 in
theorem since_any (h : KeyAt F kb s u ps w) (hsz : sizeG s.gs ≤ 100000) (rev : Int) : Calls Try.prog 18 #[.pointer (some ⟨kb, 0, none⟩), .int .i64 rev] w (SinceSaid w (sinceG s.gs rev)) := by
  have k0 := h.k0
  have hlen := sizeG_len s.gs
  have hps := h.len
  have HS := Lib.hid hsz
  have H := Lib.hid h
  obtain ⟨a, c, hu⟩ := own_slice h.row
  have HF : Hid (∀ k, k < s.gs.length → ∃ g, a = some ⟨g, 0, none⟩) := by
    apply Lib.hid
    intro k hk
    rcases h.form with ⟨_, h2⟩ | ⟨g, cap, h1, _⟩
    · rw [h2] at hk; simp at hk
    · rw [hu] at h1; simp only [Value.slice.injEq] at h1; exact ⟨g, h1.1⟩
  have hn : s.gs.length ≤ 100000 := by omega
  clear h hsz hlen
  rw [hu] at k0 H
  clear hu
  go_enter Try.func18, Try.ntmps18
  go_wp2
  go_loopw [5, 17] (fun out i wr => ∃ (k : Nat) (v : Value), k ≤ s.gs.length ∧ i = .int .i64 k ∧ out = v ∧ Got w v (sinceG (s.gs.take k) rev) wr) (fun _ i _ => s.gs.length - (intOf i).toNat)
  case atStart => exact ⟨0, _, Nat.zero_le _, rfl, rfl, Got.start w⟩
  case round =>
    obtain ⟨k, v, hk, rfl, rfl, hgot⟩ := hrel
    by_cases hlt : k < s.gs.length
    · have h2 : k < ps.length := by rw [hps]; exact hlt
      obtain ⟨g, rfl⟩ := HF.out k hlt
      have hkw := H.out.grew hgot.below
      obtain ⟨c0, c1, c2, c3⟩ := hkw.gcells rfl k hlt h2
      have hput := Lib.hid (H.out.puts k hlt h2)
      have HT := Lib.hid (since_take s.gs k rev hlt)
      have hbl := since_le s.gs k rev
      have hb2 := since_le s.gs (k + 1) rev
      have hpl := sizeG_puts s.gs _ (List.getElem_mem hlt)
      have HG := Lib.hid hgot
      have hsz := HS.out
      obtain ⟨pa, pc, hpv⟩ := (H.out.puts k hlt h2).form
      have hgt := (puts_get (hpv ▸ H.out.puts k hlt h2 : PutsAt w (.slice pa _ pc) _)).2
      have HP := Lib.hid hgt
      rw [hpv] at c2
      generalize s.gs[k] = gn at *
      generalize hbase : sinceG (s.gs.take k) rev = base at *
      clear hput hpv hgot hkw H HF hgt hbase
      obtain ⟨wo, hwo⟩ : ∃ wo : World, wo = wr := ⟨_, rfl⟩
      subst hwo
      go_wp2
      have hB0 : BlkAt wo.heap.size GnT [.int .i64 gn.cr, .int .i64 gn.cut, .slice pa gn.puts.length pc, .int .i64 gn.fin] (wo.alloc (.cells #[.int .i64 gn.cr, .int .i64 gn.cut, .slice pa gn.puts.length pc, .int .i64 gn.fin] GnT)) := BlkAt.alloc_new wo _ _
      have hG0 := HG.out.alloc (.cells #[.int .i64 gn.cr, .int .i64 gn.cut, .slice pa gn.puts.length pc, .int .i64 gn.fin] GnT)
      generalize wo.alloc (.cells #[.int .i64 gn.cr, .int .i64 gn.cut, .slice pa gn.puts.length pc, .int .i64 gn.fin] GnT) = wi at *
      generalize wo.heap.size = B1 at *
      go_loopw [5, 24] (fun out j W => ∃ (i : Nat) (v : Value), i ≤ gn.puts.length ∧ j = .int .i64 i ∧ out = v ∧ Got w v (base ++ partP rev gn.puts i) W ∧ BlkAt B1 GnT [.int .i64 gn.cr, .int .i64 gn.cut, .slice pa gn.puts.length pc, .int .i64 gn.fin] W) (fun _ j _ => gn.puts.length - (intOf j).toNat)
      case atStart => exact ⟨0, _, Nat.zero_le _, rfl, rfl, by simpa [partP] using hG0, hB0⟩
      case round =>
        obtain ⟨i, v, hi, rfl, rfl, hgot, hbox⟩ := hrel
        clear hG0 hB0 HG
        have hpt := part_len rev gn.puts i
        have hbx : (base ++ partP rev gn.puts i).length + 1 ≤ 1000000 := by rw [List.length_append]; omega
        by_cases hil : i < gn.puts.length
        · obtain ⟨b, o, rfl, hc⟩ := HP.out i hil
          have hc' := Grew.cell hgot.below hc
          have HPT := Lib.hid (part_step rev gn.puts i hil)
          clear hc
          generalize gn.puts[i] = p at *
          by_cases hr : rev ≤ p
          · have dr : decide (rev ≤ p) = true := decide_eq_true hr
            have HQ : Hid (partP rev gn.puts (i + 1) = partP rev gn.puts i ++ [(p, false)]) := Lib.hid (by rw [HPT.out, if_pos hr])
            clear HPT hr
            have HB := Lib.hid hbox
            clear hbox
            go_wp2_with (at_builtin; refine wpList_append_chg rfl _ _ rfl _ _ rfl p false hgot rfl hbx ?_; intro v' w1 hgot1 hg1; obtain ⟨a1, c1, rfl⟩ := own_slice hgot1.own; have HB1 := Lib.hid (hgot.other HB.out (by decide) p false hg1); have HG1 := Lib.hid hgot1; clear hgot1 hg1 hgot HB)
            go_roundw
            case rel => exact ⟨i + 1, _, by omega, by go_num, rfl, by rw [HQ.out, ← List.append_assoc]; exact HG1.out.cast (by simp only [List.length_append, List.length_cons, List.length_nil]; omega), HB1.out⟩
            case measure => simp [intOf]; omega
          · have dr : decide (rev ≤ p) = false := decide_eq_false hr
            have HQ : Hid (partP rev gn.puts (i + 1) = partP rev gn.puts i) := Lib.hid (by rw [HPT.out, if_neg hr, List.append_nil])
            clear HPT hr
            have HB := Lib.hid hbox
            have HG1 := Lib.hid hgot
            clear hbox hgot
            go_wp2
            go_roundw
            case rel => exact ⟨i + 1, _, by omega, by go_num, rfl, by rw [HQ.out]; exact HG1.out, HB.out⟩
            case measure => simp [intOf]; omega
        · obtain rfl : i = gn.puts.length := by omega
          have c3 := BlkAt.cell hbox (i := 3) rfl
          rw [← part_all] at HT
          generalize partP rev gn.puts gn.puts.length = part at *
          have dl : decide (gn.puts.length < gn.puts.length) = false := decide_eq_false (by omega)
          by_cases hf : 0 < gn.fin
          · have df : decide (0 < gn.fin) = true := decide_eq_true hf
            by_cases hr : rev ≤ gn.fin
            · have dr : decide (rev ≤ gn.fin) = true := decide_eq_true hr
              have HQ : Hid (sinceG (s.gs.take (k + 1)) rev = base ++ part ++ [(gn.fin, true)]) := Lib.hid (by rw [HT.out, if_pos ⟨hf, hr⟩, List.append_assoc])
              clear HT hr hf hbox
              generalize gn.fin = fin at *
              go_wp2_with (at_builtin; refine wpList_append_chg rfl _ _ rfl _ _ rfl fin true hgot rfl hbx ?_; intro v' w1 hgot1 hg1; obtain ⟨a1, c1, rfl⟩ := own_slice hgot1.own; have HG1 := Lib.hid hgot1; clear hgot1 hg1 hgot)
              go_roundw
              case rel => exact ⟨k + 1, _, by omega, by go_num, rfl, by rw [HQ.out]; exact HG1.out.cast (by simp only [List.length_append, List.length_cons, List.length_nil]; omega)⟩
              case measure => simp [intOf]; omega
            · have dr : decide (rev ≤ gn.fin) = false := decide_eq_false hr
              have HQ : Hid (sinceG (s.gs.take (k + 1)) rev = base ++ part) := Lib.hid (by rw [HT.out, if_neg (fun hh => hr hh.2), List.append_nil])
              have HG1 := Lib.hid hgot
              clear HT hr hf hbox hgot
              generalize gn.fin = fin at *
              go_wp2
              go_roundw
              case rel => exact ⟨k + 1, _, by omega, by go_num, rfl, by rw [HQ.out]; exact HG1.out⟩
              case measure => simp [intOf]; omega
          · have df : decide (0 < gn.fin) = false := decide_eq_false hf
            have HQ : Hid (sinceG (s.gs.take (k + 1)) rev = base ++ part) := Lib.hid (by rw [HT.out, if_neg (fun hh => hf hh.1), List.append_nil])
            have HG1 := Lib.hid hgot
            clear HT hf hbox hgot
            generalize gn.fin = fin at *
            go_wp2
            go_roundw
            case rel => exact ⟨k + 1, _, by omega, by go_num, rfl, by rw [HQ.out]; exact HG1.out⟩
            case measure => simp [intOf]; omega
    · obtain rfl : k = s.gs.length := by omega
      have HG := Lib.hid hgot
      clear hgot
      go_wp2
      go_ret
      exact ⟨_, rfl, by have := HG.out; rwa [List.take_length] at this⟩
end
end Go.Proofs.Ytnliapdhmjljiaa
