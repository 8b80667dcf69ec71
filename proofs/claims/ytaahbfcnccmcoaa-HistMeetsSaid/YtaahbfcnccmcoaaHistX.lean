/- The walks of keeps and Take, at what a Plan sends. Conditions: as each theorem says. -/
import Derived.Test.YtaahbfcnccmcoaaHistU
import Derived.Test.YtaahbfcnccmcoaaBlk
namespace Go.Proofs.Ytaahbfcnccmcoaa
open Go.RowKit

theorem grew_below {w0 w1 W : World} (h : Below w0.heap.size w0 w1) (hW : Grew w1 W) : Below w0.heap.size w0 W := h.trans (Below.mono hW h.size)
abbrev SyncT : TypeId := 85
def syncCells (k : Int) (z : Int × Int) (m : Value) : List Value := [.int .i64 k, .int .i64 0, .int .i64 0, .int .i64 0, .int .i64 z.1, .int .i64 z.2, .string ⟨#[]⟩, m]
def KeepSaid (v : Value) (c : Int) (w : World) (e : Ending) (w' : World) : Prop := e = .returned (.tuple #[v, .int .i64 c]) ∧ Below w.heap.size w w'
set_option maxRecDepth 100000 in
set_option maxHeartbeats 1000000 in
theorem keeps_diff (L : List Ent) (a : Option Addr) (cap : Nat) (z : Int × Int) (b : Option Addr) (n c : Nat) (w : World) (hL : EntsAt w (.slice a L.length cap) L) (hn : L.length ≤ 1000000) (hz : lastZ L = z) :
    Calls Try.prog 54 #[.slice a L.length cap, .agg #[.int .i64 1, .int .i64 0, .int .i64 0, .int .i64 0, .int .i64 z.1, .int .i64 z.2, .string ⟨#[]⟩, .slice b n c]] w (KeepSaid (.slice a L.length cap) 0 w) := by
  have hx := BlkAt.alloc_new w (syncCells 1 z (.slice b n c)) SyncT
  have hb := alloc_below w (.cells (syncCells 1 z (.slice b n c)).toArray SyncT)
  have HF := Lib.hid (fun W (hW : Below w.heap.size w W) => find_any L a cap z W (hL.grew hW) (by omega))
  have HL := Lib.hid (fun W (hW : Below w.heap.size w W) => last_any L a cap W (hL.grew hW) (by omega))
  rw [hz] at HL
  have HB := Lib.hid hb
  have c0 := hx.cell (i := 0) rfl
  have c4 := hx.cell (i := 4) rfl
  have c5 := hx.cell (i := 5) rfl
  unfold zxidV at HF HL
  unfold syncCells at c0 c4 c5 HB
  clear hx hb hL hz
  have hzc : ((z.1 == 0) = true ∧ (z.2 == 0) = true) ∨ ((z.1 == 0) = true ∧ (z.2 == 0) = false) ∨ (z.1 == 0) = false := by
    cases h1 : z.1 == 0 <;> cases h2 : z.2 == 0 <;> simp
  rcases hzc with ⟨e1, e2⟩ | ⟨e1, e2⟩ | e1
  all_goals
    go_enter Try.func54, Try.ntmps54
    go_wp2_with (go_at_call 21; (with_reducible refine (HF.out _ HB.out).mono ?_); rintro e w1 ⟨rfl, b1⟩; have c0 := Grew.cell b1 c0; have c4 := Grew.cell b1 c4; have c5 := Grew.cell b1 c5; have B1 := HB.out.trans (b1.mono HB.out.size); clear b1)
    have hex := Grew.all w1
    refine wp_region_grew (by kernel_rfl) (by kernel_rfl) ?_
    repeat (first | go_big_quiet_skip | (go_big_quiet_want; first | (refine quiet_load_mid 24 _ rfl w.heap.size 4 rfl [.int .i64 z.1, .int .i64 z.2] _ (fun W hW => range2 (Grew.cell hW c4) (Grew.cell hW c5)) Try.underlying24 rfl (by kernel_rfl) ?_; simp only [Act.put, List.setIfInBounds_toArray, List.set_cons_succ, List.set_cons_zero]; go_big_quiet_on) | (go_big_quiet_op; first | go_big_quiet_on | (apply Exists.intro; refine ⟨fun W hW => ?_, ?_⟩; (first | exact rfl | (go_at_call 23; with_reducible exact Calls.grew hW (HL.out _ (grew_below B1 hW)))); go_big_quiet_on))))
    refine wpQuiet_nil ?_
    intro w2 hw2
    have B2 := Lib.hid (grew_below B1 hw2)
    clear hex hw2 B1 c0 c4 c5
    go_wp2
    go_ret2
    exact ⟨rfl, B2.out⟩
set_option maxRecDepth 100000 in
set_option maxHeartbeats 1000000 in
theorem keeps_is (L : List Ent) (a : Option Addr) (cap : Nat) (z : Int × Int) (b : Option Addr) (n c : Nat) (w : World) (hL : EntsAt w (.slice a L.length cap) L) (hn : L.length ≤ 1000000) (hlc : L.length ≤ cap) (hi : findB L z = true) :
    Calls Try.prog 54 #[.slice a L.length cap, .agg #[.int .i64 2, .int .i64 0, .int .i64 0, .int .i64 0, .int .i64 z.1, .int .i64 z.2, .string ⟨#[]⟩, .slice b n c]] w (KeepSaid (.slice a (findN L z) cap) 0 w) := by
  have hx := BlkAt.alloc_new w (syncCells 2 z (.slice b n c)) SyncT
  have hb := alloc_below w (.cells (syncCells 2 z (.slice b n c)).toArray SyncT)
  have HF := Lib.hid (fun W (hW : Below w.heap.size w W) => find_any L a cap z W (hL.grew hW) (by omega))
  have hfl := findN_le L z
  have HB := Lib.hid hb
  have c0 := hx.cell (i := 0) rfl
  have c4 := hx.cell (i := 4) rfl
  have c5 := hx.cell (i := 5) rfl
  unfold zxidV at HF
  unfold syncCells at c0 c4 c5 HB
  clear hx hb hL
  rw [hi] at HF
  clear hi
  have hzc : ((z.1 == 0) = true ∧ (z.2 == 0) = true) ∨ ((z.1 == 0) = true ∧ (z.2 == 0) = false) ∨ (z.1 == 0) = false := by
    cases h1 : z.1 == 0 <;> cases h2 : z.2 == 0 <;> simp
  generalize findN L z = f at *
  rcases hzc with ⟨e1, e2⟩ | ⟨e1, e2⟩ | e1
  all_goals
    go_enter Try.func54, Try.ntmps54
    go_wp2_with (go_at_call 21; (with_reducible refine (HF.out _ HB.out).mono ?_); rintro e w1 ⟨rfl, b1⟩; have c0 := Grew.cell b1 c0; have c4 := Grew.cell b1 c4; have c5 := Grew.cell b1 c5; have B1 := HB.out.trans (b1.mono HB.out.size); clear b1)
    go_ret2
    exact ⟨rfl, B1⟩
set_option maxRecDepth 100000 in
set_option maxHeartbeats 1000000 in
theorem keeps_zero (L : List Ent) (a : Option Addr) (cap : Nat) (z : Int × Int) (b : Option Addr) (n c : Nat) (w : World) (hL : EntsAt w (.slice a L.length cap) L) (hn : L.length ≤ 1000000) (hlc : L.length ≤ cap) (hi : findB L z = false) (hz : z = (0, 0)) :
    Calls Try.prog 54 #[.slice a L.length cap, .agg #[.int .i64 2, .int .i64 0, .int .i64 0, .int .i64 0, .int .i64 z.1, .int .i64 z.2, .string ⟨#[]⟩, .slice b n c]] w (KeepSaid (.slice a (findN L z) cap) 0 w) := by
  have hx := BlkAt.alloc_new w (syncCells 2 z (.slice b n c)) SyncT
  have hb := alloc_below w (.cells (syncCells 2 z (.slice b n c)).toArray SyncT)
  have HF := Lib.hid (fun W (hW : Below w.heap.size w W) => find_any L a cap z W (hL.grew hW) (by omega))
  have hfl := findN_le L z
  have HB := Lib.hid hb
  have c0 := hx.cell (i := 0) rfl
  have c4 := hx.cell (i := 4) rfl
  have c5 := hx.cell (i := 5) rfl
  unfold zxidV at HF
  unfold syncCells at c0 c4 c5 HB
  clear hx hb hL
  rw [hi] at HF
  clear hi
  have hzc : (z.1 == 0) = true ∧ (z.2 == 0) = true := by rw [hz]; exact ⟨rfl, rfl⟩
  clear hz
  generalize findN L z = f at *
  obtain ⟨e1, e2⟩ := hzc
  all_goals
    go_enter Try.func54, Try.ntmps54
    go_wp2_with (go_at_call 21; (with_reducible refine (HF.out _ HB.out).mono ?_); rintro e w1 ⟨rfl, b1⟩; have c0 := Grew.cell b1 c0; have c4 := Grew.cell b1 c4; have c5 := Grew.cell b1 c5; have B1 := HB.out.trans (b1.mono HB.out.size); clear b1)
    go_ret2
    exact ⟨rfl, B1⟩
set_option maxRecDepth 100000 in
set_option maxHeartbeats 1000000 in
theorem keeps_old (L : List Ent) (a : Option Addr) (cap : Nat) (z : Int × Int) (b : Option Addr) (n c : Nat) (w : World) (hL : EntsAt w (.slice a L.length cap) L) (hn : L.length ≤ 1000000) (hlc : L.length ≤ cap) (hi : findB L z = false) (hz : z ≠ (0, 0)) :
    Calls Try.prog 54 #[.slice a L.length cap, .agg #[.int .i64 2, .int .i64 0, .int .i64 0, .int .i64 0, .int .i64 z.1, .int .i64 z.2, .string ⟨#[]⟩, .slice b n c]] w (KeepSaid (.slice none 0 0) 42 w) := by
  have hx := BlkAt.alloc_new w (syncCells 2 z (.slice b n c)) SyncT
  have hb := alloc_below w (.cells (syncCells 2 z (.slice b n c)).toArray SyncT)
  have HF := Lib.hid (fun W (hW : Below w.heap.size w W) => find_any L a cap z W (hL.grew hW) (by omega))
  have hfl := findN_le L z
  have HB := Lib.hid hb
  have c0 := hx.cell (i := 0) rfl
  have c4 := hx.cell (i := 4) rfl
  have c5 := hx.cell (i := 5) rfl
  unfold zxidV at HF
  unfold syncCells at c0 c4 c5 HB
  clear hx hb hL
  rw [hi] at HF
  clear hi
  have hzc : ((z.1 == 0) = true ∧ (z.2 == 0) = false) ∨ (z.1 == 0) = false := by
    rcases zx_cases z (0, 0) with ⟨h, _, _⟩ | ⟨_, h1, h2⟩ | ⟨_, h1⟩
    · exact absurd h hz
    · exact .inl ⟨h1, h2⟩
    · exact .inr h1
  clear hz
  generalize findN L z = f at *
  rcases hzc with ⟨e1, e2⟩ | e1
  all_goals
    go_enter Try.func54, Try.ntmps54
    go_wp2_with (go_at_call 21; (with_reducible refine (HF.out _ HB.out).mono ?_); rintro e w1 ⟨rfl, b1⟩; have c0 := Grew.cell b1 c0; have c4 := Grew.cell b1 c4; have c5 := Grew.cell b1 c5; have B1 := HB.out.trans (b1.mono HB.out.size); clear b1)
    go_ret2
    exact ⟨rfl, B1⟩
end Go.Proofs.Ytaahbfcnccmcoaa
