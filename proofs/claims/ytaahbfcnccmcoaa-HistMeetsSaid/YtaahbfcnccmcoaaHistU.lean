/- The walks of slices.Concat, keeps and Take. Conditions: as each theorem says. -/
import Derived.Test.YtaahbfcnccmcoaaHistT
namespace Go.Proofs.Ytaahbfcnccmcoaa
open Go.RowKit

/-- What has been joined behind i of the two. -/
def joinE (A B : List Ent) (i : Nat) : List Ent := if i = 0 then [] else if i = 1 then A else A ++ B
set_option maxRecDepth 100000 in
set_option maxHeartbeats 1000000 in
theorem concat_any (A B : List Ent) (a b : Option Addr) (ca cb g : Nat) (w : World) (hA : EntsAt w (.slice a A.length ca) A) (hB : EntsAt w (.slice b B.length cb) B) (h0 : w.cell? ⟨g, 0, none⟩ = some (.slice a A.length ca)) (h1 : w.cell? ⟨g, 1, none⟩ = some (.slice b B.length cb)) (hn : A.length + B.length ≤ 1000000) :
    Calls Try.prog 55 #[.slice (some ⟨g, 0, none⟩) 2 2] w fun e w' => ∃ v, e = .returned v ∧ w'.ownsRow w.heap.size EntT 3 v (A ++ B).length (entRow (A ++ B)) ∧ Below w.heap.size w w' := by
  have HGr := Lib.hid (fun W => grow_any (A.length + B.length) hn W)
  rw [show ((A.length + B.length : Nat) : Int) = (A.length : Int) + (B.length : Int) from by omega] at HGr
  have HA := Lib.hid (fun W (hW : Below w.heap.size w W) => hA.grew hW)
  have HB := Lib.hid (fun W (hW : Below w.heap.size w W) => hB.grew hW)
  have H0 := Lib.hid (fun W (hW : Below w.heap.size w W) => Grew.cell hW h0)
  have H1 := Lib.hid (fun W (hW : Below w.heap.size w W) => Grew.cell hW h1)
  clear hA hB
  go_enter Try.func55, Try.ntmps55
  go_wp2_with (fail)
  go_loopw [3, 11] (fun sv iv wr => wr = w ∧ ((iv = .int .i64 0 ∧ sv = .int .i64 0) ∨ (iv = .int .i64 1 ∧ sv = .int .i64 (A.length : Int)) ∨ (iv = .int .i64 2 ∧ sv = .int .i64 ((A.length : Int) + (B.length : Int))))) (fun _ iv _ => 2 - (intOf iv).toNat)
  case atStart => exact ⟨rfl, .inl ⟨rfl, rfl⟩⟩
  case round =>
    obtain ⟨rfl, hrel⟩ := hrel
    rcases hrel with ⟨rfl, rfl⟩ | ⟨rfl, rfl⟩ | ⟨rfl, rfl⟩
    · have d1 : decide ((A.length : Int) < 0) = false := decide_eq_false (by omega)
      go_wp2
      go_roundw
      case rel => exact ⟨trivial, .inr (.inl ⟨rfl, rfl⟩)⟩
      case measure => simp [intOf]
    · have d1 : decide ((A.length : Int) + (B.length : Int) < 0) = false := decide_eq_false (by omega)
      go_wp2
      go_roundw
      case rel => exact ⟨trivial, .inr (.inr ⟨rfl, rfl⟩)⟩
      case measure => simp [intOf]
    · clear h0 h1
      go_wp2_with (go_at_call 56; (with_reducible refine (HGr.out _).mono ?_); rintro e w1 ⟨v1, rfl, hown, hb⟩)
      go_loopw [6, 27] (fun ov iv W => ∃ (i : Nat), i ≤ 2 ∧ iv = .int .i64 (i : Int) ∧ W.ownsRow wr.heap.size EntT 3 ov (joinE A B i).length (entRow (joinE A B i)) ∧ Below wr.heap.size wr W) (fun _ iv _ => 2 - (intOf iv).toNat)
      case atStart => exact ⟨0, by omega, rfl, hown, hb⟩
      case round =>
        obtain ⟨i, hi, rfl, hO, hB2⟩ := hrel
        have hsz := hB2.size
        clear hown hb HGr
        rcases (show i = 0 ∨ i = 1 ∨ i = 2 by omega) with rfl | rfl | rfl
        · have c0 := H0.out _ hB2
          have hE := HA.out _ hB2
          have HB2 := Lib.hid hB2
          rw [show joinE A B 0 = [] from rfl] at hO
          clear H0 HA hB2
          go_wp2_with (at_builtin; refine wpList_append_ents rfl _ _ rfl _ _ [] rfl hO A a ca rfl hE (by simp; omega) hsz ?_; intro v2 w2 hO2 hg2; have HO2 := Lib.hid hO2; have HB3 := Lib.hid (HB2.out.grown hg2 hsz (own_base hO)); clear hO2 hg2 hO)
          go_roundw
          case rel => exact ⟨1, by omega, rfl, by rw [show joinE A B 1 = A from rfl]; simpa using HO2.out, HB3.out⟩
          case measure => simp [intOf]
        · have c1 := H1.out _ hB2
          have hE := HB.out _ hB2
          have HB2 := Lib.hid hB2
          rw [show joinE A B 1 = A from rfl] at hO
          clear H1 HB hB2
          go_wp2_with (at_builtin; refine wpList_append_ents rfl _ _ rfl _ _ A rfl hO B b cb rfl hE hn hsz ?_; intro v2 w2 hO2 hg2; have HO2 := Lib.hid hO2; have HB3 := Lib.hid (HB2.out.grown hg2 hsz (own_base hO)); clear hO2 hg2 hO)
          go_roundw
          case rel => exact ⟨2, by omega, rfl, by rw [show joinE A B 2 = A ++ B from rfl]; exact HO2.out, HB3.out⟩
          case measure => simp [intOf]
        · have HB2 := Lib.hid hB2
          rw [show joinE A B 2 = A ++ B from rfl] at hO
          have HO := Lib.hid hO
          clear hO hB2
          go_wp2
          go_ret
          exact ⟨_, rfl, HO.out, HB2.out⟩
end Go.Proofs.Ytaahbfcnccmcoaa
