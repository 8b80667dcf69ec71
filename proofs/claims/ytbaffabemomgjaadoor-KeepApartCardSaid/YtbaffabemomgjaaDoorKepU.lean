/- Two texts, and three, that come in as an array; the law KeepTidies. Conditions: as each theorem says. -/
import Derived.Test.YtbaffabemomgjaaDoorKepT
import Derived.OpenShut
namespace Go.Proofs.YtbaffabemomgjaaDoor
open Go.RowKit

theorem cdt : Tryd.prog.cellsOf 9 = 1 := by kernel_rfl
theorem wf_hi {n : Int} (h : (Lit.int .i64 n).wf = true) : n < 9223372036854775808 := by
  simp [Lit.wf, IntKind.max, IntKind.min] at h; have := h.2; simp [IntKind.max, IntKind.signed, IntKind.bits] at this; omega
abbrev DuoT : TypeId := 22
theorem cduo : Tryd.prog.cellsOf DuoT = 2 := by kernel_rfl
def IsDuo (v : Value) : Prop := ∃ N : Nat → Bys, v = .agg (duoC N).toArray ∧ ∀ j, (N j).length ≤ maxLen
def duo2 (a b : Bys) : Nat → Bys := fun i => if i = 0 then a else if i = 1 then b else []
set_option maxRecDepth 100000 in
open Go.WideShapes Go.ChangeShapes in
theorem open_duo {H : Type} {enc : TypeId × Value → H} {w : World} {r : Reach} {base : Nat} {v : Value} {d : DataW H} {p : List MemPlace}
    (hv : Value.okWide Tryd.prog w r base 22 v) (h : DataW.Trod enc Tryd.prog w 0 (fun _ => true) true 22 v d p) : IsDuo v := by
  have hv2 : ∃ cs, v = .agg cs ∧ cs.size = Tryd.prog.cellsOf DuoT := by
    simp only [Value.okWide, Tryd.underlying22] at hv
    obtain ⟨cs, h1, h2, _⟩ := hv
    exact ⟨cs, h1, h2⟩
  obtain ⟨cs, rfl, hsz⟩ := hv2
  obtain ⟨fuel, hf⟩ := h
  have hf2 : DataW.trod enc Tryd.prog w 0 (fun _ => true) true fuel DuoT cs.toList = some (d, p) := by simpa [Value.cells] using hf
  obtain ⟨xs, m, _, _, hl, hlen, hg⟩ := DataW.trod_array Tryd.underlying22 hf2
  rw [cduo] at hl
  obtain ⟨cl⟩ := cs
  match cl, hl, xs, hlen with
  | [c0, c1], _, [y0, y1], _ =>
    have h0 := hg 0 (by omega)
    have h1 := hg 1 (by omega)
    rw [cdt] at h0 h1
    obtain ⟨a, e0, _, l0⟩ := DataW.trod_string Tryd.underlying9 (by simpa using h0)
    obtain ⟨b, e1, _, l1⟩ := DataW.trod_string Tryd.underlying9 (by simpa using h1)
    simp at e0 e1
    subst e0 e1
    refine ⟨duo2 a.data.toList b.data.toList, ?_, fun j => ?_⟩
    · simp [duoC, duo2, strV, bs_of]
    · unfold duo2
      split
      · simpa using l0
      split
      · simpa using l1
      · simp
/-- THE LAW KeepTidies. -/
theorem keepTidies_walk (W : World) (a0 : ByteArray) (v1 : Value) (a2 : Int) (h0 : a0.size ≤ maxLen) (h1 : IsDuo v1) (w2 : (Lit.int .i64 a2).wf = true) :
    Calls Tryd.prog 6 #[.string a0, v1, .int .i64 a2] W fun e w' => e = .returned (.bool true) ∧ Below W.heap.size W w' := by
  obtain ⟨N, rfl, hN⟩ := h1
  have := tidies_law a0.data.toList N a2 W h0 hN (wf_hi w2)
  unfold strV at this
  rw [bs_of] at this
  exact this
end Go.Proofs.YtbaffabemomgjaaDoor
