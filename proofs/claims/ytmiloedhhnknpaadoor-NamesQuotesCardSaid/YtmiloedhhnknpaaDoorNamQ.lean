/- The walk of Quote. Conditions: as each theorem says (a text of up to 1000000 bytes; the table deBruijn64tab as it was laid). -/
import Derived.Test.YtmiloedhhnknpaaDoorNamX
namespace Go.Proofs.YtmiloedhhnknpaaDoor
open Go.RowKit

/-- What the first rune, or byte that is none, is quoted as. -/
def stepL (l : List UInt8) : List UInt8 :=
  if badL l = true then [92, 120, dig ((l.getD 0 0).toNat / 16), dig ((l.getD 0 0).toNat % 16)]
  else if 33 ≤ (Lib.decodeL l).1 ∧ (Lib.decodeL l).1 ≤ 126 ∧ (Lib.decodeL l).1 ≠ 92 then l.take 1
  else [92, 117, 123] ++ hexL (Lib.decodeL l).1 ++ [125]
def quoteF : Nat → List UInt8 → List UInt8
  | 0, _ => []
  | f + 1, l => if l = [] then [] else stepL l ++ quoteF f (l.drop (Lib.decodeL l).2)
def quoteL (l : List UInt8) : List UInt8 := quoteF l.length l
theorem quoteF_nil (f : Nat) : quoteF f [] = [] := by cases f <;> simp [quoteF]
theorem quoteF_step (f : Nat) (l : List UInt8) (h : l ≠ []) : quoteF (f + 1) l = stepL l ++ quoteF f (l.drop (Lib.decodeL l).2) := by rw [quoteF, if_neg h]
theorem stepL_bad (l : List UInt8) (h : badL l = true) : stepL l = [92, 120, dig ((l.getD 0 0).toNat / 16), dig ((l.getD 0 0).toNat % 16)] := by unfold stepL; rw [if_pos h]
theorem stepL_one (l : List UInt8) (h : badL l = false) (hn : 33 ≤ (Lib.decodeL l).1 ∧ (Lib.decodeL l).1 ≤ 126 ∧ (Lib.decodeL l).1 ≠ 92) : stepL l = l.take 1 := by unfold stepL; rw [if_neg (by simp [h]), if_pos hn]
theorem stepL_hex (l : List UInt8) (h : badL l = false) (hn : ¬ (33 ≤ (Lib.decodeL l).1 ∧ (Lib.decodeL l).1 ≤ 126 ∧ (Lib.decodeL l).1 ≠ 92)) : stepL l = [92, 117, 123] ++ hexL (Lib.decodeL l).1 ++ [125] := by unfold stepL; rw [if_neg (by simp [h]), if_neg hn]
theorem decodeL_max (l : List UInt8) : (Lib.decodeL l).1 ≤ 1114111 := Lib.decodeL_rune l
theorem stepL_len (l : List UInt8) : (stepL l).length ≤ 10 := by
  unfold stepL
  split
  · simp
  · split
    · simp; omega
    · have := hexL_len (Lib.decodeL l).1 6 (by have := decodeL_max l; omega) (by omega)
      simp; omega
/-- A rune below 128 is a byte. -/
theorem decodeL_ascii (l : List UInt8) (hl : l ≠ []) (h : (Lib.decodeL l).1 < 128) : l.take 1 = [UInt8.ofNat (Lib.decodeL l).1] ∧ (Lib.decodeL l).2 = 1 := by
  rw [Lib.decodeL_N] at h ⊢
  have h0 := UInt8.toNat_lt (l.getD 0 0)
  have h1 := UInt8.toNat_lt (l.getD 1 0)
  have h2 := UInt8.toNat_lt (l.getD 2 0)
  have h3 := UInt8.toNat_lt (l.getD 3 0)
  by_cases c0 : (l.getD 0 0).toNat < 128
  · rw [decodeN_1 _ _ _ _ _ c0]
    match l, hl with
    | a :: t, _ => exact ⟨by simp, rfl⟩
  exfalso
  by_cases c2 : C2 l.length (l.getD 0 0).toNat (l.getD 1 0).toNat
  · rw [decodeN_2 _ _ _ _ _ c2] at h
    obtain ⟨a1, a2, a3, a4⟩ := c2
    simp only at h; omega
  by_cases c3 : C3 l.length (l.getD 0 0).toNat (l.getD 1 0).toNat (l.getD 2 0).toNat
  · rw [decodeN_3 _ _ _ _ _ c3] at h
    obtain ⟨a1, a2, a3, a4, a5, a6, a7, a8⟩ := c3
    simp only at h; omega
  by_cases c4 : C4 l.length (l.getD 0 0).toNat (l.getD 1 0).toNat (l.getD 2 0).toNat (l.getD 3 0).toNat
  · rw [decodeN_4 _ _ _ _ _ c4] at h
    obtain ⟨a1, a2, a3, a4, a5, a6, a7, a8, a9, a10⟩ := c4
    simp only at h; omega
  rw [decodeN_0 _ _ _ _ _ h0 h1 h2 h3 c0 c2 c3 c4] at h
  simp only at h; omega
theorem enc_ascii (r : Nat) (h : r < 128) : Lib.encodeRune (r : Int) = [UInt8.ofNat r] := by
  unfold Lib.encodeRune
  rw [Lib.encodeRuneZ_one (by omega) (by omega)]
  simp
theorem or256 (b : Nat) (h : b < 256) : bits .or .i64 (b : Int) 256 = ((256 + b : Nat) : Int) := by
  have := i64_or_nat b 256 (by omega) (by omega)
  rw [show b ||| 256 = 256 + b by
    have := Nat.shiftLeft_add_eq_or_of_lt (b := b) (i := 8) (by omega) 1
    rw [Nat.or_comm]
    exact this.symm] at this
  exact this
theorem hex256 (b : Nat) (h : b < 256) : hexL (256 + b) = [49, dig (b / 16), dig (b % 16)] := by
  rw [hexL_hi _ (by omega), hexL_hi _ (by omega), hexL_lo _ (by omega)]
  have e1 : (256 + b) / 16 / 16 = 1 := by omega
  have e2 : (256 + b) / 16 % 16 = b / 16 := by omega
  have e3 : (256 + b) % 16 = b % 16 := by omega
  rw [e1, e2, e3]; rfl
theorem toList_app (a b : ByteArray) : (a ++ b).data.toList = a.data.toList ++ b.data.toList := by simp
/-- WriteString of whatever text. -/
theorem writeString_s (B b : Nat) (l : List UInt8) (s : ByteArray) (w : World) (h : BIs B b l w) (hlen : l.length + s.size ≤ 140737488355328) (hBw : B ≤ w.heap.size) :
    Calls Tryd.prog 24 #[.pointer (some ⟨b, 0, none⟩), .string s] w fun e w' => e = .returned (.tuple #[.int .i64 s.size, .nilIface]) ∧ BIs B b (l ++ s.data.toList) w' ∧ Below B w w' ∧ BKept b w w' := by
  have := writeString_any B b l s.data.toList w h (by rw [← Lib.size_eq]; exact hlen) hBw
  rw [bs_of] at this
  exact this
theorem bat_kept {B b : Nat} {p : Value} {cs : List Value} {w w' : World} (h : Lib.BuilderAt 35 5 B b p cs w) (hk : ∀ (g : Nat) (c : Array Value) (t : TypeId) (z : Nat × Nat), w.heap[g]? = some (Obj.cells c t z) → w'.heap[g]? = some (Obj.cells c t z)) : Lib.BuilderAt 35 5 B b p cs w' := by
  obtain ⟨hB, v, hbk, hown, hne⟩ := h
  refine ⟨hB, v, hk _ _ _ _ hbk, ⟨hown.1, ?_⟩, hne⟩
  rcases hown.2 with h2 | ⟨g, cap, cur, hv, hg, hh, r⟩
  · exact .inl h2
  · exact .inr ⟨g, cap, cur, hv, hg, hk _ _ _ _ hh, r⟩
theorem BIs.kept {B b : Nat} {l : List UInt8} {w w' : World} (h : BIs B b l w) (hk : ∀ (g : Nat) (c : Array Value) (t : TypeId) (z : Nat × Nat), w.heap[g]? = some (Obj.cells c t z) → w'.heap[g]? = some (Obj.cells c t z)) : BIs B b l w' := by
  rcases h with h | h
  · exact .inl (bat_kept h hk)
  · exact .inr (bat_kept h hk)
theorem BIs.below {B b : Nat} {l : List UInt8} {w w' : World} (h : BIs B b l w) (hb : Below w.heap.size w w') : BIs B b l w' :=
  BIs.kept h fun _ _ _ _ hg => Grew.at_ hb hg
theorem BIs.alloc {B b : Nat} {l : List UInt8} {w : World} (h : BIs B b l w) (o : Obj) : BIs B b l (w.alloc o) := BIs.below h (alloc_below w o)
theorem BIs.iterAt {B b : Nat} {l : List UInt8} {w : World} (h : BIs B b l w) {k : Nat} {s : ByteArray} {pos : Nat} (hk : w.heap[k]? = some (.stringIter s pos)) (pos' : Nat) : BIs B b l (w.iterAt k s pos') :=
  BIs.kept h fun g c t z hg => by
    rw [Lib.iterAt_other _ _ _ _ _ (fun e => by subst e; rw [hk] at hg; cases hg)]
    exact hg
theorem iter_below {w w' : World} {k : Nat} {s : ByteArray} {pos : Nat} (hk : w.heap[k]? = some (.stringIter s pos)) (hb : Below w.heap.size w w') : w'.heap[k]? = some (.stringIter s pos) := Grew.at_ hb hk

def qRel (w : World) (s : ByteArray) (R : List UInt8) (wr : World) : Prop :=
  ∃ (pos f : Nat) (acc : List UInt8), BIs w.heap.size w.heap.size acc wr ∧ wr.heap[w.heap.size + 1]? = some (.stringIter s pos) ∧ Below w.heap.size w wr ∧ R = acc ++ quoteF f (s.data.toList.drop pos) ∧ s.size ≤ pos + f ∧ pos ≤ s.size ∧ acc.length ≤ 10 * pos
set_option maxRecDepth 1000000 in
set_option maxHeartbeats 2000000 in
theorem quote_any (s : ByteArray) (w : World) (hs : s.size ≤ 1000000) (hd : DebAt w) :
    Calls Tryd.prog 13 #[.string s] w fun e w' => e = .returned (.string (bs (quoteL s.data.toList))) ∧ Below w.heap.size w w' := by
  have HR : Hid (quoteL s.data.toList = quoteF s.size (s.data.toList.drop 0)) := by show _ = _; unfold quoteL; rw [Lib.size_eq]; rfl
  have Hd := Lib.hid hd
  generalize quoteL s.data.toList = R at *
  clear hd
  go_enter Tryd.func13, Tryd.ntmps13
  go_wp2_with (fail)
  go_loopw [] (fun wr => qRel w s R wr) (fun wr => s.size - wr.iterPos (w.heap.size + 1))
  case atStart =>
    refine ⟨0, s.size, [], BIs.alloc (Lib.fresh_isBuilder 35 5 w) _, ?_, ((Below.refl _ w).alloc (Nat.le_refl _) _).alloc (by simp) _, HR.out, by omega, by omega, by simp⟩
    have := World.iter_heap (w.alloc (.cells #[.pointer none, .slice none 0 0] 35)) s 0
    simpa using this
  case round =>
    obtain ⟨pos, f, acc, hI, hit, hbw, hacc, hfu, hps, hal⟩ := hrel
    have hsz : w.heap.size + 1 < wr.heap.size := (Array.getElem?_eq_some_iff.1 hit).1
    have Hacc := Lib.hid hacc
    clear hacc
    by_cases hp : pos < s.size
    · have hnx : ∀ ty, (Instr.next (.pointer (some ⟨w.heap.size + 1, 0, none⟩)) true ty).run Tryd.prog wr = _ := fun ty => Lib.run_next_any_at wr (w.heap.size + 1) s pos ty hit hp
      obtain ⟨hw1, hw2⟩ := decode_wd s pos hp
      have hd1 := decode_le s pos
      have hI2 := BIs.iterAt hI hit (pos + (Utf8.decode s pos).2)
      have HI2 := Lib.hid (Lib.iterAt_heap wr (w.heap.size + 1) s pos (pos + (Utf8.decode s pos).2) hit)
      have hbw2 := Lib.below_iterAt hbw (k := w.heap.size + 1) (by omega) s (pos + (Utf8.decode s pos).2)
      have hsz2 : w.heap.size ≤ (wr.iterAt (w.heap.size + 1) s (pos + (Utf8.decode s pos).2)).heap.size := by rw [Lib.iterAt_size]; omega
      have hsz3 : w.heap.size + 1 < (wr.iterAt (w.heap.size + 1) s (pos + (Utf8.decode s pos).2)).heap.size := by rw [Lib.iterAt_size]; omega
      have Hd2 := Lib.hid (Hd.out.below hbw2)
      have HD := Lib.hid (decode_dl s pos)
      have HN := Lib.hid (drop_ne s pos hp)
      obtain ⟨f', rfl⟩ : ∃ f', f = f' + 1 := ⟨f - 1, by omega⟩
      have HW := Lib.hid (fun W => wrong_any s pos W hp (by omega))
      have HS : Hid (R = (acc ++ stepL (s.data.toList.drop pos)) ++ quoteF f' (s.data.toList.drop (pos + (Utf8.decode s pos).2))) := by
        show _ = _
        rw [Hacc.out, quoteF_step _ _ HN.out, HD.out, List.drop_drop, List.append_assoc]
      have hsl := stepL_len (s.data.toList.drop pos)
      have HG : Hid ((s.data.toList.drop pos).getD 0 0 = s[pos]) := by show _ = _; rw [← getD_at s pos hp]; simp [List.getD]
      by_cases hb : badL (s.data.toList.drop pos) = true
      · as_aux_lemma =>
        rw [hb] at HW
        have HT := Lib.hid (stepL_bad _ hb)
        have hbb := UInt8.toNat_lt s[pos]
        have Hor := or256 s[pos].toNat (by omega)
        have H6 := Lib.hid (hex256 s[pos].toNat (by omega))
        obtain ⟨u, hu⟩ : ∃ u, u = 256 + s[pos].toNat := ⟨_, rfl⟩
        rw [← hu] at Hor H6
        have hul : u < 4294967296 := by omega
        have Hz3 : (bs (hexL u)).size = 3 := by rw [bs_size, H6.out]; rfl
        clear hb hu
        go_wp2_with (go_at_call 23; refine (HW.out _).mono ?_; rintro e w' ⟨rfl, rfl⟩)
        refine (formatInt_any u hul _ Hd2.out).mono ?_
        rintro e w3 ⟨rfl, hb3⟩
        go_wp2_with (fail)
        have hI3 := BIs.below hI2 hb3
        have hit3 := Lib.hid (iter_below HI2.out hb3)
        have hbw3 := hbw2.trans (hb3.mono hsz2)
        have hsz4 : w.heap.size ≤ w3.heap.size := Nat.le_trans hsz2 hb3.size
        have HT2 : Hid (stepL (s.data.toList.drop pos) = ((⟨#[92, 120]⟩ : ByteArray) ++ (bs (hexL u)).extract 1 3).data.toList) := by
          show _ = _
          rw [HT.out, HG.out, toList_app, bs_extract, bs_data, H6.out]; rfl
        have hl4 : ((⟨#[92, 120]⟩ : ByteArray) ++ (bs (hexL u)).extract 1 3).size = 4 := by rw [Lib.size_eq, ← HT2.out, HT.out]; rfl
        refine (writeString_s w.heap.size w.heap.size acc _ _ hI3 (by omega) hsz4).mono ?_
        rintro e w4 ⟨rfl, hI4, hb4, hk4⟩
        have hit4 := Lib.hid (hk4.iter hit3.out (by omega))
        go_wp2
        go_roundw
        case rel => exact ⟨pos + (Utf8.decode s pos).2, f', _, hI4, hit4.out, hbw3.trans hb4, by rw [← HT2.out]; exact HS.out, by omega, hw2, by rw [← HT2.out, List.length_append]; omega⟩
        case measure =>
          simp only [World.iterPos, hit4.out, hit]
          omega
      · have hb' : badL (s.data.toList.drop pos) = false := by simpa using hb
        rw [hb'] at HW
        have hmax := decodeL_max (s.data.toList.drop pos)
        rw [← HD.out] at hmax
        clear hb
        by_cases hq : 33 ≤ (Utf8.decode s pos).1 ∧ (Utf8.decode s pos).1 ≤ 126 ∧ (Utf8.decode s pos).1 ≠ 92
        · as_aux_lemma =>
          have HT := Lib.hid (stepL_one _ hb' (by rw [← HD.out]; exact hq))
          have HA := Lib.hid (decodeL_ascii _ HN.out (by rw [← HD.out]; omega))
          rw [← HD.out] at HA
          have HE := Lib.hid (enc_ascii (Utf8.decode s pos).1 (by omega))
          obtain ⟨q1, q2, q3⟩ := hq
          have t1 : decide (32 < ((Utf8.decode s pos).1 : Int)) = true := decide_eq_true (by omega)
          have t2 : decide (((Utf8.decode s pos).1 : Int) < 127) = true := decide_eq_true (by omega)
          have t3 : (((Utf8.decode s pos).1 : Int) != 92) = true := by rw [bne_iff_ne]; omega
          clear q3 hb'
          go_wp2_with (go_at_call 23; refine (HW.out _).mono ?_; rintro e w' ⟨rfl, rfl⟩)
          refine (writeRune_any w.heap.size w.heap.size acc ((Utf8.decode s pos).1 : Int) (by omega) (by omega) _ hI2 (by omega) hsz2).mono ?_
          rintro e w4 ⟨rfl, hI4, hb4, hk4⟩
          have hit4 := Lib.hid (hk4.iter HI2.out (by omega))
          rw [HE.out, ← HA.out.1, ← HT.out] at hI4
          go_wp2
          go_roundw
          case rel => exact ⟨pos + (Utf8.decode s pos).2, f', _, hI4, hit4.out, hbw2.trans hb4, HS.out, by omega, hw2, by rw [List.length_append]; omega⟩
          case measure =>
            simp only [World.iterPos, hit4.out, hit]
            omega
        · have HT := Lib.hid (stepL_hex _ hb' (by rw [← HD.out]; exact hq))
          rw [← HD.out] at HT
          obtain ⟨u, hu⟩ : ∃ u, u = (Utf8.decode s pos).1 := ⟨_, rfl⟩
          rw [← hu] at HT hmax hq
          have hul : u < 4294967296 := by omega
          have hh6 := hexL_len u 6 (by omega) (by omega)
          have hz6 : (bs (hexL u)).size ≤ 6 := by rw [bs_size]; exact hh6
          have HT2 : Hid (stepL (s.data.toList.drop pos) = ((⟨#[92, 117, 123]⟩ : ByteArray) ++ bs (hexL u) ++ (⟨#[125]⟩ : ByteArray)).data.toList) := by
            show _ = _
            rw [HT.out, toList_app, toList_app, bs_data]
          have hl4 : ((⟨#[92, 117, 123]⟩ : ByteArray) ++ bs (hexL u) ++ (⟨#[125]⟩ : ByteArray)).size ≤ 10 := by rw [Lib.size_eq, ← HT2.out]; exact hsl
          have hl5 : ((⟨#[92, 117, 123]⟩ : ByteArray) ++ bs (hexL u)).size ≤ 9 := by
            have e : ((⟨#[92, 117, 123]⟩ : ByteArray) ++ bs (hexL u)).size = 3 + (bs (hexL u)).size := by rw [ByteArray.size_append]; rfl
            omega
          rcases Nat.lt_or_ge 32 u with q1 | q1
          · rcases Nat.lt_or_ge u 127 with q2 | q2
            · as_aux_lemma =>
              have t1 : decide (32 < ((Utf8.decode s pos).1 : Int)) = true := decide_eq_true (by omega)
              have t2 : decide (((Utf8.decode s pos).1 : Int) < 127) = true := decide_eq_true (by omega)
              have t3 : (((Utf8.decode s pos).1 : Int) != 92) = false := by simp; omega
              clear hq hb'
              go_wp2_with (go_at_call 23; refine (HW.out _).mono ?_; rintro e w' ⟨rfl, rfl⟩)
              rw [← hu]
              refine (formatInt_any u hul _ Hd2.out).mono ?_
              rintro e w3 ⟨rfl, hb3⟩
              clear hu
              go_wp2_with (fail)
              have hI3 := BIs.below hI2 hb3
              have hit3 := Lib.hid (iter_below HI2.out hb3)
              have hbw3 := hbw2.trans (hb3.mono hsz2)
              have hsz4 : w.heap.size ≤ w3.heap.size := Nat.le_trans hsz2 hb3.size
              refine (writeString_s w.heap.size w.heap.size acc _ _ hI3 (by omega) hsz4).mono ?_
              rintro e w4 ⟨rfl, hI4, hb4, hk4⟩
              have hit4 := Lib.hid (hk4.iter hit3.out (by omega))
              rw [← HT2.out] at hI4
              go_wp2
              go_roundw
              case rel => exact ⟨pos + (Utf8.decode s pos).2, f', _, hI4, hit4.out, hbw3.trans hb4, HS.out, by omega, hw2, by rw [List.length_append]; omega⟩
              case measure =>
                simp only [World.iterPos, hit4.out, hit]
                omega
            · as_aux_lemma =>
              have t1 : decide (32 < ((Utf8.decode s pos).1 : Int)) = true := decide_eq_true (by omega)
              have t2 : decide (((Utf8.decode s pos).1 : Int) < 127) = false := decide_eq_false (by omega)
              clear hq hb'
              go_wp2_with (go_at_call 23; refine (HW.out _).mono ?_; rintro e w' ⟨rfl, rfl⟩)
              rw [← hu]
              refine (formatInt_any u hul _ Hd2.out).mono ?_
              rintro e w3 ⟨rfl, hb3⟩
              clear hu
              go_wp2_with (fail)
              have hI3 := BIs.below hI2 hb3
              have hit3 := Lib.hid (iter_below HI2.out hb3)
              have hbw3 := hbw2.trans (hb3.mono hsz2)
              have hsz4 : w.heap.size ≤ w3.heap.size := Nat.le_trans hsz2 hb3.size
              refine (writeString_s w.heap.size w.heap.size acc _ _ hI3 (by omega) hsz4).mono ?_
              rintro e w4 ⟨rfl, hI4, hb4, hk4⟩
              have hit4 := Lib.hid (hk4.iter hit3.out (by omega))
              rw [← HT2.out] at hI4
              go_wp2
              go_roundw
              case rel => exact ⟨pos + (Utf8.decode s pos).2, f', _, hI4, hit4.out, hbw3.trans hb4, HS.out, by omega, hw2, by rw [List.length_append]; omega⟩
              case measure =>
                simp only [World.iterPos, hit4.out, hit]
                omega
          · as_aux_lemma =>
            have t1 : decide (32 < ((Utf8.decode s pos).1 : Int)) = false := decide_eq_false (by omega)
            clear hq hb'
            go_wp2_with (go_at_call 23; refine (HW.out _).mono ?_; rintro e w' ⟨rfl, rfl⟩)
            rw [← hu]
            refine (formatInt_any u hul _ Hd2.out).mono ?_
            rintro e w3 ⟨rfl, hb3⟩
            clear hu
            go_wp2_with (fail)
            have hI3 := BIs.below hI2 hb3
            have hit3 := Lib.hid (iter_below HI2.out hb3)
            have hbw3 := hbw2.trans (hb3.mono hsz2)
            have hsz4 : w.heap.size ≤ w3.heap.size := Nat.le_trans hsz2 hb3.size
            refine (writeString_s w.heap.size w.heap.size acc _ _ hI3 (by omega) hsz4).mono ?_
            rintro e w4 ⟨rfl, hI4, hb4, hk4⟩
            have hit4 := Lib.hid (hk4.iter hit3.out (by omega))
            rw [← HT2.out] at hI4
            go_wp2
            go_roundw
            case rel => exact ⟨pos + (Utf8.decode s pos).2, f', _, hI4, hit4.out, hbw3.trans hb4, HS.out, by omega, hw2, by rw [List.length_append]; omega⟩
            case measure =>
              simp only [World.iterPos, hit4.out, hit]
              omega
    · as_aux_lemma =>
      have hnx : ∀ ty, (Instr.next (.pointer (some ⟨w.heap.size + 1, 0, none⟩)) true ty).run Tryd.prog wr = _ := fun ty => Lib.run_next_end_at wr (w.heap.size + 1) s pos ty hit hp
      have HF : Hid (R = acc) := by show _ = _; rw [Hacc.out, drop_end s pos hp, quoteF_nil, List.append_nil]
      go_wp2_with (go_at_call 27; refine (builderString_any w.heap.size w.heap.size acc _ hI (by omega)).mono ?_)
      rintro e W1 ⟨rfl, b1⟩
      go_wp2
      go_ret
      exact ⟨by rw [HF.out]; rfl, hbw.trans b1⟩
end Go.Proofs.YtmiloedhhnknpaaDoor
