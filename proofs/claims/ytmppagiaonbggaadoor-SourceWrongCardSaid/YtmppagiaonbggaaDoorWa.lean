/- Texts of one proof, merged: XQ1 XQ2 XQ3 XSl XE0 XMix XSm. -/
import Derived.Lib.SplitLaws
import Derived.Lib.LastIndexByte
import Derived.Test.YtmppagiaonbggaaDoorProg
import Derived.BigQuiet
import Derived.RowKit
import Derived.KernelRfl
import Derived.Deep.LoopGhost
import Derived.Lib.Hide
import Derived.Laws.RangeAny
import Derived.Laws.RangeString
import Derived.Test.YtmppagiaonbggaaDoorShelf
import Derived.Below
import Derived.Laws.Rows
import Derived.ChangeAgain
import Derived.WalkKit
import Derived.Laws.OwnMore
import Derived.Deep.Draws
import Derived.Maps.AppendAt
import Derived.Deep.AppendLies
import Derived.StillTail
import Derived.OrdersHeld
/- A text cut at each slash: plain laws. -/
namespace Go.Proofs.YtmppagiaonbggaaDoor
set_option linter.unusedVariables false
set_option linter.unusedSimpArgs false
set_option maxRecDepth 100000

/-- The parts of a text between its slashes. -/
def psplit : List UInt8 → List (List UInt8)
  | [] => [[]]
  | c :: l => if c = 47 then [] :: psplit l else match psplit l with
    | [] => [[c]]
    | p :: ps => (c :: p) :: ps
theorem psplit_ne : ∀ l, psplit l ≠ []
  | [] => by simp [psplit]
  | c :: l => by
    unfold psplit
    split
    · simp
    · split <;> simp
theorem psplit_slash (l : List UInt8) : psplit (47 :: l) = [] :: psplit l := by rw [psplit, if_pos rfl]
theorem psplit_other {c : UInt8} (h : c ≠ 47) {l p : List UInt8} {ps : List (List UInt8)} (hl : psplit l = p :: ps) : psplit (c :: l) = (c :: p) :: ps := by
  rw [psplit, if_neg h, hl]

theorem split_psplit : ∀ s : List UInt8, Lib.splitK [47] 0 (Lib.count s [47]) s = psplit s
  | [] => by rw [Lib.count_one]; rfl
  | b :: l => by
    have ih := split_psplit l
    by_cases hb : b = 47
    · subst hb
      rw [psplit_slash, Lib.count_cons_eq, Nat.add_comm, ← ih]
      have hix : Lib.index ((47 : UInt8) :: l) [47] = 0 := by rw [Lib.index]; simp [List.isPrefixOf]
      conv => lhs; unfold Lib.splitK
      rw [hix]
      rw [if_neg (by decide)]
      rfl
    · have hp : ([47] : List UInt8).isPrefixOf (b :: l) = false := by simp [List.isPrefixOf, Ne.symm hb]
      have hix : Lib.index (b :: l) [47] = if Lib.index l [47] == -1 then -1 else Lib.index l [47] + 1 := by rw [Lib.index, hp]; simp
      rw [Lib.count_cons_ne b 47 l hb]
      cases hk : Lib.count l [47] with
      | zero =>
        rw [hk] at ih
        exact (psplit_other hb ih.symm).symm
      | succ k =>
        rw [hk] at ih
        have hm : Lib.index l [47] ≠ -1 := fun e => by rw [Lib.count_miss e] at hk; cases hk
        have hge := Lib.index_ge l [47]
        obtain ⟨j, hj⟩ : ∃ j : Nat, Lib.index l [47] = j := ⟨(Lib.index l [47]).toNat, by omega⟩
        have hne : ¬ (Lib.index l [47] == -1) = true := fun e => hm (beq_iff_eq.1 e)
        rw [if_neg hne, hj] at hix
        unfold Lib.splitK at ih ⊢
        rw [if_neg hne, hj] at ih
        rw [hix, if_neg (by simp; omega)]
        have e1 : ((j : Int) + 1).toNat = j + 1 := by omega
        have e2 : ((j : Nat) : Int).toNat = j := by omega
        rw [e2] at ih
        rw [e1]
        rw [psplit_other hb ih.symm]
        simp [List.take_succ_cons, List.drop_succ_cons, Nat.add_right_comm]

def str (l : List UInt8) : ByteArray := ⟨l.toArray⟩
theorem str_data (s : ByteArray) : str s.data.toList = s := rfl
theorem data_str (l : List UInt8) : (str l).data.toList = l := rfl
def slash : ByteArray := ⟨#[47]⟩
theorem splitB_psplit (s : ByteArray) : Lib.splitB slash 0 (Lib.countB s slash) s = (psplit s.data.toList).map str := by
  have h := Lib.splitB_data slash 0 (Lib.countB s slash) s
  have h2 : Lib.splitK slash.data.toList 0 (Lib.countB s slash) s.data.toList = psplit s.data.toList := split_psplit _
  rw [h2] at h
  rw [← h, List.map_map]
  have : (str ∘ fun b : ByteArray => b.data.toList) = id := rfl
  rw [this, List.map_id]
theorem countB_psplit (s : ByteArray) : Lib.countB s slash + 1 = (psplit s.data.toList).length := by
  have h := Lib.splitB_all slash (by decide) 0 (Lib.countB s slash) s rfl
  rw [splitB_psplit, List.length_map] at h
  exact h.symm
end Go.Proofs.YtmppagiaonbggaaDoor

/- The walk over what may be a part of a path. -/
namespace Go.Proofs.YtmppagiaonbggaaDoor
set_option linter.unusedVariables false
set_option linter.unusedSimpArgs false
set_option maxRecDepth 100000
open Go.RowKit

def okByte (c : UInt8) : Bool := decide (33 ≤ c.toNat) && decide (c.toNat ≤ 126) && decide (c.toNat ≠ 92)
/-- May a text be a part? -/
def okPart (l : List UInt8) : Bool := l.all okByte && decide (1 ≤ l.length) && decide (l.length ≤ 64) && decide (l ≠ [46]) && decide (l ≠ [46, 46])

theorem all_get {s : ByteArray} (h : ∀ j (hj : j < s.size), okByte s[j] = true) : s.data.toList.all okByte = true := by
  rw [List.all_eq_true]
  intro c hc
  obtain ⟨i, hi, rfl⟩ := List.mem_iff_getElem.1 hc
  exact h i (by simpa using hi)
theorem not_all_get {s : ByteArray} (j : Nat) (hj : j < s.size) (h : okByte s[j] = false) : s.data.toList.all okByte = false := by
  rw [List.all_eq_false]
  refine ⟨s[j], ?_, by simp [h]⟩
  exact List.mem_iff_getElem.2 ⟨j, by simpa using hj, rfl⟩
theorem okPart_bad {l : List UInt8} (h : l.all okByte = false) : okPart l = false := by unfold okPart; rw [h]; rfl

set_option maxHeartbeats 1600000 in
theorem part_any (s : ByteArray) (hs : s.size ≤ 9223372036854775807) (w : World) : Calls Tryd.prog 73 #[.string s] w fun e w' => e = .returned (.bool (okPart s.data.toList)) ∧ Below w.heap.size w w' := by
  have hit := fun pos => (Below.refl w.heap.size w).alloc (Nat.le_refl _) (.stringIter s pos)
  have Hit : Hid (∀ pos, Below w.heap.size w (w.iter s pos)) := Lib.hid hit
  clear hit
  have hsz : (s.size : Int) ≤ 9223372036854775807 := by omega
  go_enter Tryd.func73, Tryd.ntmps73
  go_wp2
  go_loopg [] s.size (fun k wr => ∃ pos, pos + k = s.size ∧ wr = w.iter s pos ∧ Hid (∀ j (hj : j < s.size), j < pos → okByte s[j] = true))
  case atStart => exact ⟨0, by omega, rfl, Lib.hid (fun j hj h => by omega)⟩
  case round =>
    obtain ⟨pos, hk, rfl, hgood⟩ := hrel
    by_cases hk0 : gk = 0
    · subst hk0
      have hn := fun ty => run_next_end (P := Tryd.prog) w s pos ty (by omega)
      have hall := all_get (s := s) (fun j hj => hgood.out j hj (by omega))
      have hlen : s.data.toList.length = s.size := rfl
      have hfin : okPart s.data.toList = (decide (1 ≤ s.size) && decide (s.size ≤ 64) && !decide (s.toList = [46]) && !decide (s.toList = [46, 46])) := by
        unfold okPart
        rw [hall, hlen, ByteArray.toList_eq]
        simp only [ne_eq, Bool.true_and, decide_not]
      have Hfin := Lib.hid hfin
      clear hfin hall hlen
      by_cases h1 : 1 ≤ (s.size : Int)
      · by_cases h2 : (s.size : Int) ≤ 64
        · by_cases h3 : s.toList = [46]
          · have Hf : Hid (okPart s.data.toList = false) := Lib.hid (by rw [Hfin.out, decide_eq_true h3]; simp)
            go_wp2
            go_ret
            exact ⟨by rw [Hf.out]; rfl, Hit.out _⟩
          · by_cases h4 : s.toList = [46, 46]
            · have Hf : Hid (okPart s.data.toList = false) := Lib.hid (by rw [Hfin.out, decide_eq_true h4]; simp)
              go_wp2
              go_ret
              exact ⟨by rw [Hf.out]; rfl, Hit.out _⟩
            · have Hf : Hid (okPart s.data.toList = true) := Lib.hid (by rw [Hfin.out, decide_eq_true (show 1 ≤ s.size by omega), decide_eq_true (show s.size ≤ 64 by omega), decide_eq_false h3, decide_eq_false h4]; rfl)
              have h3' : (s.toList == [46]) = false := by simpa using h3
              have h4' : (s.toList == [46, 46]) = false := by simpa using h4
              go_wp2
              go_ret
              refine ⟨?_, Hit.out _⟩
              rw [Hf.out]
              first
                | rfl
                | (show Ending.returned (.bool (!(s.toList == [46]) && !(s.toList == [46, 46]))) = _
                   simp [h3, h4])
        · have Hf : Hid (okPart s.data.toList = false) := Lib.hid (by rw [Hfin.out, decide_eq_false (show ¬ s.size ≤ 64 by omega)]; simp)
          go_wp2
          go_ret
          exact ⟨by rw [Hf.out]; rfl, Hit.out _⟩
      · have Hf : Hid (okPart s.data.toList = false) := Lib.hid (by rw [Hfin.out, decide_eq_false (show ¬ 1 ≤ s.size by omega)]; rfl)
        go_wp2
        go_ret
        exact ⟨by rw [Hf.out]; rfl, Hit.out _⟩
    · obtain ⟨j, rfl⟩ : ∃ j, gk = j + 1 := ⟨gk - 1, by omega⟩
      have hlt : pos < s.size := by omega
      have hge := decode_high s pos hlt
      have hasc := decode_ascii s pos hlt
      by_cases hb : okByte s[pos] = true
      · have hb' := hb
        simp only [okByte, Bool.and_eq_true, decide_eq_true_eq] at hb'
        have hn := fun ty => run_next_ascii (P := Tryd.prog) w s pos ty hlt (by omega)
        obtain ⟨c, hc⟩ : ∃ c : Nat, (s[pos]'hlt).toNat = c := ⟨_, rfl⟩
        rw [hc] at hb' hn
        clear hge hasc
        have c0 : ¬ (c : Int) < 33 := by omega
        have c1 : ¬ 126 < (c : Int) := by omega
        have c2 : ((c : Int) == 92) = false := by simp; omega
        have hgood2 : Hid (∀ j (hj : j < s.size), j < pos + 1 → okByte s[j] = true) := Lib.hid (fun j' hj hlt' => by
          by_cases h : j' = pos
          · subst h; exact hb
          · exact hgood.out j' hj (by omega))
        clear hc hb
        go_wp2
        go_roundg j
        case measure => omega
        case rel => exact ⟨pos + 1, by omega, rfl, hgood2⟩
      · have hbad : okPart s.data.toList = false := okPart_bad (not_all_get pos hlt (by simpa using hb))
        have hn := fun ty => run_next_any (P := Tryd.prog) w s pos ty hlt
        have hle := decode_le s pos
        obtain ⟨c, hc⟩ : ∃ c : Nat, (s[pos]'hlt).toNat = c := ⟨_, rfl⟩
        simp only [okByte, hc, Bool.and_eq_true, decide_eq_true_eq] at hb
        rw [hc] at hge hasc
        have hcase : (Utf8.decode s pos).1 < 33 ∨ (¬ (Utf8.decode s pos).1 < 33 ∧ 126 < (Utf8.decode s pos).1) ∨ (Utf8.decode s pos).1 = 92 := by
          by_cases ha : c < 128
          · rw [hasc ha]
            show c < 33 ∨ (¬ c < 33 ∧ 126 < c) ∨ c = 92
            omega
          · have := (hge (by omega)).1
            right; left
            omega
        have Hbad := Lib.hid hbad
        clear hge hasc hb hc hbad
        generalize (Utf8.decode s pos).1 = r at hcase hn hle
        generalize (Utf8.decode s pos).2 = d at hn
        rcases hcase with h | ⟨h, h'⟩ | h
        · have c0 : (r : Int) < 33 := by omega
          go_wp2
          go_ret
          exact ⟨by rw [Hbad.out]; rfl, Hit.out _⟩
        · have c0 : ¬ (r : Int) < 33 := by omega
          have c1 : (126 : Int) < (r : Int) := by omega
          go_wp2
          go_ret
          exact ⟨by rw [Hbad.out]; rfl, Hit.out _⟩
        · subst h
          go_wp2
          go_ret
          exact ⟨by rw [Hbad.out]; rfl, Hit.out _⟩
end Go.Proofs.YtmppagiaonbggaaDoor

/- The walks over the search for a text that may be no part, and over what may be a path. -/
namespace Go.Proofs.YtmppagiaonbggaaDoor
set_option linter.unusedVariables false
set_option linter.unusedSimpArgs false
set_option maxRecDepth 100000
open Go.RowKit

/-- Texts as a slice's cells hold them. -/
def RdS (W : World) (A : Option Addr) (l : List (List UInt8)) : Prop := ∀ i (h : i < l.length), ∃ b off, A = some ⟨b, off, none⟩ ∧ W.cell? ⟨b, off + i, none⟩ = some (.string (str l[i]))
theorem RdS.below {W W' : World} {A : Option Addr} {l : List (List UInt8)} (h : RdS W A l) (hb : Below W.heap.size W W') : RdS W' A l := fun i hi => by
  obtain ⟨b, off, ha, hc⟩ := h i hi
  exact ⟨b, off, ha, (hb.cell (World.block_lt_of_cell? W _ hc)).trans hc⟩

theorem not_any (s : ByteArray) (hs : s.size ≤ 9223372036854775807) (w : World) : Calls Tryd.prog 72 #[.string s] w fun e w' => e = .returned (.bool (!okPart s.data.toList)) ∧ Below w.heap.size w w' := by
  go_enter Tryd.func72, Tryd.ntmps72
  go_wp2_with (go_at_call 73; refine (part_any s hs _).mono ?_; rintro e w1 ⟨rfl, b1⟩)
  go_ret
  exact ⟨rfl, b1⟩

set_option maxHeartbeats 800000 in
theorem indexFunc_any (A : Option Addr) (c : Nat) (l : List (List UInt8)) (hl : l.length ≤ 4294967296) (hx : ∀ x ∈ l, x.length ≤ 4294967296) (w : World) (hr : RdS w A l) :
    Calls Tryd.prog 80 #[.slice A l.length c, .func (.func 72) #[] #[]] w fun e w' => ∃ r : Int, e = .returned (.int .i64 r) ∧ -1 ≤ r ∧ r ≤ 4294967296 ∧ (0 ≤ r ↔ l.all okPart = false) ∧ Below w.heap.size w w' := by
  have Hr := Lib.hid hr
  have Hx := Lib.hid hx
  clear hr hx
  have hl' : (l.length : Int) ≤ 4294967296 := by omega
  go_enter Tryd.func80, Tryd.ntmps80
  go_wp2
  go_loopg [8] l.length (fun k i wr => k ≤ l.length ∧ i = .int .i64 ((l.length : Int) - (k : Int)) ∧ Below w.heap.size w wr ∧ Hid (∀ j (h : j < l.length), j < l.length - k → okPart l[j] = true))
  case atStart => exact ⟨Nat.le_refl _, congrArg (Value.int .i64) (by omega), Below.refl _ _, Lib.hid (fun j h h2 => by omega)⟩
  case round =>
    obtain ⟨hk, rfl, hbb, hg⟩ := hrel
    by_cases hk0 : gk ≠ 0
    · obtain ⟨j, rfl⟩ : ∃ j, gk = j + 1 := ⟨gk - 1, by omega⟩
      obtain ⟨i, hi⟩ : ∃ i : Nat, i + (j + 1) = l.length := ⟨l.length - (j + 1), by omega⟩
      have hil : i < l.length := by omega
      obtain ⟨b, off, rfl, hcell⟩ := Hr.out i hil
      have hcw : wr.cell? ⟨b, off + i, none⟩ = some (.string (str l[i])) := (hbb.cell (World.block_lt_of_cell? w _ hcell)).trans hcell
      have hxi := Hx.out _ (List.getElem_mem hil)
      have hg2 : okPart l[i] = true → Hid (∀ j' (h : j' < l.length), j' < l.length - j → okPart l[j'] = true) := fun h1 => Lib.hid (fun j' h h2 => by
        by_cases e : j' = i
        · subst e; exact h1
        · exact hg.out j' h (by omega))
      have hbad : okPart l[i] = false → Hid (l.all okPart = false) := fun h1 => Lib.hid (by
        rw [List.all_eq_false]
        exact ⟨_, List.getElem_mem hil, by simp [h1]⟩)
      have Hg2 := Lib.hid hg2
      have Hbad := Lib.hid hbad
      clear hg2 hbad
      generalize l[i] = x at hcw hxi Hg2 Hbad hcell
      have e1 : (l.length : Int) - ((j + 1 : Nat) : Int) = (i : Int) := by omega
      have i0 : (0 : Int) ≤ (i : Int) := by omega
      have i1 : (i : Int) < (l.length : Int) := by omega
      rw [e1]
      clear e1 hcell
      have Hi := Lib.hid hi
      clear hi
      go_wp2_with fail
      refine (not_any (str x) (by show x.length ≤ _; omega) wr).mono ?_
      rintro e w3 ⟨rfl, b3⟩
      have b3 := hbb.trans (b3.mono hbb.size)
      clear hcw hbb
      cases hok : okPart x with
      | true =>
        have hv : okPart (str x).data.toList = true := hok
        rw [hv]
        go_wp2
        go_roundg j
        case measure => omega
        case rel => exact ⟨by omega, congrArg (Value.int .i64) (by have := Hi.out; omega), b3, Hg2.out hok⟩
      | false =>
        have hv : okPart (str x).data.toList = false := hok
        rw [hv]
        go_wp2
        go_ret
        exact ⟨i, rfl, by omega, by omega, ⟨fun _ => (Hbad.out hok).out, fun _ => i0⟩, b3⟩
    · obtain rfl : gk = 0 := by omega
      have hall : l.all okPart = true := by
        rw [List.all_eq_true]
        intro x hx
        obtain ⟨i, hi, rfl⟩ := List.mem_iff_getElem.1 hx
        exact hg.out i hi (by omega)
      have Hall := Lib.hid hall
      clear hall
      go_wp2
      go_ret
      exact ⟨-1, rfl, by omega, by omega, ⟨fun h => by omega, fun h => by rw [Hall.out] at h; cases h⟩, hbb⟩

theorem containsFunc_any (A : Option Addr) (c : Nat) (l : List (List UInt8)) (hl : l.length ≤ 4294967296) (hx : ∀ x ∈ l, x.length ≤ 4294967296) (w : World) (hr : RdS w A l) :
    Calls Tryd.prog 74 #[.slice A l.length c, .func (.func 72) #[] #[]] w fun e w' => e = .returned (.bool (!l.all okPart)) ∧ Below w.heap.size w w' := by
  have hc := indexFunc_any A c l hl hx w hr
  clear hr
  cases hv : l.all okPart with
  | true =>
    rw [hv] at hc
    have Hc := Lib.hid hc
    clear hc
    go_enter Tryd.func74, Tryd.ntmps74
    go_wp2_with fail
    refine Hc.out.mono ?_
    rintro e w1 ⟨r, rfl, r0, r1, r2, b1⟩
    have h : ¬ 0 ≤ r := fun h => by have := r2.1 h; revert this; simp
    clear r2
    go_wp2
    go_ret
    refine ⟨?_, b1⟩
    show Ending.returned (.bool (decide (0 ≤ r))) = _
    rw [decide_eq_false (show ¬ 0 ≤ r by omega)]
    rfl
  | false =>
    rw [hv] at hc
    have Hc := Lib.hid hc
    clear hc
    go_enter Tryd.func74, Tryd.ntmps74
    go_wp2_with fail
    refine Hc.out.mono ?_
    rintro e w1 ⟨r, rfl, r0, r1, r2, b1⟩
    have h : 0 ≤ r := r2.2 (by simp)
    clear r2
    go_wp2
    go_ret
    refine ⟨?_, b1⟩
    first
      | rfl
      | (show Ending.returned (.bool (decide (0 ≤ r))) = _
         rw [decide_eq_true h]
         rfl)

/-- What every world of a call has: the program's own variables as they were shaped. -/
abbrev Sh (w : World) : Prop := w.ShapedOpen Tryd.prog
theorem sh_below {w w' : World} (h : Sh w) (hb : Below w.heap.size w w') : Sh w' := h.keptBut (hb.frame (fun _ => False)) (fun _ h => h.elim)

/-- strings.Split at a slash. -/
theorem split_any (s : ByteArray) (hs : s.size < 4294967281) (w : World) (h : Sh w) : Calls Tryd.prog 75 #[.string s, .string slash] w fun e w' => e = .returned (.slice (some ⟨w.heap.size, 0, none⟩) (psplit s.data.toList).length (psplit s.data.toList).length) ∧ RdS w' (some ⟨w.heap.size, 0, none⟩) (psplit s.data.toList) ∧ Below w.heap.size w w' := by
  refine (Tryd.strings_Split_shaped s slash w h hs (by decide)).mono ?_
  rintro e w' ⟨rfl, rfl⟩
  rw [countB_psplit, splitB_psplit]
  refine ⟨rfl, fun i hi => ⟨w.heap.size, 0, rfl, ?_⟩, (Below.refl _ w).alloc (Nat.le_refl _) _⟩
  rw [cell_of_row _ _ _ _ _ _ (heap_alloc_new w _)]
  simp [hi]
end Go.Proofs.YtmppagiaonbggaaDoor

/- Separation-style words for the heap: what a call owns, and what it leaves alone. -/
namespace Go.Proofs.YtmppagiaonbggaaDoor
set_option linter.unusedVariables false
set_option linter.unusedSimpArgs false
set_option maxRecDepth 100000
open Go.RowKit

/-- A heap predicate: of a world, and of the blocks that it speaks of. -/
def HP := World → (Nat → Prop) → Prop

/-- What it says hangs on its own blocks, and on those below B, alone; and on no block that is not there. -/
class Loc (B : Nat) (R : HP) : Prop where
  keep : ∀ (w w' : World) (F : Nat → Prop), (∀ k, F k → w'.heap[k]? = w.heap[k]?) → (∀ k, k < B → w'.heap[k]? = w.heap[k]?) → R w F → R w' F
  up : ∀ (w : World) (F F' : Nat → Prop), (∀ k, F k → F' k) → R w F → R w F'

def Sep (A C : HP) : HP := fun w F => ∃ F1 F2 : Nat → Prop, (∀ k, F1 k → ¬ F2 k) ∧ (∀ k, F1 k → F k) ∧ (∀ k, F2 k → F k) ∧ A w F1 ∧ C w F2
instance : Mul HP := ⟨Sep⟩

def Emp : HP := fun _ _ => True
/-- A fact that no memory bears on. -/
def Fact (p : Prop) : HP := fun _ _ => p
def Hex {α : Type} (A : α → HP) : HP := fun w F => ∃ x, A x w F
/-- A block that is known whole. -/
def Bk (g : Nat) (t : TypeId) (cs : Array Value) : HP := fun w F => F g ∧ w.heap[g]? = some (.cells cs t (0, 0))
/-- A slice that owns its array: nil, or at the head of a block. -/
def Rw (e : TypeId) (size : Nat) (v : Value) (n : Nat) (xs : List Value) : HP := fun w F => w.ownsRow 0 e size v n xs ∧ ∀ k, v.ownBlock = some k → F k

instance Loc.sep {B : Nat} {A C : HP} [a : Loc B A] [c : Loc B C] : Loc B (A * C) where
  keep := fun w w' F h hb ⟨F1, F2, hd, h1, h2, ha, hc⟩ => ⟨F1, F2, hd, h1, h2, a.keep w w' F1 (fun k hk => h k (h1 k hk)) hb ha, c.keep w w' F2 (fun k hk => h k (h2 k hk)) hb hc⟩
  up := fun w F F' h ⟨F1, F2, hd, h1, h2, ha, hc⟩ => ⟨F1, F2, hd, fun k hk => h k (h1 k hk), fun k hk => h k (h2 k hk), ha, hc⟩
instance Loc.emp {B : Nat} : Loc B Emp := ⟨fun _ _ _ _ _ h => h, fun _ _ _ _ h => h⟩
instance Loc.fact {B : Nat} {p : Prop} : Loc B (Fact p) := ⟨fun _ _ _ _ _ h => h, fun _ _ _ _ h => h⟩
instance Loc.hex {B : Nat} {α : Type} {A : α → HP} [h : ∀ x, Loc B (A x)] : Loc B (Hex A) where
  keep := fun w w' F h1 h2 ⟨x, hx⟩ => ⟨x, (h x).keep w w' F h1 h2 hx⟩
  up := fun w F F' h1 ⟨x, hx⟩ => ⟨x, (h x).up w F F' h1 hx⟩
instance Loc.bk {B g : Nat} {t : TypeId} {cs : Array Value} : Loc B (Bk g t cs) where
  keep := fun _ _ _ h _ ⟨hf, hg⟩ => ⟨hf, (h g hf).trans hg⟩
  up := fun _ _ _ h ⟨hf, hg⟩ => ⟨h g hf, hg⟩
theorem ownsRow_of {w w' : World} {e : TypeId} {size : Nat} {v : Value} {n : Nat} {xs : List Value} (h : w.ownsRow 0 e size v n xs) (hk : ∀ k, v.ownBlock = some k → w'.heap[k]? = w.heap[k]?) : w'.ownsRow 0 e size v n xs := by
  refine ⟨h.1, ?_⟩
  rcases h.2 with hn | ⟨g, cap, cur, rfl, hb, hg, r⟩
  · exact .inl hn
  · exact .inr ⟨g, cap, cur, rfl, hb, by rw [hk g (by simp [Value.ownBlock])]; exact hg, r⟩
instance Loc.rw {B : Nat} {e : TypeId} {size : Nat} {v : Value} {n : Nat} {xs : List Value} : Loc B (Rw e size v n xs) where
  keep := fun _ _ _ h _ ⟨ho, hf⟩ => ⟨ownsRow_of ho fun k hk => h k (hf k hk), hf⟩
  up := fun _ _ _ h ⟨ho, hf⟩ => ⟨ho, fun k hk => h k (hf k hk)⟩

theorem sep_comm (A C : HP) : (A * C) = (C * A) := by
  funext w F
  apply propext
  exact ⟨fun ⟨F1, F2, hd, h1, h2, a, c⟩ => ⟨F2, F1, fun k hk hk' => hd k hk' hk, h2, h1, c, a⟩, fun ⟨F1, F2, hd, h1, h2, a, c⟩ => ⟨F2, F1, fun k hk hk' => hd k hk' hk, h2, h1, c, a⟩⟩
theorem sep_assoc (A C D : HP) : ((A * C) * D) = (A * (C * D)) := by
  funext w F
  apply propext
  constructor
  · rintro ⟨F12, F3, hd, h1, h2, ⟨F1, F2, hd', h1', h2', a, c⟩, d⟩
    exact ⟨F1, fun k => F2 k ∨ F3 k, fun k hk hk' => hk'.elim (hd' k hk) (hd k (h1' k hk)), fun k hk => h1 k (h1' k hk), fun k hk => hk.elim (fun h => h1 k (h2' k h)) (h2 k), a,
      F2, F3, fun k hk => hd k (h2' k hk), fun k hk => .inl hk, fun k hk => .inr hk, c, d⟩
  · rintro ⟨F1, F23, hd, h1, h2, a, F2, F3, hd', h1', h2', c, d⟩
    exact ⟨fun k => F1 k ∨ F2 k, F3, fun k hk hk' => hk.elim (fun h => hd k h (h2' k hk')) (fun h => hd' k h hk'), fun k hk => hk.elim (h1 k) (fun h => h2 k (h1' k h)), fun k hk => h2 k (h2' k hk),
      ⟨F1, F2, fun k hk hk' => hd k hk (h1' k hk'), fun k hk => .inl hk, fun k hk => .inr hk, a, c⟩, d⟩
instance : Std.Commutative (α := HP) (· * ·) := ⟨sep_comm⟩
instance : Std.Associative (α := HP) (· * ·) := ⟨sep_assoc⟩
theorem sep_left_comm (A C D : HP) : (A * (C * D)) = (C * (A * D)) := by rw [← sep_assoc, sep_comm A C, sep_assoc]

/-- WHAT IS OWNED, OF ALL BLOCKS FROM B ON. -/
def Own (B : Nat) (A : HP) (w : World) : Prop := ∃ F : Nat → Prop, (∀ k, F k → B ≤ k ∧ k < w.heap.size) ∧ A w F

section
variable {B : Nat} {A C R : HP} {w w' : World}

theorem Own.mono (h : Own B A w) (hm : ∀ w F, A w F → C w F) : Own B C w := let ⟨F, hf, ha⟩ := h; ⟨F, hf, hm w F ha⟩
theorem Own.cast (h : Own B A w) (e : A = C) : Own B C w := e ▸ h
theorem Own.swap (h : Own B (A * C) w) : Own B (C * A) w := h.cast (sep_comm _ _)
theorem Own.assoc (h : Own B ((A * C) * R) w) : Own B (A * (C * R)) w := h.cast (sep_assoc _ _ _)
theorem Own.assoc' (h : Own B (A * (C * R)) w) : Own B ((A * C) * R) w := h.cast (sep_assoc _ _ _).symm
theorem Own.drop [Loc B C] (h : Own B (A * C) w) : Own B C w := let ⟨F, hf, F1, F2, hd, h1, h2, ha, hc⟩ := h; ⟨F2, fun k hk => hf k (h2 k hk), hc⟩
theorem Own.left (h : Own B (A * C) w) : Own B A w := let ⟨F, hf, F1, F2, hd, h1, h2, ha, hc⟩ := h; ⟨F1, fun k hk => hf k (h1 k hk), ha⟩
theorem Own.right (h : Own B (A * C) w) : Own B C w := let ⟨F, hf, F1, F2, hd, h1, h2, ha, hc⟩ := h; ⟨F2, fun k hk => hf k (h2 k hk), hc⟩
theorem Own.emp (h : Own B R w) : Own B (Emp * R) w := let ⟨F, hf, hr⟩ := h; ⟨F, hf, fun _ => False, F, fun _ h => h.elim, fun _ h => h.elim, fun _ h => h, trivial, hr⟩
theorem Own.start (B : Nat) (w : World) : Own B Emp w := ⟨fun _ => False, fun _ h => h.elim, trivial⟩
theorem Own.fact {p : Prop} (hp : p) (h : Own B R w) : Own B (Fact p * R) w := let ⟨F, hf, hr⟩ := h; ⟨F, hf, fun _ => False, F, fun _ h => h.elim, fun _ h => h.elim, fun _ h => h, hp, hr⟩
theorem Own.fact_out {p : Prop} (h : Own B (Fact p * R) w) : p := let ⟨_, _, _, _, _, _, _, hp, _⟩ := h; hp
theorem Own.hex {α : Type} {A : α → HP} (h : Own B (Hex A * R) w) : ∃ x, Own B (A x * R) w := let ⟨F, hf, F1, F2, hd, h1, h2, ⟨x, ha⟩, hc⟩ := h; ⟨x, F, hf, F1, F2, hd, h1, h2, ha, hc⟩
theorem Own.to_hex {α : Type} {A : α → HP} (x : α) (h : Own B (A x * R) w) : Own B (Hex A * R) w := let ⟨F, hf, F1, F2, hd, h1, h2, ha, hc⟩ := h; ⟨F, hf, F1, F2, hd, h1, h2, ⟨x, ha⟩, hc⟩

/-- A world in which no block that was there has turned. -/
theorem Own.grow [Loc B A] (h : Own B A w) (hs : w.heap.size ≤ w'.heap.size) (hk : ∀ k, k < w.heap.size → w'.heap[k]? = w.heap[k]?) (hB : B ≤ w.heap.size) : Own B A w' := by
  obtain ⟨F, hf, ha⟩ := h
  exact ⟨F, fun k hk' => ⟨(hf k hk').1, Nat.lt_of_lt_of_le (hf k hk').2 hs⟩, Loc.keep (B := B) w w' F (fun k hk' => hk k (hf k hk').2) (fun k hk' => hk k (by omega)) ha⟩
theorem Own.drew (h : Own B A w) [Loc B A] (hB : B ≤ w.heap.size) : Own B A w.drew := h.grow (w' := w.drew) (Nat.le_refl _) (fun _ _ => rfl) hB
theorem Own.drewN (h : Own B A w) [Loc B A] (hB : B ≤ w.heap.size) (n : Nat) : Own B A (w.drewN n) := h.grow (w' := w.drewN n) (Nat.le_refl _) (fun _ _ => rfl) hB
theorem Own.grown (h : Own B A w) [Loc B A] (hB : B ≤ w.heap.size) (hb : Below w.heap.size w w') : Own B A w' := h.grow hb.size hb.block hB
theorem Own.alloc_keep (h : Own B A w) [Loc B A] (hB : B ≤ w.heap.size) (o : Obj) : Own B A (w.alloc o) := h.grow (by simp) (fun k hk => Below.heap_alloc w o k hk) hB

/-- The owned blocks, and the new ones, may turn; the rest R is as it was. -/
theorem Own.turn [Loc B R] {A' : HP} (hB : B ≤ w.heap.size) (h : Own B (A * R) w) (hs : w.heap.size ≤ w'.heap.size)
    (ht : ∀ F, (∀ k, F k → B ≤ k ∧ k < w.heap.size) → A w F → ∃ F' : Nat → Prop, (∀ k, F' k → F k ∨ (w.heap.size ≤ k ∧ k < w'.heap.size)) ∧ A' w' F' ∧ (∀ k, k < w.heap.size → ¬ F k → w'.heap[k]? = w.heap[k]?)) :
    Own B (A' * R) w' := by
  obtain ⟨F, hf, F1, F2, hd, h1, h2, ha, hr⟩ := h
  obtain ⟨F', hf', ha', hk⟩ := ht F1 (fun k hk => hf k (h1 k hk)) ha
  have hlt1 : ∀ k, F1 k → B ≤ k ∧ k < w.heap.size := fun k hk => hf k (h1 k hk)
  have hlt2 : ∀ k, F2 k → B ≤ k ∧ k < w.heap.size := fun k hk => hf k (h2 k hk)
  refine ⟨fun k => F' k ∨ F2 k, ?_, F', F2, ?_, fun k hk => .inl hk, fun k hk => .inr hk, ha', ?_⟩
  · intro k hk
    rcases hk with hk | hk
    · rcases hf' k hk with h | h
      · have := hlt1 k h; omega
      · omega
    · have := hlt2 k hk; omega
  · intro k hk hk2
    rcases hf' k hk with h | h
    · exact hd k h hk2
    · have := hlt2 k hk2; omega
  · refine Loc.keep (B := B) w w' F2 (fun k hk2 => hk k (hlt2 k hk2).2 (fun h => hd k h hk2)) (fun k hkB => hk k (by omega) (fun h => ?_)) hr
    have := hlt1 k h; omega

/-! blocks -/
theorem Own.bk {g : Nat} {t : TypeId} {cs : Array Value} (h : Own B (Bk g t cs * R) w) : w.heap[g]? = some (.cells cs t (0, 0)) ∧ B ≤ g ∧ g < w.heap.size := by
  obtain ⟨F, hf, F1, F2, hd, h1, h2, ⟨hg, hh⟩, hr⟩ := h
  exact ⟨hh, (hf g (h1 g hg)).1, (hf g (h1 g hg)).2⟩
theorem Own.cell {g : Nat} {t : TypeId} {cs : Array Value} (h : Own B (Bk g t cs * R) w) (i : Nat) : w.cell? ⟨g, i, none⟩ = cs[i]? := cell_of_row w g i cs t (0, 0) h.bk.1
theorem Own.unfrozen {g : Nat} {t : TypeId} {cs : Array Value} (h : Own B (Bk g t cs * R) w) (i : Nat) : w.frozen? ⟨g, i, none⟩ = false := by
  have := h.bk.1
  simp [World.frozen?, this]
theorem Own.set [Loc B R] {g : Nat} {t : TypeId} {cs : Array Value} (hB : B ≤ w.heap.size) (h : Own B (Bk g t cs * R) w) (i : Nat) (u : Value) : Own B (Bk g t (cs.setIfInBounds i u) * R) (w.setCell ⟨g, i, none⟩ u) := by
  refine Own.turn hB h (by simp [World.setCell]) fun F _ ⟨hF, hg⟩ => ⟨F, fun k hk => .inl hk, ⟨hF, ?_⟩, fun k _ hk => Below.heap_setCell _ _ _ _ (fun e => hk (by subst e; exact hF))⟩
  simp [World.setCell, Array.getElem?_modify, hg]
theorem Own.new [Loc B R] (hB : B ≤ w.heap.size) (h : Own B R w) (t : TypeId) (cs : Array Value) : Own B (Bk w.heap.size t cs * R) (w.alloc (.cells cs t)) := by
  refine Own.turn hB h.emp (by simp) fun F _ _ => ⟨fun k => k = w.heap.size, fun k hk => .inr (by simp; omega), ⟨rfl, heap_alloc_new w _⟩, fun k hk _ => Below.heap_alloc w _ k hk⟩
theorem Own.below_set {g : Nat} {t : TypeId} {cs : Array Value} (h : Own B (Bk g t cs * R) w) (i : Nat) (u : Value) : Below B w (w.setCell ⟨g, i, none⟩ u) := (Below.refl B w).setCell (p := ⟨g, i, none⟩) h.bk.2.1 u

/-! rows -/
theorem Own.rw_nil [Loc B R] (h : Own B R w) (e : TypeId) (size : Nat) : Own B (Rw e size (.slice none 0 0) 0 [] * R) w :=
  let ⟨F, hf, hr⟩ := h; ⟨F, hf, fun _ => False, F, fun _ h => h.elim, fun _ h => h.elim, fun _ h => h, ⟨World.ownsRow_nil w 0 e size, fun k hk => by simp [Value.ownBlock] at hk⟩, hr⟩
theorem Own.row {e : TypeId} {size : Nat} {v : Value} {n : Nat} {xs : List Value} (h : Own B (Rw e size v n xs * R) w) : w.ownsRow B e size v n xs := by
  obtain ⟨F, hf, F1, F2, hd, h1, h2, ⟨ho, hb⟩, hr⟩ := h
  refine ⟨ho.1, ?_⟩
  rcases ho.2 with hn | ⟨g, cap, cur, rfl, _, r⟩
  · exact .inl hn
  · exact .inr ⟨g, cap, cur, rfl, (hf g (h1 g (hb g (by simp [Value.ownBlock])))).1, r⟩
/-- Behind a law that ends in 'ownsRow' and 'grownBy' (append). -/
theorem Own.appended [Loc B R] {e : TypeId} {size : Nat} {v v' : Value} {n n' : Nat} {xs xs' : List Value} (hB : B ≤ w.heap.size) (h : Own B (Rw e size v n xs * R) w) (ho : w'.ownsRow B e size v' n' xs') (hg : w.grownBy w' v.ownBlock)
    (hat : v'.ownBlock = v.ownBlock ∨ v'.ownBlock = some w.heap.size) : Own B (Rw e size v' n' xs' * R) w' ∧ Below B w w' := by
  have hrow := h.row
  refine ⟨Own.turn hB h hg.size fun F hF ⟨_, hb⟩ => ⟨fun k => v'.ownBlock = some k, fun k hk => ?_, ⟨⟨ho.1, ?_⟩, fun k hk => hk⟩, fun k hk hn => hg.block k hk (fun e => hn (hb k e.symm))⟩, ?_⟩
  · rcases hat with e | e
    · exact .inl (hb k (e ▸ hk))
    · have : k = w.heap.size := by rw [e] at hk; injection hk with hk; exact hk.symm
      subst this
      exact .inr ⟨Nat.le_refl _, (ho.lt _ hk).2⟩
  · rcases ho.2 with hn | ⟨g, cap, cur, rfl, _, r⟩
    · exact .inl hn
    · exact .inr ⟨g, cap, cur, rfl, Nat.zero_le _, r⟩
  · exact (Below.refl B w).grown hg hB (fun k hk => (hrow.lt k hk).1)
/-- A row that is no nil, as a block. -/
theorem Own.rw_of_bk [Loc B R] {g : Nat} {t : TypeId} {cs : Array Value} {size n : Nat} (h : Own B (Bk g t cs * R) w) (hs : cs.size = n * size) (hn : n ≤ maxLen) : Own B (Rw t size (.slice (some ⟨g, 0, none⟩) n n) n cs.toList * R) w := by
  refine h.mono fun w F ⟨F1, F2, hd, h1, h2, ⟨hg, hh⟩, hr⟩ => ⟨F1, F2, hd, h1, h2, ⟨⟨by simpa using hs, .inr ⟨g, n, cs, rfl, Nat.zero_le _, hh, Nat.le_refl _, hn, hs, ?_⟩⟩, fun k hk => ?_⟩, hr⟩
  · rw [List.take_of_length_le (by simp [hs])]
  · simp [Value.ownBlock] at hk; subst hk; exact hg
end

/-- What stands while a statement of open order goes on: what is owned, and all below B as it was at w. -/
def St (B : Nat) (A : HP) (w w' : World) : Prop := B ≤ w'.heap.size ∧ Own B A w' ∧ Below B w w'
section
variable {B : Nat} {A : HP} {w w1 w2 : World}
theorem St.drew [Loc B A] (hB : B ≤ w.heap.size) (h : Own B A w) : St B A w w.drew := ⟨hB, h.drew hB, (Below.refl B w).drew⟩
theorem St.alloc [Loc B A] (h : St B A w w1) (o : Obj) : St B A w (w1.alloc o) := ⟨by have := h.1; simp; omega, h.2.1.alloc_keep h.1 o, h.2.2.alloc h.1 o⟩
theorem St.grown [Loc B A] (h : St B A w w1) (hb : Below w1.heap.size w1 w2) : St B A w w2 := ⟨Nat.le_trans h.1 hb.size, h.2.1.grown h.1 hb, h.2.2.trans (hb.mono h.1)⟩
end

/-- A row that the call made itself. -/
theorem Own.fresh {B : Nat} {R : HP} [Loc B R] {w w' : World} {e : TypeId} {size : Nat} {v : Value} {n : Nat} {xs : List Value} (hB : B ≤ w.heap.size) (h : Own B R w) (ho : w'.ownsRow w.heap.size e size v n xs) (hb : Below w.heap.size w w') : Own B (Rw e size v n xs * R) w' := by
  refine Own.turn hB h.emp hb.size fun F _ _ => ⟨fun k => v.ownBlock = some k, fun k hk => .inr (ho.lt k hk), ⟨⟨ho.1, ?_⟩, fun k hk => hk⟩, fun k hk _ => hb.block k hk⟩
  rcases ho.2 with hn | ⟨g, cap, cur, rfl, _, r⟩
  · exact .inl hn
  · exact .inr ⟨g, cap, cur, rfl, Nat.zero_le _, r⟩

/-- A slice value reads as these cells (each element one cell). -/
def Rd (w : World) (v : Value) (xs : List Value) : Prop := ∃ A c, v = .slice A xs.length c ∧ (xs ≠ [] → ∃ ad, A = some ad ∧ ∀ j u, xs[j]? = some u → w.cell? (ad.add j) = some u)
theorem add_block (a : Addr) (n : Nat) : (a.add n).block = a.block := by unfold Addr.add; split <;> rfl
theorem Rd.nil (w : World) : Rd w (.slice none 0 0) [] := ⟨none, 0, rfl, fun h => absurd rfl h⟩
theorem Rd.below {w w' : World} {v : Value} {xs : List Value} (h : Rd w v xs) (hb : Below w.heap.size w w') : Rd w' v xs := by
  obtain ⟨A, c, hv, hr⟩ := h
  refine ⟨A, c, hv, fun hne => ?_⟩
  obtain ⟨ad, ha, hc⟩ := hr hne
  exact ⟨ad, ha, fun j u hu => (hb.cell (World.block_lt_of_cell? w _ (hc j u hu))).trans (hc j u hu)⟩
theorem Rd.below' {w w' : World} {v : Value} {xs : List Value} {B : Nat} (h : Rd w v xs) (hlt : ∀ A n c, v = .slice (some A) n c → A.block < B) (hb : Below B w w') : Rd w' v xs := by
  obtain ⟨A, c, rfl, hr⟩ := h
  refine ⟨A, c, rfl, fun hne => ?_⟩
  obtain ⟨ad, rfl, hc⟩ := hr hne
  exact ⟨ad, rfl, fun j u hu => (hb.cell (by rw [add_block]; exact hlt _ _ _ rfl)).trans (hc j u hu)⟩
/-- An owned row reads as what it holds. -/
theorem Own.rd {B : Nat} {R : HP} {w : World} {e : TypeId} {v : Value} {n : Nat} {xs : List Value} (h : Own B (Rw e 1 v n xs * R) w) : Rd w v xs := by
  have hr := h.row
  have hl : xs.length = n := by have := hr.1; omega
  rcases hr.2 with ⟨rfl, hn⟩ | ⟨g, cap, cur, rfl, _⟩
  · subst hn
    obtain rfl : xs = [] := List.eq_nil_of_length_eq_zero hl
    exact Rd.nil w
  · exact ⟨_, cap, by rw [hl], fun _ => ⟨_, rfl, hr.cells (g := g) rfl⟩⟩
end Go.Proofs.YtmppagiaonbggaaDoor

/- Slices of structs as they lie: what they read as, and how they grow. -/
namespace Go.Proofs.YtmppagiaonbggaaDoor
set_option linter.unusedVariables false
set_option linter.unusedSimpArgs false
set_option maxRecDepth 100000
open Go.RowKit

/-- A slice's elements, each of k cells, as they lie. -/
def RdA {α : Type} (k : Nat) (cs : α → List Value) (w : World) (A : Option Addr) (l : List α) : Prop :=
  ∀ i (h : i < l.length), ∃ b off, A = some ⟨b, off, none⟩ ∧ b < w.heap.size ∧ ∀ j u, (cs l[i])[j]? = some u → w.cell? ⟨b, off + i * k + j, none⟩ = some u
theorem RdA.below {α : Type} {k : Nat} {cs : α → List Value} {w w' : World} {A : Option Addr} {l : List α} (h : RdA k cs w A l) (hb : Below w.heap.size w w') : RdA k cs w' A l := fun i hi => by
  obtain ⟨b, off, ha, hlt, hc⟩ := h i hi
  exact ⟨b, off, ha, Nat.lt_of_lt_of_le hlt hb.size, fun j u hu => (hb.cell (p := ⟨b, off + i * k + j, none⟩) hlt).trans (hc j u hu)⟩
/-- The same where all that was there below B stays. -/
theorem RdA.below' {α : Type} {k B : Nat} {cs : α → List Value} {w w' : World} {A : Option Addr} {l : List α} (h : RdA k cs w A l) (hB : w.heap.size ≤ B) (hb : Below B w w') : RdA k cs w' A l := h.below (hb.mono hB)
theorem RdA.nil {α : Type} {k : Nat} {cs : α → List Value} {w : World} {A : Option Addr} : RdA k cs w A ([] : List α) := fun i h => absurd h (Nat.not_lt_zero _)

/-- What a call leaves that returns a slice of its own, or of what was there. -/
def RetA {α : Type} (k : Nat) (cs : α → List Value) (w : World) (l : List α) (e : Ending) (w' : World) : Prop := ∃ A c, e = .returned (.slice A l.length c) ∧ (l.length ≤ c ∧ c ≤ 9223372036854775807) ∧ RdA k cs w' A l ∧ Below w.heap.size w w'
theorem RetA.mk {α : Type} {k : Nat} {cs : α → List Value} {w w' : World} {l : List α} {e : Ending} {A : Option Addr} {n c : Nat} (he : e = .returned (.slice A n c)) (hn : n = l.length) (hc : n ≤ c ∧ c ≤ 9223372036854775807) (hr : RdA k cs w' A l) (hb : Below w.heap.size w w') : RetA k cs w l e w' := ⟨A, c, by rw [he, hn], by rw [← hn]; exact hc, hr, hb⟩
def flat {α : Type} (cs : α → List Value) (l : List α) : List Value := l.flatMap cs
theorem flat_snoc {α : Type} (cs : α → List Value) (l : List α) (a : α) : flat cs (l ++ [a]) = flat cs l ++ cs a := by unfold flat; rw [List.flatMap_append]; simp
theorem flat_get {α : Type} {k : Nat} {cs : α → List Value} (hk : ∀ a, (cs a).length = k) : ∀ (l : List α) (i : Nat) (h : i < l.length) (j : Nat) (u : Value), (cs l[i])[j]? = some u → (flat cs l)[i * k + j]? = some u
  | [], i, h, _, _, _ => absurd h (Nat.not_lt_zero _)
  | a :: l, 0, _, j, u, hu => by
    have hu : (cs a)[j]? = some u := hu
    show (cs a ++ flat cs l)[0 * k + j]? = some u
    rw [Nat.zero_mul, Nat.zero_add, List.getElem?_append_left (List.getElem?_eq_some_iff.1 hu).1]
    exact hu
  | a :: l, i + 1, h, j, u, hu => by
    show (cs a ++ flat cs l)[(i + 1) * k + j]? = some u
    rw [List.getElem?_append_right (by rw [hk, Nat.succ_mul]; omega), hk, show (i + 1) * k + j - k = i * k + j by rw [Nat.succ_mul]; omega]
    exact flat_get hk l i (by simpa using h) j u hu
theorem flat_length {α : Type} {k : Nat} {cs : α → List Value} (hk : ∀ a, (cs a).length = k) (l : List α) : (flat cs l).length = l.length * k := by
  induction l with
  | nil => simp [flat]
  | cons a l ih =>
    show (cs a ++ flat cs l).length = _
    rw [List.length_append, hk, ih, List.length_cons, Nat.succ_mul]; omega

/-- An owned row reads as what it holds. -/
theorem Own.rdA {α : Type} {k B : Nat} {cs : α → List Value} {R : HP} {w : World} {e : TypeId} {A : Option Addr} {n c : Nat} {l : List α} (hk : ∀ a, (cs a).length = k) (hn : n = l.length) (h : Own B (Rw e k (.slice A n c) n (flat cs l) * R) w) : RdA k cs w A l := by
  intro i hi
  have hr := h.row
  obtain ⟨g, cap, hf, _⟩ := hr.form (by omega)
  injection hf with h1 h2 h3
  subst h1
  have hlt := hr.lt g (by simp [Value.ownBlock])
  refine ⟨g, 0, rfl, hlt.2, fun j u hu => ?_⟩
  rw [Nat.zero_add]
  have := hr.cells (g := g) rfl (i * k + j) u (flat_get hk l i hi j u hu)
  rw [Addr.add_lit, Nat.zero_add] at this
  exact this

/-- An owned row's room. -/
theorem Own.cap {k B : Nat} {xs : List Value} {R : HP} {w : World} {e : TypeId} {A : Option Addr} {n c : Nat} (h : Own B (Rw e k (.slice A n c) n xs * R) w) : n ≤ c ∧ c ≤ 9223372036854775807 := by
  rcases h.row.2 with ⟨hv, hn⟩ | ⟨g, cap, cur, hv, _, _, h1, h2, _⟩
  · injection hv with _ h1 h2
    subst hn; subst h2
    exact ⟨Nat.le_refl _, by decide⟩
  · injection hv with _ _ h3
    subst h3
    exact ⟨h1, h2⟩
theorem cap0 : 0 ≤ 0 ∧ 0 ≤ 9223372036854775807 := ⟨Nat.le_refl _, by decide⟩
/-- One element more. -/
theorem row_append {P : Program} {B : Nat} {R : HP} [Loc B R] {w : World} (hB : B ≤ w.heap.size) {t e : TypeId} {i0 : TypeInfo} {z : Value} {k bytes : Nat} (ht : P.underlying t = some (.slice e)) (hi : P.info? e = some i0) (hz : i0.zero = some z)
    (hs : i0.size = k) (hy : i0.bytes = bytes) (hzs : z.cells.size = k) (hk : 0 < k) {v : Value} {n : Nat} {xs : List Value} (h : Own B (Rw e k v n xs * R) w) (cs : Array Value) (hcs : cs.size = k) (h1 : ∀ u ∈ cs.toList, u.oneCell' = true)
    (hn : n + 1 ≤ 9223372036854775807) (hby : (n + 1) * bytes ≤ 140737488355328) :
    ∃ g cap w', (Builtin.append_ #[t, t] t #[v, .slice (some ⟨w.heap.size, 0, none⟩) 1 1]).run P (w.alloc (.cells cs e)) = .ok (.slice (some ⟨g, 0, none⟩) (n + 1) cap) w' ∧
      Own B (Rw e k (.slice (some ⟨g, 0, none⟩) (n + 1) cap) (n + 1) (xs ++ cs.toList) * R) w' ∧ Below B w w' := by
  have h0 := h.alloc_keep hB (.cells cs e)
  have hB1 : B ≤ (w.alloc (.cells cs e)).heap.size := by simp; omega
  obtain ⟨v', w', hr, h2, h3, _, h5⟩ := run_append_own_at (P := P) (w.alloc (.cells cs e)) B t t e i0 z k bytes ht hi hz hs hy hzs hk v n xs h0.row
    ⟨w.heap.size, 0, none⟩ 1 1 cs.toList (by simp [hcs]) (fun j u hj => by
      rw [Addr.add_lit, Nat.zero_add, cell_of_row _ _ _ _ _ _ (heap_alloc_new w _)]
      simpa using hj) h1 (by unfold maxLen; omega) hby hB1
  have h6 := Own.appended hB1 h0 h2 h3 h5
  obtain ⟨g, cap, rfl, _⟩ := h2.form (by omega)
  exact ⟨g, cap, w', hr, h6.1, ((Below.refl B w).alloc hB _).trans h6.2⟩
/-- The operation that appends, met by its run. -/
theorem wpList_append_at {P : Program} {ops : Array Oper} {Q : Exit → Act → World → Prop} {rest : List Oper} {o : Oper} {a : Act} {w w' : World} (hgd : o.guard = none) (s x : Operand) (t : TypeId) {v u v' : Value}
    (ho : o.op = .call { callee := .builtin .append, args := #[s, x], argTypes := #[t, t] }) (hs : a.eval s = v) (hx : a.eval x = u) (hr : (Builtin.append_ #[t, t] o.type #[v, u]).run P w = .ok v' w')
    (h : wpList P ops Q rest (a.put o.dst v') w') : wpList P ops Q (o :: rest) a w := by
  refine wpList_plain hgd fun K hK => ?_
  unfold Oper.wp execOp
  simp only [ho, resolve, invoke, builtin, Sem.run_bind, Sem.run_pure, Result.andThen_ok, List.map_toArray, List.map_cons, List.map_nil, hs, hx, hr]
  exact hK _ _ h
/-- Two results: a struct that lies in memory, and a plain one. -/
theorem results_cell_tmp {P : Program} {fn : Func} {p q : Tmp} {ty : TypeId} (h : fn.results = #[.cell p ty, .tmp q]) (tmps : Array Value) (w : World) (g : Nat) (t : TypeId) (cs : Array Value) (fr : Nat × Nat) (d : TypeDesc)
    (hp : tmps.getD p undef = .pointer (some ⟨g, 0, none⟩)) (hg : w.heap[g]? = some (.cells cs t fr))
    (hu : P.underlying ty = some d) (hd : (match d with | .struct _ | .array _ _ => true | _ => false) = true) (hi : (P.info? ty).map (·.size) = some cs.size) :
    (results fn tmps).run P w = .ok (.tuple #[.agg cs, tmps.getD q undef]) w := by
  have hp' : tmps[p]?.getD undef = .pointer (some ⟨g, 0, none⟩) := by simpa using hp
  simp [results, h, hp', asAddr, run_loadVar_row w g t ty cs fr d hg hu hd hi]
theorem Own.step {B : Nat} {R : HP} [Loc B R] {w : World} {g : Nat} {t : TypeId} {cs : Array Value} (hB : B ≤ w.heap.size) (h : Own B (Bk g t cs * R) w) (i : Nat) (u : Value) :
    B ≤ (w.setCell ⟨g, i, none⟩ u).heap.size ∧ Own B (Bk g t (cs.setIfInBounds i u) * R) (w.setCell ⟨g, i, none⟩ u) ∧ Below B w (w.setCell ⟨g, i, none⟩ u) :=
  ⟨by simpa [World.setCell] using hB, h.set hB i u, h.below_set i u⟩
/-- A block of seven cells, stored over whole. -/
theorem Own.set7 {B : Nat} {R : HP} [Loc B R] {w : World} {g : Nat} {t : TypeId} {c0 c1 c2 c3 c4 c5 c6 : Value} (hB : B ≤ w.heap.size) (h : Own B (Bk g t #[c0, c1, c2, c3, c4, c5, c6] * R) w) (v0 v1 v2 v3 v4 v5 v6 : Value) :
    Own B (Bk g t #[v0, v1, v2, v3, v4, v5, v6] * R) (((((((w.setCell ⟨g, 0, none⟩ v0).setCell ⟨g, 1, none⟩ v1).setCell ⟨g, 2, none⟩ v2).setCell ⟨g, 3, none⟩ v3).setCell ⟨g, 4, none⟩ v4).setCell ⟨g, 5, none⟩ v5).setCell ⟨g, 6, none⟩ v6) ∧
    Below B w (((((((w.setCell ⟨g, 0, none⟩ v0).setCell ⟨g, 1, none⟩ v1).setCell ⟨g, 2, none⟩ v2).setCell ⟨g, 3, none⟩ v3).setCell ⟨g, 4, none⟩ v4).setCell ⟨g, 5, none⟩ v5).setCell ⟨g, 6, none⟩ v6) := by
  obtain ⟨k0, s0, b0⟩ := Own.step hB h 0 v0
  obtain ⟨k1, s1, b1⟩ := Own.step k0 s0 1 v1
  obtain ⟨k2, s2, b2⟩ := Own.step k1 s1 2 v2
  obtain ⟨k3, s3, b3⟩ := Own.step k2 s2 3 v3
  obtain ⟨k4, s4, b4⟩ := Own.step k3 s3 4 v4
  obtain ⟨k5, s5, b5⟩ := Own.step k4 s4 5 v5
  obtain ⟨k6, s6, b6⟩ := Own.step k5 s5 6 v6
  simp only [List.setIfInBounds_toArray, List.set_cons_zero, List.set_cons_succ] at s6
  exact ⟨s6, b0.trans (b1.trans (b2.trans (b3.trans (b4.trans (b5.trans b6)))))⟩
end Go.Proofs.YtmppagiaonbggaaDoor

/- A statement whose order Go leaves open: what keeps one condition on the world (reads, calls that leave it, whatever memory they make) may come in any order; what stands behind all of these comes last, in its own order. -/
namespace Go.Proofs.YtmppagiaonbggaaDoor
set_option linter.unusedVariables false
set_option linter.unusedSimpArgs false
set_option maxRecDepth 100000

section
variable {P : Program} {ops : Array Oper} {md : Region.Mode} {S : World → Prop} {Q : Exit → Act → World → Prop}

/-- From every world that meets S the operation ends in one and the same value, in a world that meets S. -/
def HeldR (P : Program) (S : World → Prop) (o : Oper) (v : Value) (a : Act) : Prop :=
  ∀ w, S w → match (execOp a.eval o).run P w with
    | .ok (.value u) w' => u = v ∧ S w'
    | .ok .skip w' => undef = v ∧ S w'
    | .ok (.enter f args) w' => Calls P f args w' fun e w'' => e = .returned v ∧ S w''
    | _ => False

def Held (P : Program) (ops : Array Oper) (S : World → Prop) (o : Oper) (v : Value) (a : Act) : Prop :=
  (Region.wanted o (yielded ops a.tmps) = true ∧ HeldR P S o v a) ∨ (Region.wanted o (yielded ops a.tmps) = false ∧ v = undef)

theorem HeldR.wp {o : Oper} {v : Value} {a : Act} {w : World} (h : HeldR P S o v a) (hS : S w) {K : Act → World → Prop} (hK : ∀ w', S w' → K (a.put o.dst v) w') : o.wp P a w K Q := by
  have h1 := h w hS
  unfold Oper.wp
  generalize (execOp a.eval o).run P w = r at h1
  cases r with
  | ok n w' =>
    cases n <;> simp only [Oper.upon] at h1 ⊢
    case value u => obtain ⟨rfl, hs⟩ := h1; exact hK _ hs
    case skip => obtain ⟨rfl, hs⟩ := h1; exact hK _ hs
    case enter f args => exact h1.mono fun e w'' ⟨he, hs⟩ => by subst he; exact hK _ hs
  | halt x w' => cases x <;> exact h1.elim

theorem Held.of_same {o : Oper} {v : Value} {a a' : Act} (h : Held P ops S o v a) (he : execOp a'.eval o = execOp a.eval o)
    (hw : Region.wanted o (yielded ops a'.tmps) = Region.wanted o (yielded ops a.tmps)) : Held P ops S o v a' := by
  unfold Held HeldR at *
  rw [he, hw]
  exact h

theorem Held.wpOp {i : Nat} {o : Oper} {v : Value} {a : Act} {w : World} (ho : ops[i]? = some o) (h : Held P ops S o v a) (hS : S w) {K : Act → World → Prop} (hK : ∀ w', S w' → K (a.put o.dst v) w') : wpOp P ops Q i K a w := by
  unfold Go.wpOp
  simp only [ho]
  rcases h with ⟨hw, h⟩ | ⟨hw, rfl⟩
  · rw [if_pos hw]; exact .inl (h.wp hS hK)
  · rw [if_neg (by rw [hw]; exact Bool.false_ne_true)]; exact hK w hS

def wpMix (P : Program) (ops : Array Oper) (S : World → Prop) (T : Act → Prop) : List Nat → Act → Prop
  | [], a => T a
  | i :: l, a => ∃ o v, ops[i]? = some o ∧ Held P ops S o v a ∧ wpMix P ops S T l (a.put o.dst v)

theorem wpMix_front {T : Act → Prop} {i : Nat} {post : List Nat} (hsel : Region.noSelect ops = true) :
    ∀ (pre : List Nat) (a : Act), (∀ p ∈ pre, ∀ op oi, ops[p]? = some op → ops[i]? = some oi → oi.apart ops op = true) → wpMix P ops S T (pre ++ i :: post) a →
      ∃ oi v, ops[i]? = some oi ∧ Held P ops S oi v a ∧ wpMix P ops S T (pre ++ post) (a.put oi.dst v)
  | [], a, _, h => h
  | p :: pre, a, hap, h => by
    obtain ⟨op, vp, hop, hheld, hrest⟩ := h
    obtain ⟨oi, v, hoi, hi, hr⟩ := wpMix_front hsel pre (a.put op.dst vp) (fun q hq => hap q (List.mem_cons_of_mem _ hq)) hrest
    obtain ⟨h1, h2, h3⟩ := Oper.apart_spec (hap p List.mem_cons_self op oi hop hoi)
    have si := Region.noSelect_spec hsel i oi
    have sp := Region.noSelect_spec hsel p op
    refine ⟨oi, v, hoi, hi.of_same (execOp_put oi (fun cs b => si cs b hoi) a op.dst vp h3).symm (wanted_put oi a op.dst vp h3).symm, op, vp, hop, hheld.of_same (execOp_put op (fun cs b => sp cs b hop) a oi.dst v h1) (wanted_put op a oi.dst v h1), ?_⟩
    rw [Act.put_comm a v vp h2]
    exact hr

/-! the static look -/
def edgesIn (md : Region.Mode) (ops : Array Oper) (listed : Array Bool) (i : Nat) : Bool := ((ops[i]?).map (·.after.all fun e => !Region.binds md e || listed.getD e.on false)).getD false
def lexOk (md : Region.Mode) (ops : Array Oper) : List Nat → Array Bool → Bool
  | [], _ => true
  | i :: l, listed => edgesIn md ops listed i && lexOk md ops l (listed.setIfInBounds i true)
def sinks (md : Region.Mode) (ops : Array Oper) (t : Nat) : List Nat → Bool
  | [] => true
  | h :: l => (Region.waitsFor md ops t h || l.any fun h' => Region.waitsFor md ops h' h) && sinks md ops t l
def chained (md : Region.Mode) (ops : Array Oper) : List Nat → Bool
  | [] => true
  | s :: l => (match l with | [] => true | t :: _ => Region.waitsFor md ops t s) && chained md ops l
def apartB (md : Region.Mode) (ops : Array Oper) (i j : Nat) : Bool :=
  Region.waitsFor md ops i j || Region.waitsFor md ops j i || (match ops[i]?, ops[j]? with | some oi, some oj => oi.apart ops oj | _, _ => true)
def mixB (md : Region.Mode) (ops : Array Oper) (listed : Array Bool) (hs ts : List Nat) : Bool :=
  Region.noSelect ops && decide (listed.size = ops.size) &&
  ((List.range ops.size).all fun j => listed.getD j true || hs.contains j || ts.contains j) &&
  ((hs ++ ts).all fun j => decide (j < ops.size) && !listed.getD j true) &&
  decide (hs ++ ts).Nodup && lexOk md ops (hs ++ ts) listed &&
  (match ts with | [] => true | t :: _ => sinks md ops t hs) && chained md ops ts &&
  hs.all fun i => hs.all fun j => i == j || apartB md ops i j

structure MixOk (md : Region.Mode) (ops : Array Oper) (listed : Array Bool) (hs ts : List Nat) : Prop where
  size : listed.size = ops.size
  cover : ∀ j, j < ops.size → listed.getD j true = false → j ∈ hs ∨ j ∈ ts
  un : ∀ j ∈ hs ++ ts, j < ops.size ∧ listed.getD j true = false
  nd : (hs ++ ts).Nodup
  lex : lexOk md ops (hs ++ ts) listed = true
  sink : ∀ t l, ts = t :: l → sinks md ops t hs = true
  chain : chained md ops ts = true
  apart : ∀ i ∈ hs, ∀ j ∈ hs, i ≠ j → apartB md ops i j = true

theorem mixB_ok {listed : Array Bool} {hs ts : List Nat} (h : mixB md ops listed hs ts = true) : Region.noSelect ops = true ∧ MixOk md ops listed hs ts := by
  simp only [mixB, Bool.and_eq_true, decide_eq_true_eq] at h
  obtain ⟨⟨⟨⟨⟨⟨⟨⟨h1, h2⟩, h3⟩, h4⟩, h5⟩, h6⟩, h7⟩, h8⟩, h9⟩ := h
  refine ⟨h1, h2, fun j hj hl => ?_, fun j hj => ?_, h5, h6, fun t l e => ?_, h8, fun i hi j hj hne => ?_⟩
  · have := List.all_eq_true.1 h3 j (List.mem_range.2 hj)
    rw [hl] at this
    simpa using this
  · have := List.all_eq_true.1 h4 j hj
    simp only [Bool.and_eq_true, decide_eq_true_eq, Bool.not_eq_true'] at this
    exact this
  · subst e; exact h7
  · have := List.all_eq_true.1 (List.all_eq_true.1 h9 i hi) j hj
    simp only [Bool.or_eq_true, beq_iff_eq] at this
    exact this.resolve_left hne

theorem mem_ready' {j : Nat} {listed : Array Bool} : j ∈ Region.ready md ops listed ↔ j < ops.size ∧ listed.getD j true = false ∧ edgesIn md ops listed j = true := by
  unfold Region.ready edgesIn
  simp [List.mem_filter, List.mem_range]

theorem edgesIn_waits {i j : Nat} {listed : Array Bool} (h : edgesIn md ops listed i = true) (hw : Region.waitsFor md ops i j = true) : listed.getD j false = true := by
  obtain ⟨oi, hoi, e, he, hb, rfl⟩ := Region.waitsFor_spec hw
  unfold edgesIn at h
  rw [hoi] at h
  simp only [Option.map_some, Option.getD_some] at h
  have h2 := Array.all_eq_true_iff_forall_mem.1 h e he
  simpa [hb] using h2

theorem edgesIn_set {i j : Nat} {listed : Array Bool} (h : edgesIn md ops listed i = true) : edgesIn md ops (listed.setIfInBounds j true) i = true := by
  unfold edgesIn at *
  cases hoi : ops[i]? with
  | none => rw [hoi] at h; exact h
  | some oi =>
    rw [hoi] at h
    simp only [Option.map_some, Option.getD_some] at h ⊢
    rw [Array.all_eq_true_iff_forall_mem] at h ⊢
    intro e he
    have := h e he
    simp only [Bool.or_eq_true] at this ⊢
    exact this.imp id getD_set_true

theorem lexOk_set {j : Nat} : ∀ (l : List Nat) (listed : Array Bool), lexOk md ops l listed = true → lexOk md ops l (listed.setIfInBounds j true) = true
  | [], _, _ => rfl
  | i :: l, listed, h => by
    simp only [lexOk, Bool.and_eq_true] at h ⊢
    refine ⟨edgesIn_set h.1, ?_⟩
    by_cases hij : i = j
    · subst hij
      exact lexOk_set l _ h.2
    · rw [Array.setIfInBounds_comm _ _ (Ne.symm hij)]
      exact lexOk_set l _ h.2

/-- One that is ready is struck out of the list. -/
theorem lexOk_strike {i : Nat} {post : List Nat} : ∀ (pre : List Nat) (listed : Array Bool), i ∉ pre → lexOk md ops (pre ++ i :: post) listed = true → lexOk md ops (pre ++ post) (listed.setIfInBounds i true) = true
  | [], listed, _, h => by simp only [List.nil_append, lexOk, Bool.and_eq_true] at h; exact h.2
  | p :: pre, listed, hni, h => by
    simp only [List.cons_append, lexOk, Bool.and_eq_true] at h ⊢
    refine ⟨edgesIn_set h.1, ?_⟩
    rw [Array.setIfInBounds_comm _ _ (fun e => hni (by rw [e]; exact List.mem_cons_self))]
    exact lexOk_strike pre _ (fun hm => hni (List.mem_cons_of_mem _ hm)) h.2

theorem lexOk_waits {i : Nat} {post : List Nat} : ∀ (pre : List Nat) (listed : Array Bool) (p : Nat), p ∈ pre → i ∉ pre → listed.getD i false = false → lexOk md ops (pre ++ i :: post) listed = true → Region.waitsFor md ops p i = false
  | q :: pre, listed, p, hp, hni, hl, h => by
    simp only [List.cons_append, lexOk, Bool.and_eq_true] at h
    rcases List.mem_cons.1 hp with rfl | hp
    · cases hw : Region.waitsFor md ops p i with
      | false => rfl
      | true => have := edgesIn_waits h.1 hw; rw [hl] at this; cases this
    · refine lexOk_waits pre _ p hp (fun hm => hni (List.mem_cons_of_mem _ hm)) ?_ h.2
      rw [getD_set_ne false (fun e => hni (by rw [e]; exact List.mem_cons_self))]
      exact hl

theorem sinks_strike {i t : Nat} {listed : Array Bool} (hi : edgesIn md ops listed i = true) {post : List Nat} : ∀ (pre : List Nat), (∀ p ∈ pre, listed.getD p false = false) → sinks md ops t (pre ++ i :: post) = true → sinks md ops t (pre ++ post) = true
  | [], _, h => by simp only [List.nil_append, sinks, Bool.and_eq_true] at h; exact h.2
  | p :: pre, hun, h => by
    simp only [List.cons_append, sinks, Bool.and_eq_true] at h ⊢
    refine ⟨?_, sinks_strike hi pre (fun q hq => hun q (List.mem_cons_of_mem _ hq)) h.2⟩
    have h1 := h.1
    simp only [Bool.or_eq_true, List.any_eq_true, List.mem_append, List.mem_cons] at h1 ⊢
    refine h1.imp id fun ⟨x, hx, hw⟩ => ⟨x, ?_, hw⟩
    rcases hx with hx | rfl | hx
    · exact .inl hx
    · have := edgesIn_waits hi hw
      rw [hun p List.mem_cons_self] at this
      cases this
    · exact .inr hx

theorem sinks_last {t : Nat} : ∀ (l : List Nat), l ≠ [] → sinks md ops t l = true → ∃ h ∈ l, Region.waitsFor md ops t h = true
  | [], hne, _ => absurd rfl hne
  | [h], _, hs => by
    simp only [sinks, List.any_nil, Bool.or_false, Bool.and_true] at hs
    exact ⟨h, List.mem_cons_self, hs⟩
  | h :: h' :: l, _, hs => by
    simp only [sinks, Bool.and_eq_true] at hs
    obtain ⟨x, hx, hw⟩ := sinks_last (h' :: l) (by simp) (by simp only [sinks, Bool.and_eq_true]; exact hs.2)
    exact ⟨x, List.mem_cons_of_mem _ hx, hw⟩

theorem chained_prev : ∀ (l : List Nat) (t : Nat), chained md ops l = true → t ∈ l → (∃ l', l = t :: l') ∨ ∃ s ∈ l, Region.waitsFor md ops t s = true
  | [], _, _, h => by cases h
  | s :: l, t, hc, h => by
    rcases List.mem_cons.1 h with rfl | h
    · exact .inl ⟨l, rfl⟩
    · simp only [chained, Bool.and_eq_true] at hc
      right
      rcases chained_prev l t hc.2 h with ⟨l', rfl⟩ | ⟨x, hx, hw⟩
      · exact ⟨s, List.mem_cons_self, hc.1⟩
      · exact ⟨x, List.mem_cons_of_mem _ hx, hw⟩

/-- While one of the first lot has not come, none of the tail can. -/
theorem MixOk.not_tail {listed : Array Bool} {hs ts : List Nat} (ok : MixOk md ops listed hs ts) (hne : hs ≠ []) {i : Nat} (hi : i ∈ Region.ready md ops listed) : i ∈ hs := by
  obtain ⟨hlt, hun, hed⟩ := mem_ready'.1 hi
  rcases ok.cover i hlt hun with h | h
  · exact h
  · exfalso
    have bad : ∀ s, s ∈ hs ++ ts → Region.waitsFor md ops i s = true → False := fun s hs' hw => by
      have h1 := edgesIn_waits hed hw
      rw [getD_both (ok.un s hs').2] at h1
      cases h1
    rcases chained_prev ts i ok.chain h with ⟨l', e⟩ | ⟨s, hs', hw⟩
    · obtain ⟨s, hs', hw⟩ := sinks_last hs hne (ok.sink i l' e)
      exact bad s (List.mem_append_left _ hs') hw
    · exact bad s (List.mem_append_right _ hs') hw

theorem MixOk.strike {listed : Array Bool} {pre post ts : List Nat} {i : Nat} (ok : MixOk md ops listed (pre ++ i :: post) ts) (hi : i ∈ Region.ready md ops listed) : MixOk md ops (listed.setIfInBounds i true) (pre ++ post) ts := by
  obtain ⟨hlt, hun, hed⟩ := mem_ready'.1 hi
  have nd := ok.nd
  have hni : i ∉ pre ∧ i ∉ post ∧ i ∉ ts := by
    rw [List.append_assoc, List.cons_append] at nd
    have := (List.nodup_cons.1 ((List.perm_middle.nodup_iff).1 nd)).1
    simp only [List.mem_append, not_or] at this
    exact this
  refine ⟨by simp [ok.size], fun j hj hl => ?_, fun j hj => ?_, ?_, ?_, fun t l e => ?_, ok.chain, fun a ha b hb hne => ok.apart a ?_ b ?_ hne⟩
  · by_cases hij : i = j
    · subst hij
      rw [show (listed.setIfInBounds i true).getD i true = true by simp [ok.size, hlt]] at hl
      cases hl
    · rw [getD_set_ne true hij] at hl
      have := ok.cover j hj hl
      simp only [List.mem_append, List.mem_cons] at this ⊢
      rcases this with (h | rfl | h) | h
      · exact .inl (.inl h)
      · exact absurd rfl hij
      · exact .inl (.inr h)
      · exact .inr h
  · have hj' : j ∈ (pre ++ i :: post) ++ ts := by
      simp only [List.mem_append, List.mem_cons] at hj ⊢
      rcases hj with (h | h) | h
      · exact .inl (.inl h)
      · exact .inl (.inr (.inr h))
      · exact .inr h
    have hne : i ≠ j := by
      rintro rfl
      simp only [List.mem_append] at hj
      rcases hj with (h | h) | h
      · exact hni.1 h
      · exact hni.2.1 h
      · exact hni.2.2 h
    exact ⟨(ok.un j hj').1, by rw [getD_set_ne true hne]; exact (ok.un j hj').2⟩
  · rw [List.append_assoc, List.cons_append] at nd
    rw [List.append_assoc]
    exact (List.nodup_cons.1 ((List.perm_middle.nodup_iff).1 nd)).2
  · have := ok.lex
    rw [List.append_assoc, List.cons_append] at this
    rw [List.append_assoc]
    exact lexOk_strike pre listed hni.1 this
  · exact sinks_strike hed pre (fun p hp => getD_both (ok.un p (by simp [hp])).2) (ok.sink t l e)
  · simp only [List.mem_append, List.mem_cons] at ha ⊢
    exact ha.imp id .inr
  · simp only [List.mem_append, List.mem_cons] at hb ⊢
    exact hb.imp id .inr

theorem wpAny_tail : ∀ (ts : List Nat) (listed : Array Bool) (a : Act) (w : World), MixOk md ops listed [] ts → wpOps P ops Q ts a w → wpAny P md ops Q ts.length listed a w
  | [], listed, a, w, ok, h => by
    refine ⟨?_, h⟩
    cases hr : Region.ready md ops listed with
    | nil => rfl
    | cons x l =>
      obtain ⟨hlt, hun, _⟩ := mem_ready'.1 (show x ∈ Region.ready md ops listed by rw [hr]; exact List.mem_cons_self)
      have := ok.cover x hlt hun
      simp at this
  | t :: ts, listed, a, w, ok, h => by
    have hlex : edgesIn md ops listed t = true ∧ lexOk md ops ts (listed.setIfInBounds t true) = true := by
      have := ok.lex
      simpa only [List.nil_append, lexOk, Bool.and_eq_true] using this
    have hun := ok.un t (by simp)
    have hr : t ∈ Region.ready md ops listed := mem_ready'.2 ⟨hun.1, hun.2, hlex.1⟩
    rw [wpOps_cons] at h
    refine ⟨fun h0 => (by rw [h0] at hr; cases hr), fun i hi => ?_⟩
    obtain ⟨hlt, hui, hed⟩ := mem_ready'.1 hi
    have hit : i = t := by
      have hm := (ok.cover i hlt hui).resolve_left (by simp)
      rcases chained_prev (t :: ts) i ok.chain hm with ⟨l', e⟩ | ⟨s, hs', hw⟩
      · injection e with e _; exact e.symm
      · have h1 := edgesIn_waits hed hw
        rw [getD_both (ok.un s (by simpa using hs')).2] at h1
        cases h1
    subst hit
    have nd := ok.nd
    rw [List.nil_append] at nd
    have hnd := List.nodup_cons.1 nd
    refine wpOp_mono (fun a' w' h' => wpAny_tail ts _ a' w' ⟨by simp [ok.size], fun j hj hl => ?_, fun j hj => ?_, by simpa using hnd.2, by simpa using hlex.2, fun _ _ _ => rfl, ?_, fun a ha => by cases ha⟩ h') h
    · by_cases hij : i = j
      · subst hij
        rw [show (listed.setIfInBounds i true).getD i true = true by simp [ok.size, hlt]] at hl
        cases hl
      · rw [getD_set_ne true hij] at hl
        have := ok.cover j hj hl
        simp only [List.mem_cons, List.not_mem_nil, false_or] at this
        exact .inr (this.resolve_left (Ne.symm hij))
    · have hj' : j ∈ ts := by simpa using hj
      have hne : i ≠ j := fun e => hnd.1 (e ▸ hj')
      have := ok.un j (by simp [hj'])
      exact ⟨this.1, by rw [getD_set_ne true hne]; exact this.2⟩
    · have := ok.chain
      simp only [chained, Bool.and_eq_true] at this
      exact this.2

theorem wpAny_mix' (hsel : Region.noSelect ops = true) {ts : List Nat} : ∀ (n : Nat) (hs : List Nat) (listed : Array Bool) (a : Act) (w : World), hs.length = n → MixOk md ops listed hs ts → S w →
    wpMix P ops S (fun a' => ∀ w', S w' → wpOps P ops Q ts a' w') hs a → wpAny P md ops Q (hs.length + ts.length) listed a w
  | 0, hs, listed, a, w, hn, ok, hS, h => by
    obtain rfl : hs = [] := List.eq_nil_of_length_eq_zero hn
    rw [List.length_nil, Nat.zero_add]
    exact wpAny_tail ts listed a w ok (h w hS)
  | n + 1, hs, listed, a, w, hn, ok, hS, h => by
    obtain ⟨x, l, rfl⟩ : ∃ x l, hs = x :: l := by cases hs with | nil => simp at hn | cons x l => exact ⟨x, l, rfl⟩
    rw [show (x :: l).length + ts.length = (l.length + ts.length) + 1 by simp; omega]
    have hr : x ∈ Region.ready md ops listed := by
      have hlex := ok.lex
      simp only [List.cons_append, lexOk, Bool.and_eq_true] at hlex
      have hun := ok.un x (by simp)
      exact mem_ready'.2 ⟨hun.1, hun.2, hlex.1⟩
    refine ⟨fun h0 => (by rw [h0] at hr; cases hr), fun i hi => ?_⟩
    have him := ok.not_tail (by simp) hi
    obtain ⟨hlt, hui, hed⟩ := mem_ready'.1 hi
    obtain ⟨pre, post, e⟩ := List.append_of_mem him
    rw [e] at ok h
    have nd := ok.nd
    have hni : i ∉ pre := by
      rw [List.append_assoc, List.cons_append] at nd
      have := (List.nodup_cons.1 ((List.perm_middle.nodup_iff).1 nd)).1
      simp only [List.mem_append, not_or] at this
      exact this.1
    obtain ⟨oi, v, hoi, hheld, hrest⟩ := wpMix_front (P := P) (S := S) hsel pre a (fun p hp op oi hop hoi => by
      have hne : i ≠ p := fun e => hni (e ▸ hp)
      have h1 := ok.apart i (by simp) p (by simp [hp]) hne
      have hunp := ok.un p (by simp [hp])
      have h2 : Region.waitsFor md ops i p = false := by
        cases hw : Region.waitsFor md ops i p with
        | false => rfl
        | true => have := edgesIn_waits hed hw; rw [getD_both hunp.2] at this; cases this
      have h3 : Region.waitsFor md ops p i = false := by
        have hlex := ok.lex
        rw [List.append_assoc, List.cons_append] at hlex
        exact lexOk_waits pre listed p hp hni (getD_both hui) hlex
      simpa [apartB, h2, h3, hop, hoi] using h1) h
    have hlen : l.length = (pre ++ post).length := by
      have := congrArg List.length e
      simp at this ⊢
      omega
    refine hheld.wpOp hoi hS fun w' hS' => ?_
    rw [hlen]
    exact wpAny_mix' hsel n (pre ++ post) _ _ w' (by rw [← hlen]; simpa using hn) (ok.strike hi) hS' hrest

theorem wpOps_list (l : List Nat) : ∀ (a : Act) (w : World), (∀ i ∈ l, i < ops.size) → wpList P ops Q (l.filterMap fun i => ops[i]?) a w → wpOps P ops Q l a w := by
  induction l with
  | nil => exact fun _ _ _ h => h
  | cons i l ih =>
    intro a w hl h
    have hi : i < ops.size := hl i List.mem_cons_self
    have ho : ops[i]? = some ops[i] := Array.getElem?_eq_getElem hi
    simp only [List.filterMap_cons, ho] at h
    have hl' : ∀ j ∈ l, j < ops.size := fun j hj => hl j (List.mem_cons_of_mem _ hj)
    unfold wpList at h
    unfold wpOps
    simp only [ho]
    split
    · rename_i hw
      rw [if_pos hw] at h
      exact h.imp (Oper.wp_mono fun a w h' => ih a w hl' h') id
    · rename_i hw
      rw [if_neg hw] at h
      exact ih _ _ hl' h

/-- The same over the operations themselves. -/
def wpHeld (P : Program) (ops : Array Oper) (S : World → Prop) (T : Act → Prop) : List Oper → Act → Prop
  | [], a => T a
  | o :: l, a => ∃ v, Held P ops S o v a ∧ wpHeld P ops S T l (a.put o.dst v)

theorem wpMix_of_held {T T' : Act → Prop} (hT : ∀ a, T a → T' a) : ∀ (l : List Nat) (a : Act), (∀ i ∈ l, i < ops.size) → wpHeld P ops S T (l.filterMap fun i => ops[i]?) a → wpMix P ops S T' l a
  | [], a, _, h => hT a h
  | i :: l, a, hl, h => by
    obtain ⟨o, ho⟩ : ∃ o, ops[i]? = some o := ⟨_, Array.getElem?_eq_getElem (hl i List.mem_cons_self)⟩
    simp only [List.filterMap_cons, ho] at h
    obtain ⟨v, hh, hr⟩ := h
    exact ⟨_, v, ho, hh, wpMix_of_held hT l _ (fun j hj => hl j (List.mem_cons_of_mem _ hj)) hr⟩

/-- THE RULE: the numbers hs in whatever order, then ts in theirs. -/
theorem wpAny_mix {fuel : Nat} {listed : Array Bool} {a : Act} {w : World} (S : World → Prop) (hs ts : List Nat) (hB : mixB md ops listed hs ts = true) (hf : fuel = hs.length + ts.length) (hS : S w)
    (h : wpHeld P ops S (fun a' => ∀ w', S w' → wpList P ops Q (ts.filterMap fun i => ops[i]?) a' w') (hs.filterMap fun i => ops[i]?) a) : wpAny P md ops Q fuel listed a w := by
  obtain ⟨hsel, ok⟩ := mixB_ok hB
  subst hf
  have hts : ∀ i ∈ ts, i < ops.size := fun i hi => (ok.un i (by simp [hi])).1
  have hhs : ∀ i ∈ hs, i < ops.size := fun i hi => (ok.un i (by simp [hi])).1
  exact wpAny_mix' hsel _ hs listed a w rfl ok hS (wpMix_of_held (fun a' h w' hw' => wpOps_list ts a' w' hts (h w' hw')) hs a hhs h)

theorem wp_region_mix {id : Nat} {a : Act} {w : World} (S : World → Prop) (hs ts : List Nat) (hm : P.follows .mixedOrders = true) (hB : mixB .any ops (Array.replicate ops.size false) hs ts = true) (hf : ops.size = hs.length + ts.length)
    (hS : S w.drew) (h : wpHeld P ops S (fun a' => ∀ w', S w' → wpList P ops Q (ts.filterMap fun i => ops[i]?) a' w') (hs.filterMap fun i => ops[i]?) a) : (Code.region id ops true).wp P Q a w :=
  wp_region_any hm (wpAny_mix S hs ts hB hf hS h)

/-! what yields its value in whatever world comes first -/
def wpFree (P : Program) (ops : Array Oper) (T : Act → Prop) : List Oper → Act → Prop
  | [], a => T a
  | o :: l, a => ∃ v, Yields P ops o v a ∧ wpFree P ops T l (a.put o.dst v)
def freeB (md : Region.Mode) (ops : Array Oper) : List Nat → Array Bool → Bool
  | [], _ => true
  | i :: l, listed => decide (i < ops.size) && Region.free md ops listed i && (Region.ready md ops listed).contains i && freeB md ops l (listed.setIfInBounds i true)
def markAll : List Nat → Array Bool → Array Bool
  | [], listed => listed
  | i :: l, listed => markAll l (listed.setIfInBounds i true)
theorem wpAny_free (hQ : ∀ c a d v w, Q (.panic c) (a.put (some d) v) w → Q (.panic c) a w) (hsel : Region.noSelect ops = true) {fuel : Nat} {w : World} {T : Act → Prop} :
    ∀ (us : List Nat) (listed : Array Bool) (a : Act), freeB md ops us listed = true → (∀ a', T a' → wpAny P md ops Q fuel (markAll us listed) a' w) →
      wpFree P ops T (us.filterMap fun i => ops[i]?) a → wpAny P md ops Q (us.length + fuel) listed a w
  | [], listed, a, _, hT, h => by rw [List.length_nil, Nat.zero_add]; exact hT a h
  | i :: us, listed, a, hB, hT, h => by
    simp only [freeB, Bool.and_eq_true, decide_eq_true_eq] at hB
    obtain ⟨⟨⟨hi, hf⟩, hr⟩, hB'⟩ := hB
    obtain ⟨o, ho⟩ : ∃ o, ops[i]? = some o := ⟨_, Array.getElem?_eq_getElem hi⟩
    simp only [List.filterMap_cons, ho] at h
    obtain ⟨v, hy, h⟩ := h
    rw [show (i :: us).length + fuel = (us.length + fuel) + 1 by simp; omega]
    refine wpAny_take ho hsel hf hr (fun c a w hq => ?_) hy (wpAny_free hQ hsel us _ _ hB' hT h)
    cases hd : o.dst with
    | none => rw [hd] at hq; exact hq
    | some d => rw [hd] at hq; exact hQ c a d v w hq

/-- THE RULE, WITH us FIRST: what yields its value in whatever world, at whatever time. -/
theorem wp_region_umix {id : Nat} {a : Act} {w : World} (S : World → Prop) (us hs ts : List Nat) (hm : P.follows .mixedOrders = true)
    (hB : (freeB .any ops us (Array.replicate ops.size false) && mixB .any ops (markAll us (Array.replicate ops.size false)) hs ts) = true) (hf : ops.size = us.length + (hs.length + ts.length))
    (hQ : ∀ c a d v w, Q (.panic c) (a.put (some d) v) w → Q (.panic c) a w) (hS : S w.drew)
    (h : wpFree P ops (fun a1 => wpHeld P ops S (fun a' => ∀ w', S w' → wpList P ops Q (ts.filterMap fun i => ops[i]?) a' w') (hs.filterMap fun i => ops[i]?) a1) (us.filterMap fun i => ops[i]?) a) :
    (Code.region id ops true).wp P Q a w := by
  rw [Bool.and_eq_true] at hB
  refine wp_region_any hm ?_
  rw [hf]
  rw [hf] at hB
  exact wpAny_free hQ (mixB_ok hB.2).1 us _ a hB.1 (fun a' h' => wpAny_mix S hs ts hB.2 rfl hS h') h

/-! the widest rule: reads that come before the tail's own writes, but may come behind a making of memory -/
def wpL (P : Program) (md : Region.Mode) (ops : Array Oper) (Q : Exit → Act → World → Prop) (S : World → Prop) (T : Act → World → Prop) : Nat → Array Bool → Act → World → Prop
  | 0, _, a, w => T a w
  | f + 1, listed, a, w => Region.ready md ops listed ≠ [] ∧ ∀ i ∈ Region.ready md ops listed, wpOp P ops Q i (fun a' w' => S w' ∧ wpL P md ops Q S T f (listed.setIfInBounds i true) a' w') a w

theorem MixOk.strike' {listed : Array Bool} {L ts : List Nat} {i : Nat} (ok : MixOk md ops listed L ts) (hne : L ≠ []) (hi : i ∈ Region.ready md ops listed) : ∃ L', MixOk md ops (listed.setIfInBounds i true) L' ts ∧ L'.length + 1 = L.length ∧ (∀ j ∈ L, j ≠ i → j ∈ L') := by
  obtain ⟨pre, post, e⟩ := List.append_of_mem (ok.not_tail hne hi)
  rw [e] at ok
  refine ⟨pre ++ post, ok.strike hi, by rw [e]; simp; omega, fun j hj hne => ?_⟩
  rw [e] at hj
  simp only [List.mem_append, List.mem_cons] at hj ⊢
  rcases hj with h | h | h
  · exact .inl h
  · exact absurd h hne
  · exact .inr h

theorem wpL_any {T : Act → World → Prop} {ts : List Nat} (hT : ∀ a w, T a w → wpOps P ops Q ts a w) : ∀ (n : Nat) (L : List Nat) (listed : Array Bool) (a : Act) (w : World), L.length = n → MixOk md ops listed L ts → wpL P md ops Q S T n listed a w →
    wpAny P md ops Q (n + ts.length) listed a w
  | 0, L, listed, a, w, hn, ok, h => by
    obtain rfl : L = [] := List.eq_nil_of_length_eq_zero hn
    rw [Nat.zero_add]
    exact wpAny_tail ts listed a w ok (hT a w h)
  | n + 1, L, listed, a, w, hn, ok, h => by
    rw [show n + 1 + ts.length = (n + ts.length) + 1 by omega]
    have hne : L ≠ [] := fun e => by subst e; simp at hn
    refine ⟨fun h0 => absurd h0 h.1, fun i hi => ?_⟩
    obtain ⟨L', ok', hl, _⟩ := ok.strike' hne hi
    exact wpOp_mono (fun a' w' h' => wpL_any hT n L' _ a' w' (by omega) ok' h'.2) (h.2 i hi)

theorem wpL_late {T : Act → World → Prop} {ts : List Nat} {i : Nat} {oi : Oper} {v : Value} (hoi : ops[i]? = some oi) (hsel : Region.noSelect ops = true) (hQ : ∀ c a w, Q (.panic c) (a.put oi.dst v) w → Q (.panic c) a w) :
    ∀ (n : Nat) (L : List Nat) (listed : Array Bool) (a : Act) (w : World), L.length = n + 1 → MixOk md ops listed L ts → i ∈ Region.ready md ops listed → i ∈ L → YieldsIf P ops S oi v a → S w →
      wpL P md ops Q S T n (listed.setIfInBounds i true) (a.put oi.dst v) w → wpL P md ops Q S T (n + 1) listed a w
  | 0, L, listed, a, w, hn, ok, hr, hiL, hy, hS, H => by
    refine ⟨fun h => (by rw [h] at hr; cases hr), fun j hj => ?_⟩
    have hne : L ≠ [] := fun e => by subst e; simp at hn
    obtain ⟨x, rfl⟩ := List.length_eq_one_iff.1 hn
    have h1 := ok.not_tail hne hj
    have h2 := ok.not_tail hne hr
    simp only [List.mem_singleton] at h1 h2
    obtain rfl : j = i := h1.trans h2.symm
    exact hy.wpOp hoi hS ⟨hS, H⟩
  | n + 1, L, listed, a, w, hn, ok, hr, hiL, hy, hS, H => by
    have hne : L ≠ [] := fun e => by subst e; simp at hn
    refine ⟨fun h => (by rw [h] at hr; cases hr), fun j hj => ?_⟩
    by_cases hji : j = i
    · subst hji; exact hy.wpOp hoi hS ⟨hS, H⟩
    · have h1 := H.2 j (ready_mono hj hji)
      obtain ⟨hjlt, hjun, hjed⟩ := mem_ready'.1 hj
      obtain ⟨hilt, hiun, hied⟩ := mem_ready'.1 hr
      obtain ⟨oj, hoj⟩ : ∃ o, ops[j]? = some o := ⟨_, Array.getElem?_eq_getElem hjlt⟩
      have hjL := ok.not_tail hne hj
      have hap : oi.apart ops oj = true := by
        have h := ok.apart i hiL j hjL (Ne.symm hji)
        have h2 : Region.waitsFor md ops i j = false := by
          cases hw : Region.waitsFor md ops i j with
          | false => rfl
          | true => have := edgesIn_waits hied hw; rw [getD_both hjun] at this; cases this
        have h3 : Region.waitsFor md ops j i = false := by
          cases hw : Region.waitsFor md ops j i with
          | false => rfl
          | true => have := edgesIn_waits hjed hw; rw [getD_both hiun] at this; cases this
        simpa [apartB, h2, h3, hoi, hoj] using h
      have h2 := wpOp_putIf hoj hap (fun cs b => Region.noSelect_spec hsel i oi cs b hoi) (fun cs b => Region.noSelect_spec hsel j oj cs b hoj) hQ hy h1
      obtain ⟨L', ok', hl, hmem⟩ := ok.strike' hne hj
      refine wpOp_mono (fun a' w' h3 => ⟨h3.2.1, wpL_late hoi hsel hQ n L' _ a' w' (by omega) ok' (ready_mono hr (Ne.symm hji)) (hmem i hiL (Ne.symm hji)) h3.1 h3.2.1 ?_⟩) h2
      rw [Array.setIfInBounds_comm _ _ hji]
      exact h3.2.2

def wpLate (P : Program) (ops : Array Oper) (S : World → Prop) (T : Act → Prop) : List Oper → Act → Prop
  | [], a => T a
  | o :: l, a => ∃ v, YieldsIf P ops S o v a ∧ wpLate P ops S T l (a.put o.dst v)

theorem wpL_lates {T : Act → World → Prop} {ts : List Nat} {w : World} {T1 : Act → Prop} (hsel : Region.noSelect ops = true) (hQ : ∀ c a d v w, Q (.panic c) (a.put (some d) v) w → Q (.panic c) a w) (hS : S w) :
    ∀ (ls rest : List Nat) (listed : Array Bool) (a : Act), MixOk md ops listed (ls ++ rest) ts → (∀ a', T1 a' → MixOk md ops (markAll ls listed) rest ts → wpL P md ops Q S T rest.length (markAll ls listed) a' w) →
      wpLate P ops S T1 (ls.filterMap fun i => ops[i]?) a → wpL P md ops Q S T (ls.length + rest.length) listed a w
  | [], rest, listed, a, ok, hT, h => by rw [List.length_nil, Nat.zero_add]; exact hT a h ok
  | i :: ls, rest, listed, a, ok, hT, h => by
    have hun := ok.un i (by simp)
    obtain ⟨o, ho⟩ : ∃ o, ops[i]? = some o := ⟨_, Array.getElem?_eq_getElem hun.1⟩
    simp only [List.filterMap_cons, ho] at h
    obtain ⟨v, hy, h⟩ := h
    have hr : i ∈ Region.ready md ops listed := by
      have hlex := ok.lex
      simp only [List.cons_append, lexOk, Bool.and_eq_true] at hlex
      exact mem_ready'.2 ⟨hun.1, hun.2, hlex.1⟩
    rw [show (i :: ls).length + rest.length = (ls.length + rest.length) + 1 by simp; omega]
    refine wpL_late ho hsel (fun c a w hq => ?_) _ _ listed a w (by simp) ok hr (by simp) hy hS (wpL_lates hsel hQ hS ls rest _ _ (MixOk.strike (pre := []) ok hr) hT h)
    cases hd : o.dst with
    | none => rw [hd] at hq; exact hq
    | some d => rw [hd] at hq; exact hQ c a d v w hq

/-- The first of the tail keep S, too. -/
def wpKeep (P : Program) (ops : Array Oper) (Q : Exit → Act → World → Prop) (S : World → Prop) (T : Act → World → Prop) : List Nat → Act → World → Prop
  | [], a, w => T a w
  | i :: l, a, w => wpOp P ops Q i (fun a' w' => S w' ∧ wpKeep P ops Q S T l a' w') a w

theorem wpL_keep {T : Act → World → Prop} {ts : List Nat} : ∀ (l : List Nat) (listed : Array Bool) (a : Act) (w : World), MixOk md ops listed [] (l ++ ts) → wpKeep P ops Q S T l a w → wpL P md ops Q S T l.length listed a w
  | [], _, _, _, _, h => h
  | t :: l, listed, a, w, ok, h => by
    have hlex : edgesIn md ops listed t = true ∧ lexOk md ops (l ++ ts) (listed.setIfInBounds t true) = true := by
      have := ok.lex
      simpa only [List.nil_append, List.cons_append, lexOk, Bool.and_eq_true] using this
    have hun := ok.un t (by simp)
    have hr : t ∈ Region.ready md ops listed := mem_ready'.2 ⟨hun.1, hun.2, hlex.1⟩
    refine ⟨fun h0 => (by rw [h0] at hr; cases hr), fun i hi => ?_⟩
    obtain ⟨hlt, hui, hed⟩ := mem_ready'.1 hi
    have hit : i = t := by
      have hm := (ok.cover i hlt hui).resolve_left (by simp)
      rcases chained_prev (t :: (l ++ ts)) i ok.chain hm with ⟨l', e⟩ | ⟨s, hs', hw⟩
      · injection e with e _; exact e.symm
      · have h1 := edgesIn_waits hed hw
        rw [getD_both (ok.un s (by simpa using hs')).2] at h1
        cases h1
    subst hit
    have nd := ok.nd
    rw [List.nil_append, List.cons_append] at nd
    have hnd := List.nodup_cons.1 nd
    refine wpOp_mono (fun a' w' h' => ⟨h'.1, wpL_keep l _ a' w' ⟨by simp [ok.size], fun j hj hl => ?_, fun j hj => ?_, by simpa using hnd.2, by simpa using hlex.2, fun _ _ _ => rfl, ?_, fun a ha => by cases ha⟩ h'.2⟩) h
    · by_cases hij : i = j
      · subst hij
        rw [show (listed.setIfInBounds i true).getD i true = true by simp [ok.size, hlt]] at hl
        cases hl
      · rw [getD_set_ne true hij] at hl
        have := ok.cover j hj hl
        simp only [List.cons_append, List.mem_cons, List.not_mem_nil, false_or] at this
        exact .inr (this.resolve_left (Ne.symm hij))
    · have hj' : j ∈ l ++ ts := by simpa using hj
      have hne : i ≠ j := fun e => hnd.1 (e ▸ hj')
      have := ok.un j (by simp only [List.nil_append, List.cons_append, List.mem_cons]; exact .inr hj')
      exact ⟨this.1, by rw [getD_set_ne true hne]; exact this.2⟩
    · have := ok.chain
      simp only [List.cons_append, chained, Bool.and_eq_true] at this
      exact this.2

theorem wpL_held (hsel : Region.noSelect ops = true) {T : Act → World → Prop} {ts0 ts : List Nat} : ∀ (n : Nat) (hs : List Nat) (listed : Array Bool) (a : Act) (w : World), hs.length = n → MixOk md ops listed hs (ts0 ++ ts) → S w →
    wpMix P ops S (fun a' => ∀ w', S w' → wpKeep P ops Q S T ts0 a' w') hs a → wpL P md ops Q S T (hs.length + ts0.length) listed a w
  | 0, hs, listed, a, w, hn, ok, hS, h => by
    obtain rfl : hs = [] := List.eq_nil_of_length_eq_zero hn
    rw [List.length_nil, Nat.zero_add]
    exact wpL_keep ts0 listed a w ok (h w hS)
  | n + 1, hs, listed, a, w, hn, ok, hS, h => by
    obtain ⟨x, l, rfl⟩ : ∃ x l, hs = x :: l := by cases hs with | nil => simp at hn | cons x l => exact ⟨x, l, rfl⟩
    rw [show (x :: l).length + ts0.length = (l.length + ts0.length) + 1 by simp; omega]
    have hr : x ∈ Region.ready md ops listed := by
      have hlex := ok.lex
      simp only [List.cons_append, lexOk, Bool.and_eq_true] at hlex
      have hun := ok.un x (by simp)
      exact mem_ready'.2 ⟨hun.1, hun.2, hlex.1⟩
    refine ⟨fun h0 => (by rw [h0] at hr; cases hr), fun i hi => ?_⟩
    have him := ok.not_tail (by simp) hi
    obtain ⟨hlt, hui, hed⟩ := mem_ready'.1 hi
    obtain ⟨pre, post, e⟩ := List.append_of_mem him
    rw [e] at ok h
    have nd := ok.nd
    have hni : i ∉ pre := by
      rw [List.append_assoc, List.cons_append] at nd
      have := (List.nodup_cons.1 ((List.perm_middle.nodup_iff).1 nd)).1
      simp only [List.mem_append, not_or] at this
      exact this.1
    obtain ⟨oi, v, hoi, hheld, hrest⟩ := wpMix_front (P := P) (S := S) hsel pre a (fun p hp op oi hop hoi => by
      have hne : i ≠ p := fun e => hni (e ▸ hp)
      have h1 := ok.apart i (by simp) p (by simp [hp]) hne
      have hunp := ok.un p (by simp [hp])
      have h2 : Region.waitsFor md ops i p = false := by
        cases hw : Region.waitsFor md ops i p with
        | false => rfl
        | true => have := edgesIn_waits hed hw; rw [getD_both hunp.2] at this; cases this
      have h3 : Region.waitsFor md ops p i = false := by
        have hlex := ok.lex
        rw [List.append_assoc, List.cons_append] at hlex
        exact lexOk_waits pre listed p hp hni (getD_both hui) hlex
      simpa [apartB, h2, h3, hop, hoi] using h1) h
    have hlen : l.length = (pre ++ post).length := by
      have := congrArg List.length e
      simp at this ⊢
      omega
    refine hheld.wpOp hoi hS fun w' hS' => ⟨hS', ?_⟩
    rw [hlen]
    exact wpL_held hsel n (pre ++ post) _ _ w' (by rw [← hlen]; simpa using hn) (ok.strike hi) hS' hrest

/-- As wpKeep, over the operations themselves. -/
def wpKept (P : Program) (ops : Array Oper) (Q : Exit → Act → World → Prop) (S : World → Prop) (T : Act → World → Prop) : List Oper → Act → World → Prop
  | [], a, w => T a w
  | o :: l, a, w => if Region.wanted o (yielded ops a.tmps) then o.wp P a w (fun a' w' => S w' ∧ wpKept P ops Q S T l a' w') Q else S w ∧ wpKept P ops Q S T l (a.put o.dst undef) w

theorem wpKeep_of_kept {T T' : Act → World → Prop} (hT : ∀ a w, T a w → T' a w) : ∀ (l : List Nat) (a : Act) (w : World), (∀ i ∈ l, i < ops.size) → wpKept P ops Q S T (l.filterMap fun i => ops[i]?) a w → wpKeep P ops Q S T' l a w
  | [], a, w, _, h => hT a w h
  | i :: l, a, w, hl, h => by
    obtain ⟨o, ho⟩ : ∃ o, ops[i]? = some o := ⟨_, Array.getElem?_eq_getElem (hl i List.mem_cons_self)⟩
    have hl' : ∀ j ∈ l, j < ops.size := fun j hj => hl j (List.mem_cons_of_mem _ hj)
    simp only [List.filterMap_cons, ho] at h
    unfold wpKept at h
    unfold wpKeep wpOp
    simp only [ho]
    split
    · rename_i hw
      rw [if_pos hw] at h
      exact .inl (Oper.wp_mono (fun a w h' => ⟨h'.1, wpKeep_of_kept hT l a w hl' h'.2⟩) h)
    · rename_i hw
      rw [if_neg hw] at h
      exact ⟨h.1, wpKeep_of_kept hT l _ _ hl' h.2⟩

def lmixB (md : Region.Mode) (ops : Array Oper) (listed : Array Bool) (ls hs ts0 ts : List Nat) : Bool :=
  mixB md ops listed (ls ++ (hs ++ ts0)) ts && mixB md ops (markAll ls listed) hs (ts0 ++ ts)

/-- THE WIDEST RULE. us: free, at whatever time · ls: reads that S decides, ahead of ts · hs: calls that keep S, ahead of ts0 · ts0: make memory, keep S · ts: the rest, in their order. -/
theorem wp_region_lmix {id : Nat} {a : Act} {w : World} (S : World → Prop) (us ls hs ts0 ts : List Nat) (hm : P.follows .mixedOrders = true)
    (hB : (freeB .any ops us (Array.replicate ops.size false) && lmixB .any ops (markAll us (Array.replicate ops.size false)) ls hs ts0 ts) = true) (hf : ops.size = us.length + ((ls.length + (hs.length + ts0.length)) + ts.length))
    (hQ : ∀ c a d v w, Q (.panic c) (a.put (some d) v) w → Q (.panic c) a w) (hS : S w.drew)
    (h : wpFree P ops (fun a1 => wpLate P ops S (fun a2 => wpHeld P ops S (fun a3 => ∀ w', S w' → wpKept P ops Q S (fun a4 w4 => wpList P ops Q (ts.filterMap fun i => ops[i]?) a4 w4) (ts0.filterMap fun i => ops[i]?) a3 w')
      (hs.filterMap fun i => ops[i]?) a2) (ls.filterMap fun i => ops[i]?) a1) (us.filterMap fun i => ops[i]?) a) :
    (Code.region id ops true).wp P Q a w := by
  simp only [lmixB, Bool.and_eq_true] at hB
  obtain ⟨hB1, hB2, hB3⟩ := hB
  obtain ⟨hsel, ok1⟩ := mixB_ok hB2
  obtain ⟨_, ok2⟩ := mixB_ok hB3
  have hts : ∀ i ∈ ts, i < ops.size := fun i hi => (ok1.un i (by simp [hi])).1
  have hts0 : ∀ i ∈ ts0, i < ops.size := fun i hi => (ok1.un i (by simp [hi])).1
  have hhs : ∀ i ∈ hs, i < ops.size := fun i hi => (ok1.un i (by simp [hi])).1
  refine wp_region_any hm ?_
  generalize ops.size = n at hf hB1 ok1 ok2 ⊢
  subst hf
  refine wpAny_free hQ hsel us _ a hB1 (fun a1 h1 => ?_) h
  refine wpL_any (S := S) (T := fun a4 w4 => wpOps P ops Q ts a4 w4) (fun _ _ h => h) _ (ls ++ (hs ++ ts0)) _ a1 _ (by simp) ok1 ?_
  have := wpL_lates (P := P) (S := S) (T := fun a4 w4 => wpOps P ops Q ts a4 w4) (w := w.drew) hsel hQ hS ls (hs ++ ts0) _ a1 ok1 (fun a2 h2 _ => ?_) h1
  · simpa using this
  · rw [List.length_append]
    exact wpL_held hsel _ hs _ a2 _ rfl ok2 hS (wpMix_of_held (fun a3 h3 w' hw' => wpKeep_of_kept (fun a4 w4 h4 => wpOps_list ts a4 w4 hts h4) ts0 a3 w' hts0 (h3 w' hw')) hs a2 hhs h2)

theorem late_nil {T : Act → Prop} {a : Act} (h : T a) : wpLate P ops S T [] a := h
theorem late_val {T : Act → Prop} {l : List Oper} {a : Act} {o : Oper} (v : Value) (hw : Region.wanted o (yielded ops a.tmps) = true) (hv : ∀ w, S w → (execOp a.eval o).run P w = .ok (.value v) w)
    (h : wpLate P ops S T l (a.put o.dst v)) : wpLate P ops S T (o :: l) a := ⟨v, .inl ⟨hw, hv⟩, h⟩
theorem late_off {T : Act → Prop} {l : List Oper} {a : Act} {o : Oper} (hw : Region.wanted o (yielded ops a.tmps) = false)
    (h : wpLate P ops S T l (a.put o.dst undef)) : wpLate P ops S T (o :: l) a := ⟨undef, .inr ⟨hw, rfl⟩, h⟩
theorem kept_nil {T : Act → World → Prop} {a : Act} {w : World} (h : T a w) : wpKept P ops Q S T [] a w := h
theorem kept_val {T : Act → World → Prop} {l : List Oper} {a : Act} {w w1 : World} {o : Oper} (v : Value) (hw : Region.wanted o (yielded ops a.tmps) = true) (hv : (execOp a.eval o).run P w = .ok (.value v) w1) (hS : S w1)
    (h : wpKept P ops Q S T l (a.put o.dst v) w1) : wpKept P ops Q S T (o :: l) a w := by
  unfold wpKept
  rw [if_pos hw]
  unfold Oper.wp
  rw [hv]
  exact ⟨hS, h⟩
theorem free_nil {T : Act → Prop} {a : Act} (h : T a) : wpFree P ops T [] a := h
theorem free_val {T : Act → Prop} {l : List Oper} {a : Act} {o : Oper} (v : Value) (hw : Region.wanted o (yielded ops a.tmps) = true) (hv : ∀ w, (execOp a.eval o).run P w = .ok (.value v) w)
    (h : wpFree P ops T l (a.put o.dst v)) : wpFree P ops T (o :: l) a := ⟨v, .inl ⟨hw, hv⟩, h⟩

/-! the steps -/
theorem held_nil {T : Act → Prop} {a : Act} (h : T a) : wpHeld P ops S T [] a := h
theorem held_val {T : Act → Prop} {l : List Oper} {a : Act} {o : Oper} (v : Value) (hw : Region.wanted o (yielded ops a.tmps) = true) (hv : ∀ w, S w → (execOp a.eval o).run P w = .ok (.value v) w)
    (h : wpHeld P ops S T l (a.put o.dst v)) : wpHeld P ops S T (o :: l) a :=
  ⟨v, .inl ⟨hw, fun w hS => by rw [hv w hS]; exact ⟨rfl, hS⟩⟩, h⟩
theorem held_off {T : Act → Prop} {l : List Oper} {a : Act} {o : Oper} (hw : Region.wanted o (yielded ops a.tmps) = false)
    (h : wpHeld P ops S T l (a.put o.dst undef)) : wpHeld P ops S T (o :: l) a :=
  ⟨undef, .inr ⟨hw, rfl⟩, h⟩
theorem held_call {T : Act → Prop} {l : List Oper} {a : Act} {o : Oper} (f : FuncId) (args : Array Value) (v : Value) (hw : Region.wanted o (yielded ops a.tmps) = true)
    (hr : ∀ w, S w → (execOp a.eval o).run P w = .ok (.enter f args) w) (hv : ∀ w, S w → Calls P f args w fun e w' => e = .returned v ∧ S w')
    (h : wpHeld P ops S T l (a.put o.dst v)) : wpHeld P ops S T (o :: l) a :=
  ⟨v, .inl ⟨hw, fun w hS => by rw [hr w hS]; exact hv w hS⟩, h⟩
end
end Go.Proofs.YtmppagiaonbggaaDoor

/- Shared words: what a call leaves behind, mixed orders, an append met by its run, a store into a row. -/
namespace Go.Proofs.YtmppagiaonbggaaDoor
set_option linter.unusedVariables false
set_option linter.unusedSimpArgs false
set_option maxRecDepth 100000
open Go.RowKit

def Ret (B : Nat) (w : World) (v : Value) (A : HP) (e : Ending) (w' : World) : Prop := e = .returned v ∧ Own B A w' ∧ Below B w w'
theorem mixed : Tryd.prog.follows .mixedOrders = true := by kernel_rfl

theorem wpList_append_run {P : Program} {ops : Array Oper} {Q : Exit → Act → World → Prop} {rest : List Oper} {o : Oper} {a : Act} {w w' : World} (hgd : o.guard = none) (s x : Operand) (t : TypeId) {v u v' : Value}
    (ho : o.op = .call { callee := .builtin .append, args := #[s, x], argTypes := #[t, t] }) (hs : a.eval s = v) (hx : a.eval x = u) (hr : (Builtin.append_ #[t, t] o.type #[v, u]).run P w = .ok v' w')
    (h : wpList P ops Q rest (a.put o.dst v') w') : wpList P ops Q (o :: rest) a w := by
  refine wpList_plain hgd fun K hK => ?_
  unfold Oper.wp execOp
  simp only [ho, resolve, invoke, builtin, Sem.run_bind, Sem.run_pure, Result.andThen_ok, List.map_toArray, List.map_cons, List.map_nil, hs, hx, hr]
  exact hK _ _ h

theorem Own.row_set {B : Nat} {R : HP} [Loc B R] {w : World} {e : TypeId} {g n cap : Nat} {xs : List Value} (hB : B ≤ w.heap.size) (h : Own B (Rw e 1 (.slice (some ⟨g, 0, none⟩) n cap) n xs * R) w) (j : Nat) (u : Value) :
    Own B (Rw e 1 (.slice (some ⟨g, 0, none⟩) n cap) n (xs.set j u) * R) (w.setCell ⟨g, j, none⟩ u) ∧ Below B w (w.setCell ⟨g, j, none⟩ u) := by
  have hrow := h.row
  have hlt := hrow.lt g (by simp [Value.ownBlock])
  refine ⟨Own.turn hB h (by simp [World.setCell]) fun F _ ⟨ho, hb⟩ => ⟨F, fun k hk => .inl hk, ⟨(World.ownsRow.stored ho j u).1, hb⟩, fun k _ hk => Below.heap_setCell _ _ _ _ (fun e => hk (by rw [show k = g from e]; exact hb g (by simp [Value.ownBlock])))⟩, (Below.refl B w).setCell (p := ⟨g, j, none⟩) hlt.1 u⟩

end Go.Proofs.YtmppagiaonbggaaDoor
