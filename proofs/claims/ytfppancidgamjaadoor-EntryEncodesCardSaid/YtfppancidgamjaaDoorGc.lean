/- Texts of one proof, merged: XO2 XO3 XRf XO4 XO5 XO6 XEc XEd XEe XQp XEf XEi XEj XEk XO7 XO8 XO9 XOd XTwl. -/
import Derived.Test.YtfppancidgamjaaDoorGb
import Derived.RangeFuncNested
import Derived.RangeFuncBound
import Derived.RangeFuncCalls
import Derived.RangeFuncBox
import Derived.RangeFuncLeaves
import Derived.WalkKit
import Derived.OwnWalkIn
import Derived.TacticsInMore
import Derived.LoopNIn
import Derived.LoopIn
import Derived.Shelf.Abstract
import Derived.Shelf.RegionOpen
import Derived.Lib.SmallJoins
import Derived.Laws.IdiomStrings
import Derived.Lib.BufferRead
import Derived.Laws.OwnMore
/- A reader of package octet as it lies, and the walks over its short methods. -/
namespace Go.Proofs.YtfppancidgamjaaDoor
set_option linter.unusedVariables false
set_option linter.unusedSimpArgs false
open Go.RowKit

/-- A slice value reads as these bytes, out of a block that is owned. -/
def okV (w : World) (F : Nat → Prop) (v : Value) (l : List UInt8) : Prop :=
  ∃ A c, v = .slice A l.length c ∧ l.length ≤ c ∧ c ≤ 9223372036854775807 ∧ (l ≠ [] → ∃ b off, A = some ⟨b, off, none⟩ ∧ F b ∧ ∀ j u, (bytesU l)[j]? = some u → w.cell? ⟨b, off + j, none⟩ = some u)
theorem okV.rd {w : World} {F : Nat → Prop} {v : Value} {l : List UInt8} (h : okV w F v l) : Rd w v (bytesU l) := by
  obtain ⟨A, c, rfl, _, _, h⟩ := h
  refine ⟨A, c, by rw [bytesU_length], fun hne => ?_⟩
  obtain ⟨b, off, rfl, _, hc⟩ := h (by intro e; subst e; exact hne rfl)
  exact ⟨_, rfl, fun j u hu => by rw [Addr.add_lit]; exact hc j u hu⟩
theorem okV.nil (w : World) (F : Nat → Prop) : okV w F (.slice none 0 0) [] := ⟨none, 0, rfl, Nat.le_refl _, by omega, fun h => absurd rfl h⟩
/-- Slices that read out of blocks that are owned, and that nobody writes. -/
def Rss (vs : List (Value × List UInt8)) : HP := fun w F => ∀ x ∈ vs, okV w F x.1 x.2
instance Loc.rss {B : Nat} {vs : List (Value × List UInt8)} : Loc B (Rss vs) where
  keep := fun w w' F h _ hv x hx => by
    obtain ⟨A, c, e, h1, h2, h3⟩ := hv x hx
    refine ⟨A, c, e, h1, h2, fun hne => ?_⟩
    obtain ⟨b, off, ha, hF, hc⟩ := h3 hne
    exact ⟨b, off, ha, hF, fun j u hu => (World.cell?_of_block (a := ⟨b, off + j, none⟩) (h b hF)).trans (hc j u hu)⟩
  up := fun w F F' h hv x hx => by
    obtain ⟨A, c, e, h1, h2, h3⟩ := hv x hx
    refine ⟨A, c, e, h1, h2, fun hne => ?_⟩
    obtain ⟨b, off, ha, hF, hc⟩ := h3 hne
    exact ⟨b, off, ha, h b hF, hc⟩
theorem Own.rss {B : Nat} {vs : List (Value × List UInt8)} {R : HP} {w : World} (h : Own B (Rss vs * R) w) {x : Value × List UInt8} (hx : x ∈ vs) : Rd w x.1 (bytesU x.2) := by
  obtain ⟨F, hf, F1, F2, hd, h1, h2, ha, hr⟩ := h
  exact (ha x hx).rd
theorem Own.rss_less {B : Nat} {vs vs' : List (Value × List UInt8)} {R : HP} {w : World} (h : Own B (Rss vs * R) w) (hs : ∀ x ∈ vs', x ∈ vs) : Own B (Rss vs' * R) w :=
  h.mono fun w F ⟨F1, F2, hd, h1, h2, ha, hr⟩ => ⟨F1, F2, hd, h1, h2, fun x hx => ha x (hs x hx), hr⟩
/-- A row of bytes that is owned, as what is read alone. -/
theorem Own.rss_of {B : Nat} {R : HP} {w : World} {v : Value} {l : List UInt8} (h : Own B (Rw 5 1 v l.length (bytesU l) * R) w) : Own B (Rss [(v, l)] * R) w := by
  refine h.mono fun w F ⟨F1, F2, hd, h1, h2, ha, hr⟩ => ⟨F1, F2, hd, h1, h2, fun x hx => ?_, hr⟩
  obtain rfl := List.mem_singleton.1 hx
  obtain ⟨ho, hb⟩ := ha
  rcases ho.2 with ⟨hn, h0⟩ | ⟨g, cap, cur, rfl, _, hg, h5, h6, h7, h8⟩
  · have e0 : l = [] := List.eq_nil_of_length_eq_zero h0
    subst e0
    subst hn
    exact okV.nil w F1
  · exact ⟨_, cap, rfl, h5, by simpa [maxLen] using h6, fun _ => ⟨g, 0, rfl, hb g (by simp [Value.ownBlock]), fun j u hu => by
      have := ho.cells (g := g) rfl j u hu
      rwa [Addr.add_lit] at this⟩⟩
theorem okV.at_block {w : World} {F : Nat → Prop} {A : Option Addr} {n c : Nat} {l : List UInt8} (h : okV w F (.slice A n c) l) (hne : l ≠ []) : ∀ a, A = some a → F a.block := by
  obtain ⟨A', c', e, _, _, h3⟩ := h
  injection e with e1 _ e3
  subst e1
  obtain ⟨b, off, rfl, hF, _⟩ := h3 hne
  intro a ha
  cases ha
  exact hF
/-- A reader: its cells, and what it, and what was taken of it, read. -/
def RdrV (v : Value) (p : Nat) (s : OS) (vs : List (Value × List UInt8)) : HP := Bk p 83 #[v, .int .i64 s.err] * Rss ((v, s.rest) :: vs)
def Rdr (p : Nat) (s : OS) (vs : List (Value × List UInt8)) : HP := Hex fun v => RdrV v p s vs
instance Loc.rdrv {B : Nat} {v : Value} {p : Nat} {s : OS} {vs : List (Value × List UInt8)} : Loc B (RdrV v p s vs) := inferInstanceAs (Loc B (Bk _ _ _ * Rss _))
instance Loc.rdr {B : Nat} {p : Nat} {s : OS} {vs : List (Value × List UInt8)} : Loc B (Rdr p s vs) := inferInstanceAs (Loc B (Hex _))
theorem Own.rdr_less {B : Nat} {p : Nat} {s : OS} {vs vs' : List (Value × List UInt8)} {R : HP} {w : World} (h : Own B (Rdr p s vs * R) w) (hs : ∀ x ∈ vs', x ∈ vs) : Own B (Rdr p s vs' * R) w := by
  obtain ⟨v, hV⟩ := h.hex
  refine Own.to_hex v ?_
  have := hV.mono (C := RdrV v p s vs' * R) fun w F ⟨F1, F2, hd, h1, h2, ⟨G1, G2, gd, g1, g2, hb, ha⟩, hr⟩ => ⟨F1, F2, hd, h1, h2, ⟨G1, G2, gd, g1, g2, hb, fun x hx => ha x (by
    rcases List.mem_cons.1 hx with rfl | hx
    · exact List.mem_cons_self
    · exact List.mem_cons_of_mem _ (hs x hx))⟩, hr⟩
  exact this
/-- The reader is gone; what was taken of it stays. -/
theorem Own.rdr_done {B : Nat} {p : Nat} {s : OS} {vs : List (Value × List UInt8)} {R : HP} {w : World} (h : Own B (Rdr p s vs * R) w) : Own B (Rss vs * R) w := by
  obtain ⟨v, hV⟩ := h.hex
  exact hV.assoc.right.rss_less fun x hx => List.mem_cons_of_mem _ hx
theorem Own.rdr_view {B : Nat} {p : Nat} {s : OS} {vs : List (Value × List UInt8)} {R : HP} {w : World} (h : Own B (Rdr p s vs * R) w) {x : Value × List UInt8} (hx : x ∈ vs) : Rd w x.1 (bytesU x.2) := h.rdr_done.rss hx

def ofail (s : OS) (z : Int) : OS := if s.err = 0 then ⟨s.rest, z⟩ else s
section
variable (p : Nat) (s : OS) (vs : List (Value × List UInt8)) (B : Nat) (R : HP) (w : World)
theorem rerr_any (hO : Own B (Rdr p s vs * R) w) : Calls Tryd.prog 57 #[.pointer (some ⟨p, 0, none⟩)] w fun e w' => e = .returned (.int .i64 s.err) ∧ w' = w := by
  obtain ⟨v, hV⟩ := hO.hex
  have hV := hV.assoc
  have c1 : w.cell? ⟨p, 1, none⟩ = some (.int .i64 s.err) := hV.cell 1
  clear hV
  go_enter Tryd.func57, Tryd.ntmps57
  go_wp2
  go_ret
  exact ⟨rfl, rfl⟩
theorem rfail_any [Loc B R] (hB : B ≤ w.heap.size) (z : Int) (hO : Own B (Rdr p s vs * R) w) : Calls Tryd.prog 67 #[.pointer (some ⟨p, 0, none⟩), .int .i64 z] w (Ret B w (.tuple #[]) (Rdr p (ofail s z) vs * R)) := by
  obtain ⟨v, hV⟩ := hO.hex
  have hV := hV.assoc
  have c1 : w.cell? ⟨p, 1, none⟩ = some (.int .i64 s.err) := hV.cell 1
  have z1 := hV.unfrozen 1
  have s1 := hV.set hB 1 (.int .i64 z)
  have b1 := hV.below_set 1 (.int .i64 z)
  by_cases he : s.err = 0
  · have o2 : Own B (Rdr p (ofail s z) vs * R) _ := Own.to_hex v (by unfold ofail; rw [if_pos he]; exact s1.assoc')
    rw [he] at c1
    clear hV s1
    go_enter Tryd.func67, Tryd.ntmps67
    go_wp2
    go_end0
    exact ⟨rfl, o2, b1⟩
  · have o2 : Own B (Rdr p (ofail s z) vs * R) w := by unfold ofail; rw [if_neg he]; exact hO
    have he' : (s.err == 0) = false := by simpa using he
    clear hV s1 b1
    generalize s.err = q at c1 he he'
    go_enter Tryd.func67, Tryd.ntmps67
    go_wp2
    go_end0
    exact ⟨rfl, o2, Below.refl _ _⟩
theorem rleft_any (hO : Own B (Rdr p s vs * R) w) : Calls Tryd.prog 59 #[.pointer (some ⟨p, 0, none⟩)] w fun e w' => e = .returned (.int .i64 (oleft s : Int)) ∧ w' = w := by
  have E := rerr_any p s vs B R w hO
  obtain ⟨v, hV⟩ := hO.hex
  have hV := hV.assoc
  obtain ⟨A, c, rfl⟩ : ∃ A c, v = .slice A s.rest.length c := by
    obtain ⟨F, hf, F1, F2, hd, h1, h2, ha, F3, F4, hd', h3, h4, hv, _⟩ := hV
    obtain ⟨A, c, e, _⟩ := hv _ List.mem_cons_self
    exact ⟨A, c, e⟩
  have c0 : w.cell? ⟨p, 0, none⟩ = some (.slice A s.rest.length c) := hV.cell 0
  by_cases he : s.err = 0
  · have e2 : oleft s = s.rest.length := by unfold oleft; rw [if_neg (by omega)]
    rw [e2]
    rw [he] at E
    clear hV e2
    go_enter Tryd.func59, Tryd.ntmps59
    go_wp2_with fail
    refine E.mono ?_
    rintro e w1 ⟨rfl, rfl⟩
    go_wp2
    go_ret
    exact ⟨rfl, rfl⟩
  · have e2 : oleft s = 0 := by unfold oleft; rw [if_pos he]
    have he' : (s.err == 0) = false := by simpa using he
    rw [e2]
    clear hV e2
    generalize s.err = q at E he he'
    go_enter Tryd.func59, Tryd.ntmps59
    go_wp2_with fail
    refine E.mono ?_
    rintro e w1 ⟨rfl, rfl⟩
    go_wp2
    go_ret
    exact ⟨rfl, rfl⟩
theorem rend_any (hO : Own B (Rdr p s vs * R) w) : Calls Tryd.prog 41 #[.pointer (some ⟨p, 0, none⟩)] w fun e w' => e = .returned (.int .i64 (oend s)) ∧ w' = w := by
  have E := rerr_any p s vs B R w hO
  have L := rleft_any p s vs B R w hO
  by_cases h : 0 < oleft s
  · have e2 : oend s = 5 := by unfold oend; rw [if_pos h]
    rw [e2]
    clear e2
    generalize oleft s = q at *
    have h' : (0 : Int) < (q : Int) := by omega
    go_enter Tryd.func41, Tryd.ntmps41
    go_wp2_with fail
    refine L.mono ?_
    rintro e w1 ⟨rfl, rfl⟩
    go_wp2
    go_ret
    exact ⟨rfl, rfl⟩
  · have e2 : oend s = s.err := by unfold oend; rw [if_neg h]
    rw [e2]
    clear e2
    have h' : ¬ (0 : Int) < (oleft s : Int) := by omega
    generalize oleft s = q at *
    go_enter Tryd.func41, Tryd.ntmps41
    go_wp2_with fail
    refine L.mono ?_
    rintro e w1 ⟨rfl, rfl⟩
    go_wp2_with fail
    refine E.mono ?_
    rintro e w1 ⟨rfl, rfl⟩
    go_wp2
    go_ret
    exact ⟨rfl, rfl⟩
end
end Go.Proofs.YtfppancidgamjaaDoor

/- The walks over New and take of package octet's reader. -/
namespace Go.Proofs.YtfppancidgamjaaDoor
set_option linter.unusedVariables false
set_option linter.unusedSimpArgs false
open Go.RowKit

set_option maxRecDepth 100000 in
theorem rnew_any (v : Value) (l : List UInt8) (hl : l.length ≤ 140737488355328) (B : Nat) (R : HP) [Loc B R] (w : World) (hB : B ≤ w.heap.size) (hO : Own B R w) (hr : Rd w v (bytesU l)) :
    Calls Tryd.prog 38 #[v] w fun e w' => ∃ p, Ret B w (.pointer (some ⟨p, 0, none⟩)) (Rdr p ⟨l, 0⟩ [] * R) e w' := by
  have C := clone_any v l w hr hl
  obtain ⟨A, c, rfl, _⟩ := id hr
  clear hr
  go_enter Tryd.func38, Tryd.ntmps38
  go_wp2_with fail
  refine C.mono ?_
  rintro e w1 ⟨v1, rfl, ho1, b1⟩
  have o1 : Own B (Rw 5 1 v1 l.length (bytesU l) * R) w1 := Own.fresh hB hO ho1 b1
  have o2 := o1.rss_of
  have B1 := Nat.le_trans hB b1.size
  have o3 := o2.new B1 83 #[v1, .int .i64 0]
  have b3 := (b1.mono hB).alloc B1 (.cells #[v1, .int .i64 0] 83)
  obtain ⟨A1, c1, rfl⟩ := o1.row_n
  have o4 : Own B (Rdr w1.heap.size ⟨l, 0⟩ [] * R) _ := Own.to_hex _ (o3.assoc')
  clear ho1 o1 o2 o3 hO
  go_wp2
  go_ret
  exact ⟨_, rfl, o4, b3⟩

/-- What is taken of what is left is read, too. -/
theorem okV.taken {w : World} {F : Nat → Prop} {A : Option Addr} {c : Nat} {l : List UInt8} (h : okV w F (.slice A l.length c) l) (n : Nat) (hn : n ≤ l.length) : okV w F (.slice A n n) (l.take n) := by
  obtain ⟨A', c', e, h1, h2, h3⟩ := h
  injection e with e1 _ e3
  subst e1; subst e3
  have hlen : (l.take n).length = n := by rw [List.length_take]; omega
  refine ⟨A, n, by rw [hlen], by omega, by omega, fun hne => ?_⟩
  obtain ⟨b, off, rfl, hF, hc⟩ := h3 (by intro e; subst e; simp at hne)
  refine ⟨b, off, rfl, hF, fun j u hu => hc j u ?_⟩
  unfold bytesU at hu ⊢
  rw [List.map_take, List.getElem?_take] at hu
  split at hu
  · exact hu
  · cases hu
theorem okV.left {w : World} {F : Nat → Prop} {A : Option Addr} {c : Nat} {l : List UInt8} (h : okV w F (.slice A l.length c) l) (n : Nat) (hn : n ≤ l.length) : okV w F (.slice (if c = n then A else A.map (fun x => x.add n)) (l.length - n) (c - n)) (l.drop n) := by
  obtain ⟨A', c', e, h1, h2, h3⟩ := h
  injection e with e1 _ e3
  subst e1; subst e3
  refine ⟨_, c - n, by rw [List.length_drop], by rw [List.length_drop]; omega, by omega, fun hne => ?_⟩
  have hlt : n < l.length := by
    by_cases h : n < l.length
    · exact h
    · exact absurd (List.drop_eq_nil_of_le (by omega)) hne
  obtain ⟨b, off, rfl, hF, hc⟩ := h3 (by intro e; subst e; simp at hlt)
  rw [if_neg (by omega)]
  refine ⟨b, off + n, by simp [Addr.add], hF, fun j u hu => ?_⟩
  unfold bytesU at hu
  rw [List.map_drop, List.getElem?_drop] at hu
  rw [Nat.add_assoc]
  exact hc _ _ hu

set_option maxRecDepth 100000 in
set_option maxHeartbeats 1600000 in
theorem rtake_any (p : Nat) (s : OS) (vs : List (Value × List UInt8)) (n : Nat) (B : Nat) (R : HP) [Loc B R] (w : World) (hB : B ≤ w.heap.size) (hn : n ≤ 9223372036854775807) (hO : Own B (Rdr p s vs * R) w) :
    Calls Tryd.prog 68 #[.pointer (some ⟨p, 0, none⟩), .int .i64 (n : Int)] w fun e w' => ∃ x, Ret B w x (Rdr p (otake s n).2 ((x, (otake s n).1) :: vs) * R) e w' := by
  have E := rerr_any p s vs B R w hO
  obtain ⟨v, hV⟩ := hO.hex
  have hV := hV.assoc
  have hnil : ∀ {q : Value} {s' : OS} {w' : World}, Own B (RdrV q p s' vs * R) w' → Own B (Rdr p s' ((.slice none 0 0, []) :: vs) * R) w' := fun {q s' w'} h => Own.to_hex q (h.mono (C := RdrV q p s' ((.slice none 0 0, []) :: vs) * R) fun w F ⟨F1, F2, hd, h1, h2, ⟨G1, G2, gd, g1, g2, hb, ha⟩, hr⟩ => ⟨F1, F2, hd, h1, h2, ⟨G1, G2, gd, g1, g2, hb, fun x hx => by
    rcases List.mem_cons.1 hx with rfl | hx
    · exact ha _ List.mem_cons_self
    rcases List.mem_cons.1 hx with rfl | hx
    · exact okV.nil _ _
    · exact ha _ (List.mem_cons_of_mem _ hx)⟩, hr⟩)
  by_cases he : s.err = 0
  · obtain ⟨A, c, rfl, hlc, hcm⟩ : ∃ A c, v = .slice A s.rest.length c ∧ s.rest.length ≤ c ∧ c ≤ 9223372036854775807 := by
      obtain ⟨F, hf, F1, F2, hd, h1, h2, ha, F3, F4, hd', h3, h4, hv, _⟩ := hV
      obtain ⟨A, c, e, q1, q2, _⟩ := hv _ List.mem_cons_self
      exact ⟨A, c, e, q1, q2⟩
    have c0 : w.cell? ⟨p, 0, none⟩ = some (.slice A s.rest.length c) := hV.cell 0
    by_cases hlt : s.rest.length < n
    · have e2 : otake s n = ([], ofail s 2) := by unfold otake ofail; rw [if_neg (by omega), if_pos hlt, if_pos he]
      have Fl := fun w1 (b : Own B (Rdr p s vs * R) w1) hB => rfail_any p s vs B R w1 hB 2 b
      have hlt' : (s.rest.length : Int) < (n : Int) := by omega
      have HO := Lib.hid hO
      rw [e2]
      rw [he] at E
      clear hV hO e2
      generalize s.rest.length = L at *
      go_enter Tryd.func68, Tryd.ntmps68
      go_wp2_with fail
      refine E.mono ?_
      rintro e w1 ⟨rfl, rfl⟩
      go_wp2_with fail
      refine (Fl _ HO.out hB).mono ?_
      rintro e w2 ⟨rfl, o2, b2⟩
      obtain ⟨q, o2⟩ := o2.hex
      have o3 := hnil o2
      clear o2
      go_wp2
      go_ret
      exact ⟨_, rfl, o3, b2⟩
    · have hle : n ≤ s.rest.length := by omega
      have e2 : otake s n = (s.rest.take n, ⟨s.rest.drop n, 0⟩) := by unfold otake; rw [if_neg (by omega), if_neg hlt]
      have z0 := hV.unfrozen 0
      have s0 := hV.set hB 0 (.slice (if c = n then A else A.map (fun x => x.add n)) (s.rest.length - n) (c - n))
      have b0 := hV.below_set 0 (.slice (if c = n then A else A.map (fun x => x.add n)) (s.rest.length - n) (c - n))
      rw [e2]
      rw [he] at E s0
      have o3 : Own B (Rdr p ⟨s.rest.drop n, 0⟩ ((.slice A n n, s.rest.take n) :: vs) * R) (w.setCell ⟨p, 0, none⟩ (.slice (if c = n then A else A.map (fun x => x.add n)) (s.rest.length - n) (c - n))) :=
        Own.to_hex (.slice (if c = n then A else A.map (fun x => x.add n)) (s.rest.length - n) (c - n)) ((s0.assoc').mono (C := RdrV _ p ⟨s.rest.drop n, 0⟩ ((.slice A n n, s.rest.take n) :: vs) * R) fun w F ⟨F1, F2, hd, h1, h2, ⟨G1, G2, gd, g1, g2, hb, ha⟩, hr⟩ => ⟨F1, F2, hd, h1, h2, ⟨G1, G2, gd, g1, g2, hb, fun x hx => by
          have h0 := ha _ List.mem_cons_self
          rcases List.mem_cons.1 hx with rfl | hx
          · exact h0.left n hle
          rcases List.mem_cons.1 hx with rfl | hx
          · exact h0.taken n hle
          · exact ha _ (List.mem_cons_of_mem _ hx)⟩, hr⟩)
      have hle' : ¬ (s.rest.length : Int) < (n : Int) := by omega
      have m1 : (n : Int) ≤ (s.rest.length : Int) := by omega
      have m2 : (s.rest.length : Int) ≤ (c : Int) := by omega
      have m3 : (n : Int) ≤ (c : Int) := by omega
      have m4 : (0 : Int) ≤ (n : Int) := by omega
      clear hV hO e2 s0
      generalize s.rest.length = L at *
      obtain ⟨A2, hA2⟩ : ∃ A2, (if c = n then A else A.map (fun x => x.add n)) = A2 := ⟨_, rfl⟩
      rw [hA2] at o3 b0
      go_enter Tryd.func68, Tryd.ntmps68
      go_wp2_with fail
      refine E.mono ?_
      rintro e w1 ⟨rfl, rfl⟩
      go_wp2
      go_ret
      exact ⟨_, rfl, o3, b0⟩
  · have e2 : otake s n = ([], s) := otake_err he n
    have he' : (s.err == 0) = false := by simpa using he
    have o3 := hnil hV.assoc'
    rw [e2]
    clear hV hO e2
    generalize s.err = q at E he he'
    go_enter Tryd.func68, Tryd.ntmps68
    go_wp2_with fail
    refine E.mono ?_
    rintro e w1 ⟨rfl, rfl⟩
    go_wp2
    go_ret
    exact ⟨_, rfl, o3, Below.refl _ _⟩
end Go.Proofs.YtfppancidgamjaaDoor

/- A range over a function, told by what is owned: the loop's own blocks are no cells, so what is owned abides them. -/
namespace Go.Proofs.YtfppancidgamjaaDoor
set_option linter.unusedVariables false
set_option linter.unusedSimpArgs false
open Go.RowKit

def CelB (n : Nat) (w : World) (k : Nat) : Prop := k < n ∨ ∃ o : Obj, w.heap[k]? = some o ∧ o.isCells = true
/-- What it says hangs, from block n on, on blocks of cells alone. -/
class Cel (n : Nat) (A : HP) : Prop where
  cut : ∀ (w : World) (F : Nat → Prop), A w F → A w (fun k => F k ∧ CelB n w k)
instance Cel.emp {n : Nat} : Cel n Emp := ⟨fun _ _ h => h⟩
instance Cel.fact {n : Nat} {p : Prop} : Cel n (Fact p) := ⟨fun _ _ h => h⟩
instance Cel.hex {n : Nat} {α : Type} {A : α → HP} [h : ∀ x, Cel n (A x)] : Cel n (Hex A) := ⟨fun w F ⟨x, hx⟩ => ⟨x, (h x).cut w F hx⟩⟩
instance Cel.bk {n g : Nat} {t : TypeId} {cs : Array Value} : Cel n (Bk g t cs) := ⟨fun _ _ ⟨hF, hg⟩ => ⟨⟨hF, .inr ⟨_, hg, rfl⟩⟩, hg⟩⟩
instance Cel.rw {m : Nat} {e : TypeId} {size : Nat} {v : Value} {n : Nat} {xs : List Value} : Cel m (Rw e size v n xs) := ⟨fun w F ⟨ho, hF⟩ => ⟨ho, fun k hk => ⟨hF k hk, by
  rcases ho.2 with ⟨rfl, _⟩ | ⟨g, cap, cur, rfl, _, hg, _⟩
  · simp [Value.ownBlock] at hk
  · simp [Value.ownBlock] at hk
    subst hk
    exact .inr ⟨_, hg, rfl⟩⟩⟩⟩
instance Cel.sep {n : Nat} {A C : HP} [a : Cel n A] [c : Cel n C] : Cel n (A * C) := ⟨fun w F ⟨F1, F2, hd, h1, h2, ha, hc⟩ =>
  ⟨fun k => F1 k ∧ CelB n w k, fun k => F2 k ∧ CelB n w k, fun k hk hk' => hd k hk.1 hk'.1, fun k hk => ⟨h1 k hk.1, hk.2⟩, fun k hk => ⟨h2 k hk.1, hk.2⟩, a.cut w F1 ha, c.cut w F2 hc⟩⟩

/-- These blocks are as they were. -/
def Same (s : Nat → Prop) (W : World) : HP := fun w F => ∀ k, s k → F k ∧ w.heap[k]? = W.heap[k]?
instance Loc.same {B : Nat} {s : Nat → Prop} {W : World} : Loc B (Same s W) where
  keep := fun w w' F h _ hs k hk => ⟨(hs k hk).1, (h k (hs k hk).1).trans (hs k hk).2⟩
  up := fun w F F' h hs k hk => ⟨h k (hs k hk).1, (hs k hk).2⟩
theorem Cel.same {n : Nat} {s : Nat → Prop} {W : World} (hs : ∀ k, s k → k < n) : Cel n (Same s W) := ⟨fun w F h k hk => ⟨⟨(h k hk).1, .inl (hs k hk)⟩, (h k hk).2⟩⟩
/-- All that is no cells, from n on, as it was. -/
def Non (n : Nat) (W : World) : HP := fun w F => ∀ k o, n ≤ k → W.heap[k]? = some o → o.isCells = false → F k ∧ w.heap[k]? = some o
instance Loc.non {B n : Nat} {W : World} : Loc B (Non n W) where
  keep := fun w w' F h _ hs k o hn ho hc => ⟨(hs k o hn ho hc).1, (h k (hs k o hn ho hc).1).trans (hs k o hn ho hc).2⟩
  up := fun w F F' h hs k o hn ho hc => ⟨h k (hs k o hn ho hc).1, (hs k o hn ho hc).2⟩
theorem Own.non {B n : Nat} {A : HP} [c : Cel n A] {W : World} (h : Own B A W) (hn : B ≤ n) : Own B (A * Non n W) W := by
  obtain ⟨F, hf, ha⟩ := h
  refine ⟨fun k => (F k ∧ CelB n W k) ∨ (n ≤ k ∧ ∃ o, W.heap[k]? = some o ∧ o.isCells = false), fun k hk => ?_, fun k => F k ∧ CelB n W k, fun k => n ≤ k ∧ ∃ o, W.heap[k]? = some o ∧ o.isCells = false, fun k hk hk' => ?_, fun k hk => .inl hk, fun k hk => .inr hk, c.cut W F ha, fun k o h1 h2 h3 => ⟨⟨h1, o, h2, h3⟩, h2⟩⟩
  · rcases hk with hk | ⟨h1, o, h2, _⟩
    · exact hf k hk.1
    · exact ⟨by omega, (Array.getElem?_eq_some_iff.1 h2).1⟩
  · obtain ⟨hn', o', h3, h4⟩ := hk'
    rcases hk.2 with h | ⟨o, h1, h2⟩
    · omega
    rw [h1] at h3
    cases h3
    rw [h2] at h4
    cases h4
/-- The deferred calls' block of a range over a function. -/
def Dk (D : Nat) : HP := fun w F => F D ∧ w.heap[D]? = some (.deferred (some []))
instance Loc.dk {B D : Nat} : Loc B (Dk D) where
  keep := fun _ _ _ h _ ⟨hf, hg⟩ => ⟨hf, (h D hf).trans hg⟩
  up := fun _ _ _ h ⟨hf, hg⟩ => ⟨h D hf, hg⟩
theorem Own.dk {B D n : Nat} {A : HP} [c : Cel n A] {W : World} (h : Own B A W) (hB : B ≤ D) (hn : n ≤ D) (hD : W.heap[D]? = some (.deferred (some []))) : Own B (A * Dk D) W := by
  obtain ⟨F, hf, ha⟩ := h
  refine ⟨fun k => (F k ∧ CelB n W k) ∨ k = D, fun k hk => ?_, fun k => F k ∧ CelB n W k, fun k => k = D, fun k hk hk' => ?_, fun k hk => .inl hk, fun k hk => .inr hk, c.cut W F ha, rfl, hD⟩
  · rcases hk with hk | rfl
    · exact hf k hk.1
    · exact ⟨hB, (Array.getElem?_eq_some_iff.1 hD).1⟩
  · subst hk'
    rcases hk.2 with h | ⟨o, h1, h2⟩
    · omega
    rw [hD] at h1
    cases h1
    cases h2
/-- A step that turns one block that is no cells. -/
theorem Own.abide {B n : Nat} {A : HP} [c : Cel n A] [Loc B A] {W W' : World} {row : Option Nat} (hB : B ≤ W.heap.size) (hn : B ≤ n) (h : Own B A W) (hg : W.grownBy W' row) (hr : ∀ r, row = some r → n ≤ r ∧ ∃ o : Obj, W.heap[r]? = some o ∧ o.isCells = false) : Own B A W' := by
  obtain ⟨F, hf, ha⟩ := h
  refine ⟨fun k => F k ∧ CelB n W k, fun k hk => ⟨(hf k hk.1).1, Nat.lt_of_lt_of_le (hf k hk.1).2 hg.size⟩, Loc.keep (B := B) W W' _ (fun k hk => hg.block k (hf k hk.1).2 (fun e => ?_)) (fun k hk => hg.block k (by omega) (fun e => ?_)) (c.cut W F ha)⟩
  · obtain ⟨hn', o, h1, h2⟩ := hr k e.symm
    rcases hk.2 with h | ⟨o', h3, h4⟩
    · omega
    rw [h1] at h3
    cases h3
    rw [h2] at h4
    cases h4
  · have := (hr k e.symm).1
    omega

/-- What a round must keep of the memory that the iterator reads: these blocks. -/
def KpS (s : Nat → Prop) (W W' : World) : Prop := ∀ k, s k → W'.heap[k]? = W.heap[k]?
theorem KpS.t {s : Nat → Prop} {A B C : World} (h : KpS s A B) (k : KpS s B C) : KpS s A C := fun i hi => (k i hi).trans (h i hi)
theorem KpS.b {s : Nat → Prop} {w : World} (hs : ∀ k, s k → k < w.heap.size) (W : World) (l : Nat) (o o' : Obj) (hl : w.heap.size ≤ l) (h : W.heap[l]? = some o) (_ : o.isCells = false) (_ : o.isWalk = false) : KpS s W (W.putObj l o') := fun k hk => by
  have := hs k hk
  exact (grownBy_putObj' W l o').block k (by have := (Array.getElem?_eq_some_iff.1 h).1; omega) (by simp; omega)

/-- What a loop leaves alone, set aside: its blocks are kept, and behind the loop it is there again. -/
theorem Own.fix {B : Nat} {A C : HP} [Loc B A] {w : World} (h : Own B (A * C) w) : ∃ s : Nat → Prop, (∀ k, s k → k < w.heap.size) ∧ A w s ∧ Own B (C * Same s w) w ∧
    ∀ (W : World) (C' D : HP), Below B w W → Own B (C' * (Same s w * D)) W → Own B (C' * (A * D)) W := by
  obtain ⟨F, hf, F1, F2, hd, h1, h2, ha, hc⟩ := h
  refine ⟨F1, fun k hk => (hf k (h1 k hk)).2, ha, ⟨F, hf, F2, F1, fun k hk hk' => hd k hk' hk, h2, h1, hc, fun k hk => ⟨hk, rfl⟩⟩, fun W C' D hb hO => ?_⟩
  obtain ⟨G, hg, G1, G2, gd, g1, g2, hC', H1, H2, hd2, k1, k2, hS, hD⟩ := hO
  exact ⟨G, hg, G1, G2, gd, g1, g2, hC', H1, H2, hd2, k1, k2, Loc.up (B := B) W _ H1 (fun k hk => (hS k hk).1) (Loc.keep (B := B) w W _ (fun k hk => (hS k hk).2) (fun k hk => hb.block k hk) ha), hD⟩
/-- How a round may be left. -/
def hpPost {α : Type} (B : Nat) (A : List α → HP) (Ax : Code → List α → HP) (R : HP) (W : World) (xs : List α) : Exit → Act → World → Prop
  | .normal, _, W' => Own B (A xs * R) W' ∧ Below B W W'
  | .ret, _, W' => Own B (Ax .ret xs * R) W' ∧ Below B W W'
  | .exit id, _, W' => Own B (Ax (.exit id) xs * R) W' ∧ Below B W W'
  | .goto t, _, W' => Own B (Ax (.goto t) xs * R) W' ∧ Below B W W'
  | .panic _, _, _ => False
  | .outgrown, _, _ => False

theorem keeps_of {B n : Nat} {s : Nat → Prop} {C : HP} {W W' w0 : World} (hB : B ≤ W.heap.size) (hsz : W.heap.size ≤ W'.heap.size) (h : Own B (C * (Same s w0 * Non n W)) W') : KeepsFrom n W W' := by
  obtain ⟨F, hf, F1, F2, hd, h1, h2, hc, F3, F4, hd', h3, h4, hs, hn⟩ := h
  exact ⟨hsz, fun k o hk ho hc => (hn k o hk ho hc).2⟩

/-- THE RULE: a range over a function, in a call that goes on alone. -/
theorem wp_rangeFunc_hp {α : Type} {P : Program} {g : Operand} {ps : Array Tmp} {assign body : Code} {Q : Exit → Act → World → Prop} {a : Act} {w : World}
    {gf : Nat} {lb : Array Value} (hg : a.eval g = .func (.func gf) #[] lb) (eg : ∀ args w, (callFunc gf args).run P w = .ok (.enter gf args) w)
    {encs : α → Array Value} {S Sp : List α → Prop} {N : Nat} (s : Nat → Prop) (hs : ∀ k, s k → k < w.heap.size) (hseq : SeqStopsK Fence.wide 4 P gf lb encs (KpS s) S Sp N w) (hps : ∀ x, (encs x).size = ps.size)
    (B : Nat) (A : List α → HP) (Ax : Code → List α → HP) [∀ xs, Loc B (A xs)] [∀ xs, Cel w.heap.size (A xs)] [∀ c xs, Loc B (Ax c xs)] [∀ c xs, Cel w.heap.size (Ax c xs)] (hB : B ≤ w.heap.size) (h0 : Own B (A [] * Same s w) w) (fin : α → Array Value → Array Value) (a₁ : α → Act) (ha₁ : ∀ x, a₁ x = { tmps := fin x ((ps.zip (encs x)).foldl (fun t (p, v) => t.setIfInBounds p v) a.tmps), defers := [] })
    (hassign : ∀ (l : Nat) (x : α) (W : World) (K : Act → World → Prop), K (a₁ x) W →
      assign.wpIn (Fence.wide.inRound l) 3 P (Exit.then K (fun _ _ _ => False)) { tmps := (ps.zip (encs x)).foldl (fun t (p, v) => t.setIfInBounds p v) a.tmps, defers := [] } W)
    (hbody : ∀ (l : Nat) (pre : List α) (x : α) (W : World) (R : HP) [Loc B R], B ≤ W.heap.size → Below B w W → Own B (A pre * R) W → pre.length < N → body.wpIn (Fence.wide.inRound l) 3 P (hpPost B A Ax R W (pre ++ [x])) (a₁ x) W)
    (hdone : ∀ (D : Nat) (xs : List α) (W : World), S xs → B ≤ W.heap.size → Below B w W → Own B (A xs * (Same s w * Dk D)) W → Q .normal { a with defers := { target := .collected D, args := #[] } :: a.defers } W)
    (hstop : ∀ (D : Nat) (c : Code) (pre : List α) (W : World), Sp pre → B ≤ W.heap.size → Below B w W → Own B (Ax c pre * (Same s w * Dk D)) W → c.wp P Q { a with defers := { target := .collected D, args := #[] } :: a.defers } W) :
    (Code.rangeFunc g ps assign body).wp P Q a w := by
  have cs : Cel w.heap.size (Same s w) := Cel.same hs
  refine (wpIn_wide (n := 5)).1 ?_
  refine wpIn_rangeFunc_ownG (F := Fence.wide) (n := 5) rfl (by omega) hg trivial eg hseq KpS.t (KpS.b hs) (Below.refl _ _) hps
    (fun pre W => (Own B (A pre * Same s w) W ∧ B ≤ W.heap.size) ∧ Below B w W) (fun c pre W => (Own B (Ax c pre * Same s w) W ∧ B ≤ W.heap.size) ∧ Below B w W)
    (OwnFrom.and (fun _ _ _ _ hs hg hr => ⟨hs.1.abide hs.2 hB hg hr, Nat.le_trans hs.2 hg.size⟩) (ownFrom_below hB hB))
    (fun c => OwnFrom.and (fun _ _ _ _ hs hg hr => ⟨hs.1.abide hs.2 hB hg hr, Nat.le_trans hs.2 hg.size⟩) (ownFrom_below hB hB))
    ⟨⟨h0, hB⟩, Below.refl _ _⟩ a₁ hassign ?_ ?_ ?_
  · intro l pre x W ⟨⟨hO, hBW⟩, hb⟩ hN
    have hO2 : Own B (A pre * (Same s w * Non w.heap.size W)) W := (hO.non (n := w.heap.size) hB).assoc
    have hsame : ∀ k, s k → W.heap[k]? = w.heap[k]? := by
      obtain ⟨F, hf, F1, F2, hd, h1, h2, hc, hs⟩ := hO
      exact fun k hk => (hs k hk).2
    refine Code.wpIn_mono (fun e a' W' h => ?_) (hbody l pre x W (Same s w * Non w.heap.size W) hBW hb hO2 hN)
    have fin : ∀ (C : HP), Own B (C * (Same s w * Non w.heap.size W)) W' → Below B W W' → KeepsFrom w.heap.size W W' ∧ KpS s W W' ∧ (Own B (C * Same s w) W' ∧ B ≤ W'.heap.size) ∧ Below B w W' := by
      intro C h hb'
      refine ⟨keeps_of hBW hb'.size h, ?_, ⟨h.assoc'.left, Nat.le_trans hBW hb'.size⟩, hb.trans hb'⟩
      obtain ⟨F, hf, F1, F2, hd, h1, h2, hc, F3, F4, hd', h3, h4, hs', hn⟩ := h
      exact fun k hk => (hs' k hk).2.trans (hsame k hk).symm
    cases e with
    | normal => obtain ⟨k1, k2, k3, k4⟩ := fin _ h.1 h.2; exact ⟨k1, k2, k3, k4⟩
    | ret => obtain ⟨k1, k2, k3, k4⟩ := fin _ h.1 h.2; exact ⟨k1, k3, k4⟩
    | exit id => obtain ⟨k1, k2, k3, k4⟩ := fin _ h.1 h.2; exact ⟨k1, k3, k4⟩
    | goto t => obtain ⟨k1, k2, k3, k4⟩ := fin _ h.1 h.2; exact ⟨k1, k3, k4⟩
    | panic c => exact h
    | outgrown => exact h
  · intro D xs W hD hS ⟨⟨hO, hBW⟩, hb⟩ hK
    exact hdone D xs W hS hBW hb ((hO.dk (n := w.heap.size) (Nat.le_trans hB hD) hD hK).assoc)
  · intro D c pre W hD hS ⟨⟨hO, hBW⟩, hb⟩ hK
    exact wpIn_wide.2 (hstop D c pre W hS hBW hb ((hO.dk (n := w.heap.size) (Nat.le_trans hB hD) hD hK).assoc))

/-- The call's end behind one loop: the deferred calls' block is struck. -/
theorem ret_hp {n D B : Nat} {P : Program} {fn : Func} {R : Ending → World → Prop} {a : Act} {W : World} {A : HP} [Loc B A] {v : Value} (hB : B ≤ W.heap.size) (hd : a.defers = [{ target := .collected D, args := #[] }]) (hO : Own B (Dk D * A) W)
    (hres : ∀ W', Own B A W' → (results fn a.tmps).run P W' = .ok v W') (hR : ∀ W', Own B A W' → Below B W W' → R (.returned v) W') : bodyPostM Fence.wide n P fn R .ret a W := by
  have hK : W.heap[D]? = some (.deferred (some [])) := by
    obtain ⟨F, hf, F1, F2, hd, h1, h2, hc, hs⟩ := hO
    exact hc.2
  have hBD : B ≤ D := by
    obtain ⟨F, hf, F1, F2, hd, h1, h2, hc, hs⟩ := hO
    exact (hf D (h1 D hc.1)).1
  have hg := grownBy_putObj' W D (.deferred none)
  have hO' : Own B A (W.putObj D (.deferred none)) := (Own.turn (A' := Emp) hB hO hg.size (fun F hF ⟨hFD, _⟩ => ⟨fun _ => False, fun _ h => h.elim, trivial, fun k hk hn => hg.block k hk (fun e => hn (by injection e with e; exact e ▸ hFD))⟩)).right
  have hb : Below B W (W.putObj D (.deferred none)) := (Below.refl B W).grown hg hB (fun k e => by cases e; exact hBD)
  unfold bodyPostM
  simp only [hd]
  exact ⟨by simp, .inl ⟨_, _, rfl, run_takeDeferred hK, _, hres _ hO', hR _ hO' hb⟩⟩
end Go.Proofs.YtfppancidgamjaaDoor

/- The walks over the search for a number's end, and over slices.Backward of bytes. -/
namespace Go.Proofs.YtfppancidgamjaaDoor
set_option linter.unusedVariables false
set_option linter.unusedSimpArgs false
open Go.RowKit Go.Shelf

attribute [local go_sem] Oper.semAt_some

def endI (l : List UInt8) : Int := match endN l with | none => -1 | some k => (k : Int)
theorem endN_none : ∀ {l : List UInt8}, (∀ j (h : j < l.length), ¬ l[j].toNat < 128) → endN l = none
  | [], _ => rfl
  | c :: l, h => by
    unfold endN
    rw [if_neg (show ¬ c.toNat < 128 from h 0 (by simp)), endN_none (fun j hj => h (j + 1) (by simpa using hj))]
    rfl
theorem endN_some : ∀ {l : List UInt8} {i : Nat} (hi : i < l.length), (∀ j (h : j < l.length), j < i → ¬ l[j].toNat < 128) → l[i].toNat < 128 → endN l = some i
  | [], i, hi, _, _ => absurd hi (by simp)
  | c :: l, 0, _, _, h1 => by unfold endN; rw [if_pos (show c.toNat < 128 from h1)]
  | c :: l, i + 1, hi, h, h1 => by
    unfold endN
    rw [if_neg (show ¬ c.toNat < 128 from h 0 (by simp) (by omega)), endN_some (l := l) (i := i) (by simpa using hi) (fun j hj hlt => h (j + 1) (by simpa using hj) (by omega)) h1]
    rfl

theorem small_u8 (c : UInt8) (w : World) : Calls Tryd.prog 66 #[.int .u8 (c.toNat : Int)] w fun e w' => e = .returned (.bool (decide (c.toNat < 128))) ∧ w' = w := by
  by_cases h : c.toNat < 128
  · have h1 : (c.toNat : Int) < 128 := by omega
    rw [decide_eq_true h]
    clear h
    generalize (c.toNat : Int) = z at *
    go_enter Tryd.func66, Tryd.ntmps66
    go_wp2
    go_ret
    exact ⟨rfl, rfl⟩
  · have h1 : ¬ (c.toNat : Int) < 128 := by omega
    rw [decide_eq_false h]
    clear h
    generalize (c.toNat : Int) = z at *
    go_enter Tryd.func66, Tryd.ntmps66
    go_wp2
    go_ret
    exact ⟨rfl, rfl⟩
theorem Rd.at {w : World} {A : Option Addr} {n c : Nat} {l : List UInt8} (h : Rd w (.slice A n c) (bytesU l)) (i : Nat) (hi : i < l.length) : ∃ ad, A = some ad ∧ w.cell? (ad.add i) = some (.int .u8 (l[i].toNat : Int)) := by
  obtain ⟨A', c', hv, hrd⟩ := h
  injection hv with e1 e2 e3
  subst e1
  obtain ⟨ad, rfl, hc⟩ := hrd (by intro e; rw [← List.length_eq_zero_iff, bytesU_length] at e; omega)
  exact ⟨ad, rfl, hc i _ (by simp [bytesU, hi])⟩

set_option maxRecDepth 100000 in
set_option maxHeartbeats 1600000 in
theorem ixbyte_any (A : Option Addr) (c : Nat) (l : List UInt8) (hl : l.length ≤ 9223372036854775807) (w : World) (hr : Rd w (.slice A l.length c) (bytesU l)) :
    Calls Tryd.prog 65 #[.slice A l.length c, .func (.func 66) #[] #[]] w fun e w' => e = .returned (.int .i64 (endI l)) ∧ w' = w := by
  have Hr := Lib.hid (fun i hi => hr.at i hi)
  have Hend : Hid ((∀ j (h : j < l.length), ¬ l[j].toNat < 128) → endI l = -1) := Lib.hid (fun h => by unfold endI; rw [endN_none h])
  have Hsome : Hid (∀ i (hi : i < l.length), (∀ j (h : j < l.length), j < i → ¬ l[j].toNat < 128) → l[i].toNat < 128 → endI l = (i : Int)) := Lib.hid (fun i hi h h1 => by unfold endI; rw [endN_some hi h h1])
  have n1 : (l.length : Int) ≤ 9223372036854775807 := by omega
  clear hr hl
  go_enter Tryd.func65, Tryd.ntmps65
  go_wp2
  go_loopg [8] l.length (fun k v wr => ∃ i : Nat, k + i = l.length ∧ v = .int .i64 (i : Int) ∧ wr = w ∧ Hid (∀ j (h : j < l.length), j < i → ¬ l[j].toNat < 128))
  case atStart => exact ⟨0, by omega, rfl, rfl, Lib.hid (fun j h h2 => absurd h2 (Nat.not_lt_zero _))⟩
  case round =>
    obtain ⟨i, hk, rfl, rfl, hq⟩ := hrel
    have i0' : (0 : Int) ≤ (i : Int) := by omega
    by_cases hlt : (i : Int) < (l.length : Int)
    · obtain ⟨j, rfl⟩ : ∃ j, gk = j + 1 := ⟨gk - 1, by omega⟩
      have hil : i < l.length := by omega
      obtain ⟨ad, rfl, hc⟩ := Hr.out i hil
      have Hk := Lib.hid hk
      have Hfound := Lib.hid (fun h1 => Hsome.out i hil hq.out h1)
      have Hnext : Hid (¬ l[i].toNat < 128 → ∀ j (h : j < l.length), j < i + 1 → ¬ l[j].toNat < 128) := Lib.hid (fun h1 j h h2 => by
        by_cases e : j = i
        · subst e; exact h1
        · exact hq.out j h (by omega))
      have S := small_u8 l[i] wr
      have hx := l[i].toNat_lt
      clear hk hq
      generalize l[i].toNat = x at *
      go_wp2_with fail
      refine S.mono ?_
      rintro e w1 ⟨rfl, rfl⟩
      by_cases h128 : x < 128
      · rw [decide_eq_true h128]
        go_wp2
        go_ret
        exact ⟨by rw [Hfound.out h128]; rfl, rfl⟩
      · rw [decide_eq_false h128]
        go_wp2
        go_roundg j
        case measure => omega
        case rel => exact ⟨i + 1, by have := Hk.out; omega, rfl, rfl, Lib.hid (Hnext.out h128)⟩
    · have He := Lib.hid (Hend.out (fun j h => hq.out j h (by omega)))
      go_wp2
      go_ret
      exact ⟨by rw [He.out]; rfl, rfl⟩

def upto {α : Type} (f : Nat → α) (k : Nat) : List α := (List.range k).map f
theorem upto_succ {α : Type} (f : Nat → α) (k : Nat) : upto f (k + 1) = upto f k ++ [f k] := by simp [upto, List.range_succ]
theorem upto_length {α : Type} (f : Nat → α) (k : Nat) : (upto f k).length = k := by simp [upto]
def bwdF (l : List UInt8) (k : Nat) : Nat × UInt8 := (l.length - 1 - k, (l[l.length - 1 - k]?).getD 0)
def encNB (x : Nat × UInt8) : Array Value := #[.int .i64 (x.1 : Int), .int .u8 (x.2.toNat : Int)]

set_option maxRecDepth 100000 in
set_option maxHeartbeats 2000000 in
theorem bwd1_in (F : Fence) (n : Nat) (hF : F.fn 73) (hro : F.round = none) (hn : 1 ≤ n) (lp Bs cap : Nat) (A : Option Addr) (l : List UInt8) (hl : l.length ≤ 9223372036854775807) (s : Nat → Prop) (hsB : s Bs) (hsA : ∀ a, A = some a → s a.block) (J Jx : List (Nat × UInt8) → World → Prop)
    (hY : ∀ pre x W, J pre W → pre.length < l.length → YieldAt F (n - 1) Tryd.prog lp (encNB x) W fun e W' =>
      (e = .returned (.bool true) ∧ J (pre ++ [x]) W' ∧ KpS s W W') ∨ (e = .returned (.bool false) ∧ Jx (pre ++ [x]) W'))
    (W : World) (hBs : W.cell? ⟨Bs, 0, none⟩ = some (.slice A l.length cap)) (hc : Rd W (.slice A l.length cap) (bytesU l)) (h0 : J [] W) :
    CallsIn F n Tryd.prog 73 #[.func (.yield lp) #[] #[], .pointer (some ⟨Bs, 0, none⟩)] W fun e W' => (∃ v, e = .returned v) ∧
      ((∃ ys, ys = upto (bwdF l) l.length ∧ J ys W') ∨ (∃ pre, (∃ k, k ≤ l.length ∧ pre = upto (bwdF l) k) ∧ Jx pre W')) := by
  have n1 : (l.length : Int) ≤ 9223372036854775807 := by omega
  refine callsIn_of_wp Tryd.func73 rfl hF ?_ hro
  simp only [Tryd.ntmps73, List.size_toArray, List.length_cons, List.length_nil, Nat.reduceAdd, Nat.reduceSub, Array.replicate_succ, Array.replicate_zero, List.push_toArray, List.append_toArray, List.nil_append, List.cons_append]
  gi_wp2
  gi_loopw [3] (fun i wr => ∃ k : Nat, k ≤ l.length ∧ i = .int .i64 ((l.length : Int) - 1 - (k : Int)) ∧ J (upto (bwdF l) k) wr ∧ KpS s W wr)
    (fun i _ => (intOf i + 1).toNat)
  case atStart => exact ⟨0, Nat.zero_le _, congrArg (Value.int .i64) (by simp), h0, fun _ _ => rfl⟩
  case round =>
    obtain ⟨k, hk, rfl, hJs, hnx⟩ := hrel
    have hBx : wr.cell? ⟨Bs, 0, none⟩ = some (.slice A l.length cap) := (World.cell?_of_block (a := ⟨Bs, 0, none⟩) (hnx Bs hsB)).trans hBs
    by_cases hlt : k < l.length
    · obtain ⟨fn, tmps, assign, body, hy, hR⟩ := hY _ (bwdF l k) wr hJs (by rw [upto_length]; exact hlt)
      obtain ⟨i, hi⟩ : ∃ i : Nat, i = l.length - 1 - k := ⟨_, rfl⟩
      have hil : i < l.length := by omega
      have e1 : (l.length : Int) - 1 - (k : Int) = (i : Int) := by omega
      have i0 : (0 : Int) ≤ (i : Int) := by omega
      have i1 : (i : Int) < (l.length : Int) := by omega
      have hbf : bwdF l k = (i, l[i]) := by unfold bwdF; rw [← hi]; simp [hil]
      obtain ⟨ad, hA, hca⟩ := hc.at i hil
      subst hA
      have hcx : wr.cell? (ad.add i) = some (.int .u8 (l[i].toNat : Int)) := (World.cell?_of_block (by rw [add_block]; exact hnx _ (hsA _ rfl))).trans hca
      rw [hbf] at hy
      unfold encNB at hy
      dsimp only at hy
      rw [e1]
      have Hi := Lib.hid hi
      have He1 := Lib.hid e1
      clear hca hc hi e1 hbf
      gi_wp2
      refine hR.mono ?_
      rintro e W3 (⟨rfl, hJ3, hk3⟩ | ⟨rfl, hJx3⟩)
      · gi_wp2
        go_roundw
        case rel => exact ⟨k + 1, by omega, congrArg (Value.int .i64) (by have := He1.out; omega), by rw [upto_succ]; exact hJ3, hnx.t hk3⟩
        case measure => simp [intOf] <;> omega
      · gi_wp2
        refine bodyPost_ret (results_none rfl _ _ _) rfl ?_
        exact ⟨⟨_, rfl⟩, .inr ⟨_, ⟨k + 1, by omega, (upto_succ _ _).symm⟩, hJx3⟩⟩
    · obtain rfl : k = l.length := by omega
      have e1 : (l.length : Int) - 1 - (l.length : Int) = -1 := by omega
      rw [e1]
      gi_wp2
      go_end0
      exact ⟨⟨_, rfl⟩, .inl ⟨_, rfl, hJs⟩⟩

theorem bwd_any (A : Option Addr) (n cap : Nat) (w : World) : Calls Tryd.prog 69 #[.slice A n cap] w fun e w' => e = .returned (.func (.func 73) #[] #[.pointer (some ⟨w.heap.size, 0, none⟩)]) ∧ w' = w.alloc (.cells #[.slice A n cap] 39) := by
  go_enter Tryd.func69, Tryd.ntmps69
  go_wp2
  go_ret
  exact ⟨rfl, rfl⟩

theorem bwd_stops (F : Fence) (n : Nat) (hF : F.fn 73) (hro : F.round = none) (hn : 1 ≤ n) (Bs cap : Nat) (A : Option Addr) (l : List UInt8) (hl : l.length ≤ 9223372036854775807) (s : Nat → Prop) (hsB : s Bs) (hsA : ∀ a, A = some a → s a.block) (w : World) (hlt : ∀ k, s k → k < w.heap.size)
    (hBs : w.cell? ⟨Bs, 0, none⟩ = some (.slice A l.length cap)) (hc : Rd w (.slice A l.length cap) (bytesU l)) :
    SeqStopsK F n Tryd.prog 73 #[.pointer (some ⟨Bs, 0, none⟩)] encNB (KpS s) (fun ys => ys = upto (bwdF l) l.length) (fun pre => ∃ k, k ≤ l.length ∧ pre = upto (bwdF l) k) l.length w := fun lp J Jx W hW _ _ hY h0 =>
  bwd1_in F n hF hro hn lp Bs cap A l hl s hsB hsA J Jx hY W ((hW.cell (hlt _ hsB)).trans hBs) (hc.below hW) h0
end Go.Proofs.YtfppancidgamjaaDoor

/- The walks over Number and Bytes of package octet's reader. -/
namespace Go.Proofs.YtfppancidgamjaaDoor
set_option linter.unusedVariables false
set_option linter.unusedSimpArgs false
open Go.RowKit Go.Shelf

attribute [local go_sem] Oper.semAt_some

def valB (xs : List (Nat × UInt8)) : Nat := xs.foldl (fun n x => 128 * n + x.2.toNat % 128) 0
theorem valB_snoc (xs : List (Nat × UInt8)) (x : Nat × UInt8) : valB (xs ++ [x]) = 128 * valB xs + x.2.toNat % 128 := by unfold valB; rw [List.foldl_append]; rfl
theorem valB_lt (xs : List (Nat × UInt8)) : valB xs < 128 ^ xs.length := by
  have : ∀ ys : List (Nat × UInt8), valB ys.reverse < 128 ^ ys.length := by
    intro ys
    induction ys with
    | nil => decide
    | cons y ys ih => rw [List.reverse_cons, valB_snoc, List.length_cons, Nat.pow_succ]; omega
  have h := this xs.reverse
  rwa [List.reverse_reverse, List.length_reverse] at h
theorem valB_bwd (l : List UInt8) : ∀ k, k ≤ l.length → valB (upto (bwdF l) k) = lebV (l.drop (l.length - k))
  | 0, _ => by rw [Nat.sub_zero, List.drop_length]; rfl
  | k + 1, hk => by
    rw [upto_succ, valB_snoc, valB_bwd l k (by omega)]
    have hi : l.length - (k + 1) < l.length := by omega
    rw [List.drop_eq_getElem_cons hi, lebV, show l.length - (k + 1) + 1 = l.length - k by omega]
    have : (bwdF l k).2 = l[l.length - (k + 1)] := by unfold bwdF; rw [show l.length - 1 - k = l.length - (k + 1) by omega]; simp [hi]
    rw [this]; omega


set_option maxRecDepth 100000 in
set_option maxHeartbeats 3200000 in
theorem rnum_any (p : Nat) (s : OS) (vs : List (Value × List UInt8)) (hl : s.rest.length ≤ 9223372036854775807) (most : Int) (B : Nat) (R : HP) [Loc B R] (w : World) (hB : B ≤ w.heap.size) (hO : Own B (Rdr p s vs * R) w) :
    Calls Tryd.prog 56 #[.pointer (some ⟨p, 0, none⟩), .int .i64 most] w (Ret B w (.int .i64 (readNum s most).1) (Rdr p (readNum s most).2 vs * R)) := by
  have E := rerr_any p s vs B R w hO
  by_cases he : s.err = 0
  · obtain ⟨v, hV⟩ := hO.hex
    have hV := hV.assoc
    obtain ⟨A, c, rfl, hrd⟩ : ∃ A c, v = .slice A s.rest.length c ∧ Rd w v (bytesU s.rest) := by
      obtain ⟨F, hf, F1, F2, hd, h1, h2, ha, F3, F4, hd', h3, h4, hv, _⟩ := hV
      have := hv _ List.mem_cons_self
      have h2 := this.rd
      obtain ⟨A, c, e, _⟩ := this
      exact ⟨A, c, e, h2⟩
    have c0 : w.cell? ⟨p, 0, none⟩ = some (.slice A s.rest.length c) := hV.cell 0
    have X := ixbyte_any A c s.rest hl w hrd
    have Fl := Lib.hid (fun z => rfail_any p s vs B R w hB z hO)
    have Hok : ofail s = fun z => ⟨s.rest, z⟩ := by funext z; unfold ofail; rw [if_pos he]
    have n1 : (s.rest.length : Int) ≤ 9223372036854775807 := by omega
    rw [he] at E
    cases hen : endN s.rest with
    | none =>
      have hix : endI s.rest = -1 := by unfold endI; rw [hen]
      rw [hix] at X
      by_cases h6 : (6 : Int) ≤ (s.rest.length : Int)
      · have e2 : readNum s most = (0, ofail s 4) := by unfold readNum; rw [if_neg (by omega), hen]; simp only; rw [if_pos (by omega), Hok]
        rw [e2]
        clear hV hO e2 hix Hok hrd
        generalize s.rest.length = L at *
        refine (callsIn_wide (n := 5)).1 (callsIn_of_wp_marks Tryd.func56 rfl trivial (wpIn_wide.2 ?_) rfl)
        simp only [Tryd.ntmps56, List.size_toArray, List.length_cons, List.length_nil, Nat.reduceAdd, Nat.reduceSub, Array.replicate_succ, Array.replicate_zero, List.push_toArray, List.append_toArray, List.nil_append, List.cons_append]
        go_wp2_with fail
        refine E.mono ?_
        rintro e w1 ⟨rfl, rfl⟩
        go_wp2_with fail
        refine X.mono ?_
        rintro e w1 ⟨rfl, rfl⟩
        go_wp2_with fail
        refine (Fl.out 4).mono ?_
        rintro e w2 ⟨rfl, o2, b2⟩
        go_wp2
        exact ⟨_, results_tmp rfl _ _ _, rfl, o2, b2⟩
      · have e2 : readNum s most = (0, ofail s 2) := by unfold readNum; rw [if_neg (by omega), hen]; simp only; rw [if_neg (by omega), Hok]
        rw [e2]
        clear hV hO e2 hix Hok hrd
        generalize s.rest.length = L at *
        refine (callsIn_wide (n := 5)).1 (callsIn_of_wp_marks Tryd.func56 rfl trivial (wpIn_wide.2 ?_) rfl)
        simp only [Tryd.ntmps56, List.size_toArray, List.length_cons, List.length_nil, Nat.reduceAdd, Nat.reduceSub, Array.replicate_succ, Array.replicate_zero, List.push_toArray, List.append_toArray, List.nil_append, List.cons_append]
        go_wp2_with fail
        refine E.mono ?_
        rintro e w1 ⟨rfl, rfl⟩
        go_wp2_with fail
        refine X.mono ?_
        rintro e w1 ⟨rfl, rfl⟩
        go_wp2_with fail
        refine (Fl.out 2).mono ?_
        rintro e w2 ⟨rfl, o2, b2⟩
        go_wp2
        exact ⟨_, results_tmp rfl _ _ _, rfl, o2, b2⟩
    | some k =>
      have hix : endI s.rest = (k : Int) := by unfold endI; rw [hen]
      have hkl := endN_lt hen
      rw [hix] at X
      by_cases h6 : (6 : Int) ≤ (k : Int)
      · have e2 : readNum s most = (0, ofail s 4) := by unfold readNum; rw [if_neg (by omega), hen]; simp only; rw [if_pos (by omega), Hok]
        rw [e2]
        clear hV hO e2 hix Hok hrd
        generalize s.rest.length = L at *
        refine (callsIn_wide (n := 5)).1 (callsIn_of_wp_marks Tryd.func56 rfl trivial (wpIn_wide.2 ?_) rfl)
        simp only [Tryd.ntmps56, List.size_toArray, List.length_cons, List.length_nil, Nat.reduceAdd, Nat.reduceSub, Array.replicate_succ, Array.replicate_zero, List.push_toArray, List.append_toArray, List.nil_append, List.cons_append]
        go_wp2_with fail
        refine E.mono ?_
        rintro e w1 ⟨rfl, rfl⟩
        go_wp2_with fail
        refine X.mono ?_
        rintro e w1 ⟨rfl, rfl⟩
        go_wp2_with fail
        refine (Fl.out 4).mono ?_
        rintro e w2 ⟨rfl, o2, b2⟩
        go_wp2
        exact ⟨_, results_tmp rfl _ _ _, rfl, o2, b2⟩
      · have hk0 : (0 : Int) ≤ (k : Int) := by omega
        have hkl' : (k : Int) < (s.rest.length : Int) := by omega
        have e1 : (k : Int) + 1 = ((k + 1 : Nat) : Int) := by omega
        have hk1 : k + 1 ≤ s.rest.length := by omega
        have ht : otake s (k + 1) = (s.rest.take (k + 1), ⟨s.rest.drop (k + 1), 0⟩) := by unfold otake; rw [if_neg (by omega), if_neg (by omega)]
        have hlk : (s.rest.take (k + 1)).length = k + 1 := by rw [List.length_take]; omega
        have hgk : (s.rest.take (k + 1))[k]? = s.rest[k]? := by rw [List.getElem?_take, if_pos (by omega)]
        have hrn : readNum s most = if 0 < k ∧ s.rest[k]? = some 0 then (0, ⟨s.rest.drop (k + 1), 4⟩) else if most < lebV (s.rest.take (k + 1)) ∨ 1099511627775 < lebV (s.rest.take (k + 1)) then (0, ⟨s.rest.drop (k + 1), 3⟩) else ((lebV (s.rest.take (k + 1)) : Int), ⟨s.rest.drop (k + 1), 0⟩) := by
          unfold readNum; rw [if_neg (by omega), hen]; simp only; rw [if_neg (by omega)]
        rw [hrn, ← hgk]
        have o1 := hO.new hB 3 #[.int .i64 0]
        have b1 := (Below.refl B w).alloc hB (.cells #[.int .i64 0] 3)
        have T := rtake_any p s vs (k + 1) B (Bk w.heap.size 3 #[.int .i64 0] * R) (w.alloc (.cells #[.int .i64 0] 3)) (Nat.le_trans hB b1.size) (by omega) (o1.cast (sep_left_comm _ _ _))
        rw [ht, show (((k + 1 : Nat)) : Int) = (k : Int) + 1 from rfl] at T
        have Hk := Lib.hid (And.intro hlk hgk)
        clear hV hO hix Hok hrd o1 hlk hgk ht hrn hk1 e1
        generalize s.rest.take (k + 1) = l5 at *
        generalize s.rest.drop (k + 1) = r5 at *
        obtain ⟨res, hres⟩ : ∃ res : Int × OS, res = (if 0 < k ∧ l5[k]? = some 0 then (0, ⟨r5, 4⟩) else if most < lebV l5 ∨ 1099511627775 < lebV l5 then (0, ⟨r5, 3⟩) else ((lebV l5 : Int), ⟨r5, 0⟩)) := ⟨_, rfl⟩
        rw [← hres]
        have Hres := Lib.hid hres
        clear hres
        refine (callsIn_wide (n := 5)).1 (callsIn_of_wp_marks Tryd.func56 rfl trivial (wpIn_wide.2 ?_) rfl)
        simp only [Tryd.ntmps56, List.size_toArray, List.length_cons, List.length_nil, Nat.reduceAdd, Nat.reduceSub, Array.replicate_succ, Array.replicate_zero, List.push_toArray, List.append_toArray, List.nil_append, List.cons_append]
        go_wp2_with fail
        refine E.mono ?_
        rintro e w1 ⟨rfl, rfl⟩
        go_wp2_with fail
        refine X.mono ?_
        rintro e w1 ⟨rfl, rfl⟩
        go_wp2_with fail
        refine T.mono ?_
        rintro e w3 ⟨x, rfl, o3, b3⟩
        have hb3 := b1.trans b3
        have B3 : B ≤ w3.heap.size := Nat.le_trans hB hb3.size
        have hX0 : w1.heap.size < w3.heap.size := Nat.lt_of_lt_of_le (by simp) b3.size
        generalize w1.heap.size = X0 at *
        obtain ⟨q, o3⟩ := o3.hex
        have hrd := (o3.assoc.right).rss (x := (x, l5)) (List.mem_cons_of_mem _ List.mem_cons_self)
        obtain ⟨Ax, cx, rfl⟩ : ∃ A c, x = .slice A l5.length c := by obtain ⟨A, c, h, _⟩ := hrd; exact ⟨A, c, by rw [← bytesU_length]; exact h⟩
        go_wp2_with fail
        refine (bwd_any Ax l5.length cx w3).mono ?_
        rintro e w4 ⟨rfl, hw4⟩
        have o4 : Own B ((Bk w3.heap.size 39 #[.slice Ax l5.length cx] * (RdrV q p ⟨r5, 0⟩ ((.slice Ax l5.length cx, l5) :: vs) * R)) * Bk X0 3 #[.int .i64 (valB [] : Int)]) w4 := by rw [hw4]; exact (o3.new B3 _ _).cast (by show (_ : HP) = _; ac_rfl)
        have hb4 : Below B w1 w4 := by rw [hw4]; exact hb3.alloc B3 _
        have hc4 : w4.cell? ⟨w3.heap.size, 0, none⟩ = some (.slice Ax l5.length cx) := o4.assoc.cell 0
        have hrd4 : Rd w4 (.slice Ax l5.length cx) (bytesU l5) := by rw [hw4]; exact hrd.below ((Below.refl _ _).alloc (Nat.le_refl _) _)
        have B4 : B ≤ w4.heap.size := by rw [hw4]; simp; omega
        generalize w3.heap.size = Y0 at *
        obtain ⟨sb, hsb, hAs, o5, hback⟩ := o4.fix
        have hsB : sb Y0 := by obtain ⟨F1, F2, _, h1, _, h, _⟩ := hAs; exact h1 _ h.1
        have hsA : ∀ a, Ax = some a → sb a.block := by
          obtain ⟨F1, F2, _, _, h2, _, G1, G2, _, g1, _, ⟨F3, F4, _, _, h4, _, h⟩, _⟩ := hAs
          intro a ha
          exact h2 _ (g1 _ (h4 _ ((h _ (List.mem_cons_of_mem _ List.mem_cons_self)).at_block (by intro e; simp only at e; have := Hk.out.1; rw [e] at this; simp at this) a ha)))
        clear o3 hw4 hrd o4 b3 hb3 b1 hAs
        go_wp2_with fail
        refine wp_rangeFunc_hp (lb := #[.pointer (some ⟨Y0, 0, none⟩)]) rfl (enters_of Tryd.func73 (by kernel_rfl) rfl) sb hsb
          (bwd_stops Fence.wide 4 trivial rfl (by omega) Y0 cx Ax l5 (by have := Hk.out.1; omega) sb hsB hsA w4 hsb hc4 hrd4) (fun _ => rfl) B (fun pre => Bk X0 3 #[.int .i64 (valB pre : Int)]) (fun _ _ => Fact False) B4 o5
          (fun x t => t.setIfInBounds 9 (.int .u8 (x.2.toNat : Int))) (fun x => _) (fun x => rfl) ?assign ?body ?done ?stop
        case assign =>
          intro l x W K hK
          simp only [encNB, List.zip_toArray, List.zip_cons_cons, List.zip_nil_right, List.zip_nil_left, List.foldl_toArray', List.foldl_toArray, List.foldl_cons, List.foldl_nil, List.setIfInBounds_toArray, List.set_cons_zero, List.set_cons_succ] at hK ⊢
          gi_wp2
          exact hK
        case body =>
          intro l pre x W R' _ hBW hbW hO hN
          simp only [encNB, List.zip_toArray, List.zip_cons_cons, List.zip_nil_right, List.zip_nil_left, List.foldl_toArray', List.foldl_toArray, List.foldl_cons, List.foldl_nil, List.setIfInBounds_toArray, List.set_cons_zero, List.set_cons_succ] 
          have cX : W.cell? ⟨X0, 0, none⟩ = some (.int .i64 (valB pre : Int)) := hO.cell 0
          have zX := hO.unfrozen 0
          have hv : valB pre < 36028797018963968 := Nat.lt_of_lt_of_le (valB_lt pre) (Nat.le_trans (Nat.pow_le_pow_right (by omega) (show pre.length ≤ 5 by have := Hk.out.1; omega)) (by decide))
          have e1 := u8_and127 x.2
          have e2 := i64_or_shl7 (valB pre) (x.2.toNat % 128) hv (by omega)
          have sX := hO.set hBW 0 (.int .i64 (valB (pre ++ [x]) : Int))
          have bX := hO.below_set 0 (.int .i64 (valB (pre ++ [x]) : Int))
          rw [valB_snoc] at sX bX
          have hx := x.2.toNat_lt
          have Hsn := Lib.hid (valB_snoc pre x)
          clear hO
          obtain ⟨r, hr⟩ : ∃ r : Nat, r = x.2.toNat % 128 := ⟨_, rfl⟩
          obtain ⟨z, hz⟩ : ∃ z : Nat, z = 128 * valB pre + r := ⟨_, rfl⟩
          rw [← hr] at e1 e2 sX bX
          rw [← hz] at e2 sX bX
          have r1 : (r : Int) < 256 := by omega
          have Hz := Lib.hid (And.intro hr hz)
          clear hr hz
          generalize valB pre = m at *
          generalize x.2.toNat = xc at *
          have m1 : (m : Int) < 36028797018963968 := by omega
          have m0 : (0 : Int) ≤ (m : Int) := by omega
          gi_wp2
          refine ⟨?_, bX⟩
          show Own B (Bk X0 _ #[.int .i64 (valB (pre ++ [x]) : Int)] * R') _
          rw [Hsn.out, ← Hz.out.1, ← Hz.out.2]
          exact sX
        case done =>
          intro D xs W hS hBW hbW hO
          subst hS
          have hO2 := hback W _ (Dk D) hbW hO
          have hv : valB (upto (bwdF l5) l5.length) = lebV l5 := by rw [valB_bwd l5 _ (Nat.le_refl _), Nat.sub_self]; rfl
          simp only [hv] at hO2
          have cX : W.cell? ⟨X0, 0, none⟩ = some (.int .i64 (lebV l5 : Int)) := hO2.cell 0
          have oR : Own B (Rdr p ⟨r5, 0⟩ ((.slice Ax l5.length cx, l5) :: vs) * (Dk D * R)) W := Own.to_hex q (Own.right (A := Bk Y0 39 #[.slice Ax l5.length cx]) (hO2.right.cast (by ac_rfl)))
          have hrdW := oR.rdr_view (x := (.slice Ax l5.length cx, l5)) List.mem_cons_self
          have hb5 : Below B w1 W := hb4.trans hbW
          have oD : Own B (Dk D * (Rdr p ⟨r5, 0⟩ vs * R)) W := (oR.rdr_less (fun x hx => List.mem_cons_of_mem _ hx)).cast (sep_left_comm _ _ _)
          have Fw := Lib.hid (fun z => rfail_any p ⟨r5, 0⟩ vs B (Dk D * R) W hBW z (oD.cast (sep_left_comm _ _ _)))
          have Hdone := Lib.hid (And.intro hb5 oD)
          have hkl5 : k < l5.length := by have := Hk.out.1; omega
          clear hO2 oR hO hv hback hsA hsB hb5 oD hbW o5 hb4 hrd4 hc4 hsb T X E Fl c0
          by_cases hk1 : 0 < k
          · obtain ⟨ad, rfl, hc⟩ := hrdW.at k hkl5
            have hk1' : (0 : Int) < (k : Int) := by omega
            have hkl6 : (k : Int) < (l5.length : Int) := by omega
            by_cases hz : l5[k]? = some 0
            · have hr := Lib.hid (show res = (0, ⟨r5, 4⟩) by rw [Hres.out, if_pos ⟨hk1, hz⟩])
              clear Hres Hk
              have hz2 : l5[k].toNat = 0 := by rw [List.getElem?_eq_getElem hkl5] at hz; rw [Option.some.inj hz]; rfl
              simp only [hz2] at hc
              clear hz hz2
              generalize l5.length = L at *
              generalize lebV l5 = nv at *
              go_wp2_with fail
              refine (Fw.out 4).mono ?_
              rintro e w5 ⟨rfl, o6, b6⟩
              go_wp2
              refine ret_hp (Nat.le_trans hBW b6.size) rfl (o6.cast (sep_left_comm _ _ _)) (fun W' _ => results_tmp rfl _ _ _) (fun W' o7 b7 => ⟨by rw [hr.out]; rfl, by rw [hr.out]; exact o7, (Hdone.out.1.trans b6).trans b7⟩)
            · have Hres := Lib.hid (Hres.out.trans (if_neg (fun h => hz h.2)))
              clear Hk
              have hz2 : ¬ l5[k].toNat = 0 := by
                intro e
                apply hz
                rw [List.getElem?_eq_getElem hkl5]
                congr 1
                apply UInt8.toNat.inj
                rw [e]; rfl
              have hz3 : ((l5[k].toNat : Int) == 0) = false := by
                rw [beq_eq_false_iff_ne]
                omega
              clear hz
              generalize l5[k].toNat = bv at *
              have hz4 : ¬ (bv : Int) = 0 := by omega
              generalize lebV l5 = nv at *
              generalize l5.length = L at *
              by_cases hm : most < (nv : Int)
              · have hr := Lib.hid (show res = (0, ⟨r5, 3⟩) by rw [Hres.out, if_pos (.inl hm)])
                go_wp2_with fail
                refine (Fw.out 3).mono ?_
                rintro e w5 ⟨rfl, o6, b6⟩
                go_wp2
                refine ret_hp (Nat.le_trans hBW b6.size) rfl (o6.cast (sep_left_comm _ _ _)) (fun W' _ => results_tmp rfl _ _ _) (fun W' o7 b7 => ⟨by rw [hr.out]; rfl, by rw [hr.out]; exact o7, (Hdone.out.1.trans b6).trans b7⟩)
              · by_cases hm2 : (1099511627775 : Int) < (nv : Int)
                · have hr := Lib.hid (show res = (0, ⟨r5, 3⟩) by rw [Hres.out, if_pos (.inr (by omega))])
                  go_wp2_with fail
                  refine (Fw.out 3).mono ?_
                  rintro e w5 ⟨rfl, o6, b6⟩
                  go_wp2
                  refine ret_hp (Nat.le_trans hBW b6.size) rfl (o6.cast (sep_left_comm _ _ _)) (fun W' _ => results_tmp rfl _ _ _) (fun W' o7 b7 => ⟨by rw [hr.out]; rfl, by rw [hr.out]; exact o7, (Hdone.out.1.trans b6).trans b7⟩)
                · have hr := Lib.hid (show res = ((nv : Int), ⟨r5, 0⟩) by rw [Hres.out, if_neg (by omega)])
                  go_wp2
                  refine ret_hp hBW rfl Hdone.out.2 (fun W' _ => results_tmp rfl _ _ _) (fun W' o7 b7 => ⟨by rw [hr.out]; rfl, by rw [hr.out]; exact o7, Hdone.out.1.trans b7⟩)
          · obtain rfl : k = 0 := by omega
            have Hres := Lib.hid (Hres.out.trans (if_neg (fun h => hk1 h.1)))
            clear Hk
            generalize lebV l5 = nv at *
            generalize l5.length = L at *
            by_cases hm : most < (nv : Int)
            · have hr := Lib.hid (show res = (0, ⟨r5, 3⟩) by rw [Hres.out, if_pos (.inl hm)])
              go_wp2_with fail
              refine (Fw.out 3).mono ?_
              rintro e w5 ⟨rfl, o6, b6⟩
              go_wp2
              refine ret_hp (Nat.le_trans hBW b6.size) rfl (o6.cast (sep_left_comm _ _ _)) (fun W' _ => results_tmp rfl _ _ _) (fun W' o7 b7 => ⟨by rw [hr.out]; rfl, by rw [hr.out]; exact o7, (Hdone.out.1.trans b6).trans b7⟩)
            · by_cases hm2 : (1099511627775 : Int) < (nv : Int)
              · have hr := Lib.hid (show res = (0, ⟨r5, 3⟩) by rw [Hres.out, if_pos (.inr (by omega))])
                go_wp2_with fail
                refine (Fw.out 3).mono ?_
                rintro e w5 ⟨rfl, o6, b6⟩
                go_wp2
                refine ret_hp (Nat.le_trans hBW b6.size) rfl (o6.cast (sep_left_comm _ _ _)) (fun W' _ => results_tmp rfl _ _ _) (fun W' o7 b7 => ⟨by rw [hr.out]; rfl, by rw [hr.out]; exact o7, (Hdone.out.1.trans b6).trans b7⟩)
              · have hr := Lib.hid (show res = ((nv : Int), ⟨r5, 0⟩) by rw [Hres.out, if_neg (by omega)])
                go_wp2
                refine ret_hp hBW rfl Hdone.out.2 (fun W' _ => results_tmp rfl _ _ _) (fun W' o7 b7 => ⟨by rw [hr.out]; rfl, by rw [hr.out]; exact o7, Hdone.out.1.trans b7⟩)
        case stop =>
          intro D c pre W _ _ _ hO
          exact hO.fact_out.elim
  · have e2 := readNum_err he most
    have he' : (s.err == 0) = false := by simpa using he
    rw [e2]
    clear e2
    generalize s.err = q at E he he'
    refine (callsIn_wide (n := 5)).1 (callsIn_of_wp_marks Tryd.func56 rfl trivial (wpIn_wide.2 ?_) rfl)
    simp only [Tryd.ntmps56, List.size_toArray, List.length_cons, List.length_nil, Nat.reduceAdd, Nat.reduceSub, Array.replicate_succ, Array.replicate_zero, List.push_toArray, List.append_toArray, List.nil_append, List.cons_append]
    go_wp2_with fail
    refine E.mono ?_
    rintro e w1 ⟨rfl, rfl⟩
    go_wp2
    exact ⟨_, results_tmp rfl _ _ _, rfl, hO, Below.refl _ _⟩
end Go.Proofs.YtfppancidgamjaaDoor

/- The walks over Bytes of package octet's reader, and over the reference's numbers and bytes. -/
namespace Go.Proofs.YtfppancidgamjaaDoor
set_option linter.unusedVariables false
set_option linter.unusedSimpArgs false
open Go.RowKit

set_option maxRecDepth 100000 in
set_option maxHeartbeats 1600000 in
theorem rbytes_any (p : Nat) (s : OS) (vs : List (Value × List UInt8)) (hl : s.rest.length ≤ 9223372036854775807) (most : Int) (hm : 0 ≤ most) (B : Nat) (R : HP) [Loc B R] (w : World) (hB : B ≤ w.heap.size) (hO : Own B (Rdr p s vs * R) w) :
    Calls Tryd.prog 58 #[.pointer (some ⟨p, 0, none⟩), .int .i64 most] w fun e w' => ∃ x, Ret B w x (Rdr p (readBytes s most).2 ((x, (readBytes s most).1) :: vs) * R) e w' := by
  have N := rnum_any p s vs hl most B R w hB hO
  have hr := readNum_range s most hm
  obtain ⟨n, hn⟩ : ∃ n : Nat, (readNum s most).1 = (n : Int) := ⟨(readNum s most).1.toNat, by omega⟩
  have hn2 : n ≤ 9223372036854775807 := by omega
  have T := Lib.hid (fun w1 hB o => rtake_any p (readNum s most).2 vs n B R w1 hB hn2 o)
  have e2 : readBytes s most = otake (readNum s most).2 n := by unfold readBytes; rw [hn, Int.toNat_natCast]
  rw [hn] at N
  rw [e2]
  clear hO hn e2 hr
  go_enter Tryd.func58, Tryd.ntmps58
  go_wp2_with fail
  refine N.mono ?_
  rintro e w1 ⟨rfl, o1, b1⟩
  go_wp2_with fail
  refine (T.out w1 (Nat.le_trans hB b1.size) o1).mono ?_
  rintro e w2 ⟨x, rfl, o2, b2⟩
  go_wp2
  go_ret
  exact ⟨x, rfl, o2, b1.trans b2⟩
end Go.Proofs.YtfppancidgamjaaDoor

/- The walks over told, given and same of the laws on entries. -/
namespace Go.Proofs.YtfppancidgamjaaDoor
set_option linter.unusedVariables false
set_option linter.unusedSimpArgs false
open Go.RowKit

theorem infoEnR : (Tryd.prog.info? 63).map (fun i => (i.zero, i.size, i.bytes)) = some (some (.agg #[.string ByteArray.empty, .int .i64 0, .int .i64 0, .int .i64 0, .string ByteArray.empty, .int .i64 0, .int .i64 0]), 7, 72) := by kernel_rfl

set_option maxRecDepth 100000 in
set_option maxHeartbeats 3200000 in
theorem told_any (A : Option Addr) (c : Nat) (l : List (Fi × Value)) (hl : l.length ≤ 4294967296) (hs : dataLen (l.map (·.1)) ≤ 4294967296) (w : World) (hr : RdF w A l) :
    Calls Tryd.prog 15 #[.slice A l.length c] w (RetA 7 enL w (ents (l.map (·.1)))) := by
  obtain ⟨i0, hi, hz0, hz1, hz2⟩ := info_parts infoEnR
  have Hi0 := Lib.hid (And.intro hi (And.intro hz0 (And.intro hz1 hz2)))
  have hO := (Own.start w.heap.size w).rw_nil 63 7
  have hb := Below.refl w.heap.size w
  have Hr := Lib.hid (fun w1 (b : Below w.heap.size w w1) => hr.below b)
  have Hd := Lib.hid (fun i => dataLen_take (l.map (·.1)) i)
  have Hs := Lib.hid hs
  have n1 : (l.length : Int) ≤ 4294967296 := by omega
  clear hr hi hz0 hz1 hz2 hs
  go_enter Tryd.func15, Tryd.ntmps15
  go_wp2
  go_loopg [3, 4, 9] l.length (fun k v a u wr => ∃ (i : Nat) (A' : Option Addr) (c' : Nat), k + i = l.length ∧ u = .int .i64 i ∧ a = .int .i64 (dataLen ((l.take i).map (·.1)) : Int) ∧ v = .slice A' i c' ∧ Below w.heap.size w wr ∧ Own w.heap.size (Rw 63 7 (.slice A' i c') i (flat enL (ents ((l.take i).map (·.1)))) * Emp) wr)
  case atStart => exact ⟨0, none, 0, by omega, rfl, rfl, rfl, hb, hO⟩
  case round =>
    clear hb hO
    obtain ⟨i, A', c', hk, rfl, rfl, rfl, hb, ho⟩ := hrel
    by_cases hlt : (i : Int) < (l.length : Int)
    · obtain ⟨j, rfl⟩ : ∃ j, gk = j + 1 := ⟨gk - 1, by omega⟩
      have hil : i < l.length := by omega
      have i0' : (0 : Int) ≤ (i : Int) := by omega
      obtain ⟨b, off, rfl, q, d⟩ := (Hr.out _ hb).1 i hil
      obtain ⟨Ad, cd, hdv⟩ := (Hr.out _ hb).get i hil
      have Hk := Lib.hid hk
      have htk : (l.take (i + 1)).map (·.1) = (l.take i).map (·.1) ++ [l[i].1] := by rw [List.take_succ_eq_append_getElem hil, List.map_append]; rfl
      have hsn : ents ((l.take (i + 1)).map (·.1)) = ents ((l.take i).map (·.1)) ++ [⟨l[i].1.path, l[i].1.kind, l[i].1.mode, l[i].1.time, l[i].1.tgt, (dataLen ((l.take i).map (·.1)) : Int), l[i].1.data.length⟩] := by
        rw [htk]; unfold ents; rw [entsFrom_snoc, Int.zero_add]
      have hdl : dataLen ((l.take (i + 1)).map (·.1)) = dataLen ((l.take i).map (·.1)) + l[i].1.data.length := by rw [htk, dataLen_snoc]
      have hle := Hd.out (i + 1)
      rw [← List.map_take, hdl] at hle
      have hle := Nat.le_trans hle Hs.out
      generalize dataLen ((l.take i).map (·.1)) = D at *
      have Hsn := Lib.hid hsn
      have Hdl := Lib.hid hdl
      clear htk hsn hdl hk
      generalize ents ((l.take i).map (·.1)) = E at *
      generalize l[i] = x at *
      obtain ⟨⟨path, kind, mode, time, data, tgt⟩, dv⟩ := x
      simp only at hdv hle Hsn Hdl
      subst hdv
      generalize data.length = dn at *
      have d0 := d 0 _ rfl
      have d1 := d 1 _ rfl
      have d2 := d 2 _ rfl
      have d3 := d 3 _ rfl
      have d4 := d 4 _ rfl
      have d5 := d 5 _ rfl
      simp only [Nat.add_zero] at d0 d1 d2 d3 d4 d5
      clear d
      have D0 : (D : Int) ≤ 4294967296 := by omega
      have D1 : (dn : Int) ≤ 4294967296 := by omega
      have o1 := (ho.new hb.size 41 #[.string (str path), .int .i64 kind, .int .i64 mode, .int .i64 time, .slice Ad dn cd, .string (str tgt)]).cast (sep_left_comm _ _ _)
      have hb1 := hb.alloc hb.size (.cells #[.string (str path), .int .i64 kind, .int .i64 mode, .int .i64 time, .slice Ad dn cd, .string (str tgt)] 41)
      obtain ⟨g2, cap2, w2, hrun, o2, b2⟩ := row_append (P := Tryd.prog) hb1.size Tryd.underlying33 Hi0.out.1 Hi0.out.2.1 Hi0.out.2.2.1 Hi0.out.2.2.2 rfl (by omega) o1 #[.string (str path), .int .i64 kind, .int .i64 mode, .int .i64 time, .string (str tgt), .int .i64 D, .int .i64 dn] rfl
        (by intro u hu; simp at hu; rcases hu with rfl | rfl | rfl | rfl | rfl | rfl | rfl <;> rfl) (by omega) (by omega)
      rw [World.size_alloc] at hrun
      have Hrun := Lib.hid hrun
      have hb2 := hb1.trans b2
      have k4 : w2.cell? ⟨wr.heap.size, 4, none⟩ = some (.slice Ad dn cd) := (o2.cast (sep_left_comm _ _ _)).cell 4
      have o3 := (o2.cast (sep_left_comm _ _ _)).drop
      clear hrun o1 hb1 hb ho b2 o2
      go_wp2_with (at_builtin; refine wpList_append_at rfl (.tmp 13) (.tmp 29) 33 rfl rfl rfl Hrun.out ?_)
      go_roundg j
      case measure => omega
      case rel => exact ⟨i + 1, some ⟨g2, 0, none⟩, cap2, by have := Hk.out; omega, rfl, congrArg (Value.int .i64) (by rw [Hdl.out]; omega), rfl, hb2, by rw [Hsn.out, flat_snoc]; exact o3⟩
    · obtain rfl : i = l.length := by omega
      rw [List.take_length] at ho
      go_wp2
      go_ret
      exact RetA.mk rfl (by unfold ents; rw [entsFrom_length]; simp) ho.cap (ho.rdA enL_len (by unfold ents; rw [entsFrom_length]; simp)) hb

set_option maxRecDepth 100000 in
set_option maxHeartbeats 3200000 in
theorem given_any (A : Option Addr) (c : Nat) (l : List En) (hl : l.length ≤ 4294967296) (w : World) (hr : RdA 7 enL w A l) :
    Calls Tryd.prog 25 #[.slice A l.length c] w (RetA 7 enL w l) := by
  obtain ⟨i0, hi, hz0, hz1, hz2⟩ := info_parts infoEnR
  have Hi0 := Lib.hid (And.intro hi (And.intro hz0 (And.intro hz1 hz2)))
  have hO := (Own.start w.heap.size w).rw_nil 63 7
  have hb := Below.refl w.heap.size w
  have Hr := Lib.hid (fun w1 (b : Below w.heap.size w w1) => hr.below b)
  have n1 : (l.length : Int) ≤ 4294967296 := by omega
  clear hr hi hz0 hz1 hz2
  go_enter Tryd.func25, Tryd.ntmps25
  go_wp2
  go_loopg [3, 8] l.length (fun k v u wr => ∃ (i : Nat) (A' : Option Addr) (c' : Nat), k + i = l.length ∧ u = .int .i64 i ∧ v = .slice A' i c' ∧ Below w.heap.size w wr ∧ Own w.heap.size (Rw 63 7 (.slice A' i c') i (flat enL (l.take i)) * Emp) wr)
  case atStart => exact ⟨0, none, 0, by omega, rfl, rfl, hb, hO⟩
  case round =>
    clear hb hO
    obtain ⟨i, A', c', hk, rfl, rfl, hb, ho⟩ := hrel
    by_cases hlt : (i : Int) < (l.length : Int)
    · obtain ⟨j, rfl⟩ : ∃ j, gk = j + 1 := ⟨gk - 1, by omega⟩
      have hil : i < l.length := by omega
      have i0' : (0 : Int) ≤ (i : Int) := by omega
      obtain ⟨b, off, rfl, q, d⟩ := Hr.out _ hb i hil
      have Hk := Lib.hid hk
      have Hsn : Hid (l.take (i + 1) = l.take i ++ [l[i]]) := Lib.hid (List.take_succ_eq_append_getElem hil)
      clear hk
      generalize l.take i = E at *
      generalize l[i] = x at *
      obtain ⟨path, kind, mode, time, tgt, beg, size⟩ := x
      obtain ⟨d0, d1, d2, d3, d4, d5, d6⟩ := RdA.cells7 d
      simp only at d0 d1 d2 d3 d4 d5 d6 Hsn
      clear d
      have o1 := ho.alloc_keep hb.size (.cells #[.string (str path), .int .i64 kind, .int .i64 mode, .int .i64 time, .string (str tgt), .int .i64 beg, .int .i64 size] 30)
      have hb1 := hb.alloc hb.size (.cells #[.string (str path), .int .i64 kind, .int .i64 mode, .int .i64 time, .string (str tgt), .int .i64 beg, .int .i64 size] 30)
      obtain ⟨g2, cap2, w2, hrun, o2, b2⟩ := row_append (P := Tryd.prog) hb1.size Tryd.underlying33 Hi0.out.1 Hi0.out.2.1 Hi0.out.2.2.1 Hi0.out.2.2.2 rfl (by omega) o1 #[.string (str path), .int .i64 kind, .int .i64 mode, .int .i64 time, .string (str tgt), .int .i64 beg, .int .i64 size] rfl
        (by intro u hu; simp at hu; rcases hu with rfl | rfl | rfl | rfl | rfl | rfl | rfl <;> rfl) (by omega) (by omega)
      rw [World.size_alloc] at hrun
      have Hrun := Lib.hid hrun
      have hb2 := hb1.trans b2
      clear hrun o1 hb1 hb ho b2
      go_wp2_with (at_builtin; refine wpList_append_at rfl (.tmp 12) (.tmp 28) 33 rfl rfl rfl Hrun.out ?_)
      go_roundg j
      case measure => omega
      case rel => exact ⟨i + 1, some ⟨g2, 0, none⟩, cap2, by have := Hk.out; omega, rfl, rfl, hb2, by rw [Hsn.out, flat_snoc]; exact o2⟩
    · obtain rfl : i = l.length := by omega
      rw [List.take_length] at ho
      go_wp2
      go_ret
      exact RetA.mk rfl rfl ho.cap (ho.rdA enL_len (by simp)) hb


set_option maxRecDepth 100000 in
set_option maxHeartbeats 1600000 in
theorem same_any (A B : Option Addr) (ca cb : Nat) (a b : List En) (ha : a.length ≤ 4294967296) (hb' : b.length ≤ 4294967296) (w : World) (hra : RdA 7 enL w A a) (hrb : RdA 7 enL w B b) :
    Calls Tryd.prog 18 #[.slice A a.length ca, .slice B b.length cb] w fun e w' => e = .returned (.bool (decide (a = b))) ∧ Below w.heap.size w w' := by
  have G := Lib.hid (given_any A ca a ha w hra)
  have Hb := Lib.hid (fun w1 (h : Below w.heap.size w w1) => hrb.below h)
  have n1 : (a.length : Int) ≤ 4294967296 := by omega
  have n2 : (b.length : Int) ≤ 4294967296 := by omega
  have hb := Below.refl w.heap.size w
  clear hra hrb
  by_cases hlen : a.length = b.length
  · have hl1 : (a.length == b.length) = true := by simpa using hlen
    have hl2 : ((a.length : Int) == (b.length : Int)) = true := by rw [beq_iff_eq]; omega
    have hl3 : ((a.length : Int) != (b.length : Int)) = false := by simp [hlen]
    have Hyes : Hid ((∀ i (h : i < a.length) (h2 : i < b.length), a[i] = b[i]) → decide (a = b) = true) := Lib.hid (fun h => decide_eq_true (List.ext_getElem hlen (fun i h1 h2 => h i h1 h2)))
    have Hno : Hid (∀ i (h : i < a.length) (h2 : i < b.length), a[i] ≠ b[i] → decide (a = b) = false) := Lib.hid (fun i h h2 hne => decide_eq_false (fun e => by subst e; exact hne rfl))
    have Hlen := Lib.hid hlen
    clear hlen
    have hg := guardEnR
    go_enter Tryd.func18, Tryd.ntmps18
    go_wp2_with fail
    refine G.out.mono ?_
    rintro e wz ⟨A1, c1, rfl, k1, r1, b1⟩
    replace hb := hb.trans (b1.mono hb.size)
    have R1 := Lib.hid (fun w1 (h : Below wz.heap.size wz w1) => r1.below h)
    clear r1
    go_wp2
    go_loopg [16] a.length (fun k v wr => ∃ i : Nat, k + i = a.length ∧ v = .int .i64 i ∧ Below w.heap.size w wr ∧ Below wz.heap.size wz wr ∧ Hid (∀ j (h : j < a.length) (h2 : j < b.length), j < i → a[j] = b[j]))
    case atStart => exact ⟨0, by omega, rfl, hb, Below.refl _ _, Lib.hid (fun j h h2 h3 => absurd h3 (Nat.not_lt_zero _))⟩
    case round =>
      clear hb b1
      obtain ⟨i, hk, rfl, hb, hbz, hp⟩ := hrel
      by_cases hlt : (i : Int) < (a.length : Int)
      · obtain ⟨j, rfl⟩ : ∃ j, gk = j + 1 := ⟨gk - 1, by omega⟩
        have hil : i < a.length := by omega
        have hil2 : i < b.length := by have := Hlen.out; omega
        have i0' : (0 : Int) ≤ (i : Int) := by omega
        have i1' : (i : Int) < (b.length : Int) := by omega
        have Hk := Lib.hid hk
        clear hk
        obtain ⟨p1, o1, rfl, q1, d⟩ := R1.out _ hbz i hil
        obtain ⟨p2, o2, rfl, q2, d'⟩ := Hb.out _ hb i hil2
        have Hn := Lib.hid (Hno.out i hil hil2)
        have Hy : Hid (a[i] = b[i] → ∀ j (h : j < a.length) (h2 : j < b.length), j < i + 1 → a[j] = b[j]) := Lib.hid (fun h j hj hj2 hlt => by
          by_cases e : j = i
          · subst e; exact h
          · exact hp.out j hj hj2 (by omega))
        clear hp
        generalize a[i] = x at *
        generalize b[i] = y at *
        have hneq := fun W => neqEnR x y W
        obtain ⟨path, kind, mode, time, tgt, beg, size⟩ := x
        obtain ⟨path2, kind2, mode2, time2, tgt2, beg2, size2⟩ := y
        obtain ⟨d0, d1, d2, d3, d4, d5, d6⟩ := RdA.cells7 d
        obtain ⟨e0, e1, e2, e3, e4, e5, e6⟩ := RdA.cells7 d'
        simp only [enL] at d0 d1 d2 d3 d4 d5 d6 e0 e1 e2 e3 e4 e5 e6 hneq
        clear d d'
        cases hd : decide ((⟨path, kind, mode, time, tgt, beg, size⟩ : En) = ⟨path2, kind2, mode2, time2, tgt2, beg2, size2⟩) with
        | true =>
          rw [hd] at hneq
          have Hy2 := Lib.hid (Hy.out (of_decide_eq_true hd))
          clear hd Hy Hn
          go_wp2
          go_quiet (fail)
          go_wp2
          go_roundg j
          case measure => omega
          case rel => exact ⟨i + 1, by have := Hk.out; omega, rfl, below_drewN hb _, below_drewN hbz _, Hy2⟩
        | false =>
          rw [hd] at hneq
          have Hn2 := Lib.hid (Hn.out (of_decide_eq_false hd))
          clear hd Hy Hn
          go_wp2
          go_quiet (fail)
          go_wp2
          go_ret
          exact ⟨by rw [Hn2.out]; rfl, below_drewN hb _⟩
      · have Hy := Lib.hid (Hyes.out (fun j h h2 => hp.out j h h2 (by omega)))
        go_wp2
        go_ret
        exact ⟨by rw [Hy.out]; rfl, hb⟩
  · have hl1 : (a.length == b.length) = false := by simpa using hlen
    have hl2 : ((a.length : Int) == (b.length : Int)) = false := by rw [beq_eq_false_iff_ne]; omega
    have hl4 : ¬ (a.length : Int) = (b.length : Int) := by omega
    have Hn : Hid (decide (a = b) = false) := Lib.hid (decide_eq_false (fun e => hlen (by rw [e])))
    go_enter Tryd.func18, Tryd.ntmps18
    go_wp2_with fail
    refine G.out.mono ?_
    rintro e wz ⟨A1, c1, rfl, k1, r1, b1⟩
    replace hb := hb.trans (b1.mono hb.size)
    clear r1
    go_wp2
    go_ret
    exact ⟨by rw [Hn.out]; rfl, hb⟩
end Go.Proofs.YtfppancidgamjaaDoor

/- The walk over awake of the laws on entries. -/
namespace Go.Proofs.YtfppancidgamjaaDoor
set_option linter.unusedVariables false
set_option linter.unusedSimpArgs false
open Go.RowKit

def twoFiles : List Fi := [⟨[97], 1, 0, 0, [97, 98, 99], []⟩, ⟨[98], 1, 0, 0, [100, 101], []⟩]
def twoEnts : List En := [⟨[97], 1, 0, 0, [], 0, 3⟩, ⟨[98], 1, 0, 0, [], 3, 2⟩]
theorem two_why : whyE (ents twoFiles) = 0 := by decide +kernel
theorem two_of : ofE twoFiles = twoEnts := by unfold ofE; rw [if_pos two_why]; rfl
theorem two_total : totalE twoEnts = 5 := by decide +kernel
theorem two_fine : fineB twoEnts = true := by decide +kernel

theorem rd_block {w : World} {g : Nat} {arr : Array Value} {t : TypeId} {fr : Nat × Nat} (h : w.heap[g]? = some (.cells arr t fr)) (c : Nat) : Rd w (.slice (some ⟨g, 0, none⟩) arr.size c) arr.toList :=
  ⟨some ⟨g, 0, none⟩, c, by simp, fun _ => ⟨⟨g, 0, none⟩, rfl, fun j u hu => by rw [Addr.add_lit, Nat.zero_add, cell_of_row _ _ _ _ _ _ h]; simpa using hu⟩⟩
theorem rdA_block {α : Type} {k : Nat} {cs : α → List Value} (hk : ∀ a, (cs a).length = k) {w : World} {g : Nat} {arr : Array Value} {t : TypeId} {fr : Nat × Nat} (h : w.heap[g]? = some (.cells arr t fr)) (l : List α) (hl : arr.toList = flat cs l) : RdA k cs w (some ⟨g, 0, none⟩) l := by
  intro i hi
  refine ⟨g, 0, rfl, (Array.getElem?_eq_some_iff.1 h).1, fun j u hu => ?_⟩
  have := flat_get hk l i hi j u hu
  rw [← hl] at this
  rw [Nat.zero_add, cell_of_row _ _ _ _ _ _ h]
  simpa using this
def twoIn (g : Nat) : List (Fi × Value) := [(⟨[97], 1, 0, 0, [97, 98, 99], []⟩, .slice (some ⟨g, 0, none⟩) 3 3), (⟨[98], 1, 0, 0, [100, 101], []⟩, .slice (some ⟨g + 1, 0, none⟩) 2 2)]
theorem fiL_len (x : Fi × Value) : (fiL x).length = 6 := rfl
theorem two_rd {w : World} {g h : Nat} {t1 t2 t3 : TypeId} {f1 f2 f3 : Nat × Nat} (h1 : w.heap[g]? = some (.cells #[.int .u8 97, .int .u8 98, .int .u8 99] t1 f1)) (h2 : w.heap[g + 1]? = some (.cells #[.int .u8 100, .int .u8 101] t2 f2))
    (h3 : w.heap[h]? = some (.cells #[.string ⟨#[97]⟩, .int .i64 1, .int .i64 0, .int .i64 0, .slice (some ⟨g, 0, none⟩) 3 3, .string ⟨#[]⟩, .string ⟨#[98]⟩, .int .i64 1, .int .i64 0, .int .i64 0, .slice (some ⟨g + 1, 0, none⟩) 2 2, .string ⟨#[]⟩] t3 f3)) : RdF w (some ⟨h, 0, none⟩) (twoIn g) := by
  refine ⟨rdA_block fiL_len h3 _ rfl, fun x hx => ?_⟩
  rcases List.mem_cons.1 hx with rfl | hx
  · exact rd_block h1 3
  · rcases List.mem_singleton.1 hx with rfl
    exact rd_block h2 2
theorem two_files_ok : ∀ f ∈ twoFiles, f.ok := by
  intro f hf
  rcases List.mem_cons.1 hf with rfl | hf
  · exact ⟨by decide, ⟨by decide, by decide⟩, ⟨by decide, by decide⟩, ⟨by decide, by decide⟩, by decide⟩
  · rcases List.mem_singleton.1 hf with rfl
    exact ⟨by decide, ⟨by decide, by decide⟩, ⟨by decide, by decide⟩, ⟨by decide, by decide⟩, by decide⟩
theorem two_ok (g : Nat) : ∀ x ∈ twoIn g, x.1.ok := fun x hx => two_files_ok x.1 (show x.1 ∈ (twoIn g).map (·.1) from List.mem_map_of_mem hx)
theorem twoEnts_ok : ∀ e ∈ twoEnts, e.ok ∧ e.path.length ≤ 4294967280 := ents_ok (l := twoFiles) two_files_ok (by decide)

set_option maxRecDepth 100000 in
set_option maxHeartbeats 1600000 in
theorem awakeE_any (w : World) (h : Sh w) : Calls Tryd.prog 12 #[] w fun e w' => e = .returned (.bool true) ∧ Below w.heap.size w w' := by
  have Hh := Lib.hid (fun w1 (b : Below w.heap.size w w1) => sh_below h b)
  have kc := fun (w : World) (C : Array Value) (n c g : Nat) (hg : g = w.heap.size) => Joins.run_convert_bytes_const_at (P := Tryd.prog) w 39 5 C n c g hg Tryd.underlying39 Tryd.underlying5
  have O := Lib.hid (fun w1 h1 h2 => ofE_any (some ⟨w.heap.size + 1 + 1, 0, none⟩) 2 (twoIn w.heap.size) (show 2 ≤ 4294967296 by decide) (show dataLen twoFiles ≤ 4294967296 by decide) (two_ok _) w1 h1 h2)
  have e1 : (twoIn w.heap.size).map (·.1) = twoFiles := rfl
  rw [e1, two_of, two_why] at O
  have T := Lib.hid (fun A c w1 h1 h2 => total_any A c twoEnts (by decide) (fun e he => (twoEnts_ok e he).1) (fun e he => (twoEnts_ok e he).2) w1 h1 h2)
  have F := Lib.hid (fun A c w1 h1 h2 => fine_any A c twoEnts (by decide) (fun e he => (twoEnts_ok e he).1) (fun e he => (twoEnts_ok e he).2) w1 h1 h2)
  rw [two_total] at T
  rw [two_fine] at F
  clear h e1
  have hb := (((Below.refl w.heap.size w).alloc (Nat.le_refl _) (.cells #[.int .u8 97, .int .u8 98, .int .u8 99] 5 (3, 4))).alloc (by simp) (.cells #[.int .u8 100, .int .u8 101] 5 (2, 3))).alloc (by simp; omega) (.cells #[.string ⟨#[97]⟩, .int .i64 1, .int .i64 0, .int .i64 0, .slice (some ⟨w.heap.size, 0, none⟩) 3 3, .string ⟨#[]⟩, .string ⟨#[98]⟩, .int .i64 1, .int .i64 0, .int .i64 0, .slice (some ⟨w.heap.size + 1, 0, none⟩) 2 2, .string ⟨#[]⟩] 41)
  go_enter Tryd.func12, Tryd.ntmps12
  go_wp2_with fail
  refine (O.out _ (Hh.out _ hb) (two_rd (t1 := 5) (t2 := 5) (t3 := 41) (f1 := (3, 4)) (f2 := (2, 3)) (f3 := (0, 0)) ?_ ?_ ?_)).mono ?_
  · exact (heap_alloc_old _ _ (by simp; omega)).trans ((heap_alloc_old _ _ (by simp)).trans (heap_alloc_new _ _))
  · exact (heap_alloc_old _ _ (by simp)).trans (by rw [show w.heap.size + 1 = (w.alloc (.cells #[.int .u8 97, .int .u8 98, .int .u8 99] 5 (3, 4))).heap.size by simp]; exact heap_alloc_new _ _)
  · rw [show w.heap.size + 1 + 1 = ((w.alloc (.cells #[.int .u8 97, .int .u8 98, .int .u8 99] 5 (3, 4))).alloc (.cells #[.int .u8 100, .int .u8 101] 5 (2, 3))).heap.size by simp, heap_alloc_new]
  rintro e wz ⟨A1, c1, rfl, k1, r1, b⟩
  replace hb := hb.trans (b.mono hb.size)
  clear b
  obtain ⟨p, o, rfl, q, d⟩ := r1 1 (by decide)
  have d5 : wz.cell? ⟨p, o + 1 * 7 + 5, none⟩ = some (.int .i64 3) := d 5 _ rfl
  have d6 : wz.cell? ⟨p, o + 1 * 7 + 6, none⟩ = some (.int .i64 2) := d 6 _ rfl
  simp only [Nat.one_mul, Nat.add_assoc, Nat.reduceAdd] at d5 d6
  have R1 := Lib.hid r1
  clear r1 d
  go_wp2_with fail
  refine (T.out _ _ _ (Hh.out _ hb) R1.out).mono ?_
  rintro e w2 ⟨rfl, b⟩
  have R2 := Lib.hid (R1.out.below b)
  replace hb := hb.trans (b.mono hb.size)
  clear b
  go_wp2_with fail
  refine (F.out _ _ _ (Hh.out _ hb) R2.out).mono ?_
  rintro e wz ⟨rfl, b⟩
  replace hb := hb.trans (b.mono hb.size)
  clear b
  go_wp2
  go_ret
  exact ⟨rfl, hb⟩
end Go.Proofs.YtfppancidgamjaaDoor

/- The walks over the laws EntryFirsts, EntryOf and EntryWithins. -/
namespace Go.Proofs.YtfppancidgamjaaDoor
set_option linter.unusedVariables false
set_option linter.unusedSimpArgs false
open Go.RowKit

theorem RdA.take {α : Type} {k : Nat} {cs : α → List Value} {w : World} {A : Option Addr} {l : List α} (h : RdA k cs w A l) (n : Nat) : RdA k cs w A (l.take n) := by
  intro i hi
  have h1 : i < l.length := by rw [List.length_take] at hi; omega
  obtain ⟨b, off, ha, hlt, hc⟩ := h i h1
  exact ⟨b, off, ha, hlt, fun j u hu => hc j u (by rw [List.getElem_take] at hu; exact hu)⟩
theorem RdF.take {w : World} {A : Option Addr} {l : List (Fi × Value)} (h : RdF w A l) (n : Nat) : RdF w A (l.take n) := ⟨h.1.take n, fun x hx => h.2 x (List.mem_of_mem_take hx)⟩
theorem entsFrom_take : ∀ (l : List Fi) (a : Int) (n : Nat), entsFrom a (l.take n) = (entsFrom a l).take n
  | [], _, _ => by simp [entsFrom]
  | f :: l, a, 0 => by simp [entsFrom]
  | f :: l, a, n + 1 => by
    simp only [List.take_succ_cons, entsFrom]
    rw [entsFrom_take l]
theorem ents_take (l : List Fi) (n : Nat) : ents (l.take n) = (ents l).take n := entsFrom_take l 0 n
theorem begB_ents : ∀ (l : List Fi) (a : Int), begB a (entsFrom a l) = true
  | [], _ => rfl
  | f :: l, a => by
    unfold entsFrom begB
    rw [Bool.and_eq_true]
    exact ⟨by simp, begB_ents l _⟩
theorem whyE_of {l : List En} (h1 : sortedB (l.map (·.path)) = true) (h2 : l.length ≤ 1024) (h3 : sumC l ≤ 4194304) (h4 : ∀ e ∈ l, plainP e) : whyE l = 0 := by
  have ha : (l.map (·.path)).all okPath = true := by unfold sortedB at h1; exact (Bool.and_eq_true _ _ ▸ h1).1
  have hs : l.all (fun e => decide (e.size ≤ 1048576)) = true := by
    rw [List.all_eq_true]; intro e he; obtain ⟨_, _, _, _, _, h6, _⟩ := h4 e he; exact decide_eq_true h6
  have hp : l.all plainB = true := by rw [List.all_eq_true]; intro e he; exact decide_eq_true (h4 e he)
  rw [whyE_eq, ha, h1, hs, hp, if_neg (by simp), if_neg (by simp), if_neg (by simp; omega), if_neg (by simp)]
theorem sumM_take (l : List En) (n : Nat) : sumM (l.take n) ≤ sumM l := by
  have : sumM l = sumM (l.take n) + sumM (l.drop n) := by
    conv => lhs; rw [← List.take_append_drop n l]
    unfold sumM
    rw [List.map_append, List.sum_append]
  have := sumM_nonneg (l.drop n)
  omega
theorem whyE_take {l : List En} (h : whyE l = 0) (n : Nat) : whyE (l.take n) = 0 := by
  obtain ⟨h1, h2, h3, h4⟩ := whyE_zero h
  refine whyE_of ?_ (by rw [List.length_take]; omega) ?_ (fun e he => h4 e (List.mem_of_mem_take he))
  · rw [sortedB_iff] at h1 ⊢
    exact sorted_sub h1 ((List.take_sublist n l).map _)
  · rw [sumC_min] at h3 ⊢
    have := sumM_take l n
    omega
theorem fineB_ents {l : List Fi} (h : whyE (ents l) = 0) : fineB (ents l) = true := by
  unfold fineB ents
  unfold ents at h
  rw [h, begB_ents]; rfl

set_option maxRecDepth 100000 in
set_option maxHeartbeats 3200000 in
theorem firsts_walk (A : Option Addr) (c : Nat) (l : List (Fi × Value)) (hl : l.length ≤ c) (hc : c ≤ 9223372036854775807) (hw : ∀ x ∈ l, x.1.wide) (n : Int) (hn : okI n) (w : World) (h : Sh w) (hr : RdF w A l) :
    Calls Tryd.prog 3 #[.slice A l.length c, .int .i64 n] w fun e w' => e = .returned (.bool true) ∧ Below w.heap.size w w' := by
  have hb := Below.refl w.heap.size w
  have Hh := Lib.hid (fun w1 (b : Below w.heap.size w w1) => sh_below h b)
  have Aw := Lib.hid (fun w1 h1 => awakeE_any w1 h1)
  have Fe := Lib.hid (few_any A c l (by omega) hw w hr)
  have Hr := Lib.hid (fun w1 (b : Below w.heap.size w w1) => hr.below b)
  obtain ⟨z0, z1⟩ := hn
  by_cases hf : fewP (l.map (·.1))
  · rw [decide_eq_true hf] at Fe
    obtain ⟨f1, f2, f3⟩ := few_ok hw hf
    by_cases hn0 : n < 0
    · clear h hr hf f1 f2 f3
      go_enter Tryd.func3, Tryd.ntmps3
      go_wp2_with fail
      refine (Fe.out).mono ?_
      rintro e wz ⟨rfl, rfl⟩
      go_wp2_with fail
      refine (Aw.out _ (Hh.out _ hb)).mono ?_
      rintro e wz ⟨rfl, b⟩
      replace hb := hb.trans (b.mono hb.size)
      clear b
      go_wp2
      go_ret
      exact ⟨rfl, hb⟩
    obtain ⟨m, rfl⟩ : ∃ m : Nat, n = m := ⟨n.toNat, by omega⟩
    have n1 : (l.length : Int) ≤ 12 := by omega
    have n2 : (l.length : Int) ≤ (c : Int) := by omega
    have n3 : (c : Int) ≤ 9223372036854775807 := by omega
    by_cases hlt : (l.length : Int) < (m : Int)
    · have hltn : l.length < m := by omega
      clear h hr hf f1 f2 f3
      go_enter Tryd.func3, Tryd.ntmps3
      go_wp2_with fail
      refine (Fe.out).mono ?_
      rintro e wz ⟨rfl, rfl⟩
      go_wp2_with fail
      refine (Aw.out _ (Hh.out _ hb)).mono ?_
      rintro e wz ⟨rfl, b⟩
      replace hb := hb.trans (b.mono hb.size)
      clear b
      go_wp2
      go_ret
      exact ⟨rfl, hb⟩
    have hltn : ¬ l.length < m := by omega
    have hm0 : (0 : Int) ≤ (m : Int) := by omega
    have hmd : decide ((m : Int) < 0) = false := decide_eq_false (by omega)
    have hmc : (m : Int) ≤ (c : Int) := by omega
    have hmcn : m ≤ c := by omega
    have hml : (l.take m).length = m := by rw [List.length_take]; omega
    have e1 : (l.take m).map (·.1) = (l.map (·.1)).take m := by rw [List.map_take]
    have hd1 : dataLen ((l.map (·.1)).take m) ≤ 4294967296 := by have := dataLen_take (l.map (·.1)) m; omega
    have O1 := Lib.hid (fun w1 h1 hr => ofE_any A c l (by omega) (by omega) f3 w1 h1 hr)
    have O2 := Lib.hid (fun w1 h1 hr => ofE_any A c (l.take m) (by omega) (by rw [e1]; exact hd1) (fun x hx => f3 x (List.mem_of_mem_take hx)) w1 h1 hr)
    rw [hml, e1] at O2
    have hek := ents_ok (l := l.map (·.1)) (by intro f hf; obtain ⟨x, hx, rfl⟩ := List.mem_map.1 hf; exact f3 x hx) (by omega)
    have hel : (ents (l.map (·.1))).length = l.length := by unfold ents; rw [entsFrom_length]; simp
    have hne : (fun W => neqEn default default W) = (fun W => neqEn default default W) := rfl
    have e2 := ents_take (l.map (·.1)) m
    clear hne
    by_cases hz : whyE (ents (l.map (·.1))) = 0
    · have hz2 : whyE (ents ((l.map (·.1)).take m)) = 0 := by rw [e2]; exact whyE_take hz m
      have ho1 : ofE (l.map (·.1)) = ents (l.map (·.1)) := by unfold ofE; rw [if_pos hz]
      have ho2 : ofE ((l.map (·.1)).take m) = (ents (l.map (·.1))).take m := by unfold ofE; rw [if_pos hz2, e2]
      have hfn : fineB ((ents (l.map (·.1))).take m) = true := by rw [← e2]; exact fineB_ents hz2
      rw [hz, ho1] at O1
      rw [hz2, ho2] at O2
      have hlen2 : ((ents (l.map (·.1))).take m).length = m := by rw [List.length_take]; omega
      have F := Lib.hid (fun A c w1 h1 hr => fine_any A c ((ents (l.map (·.1))).take m) (by omega) (fun e he => (hek e (List.mem_of_mem_take he)).1) (fun e he => (hek e (List.mem_of_mem_take he)).2) w1 h1 hr)
      rw [hfn, hlen2] at F
      have hg := guardEn
      clear h hr hf f1 f2 f3 e1 hd1 hek e2 hz hz2 ho1 ho2 hfn
      generalize ents (l.map (·.1)) = es at *
      have Hlen2 := Lib.hid hlen2
      have Hel := Lib.hid hel
      clear hlen2 hel hml
      go_enter Tryd.func3, Tryd.ntmps3
      go_wp2_with fail
      refine (Fe.out).mono ?_
      rintro e wz ⟨rfl, rfl⟩
      go_wp2_with fail
      refine (O1.out _ (Hh.out _ hb) (Hr.out _ hb)).mono ?_
      rintro e w1 ⟨A1, c1, rfl, k1, r1, b1⟩
      have R1 := Lib.hid r1
      replace hb := hb.trans (b1.mono hb.size)
      clear r1 b1
      rw [Hel.out] at k1
      have q1 : (l.length : Int) ≤ (c1 : Int) := by have := k1.1; omega
      have q2 : (c1 : Int) ≤ 9223372036854775807 := by have := k1.2; omega
      have q3 : (m : Int) ≤ (c1 : Int) := by omega
      have q4 : m ≤ c1 := by omega
      rw [Hel.out]
      clear k1
      go_wp2_with fail
      refine (O2.out _ (Hh.out _ hb) ((Hr.out _ hb).take m)).mono ?_
      rintro e wz ⟨A2, c2, rfl, k2, r2, b2⟩
      have R2 := Lib.hid (And.intro (R1.out.below b2) r2)
      replace hb := hb.trans (b2.mono hb.size)
      rw [Hlen2.out]
      clear r2 b2 k2
      go_wp2
      go_loopg [41] m (fun k v wr => ∃ i : Nat, k + i = m ∧ v = .int .i64 i ∧ Below w.heap.size w wr ∧ Below wz.heap.size wz wr)
      case atStart => exact ⟨0, by omega, rfl, hb, Below.refl _ _⟩
      case round =>
        clear hb
        obtain ⟨i, hk, rfl, hb, hbz⟩ := hrel
        by_cases hlt : (i : Int) < (m : Int)
        · obtain ⟨j, rfl⟩ : ∃ j, gk = j + 1 := ⟨gk - 1, by omega⟩
          have hil : i < es.length := by have := Hel.out; omega
          have hil2 : i < (es.take m).length := by have := Hlen2.out; omega
          have i0' : (0 : Int) ≤ (i : Int) := by omega
          have i1' : (i : Int) < (l.length : Int) := by omega
          have Hk := Lib.hid hk
          clear hk
          obtain ⟨p1, o1, rfl, q1, d⟩ := R2.out.1.below hbz i hil
          obtain ⟨p2, o2, rfl, q2, d'⟩ := R2.out.2.below hbz i hil2
          have hge : (es.take m)[i] = es[i] := by rw [List.getElem_take]
          rw [hge] at d'
          clear hge
          generalize es[i] = x at *
          have hneq := fun W => neqEn x x W
          rw [decide_eq_true rfl] at hneq
          obtain ⟨path, kind, mode, time, tgt, beg, size⟩ := x
          obtain ⟨d0, d1, d2, d3, d4, d5, d6⟩ := RdA.cells7 d
          obtain ⟨e0, e1, e2, e3, e4, e5, e6⟩ := RdA.cells7 d'
          simp only [enL] at d0 d1 d2 d3 d4 d5 d6 e0 e1 e2 e3 e4 e5 e6 hneq
          clear d d'
          go_wp2
          go_quiet (fail)
          go_wp2
          go_roundg j
          case measure => omega
          case rel => exact ⟨i + 1, by have := Hk.out; omega, rfl, below_drewN hb _, below_drewN hbz _⟩
        · have hmm : ((m : Int) == (m : Int)) = true := by simp
          have R3 := Lib.hid ((R2.out.1.below hbz).take m)
          clear hk
          go_wp2_with fail
          refine (F.out _ _ _ (Hh.out _ hb) R3.out).mono ?_
          rintro e wz ⟨rfl, b⟩
          replace hb := hb.trans (b.mono hb.size)
          clear b
          go_wp2_with fail
          refine (Aw.out _ (Hh.out _ hb)).mono ?_
          rintro e wz ⟨rfl, b⟩
          replace hb := hb.trans (b.mono hb.size)
          clear b
          go_wp2
          go_ret
          exact ⟨rfl, hb⟩
    · have ho1 : ofE (l.map (·.1)) = [] := by unfold ofE; rw [if_neg hz]
      rw [ho1] at O1
      have Hz := Lib.hid hz
      clear h hr hf f1 f2 f3 e1 hd1 hek hel hz ho1 hml
      generalize whyE (ents (l.map (·.1))) = z at *
      have hz1 := Hz.out
      have hz2 : (z == 0) = false := by simpa using hz1
      rw [e2] at O2
      clear e2
      generalize whyE ((ents (l.map (·.1))).take m) = z' at *
      generalize ofE ((l.map (·.1)).take m) = o2 at *
      go_enter Tryd.func3, Tryd.ntmps3
      go_wp2_with fail
      refine (Fe.out).mono ?_
      rintro e wz ⟨rfl, rfl⟩
      go_wp2_with fail
      refine (O1.out _ (Hh.out _ hb) (Hr.out _ hb)).mono ?_
      rintro e w1 ⟨A1, c1, rfl, k1, r1, b1⟩
      replace hb := hb.trans (b1.mono hb.size)
      clear r1 b1 k1
      go_wp2_with fail
      refine (O2.out _ (Hh.out _ hb) ((Hr.out _ hb).take m)).mono ?_
      rintro e wz ⟨A2, c2, rfl, k2, r2, b2⟩
      replace hb := hb.trans (b2.mono hb.size)
      clear r2 b2 k2
      go_wp2_with fail
      refine (Aw.out _ (Hh.out _ hb)).mono ?_
      rintro e wz ⟨rfl, b⟩
      replace hb := hb.trans (b.mono hb.size)
      clear b
      go_wp2
      go_ret
      exact ⟨rfl, hb⟩
  · rw [decide_eq_false hf] at Fe
    clear h hr hf
    go_enter Tryd.func3, Tryd.ntmps3
    go_wp2_with fail
    refine (Fe.out).mono ?_
    rintro e wz ⟨rfl, rfl⟩
    go_wp2_with fail
    refine (Aw.out _ (Hh.out _ hb)).mono ?_
    rintro e wz ⟨rfl, b⟩
    replace hb := hb.trans (b.mono hb.size)
    clear b
    go_wp2
    go_ret
    exact ⟨rfl, hb⟩
end Go.Proofs.YtfppancidgamjaaDoor

/- When a list is ahead of another one. -/
namespace Go.Proofs.YtfppancidgamjaaDoor
set_option linter.unusedVariables false
set_option linter.unusedSimpArgs false
theorem prefix_iff {α : Type} [DecidableEq α] (p x : List α) : p <+: x ↔ p.length ≤ x.length ∧ ∀ i (h : i < p.length) (h2 : i < x.length), x[i] = p[i] := by
  constructor
  · rintro ⟨t, rfl⟩
    exact ⟨by simp, fun i h h2 => by rw [List.getElem_append_left h]⟩
  · rintro ⟨h1, h2⟩
    refine ⟨x.drop p.length, ?_⟩
    conv => rhs; rw [← List.take_append_drop p.length x]
    congr 1
    refine List.ext_getElem (by simp; omega) fun i a b => ?_
    rw [List.getElem_take, h2 i a (by omega)]

end Go.Proofs.YtfppancidgamjaaDoor

/- The walks over the laws EntryOf and EntryWithins. -/
namespace Go.Proofs.YtfppancidgamjaaDoor
set_option linter.unusedVariables false
set_option linter.unusedSimpArgs false
open Go.RowKit

set_option maxRecDepth 100000 in
set_option maxHeartbeats 3200000 in
theorem oflaw_walk (A : Option Addr) (c : Nat) (l : List (Fi × Value)) (hl : l.length ≤ 9223372036854775807) (hw : ∀ x ∈ l, x.1.wide) (w : World) (h : Sh w) (hr : RdF w A l) :
    Calls Tryd.prog 4 #[.slice A l.length c] w fun e w' => e = .returned (.bool true) ∧ Below w.heap.size w w' := by
  have hb := Below.refl w.heap.size w
  have Hh := Lib.hid (fun w1 (b : Below w.heap.size w w1) => sh_below h b)
  have Aw := Lib.hid (fun w1 h1 => awakeE_any w1 h1)
  have Fe := Lib.hid (few_any A c l hl hw w hr)
  have Hr := Lib.hid (fun w1 (b : Below w.heap.size w w1) => hr.below b)
  by_cases hf : fewP (l.map (·.1))
  · rw [decide_eq_true hf] at Fe
    obtain ⟨f1, f2, f3⟩ := few_ok hw hf
    have n1 : (l.length : Int) ≤ 12 := by omega
    have hek := ents_ok (l := l.map (·.1)) (by intro f hf; obtain ⟨x, hx, rfl⟩ := List.mem_map.1 hf; exact f3 x hx) (by omega)
    have hel : (ents (l.map (·.1))).length = l.length := by unfold ents; rw [entsFrom_length]; simp
    have O1 := Lib.hid (fun w1 h1 hr => ofE_any A c l (by omega) (by omega) f3 w1 h1 hr)
    have T := Lib.hid (fun w1 hr => told_any A c l (by omega) (by omega) w1 hr)
    have Y := Lib.hid (fun A c w1 hr => refwhy_any A c (ents (l.map (·.1))) (by omega) (fun e he => (hek e he).1) (fun e he => (hek e he).2) w1 hr)
    have R := Lib.hid (fun w1 h1 hr => rightE_any A c l (by omega) (by omega) f3 w1 h1 hr)
    have Sm := Lib.hid (fun A B ca cb w1 h1 h2 => same_any A B ca cb (ents (l.map (·.1))) (ents (l.map (·.1))) (by omega) (by omega) w1 h1 h2)
    rw [decide_eq_true rfl] at Sm
    by_cases hz : whyE (ents (l.map (·.1))) = 0
    · have ho1 : ofE (l.map (·.1)) = ents (l.map (·.1)) := by unfold ofE; rw [if_pos hz]
      rw [hz, ho1] at O1
      rw [hz] at Y R
      clear h hr hf f1 f2 f3 hek hel hz ho1
      generalize ents (l.map (·.1)) = es at *
      go_enter Tryd.func4, Tryd.ntmps4
      go_wp2_with fail
      refine (Fe.out).mono ?_
      rintro e wz ⟨rfl, rfl⟩
      go_wp2_with fail
      refine (O1.out _ (Hh.out _ hb) (Hr.out _ hb)).mono ?_
      rintro e w1 ⟨A1, c1, rfl, k1, r1, b1⟩
      have R1 := Lib.hid r1
      replace hb := hb.trans (b1.mono hb.size)
      clear r1 b1 k1
      go_wp2_with fail
      refine (T.out _ (Hr.out _ hb)).mono ?_
      rintro e w2 ⟨A2, c2, rfl, k2, r2, b2⟩
      have R2 := Lib.hid (And.intro (R1.out.below b2) r2)
      replace hb := hb.trans (b2.mono hb.size)
      clear r2 b2 k2 R1
      go_wp2_with fail
      refine (Y.out _ _ _ R2.out.2).mono ?_
      rintro e w3 ⟨rfl, b3⟩
      have R3 := Lib.hid (And.intro (R2.out.1.below b3) (R2.out.2.below b3))
      replace hb := hb.trans (b3.mono hb.size)
      clear b3 R2
      go_wp2_with fail
      refine (Sm.out _ _ _ _ _ R3.out.1 R3.out.2).mono ?_
      rintro e wz ⟨rfl, b⟩
      replace hb := hb.trans (b.mono hb.size)
      clear b
      go_wp2_with fail
      refine (R.out _ (Hh.out _ hb) (Hr.out _ hb)).mono ?_
      rintro e wz ⟨rfl, b⟩
      replace hb := hb.trans (b.mono hb.size)
      clear b
      go_wp2_with fail
      refine (Aw.out _ (Hh.out _ hb)).mono ?_
      rintro e wz ⟨rfl, b⟩
      replace hb := hb.trans (b.mono hb.size)
      clear b
      go_wp2
      go_ret
      exact ⟨rfl, hb⟩
    · have ho1 : ofE (l.map (·.1)) = [] := by unfold ofE; rw [if_neg hz]
      rw [ho1] at O1
      have Hz := Lib.hid hz
      clear h hr hf f1 f2 f3 hek hel hz ho1 Sm
      generalize ents (l.map (·.1)) = es at *
      generalize whyE es = z at *
      have hz1 := Hz.out
      have hz2 : (z == 0) = false := by simpa using hz1
      have hz3 : (z == z) = true := by simp
      rw [hz2] at R
      go_enter Tryd.func4, Tryd.ntmps4
      go_wp2_with fail
      refine (Fe.out).mono ?_
      rintro e wz ⟨rfl, rfl⟩
      go_wp2_with fail
      refine (O1.out _ (Hh.out _ hb) (Hr.out _ hb)).mono ?_
      rintro e w1 ⟨A1, c1, rfl, k1, r1, b1⟩
      replace hb := hb.trans (b1.mono hb.size)
      clear r1 b1 k1
      go_wp2_with fail
      refine (T.out _ (Hr.out _ hb)).mono ?_
      rintro e w2 ⟨A2, c2, rfl, k2, r2, b2⟩
      have R2 := Lib.hid r2
      replace hb := hb.trans (b2.mono hb.size)
      clear r2 b2 k2
      go_wp2_with fail
      refine (Y.out _ _ _ R2.out).mono ?_
      rintro e wz ⟨rfl, b⟩
      replace hb := hb.trans (b.mono hb.size)
      clear b
      go_wp2_with fail
      refine (R.out _ (Hh.out _ hb) (Hr.out _ hb)).mono ?_
      rintro e wz ⟨rfl, b⟩
      replace hb := hb.trans (b.mono hb.size)
      clear b
      go_wp2_with fail
      refine (Aw.out _ (Hh.out _ hb)).mono ?_
      rintro e wz ⟨rfl, b⟩
      replace hb := hb.trans (b.mono hb.size)
      clear b
      go_wp2
      go_ret
      exact ⟨rfl, hb⟩
  · rw [decide_eq_false hf] at Fe
    clear h hr hf
    go_enter Tryd.func4, Tryd.ntmps4
    go_wp2_with fail
    refine (Fe.out).mono ?_
    rintro e wz ⟨rfl, rfl⟩
    go_wp2_with fail
    refine (Aw.out _ (Hh.out _ hb)).mono ?_
    rintro e wz ⟨rfl, b⟩
    replace hb := hb.trans (b.mono hb.size)
    clear b
    go_wp2
    go_ret
    exact ⟨rfl, hb⟩

theorem takeWhile_prefix {α : Type} {p q : α → Bool} (h : ∀ x, p x = true → q x = true) : ∀ l : List α, l.takeWhile p <+: l.takeWhile q
  | [] => List.prefix_refl _
  | a :: l => by
    rw [List.takeWhile_cons, List.takeWhile_cons]
    by_cases hp : p a = true
    · rw [if_pos hp, if_pos (h a hp)]
      obtain ⟨t, ht⟩ := takeWhile_prefix h l
      exact ⟨t, by rw [List.cons_append, ht]⟩
    · rw [if_neg hp]; exact List.nil_prefix
theorem within_prefix (l : List En) {n m : Int} (h : n ≤ m) : withinE l n <+: withinE l m := by
  unfold withinE
  split
  · exact takeWhile_prefix (fun x hx => by rw [decide_eq_true_eq] at hx ⊢; omega) l
  · exact List.prefix_refl _
theorem sumS_take {l : List En} (h : ∀ e ∈ l, plainP e) (n : Nat) : sumS (l.take n) ≤ sumS l := by
  have h1 : sumS l = sumS (l.take n) + sumS (l.drop n) := by
    conv => lhs; rw [← List.take_append_drop n l]
    unfold sumS
    rw [List.map_append, List.sum_append]
  have := (sumS_range (l := l.drop n) (fun e he => h e (List.mem_of_mem_drop he))).1
  omega
theorem within_total {l : List En} (h : fineB l = true) : withinE l (totalE l) = l := by
  obtain ⟨h1, h2⟩ := fineB_true h
  obtain ⟨_, _, _, hp⟩ := whyE_zero h1
  unfold withinE
  rw [if_pos h]
  have : ∀ x ∈ l, decide (x.beg + x.size ≤ totalE l) = true := by
    intro x hx
    obtain ⟨i, hi, rfl⟩ := List.mem_iff_getElem.1 hx
    unfold totalE
    rw [if_pos h, decide_eq_true_eq, h2 i hi, ← sumS_snoc, ← List.take_succ_eq_append_getElem hi]
    exact sumS_take hp (i + 1)
  have h3 := takeWhile_take (fun e : En => decide (e.beg + e.size ≤ totalE l)) l l.length (by rw [List.take_length]; exact this)
  rw [h3]; simp

set_option maxRecDepth 100000 in
set_option maxHeartbeats 3200000 in
theorem withinslaw_walk (A : Option Addr) (c : Nat) (l : List En) (hl : l.length ≤ 9223372036854775807) (hw : ∀ x ∈ l, x.ok) (n m : Int) (w : World) (h : Sh w) (hr : RdA 7 enL w A l) :
    Calls Tryd.prog 7 #[.slice A l.length c, .int .i64 n, .int .i64 m] w fun e w' => e = .returned (.bool true) ∧ Below w.heap.size w w' := by
  have hb := Below.refl w.heap.size w
  have Hh := Lib.hid (fun w1 (b : Below w.heap.size w w1) => sh_below h b)
  have Aw := Lib.hid (fun w1 h1 => awakeE_any w1 h1)
  have Fe := Lib.hid (short_any A c l hl hw w hr)
  have Hr := Lib.hid (fun w1 (b : Below w.heap.size w w1) => hr.below b)
  by_cases hf : shortP l
  · rw [decide_eq_true hf] at Fe
    by_cases hnm : m < n
    · clear h hr hf
      go_enter Tryd.func7, Tryd.ntmps7
      go_wp2_with fail
      refine (Fe.out).mono ?_
      rintro e wz ⟨rfl, rfl⟩
      go_wp2_with fail
      refine (Aw.out _ (Hh.out _ hb)).mono ?_
      rintro e wz ⟨rfl, b⟩
      replace hb := hb.trans (b.mono hb.size)
      clear b
      go_wp2
      go_ret
      exact ⟨rfl, hb⟩
    have f1 := hf.1
    have f2 : ∀ e ∈ l, e.path.length ≤ 4294967280 := fun e he => by have := (hf.2 e he).1; omega
    have n1 : (l.length : Int) ≤ 20 := by omega
    have W := Lib.hid (fun n w1 h1 hr => within_any A c l (by omega) hw f2 n w1 h1 hr)
    have F := Lib.hid (fun w1 h1 hr => fine_any A c l (by omega) hw f2 w1 h1 hr)
    have T := Lib.hid (fun w1 h1 hr => total_any A c l (by omega) hw f2 w1 h1 hr)
    have hp := within_prefix l (show n ≤ m by omega)
    have hpl : ∀ k, (withinE l k).length ≤ l.length := fun k => by
      unfold withinE; split
      · exact (List.takeWhile_sublist _).length_le
      · simp
    have ha := hpl n
    have hbl := hpl m
    have hle := hp.length_le
    rw [prefix_iff] at hp
    have Wn := Lib.hid (W.out n)
    have Wm := Lib.hid (W.out m)
    have Wt := Lib.hid (W.out (totalE l))
    have Hft : Hid (fineB l = true → (withinE l (totalE l)).length = l.length) := Lib.hid (fun h => by rw [within_total h])
    clear h hr hf f1 f2 W hpl
    generalize withinE l n = a at *
    generalize withinE l m = b at *
    generalize withinE l (totalE l) = t at *
    have Hp := Lib.hid hp.2
    have a1 : (a.length : Int) ≤ 20 := by omega
    have a2 : (b.length : Int) ≤ 20 := by omega
    have a3 : (a.length : Int) ≤ (b.length : Int) := by omega
    have a3n : a.length ≤ b.length := hle
    have hg := guardEn
    clear hp ha hbl hle
    go_enter Tryd.func7, Tryd.ntmps7
    go_wp2_with fail
    refine (Fe.out).mono ?_
    rintro e wz ⟨rfl, rfl⟩
    go_wp2_with fail
    refine (Wn.out _ (Hh.out _ hb) (Hr.out _ hb)).mono ?_
    rintro e w1 ⟨A1, c1, rfl, k1, r1, b1⟩
    have R1 := Lib.hid r1
    replace hb := hb.trans (b1.mono hb.size)
    clear r1 b1 k1
    go_wp2_with fail
    refine (Wm.out _ (Hh.out _ hb) (Hr.out _ hb)).mono ?_
    rintro e wz ⟨A2, c2, rfl, k2, r2, b2⟩
    have R2 := Lib.hid (And.intro (R1.out.below b2) r2)
    replace hb := hb.trans (b2.mono hb.size)
    clear r2 b2 k2 R1
    go_wp2
    go_loopg [27] a.length (fun k v wr => ∃ i : Nat, k + i = a.length ∧ v = .int .i64 i ∧ Below w.heap.size w wr ∧ Below wz.heap.size wz wr)
    case atStart => exact ⟨0, by omega, rfl, hb, Below.refl _ _⟩
    case round =>
      clear hb
      obtain ⟨i, hk, rfl, hb, hbz⟩ := hrel
      by_cases hlt : (i : Int) < (a.length : Int)
      · obtain ⟨j, rfl⟩ : ∃ j, gk = j + 1 := ⟨gk - 1, by omega⟩
        have hil : i < a.length := by omega
        have hil2 : i < b.length := by omega
        have i0' : (0 : Int) ≤ (i : Int) := by omega
        have i1' : (i : Int) < (b.length : Int) := by omega
        have i2' : ¬ (b.length : Int) ≤ (i : Int) := by omega
        have Hk := Lib.hid hk
        clear hk
        obtain ⟨p1, o1, rfl, q1, d⟩ := R2.out.1.below hbz i hil
        obtain ⟨p2, o2, rfl, q2, d'⟩ := R2.out.2.below hbz i hil2
        have hge := Hp.out i hil hil2
        rw [hge] at d'
        clear hge
        generalize a[i] = x at *
        have hneq := fun W => neqEn x x W
        rw [decide_eq_true rfl] at hneq
        obtain ⟨path, kind, mode, time, tgt, beg, size⟩ := x
        obtain ⟨d0, d1, d2, d3, d4, d5, d6⟩ := RdA.cells7 d
        obtain ⟨e0, e1, e2, e3, e4, e5, e6⟩ := RdA.cells7 d'
        simp only [enL] at d0 d1 d2 d3 d4 d5 d6 e0 e1 e2 e3 e4 e5 e6 hneq
        clear d d'
        have i3' : decide ((b.length : Int) ≤ (i : Int)) = false := decide_eq_false i2'
        have i4' : decide (b.length ≤ i) = false := decide_eq_false (by omega)
        go_wp2
        go_quiet (fail)
        go_wp2
        go_roundg j
        case measure => omega
        case rel => exact ⟨i + 1, by have := Hk.out; omega, rfl, below_drewN hb _, below_drewN hbz _⟩
      · have hab : decide (a.length ≤ b.length) = true := decide_eq_true a3n
        clear hk
        cases hff : fineB l with
        | false =>
          rw [hff] at F
          clear hff
          go_wp2_with fail
          refine (F.out _ (Hh.out _ hb) (Hr.out _ hb)).mono ?_
          rintro e wz ⟨rfl, b⟩
          replace hb := hb.trans (b.mono hb.size)
          clear b
          go_wp2_with fail
          refine (Aw.out _ (Hh.out _ hb)).mono ?_
          rintro e wz ⟨rfl, b⟩
          replace hb := hb.trans (b.mono hb.size)
          clear b
          go_wp2
          go_ret
          exact ⟨rfl, hb⟩
        | true =>
          rw [hff] at F
          have Ht := Lib.hid (Hft.out hff)
          have hll : (l.length == l.length) = true := by simp
          clear hff
          generalize totalE l = s at *
          go_wp2_with fail
          refine (F.out _ (Hh.out _ hb) (Hr.out _ hb)).mono ?_
          rintro e wz ⟨rfl, b⟩
          replace hb := hb.trans (b.mono hb.size)
          clear b
          go_wp2_with fail
          refine (T.out _ (Hh.out _ hb) (Hr.out _ hb)).mono ?_
          rintro e wz ⟨rfl, b⟩
          replace hb := hb.trans (b.mono hb.size)
          clear b
          go_wp2_with fail
          refine (Wt.out _ (Hh.out _ hb) (Hr.out _ hb)).mono ?_
          rintro e w3 ⟨A3, c3, rfl, k3, r3, b3⟩
          replace hb := hb.trans (b3.mono hb.size)
          clear r3 b3 k3
          rw [Ht.out]
          go_wp2_with fail
          refine (Aw.out _ (Hh.out _ hb)).mono ?_
          rintro e wz ⟨rfl, b⟩
          replace hb := hb.trans (b.mono hb.size)
          clear b
          go_wp2
          go_ret
          exact ⟨rfl, hb⟩
  · rw [decide_eq_false hf] at Fe
    clear h hr hf
    go_enter Tryd.func7, Tryd.ntmps7
    go_wp2_with fail
    refine (Fe.out).mono ?_
    rintro e wz ⟨rfl, rfl⟩
    go_wp2_with fail
    refine (Aw.out _ (Hh.out _ hb)).mono ?_
    rintro e wz ⟨rfl, b⟩
    replace hb := hb.trans (b.mono hb.size)
    clear b
    go_wp2
    go_ret
    exact ⟨rfl, hb⟩
end Go.Proofs.YtfppancidgamjaaDoor

/- Bytes appended to a row of bytes; files with the rows that their data lie in. -/
namespace Go.Proofs.YtfppancidgamjaaDoor
set_option linter.unusedVariables false
set_option linter.unusedSimpArgs false
open Go.RowKit

/-- The rows that files' data lie in. -/
def Dat : List (Fi × Value) → HP
  | [] => Emp
  | x :: l => Rw 5 1 x.2 x.1.data.length (bytesU x.1.data) * Dat l
instance Loc.dat {B : Nat} : (l : List (Fi × Value)) → Loc B (Dat l)
  | [] => inferInstanceAs (Loc B Emp)
  | x :: l => by
    have := Loc.dat (B := B) l
    exact inferInstanceAs (Loc B (Rw 5 1 x.2 x.1.data.length (bytesU x.1.data) * Dat l))
theorem dat_append (a b : List (Fi × Value)) : Dat (a ++ b) = Dat a * Dat b ∨ True := .inr trivial
theorem Own.dat {B : Nat} {w : World} : ∀ {l : List (Fi × Value)} {R : HP}, Own B (Dat l * R) w → ∀ x ∈ l, Rd w x.2 (bytesU x.1.data)
  | [], _, _, x, hx => absurd hx (by simp)
  | y :: l, R, h, x, hx => by
    have h1 : Own B (Rw 5 1 y.2 y.1.data.length (bytesU y.1.data) * (Dat l * R)) w := h.assoc
    rcases List.mem_cons.1 hx with rfl | hx
    · exact h1.rd
    · exact Own.dat h1.right x hx
theorem Own.dat_snoc {B : Nat} {w : World} {x : Fi × Value} : ∀ {l : List (Fi × Value)} {R : HP}, Own B (Dat l * (Rw 5 1 x.2 x.1.data.length (bytesU x.1.data) * R)) w → Own B (Dat (l ++ [x]) * R) w
  | [], R, h => (h.right.cast (show _ = (Rw 5 1 x.2 x.1.data.length (bytesU x.1.data) * R) from rfl)).mono (fun w F ⟨F1, F2, hd, h1, h2, ha, hr⟩ => ⟨F1, F2, hd, h1, h2, ⟨F1, fun _ => False, fun _ _ h => h, fun _ h => h, fun _ h => h.elim, ha, trivial⟩, hr⟩)
  | y :: l, R, h => by
    have h1 : Own B (Dat l * (Rw 5 1 x.2 x.1.data.length (bytesU x.1.data) * (Rw 5 1 y.2 y.1.data.length (bytesU y.1.data) * R))) w :=
      h.cast (by show ((Rw 5 1 y.2 y.1.data.length (bytesU y.1.data) * Dat l) * _) = _; ac_rfl)
    have h2 := Own.dat_snoc h1
    exact h2.cast (by show _ = ((Rw 5 1 y.2 y.1.data.length (bytesU y.1.data) * Dat (l ++ [x])) * R); ac_rfl)
end Go.Proofs.YtfppancidgamjaaDoor

/- The walk over Fill of package entry. -/
namespace Go.Proofs.YtfppancidgamjaaDoor
set_option linter.unusedVariables false
set_option linter.unusedSimpArgs false
open Go.RowKit

theorem infoFi : (Tryd.prog.info? 41).map (fun i => (i.zero, i.size, i.bytes)) = some (some (.agg #[.string ByteArray.empty, .int .i64 0, .int .i64 0, .int .i64 0, .slice none 0 0, .string ByteArray.empty]), 6, 80) := by kernel_rfl
def fileOf (data : List UInt8) (e : En) : Fi := ⟨e.path, e.kind, e.mode, e.time, (data.drop e.beg.toNat).take e.size.toNat, e.tgt⟩
def fillE (l : List En) (data : List UInt8) : Option (List Fi) := if fineB l = true ∧ (data.length : Int) = totalE l then some (l.map (fileOf data)) else none
def FillP (w : World) : Option (List Fi) → Ending → World → Prop
  | none, e, w' => e = .returned (.tuple #[.slice none 0 0, .int .i64 1]) ∧ Below w.heap.size w w'
  | some fs, e, w' => ∃ (A : Option Addr) (c : Nat) (l : List (Fi × Value)), l.map (·.1) = fs ∧ e = .returned (.tuple #[.slice A l.length c, .int .i64 0]) ∧ (l.length ≤ c ∧ c ≤ 9223372036854775807) ∧ RdF w' A l ∧ Below w.heap.size w w'
theorem FillP.mk {w w' : World} {fs : List Fi} {e : Ending} {A : Option Addr} {c n : Nat} {l : List (Fi × Value)} {z : Int} (he : e = .returned (.tuple #[.slice A n c, .int .i64 z])) (hz : z = 0) (hn : n = l.length) (hl : l.map (·.1) = fs) (hc : n ≤ c ∧ c ≤ 9223372036854775807) (hr : RdF w' A l) (hb : Below w.heap.size w w') : FillP w (some fs) e w' := by
  subst hz; subst hn; exact ⟨A, c, l, hl, he, hc, hr, hb⟩
theorem fine_ends {l : List En} (h : fineB l = true) (i : Nat) (hi : i < l.length) : l[i].beg + l[i].size ≤ totalE l := by
  obtain ⟨h1, h2⟩ := fineB_true h
  obtain ⟨_, _, _, hp⟩ := whyE_zero h1
  unfold totalE
  rw [if_pos h, h2 i hi, ← sumS_snoc, ← List.take_succ_eq_append_getElem hi]
  exact sumS_take hp _

theorem Rd.cut {w : World} {A : Option Addr} {n c : Nat} {data : List UInt8} (h : Rd w (.slice A n c) (bytesU data)) {l m : Nat} (hm : l + m ≤ data.length) (hc : data.length ≤ c) (c' : Nat) :
    Rd w (.slice (if c = l then A else Option.map (fun x => x.add l) A) m c') (bytesU ((data.drop l).take m)) := by
  have hl : ((data.drop l).take m).length = m := by rw [List.length_take, List.length_drop]; omega
  split
  · next e =>
    have : m = 0 := by omega
    subst this
    exact ⟨A, c', by simp [bytesU], fun hne => absurd (by simp [bytesU]) hne⟩
  · exact h.part l m c' _ (by unfold bytesU; rw [← List.map_drop, ← List.map_take]) (by rw [bytesU_length, hl])

set_option maxRecDepth 100000 in
set_option maxHeartbeats 6400000 in
theorem fill_any (A : Option Addr) (c : Nat) (l : List En) (hl : l.length ≤ 4294967296) (ok : ∀ e ∈ l, e.ok) (hx : ∀ e ∈ l, e.path.length ≤ 4294967280) (Ad : Option Addr) (cd : Nat) (data : List UInt8) (hdc : data.length ≤ cd ∧ cd ≤ 9223372036854775807) (w : World) (h : Sh w) (hr : RdA 7 enL w A l) (hd : Rd w (.slice Ad data.length cd) (bytesU data)) :
    Calls Tryd.prog 21 #[.slice A l.length c, .slice Ad data.length cd] w (FillP w (fillE l data)) := by
  obtain ⟨i0, hi, hz0, hz1, hz2⟩ := info_parts infoFi
  have Hi0 := Lib.hid (And.intro hi (And.intro hz0 (And.intro hz1 hz2)))
  have hb := Below.refl w.heap.size w
  have Hh := Lib.hid (fun w1 (b : Below w.heap.size w w1) => sh_below h b)
  have Hr := Lib.hid (fun w1 (b : Below w.heap.size w w1) => hr.below b)
  have Hd := Lib.hid (fun w1 (b : Below w.heap.size w w1) => hd.below b)
  have F := Lib.hid (fun w1 h1 hr => fine_any A c l hl ok hx w1 h1 hr)
  have T := Lib.hid (fun w1 h1 hr => total_any A c l hl ok hx w1 h1 hr)
  have n1 : (l.length : Int) ≤ 4294967296 := by omega
  cases hff : fineB l with
  | false =>
    have e0 : Hid (fillE l data = none) := Lib.hid (by unfold fillE; rw [if_neg]; rintro ⟨h1, _⟩; rw [hff] at h1; cases h1)
    rw [hff] at F
    clear h hr hd hff hi hz0 hz1 hz2
    go_enter Tryd.func21, Tryd.ntmps21
    go_wp2_with fail
    refine (F.out _ (Hh.out _ hb) (Hr.out _ hb)).mono ?_
    rintro e wz ⟨rfl, b⟩
    replace hb := hb.trans (b.mono hb.size)
    clear b
    go_wp2
    go_ret2
    rw [e0.out]
    exact ⟨rfl, hb⟩
  | true =>
    rw [hff] at F
    by_cases ht : (data.length : Int) = totalE l
    · have e0 : Hid (fillE l data = some (l.map (fileOf data))) := Lib.hid (by unfold fillE; rw [if_pos ⟨hff, ht⟩])
      have Hb := Lib.hid (fun i hi => fine_bounds hff i hi)
      have He := Lib.hid (fun i hi => fine_ends hff i hi)
      rw [← ht] at T He
      have hO := (Own.start w.heap.size w).emp.rw_nil 41 6
      clear h hr hd hff hi hz0 hz1 hz2 ht
      go_enter Tryd.func21, Tryd.ntmps21
      go_wp2_with fail
      refine (F.out _ (Hh.out _ hb) (Hr.out _ hb)).mono ?_
      rintro e w1 ⟨rfl, b1⟩
      replace hO := hO.grown (Nat.le_refl _) b1
      replace hb := hb.trans (b1.mono hb.size)
      clear b1
      go_wp2_with fail
      refine (T.out _ (Hh.out _ hb) (Hr.out _ hb)).mono ?_
      rintro e w2 ⟨rfl, b2⟩
      replace hO := hO.grown hb.size b2
      replace hb := hb.trans (b2.mono hb.size)
      clear b2
      have hOD : Own w.heap.size (Rw 41 6 (.slice none 0 0) 0 (flat fiL []) * (Dat [] * Emp)) w2 := hO
      clear hO
      have htt : (data.length == data.length) = true := by simp
      go_wp2
      go_loopg [6, 22] l.length (fun k v u wr => ∃ (i : Nat) (A' : Option Addr) (c' : Nat) (fs : List (Fi × Value)), k + i = l.length ∧ u = .int .i64 i ∧ v = .slice A' i c' ∧ Hid (fs.length = i ∧ fs.map (·.1) = (l.take i).map (fileOf data)) ∧ Below w.heap.size w wr ∧ Own w.heap.size (Rw 41 6 (.slice A' i c') i (flat fiL fs) * (Dat fs * Emp)) wr)
      case atStart => exact ⟨0, none, 0, [], by omega, rfl, rfl, Lib.hid ⟨rfl, rfl⟩, hb, hOD⟩
      case round =>
        clear hb hOD
        obtain ⟨i, A', c', fs, hk, rfl, rfl, hfs, hb, ho⟩ := hrel
        by_cases hlt : (i : Int) < (l.length : Int)
        · obtain ⟨j, rfl⟩ : ∃ j, gk = j + 1 := ⟨gk - 1, by omega⟩
          have hil : i < l.length := by omega
          have i0' : (0 : Int) ≤ (i : Int) := by omega
          have Hk := Lib.hid hk
          clear hk
          obtain ⟨b, off, rfl, q, d⟩ := Hr.out _ hb i hil
          have hbd := Hb.out i hil
          have hed := He.out i hil
          have htk : (l.take (i + 1)).map (fileOf data) = (l.take i).map (fileOf data) ++ [fileOf data l[i]] := by rw [List.take_succ_eq_append_getElem hil, List.map_append]; rfl
          have Htk := Lib.hid htk
          clear htk
          generalize l[i] = x at *
          obtain ⟨path, kind, mode, time, tgt, beg, size⟩ := x
          obtain ⟨d0, d1, d2, d3, d4, d5, d6⟩ := RdA.cells7 d
          simp only at d0 d1 d2 d3 d4 d5 d6 hbd hed Htk
          clear d
          obtain ⟨bn, rfl⟩ : ∃ n : Nat, beg = (n : Int) := ⟨beg.toNat, by omega⟩
          obtain ⟨sn, rfl⟩ : ∃ n : Nat, size = (n : Int) := ⟨size.toNat, by omega⟩
          obtain ⟨h1, h2, h3, h4⟩ := hbd
          have o1 := ho.new hb.size 30 #[.string (str path), .int .i64 kind, .int .i64 mode, .int .i64 time, .string (str tgt), .int .i64 (bn : Int), .int .i64 (sn : Int)]
          have hb1 := hb.alloc hb.size (.cells #[.string (str path), .int .i64 kind, .int .i64 mode, .int .i64 time, .string (str tgt), .int .i64 (bn : Int), .int .i64 (sn : Int)] 30)
          have o2 := o1.new hb1.size 41 #[.string (str path), .int .i64 kind, .int .i64 mode, .int .i64 time, .slice none 0 0, .string (str tgt)]
          have hb2 := hb1.alloc hb1.size (.cells #[.string (str path), .int .i64 kind, .int .i64 mode, .int .i64 time, .slice none 0 0, .string (str tgt)] 41)
          clear o1 hb1 ho hb
          go_wp2
          clear d0 d1 d2 d3 d4 d5 d6
          have g9e : (wr.alloc (.cells #[.string (str path), .int .i64 kind, .int .i64 mode, .int .i64 time, .string (str tgt), .int .i64 (bn : Int), .int .i64 (sn : Int)] 30)).heap.size = wr.heap.size + 1 := by simp
          rw [g9e] at o2
          generalize (wr.alloc (.cells #[.string (str path), .int .i64 kind, .int .i64 mode, .int .i64 time, .string (str tgt), .int .i64 (bn : Int), .int .i64 (sn : Int)] 30)).alloc (.cells #[.string (str path), .int .i64 kind, .int .i64 mode, .int .i64 time, .slice none 0 0, .string (str tgt)] 41) = W2 at *
          generalize wr.heap.size + 1 = g9 at *
          generalize wr.heap.size = g8 at *
          clear g9e
          have m1 : (bn : Int) + (sn : Int) ≤ (cd : Int) := by omega
          have m2 : (bn : Int) ≤ (bn : Int) + (sn : Int) := by omega
          have m3 : (0 : Int) ≤ (bn : Int) + (sn : Int) := by omega
          refine wp_region_mix (St w.heap.size _ W2) [0, 1, 2, 3, 4, 5, 6, 7, 8, 9, 10] [11, 12, 13] mixed (by kernel_rfl) rfl (St.drew hb2.size o2) ?_
          simp only [List.filterMap_cons, List.filterMap_nil, List.getElem?_toArray, List.getElem?_cons_succ, List.getElem?_cons_zero]
          repeat (first
            | (refine held_val ?_ rfl (fun w1 hS => ?_) ?_
               rotate_left
               · (have c4 : w1.cell? ⟨g9, 4, none⟩ = some (.slice none 0 0) := hS.2.1.cell 4; have e5 : w1.cell? ⟨g8, 5, none⟩ = some (.int .i64 (bn : Int)) := (hS.2.1.cast (sep_left_comm _ _ _)).cell 5; have e6 : w1.cell? ⟨g8, 6, none⟩ = some (.int .i64 (sn : Int)) := (hS.2.1.cast (sep_left_comm _ _ _)).cell 6
                  go_simp
                  try go_bits
                  rfl)
               simp only [Act.put, List.setIfInBounds_toArray, List.set_cons_zero, List.set_cons_succ])
            | (refine held_off rfl ?_
               simp only [Act.put, List.setIfInBounds_toArray, List.set_cons_zero, List.set_cons_succ]))
          refine held_nil ?_
          rintro w3 ⟨B3, o3, b3⟩
          have hb3 := hb2.trans b3
          have hsn : bn + sn - bn = sn := by omega
          have hdl : bn + sn ≤ data.length := by omega
          have hrd := Rd.cut (Hd.out _ hb3) hdl hdc.1 (cd - bn)
          have Htk := Lib.hid Htk.out
          have hfo : fileOf data ⟨path, kind, mode, time, tgt, (bn : Int), (sn : Int)⟩ = ⟨path, kind, mode, time, (data.drop bn).take sn, tgt⟩ := rfl
          have hpl : ((data.drop bn).take sn).length = sn := by rw [List.length_take, List.length_drop]; omega
          have Hfo := Lib.hid hfo
          clear hfo
          generalize (data.drop bn).take sn = part at *
          subst hpl
          rw [hsn]
          generalize (if cd = bn then Ad else Option.map (fun x => x.add bn) Ad) = As at *
          generalize cd - bn = cq at *
          obtain ⟨v4, w4, hrun4, o4, b4⟩ := byte_append (xs := []) B3 (o3.rw_nil 5 1) hrd (by simp; omega)
          rw [List.nil_append] at o4
          obtain ⟨Ap, cp, rfl⟩ := o4.row_n
          have B4 := Nat.le_trans B3 b4.size
          have hb4 := hb3.trans b4
          refine wpList_append_at rfl (.tmp 38) (.tmp 47) 39 rfl rfl rfl hrun4 ?_
          simp only [Act.put, List.setIfInBounds_toArray, List.set_cons_zero, List.set_cons_succ]
          clear hrun4 hrd o3 b3 b4 hb2 o2
          have k9 := o4.cast (sep_left_comm _ _ _)
          have c0 : w4.cell? ⟨g9, 0, none⟩ = some (.string (str path)) := k9.cell 0
          have c1 : w4.cell? ⟨g9, 1, none⟩ = some (.int .i64 kind) := k9.cell 1
          have c2 : w4.cell? ⟨g9, 2, none⟩ = some (.int .i64 mode) := k9.cell 2
          have c3 : w4.cell? ⟨g9, 3, none⟩ = some (.int .i64 time) := k9.cell 3
          have c4 : w4.cell? ⟨g9, 4, none⟩ = some (.slice none 0 0) := k9.cell 4
          have c5 : w4.cell? ⟨g9, 5, none⟩ = some (.string (str tgt)) := k9.cell 5
          have z4 := k9.unfrozen 4
          obtain ⟨B5, o5, b5⟩ := Own.step B4 k9 4 (.slice Ap part.length cp)
          have hb5 := hb4.trans b5
          clear o4 k9
          obtain ⟨g2, cap2, w6, hrun, o6, b6⟩ := row_append (P := Tryd.prog) hb5.size Tryd.underlying22 Hi0.out.1 Hi0.out.2.1 Hi0.out.2.2.1 Hi0.out.2.2.2 rfl (by omega) (o5.cast (show _ = Rw 41 6 (.slice A' i c') i (flat fiL fs) * (Bk g9 _ _ * (Bk g8 _ _ * (Rw _ _ _ _ _ * (Dat fs * Emp)))) by ac_rfl)) #[.string (str path), .int .i64 kind, .int .i64 mode, .int .i64 time, .slice Ap part.length cp, .string (str tgt)] rfl
            (by intro u hu; simp at hu; rcases hu with rfl | rfl | rfl | rfl | rfl | rfl <;> rfl) (by omega) (by omega)
          rw [show (w4.setCell ⟨g9, 4, none⟩ (.slice Ap part.length cp)).heap.size = w4.heap.size by simp [World.setCell]] at hrun
          have Hrun := Lib.hid hrun
          have hb6 := hb5.trans b6
          have o7 := (o6.cast (show _ = Bk g9 _ _ * (Bk g8 _ _ * (Dat fs * (Rw _ _ _ _ _ * (Rw 41 6 _ _ _ * Emp)))) by ac_rfl)).right.right
          have o8 := Own.dat_snoc (x := (⟨path, kind, mode, time, part, tgt⟩, .slice Ap part.length cp)) o7
          have o9 : Own w.heap.size (Rw 41 6 (.slice (some ⟨g2, 0, none⟩) (i + 1) cap2) (i + 1) (flat fiL (fs ++ [(⟨path, kind, mode, time, part, tgt⟩, .slice Ap part.length cp)])) * (Dat (fs ++ [(⟨path, kind, mode, time, part, tgt⟩, .slice Ap part.length cp)]) * Emp)) w6 := by
            rw [flat_snoc]
            exact o8.cast (by ac_rfl)
          have Hnew := Lib.hid (And.intro hb6 o9)
          clear hrun o5 o6 o7 o8 o9 hb6 hb5 hb4 hb3 b6 b5
          go_wp2_with (at_builtin; refine wpList_append_at rfl (.tmp 50) (.tmp 52) 22 rfl rfl rfl Hrun.out ?_)
          go_roundg j
          case measure => omega
          case rel => exact ⟨i + 1, some ⟨g2, 0, none⟩, cap2, _, by have := Hk.out; omega, rfl, rfl, Lib.hid ⟨by rw [List.length_append, hfs.out.1]; rfl, by rw [List.map_append, hfs.out.2, Htk.out, Hfo.out]; rfl⟩, Hnew.out.1, Hnew.out.2⟩
        · obtain rfl : i = l.length := by omega
          obtain ⟨q1, q2⟩ := hfs.out
          rw [List.take_length] at q2
          go_wp2
          go_ret2
          rw [e0.out]
          exact FillP.mk rfl rfl q1.symm q2 ho.cap ⟨ho.rdA fiL_len q1.symm, ho.right.dat⟩ hb
    · have e0 : Hid (fillE l data = none) := Lib.hid (by unfold fillE; rw [if_neg]; rintro ⟨_, h1⟩; exact ht h1)
      have ht1 : ¬ (totalE l) = (data.length : Int) := fun e => ht e.symm
      clear h hr hd hff hi hz0 hz1 hz2
      generalize totalE l = tt at *
      go_enter Tryd.func21, Tryd.ntmps21
      go_wp2_with fail
      refine (F.out _ (Hh.out _ hb) (Hr.out _ hb)).mono ?_
      rintro e wz ⟨rfl, b⟩
      replace hb := hb.trans (b.mono hb.size)
      clear b
      go_wp2_with fail
      refine (T.out _ (Hh.out _ hb) (Hr.out _ hb)).mono ?_
      rintro e wz ⟨rfl, b⟩
      replace hb := hb.trans (b.mono hb.size)
      clear b
      have ht2 : ((data.length : Int) == tt) = false := by simpa using ht
      go_wp2
      go_ret2
      rw [e0.out]
      exact ⟨rfl, hb⟩
end Go.Proofs.YtfppancidgamjaaDoor

/- The walk over Files of the laws on entries. -/
namespace Go.Proofs.YtfppancidgamjaaDoor
set_option linter.unusedVariables false
set_option linter.unusedSimpArgs false
open Go.RowKit

/-- string(b) of bytes that one can read. -/
theorem str_of_rd {w : World} {v : Value} {data : List UInt8} (h : Rd w v (bytesU data)) : (convert 39 9 v).run Tryd.prog w = .ok (.string (str data)) w := by
  obtain ⟨A, c, rfl, hr⟩ := h
  rw [bytesU_length]
  by_cases hne : bytesU data = []
  · obtain rfl : data = [] := by simpa [bytesU] using hne
    cases A with
    | none => exact run_convert_bytes_nil w 39 5 Tryd.underlying39 Tryd.underlying5 0 c 9 Tryd.underlying9
    | some ad => exact run_convert_bytes_back w 39 9 5 ad c [] Tryd.underlying39 Tryd.underlying5 Tryd.underlying9 (fun j hj => absurd hj (by simp))
  · obtain ⟨ad, rfl, hc⟩ := hr hne
    exact run_convert_bytes_back w 39 9 5 ad c data Tryd.underlying39 Tryd.underlying5 Tryd.underlying9 (fun j hj => hc j _ (by simp [bytesU, hj]))

set_option maxRecDepth 100000 in
set_option maxHeartbeats 3200000 in
theorem files_same (A B : Option Addr) (ca cb : Nat) (a b : List (Fi × Value)) (ha : a.length ≤ 4294967296) (he : a.map (·.1) = b.map (·.1)) (w : World) (hra : RdF w A a) (hrb : RdF w B b) :
    Calls Tryd.prog 22 #[.slice A a.length ca, .slice B b.length cb] w fun e w' => e = .returned (.bool true) ∧ Below w.heap.size w w' := by
  have hb := Below.refl w.heap.size w
  have Ha := Lib.hid (fun w1 (h : Below w.heap.size w w1) => hra.below h)
  have Hb := Lib.hid (fun w1 (h : Below w.heap.size w w1) => hrb.below h)
  have hlen : b.length = a.length := by simpa using (congrArg List.length he).symm
  have He := Lib.hid (fun i (h1 : i < a.length) (h2 : i < b.length) => show a[i].1 = b[i].1 by
    have := List.getElem_of_eq he (i := i) (by simpa using h1)
    simpa using this)
  have n1 : (a.length : Int) ≤ 4294967296 := by omega
  have Hlen := Lib.hid hlen
  rw [hlen]
  clear hra hrb he hlen
  obtain ⟨n, hal⟩ : ∃ n, n = a.length := ⟨_, rfl⟩
  rw [← hal] at n1 ⊢
  have Hal := Lib.hid hal
  clear hal ha
  have hnn : (n == n) = true := by simp
  go_enter Tryd.func22, Tryd.ntmps22
  go_wp2
  go_loopg [15] n (fun k v wr => ∃ i : Nat, k + i = n ∧ v = .int .i64 i ∧ Below w.heap.size w wr)
  case atStart => exact ⟨0, by omega, rfl, hb⟩
  case round =>
    clear hb
    obtain ⟨i, hk, rfl, hb⟩ := hrel
    by_cases hlt : (i : Int) < (n : Int)
    · obtain ⟨j, rfl⟩ : ∃ j, gk = j + 1 := ⟨gk - 1, by omega⟩
      have hil : i < a.length := by have := Hal.out; omega
      have hil2 : i < b.length := by have := Hal.out; have := Hlen.out; omega
      have i0' : (0 : Int) ≤ (i : Int) := by omega
      obtain ⟨p1, o1, rfl, q1, d⟩ := (Ha.out _ hb).1 i hil
      obtain ⟨p2, o2, rfl, q2, d'⟩ := (Hb.out _ hb).1 i hil2
      obtain ⟨d0, d1, d2, d3, d4, d5⟩ := cells6 d
      obtain ⟨e0, e1, e2, e3, e4, e5⟩ := cells6 d'
      have r1 := (Ha.out _ hb).2 _ (List.getElem_mem hil)
      have r2 := (Hb.out _ hb).2 _ (List.getElem_mem hil2)
      have hg := He.out i hil hil2
      have Hk := Lib.hid hk
      clear d d' hk
      rw [← hg] at e0 e1 e2 e3 e5 r2
      clear hg
      generalize a[i] = x at *
      generalize b[i].2 = yv at *
      obtain ⟨⟨path, kind, mode, time, data, tgt⟩, xv⟩ := x
      simp only at d0 d1 d2 d3 d4 d5 e0 e1 e2 e3 e4 e5 r1 r2
      obtain ⟨Ax, cx, hx⟩ : ∃ A c, xv = .slice A data.length c := by obtain ⟨A, c, h, _⟩ := r1; exact ⟨A, c, by rw [h, bytesU_length]⟩
      obtain ⟨Ay, cy, hy⟩ : ∃ A c, yv = .slice A data.length c := by obtain ⟨A, c, h, _⟩ := r2; exact ⟨A, c, by rw [h, bytesU_length]⟩
      subst hx; subst hy
      generalize hdn : data.length = dn at *
      clear hdn
      have b1 := (Below.refl wr.heap.size wr).alloc (Nat.le_refl _) (.cells #[.string (str path), .int .i64 kind, .int .i64 mode, .int .i64 time, .slice Ax dn cx, .string (str tgt)] 41)
      have b2 := b1.alloc (by simp) (.cells #[.string (str path), .int .i64 kind, .int .i64 mode, .int .i64 time, .slice Ay dn cy, .string (str tgt)] 41)
      have s1 := str_of_rd (r1.below b2)
      have s2 := str_of_rd (r2.below b2)
      have hb2 := hb.trans (b2.mono hb.size)
      clear r1 r2 b1 b2 hb
      go_wp2
      go_roundg j
      case measure => omega
      case rel => exact ⟨i + 1, by have := Hk.out; omega, rfl, hb2⟩
    · go_wp2
      go_ret
      exact ⟨rfl, hb⟩
end Go.Proofs.YtfppancidgamjaaDoor

/- The walk over read of package entry: an entry out of a reader. -/
namespace Go.Proofs.YtfppancidgamjaaDoor
set_option linter.unusedVariables false
set_option linter.unusedSimpArgs false
open Go.RowKit

def mx : Int := 1099511627775
def stN (s : OS) : Nat → OS
  | 0 => s
  | i + 1 => (readNum (stN s i) mx).2
def vN (s : OS) (i : Nat) : Int := (readNum (stN s i) mx).1
theorem stN_rest (s : OS) : ∀ i, (stN s i).rest.length ≤ s.rest.length
  | 0 => Nat.le_refl _
  | i + 1 => Nat.le_trans (readNum_rest _ _) (stN_rest s i)
/-- An entry out of a reader. -/
def readE (s : OS) : En × OS :=
  let b1 := readBytes (stN s 5) 256
  let b2 := readBytes b1.2 256
  (⟨b1.1, vN s 0, vN s 1, vN s 2, b2.1, vN s 3, vN s 4⟩, b2.2)
def cN (s : OS) (i j : Nat) : Value := .int .i64 (if j < i then vN s j else 0)
def cellsN (s : OS) (i : Nat) : Array Value := #[.string ByteArray.empty, cN s i 0, cN s i 1, cN s i 2, .string ByteArray.empty, cN s i 3, cN s i 4]
def ptrsN (X : Nat) : Array Value := #[.pointer (some ⟨X, 1, none⟩), .pointer (some ⟨X, 2, none⟩), .pointer (some ⟨X, 3, none⟩), .pointer (some ⟨X, 5, none⟩), .pointer (some ⟨X, 6, none⟩)]
def zero7 : Array Value := #[.string ByteArray.empty, .int .i64 0, .int .i64 0, .int .i64 0, .string ByteArray.empty, .int .i64 0, .int .i64 0]


set_option maxRecDepth 100000 in
set_option maxHeartbeats 6400000 in
theorem readE_any (p : Nat) (s : OS) (vs : List (Value × List UInt8)) (hl : s.rest.length ≤ 9223372036854775807) (B : Nat) (R : HP) [Loc B R] (w : World) (hB : B ≤ w.heap.size) (hO : Own B (Rdr p s vs * R) w) :
    Calls Tryd.prog 40 #[.pointer (some ⟨p, 0, none⟩)] w (Ret B w (.agg (enL (readE s).1).toArray) (Rdr p (readE s).2 vs * R)) := by
  have o0 := hO.new hB 30 zero7
  have b0 := (Below.refl B w).alloc hB (.cells zero7 30)
  have B0 := Nat.le_trans hB b0.size
  have o1 := o0.new B0 30 zero7
  have b1 := b0.alloc B0 (.cells zero7 30)
  have B1 := Nat.le_trans hB b1.size
  have e1 : (w.alloc (.cells zero7 30)).heap.size = w.heap.size + 1 := by simp
  rw [e1] at o1
  have o2 := o1.new B1 85 (ptrsN (w.heap.size + 1))
  have b2 := b1.alloc B1 (.cells (ptrsN (w.heap.size + 1)) 85)
  have e2 : ((w.alloc (.cells zero7 30)).alloc (.cells zero7 30)).heap.size = w.heap.size + 2 := by simp
  rw [e2] at o2
  have oS : Own B (Bk (w.heap.size + 1) 30 (cellsN s 0) * (Bk (w.heap.size + 2) 85 (ptrsN (w.heap.size + 1)) * (Bk w.heap.size 30 zero7 * (Rdr p (stN s 0) vs * R)))) (((w.alloc (.cells zero7 30)).alloc (.cells zero7 30)).alloc (.cells (ptrsN (w.heap.size + 1)) 85)) :=
    o2.cast (by show Bk _ _ _ * (Bk _ _ zero7 * (Bk _ _ _ * _)) = _; rw [show zero7 = cellsN s 0 by simp [zero7, cellsN, cN]]; show (_ : HP) = _; ac_rfl)
  clear o0 o1 o2 b0 b1 e1 e2 hO
  go_enter Tryd.func40, Tryd.ntmps40
  go_wp2
  go_loopg [13] 5 (fun k v wr => ∃ i : Nat, k + i = 5 ∧ v = .int .i64 (i : Int) ∧ Own B (Bk (w.heap.size + 1) 30 (cellsN s i) * (Bk (w.heap.size + 2) 85 (ptrsN (w.heap.size + 1)) * (Bk w.heap.size 30 zero7 * (Rdr p (stN s i) vs * R)))) wr ∧ Below B w wr)
  case atStart => exact ⟨0, rfl, rfl, oS, b2⟩
  case round =>
    clear oS b2
    obtain ⟨i, hk, rfl, ho, hb⟩ := hrel
    have Bw : B ≤ wr.heap.size := Nat.le_trans hB hb.size
    by_cases hlt : i < 5
    · obtain ⟨j, rfl⟩ : ∃ j, gk = j + 1 := ⟨gk - 1, by omega⟩
      have hi5 : i = 0 ∨ i = 1 ∨ i = 2 ∨ i = 3 ∨ i = 4 := by omega
      rcases hi5 with rfl | rfl | rfl | rfl | rfl
      · have cY : wr.cell? ⟨w.heap.size + 2, 0, none⟩ = some (.pointer (some ⟨w.heap.size + 1, 1, none⟩)) := ho.cellOf (w.heap.size + 2) 0
        have N := rnum_any p (stN s 0) vs (Nat.le_trans (stN_rest s 0) hl) mx B (Bk (w.heap.size + 1) 30 (cellsN s 0) * (Bk (w.heap.size + 2) 85 (ptrsN (w.heap.size + 1)) * (Bk w.heap.size 30 zero7 * R))) wr Bw (ho.foc (Rdr p (stN s 0) vs))
        have n0 : (readNum (stN s 0) mx).1 = vN s 0 := rfl
        rw [n0] at N
        clear n0 ho
        go_wp2_with fail
        refine N.mono ?_
        rintro e w2 ⟨rfl, o2, b2⟩
        clear N cY
        have B2 := Nat.le_trans Bw b2.size
        have o2 : Own B (Rdr p (stN s (0 + 1)) vs * (Bk (w.heap.size + 1) 30 (cellsN s 0) * (Bk (w.heap.size + 2) 85 (ptrsN (w.heap.size + 1)) * (Bk w.heap.size 30 zero7 * R)))) w2 := o2
        have cX : w2.cell? ⟨w.heap.size + 1, 1, none⟩ = some (.int .i64 0) := (o2.cellOf (w.heap.size + 1) 1).trans (by simp [cellsN, cN])
        have zX := o2.freeOf (w.heap.size + 1) 1
        obtain ⟨o3, b3⟩ := o2.setOf B2 (w.heap.size + 1) 1 (.int .i64 (vN s 0))
        have hb3 := (hb.trans b2).trans b3
        have o4 : Own B (Bk (w.heap.size + 1) 30 (cellsN s (0 + 1)) * (Bk (w.heap.size + 2) 85 (ptrsN (w.heap.size + 1)) * (Bk w.heap.size 30 zero7 * (Rdr p (stN s (0 + 1)) vs * R)))) (w2.setCell ⟨w.heap.size + 1, 1, none⟩ (.int .i64 (vN s 0))) := by
          have e : (cellsN s 0).setIfInBounds 1 (.int .i64 (vN s 0)) = cellsN s (0 + 1) := by simp [cellsN, cN]
          rw [e] at o3
          exact o3.cast (by show (_ : HP) = _; ac_rfl)
        clear o2 o3 hb
        go_wp2
        go_roundg j
        case measure => omega
        case rel => exact ⟨0 + 1, by omega, rfl, o4, hb3⟩
      · have cY : wr.cell? ⟨w.heap.size + 2, 1, none⟩ = some (.pointer (some ⟨w.heap.size + 1, 2, none⟩)) := ho.cellOf (w.heap.size + 2) 1
        have N := rnum_any p (stN s 1) vs (Nat.le_trans (stN_rest s 1) hl) mx B (Bk (w.heap.size + 1) 30 (cellsN s 1) * (Bk (w.heap.size + 2) 85 (ptrsN (w.heap.size + 1)) * (Bk w.heap.size 30 zero7 * R))) wr Bw (ho.foc (Rdr p (stN s 1) vs))
        have n0 : (readNum (stN s 1) mx).1 = vN s 1 := rfl
        rw [n0] at N
        clear n0 ho
        go_wp2_with fail
        refine N.mono ?_
        rintro e w2 ⟨rfl, o2, b2⟩
        clear N cY
        have B2 := Nat.le_trans Bw b2.size
        have o2 : Own B (Rdr p (stN s (1 + 1)) vs * (Bk (w.heap.size + 1) 30 (cellsN s 1) * (Bk (w.heap.size + 2) 85 (ptrsN (w.heap.size + 1)) * (Bk w.heap.size 30 zero7 * R)))) w2 := o2
        have cX : w2.cell? ⟨w.heap.size + 1, 2, none⟩ = some (.int .i64 0) := (o2.cellOf (w.heap.size + 1) 2).trans (by simp [cellsN, cN])
        have zX := o2.freeOf (w.heap.size + 1) 2
        obtain ⟨o3, b3⟩ := o2.setOf B2 (w.heap.size + 1) 2 (.int .i64 (vN s 1))
        have hb3 := (hb.trans b2).trans b3
        have o4 : Own B (Bk (w.heap.size + 1) 30 (cellsN s (1 + 1)) * (Bk (w.heap.size + 2) 85 (ptrsN (w.heap.size + 1)) * (Bk w.heap.size 30 zero7 * (Rdr p (stN s (1 + 1)) vs * R)))) (w2.setCell ⟨w.heap.size + 1, 2, none⟩ (.int .i64 (vN s 1))) := by
          have e : (cellsN s 1).setIfInBounds 2 (.int .i64 (vN s 1)) = cellsN s (1 + 1) := by simp [cellsN, cN]
          rw [e] at o3
          exact o3.cast (by show (_ : HP) = _; ac_rfl)
        clear o2 o3 hb
        go_wp2
        go_roundg j
        case measure => omega
        case rel => exact ⟨1 + 1, by omega, rfl, o4, hb3⟩
      · have cY : wr.cell? ⟨w.heap.size + 2, 2, none⟩ = some (.pointer (some ⟨w.heap.size + 1, 3, none⟩)) := ho.cellOf (w.heap.size + 2) 2
        have N := rnum_any p (stN s 2) vs (Nat.le_trans (stN_rest s 2) hl) mx B (Bk (w.heap.size + 1) 30 (cellsN s 2) * (Bk (w.heap.size + 2) 85 (ptrsN (w.heap.size + 1)) * (Bk w.heap.size 30 zero7 * R))) wr Bw (ho.foc (Rdr p (stN s 2) vs))
        have n0 : (readNum (stN s 2) mx).1 = vN s 2 := rfl
        rw [n0] at N
        clear n0 ho
        go_wp2_with fail
        refine N.mono ?_
        rintro e w2 ⟨rfl, o2, b2⟩
        clear N cY
        have B2 := Nat.le_trans Bw b2.size
        have o2 : Own B (Rdr p (stN s (2 + 1)) vs * (Bk (w.heap.size + 1) 30 (cellsN s 2) * (Bk (w.heap.size + 2) 85 (ptrsN (w.heap.size + 1)) * (Bk w.heap.size 30 zero7 * R)))) w2 := o2
        have cX : w2.cell? ⟨w.heap.size + 1, 3, none⟩ = some (.int .i64 0) := (o2.cellOf (w.heap.size + 1) 3).trans (by simp [cellsN, cN])
        have zX := o2.freeOf (w.heap.size + 1) 3
        obtain ⟨o3, b3⟩ := o2.setOf B2 (w.heap.size + 1) 3 (.int .i64 (vN s 2))
        have hb3 := (hb.trans b2).trans b3
        have o4 : Own B (Bk (w.heap.size + 1) 30 (cellsN s (2 + 1)) * (Bk (w.heap.size + 2) 85 (ptrsN (w.heap.size + 1)) * (Bk w.heap.size 30 zero7 * (Rdr p (stN s (2 + 1)) vs * R)))) (w2.setCell ⟨w.heap.size + 1, 3, none⟩ (.int .i64 (vN s 2))) := by
          have e : (cellsN s 2).setIfInBounds 3 (.int .i64 (vN s 2)) = cellsN s (2 + 1) := by simp [cellsN, cN]
          rw [e] at o3
          exact o3.cast (by show (_ : HP) = _; ac_rfl)
        clear o2 o3 hb
        go_wp2
        go_roundg j
        case measure => omega
        case rel => exact ⟨2 + 1, by omega, rfl, o4, hb3⟩
      · have cY : wr.cell? ⟨w.heap.size + 2, 3, none⟩ = some (.pointer (some ⟨w.heap.size + 1, 5, none⟩)) := ho.cellOf (w.heap.size + 2) 3
        have N := rnum_any p (stN s 3) vs (Nat.le_trans (stN_rest s 3) hl) mx B (Bk (w.heap.size + 1) 30 (cellsN s 3) * (Bk (w.heap.size + 2) 85 (ptrsN (w.heap.size + 1)) * (Bk w.heap.size 30 zero7 * R))) wr Bw (ho.foc (Rdr p (stN s 3) vs))
        have n0 : (readNum (stN s 3) mx).1 = vN s 3 := rfl
        rw [n0] at N
        clear n0 ho
        go_wp2_with fail
        refine N.mono ?_
        rintro e w2 ⟨rfl, o2, b2⟩
        clear N cY
        have B2 := Nat.le_trans Bw b2.size
        have o2 : Own B (Rdr p (stN s (3 + 1)) vs * (Bk (w.heap.size + 1) 30 (cellsN s 3) * (Bk (w.heap.size + 2) 85 (ptrsN (w.heap.size + 1)) * (Bk w.heap.size 30 zero7 * R)))) w2 := o2
        have cX : w2.cell? ⟨w.heap.size + 1, 5, none⟩ = some (.int .i64 0) := (o2.cellOf (w.heap.size + 1) 5).trans (by simp [cellsN, cN])
        have zX := o2.freeOf (w.heap.size + 1) 5
        obtain ⟨o3, b3⟩ := o2.setOf B2 (w.heap.size + 1) 5 (.int .i64 (vN s 3))
        have hb3 := (hb.trans b2).trans b3
        have o4 : Own B (Bk (w.heap.size + 1) 30 (cellsN s (3 + 1)) * (Bk (w.heap.size + 2) 85 (ptrsN (w.heap.size + 1)) * (Bk w.heap.size 30 zero7 * (Rdr p (stN s (3 + 1)) vs * R)))) (w2.setCell ⟨w.heap.size + 1, 5, none⟩ (.int .i64 (vN s 3))) := by
          have e : (cellsN s 3).setIfInBounds 5 (.int .i64 (vN s 3)) = cellsN s (3 + 1) := by simp [cellsN, cN]
          rw [e] at o3
          exact o3.cast (by show (_ : HP) = _; ac_rfl)
        clear o2 o3 hb
        go_wp2
        go_roundg j
        case measure => omega
        case rel => exact ⟨3 + 1, by omega, rfl, o4, hb3⟩
      · have cY : wr.cell? ⟨w.heap.size + 2, 4, none⟩ = some (.pointer (some ⟨w.heap.size + 1, 6, none⟩)) := ho.cellOf (w.heap.size + 2) 4
        have N := rnum_any p (stN s 4) vs (Nat.le_trans (stN_rest s 4) hl) mx B (Bk (w.heap.size + 1) 30 (cellsN s 4) * (Bk (w.heap.size + 2) 85 (ptrsN (w.heap.size + 1)) * (Bk w.heap.size 30 zero7 * R))) wr Bw (ho.foc (Rdr p (stN s 4) vs))
        have n0 : (readNum (stN s 4) mx).1 = vN s 4 := rfl
        rw [n0] at N
        clear n0 ho
        go_wp2_with fail
        refine N.mono ?_
        rintro e w2 ⟨rfl, o2, b2⟩
        clear N cY
        have B2 := Nat.le_trans Bw b2.size
        have o2 : Own B (Rdr p (stN s (4 + 1)) vs * (Bk (w.heap.size + 1) 30 (cellsN s 4) * (Bk (w.heap.size + 2) 85 (ptrsN (w.heap.size + 1)) * (Bk w.heap.size 30 zero7 * R)))) w2 := o2
        have cX : w2.cell? ⟨w.heap.size + 1, 6, none⟩ = some (.int .i64 0) := (o2.cellOf (w.heap.size + 1) 6).trans (by simp [cellsN, cN])
        have zX := o2.freeOf (w.heap.size + 1) 6
        obtain ⟨o3, b3⟩ := o2.setOf B2 (w.heap.size + 1) 6 (.int .i64 (vN s 4))
        have hb3 := (hb.trans b2).trans b3
        have o4 : Own B (Bk (w.heap.size + 1) 30 (cellsN s (4 + 1)) * (Bk (w.heap.size + 2) 85 (ptrsN (w.heap.size + 1)) * (Bk w.heap.size 30 zero7 * (Rdr p (stN s (4 + 1)) vs * R)))) (w2.setCell ⟨w.heap.size + 1, 6, none⟩ (.int .i64 (vN s 4))) := by
          have e : (cellsN s 4).setIfInBounds 6 (.int .i64 (vN s 4)) = cellsN s (4 + 1) := by simp [cellsN, cN]
          rw [e] at o3
          exact o3.cast (by show (_ : HP) = _; ac_rfl)
        clear o2 o3 hb
        go_wp2
        go_roundg j
        case measure => omega
        case rel => exact ⟨4 + 1, by omega, rfl, o4, hb3⟩
    · obtain rfl : i = 5 := by omega
      have Y := Lib.hid (fun w1 hB o => rbytes_any p (stN s 5) vs (Nat.le_trans (stN_rest s 5) hl) 256 (by omega) B (Bk (w.heap.size + 1) 30 (cellsN s 5) * (Bk w.heap.size 30 zero7 * R)) w1 hB o)
      have o5 : Own B (Rdr p (stN s 5) vs * (Bk (w.heap.size + 1) 30 (cellsN s 5) * (Bk w.heap.size 30 zero7 * R))) wr := Own.right (A := Bk (w.heap.size + 2) 85 (ptrsN (w.heap.size + 1))) (ho.cast (by ac_rfl))
      clear ho
      go_wp2_with fail
      refine (Y.out wr Bw o5).mono ?_
      rintro e w2 ⟨x, rfl, o6, b6⟩
      have B2 := Nat.le_trans Bw b6.size
      have s1 := str_of_rd (o6.rdr_view (x := (x, (readBytes (stN s 5) 256).1)) List.mem_cons_self)
      have cX : w2.cell? ⟨w.heap.size + 1, 0, none⟩ = some (.string ByteArray.empty) := o6.cellOf (w.heap.size + 1) 0
      have zX := o6.freeOf (w.heap.size + 1) 0
      obtain ⟨o7, b7⟩ := (o6.rdr_less (vs' := vs) (fun x hx => List.mem_cons_of_mem _ hx)).setOf B2 (w.heap.size + 1) 0 (.string (str (readBytes (stN s 5) 256).1))
      have B7 := Nat.le_trans B2 b7.size
      have hl6 : (readBytes (stN s 5) 256).2.rest.length ≤ 9223372036854775807 := Nat.le_trans (readBytes_len (stN s 5) 256 (by omega)).2 (Nat.le_trans (stN_rest s 5) hl)
      have Y2 := Lib.hid (fun w1 hB (R : HP) [Loc B R] o => rbytes_any p (readBytes (stN s 5) 256).2 vs hl6 256 (by omega) B R w1 hB o)
      have He : Hid (readE s = (⟨(readBytes (stN s 5) 256).1, vN s 0, vN s 1, vN s 2, (readBytes (readBytes (stN s 5) 256).2 256).1, vN s 3, vN s 4⟩, (readBytes (readBytes (stN s 5) 256).2 256).2)) := Lib.hid rfl
      have e1 : (cellsN s 5).setIfInBounds 0 (.string (str (readBytes (stN s 5) 256).1)) = #[.string (str (readBytes (stN s 5) 256).1), .int .i64 (vN s 0), .int .i64 (vN s 1), .int .i64 (vN s 2), .string ByteArray.empty, .int .i64 (vN s 3), .int .i64 (vN s 4)] := by simp [cellsN, cN]
      simp only [e1] at o7
      clear e1 o6 o5 Y
      generalize (readBytes (stN s 5) 256).1 = p1 at *
      generalize (readBytes (stN s 5) 256).2 = sb at *
      go_wp2_with fail
      refine (Y2.out _ B7 _ o7).mono ?_
      rintro e w3 ⟨y, rfl, o8, b8⟩
      have B8 := Nat.le_trans B7 b8.size
      have s2 := str_of_rd (o8.rdr_view (x := (y, (readBytes sb 256).1)) List.mem_cons_self)
      generalize (readBytes sb 256).1 = p2 at *
      generalize (readBytes sb 256).2 = sc at *
      have o8 := o8.rdr_less (vs' := vs) (fun x hx => List.mem_cons_of_mem _ hx)
      have k0 : w3.cell? ⟨w.heap.size + 1, 0, none⟩ = some (.string (str p1)) := o8.cellOf (w.heap.size + 1) 0
      have k1 : w3.cell? ⟨w.heap.size + 1, 1, none⟩ = some (.int .i64 (vN s 0)) := o8.cellOf (w.heap.size + 1) 1
      have k2 : w3.cell? ⟨w.heap.size + 1, 2, none⟩ = some (.int .i64 (vN s 1)) := o8.cellOf (w.heap.size + 1) 2
      have k3 : w3.cell? ⟨w.heap.size + 1, 3, none⟩ = some (.int .i64 (vN s 2)) := o8.cellOf (w.heap.size + 1) 3
      have k4 : w3.cell? ⟨w.heap.size + 1, 4, none⟩ = some (.string ByteArray.empty) := o8.cellOf (w.heap.size + 1) 4
      have k5 : w3.cell? ⟨w.heap.size + 1, 5, none⟩ = some (.int .i64 (vN s 3)) := o8.cellOf (w.heap.size + 1) 5
      have k6 : w3.cell? ⟨w.heap.size + 1, 6, none⟩ = some (.int .i64 (vN s 4)) := o8.cellOf (w.heap.size + 1) 6
      have z4 := o8.freeOf (w.heap.size + 1) 4
      obtain ⟨o9, b9⟩ := o8.setOf B8 (w.heap.size + 1) 4 (.string (str p2))
      have B9 := Nat.le_trans B8 b9.size
      have o9 := o9.foc (Bk w.heap.size 30 zero7)
      generalize hw9 : w3.setCell ⟨w.heap.size + 1, 4, none⟩ (.string (str p2)) = w9 at o9 b9 B9
      have c0 : w9.cell? ⟨w.heap.size, 0, none⟩ = some (.string ByteArray.empty) := o9.cell 0
      have c1 : w9.cell? ⟨w.heap.size, 1, none⟩ = some (.int .i64 0) := o9.cell 1
      have c2 : w9.cell? ⟨w.heap.size, 2, none⟩ = some (.int .i64 0) := o9.cell 2
      have c3 : w9.cell? ⟨w.heap.size, 3, none⟩ = some (.int .i64 0) := o9.cell 3
      have c4 : w9.cell? ⟨w.heap.size, 4, none⟩ = some (.string ByteArray.empty) := o9.cell 4
      have c5 : w9.cell? ⟨w.heap.size, 5, none⟩ = some (.int .i64 0) := o9.cell 5
      have c6 : w9.cell? ⟨w.heap.size, 6, none⟩ = some (.int .i64 0) := o9.cell 6
      have f0 := o9.unfrozen 0
      have f1 := o9.unfrozen 1
      have f2 := o9.unfrozen 2
      have f3 := o9.unfrozen 3
      have f4 := o9.unfrozen 4
      have f5 := o9.unfrozen 5
      have f6 := o9.unfrozen 6
      obtain ⟨o10, b10⟩ := Own.set7 B9 o9 (.string (str p1)) (.int .i64 (vN s 0)) (.int .i64 (vN s 1)) (.int .i64 (vN s 2)) (.string (str p2)) (.int .i64 (vN s 3)) (.int .i64 (vN s 4))
      have hbk := o10.bk.1
      have hbF := ((((hb.trans b6).trans b7).trans b8).trans b9).trans b10
      have oF := (o10.foc (Rdr p sc vs)).cast (show _ = Rdr p sc vs * (Bk w.heap.size _ _ * (Bk (w.heap.size + 1) _ _ * R)) from rfl)
      have hF : Own B (Rdr p sc vs * R) _ := oF.cast (show _ = Bk w.heap.size _ _ * (Bk (w.heap.size + 1) _ _ * (Rdr p sc vs * R)) by ac_rfl) |>.right.right
      subst hw9
      clear o7 o8 o9 o10 oF Y2 b6 b7 b8 b9 b10
      go_wp2
      refine bodyPost_ret (results_cell_row rfl _ _ w.heap.size 30 #[.string (str p1), .int .i64 (vN s 0), .int .i64 (vN s 1), .int .i64 (vN s 2), .string (str p2), .int .i64 (vN s 3), .int .i64 (vN s 4)] (0, 0) _ rfl hbk Tryd.underlying30 rfl (by kernel_rfl)) rfl ?_
      rw [He.out]
      exact ⟨rfl, hF, hbF⟩
end Go.Proofs.YtfppancidgamjaaDoor

/- Entries as bytes: plain laws of what is written, and of what is read. -/
namespace Go.Proofs.YtfppancidgamjaaDoor
set_option linter.unusedVariables false
set_option linter.unusedSimpArgs false

def obytes (x : List UInt8) : List UInt8 := onumI (x.length : Int) ++ x
def encE (e : En) : List UInt8 := onumI e.kind ++ (onumI e.mode ++ (onumI e.time ++ (onumI e.beg ++ (onumI e.size ++ (obytes e.path ++ obytes e.tgt)))))
def encL (l : List En) : List UInt8 := onumI (l.length : Int) ++ l.flatMap encE
structure En.num (e : En) : Prop where
  kind : 0 ≤ e.kind ∧ e.kind ≤ 1099511627775
  mode : 0 ≤ e.mode ∧ e.mode ≤ 1099511627775
  time : 0 ≤ e.time ∧ e.time ≤ 1099511627775
  beg : 0 ≤ e.beg ∧ e.beg ≤ 1099511627775
  size : 0 ≤ e.size ∧ e.size ≤ 1099511627775
  path : e.path.length ≤ 256
  tgt : e.tgt.length ≤ 256
theorem onumI_in {n : Int} (h : 0 ≤ n ∧ n ≤ 1099511627775) : onumI n = onum n.toNat := by unfold onumI; rw [if_neg (by omega)]
theorem readNum_onumI {n : Int} (h : 0 ≤ n ∧ n ≤ 1099511627775) (most : Int) (hm : n ≤ most) (r : List UInt8) : readNum ⟨onumI n ++ r, 0⟩ most = (n, ⟨r, 0⟩) := by
  rw [onumI_in h, readNum_onum (by omega) most (by omega), Int.toNat_of_nonneg h.1]
theorem obytes_eq (x : List UInt8) (h : x.length ≤ 1099511627775) : obytes x = bytesN x := by unfold obytes bytesN; rw [onumI_in (by omega), Int.toNat_natCast]
theorem readE_encE {e : En} (h : e.num) (r : List UInt8) : readE ⟨encE e ++ r, 0⟩ = (e, ⟨r, 0⟩) := by
  obtain ⟨h1, h2, h3, h4, h5, h6, h7⟩ := h
  obtain ⟨path, kind, mode, time, tgt, beg, size⟩ := e
  simp only at h1 h2 h3 h4 h5 h6 h7
  unfold encE
  simp only [List.append_assoc]
  have s1 : stN ⟨onumI kind ++ (onumI mode ++ (onumI time ++ (onumI beg ++ (onumI size ++ (obytes path ++ (obytes tgt ++ r)))))), 0⟩ 1 = ⟨onumI mode ++ (onumI time ++ (onumI beg ++ (onumI size ++ (obytes path ++ (obytes tgt ++ r))))), 0⟩ := by
    unfold stN stN; rw [readNum_onumI h1 mx h1.2]
  generalize hs : (⟨onumI kind ++ (onumI mode ++ (onumI time ++ (onumI beg ++ (onumI size ++ (obytes path ++ (obytes tgt ++ r)))))), 0⟩ : OS) = s at *
  have v0 : vN s 0 = kind := by unfold vN stN; rw [← hs, readNum_onumI h1 mx h1.2]
  have s2 : stN s 2 = ⟨onumI time ++ (onumI beg ++ (onumI size ++ (obytes path ++ (obytes tgt ++ r)))), 0⟩ := by
    rw [stN, s1, readNum_onumI h2 mx h2.2]
  have v1 : vN s 1 = mode := by unfold vN; rw [s1, readNum_onumI h2 mx h2.2]
  have s3 : stN s 3 = ⟨onumI beg ++ (onumI size ++ (obytes path ++ (obytes tgt ++ r))), 0⟩ := by
    rw [stN, s2, readNum_onumI h3 mx h3.2]
  have v2 : vN s 2 = time := by unfold vN; rw [s2, readNum_onumI h3 mx h3.2]
  have s4 : stN s 4 = ⟨onumI size ++ (obytes path ++ (obytes tgt ++ r)), 0⟩ := by
    rw [stN, s3, readNum_onumI h4 mx h4.2]
  have v3 : vN s 3 = beg := by unfold vN; rw [s3, readNum_onumI h4 mx h4.2]
  have s5 : stN s 5 = ⟨obytes path ++ (obytes tgt ++ r), 0⟩ := by
    rw [stN, s4, readNum_onumI h5 mx h5.2]
  have v4 : vN s 4 = size := by unfold vN; rw [s4, readNum_onumI h5 mx h5.2]
  have b1 : readBytes ⟨obytes path ++ (obytes tgt ++ r), 0⟩ 256 = (path, ⟨obytes tgt ++ r, 0⟩) := by
    rw [obytes_eq path (by omega), readBytes_bytes 256 (by omega) (by omega)]
  have b2 : readBytes ⟨obytes tgt ++ r, 0⟩ 256 = (tgt, ⟨r, 0⟩) := by
    rw [obytes_eq tgt (by omega), readBytes_bytes 256 (by omega) (by omega)]
  unfold readE
  simp only [s5, b1, b2, v0, v1, v2, v3, v4]
theorem stN_ok {s : OS} : ∀ (i : Nat), (stN s i).err = 0 → s.err = 0 ∧ ∀ j, j < i → (stN s j).err = 0 ∧ (stN s j).rest = onumI (vN s j) ++ (stN s (j + 1)).rest ∧ 0 ≤ vN s j ∧ vN s j ≤ 1099511627775
  | 0, h => ⟨h, fun j hj => absurd hj (Nat.not_lt_zero _)⟩
  | i + 1, h => by
    have hr : readNum (stN s i) mx = (vN s i, stN s (i + 1)) := rfl
    obtain ⟨h1, h2, h3, h4, h5⟩ := readNum_ok hr h
    obtain ⟨k1, k2⟩ := stN_ok i h1
    refine ⟨k1, fun j hj => ?_⟩
    by_cases e : j = i
    · subst e
      exact ⟨h1, by rw [onumI_in ⟨h3, h5⟩]; exact h2, h3, h5⟩
    · exact k2 j (by omega)
theorem readE_ok {s t : OS} {e : En} (h : readE s = (e, t)) (ht : t.err = 0) : s.err = 0 ∧ s.rest = encE e ++ t.rest ∧ e.num := by
  unfold readE at h
  simp only at h
  injection h with h1 h2
  generalize hb1 : readBytes (stN s 5) 256 = q1 at *
  obtain ⟨path, t1⟩ := q1
  generalize hb2 : readBytes t1 256 = q2 at *
  obtain ⟨tgt, t2⟩ := q2
  simp only at h1 h2
  subst h2
  obtain ⟨k1, k2, k3, _⟩ := readBytes_ok hb2 ht
  obtain ⟨j1, j2, j3, _⟩ := readBytes_ok hb1 k1
  obtain ⟨z, hz⟩ := stN_ok 5 j1
  obtain ⟨_, r0, a0, a0'⟩ := hz 0 (by omega)
  obtain ⟨_, r1, a1, a1'⟩ := hz 1 (by omega)
  obtain ⟨_, r2, a2, a2'⟩ := hz 2 (by omega)
  obtain ⟨_, r3, a3, a3'⟩ := hz 3 (by omega)
  obtain ⟨_, r4, a4, a4'⟩ := hz 4 (by omega)
  subst h1
  refine ⟨z, ?_, ⟨⟨a0, a0'⟩, ⟨a1, a1'⟩, ⟨a2, a2'⟩, ⟨a3, a3'⟩, ⟨a4, a4'⟩, by simp only; omega, by simp only; omega⟩⟩
  unfold encE
  simp only [List.append_assoc]
  rw [obytes_eq path (by omega), obytes_eq tgt (by omega), ← k2, ← j2, ← r4, ← r3, ← r2, ← r1, ← r0]
  rfl

def readL : Nat → OS → List En → List En × OS
  | 0, s, acc => (acc, s)
  | k + 1, s, acc => if (readE s).2.err ≠ 0 then ([], (readE s).2) else readL k (readE s).2 (acc ++ [(readE s).1])
theorem readL_enc : ∀ (l : List En) (r : List UInt8) (acc : List En), (∀ e ∈ l, e.num) → readL l.length ⟨l.flatMap encE ++ r, 0⟩ acc = (acc ++ l, ⟨r, 0⟩)
  | [], r, acc, _ => by simp [readL]
  | e :: l, r, acc, h => by
    rw [List.flatMap_cons, List.append_assoc, List.length_cons, readL, readE_encE (h e List.mem_cons_self), if_neg (by simp), readL_enc l r _ (fun x hx => h x (List.mem_cons_of_mem _ hx))]
    simp
theorem readL_ok : ∀ (k : Nat) (s : OS) (acc x : List En) (t : OS), readL k s acc = (x, t) → t.err = 0 → s.err = 0 ∧ ∃ l, x = acc ++ l ∧ l.length = k ∧ s.rest = l.flatMap encE ++ t.rest ∧ ∀ e ∈ l, e.num
  | 0, s, acc, x, t, h, ht => by
    injection h with h1 h2
    subst h1; subst h2
    exact ⟨ht, [], by simp, rfl, by simp, by simp⟩
  | k + 1, s, acc, x, t, h, ht => by
    unfold readL at h
    split at h
    · rename_i he
      injection h with h1 h2
      subst h2
      exact absurd ht he
    · obtain ⟨h1, l, h2, h3, h4, h5⟩ := readL_ok k _ _ x t h ht
      obtain ⟨k1, k2, k3⟩ := readE_ok (s := s) (e := (readE s).1) (t := (readE s).2) rfl h1
      refine ⟨k1, (readE s).1 :: l, by rw [h2]; simp, by simp [h3], by rw [k2, h4, List.flatMap_cons, List.append_assoc], fun e he => ?_⟩
      rcases List.mem_cons.1 he with rfl | he
      · exact k3
      · exact h5 e he
def readAll (b : List UInt8) : List En × OS := readL (readNum ⟨b, 0⟩ 1024).1.toNat (readNum ⟨b, 0⟩ 1024).2 []
def decZ (b : List UInt8) : Int := if oend (readAll b).2 = 0 ∧ fineB (readAll b).1 = false then 4 else oend (readAll b).2
def decP (b : List UInt8) : List En × Int := if decZ b ≠ 0 then ([], decZ b) else ((readAll b).1, 0)

theorem fine_num {l : List En} (h : fineB l = true) : ∀ e ∈ l, e.num := by
  intro e he
  obtain ⟨i, hi, rfl⟩ := List.mem_iff_getElem.1 he
  obtain ⟨h1, h2⟩ := fineB_true h
  obtain ⟨hs, hl, _, hp⟩ := whyE_zero h1
  obtain ⟨b1, b2, b3, b4⟩ := fine_bounds h i hi
  have hpl := hp _ he
  have hpa : l[i].path.length ≤ 256 := by
    have : okPath l[i].path = true := by
      unfold whyE at h1
      split at h1
      · cases h1
      · rename_i h0
        have : (l.map (·.path)).all okPath = true := by simpa using h0
        exact List.all_eq_true.1 this _ (List.mem_map_of_mem he)
    unfold okPath at this
    simp at this
    exact this.1
  obtain ⟨p1, p2, p3, p4, p5, p6, p7⟩ := hpl
  generalize l[i] = e at *
  refine ⟨?_, ?_, ?_, ?_, ?_, hpa, ?_⟩
  · rcases p7 with p7 | p7 | p7 <;> omega
  · omega
  · omega
  · omega
  · omega
  · rcases p7 with p7 | p7 | p7
    · have := p7.2; simp [this]
    · have := p7.2.1; simp [this]
    · omega
theorem decP_enc {l : List En} (h : fineB l = true) : decP (encL l) = (l, 0) := by
  obtain ⟨hs, hl, _, hp⟩ := whyE_zero (fineB_true h).1
  have hr : readAll (encL l) = (l, ⟨[], 0⟩) := by
    unfold readAll encL
    rw [readNum_onumI (by omega) 1024 (by omega), Int.toNat_natCast]
    have := readL_enc l [] [] (fine_num h)
    rw [List.append_nil] at this
    rw [this]
    simp
  have hz : decZ (encL l) = 0 := by
    unfold decZ
    rw [hr, if_neg]
    · rfl
    · rintro ⟨_, hf⟩
      simp only at hf
      rw [h] at hf; cases hf
  unfold decP
  rw [hz, hr]
  rfl
theorem decP_ok {b : List UInt8} {l : List En} (h : decP b = (l, 0)) : fineB l = true ∧ encL l = b := by
  unfold decP at h
  split at h
  · rename_i hz
    injection h with h1 h2
    exact absurd h2 hz
  · rename_i hz
    have hz : decZ b = 0 := by simpa using hz
    injection h with h1 _
    subst h1
    unfold decZ at hz
    split at hz
    · cases hz
    · rename_i hn
      have hf : fineB (readAll b).1 = true := by
        cases hff : fineB (readAll b).1
        · exact absurd ⟨hz, hff⟩ hn
        · rfl
      refine ⟨hf, ?_⟩
      unfold oend at hz
      split at hz
      · cases hz
      · rename_i hleft
        unfold oleft at hleft
        rw [if_neg (by omega)] at hleft
        have hrest : (readAll b).2.rest = [] := List.eq_nil_of_length_eq_zero (by omega)
        unfold readAll at hz hrest ⊢
        generalize hr : readNum ⟨b, 0⟩ 1024 = q at *
        obtain ⟨n, s1⟩ := q
        simp only at hz hrest ⊢
        generalize hl : readL n.toNat s1 [] = q2 at *
        obtain ⟨x, t⟩ := q2
        obtain ⟨h1, m, h2, h3, h4, h5⟩ := readL_ok _ _ _ _ _ hl hz
        obtain ⟨k1, k2, k3, k4, k5⟩ := readNum_ok hr h1
        simp only at k2 hrest ⊢
        rw [List.nil_append] at h2
        subst h2
        rw [hrest, List.append_nil] at h4
        unfold encL
        rw [k2, h4, h3, onumI_in (by omega), Int.toNat_natCast]
end Go.Proofs.YtfppancidgamjaaDoor

/- The walks over the reference's numbers and bytes, and over its bytes of entries. -/
namespace Go.Proofs.YtfppancidgamjaaDoor
set_option linter.unusedVariables false
set_option linter.unusedSimpArgs false
open Go.RowKit

/-- '[]byte(s)'. -/
theorem conv_bytes (w : World) (l : List UInt8) : ∃ A c w', (convert 9 39 (.string (str l))).run Tryd.prog w = .ok (.slice A l.length c) w' ∧ Rd w' (.slice A l.length c) (bytesU l) ∧ Below w.heap.size w w' := by
  refine ⟨_, _, _, run_bytes_of_string w 9 39 5 (str l) Tryd.underlying9 Tryd.underlying39 Tryd.underlying5, ?_, ((Below.refl _ w).drew).alloc (Nat.le_refl _) _⟩
  refine ⟨_, _, by rw [bytesU_length], fun _ => ⟨_, rfl, fun j u hu => ?_⟩⟩
  have hj : j < l.length := by have := (List.getElem?_eq_some_iff.1 hu).1; rwa [bytesU_length] at this
  rw [Addr.add_lit, Nat.zero_add]
  have hn : (w.drew.alloc (.cells (bytesRow (str l) (grownCap w (str l).size 0 5)) 5 ((bytesRow (str l) (grownCap w (str l).size 0 5)).size, (bytesRow (str l) (grownCap w (str l).size 0 5)).size + 1))).heap[w.heap.size]? = some (.cells (bytesRow (str l) (grownCap w (str l).size 0 5)) 5 ((bytesRow (str l) (grownCap w (str l).size 0 5)).size, (bytesRow (str l) (grownCap w (str l).size 0 5)).size + 1)) := heap_alloc_new w.drew _
  rw [cell_of_row _ _ _ _ _ _ hn, bytesRow_at (str l) _ j (by simpa [str] using hj), ← hu]
  simp [bytesU, str, hj]
theorem wpList_conv_run {P : Program} {ops : Array Oper} {Q : Exit → Act → World → Prop} {rest : List Oper} {o : Oper} {a : Act} {w w' : World} (hgd : o.guard = none) (x : Operand) (s t : TypeId) {v u : Value}
    (ho : o.op = .convert s t x) (hx : a.eval x = v) (hr : (convert s t v).run P w = .ok u w')
    (h : wpList P ops Q rest (a.put o.dst u) w') : wpList P ops Q (o :: rest) a w := by
  refine wpList_plain hgd fun K hK => ?_
  unfold Oper.wp execOp
  simp only [ho, Sem.run_bind, Sem.run_pure, hx, hr, Result.andThen_ok]
  exact hK _ _ h

set_option maxRecDepth 100000 in
set_option maxHeartbeats 1600000 in
theorem refnum_in : ∀ (m : Nat), m ≤ 1099511627775 → ∀ (w : World), Calls Tryd.prog 42 #[.int .i64 (m : Int)] w (RetB w (onum m)) := by
  intro m
  induction m using Nat.strongRecOn with
  | _ m ih =>
    intro hm w
    by_cases hs : m < 128
    · have hc8 : (UInt8.ofNat m).toNat = m := u8_toNat _ (by omega)
      have hs' : (m : Int) < 128 := by omega
      have o1 : Own w.heap.size (Rw 5 1 (.slice (some ⟨w.heap.size, 0, none⟩) 1 1) [UInt8.ofNat m].length (bytesU [UInt8.ofNat m]) * Emp) (w.alloc (.cells #[.int .u8 (m : Int)] 5)) := by
        have := ((Own.start w.heap.size w).new (Nat.le_refl _) 5 #[.int .u8 (m : Int)]).rw_of_bk (size := 1) (n := 1) rfl (by unfold maxLen; decide)
        have e : bytesU [UInt8.ofNat m] = [.int .u8 (m : Int)] := by unfold bytesU; rw [List.map_cons, List.map_nil, hc8]
        rw [e]
        exact this
      have b1 := (Below.refl w.heap.size w).alloc (Nat.le_refl _) (.cells #[.int .u8 (m : Int)] 5)
      rw [onum_small hs]
      clear ih hc8 hs
      go_enter Tryd.func42, Tryd.ntmps42
      go_wp2
      go_ret
      exact RetB.mk rfl rfl rfl rfl o1 b1
    · have hs' : ¬ (m : Int) < 128 := by omega
      have hc8 : (UInt8.ofNat (m % 128 + 128)).toNat = m % 128 + 128 := u8_toNat _ (by omega)
      have o1 : Own w.heap.size (Rw 5 1 (.slice (some ⟨w.heap.size, 0, none⟩) 1 1) [UInt8.ofNat (m % 128 + 128)].length (bytesU [UInt8.ofNat (m % 128 + 128)]) * Emp) (w.alloc (.cells #[.int .u8 ((m % 128 + 128 : Nat) : Int)] 5)) := by
        have := ((Own.start w.heap.size w).new (Nat.le_refl _) 5 #[.int .u8 ((m % 128 + 128 : Nat) : Int)]).rw_of_bk (size := 1) (n := 1) rfl (by unfold maxLen; decide)
        have e : bytesU [UInt8.ofNat (m % 128 + 128)] = [.int .u8 ((m % 128 + 128 : Nat) : Int)] := by unfold bytesU; rw [List.map_cons, List.map_nil, hc8]
        rw [e]
        exact this
      have b1 := (Below.refl w.heap.size w).alloc (Nat.le_refl _) (.cells #[.int .u8 ((m % 128 + 128 : Nat) : Int)] 5)
      have I := ih (m / 128) (by omega) (by omega)
      rw [onum_big hs]
      have h6 := onum_len6 (n := m / 128) (by omega)
      obtain ⟨d, hd⟩ : ∃ d : Nat, d = m / 128 := ⟨_, rfl⟩
      rw [← hd] at I h6 ⊢
      have hq : (m : Int).tdiv 128 = (d : Int) := by rw [Int.tdiv_eq_ediv_of_nonneg (by omega)]; omega
      have hr : 128 + (m : Int) % 128 = ((m % 128 + 128 : Nat) : Int) := by omega
      have d1 : (d : Int) ≤ 1099511627775 := by omega
      have d0 : (0 : Int) ≤ (d : Int) := by omega
      obtain ⟨q, hqq⟩ : ∃ q : Nat, q = m % 128 + 128 := ⟨_, rfl⟩
      rw [← hqq] at hr o1 b1 ⊢
      have q1 : (q : Int) < 256 := by omega
      have q0 : (0 : Int) ≤ (q : Int) := by omega
      generalize UInt8.ofNat q = cq at *
      clear ih hc8 hs hd hqq
      have I2 := fun w1 => I w1
      go_enter Tryd.func42, Tryd.ntmps42
      go_wp2_with fail
      refine (I2 _).mono ?_
      rintro e w2 ⟨v2, rfl, ho2, b2⟩
      have o2 := Own.fresh (by simp) o1 ho2 b2
      have o3 := o2.swap.assoc
      have o4 : Own w.heap.size (Rw 5 1 (.slice (some ⟨w.heap.size, 0, none⟩) 1 1) [cq].length (bytesU [cq]) * (Rw 5 1 v2 (onum d).length (bytesU (onum d)) * Emp)) w2 := o3.cast (by ac_rfl)
      obtain ⟨A2, c2, rfl⟩ := o2.row_n
      obtain ⟨v3, w3, hrun, o5, b3⟩ := byte_append (Nat.le_trans (by simp) b2.size) o4 o2.rd (by simp; omega)
      have Hrun := Lib.hid hrun
      have hb := (b1.trans (b2.mono b1.size)).trans b3
      clear hrun o2 o3 o4 ho2 b1 b2 b3 o1
      go_wp2_with (at_builtin; refine wpList_append_run rfl (.tmp 18) (.tmp 21) 39 rfl rfl rfl Hrun.out ?_)
      go_ret
      exact RetB.mk rfl rfl rfl rfl o5 hb

set_option maxRecDepth 100000 in
theorem refnum_any (n : Int) (w : World) : Calls Tryd.prog 42 #[.int .i64 n] w (RetB w (onumI n)) := by
  have Z := refnum_in
  by_cases h1 : n < 0
  · have hn : onumI n = [UInt8.ofNat 0] := by unfold onumI; rw [if_pos (.inl h1), onum_small (by omega)]
    rw [hn]
    clear hn Z
    have o1 : Own w.heap.size (Rw 5 1 (.slice (some ⟨w.heap.size, 0, none⟩) 1 1) [UInt8.ofNat 0].length (bytesU [UInt8.ofNat 0]) * Emp) (w.alloc (.cells #[.int .u8 0] 5)) :=
      ((Own.start w.heap.size w).new (Nat.le_refl _) 5 #[.int .u8 0]).rw_of_bk (size := 1) (n := 1) rfl (by unfold maxLen; decide)
    have b1 := (Below.refl w.heap.size w).alloc (Nat.le_refl _) (.cells #[.int .u8 0] 5)
    go_enter Tryd.func42, Tryd.ntmps42
    go_wp2
    go_ret
    exact RetB.mk rfl rfl rfl rfl o1 b1
  · by_cases h2 : 1099511627775 < n
    · have hn : onumI n = [UInt8.ofNat 0] := by unfold onumI; rw [if_pos (.inr h2), onum_small (by omega)]
      rw [hn]
      clear hn Z
      have o1 : Own w.heap.size (Rw 5 1 (.slice (some ⟨w.heap.size, 0, none⟩) 1 1) [UInt8.ofNat 0].length (bytesU [UInt8.ofNat 0]) * Emp) (w.alloc (.cells #[.int .u8 0] 5)) :=
        ((Own.start w.heap.size w).new (Nat.le_refl _) 5 #[.int .u8 0]).rw_of_bk (size := 1) (n := 1) rfl (by unfold maxLen; decide)
      have b1 := (Below.refl w.heap.size w).alloc (Nat.le_refl _) (.cells #[.int .u8 0] 5)
      go_enter Tryd.func42, Tryd.ntmps42
      go_wp2
      go_ret
      exact RetB.mk rfl rfl rfl rfl o1 b1
    · have hn : onumI n = onum n.toNat := by unfold onumI; rw [if_neg (by omega)]
      obtain ⟨m, rfl⟩ : ∃ m : Nat, n = (m : Int) := ⟨n.toNat, by omega⟩
      rw [hn, Int.toNat_natCast]
      exact Z m (by omega) w
set_option maxRecDepth 100000 in
set_option maxHeartbeats 1600000 in
theorem refbytes_any (u : Value) (x : List UInt8) (hx : x.length ≤ 200000) (w : World) (hu : Rd w u (bytesU x)) :
    Calls Tryd.prog 43 #[u] w (RetB w (obytes x)) := by
  have N := refnum_any (x.length : Int) w
  have Hu := Lib.hid (fun w1 (b : Below w.heap.size w w1) => hu.below b)
  obtain ⟨A, c, rfl, _⟩ := id hu
  rw [bytesU_length] at Hu ⊢
  have h6 : (onumI (x.length : Int)).length ≤ 6 := onumI_len _
  unfold obytes
  generalize onumI (x.length : Int) = L at N h6 ⊢
  clear hu
  go_enter Tryd.func43, Tryd.ntmps43
  go_wp2_with fail
  refine N.mono ?_
  rintro e w1 ⟨v1, rfl, ho1, b1⟩
  have o1 : Own w.heap.size (Rw 5 1 v1 L.length (bytesU L) * Emp) w1 := Own.fresh (Nat.le_refl _) (Own.start _ _) ho1 b1
  obtain ⟨v2, w2, hrun, o2, b2⟩ := byte_append b1.size o1 (Hu.out _ b1) (by omega)
  obtain ⟨A1, c1, rfl⟩ := o1.row_n
  have Hrun := Lib.hid hrun
  have hb2 := b1.trans b2
  clear hrun ho1 N
  go_wp2_with (at_builtin; refine wpList_append_run rfl (.tmp 5) (.tmp 6) 39 rfl rfl rfl Hrun.out ?_)
  go_ret
  exact RetB.mk rfl rfl rfl rfl o2 hb2
end Go.Proofs.YtfppancidgamjaaDoor

/- The walk over the reference's bytes of entries. -/
namespace Go.Proofs.YtfppancidgamjaaDoor
set_option linter.unusedVariables false
set_option linter.unusedSimpArgs false
open Go.RowKit

theorem encE_len {e : En} (h : e.num) : (encE e).length ≤ 554 := by
  have h1 := onumI_len e.kind
  have h2 := onumI_len e.mode
  have h3 := onumI_len e.time
  have h4 := onumI_len e.beg
  have h5 := onumI_len e.size
  have h6 := onumI_len (e.path.length : Int)
  have h7 := onumI_len (e.tgt.length : Int)
  have h8 := h.path
  have h9 := h.tgt
  unfold encE obytes
  simp only [List.length_append]
  omega
/-- What a call returned goes behind a row. -/
theorem app_ret {B : Nat} {R : HP} [Loc B R] {w w1 : World} {out x : List UInt8} {A : Option Addr} {c : Nat} {v1 : Value} (hB : B ≤ w.heap.size) (o : Own B (Rw 5 1 (.slice A out.length c) out.length (bytesU out) * R) w)
    (ho1 : w1.ownsRow w.heap.size 5 1 v1 x.length (bytesU x)) (b1 : Below w.heap.size w w1) (hn : out.length + x.length ≤ 140737488355328) :
    ∃ A1 c1, v1 = .slice A1 x.length c1 ∧ ∃ (out' : List UInt8) (A2 : Option Addr) (c2 : Nat) (w2 : World), Hid (out' = out ++ x) ∧ Hid ((Builtin.append_ #[39, 39] 39 #[.slice A out.length c, .slice A1 x.length c1]).run Tryd.prog w1 = .ok (.slice A2 out'.length c2) w2) ∧
      Own B (Rw 5 1 (.slice A2 out'.length c2) out'.length (bytesU out') * R) w2 ∧ Below B w w2 := by
  have o1 := Own.fresh hB o ho1 b1
  obtain ⟨A1, c1, rfl⟩ := o1.row_n
  have hrd := o1.rd
  have o2 : Own B (Rw 5 1 (.slice A out.length c) out.length (bytesU out) * (Rw 5 1 (.slice A1 x.length c1) x.length (bytesU x) * R)) w1 := o1.cast (sep_left_comm _ _ _)
  obtain ⟨v2, w2, hrun, o3, b3⟩ := byte_append (Nat.le_trans hB b1.size) o2 hrd hn
  obtain ⟨A2, c2, rfl⟩ := o3.row_n
  exact ⟨A1, c1, rfl, out ++ x, A2, c2, w2, Lib.hid rfl, Lib.hid hrun, (o3.cast (sep_left_comm _ _ _)).right, (b1.mono hB).trans b3⟩
def numsE (e : En) : List Int := [e.kind, e.mode, e.time, e.beg, e.size]

set_option maxRecDepth 100000 in
set_option maxHeartbeats 6400000 in
theorem refenc_any (A : Option Addr) (c : Nat) (l : List En) (hl : l.length ≤ 1024) (hx : ∀ e ∈ l, e.num) (w : World) (hr : RdA 7 enL w A l) :
    Calls Tryd.prog 30 #[.slice A l.length c] w (RetB w (encL l)) := by
  have Hr := Lib.hid (fun w1 (b : Below w.heap.size w w1) => hr.below b)
  have Hx := Lib.hid hx
  have n1 : (l.length : Int) ≤ 1024 := by omega
  have N0 := refnum_any (l.length : Int) w
  have He : Hid (encL l = onumI (l.length : Int) ++ l.flatMap encE) := Lib.hid rfl
  have h6 := onumI_len (l.length : Int)
  clear hr hx
  go_enter Tryd.func30, Tryd.ntmps30
  go_wp2_with fail
  refine N0.mono ?_
  rintro e w1 ⟨v1, rfl, ho1, b1⟩
  have o1 : Own w.heap.size (Rw 5 1 v1 (onumI (l.length : Int)).length (bytesU (onumI (l.length : Int))) * Emp) w1 := Own.fresh (Nat.le_refl _) (Own.start _ _) ho1 b1
  generalize hL0 : onumI (l.length : Int) = L0 at *
  obtain ⟨A1, c1, rfl⟩ := o1.row_n
  clear hL0 ho1 N0
  go_wp2
  go_loopg [3, 4] l.length (fun k v u wr => ∃ (i : Nat) (out : List UInt8) (A' : Option Addr) (c' : Nat), k + i = l.length ∧ u = .int .i64 (i : Int) ∧ v = .slice A' out.length c' ∧ Own w.heap.size (Rw 5 1 (.slice A' out.length c') out.length (bytesU out) * Emp) wr ∧ Below w.heap.size w wr ∧ out.length ≤ 6 + 554 * i ∧ Hid (out = L0 ++ (l.take i).flatMap encE))
  case atStart => exact ⟨0, L0, A1, c1, by omega, rfl, rfl, o1, b1, by omega, Lib.hid (by simp)⟩
  case round =>
    clear o1 b1
    obtain ⟨i, out, A', c', hk, rfl, rfl, ho, hb, hol, he⟩ := hrel
    have i0' : (0 : Int) ≤ (i : Int) := by omega
    by_cases hlt : (i : Int) < (l.length : Int)
    · obtain ⟨j, rfl⟩ : ∃ j, gk = j + 1 := ⟨gk - 1, by omega⟩
      have hil : i < l.length := by omega
      obtain ⟨b, off, rfl, q, d⟩ := Hr.out _ hb i hil
      have hxi := Hx.out _ (List.getElem_mem hil)
      have Hsn : Hid ((l.take (i + 1)).flatMap encE = (l.take i).flatMap encE ++ encE l[i]) := Lib.hid (by rw [List.take_succ_eq_append_getElem hil, List.flatMap_append]; simp)
      have Hk := Lib.hid hk
      clear hk
      generalize l[i] = x at *
      have Hlen := Lib.hid (encE_len hxi)
      have Henc : Hid (encE x = (numsE x).flatMap onumI ++ (obytes x.path ++ obytes x.tgt)) := Lib.hid (by simp [encE, numsE])
      have Hnum := Lib.hid hxi
      obtain ⟨path, kind, mode, time, tgt, beg, size⟩ := x
      obtain ⟨d0, d1, d2, d3, d4, d5, d6⟩ := RdA.cells7 d
      simp only at d0 d1 d2 d3 d4 d5 d6 Hsn Henc
      have o1 := ho.alloc_keep hb.size (.cells #[.string (str path), .int .i64 kind, .int .i64 mode, .int .i64 time, .string (str tgt), .int .i64 beg, .int .i64 size] 63)
      clear d hxi o1
      have o1 := ho.new hb.size 63 #[.string (str path), .int .i64 kind, .int .i64 mode, .int .i64 time, .string (str tgt), .int .i64 beg, .int .i64 size]
      have hb1 := hb.alloc hb.size (.cells #[.string (str path), .int .i64 kind, .int .i64 mode, .int .i64 time, .string (str tgt), .int .i64 beg, .int .i64 size] 63)
      have o2 := o1.new hb1.size 3 #[.int .i64 kind, .int .i64 mode, .int .i64 time, .int .i64 beg, .int .i64 size]
      have hb2 := hb1.alloc hb1.size (.cells #[.int .i64 kind, .int .i64 mode, .int .i64 time, .int .i64 beg, .int .i64 size] 3)
      have eN : (wr.alloc (.cells #[.string (str path), .int .i64 kind, .int .i64 mode, .int .i64 time, .string (str tgt), .int .i64 beg, .int .i64 size] 63)).heap.size = wr.heap.size + 1 := by simp
      rw [eN] at o2
      have o3 := o2.foc (Rw 5 1 (.slice A' out.length c') out.length (bytesU out))
      clear o1 o2 hb1 ho hb eN
      generalize hX0 : wr.heap.size = X0 at *
      go_wp2
      go_loopg [3, 7] 5 (fun k v u wr2 => ∃ (t : Nat) (out2 : List UInt8) (A2 : Option Addr) (c2 : Nat), k + t = 5 ∧ u = .int .i64 (t : Int) ∧ v = .slice A2 out2.length c2 ∧ Own w.heap.size (Rw 5 1 (.slice A2 out2.length c2) out2.length (bytesU out2) * (Bk (X0 + 1) 3 #[.int .i64 kind, .int .i64 mode, .int .i64 time, .int .i64 beg, .int .i64 size] * (Bk X0 63 #[.string (str path), .int .i64 kind, .int .i64 mode, .int .i64 time, .string (str tgt), .int .i64 beg, .int .i64 size] * Emp))) wr2 ∧ Below w.heap.size w wr2 ∧ out2.length ≤ out.length + 6 * t ∧ Hid (out2 = out ++ ((numsE ⟨path, kind, mode, time, tgt, beg, size⟩).take t).flatMap onumI))
      case atStart => exact ⟨0, out, A', c', rfl, rfl, rfl, o3, hb2, by omega, Lib.hid (by simp)⟩
      case round =>
        clear o3 hb2
        obtain ⟨t, out2, A2, c2, hkt, rfl, rfl, ho, hb, hol2, he2⟩ := hrel
        have t0' : (0 : Int) ≤ (t : Int) := by omega
        by_cases hlt2 : (t : Int) < 5
        · obtain ⟨jt, rfl⟩ : ∃ j, gk = j + 1 := ⟨gk - 1, by omega⟩
          have ht5 : t < 5 := by omega
          have hc : wr.cell? ⟨X0 + 1, t, none⟩ = some (.int .i64 ((numsE ⟨path, kind, mode, time, tgt, beg, size⟩)[t]'ht5)) := (ho.cellOf (X0 + 1) t).trans (by
            have : t = 0 ∨ t = 1 ∨ t = 2 ∨ t = 3 ∨ t = 4 := by omega
            rcases this with rfl | rfl | rfl | rfl | rfl <;> rfl)
          have Htk : Hid ((numsE ⟨path, kind, mode, time, tgt, beg, size⟩).take (t + 1) = (numsE ⟨path, kind, mode, time, tgt, beg, size⟩).take t ++ [(numsE ⟨path, kind, mode, time, tgt, beg, size⟩)[t]'ht5]) := Lib.hid (List.take_succ_eq_append_getElem ht5)
          generalize (numsE ⟨path, kind, mode, time, tgt, beg, size⟩)[t]'ht5 = z at *
          have N := refnum_any z wr
          have hz6 := onumI_len z
          have Hkt := Lib.hid hkt
          clear hkt
          go_wp2_with fail
          refine N.mono ?_
          rintro e w3 ⟨v1, rfl, ho1, b1⟩
          obtain ⟨A3, c3, rfl, out3, A4, c4, w4, he3, Hrun, o4, b4⟩ := app_ret hb.size ho ho1 b1 (by omega)
          have hb4 := hb.trans b4
          clear ho hb ho1 b1 b4 hc N
          go_wp2_with (at_builtin; refine wpList_append_run rfl (.tmp 36) (.tmp 41) 39 rfl rfl rfl Hrun.out ?_)
          go_roundg jt
          case measure => omega
          case rel => exact ⟨t + 1, out3, A4, c4, by have := Hkt.out; omega, rfl, rfl, o4, hb4, by rw [he3.out, List.length_append]; omega, Lib.hid (by rw [he3.out, he2.out, Htk.out]; simp)⟩
        · obtain rfl : t = 5 := by omega
          have cp : wr.cell? ⟨X0, 0, none⟩ = some (.string (str path)) := ho.cellOf X0 0
          obtain ⟨Ap, cp', wp, hcv, hrp, bp⟩ := conv_bytes wr path
          have Hcv := Lib.hid hcv
          have hp256 := Hnum.out.path
          have ht256 := Hnum.out.tgt
          simp only at hp256 ht256
          have R1 := refbytes_any (.slice Ap path.length cp') path (by omega) wp hrp
          have ho2 := ho.grown hb.size bp
          have hbp := hb.trans (bp.mono hb.size)
          clear hcv hrp ho bp hb
          go_wp2_with (refine wpList_conv_run rfl (.tmp 45) 9 39 rfl rfl Hcv.out ?_)
          refine R1.mono ?_
          rintro e w3 ⟨v1, rfl, ho1, b1⟩
          have hop : (obytes path).length ≤ 300 := by unfold obytes; rw [List.length_append]; have := onumI_len (path.length : Int); omega
          have hot : (obytes tgt).length ≤ 300 := by unfold obytes; rw [List.length_append]; have := onumI_len (tgt.length : Int); omega
          obtain ⟨A3, c3, rfl, out3, A4, c4, w4, he3, Hrun, o4, b4⟩ := app_ret hbp.size ho2 ho1 b1 (by omega)
          have ho3 : out3.length = out2.length + (obytes path).length := by rw [he3.out, List.length_append]
          have hb4 := hbp.trans b4
          have ct : w4.cell? ⟨X0, 4, none⟩ = some (.string (str tgt)) := o4.cellOf X0 4
          obtain ⟨At, ct', wt, hcv2, hrt, bt⟩ := conv_bytes w4 tgt
          have Hcv2 := Lib.hid hcv2
          have R2 := refbytes_any (.slice At tgt.length ct') tgt (by omega) wt hrt
          have o5 := o4.grown hb4.size bt
          have hb5 := hb4.trans (bt.mono hb4.size)
          have Ho3 := Lib.hid ho3
          clear hcv2 hrt o4 bt hb4 b4 ho2 hbp ho1 b1 cp R1 ho3 Hcv
          go_wp2_with (first
            | (at_builtin; refine wpList_append_run rfl (.tmp 43) (.tmp 47) 39 rfl rfl rfl Hrun.out ?_)
            | (refine wpList_conv_run rfl (.tmp 51) 9 39 rfl rfl Hcv2.out ?_))
          refine R2.mono ?_
          rintro e w6 ⟨v1, rfl, ho1, b1⟩
          obtain ⟨A5, c5, rfl, out5, A6, c6, w7, he5, Hrun5, o6, b6⟩ := app_ret hb5.size o5 ho1 b1 (by have := Ho3.out; omega)
          have hb6 := hb5.trans b6
          have o7 := (o6.cast (show _ = Bk (X0 + 1) _ _ * (Bk X0 _ _ * (Rw _ _ _ _ _ * Emp)) by ac_rfl)).right.right
          clear o5 hb5 ho1 b1 b6 o6 Hrun Hcv2 R2 ct
          go_wp2_with (at_builtin; refine wpList_append_run rfl (.tmp 49) (.tmp 53) 39 rfl rfl rfl Hrun5.out ?_)
          go_roundg j
          case measure => omega
          case rel =>
            have hfin : out5 = L0 ++ (l.take (i + 1)).flatMap encE := by
              rw [he5.out, he3.out, he2.out, Hsn.out, Henc.out, he.out]
              have : (numsE ⟨path, kind, mode, time, tgt, beg, size⟩).take 5 = numsE ⟨path, kind, mode, time, tgt, beg, size⟩ := rfl
              rw [this]
              simp only [List.append_assoc]
            exact ⟨i + 1, out5, A6, c6, by have := Hk.out; omega, rfl, rfl, o7, hb6, by
              have h1 := congrArg List.length hfin
              have h2 := congrArg List.length he.out
              have h3 := Hlen.out
              rw [Hsn.out] at h1
              simp only [List.length_append] at h1 h2
              omega, Lib.hid hfin⟩
    · obtain rfl : i = l.length := by omega
      rw [List.take_length] at he
      go_wp2
      go_ret
      exact RetB.mk rfl rfl (by rw [He.out, he.out]) rfl ho hb
end Go.Proofs.YtfppancidgamjaaDoor

/- The rule of two threads once more: with reads that what both leave alone decides, in whatever order; and steps that append. -/
namespace Go.Proofs.YtfppancidgamjaaDoor
set_option linter.unusedVariables false
set_option linter.unusedSimpArgs false
open Go.RowKit

section
variable {P : Program} {ops : Array Oper} {md : Region.Mode} {Q : Exit → Act → World → Prop} {B : Nat}

theorem wpL_two (hsel : Region.noSelect ops = true) {ts : List Nat} {R : HP} [Loc B R] {T : Act → World → Prop} : ∀ (n : Nat) (l1 l2 : List Nat) (listed : Array Bool) (a : Act) (w : World) (Φ1 Φ2 : List Value → HP → Prop) (A1 A2 : HP), l1.length + l2.length = n → Loc B A1 → Loc B A2 →
    TwoOk md ops listed l1 l2 ts → TW P ops B (opsOf ops l1) Φ1 a A1 → TW P ops B (opsOf ops l2) Φ2 a A2 → B ≤ w.heap.size → Own B (A1 * (A2 * R)) w →
    (∀ vs1 A1' vs2 A2' w', Φ1 vs1 A1' → Φ2 vs2 A2' → Own B (A1' * (A2' * R)) w' → Below B w w' → T (putAll (opsOf ops l2) vs2 (putAll (opsOf ops l1) vs1 a)) w') →
    wpL P md ops Q (fun w => Own B R w) T n listed a w
  | 0, l1, l2, listed, a, w, Φ1, Φ2, A1, A2, hn, _, _, ok, h1, h2, hB, hO, hK => by
    obtain rfl : l1 = [] := List.eq_nil_of_length_eq_zero (by omega)
    obtain rfl : l2 = [] := List.eq_nil_of_length_eq_zero (by omega)
    exact hK [] A1 [] A2 w h1 h2 hO (Below.refl B w)
  | n + 1, l1, l2, listed, a, w, Φ1, Φ2, A1, A2, hn, k1, k2, ok, h1, h2, hB, hO, hK => by
    have hne : l1 ≠ [] ∨ l2 ≠ [] := by
      cases l1 with
      | nil => right; intro e; subst e; simp at hn
      | cons x l => left; simp
    have hrdy : Region.ready md ops listed ≠ [] := by
      intro h0
      rcases hne with hne | hne
      · obtain ⟨x, l, rfl⟩ : ∃ x l, l1 = x :: l := by cases l1 with | nil => exact absurd rfl hne | cons x l => exact ⟨x, l, rfl⟩
        have hlex := ok.lex1
        simp only [lexOk, Bool.and_eq_true] at hlex
        have hun := ok.un x (by simp)
        have : x ∈ Region.ready md ops listed := mem_ready'.2 ⟨hun.1, hun.2, hlex.1⟩
        rw [h0] at this; cases this
      · obtain ⟨x, l, rfl⟩ : ∃ x l, l2 = x :: l := by cases l2 with | nil => exact absurd rfl hne | cons x l => exact ⟨x, l, rfl⟩
        have hlex := ok.lex2
        simp only [lexOk, Bool.and_eq_true] at hlex
        have hun := ok.un x (by simp)
        have : x ∈ Region.ready md ops listed := mem_ready'.2 ⟨hun.1, hun.2, hlex.1⟩
        rw [h0] at this; cases this
    have hd : ∀ {A1' A2' : HP} {w' : World}, Loc B A1' → Loc B A2' → Own B (A1' * (A2' * R)) w' → Own B R w' := fun _ _ h => h.right.right
    refine ⟨hrdy, fun i hi => ?_⟩
    have hlt := (mem_ready'.1 hi).1
    obtain ⟨o, ho⟩ : ∃ o, ops[i]? = some o := ⟨_, Array.getElem?_eq_getElem hlt⟩
    unfold wpOp
    simp only [ho]
    rcases ok.only hne hi with ⟨l, rfl⟩ | ⟨l, rfl⟩
    · rw [opsOf_cons ho] at h1
      have hap : ∀ o' ∈ opsOf ops l2, (∃ j : Nat, ops[j]? = some o') ∧ o'.apart ops o = true := fun o' h' => by
        obtain ⟨j, hj, hoj⟩ := mem_opsOf h'
        exact ⟨⟨j, hoj⟩, (ok.apart i List.mem_cons_self j hj o o' ho hoj).2⟩
      have hlen : l.length + l2.length = n := by simp at hn; omega
      obtain ⟨_, h1 | h1⟩ := h1
      · rw [if_pos h1.1]
        left
        refine h1.2.wp hB hO fun v A' w' ⟨kl, ht⟩ hO' hb => ⟨hd kl k2 hO', ?_⟩
        refine wpL_two hsel n l l2 _ _ w' (fun vs => Φ1 (v :: vs)) Φ2 A' A2 hlen kl k2 ok.strike ht (h2.put hsel _ _ _ _ hap) (Nat.le_trans hB hb.size) hO' fun vs1 A1' vs2 A2' w'' p1 p2 hO'' hb' => ?_
        have := hK (v :: vs1) A1' vs2 A2' w'' p1 p2 hO'' (hb.trans hb')
        rw [opsOf_cons ho] at this
        exact this
      · rw [if_neg (by rw [h1.1]; exact Bool.false_ne_true)]
        refine ⟨hd k1 k2 hO, wpL_two hsel n l l2 _ _ w (fun vs => Φ1 (undef :: vs)) Φ2 A1 A2 hlen k1 k2 ok.strike h1.2 (h2.put hsel _ _ _ _ hap) hB hO fun vs1 A1' vs2 A2' w'' p1 p2 hO'' hb' => ?_⟩
        have := hK (undef :: vs1) A1' vs2 A2' w'' p1 p2 hO'' hb'
        rw [opsOf_cons ho] at this
        exact this
    · rw [opsOf_cons ho] at h2
      have hap : ∀ o' ∈ opsOf ops l1, (∃ j : Nat, ops[j]? = some o') ∧ o'.apart ops o = true := fun o' h' => by
        obtain ⟨j, hj, hoj⟩ := mem_opsOf h'
        exact ⟨⟨j, hoj⟩, (ok.apart j hj i List.mem_cons_self o' o hoj ho).1⟩
      have hlen : l1.length + l.length = n := by simp at hn; omega
      obtain ⟨_, h2 | h2⟩ := h2
      · rw [if_pos h2.1]
        left
        refine h2.2.wp hB (hO.cast (sep_left_comm _ _ _)) fun v A' w' ⟨kl, ht⟩ hO' hb => ⟨hd kl k1 hO', ?_⟩
        refine wpL_two hsel n l1 l _ _ w' Φ1 (fun vs => Φ2 (v :: vs)) A1 A' hlen k1 kl ok.swap.strike.swap (h1.put hsel _ _ _ _ hap) ht (Nat.le_trans hB hb.size) (hO'.cast (sep_left_comm _ _ _)) fun vs1 A1' vs2 A2' w'' p1 p2 hO'' hb' => ?_
        have := hK vs1 A1' (v :: vs2) A2' w'' p1 p2 hO'' (hb.trans hb')
        rw [opsOf_cons ho] at this
        rw [putAll_put _ _ _ _ _ (fun o' h' => (hap o' h').2)]
        exact this
      · rw [if_neg (by rw [h2.1]; exact Bool.false_ne_true)]
        refine ⟨hd k1 k2 hO, wpL_two hsel n l1 l _ _ w Φ1 (fun vs => Φ2 (undef :: vs)) A1 A2 hlen k1 k2 ok.swap.strike.swap (h1.put hsel _ _ _ _ hap) h2.2 hB hO fun vs1 A1' vs2 A2' w'' p1 p2 hO'' hb' => ?_⟩
        have := hK vs1 A1' (undef :: vs2) A2' w'' p1 p2 hO'' hb'
        rw [opsOf_cons ho] at this
        rw [putAll_put _ _ _ _ _ (fun o' h' => (hap o' h').2)]
        exact this

/-- THE RULE: us free · ls: reads that R decides, ahead of ts · l1 and l2 two threads · ts the rest, in their order. -/
theorem wp_region_ltwo {id : Nat} {a : Act} {w : World} (us ls l1 l2 ts : List Nat) (A1 A2 R : HP) [k1 : Loc B A1] [k2 : Loc B A2] [Loc B R] (hm : P.follows .mixedOrders = true)
    (hB : (freeB .any ops us (Array.replicate ops.size false) && mixB .any ops (markAll us (Array.replicate ops.size false)) (ls ++ (l1 ++ l2)) ts && twoB .any ops (markAll ls (markAll us (Array.replicate ops.size false))) l1 l2 ts) = true)
    (hf : ops.size = us.length + ((ls.length + (l1.length + l2.length)) + ts.length))
    (hQ : ∀ c a d v w, Q (.panic c) (a.put (some d) v) w → Q (.panic c) a w) (hsz : B ≤ w.heap.size) (hO : Own B (A1 * (A2 * R)) w.drew)
    (h : wpFree P ops (fun a1 => wpLate P ops (fun w => Own B R w) (fun a2 => ∃ Φ1 Φ2 : List Value → HP → Prop, TW P ops B (opsOf ops l1) Φ1 a2 A1 ∧ TW P ops B (opsOf ops l2) Φ2 a2 A2 ∧
      ∀ vs1 A1' vs2 A2' w', Φ1 vs1 A1' → Φ2 vs2 A2' → Own B (A1' * (A2' * R)) w' → Below B w w' → wpList P ops Q (ts.filterMap fun i => ops[i]?) (putAll (opsOf ops l2) vs2 (putAll (opsOf ops l1) vs1 a2)) w')
      (ls.filterMap fun i => ops[i]?) a1) (us.filterMap fun i => ops[i]?) a) : (Code.region id ops true).wp P Q a w := by
  simp only [Bool.and_eq_true] at hB
  obtain ⟨⟨hB1, hB2⟩, hB3⟩ := hB
  obtain ⟨hsel, ok1⟩ := mixB_ok hB2
  obtain ⟨_, ok2⟩ := twoB_ok hB3
  have hts : ∀ i ∈ ts, i < ops.size := fun i hi => (ok1.un i (by simp [hi])).1
  refine wp_region_any hm ?_
  have hR : Own B R w.drew := hO.right.right
  have hgo : wpAny P .any ops Q (us.length + ((ls.length + (l1.length + l2.length)) + ts.length)) (Array.replicate ops.size false) a w.drew := by
    refine wpAny_free hQ hsel us _ a hB1 (fun a1 h1 => ?_) h
    refine wpL_any (S := fun w => Own B R w) (T := fun a4 w4 => wpOps P ops Q ts a4 w4) (fun _ _ h => h) _ (ls ++ (l1 ++ l2)) _ a1 _ (by simp) ok1 ?_
    have := wpL_lates (P := P) (S := fun w => Own B R w) (T := fun a4 w4 => wpOps P ops Q ts a4 w4) (w := w.drew) hsel hQ hR ls (l1 ++ l2) _ a1 ok1 (fun a2 ⟨Φ1, Φ2, t1, t2, hK⟩ _ => ?_) h1
    · rw [List.length_append]
      exact wpL_two hsel (l1.length + l2.length) l1 l2 _ a2 _ Φ1 Φ2 A1 A2 rfl k1 k2 ok2 t1 t2 hsz hO fun vs1 A1' vs2 A2' w' p1 p2 ho hb => wpOps_list ts _ w' hts (hK vs1 A1' vs2 A2' w' p1 p2 ho ((Below.refl B w).drew.trans hb))
    · rw [List.length_append] at this
      exact this
  rw [← hf] at hgo
  exact hgo

/-- A step that makes memory, or turns what the thread owns. -/
theorem tw_run {o : Oper} {l : List Oper} {Φ : List Value → HP → Prop} {a : Act} {A : HP} [k : Loc B A] (Ψ : Value → HP → Prop) (hw : Region.wanted o (yielded ops a.tmps) = true)
    (hr : ∀ (R : HP) [Loc B R] (w : World), B ≤ w.heap.size → Own B (A * R) w → ∃ v A' w', (execOp a.eval o).run P w = .ok (.value v) w' ∧ (Loc B A' ∧ Ψ v A') ∧ Own B (A' * R) w' ∧ Below B w w')
    (h : ∀ v A', Loc B A' → Ψ v A' → TW P ops B l (fun vs => Φ (v :: vs)) (a.put o.dst v) A') : TW P ops B (o :: l) Φ a A :=
  ⟨k, .inl ⟨hw, fun R _ w hB hO => by
    obtain ⟨v, A', w', he, ⟨kl, hp⟩, ho, hb⟩ := hr R w hB hO
    rw [he]
    exact ⟨A', ⟨kl, h v A' kl hp⟩, ho, hb⟩⟩⟩

theorem exec_append {o : Oper} {a : Act} {w w' : World} (s x : Operand) (t : TypeId) {v u v' : Value} (ho : o.op = .call { callee := .builtin .append, args := #[s, x], argTypes := #[t, t] }) (hs : a.eval s = v) (hx : a.eval x = u)
    (hr : (Builtin.append_ #[t, t] o.type #[v, u]).run P w = .ok v' w') : (execOp a.eval o).run P w = .ok (.value v') w' := by
  unfold execOp
  simp only [ho, resolve, invoke, builtin, Sem.run_bind, Sem.run_pure, Result.andThen_ok, List.map_toArray, List.map_cons, List.map_nil, hs, hx, hr]
end
end Go.Proofs.YtfppancidgamjaaDoor
