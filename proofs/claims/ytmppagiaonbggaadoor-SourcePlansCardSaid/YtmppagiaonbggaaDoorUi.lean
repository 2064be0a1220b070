/- Texts of one proof, merged: XO4 XO5 XO6 XEc XEd XEe XQp XEf XEi XEj XEk XO7 XO8 XG7 XG5 XOn XO9 XOd. -/
import Derived.Test.YtmppagiaonbggaaDoorUh
import Derived.RangeFuncNested
import Derived.RangeFuncBound
import Derived.RangeFuncCalls
import Derived.RangeFuncBox
import Derived.RangeFuncLeaves
import Derived.Shelf.Abstract
import Derived.Shelf.RegionOpen
import Derived.WalkKit
import Derived.OwnWalkIn
import Derived.TacticsInMore
import Derived.LoopNIn
import Derived.LoopIn
import Derived.Lib.SmallJoins
import Derived.Laws.IdiomStrings
import Derived.Lib.BufferRead
import Derived.Lib.AppendZerosOnto
/- The walks over the search for a number's end, and over slices.Backward of bytes. -/
namespace Go.Proofs.YtmppagiaonbggaaDoor
set_option linter.unusedVariables false
set_option linter.unusedSimpArgs false
set_option maxRecDepth 100000
open Go.RowKit Go.Shelf

attribute [local go_sem] Oper.semAt_some

def endI (l : List UInt8) : Int := match endN l with | none => -1 | some k => (k : Int)
theorem endN_none : ∀ {l : List UInt8}, (∀ j (h : j < l.length), ¬ l[j].toNat < 128) → endN l = none
  | [], _ => rfl
  | c :: l, h => by
    unfold endN
    rw [if_neg (show ¬ c.toNat < 128 from h 0 (by simp)), endN_none (fun j hj => h (j + 1) (by simpa using hj))]
    rfl
theorem endN_some : ∀ {l : List UInt8} {i : Nat} (hi : i < l.length), (∀ j (h : j < l.length), j < i → ¬ l[j].toNat < 128) → l[i].toNat < 128 → endN l = some i
  | [], i, hi, _, _ => absurd hi (by simp)
  | c :: l, 0, _, _, h1 => by unfold endN; rw [if_pos (show c.toNat < 128 from h1)]
  | c :: l, i + 1, hi, h, h1 => by
    unfold endN
    rw [if_neg (show ¬ c.toNat < 128 from h 0 (by simp) (by omega)), endN_some (l := l) (i := i) (by simpa using hi) (fun j hj hlt => h (j + 1) (by simpa using hj) (by omega)) h1]
    rfl

def upto {α : Type} (f : Nat → α) (k : Nat) : List α := (List.range k).map f
theorem upto_succ {α : Type} (f : Nat → α) (k : Nat) : upto f (k + 1) = upto f k ++ [f k] := by simp [upto, List.range_succ]
theorem upto_length {α : Type} (f : Nat → α) (k : Nat) : (upto f k).length = k := by simp [upto]
def bwdF (l : List UInt8) (k : Nat) : Nat × UInt8 := (l.length - 1 - k, (l[l.length - 1 - k]?).getD 0)
def encNB (x : Nat × UInt8) : Array Value := #[.int .i64 (x.1 : Int), .int .u8 (x.2.toNat : Int)]

end Go.Proofs.YtmppagiaonbggaaDoor

/- The walks over Number and Bytes of package octet's reader. -/
namespace Go.Proofs.YtmppagiaonbggaaDoor
set_option linter.unusedVariables false
set_option linter.unusedSimpArgs false
set_option maxRecDepth 100000
open Go.RowKit Go.Shelf

attribute [local go_sem] Oper.semAt_some

def valB (xs : List (Nat × UInt8)) : Nat := xs.foldl (fun n x => 128 * n + x.2.toNat % 128) 0
theorem valB_snoc (xs : List (Nat × UInt8)) (x : Nat × UInt8) : valB (xs ++ [x]) = 128 * valB xs + x.2.toNat % 128 := by unfold valB; rw [List.foldl_append]; rfl
theorem valB_lt (xs : List (Nat × UInt8)) : valB xs < 128 ^ xs.length := by
  have : ∀ ys : List (Nat × UInt8), valB ys.reverse < 128 ^ ys.length := by
    intro ys
    induction ys with
    | nil => decide
    | cons y ys ih => rw [List.reverse_cons, valB_snoc, List.length_cons, Nat.pow_succ]; omega
  have h := this xs.reverse
  rwa [List.reverse_reverse, List.length_reverse] at h
theorem valB_bwd (l : List UInt8) : ∀ k, k ≤ l.length → valB (upto (bwdF l) k) = lebV (l.drop (l.length - k))
  | 0, _ => by rw [Nat.sub_zero, List.drop_length]; rfl
  | k + 1, hk => by
    rw [upto_succ, valB_snoc, valB_bwd l k (by omega)]
    have hi : l.length - (k + 1) < l.length := by omega
    rw [List.drop_eq_getElem_cons hi, lebV, show l.length - (k + 1) + 1 = l.length - k by omega]
    have : (bwdF l k).2 = l[l.length - (k + 1)] := by unfold bwdF; rw [show l.length - 1 - k = l.length - (k + 1) by omega]; simp [hi]
    rw [this]; omega


end Go.Proofs.YtmppagiaonbggaaDoor

/- The walks over Bytes of package octet's reader, and over the reference's numbers and bytes. -/
namespace Go.Proofs.YtmppagiaonbggaaDoor
set_option linter.unusedVariables false
set_option linter.unusedSimpArgs false
set_option maxRecDepth 100000
open Go.RowKit

end Go.Proofs.YtmppagiaonbggaaDoor

/- The walks over told, given and same of the laws on entries. -/
namespace Go.Proofs.YtmppagiaonbggaaDoor
set_option linter.unusedVariables false
set_option linter.unusedSimpArgs false
set_option maxRecDepth 100000
open Go.RowKit

theorem infoEnR : (Tryd.prog.info? 62).map (fun i => (i.zero, i.size, i.bytes)) = some (some (.agg #[.string ByteArray.empty, .int .i64 0, .int .i64 0, .int .i64 0, .string ByteArray.empty, .int .i64 0, .int .i64 0]), 7, 72) := by kernel_rfl

end Go.Proofs.YtmppagiaonbggaaDoor

/- The walk over awake of the laws on entries. -/
namespace Go.Proofs.YtmppagiaonbggaaDoor
set_option linter.unusedVariables false
set_option linter.unusedSimpArgs false
set_option maxRecDepth 100000
open Go.RowKit

def twoFiles : List Fi := [⟨[97], 1, 0, 0, [97, 98, 99], []⟩, ⟨[98], 1, 0, 0, [100, 101], []⟩]
def twoEnts : List En := [⟨[97], 1, 0, 0, [], 0, 3⟩, ⟨[98], 1, 0, 0, [], 3, 2⟩]
theorem two_why : whyE (ents twoFiles) = 0 := by decide +kernel
theorem two_of : ofE twoFiles = twoEnts := by unfold ofE; rw [if_pos two_why]; rfl
theorem two_total : totalE twoEnts = 5 := by decide +kernel
theorem two_fine : fineB twoEnts = true := by decide +kernel

theorem rd_block {w : World} {g : Nat} {arr : Array Value} {t : TypeId} {fr : Nat × Nat} (h : w.heap[g]? = some (.cells arr t fr)) (c : Nat) : Rd w (.slice (some ⟨g, 0, none⟩) arr.size c) arr.toList :=
  ⟨some ⟨g, 0, none⟩, c, by simp, fun _ => ⟨⟨g, 0, none⟩, rfl, fun j u hu => by rw [Addr.add_lit, Nat.zero_add, cell_of_row _ _ _ _ _ _ h]; simpa using hu⟩⟩
theorem rdA_block {α : Type} {k : Nat} {cs : α → List Value} (hk : ∀ a, (cs a).length = k) {w : World} {g : Nat} {arr : Array Value} {t : TypeId} {fr : Nat × Nat} (h : w.heap[g]? = some (.cells arr t fr)) (l : List α) (hl : arr.toList = flat cs l) : RdA k cs w (some ⟨g, 0, none⟩) l := by
  intro i hi
  refine ⟨g, 0, rfl, (Array.getElem?_eq_some_iff.1 h).1, fun j u hu => ?_⟩
  have := flat_get hk l i hi j u hu
  rw [← hl] at this
  rw [Nat.zero_add, cell_of_row _ _ _ _ _ _ h]
  simpa using this
def twoIn (g : Nat) : List (Fi × Value) := [(⟨[97], 1, 0, 0, [97, 98, 99], []⟩, .slice (some ⟨g, 0, none⟩) 3 3), (⟨[98], 1, 0, 0, [100, 101], []⟩, .slice (some ⟨g + 1, 0, none⟩) 2 2)]
theorem fiL_len (x : Fi × Value) : (fiL x).length = 6 := rfl
theorem two_rd {w : World} {g h : Nat} {t1 t2 t3 : TypeId} {f1 f2 f3 : Nat × Nat} (h1 : w.heap[g]? = some (.cells #[.int .u8 97, .int .u8 98, .int .u8 99] t1 f1)) (h2 : w.heap[g + 1]? = some (.cells #[.int .u8 100, .int .u8 101] t2 f2))
    (h3 : w.heap[h]? = some (.cells #[.string ⟨#[97]⟩, .int .i64 1, .int .i64 0, .int .i64 0, .slice (some ⟨g, 0, none⟩) 3 3, .string ⟨#[]⟩, .string ⟨#[98]⟩, .int .i64 1, .int .i64 0, .int .i64 0, .slice (some ⟨g + 1, 0, none⟩) 2 2, .string ⟨#[]⟩] t3 f3)) : RdF w (some ⟨h, 0, none⟩) (twoIn g) := by
  refine ⟨rdA_block fiL_len h3 _ rfl, fun x hx => ?_⟩
  rcases List.mem_cons.1 hx with rfl | hx
  · exact rd_block h1 3
  · rcases List.mem_singleton.1 hx with rfl
    exact rd_block h2 2
theorem two_files_ok : ∀ f ∈ twoFiles, f.ok := by
  intro f hf
  rcases List.mem_cons.1 hf with rfl | hf
  · exact ⟨by decide, ⟨by decide, by decide⟩, ⟨by decide, by decide⟩, ⟨by decide, by decide⟩, by decide⟩
  · rcases List.mem_singleton.1 hf with rfl
    exact ⟨by decide, ⟨by decide, by decide⟩, ⟨by decide, by decide⟩, ⟨by decide, by decide⟩, by decide⟩
theorem two_ok (g : Nat) : ∀ x ∈ twoIn g, x.1.ok := fun x hx => two_files_ok x.1 (show x.1 ∈ (twoIn g).map (·.1) from List.mem_map_of_mem hx)
theorem twoEnts_ok : ∀ e ∈ twoEnts, e.ok ∧ e.path.length ≤ 4294967280 := ents_ok (l := twoFiles) two_files_ok (by decide)

end Go.Proofs.YtmppagiaonbggaaDoor

/- The walks over the laws EntryFirsts, EntryOf and EntryWithins. -/
namespace Go.Proofs.YtmppagiaonbggaaDoor
set_option linter.unusedVariables false
set_option linter.unusedSimpArgs false
set_option maxRecDepth 100000
open Go.RowKit

theorem RdA.take {α : Type} {k : Nat} {cs : α → List Value} {w : World} {A : Option Addr} {l : List α} (h : RdA k cs w A l) (n : Nat) : RdA k cs w A (l.take n) := by
  intro i hi
  have h1 : i < l.length := by rw [List.length_take] at hi; omega
  obtain ⟨b, off, ha, hlt, hc⟩ := h i h1
  exact ⟨b, off, ha, hlt, fun j u hu => hc j u (by rw [List.getElem_take] at hu; exact hu)⟩
theorem RdF.take {w : World} {A : Option Addr} {l : List (Fi × Value)} (h : RdF w A l) (n : Nat) : RdF w A (l.take n) := ⟨h.1.take n, fun x hx => h.2 x (List.mem_of_mem_take hx)⟩
theorem entsFrom_take : ∀ (l : List Fi) (a : Int) (n : Nat), entsFrom a (l.take n) = (entsFrom a l).take n
  | [], _, _ => by simp [entsFrom]
  | f :: l, a, 0 => by simp [entsFrom]
  | f :: l, a, n + 1 => by
    simp only [List.take_succ_cons, entsFrom]
    rw [entsFrom_take l]
theorem ents_take (l : List Fi) (n : Nat) : ents (l.take n) = (ents l).take n := entsFrom_take l 0 n
theorem begB_ents : ∀ (l : List Fi) (a : Int), begB a (entsFrom a l) = true
  | [], _ => rfl
  | f :: l, a => by
    unfold entsFrom begB
    rw [Bool.and_eq_true]
    exact ⟨by simp, begB_ents l _⟩
theorem whyE_of {l : List En} (h1 : sortedB (l.map (·.path)) = true) (h2 : l.length ≤ 1024) (h3 : sumC l ≤ 4194304) (h4 : ∀ e ∈ l, plainP e) : whyE l = 0 := by
  have ha : (l.map (·.path)).all okPath = true := by unfold sortedB at h1; exact (Bool.and_eq_true _ _ ▸ h1).1
  have hs : l.all (fun e => decide (e.size ≤ 1048576)) = true := by
    rw [List.all_eq_true]; intro e he; obtain ⟨_, _, _, _, _, h6, _⟩ := h4 e he; exact decide_eq_true h6
  have hp : l.all plainB = true := by rw [List.all_eq_true]; intro e he; exact decide_eq_true (h4 e he)
  rw [whyE_eq, ha, h1, hs, hp, if_neg (by simp), if_neg (by simp), if_neg (by simp; omega), if_neg (by simp)]
theorem sumM_take (l : List En) (n : Nat) : sumM (l.take n) ≤ sumM l := by
  have : sumM l = sumM (l.take n) + sumM (l.drop n) := by
    conv => lhs; rw [← List.take_append_drop n l]
    unfold sumM
    rw [List.map_append, List.sum_append]
  have := sumM_nonneg (l.drop n)
  omega
theorem whyE_take {l : List En} (h : whyE l = 0) (n : Nat) : whyE (l.take n) = 0 := by
  obtain ⟨h1, h2, h3, h4⟩ := whyE_zero h
  refine whyE_of ?_ (by rw [List.length_take]; omega) ?_ (fun e he => h4 e (List.mem_of_mem_take he))
  · rw [sortedB_iff] at h1 ⊢
    exact sorted_sub h1 ((List.take_sublist n l).map _)
  · rw [sumC_min] at h3 ⊢
    have := sumM_take l n
    omega
theorem fineB_ents {l : List Fi} (h : whyE (ents l) = 0) : fineB (ents l) = true := by
  unfold fineB ents
  unfold ents at h
  rw [h, begB_ents]; rfl

end Go.Proofs.YtmppagiaonbggaaDoor

/- When a list is ahead of another one. -/
namespace Go.Proofs.YtmppagiaonbggaaDoor
set_option linter.unusedVariables false
set_option linter.unusedSimpArgs false
set_option maxRecDepth 100000
theorem prefix_iff {α : Type} [DecidableEq α] (p x : List α) : p <+: x ↔ p.length ≤ x.length ∧ ∀ i (h : i < p.length) (h2 : i < x.length), x[i] = p[i] := by
  constructor
  · rintro ⟨t, rfl⟩
    exact ⟨by simp, fun i h h2 => by rw [List.getElem_append_left h]⟩
  · rintro ⟨h1, h2⟩
    refine ⟨x.drop p.length, ?_⟩
    conv => rhs; rw [← List.take_append_drop p.length x]
    congr 1
    refine List.ext_getElem (by simp; omega) fun i a b => ?_
    rw [List.getElem_take, h2 i a (by omega)]

end Go.Proofs.YtmppagiaonbggaaDoor

/- The walks over the laws EntryOf and EntryWithins. -/
namespace Go.Proofs.YtmppagiaonbggaaDoor
set_option linter.unusedVariables false
set_option linter.unusedSimpArgs false
set_option maxRecDepth 100000
open Go.RowKit

theorem takeWhile_prefix {α : Type} {p q : α → Bool} (h : ∀ x, p x = true → q x = true) : ∀ l : List α, l.takeWhile p <+: l.takeWhile q
  | [] => List.prefix_refl _
  | a :: l => by
    rw [List.takeWhile_cons, List.takeWhile_cons]
    by_cases hp : p a = true
    · rw [if_pos hp, if_pos (h a hp)]
      obtain ⟨t, ht⟩ := takeWhile_prefix h l
      exact ⟨t, by rw [List.cons_append, ht]⟩
    · rw [if_neg hp]; exact List.nil_prefix
theorem within_prefix (l : List En) {n m : Int} (h : n ≤ m) : withinE l n <+: withinE l m := by
  unfold withinE
  split
  · exact takeWhile_prefix (fun x hx => by rw [decide_eq_true_eq] at hx ⊢; omega) l
  · exact List.prefix_refl _
theorem sumS_take {l : List En} (h : ∀ e ∈ l, plainP e) (n : Nat) : sumS (l.take n) ≤ sumS l := by
  have h1 : sumS l = sumS (l.take n) + sumS (l.drop n) := by
    conv => lhs; rw [← List.take_append_drop n l]
    unfold sumS
    rw [List.map_append, List.sum_append]
  have := (sumS_range (l := l.drop n) (fun e he => h e (List.mem_of_mem_drop he))).1
  omega
theorem within_total {l : List En} (h : fineB l = true) : withinE l (totalE l) = l := by
  obtain ⟨h1, h2⟩ := fineB_true h
  obtain ⟨_, _, _, hp⟩ := whyE_zero h1
  unfold withinE
  rw [if_pos h]
  have : ∀ x ∈ l, decide (x.beg + x.size ≤ totalE l) = true := by
    intro x hx
    obtain ⟨i, hi, rfl⟩ := List.mem_iff_getElem.1 hx
    unfold totalE
    rw [if_pos h, decide_eq_true_eq, h2 i hi, ← sumS_snoc, ← List.take_succ_eq_append_getElem hi]
    exact sumS_take hp (i + 1)
  have h3 := takeWhile_take (fun e : En => decide (e.beg + e.size ≤ totalE l)) l l.length (by rw [List.take_length]; exact this)
  rw [h3]; simp

end Go.Proofs.YtmppagiaonbggaaDoor

/- Bytes appended to a row of bytes; files with the rows that their data lie in. -/
namespace Go.Proofs.YtmppagiaonbggaaDoor
set_option linter.unusedVariables false
set_option linter.unusedSimpArgs false
set_option maxRecDepth 100000
open Go.RowKit

/-- The rows that files' data lie in. -/
def Dat : List (Fi × Value) → HP
  | [] => Emp
  | x :: l => Rw 5 1 x.2 x.1.data.length (bytesU x.1.data) * Dat l
instance Loc.dat {B : Nat} : (l : List (Fi × Value)) → Loc B (Dat l)
  | [] => inferInstanceAs (Loc B Emp)
  | x :: l => by
    have := Loc.dat (B := B) l
    exact inferInstanceAs (Loc B (Rw 5 1 x.2 x.1.data.length (bytesU x.1.data) * Dat l))
theorem dat_append (a b : List (Fi × Value)) : Dat (a ++ b) = Dat a * Dat b ∨ True := .inr trivial
theorem Own.dat {B : Nat} {w : World} : ∀ {l : List (Fi × Value)} {R : HP}, Own B (Dat l * R) w → ∀ x ∈ l, Rd w x.2 (bytesU x.1.data)
  | [], _, _, x, hx => absurd hx (by simp)
  | y :: l, R, h, x, hx => by
    have h1 : Own B (Rw 5 1 y.2 y.1.data.length (bytesU y.1.data) * (Dat l * R)) w := h.assoc
    rcases List.mem_cons.1 hx with rfl | hx
    · exact h1.rd
    · exact Own.dat h1.right x hx
theorem Own.dat_snoc {B : Nat} {w : World} {x : Fi × Value} : ∀ {l : List (Fi × Value)} {R : HP}, Own B (Dat l * (Rw 5 1 x.2 x.1.data.length (bytesU x.1.data) * R)) w → Own B (Dat (l ++ [x]) * R) w
  | [], R, h => (h.right.cast (show _ = (Rw 5 1 x.2 x.1.data.length (bytesU x.1.data) * R) from rfl)).mono (fun w F ⟨F1, F2, hd, h1, h2, ha, hr⟩ => ⟨F1, F2, hd, h1, h2, ⟨F1, fun _ => False, fun _ _ h => h, fun _ h => h, fun _ h => h.elim, ha, trivial⟩, hr⟩)
  | y :: l, R, h => by
    have h1 : Own B (Dat l * (Rw 5 1 x.2 x.1.data.length (bytesU x.1.data) * (Rw 5 1 y.2 y.1.data.length (bytesU y.1.data) * R))) w :=
      h.cast (by show ((Rw 5 1 y.2 y.1.data.length (bytesU y.1.data) * Dat l) * _) = _; ac_rfl)
    have h2 := Own.dat_snoc h1
    exact h2.cast (by show _ = ((Rw 5 1 y.2 y.1.data.length (bytesU y.1.data) * Dat (l ++ [x])) * R); ac_rfl)
end Go.Proofs.YtmppagiaonbggaaDoor

/- The walk over Fill of package entry. -/
namespace Go.Proofs.YtmppagiaonbggaaDoor
set_option linter.unusedVariables false
set_option linter.unusedSimpArgs false
set_option maxRecDepth 100000
open Go.RowKit

theorem infoFi : (Tryd.prog.info? 57).map (fun i => (i.zero, i.size, i.bytes)) = some (some (.agg #[.string ByteArray.empty, .int .i64 0, .int .i64 0, .int .i64 0, .slice none 0 0, .string ByteArray.empty]), 6, 80) := by kernel_rfl
def fileOf (data : List UInt8) (e : En) : Fi := ⟨e.path, e.kind, e.mode, e.time, (data.drop e.beg.toNat).take e.size.toNat, e.tgt⟩
def fillE (l : List En) (data : List UInt8) : Option (List Fi) := if fineB l = true ∧ (data.length : Int) = totalE l then some (l.map (fileOf data)) else none
def FillP (w : World) : Option (List Fi) → Ending → World → Prop
  | none, e, w' => e = .returned (.tuple #[.slice none 0 0, .int .i64 1]) ∧ Below w.heap.size w w'
  | some fs, e, w' => ∃ (A : Option Addr) (c : Nat) (l : List (Fi × Value)), l.map (·.1) = fs ∧ e = .returned (.tuple #[.slice A l.length c, .int .i64 0]) ∧ (l.length ≤ c ∧ c ≤ 9223372036854775807) ∧ RdF w' A l ∧ Below w.heap.size w w'
theorem FillP.mk {w w' : World} {fs : List Fi} {e : Ending} {A : Option Addr} {c n : Nat} {l : List (Fi × Value)} {z : Int} (he : e = .returned (.tuple #[.slice A n c, .int .i64 z])) (hz : z = 0) (hn : n = l.length) (hl : l.map (·.1) = fs) (hc : n ≤ c ∧ c ≤ 9223372036854775807) (hr : RdF w' A l) (hb : Below w.heap.size w w') : FillP w (some fs) e w' := by
  subst hz; subst hn; exact ⟨A, c, l, hl, he, hc, hr, hb⟩
theorem fine_ends {l : List En} (h : fineB l = true) (i : Nat) (hi : i < l.length) : l[i].beg + l[i].size ≤ totalE l := by
  obtain ⟨h1, h2⟩ := fineB_true h
  obtain ⟨_, _, _, hp⟩ := whyE_zero h1
  unfold totalE
  rw [if_pos h, h2 i hi, ← sumS_snoc, ← List.take_succ_eq_append_getElem hi]
  exact sumS_take hp _

theorem Rd.cut {w : World} {A : Option Addr} {n c : Nat} {data : List UInt8} (h : Rd w (.slice A n c) (bytesU data)) {l m : Nat} (hm : l + m ≤ data.length) (hc : data.length ≤ c) (c' : Nat) :
    Rd w (.slice (if c = l then A else Option.map (fun x => x.add l) A) m c') (bytesU ((data.drop l).take m)) := by
  have hl : ((data.drop l).take m).length = m := by rw [List.length_take, List.length_drop]; omega
  split
  · next e =>
    have : m = 0 := by omega
    subst this
    exact ⟨A, c', by simp [bytesU], fun hne => absurd (by simp [bytesU]) hne⟩
  · exact h.part l m c' _ (by unfold bytesU; rw [← List.map_drop, ← List.map_take]) (by rw [bytesU_length, hl])

end Go.Proofs.YtmppagiaonbggaaDoor

/- The walk over Files of the laws on entries. -/
namespace Go.Proofs.YtmppagiaonbggaaDoor
set_option linter.unusedVariables false
set_option linter.unusedSimpArgs false
set_option maxRecDepth 100000
open Go.RowKit

/-- string(b) of bytes that one can read. -/
theorem str_of_rd {w : World} {v : Value} {data : List UInt8} (h : Rd w v (bytesU data)) : (convert 32 9 v).run Tryd.prog w = .ok (.string (str data)) w := by
  obtain ⟨A, c, rfl, hr⟩ := h
  rw [bytesU_length]
  by_cases hne : bytesU data = []
  · obtain rfl : data = [] := by simpa [bytesU] using hne
    cases A with
    | none => exact run_convert_bytes_nil w 32 5 Tryd.underlying32 Tryd.underlying5 0 c 9 Tryd.underlying9
    | some ad => exact run_convert_bytes_back w 32 9 5 ad c [] Tryd.underlying32 Tryd.underlying5 Tryd.underlying9 (fun j hj => absurd hj (by simp))
  · obtain ⟨ad, rfl, hc⟩ := hr hne
    exact run_convert_bytes_back w 32 9 5 ad c data Tryd.underlying32 Tryd.underlying5 Tryd.underlying9 (fun j hj => hc j _ (by simp [bytesU, hj]))

set_option maxRecDepth 100000 in
set_option maxHeartbeats 3200000 in
theorem files_same (A B : Option Addr) (ca cb : Nat) (a b : List (Fi × Value)) (ha : a.length ≤ 4294967296) (he : a.map (·.1) = b.map (·.1)) (w : World) (hra : RdF w A a) (hrb : RdF w B b) :
    Calls Tryd.prog 19 #[.slice A a.length ca, .slice B b.length cb] w fun e w' => e = .returned (.bool true) ∧ Below w.heap.size w w' := by
  have hb := Below.refl w.heap.size w
  have Ha := Lib.hid (fun w1 (h : Below w.heap.size w w1) => hra.below h)
  have Hb := Lib.hid (fun w1 (h : Below w.heap.size w w1) => hrb.below h)
  have hlen : b.length = a.length := by simpa using (congrArg List.length he).symm
  have He := Lib.hid (fun i (h1 : i < a.length) (h2 : i < b.length) => show a[i].1 = b[i].1 by
    have := List.getElem_of_eq he (i := i) (by simpa using h1)
    simpa using this)
  have n1 : (a.length : Int) ≤ 4294967296 := by omega
  have Hlen := Lib.hid hlen
  rw [hlen]
  clear hra hrb he hlen
  obtain ⟨n, hal⟩ : ∃ n, n = a.length := ⟨_, rfl⟩
  rw [← hal] at n1 ⊢
  have Hal := Lib.hid hal
  clear hal ha
  have hnn : (n == n) = true := by simp
  go_enter Tryd.func19, Tryd.ntmps19
  go_wp2
  go_loopg [15] n (fun k v wr => ∃ i : Nat, k + i = n ∧ v = .int .i64 i ∧ Below w.heap.size w wr)
  case atStart => exact ⟨0, by omega, rfl, hb⟩
  case round =>
    clear hb
    obtain ⟨i, hk, rfl, hb⟩ := hrel
    by_cases hlt : (i : Int) < (n : Int)
    · obtain ⟨j, rfl⟩ : ∃ j, gk = j + 1 := ⟨gk - 1, by omega⟩
      have hil : i < a.length := by have := Hal.out; omega
      have hil2 : i < b.length := by have := Hal.out; have := Hlen.out; omega
      have i0' : (0 : Int) ≤ (i : Int) := by omega
      obtain ⟨p1, o1, rfl, q1, d⟩ := (Ha.out _ hb).1 i hil
      obtain ⟨p2, o2, rfl, q2, d'⟩ := (Hb.out _ hb).1 i hil2
      obtain ⟨d0, d1, d2, d3, d4, d5⟩ := cells6 d
      obtain ⟨e0, e1, e2, e3, e4, e5⟩ := cells6 d'
      have r1 := (Ha.out _ hb).2 _ (List.getElem_mem hil)
      have r2 := (Hb.out _ hb).2 _ (List.getElem_mem hil2)
      have hg := He.out i hil hil2
      have Hk := Lib.hid hk
      clear d d' hk
      rw [← hg] at e0 e1 e2 e3 e5 r2
      clear hg
      generalize a[i] = x at *
      generalize b[i].2 = yv at *
      obtain ⟨⟨path, kind, mode, time, data, tgt⟩, xv⟩ := x
      simp only at d0 d1 d2 d3 d4 d5 e0 e1 e2 e3 e4 e5 r1 r2
      obtain ⟨Ax, cx, hx⟩ : ∃ A c, xv = .slice A data.length c := by obtain ⟨A, c, h, _⟩ := r1; exact ⟨A, c, by rw [h, bytesU_length]⟩
      obtain ⟨Ay, cy, hy⟩ : ∃ A c, yv = .slice A data.length c := by obtain ⟨A, c, h, _⟩ := r2; exact ⟨A, c, by rw [h, bytesU_length]⟩
      subst hx; subst hy
      generalize hdn : data.length = dn at *
      clear hdn
      have b1 := (Below.refl wr.heap.size wr).alloc (Nat.le_refl _) (.cells #[.string (str path), .int .i64 kind, .int .i64 mode, .int .i64 time, .slice Ax dn cx, .string (str tgt)] 57)
      have b2 := b1.alloc (by simp) (.cells #[.string (str path), .int .i64 kind, .int .i64 mode, .int .i64 time, .slice Ay dn cy, .string (str tgt)] 57)
      have s1 := str_of_rd (r1.below b2)
      have s2 := str_of_rd (r2.below b2)
      have hb2 := hb.trans (b2.mono hb.size)
      clear r1 r2 b1 b2 hb
      go_wp2
      go_roundg j
      case measure => omega
      case rel => exact ⟨i + 1, by have := Hk.out; omega, rfl, hb2⟩
    · go_wp2
      go_ret
      exact ⟨rfl, hb⟩
end Go.Proofs.YtmppagiaonbggaaDoor

/- The walk over read of package entry: an entry out of a reader. -/
namespace Go.Proofs.YtmppagiaonbggaaDoor
set_option linter.unusedVariables false
set_option linter.unusedSimpArgs false
set_option maxRecDepth 100000
open Go.RowKit

def mx : Int := 1099511627775
def stN (s : OS) : Nat → OS
  | 0 => s
  | i + 1 => (readNum (stN s i) mx).2
def vN (s : OS) (i : Nat) : Int := (readNum (stN s i) mx).1
theorem stN_rest (s : OS) : ∀ i, (stN s i).rest.length ≤ s.rest.length
  | 0 => Nat.le_refl _
  | i + 1 => Nat.le_trans (readNum_rest _ _) (stN_rest s i)
/-- An entry out of a reader. -/
def readE (s : OS) : En × OS :=
  let b1 := readBytes (stN s 5) 256
  let b2 := readBytes b1.2 256
  (⟨b1.1, vN s 0, vN s 1, vN s 2, b2.1, vN s 3, vN s 4⟩, b2.2)
def cN (s : OS) (i j : Nat) : Value := .int .i64 (if j < i then vN s j else 0)
def cellsN (s : OS) (i : Nat) : Array Value := #[.string ByteArray.empty, cN s i 0, cN s i 1, cN s i 2, .string ByteArray.empty, cN s i 3, cN s i 4]
def ptrsN (X : Nat) : Array Value := #[.pointer (some ⟨X, 1, none⟩), .pointer (some ⟨X, 2, none⟩), .pointer (some ⟨X, 3, none⟩), .pointer (some ⟨X, 5, none⟩), .pointer (some ⟨X, 6, none⟩)]
def zero7 : Array Value := #[.string ByteArray.empty, .int .i64 0, .int .i64 0, .int .i64 0, .string ByteArray.empty, .int .i64 0, .int .i64 0]


end Go.Proofs.YtmppagiaonbggaaDoor

/- Entries as bytes: plain laws of what is written, and of what is read. -/
namespace Go.Proofs.YtmppagiaonbggaaDoor
set_option linter.unusedVariables false
set_option linter.unusedSimpArgs false
set_option maxRecDepth 100000

def obytes (x : List UInt8) : List UInt8 := onumI (x.length : Int) ++ x
def encE (e : En) : List UInt8 := onumI e.kind ++ (onumI e.mode ++ (onumI e.time ++ (onumI e.beg ++ (onumI e.size ++ (obytes e.path ++ obytes e.tgt)))))
def encL (l : List En) : List UInt8 := onumI (l.length : Int) ++ l.flatMap encE
structure En.num (e : En) : Prop where
  kind : 0 ≤ e.kind ∧ e.kind ≤ 1099511627775
  mode : 0 ≤ e.mode ∧ e.mode ≤ 1099511627775
  time : 0 ≤ e.time ∧ e.time ≤ 1099511627775
  beg : 0 ≤ e.beg ∧ e.beg ≤ 1099511627775
  size : 0 ≤ e.size ∧ e.size ≤ 1099511627775
  path : e.path.length ≤ 256
  tgt : e.tgt.length ≤ 256
theorem onumI_in {n : Int} (h : 0 ≤ n ∧ n ≤ 1099511627775) : onumI n = onum n.toNat := by unfold onumI; rw [if_neg (by omega)]
theorem readNum_onumI {n : Int} (h : 0 ≤ n ∧ n ≤ 1099511627775) (most : Int) (hm : n ≤ most) (r : List UInt8) : readNum ⟨onumI n ++ r, 0⟩ most = (n, ⟨r, 0⟩) := by
  rw [onumI_in h, readNum_onum (by omega) most (by omega), Int.toNat_of_nonneg h.1]
theorem obytes_eq (x : List UInt8) (h : x.length ≤ 1099511627775) : obytes x = bytesN x := by unfold obytes bytesN; rw [onumI_in (by omega), Int.toNat_natCast]
theorem readE_encE {e : En} (h : e.num) (r : List UInt8) : readE ⟨encE e ++ r, 0⟩ = (e, ⟨r, 0⟩) := by
  obtain ⟨h1, h2, h3, h4, h5, h6, h7⟩ := h
  obtain ⟨path, kind, mode, time, tgt, beg, size⟩ := e
  simp only at h1 h2 h3 h4 h5 h6 h7
  unfold encE
  simp only [List.append_assoc]
  have s1 : stN ⟨onumI kind ++ (onumI mode ++ (onumI time ++ (onumI beg ++ (onumI size ++ (obytes path ++ (obytes tgt ++ r)))))), 0⟩ 1 = ⟨onumI mode ++ (onumI time ++ (onumI beg ++ (onumI size ++ (obytes path ++ (obytes tgt ++ r))))), 0⟩ := by
    unfold stN stN; rw [readNum_onumI h1 mx h1.2]
  generalize hs : (⟨onumI kind ++ (onumI mode ++ (onumI time ++ (onumI beg ++ (onumI size ++ (obytes path ++ (obytes tgt ++ r)))))), 0⟩ : OS) = s at *
  have v0 : vN s 0 = kind := by unfold vN stN; rw [← hs, readNum_onumI h1 mx h1.2]
  have s2 : stN s 2 = ⟨onumI time ++ (onumI beg ++ (onumI size ++ (obytes path ++ (obytes tgt ++ r)))), 0⟩ := by
    rw [stN, s1, readNum_onumI h2 mx h2.2]
  have v1 : vN s 1 = mode := by unfold vN; rw [s1, readNum_onumI h2 mx h2.2]
  have s3 : stN s 3 = ⟨onumI beg ++ (onumI size ++ (obytes path ++ (obytes tgt ++ r))), 0⟩ := by
    rw [stN, s2, readNum_onumI h3 mx h3.2]
  have v2 : vN s 2 = time := by unfold vN; rw [s2, readNum_onumI h3 mx h3.2]
  have s4 : stN s 4 = ⟨onumI size ++ (obytes path ++ (obytes tgt ++ r)), 0⟩ := by
    rw [stN, s3, readNum_onumI h4 mx h4.2]
  have v3 : vN s 3 = beg := by unfold vN; rw [s3, readNum_onumI h4 mx h4.2]
  have s5 : stN s 5 = ⟨obytes path ++ (obytes tgt ++ r), 0⟩ := by
    rw [stN, s4, readNum_onumI h5 mx h5.2]
  have v4 : vN s 4 = size := by unfold vN; rw [s4, readNum_onumI h5 mx h5.2]
  have b1 : readBytes ⟨obytes path ++ (obytes tgt ++ r), 0⟩ 256 = (path, ⟨obytes tgt ++ r, 0⟩) := by
    rw [obytes_eq path (by omega), readBytes_bytes 256 (by omega) (by omega)]
  have b2 : readBytes ⟨obytes tgt ++ r, 0⟩ 256 = (tgt, ⟨r, 0⟩) := by
    rw [obytes_eq tgt (by omega), readBytes_bytes 256 (by omega) (by omega)]
  unfold readE
  simp only [s5, b1, b2, v0, v1, v2, v3, v4]
theorem stN_ok {s : OS} : ∀ (i : Nat), (stN s i).err = 0 → s.err = 0 ∧ ∀ j, j < i → (stN s j).err = 0 ∧ (stN s j).rest = onumI (vN s j) ++ (stN s (j + 1)).rest ∧ 0 ≤ vN s j ∧ vN s j ≤ 1099511627775
  | 0, h => ⟨h, fun j hj => absurd hj (Nat.not_lt_zero _)⟩
  | i + 1, h => by
    have hr : readNum (stN s i) mx = (vN s i, stN s (i + 1)) := rfl
    obtain ⟨h1, h2, h3, h4, h5⟩ := readNum_ok hr h
    obtain ⟨k1, k2⟩ := stN_ok i h1
    refine ⟨k1, fun j hj => ?_⟩
    by_cases e : j = i
    · subst e
      exact ⟨h1, by rw [onumI_in ⟨h3, h5⟩]; exact h2, h3, h5⟩
    · exact k2 j (by omega)
theorem readE_ok {s t : OS} {e : En} (h : readE s = (e, t)) (ht : t.err = 0) : s.err = 0 ∧ s.rest = encE e ++ t.rest ∧ e.num := by
  unfold readE at h
  simp only at h
  injection h with h1 h2
  generalize hb1 : readBytes (stN s 5) 256 = q1 at *
  obtain ⟨path, t1⟩ := q1
  generalize hb2 : readBytes t1 256 = q2 at *
  obtain ⟨tgt, t2⟩ := q2
  simp only at h1 h2
  subst h2
  obtain ⟨k1, k2, k3, _⟩ := readBytes_ok hb2 ht
  obtain ⟨j1, j2, j3, _⟩ := readBytes_ok hb1 k1
  obtain ⟨z, hz⟩ := stN_ok 5 j1
  obtain ⟨_, r0, a0, a0'⟩ := hz 0 (by omega)
  obtain ⟨_, r1, a1, a1'⟩ := hz 1 (by omega)
  obtain ⟨_, r2, a2, a2'⟩ := hz 2 (by omega)
  obtain ⟨_, r3, a3, a3'⟩ := hz 3 (by omega)
  obtain ⟨_, r4, a4, a4'⟩ := hz 4 (by omega)
  subst h1
  refine ⟨z, ?_, ⟨⟨a0, a0'⟩, ⟨a1, a1'⟩, ⟨a2, a2'⟩, ⟨a3, a3'⟩, ⟨a4, a4'⟩, by simp only; omega, by simp only; omega⟩⟩
  unfold encE
  simp only [List.append_assoc]
  rw [obytes_eq path (by omega), obytes_eq tgt (by omega), ← k2, ← j2, ← r4, ← r3, ← r2, ← r1, ← r0]
  rfl

def readL : Nat → OS → List En → List En × OS
  | 0, s, acc => (acc, s)
  | k + 1, s, acc => if (readE s).2.err ≠ 0 then ([], (readE s).2) else readL k (readE s).2 (acc ++ [(readE s).1])
theorem readL_enc : ∀ (l : List En) (r : List UInt8) (acc : List En), (∀ e ∈ l, e.num) → readL l.length ⟨l.flatMap encE ++ r, 0⟩ acc = (acc ++ l, ⟨r, 0⟩)
  | [], r, acc, _ => by simp [readL]
  | e :: l, r, acc, h => by
    rw [List.flatMap_cons, List.append_assoc, List.length_cons, readL, readE_encE (h e List.mem_cons_self), if_neg (by simp), readL_enc l r _ (fun x hx => h x (List.mem_cons_of_mem _ hx))]
    simp
theorem readL_ok : ∀ (k : Nat) (s : OS) (acc x : List En) (t : OS), readL k s acc = (x, t) → t.err = 0 → s.err = 0 ∧ ∃ l, x = acc ++ l ∧ l.length = k ∧ s.rest = l.flatMap encE ++ t.rest ∧ ∀ e ∈ l, e.num
  | 0, s, acc, x, t, h, ht => by
    injection h with h1 h2
    subst h1; subst h2
    exact ⟨ht, [], by simp, rfl, by simp, by simp⟩
  | k + 1, s, acc, x, t, h, ht => by
    unfold readL at h
    split at h
    · rename_i he
      injection h with h1 h2
      subst h2
      exact absurd ht he
    · obtain ⟨h1, l, h2, h3, h4, h5⟩ := readL_ok k _ _ x t h ht
      obtain ⟨k1, k2, k3⟩ := readE_ok (s := s) (e := (readE s).1) (t := (readE s).2) rfl h1
      refine ⟨k1, (readE s).1 :: l, by rw [h2]; simp, by simp [h3], by rw [k2, h4, List.flatMap_cons, List.append_assoc], fun e he => ?_⟩
      rcases List.mem_cons.1 he with rfl | he
      · exact k3
      · exact h5 e he
def readAll (b : List UInt8) : List En × OS := readL (readNum ⟨b, 0⟩ 1024).1.toNat (readNum ⟨b, 0⟩ 1024).2 []
def decZ (b : List UInt8) : Int := if oend (readAll b).2 = 0 ∧ fineB (readAll b).1 = false then 4 else oend (readAll b).2
def decP (b : List UInt8) : List En × Int := if decZ b ≠ 0 then ([], decZ b) else ((readAll b).1, 0)

theorem fine_num {l : List En} (h : fineB l = true) : ∀ e ∈ l, e.num := by
  intro e he
  obtain ⟨i, hi, rfl⟩ := List.mem_iff_getElem.1 he
  obtain ⟨h1, h2⟩ := fineB_true h
  obtain ⟨hs, hl, _, hp⟩ := whyE_zero h1
  obtain ⟨b1, b2, b3, b4⟩ := fine_bounds h i hi
  have hpl := hp _ he
  have hpa : l[i].path.length ≤ 256 := by
    have : okPath l[i].path = true := by
      unfold whyE at h1
      split at h1
      · cases h1
      · rename_i h0
        have : (l.map (·.path)).all okPath = true := by simpa using h0
        exact List.all_eq_true.1 this _ (List.mem_map_of_mem he)
    unfold okPath at this
    simp at this
    exact this.1
  obtain ⟨p1, p2, p3, p4, p5, p6, p7⟩ := hpl
  generalize l[i] = e at *
  refine ⟨?_, ?_, ?_, ?_, ?_, hpa, ?_⟩
  · rcases p7 with p7 | p7 | p7 <;> omega
  · omega
  · omega
  · omega
  · omega
  · rcases p7 with p7 | p7 | p7
    · have := p7.2; simp [this]
    · have := p7.2.1; simp [this]
    · omega
theorem decP_enc {l : List En} (h : fineB l = true) : decP (encL l) = (l, 0) := by
  obtain ⟨hs, hl, _, hp⟩ := whyE_zero (fineB_true h).1
  have hr : readAll (encL l) = (l, ⟨[], 0⟩) := by
    unfold readAll encL
    rw [readNum_onumI (by omega) 1024 (by omega), Int.toNat_natCast]
    have := readL_enc l [] [] (fine_num h)
    rw [List.append_nil] at this
    rw [this]
    simp
  have hz : decZ (encL l) = 0 := by
    unfold decZ
    rw [hr, if_neg]
    · rfl
    · rintro ⟨_, hf⟩
      simp only at hf
      rw [h] at hf; cases hf
  unfold decP
  rw [hz, hr]
  rfl
theorem decP_ok {b : List UInt8} {l : List En} (h : decP b = (l, 0)) : fineB l = true ∧ encL l = b := by
  unfold decP at h
  split at h
  · rename_i hz
    injection h with h1 h2
    exact absurd h2 hz
  · rename_i hz
    have hz : decZ b = 0 := by simpa using hz
    injection h with h1 _
    subst h1
    unfold decZ at hz
    split at hz
    · cases hz
    · rename_i hn
      have hf : fineB (readAll b).1 = true := by
        cases hff : fineB (readAll b).1
        · exact absurd ⟨hz, hff⟩ hn
        · rfl
      refine ⟨hf, ?_⟩
      unfold oend at hz
      split at hz
      · cases hz
      · rename_i hleft
        unfold oleft at hleft
        rw [if_neg (by omega)] at hleft
        have hrest : (readAll b).2.rest = [] := List.eq_nil_of_length_eq_zero (by omega)
        unfold readAll at hz hrest ⊢
        generalize hr : readNum ⟨b, 0⟩ 1024 = q at *
        obtain ⟨n, s1⟩ := q
        simp only at hz hrest ⊢
        generalize hl : readL n.toNat s1 [] = q2 at *
        obtain ⟨x, t⟩ := q2
        obtain ⟨h1, m, h2, h3, h4, h5⟩ := readL_ok _ _ _ _ _ hl hz
        obtain ⟨k1, k2, k3, k4, k5⟩ := readNum_ok hr h1
        simp only at k2 hrest ⊢
        rw [List.nil_append] at h2
        subst h2
        rw [hrest, List.append_nil] at h4
        unfold encL
        rw [k2, h4, h3, onumI_in (by omega), Int.toNat_natCast]
end Go.Proofs.YtmppagiaonbggaaDoor

/- The walk over Body of package record. -/
namespace Go.Proofs.YtmppagiaonbggaaDoor
set_option linter.unusedVariables false
set_option linter.unusedSimpArgs false
set_option maxRecDepth 100000
open Go.RowKit

section
variable {P : Program} {ops : Array Oper} {S : World → Prop} {Q : Exit → Act → World → Prop}
theorem kept_call {T : Act → World → Prop} {l : List Oper} {a : Act} {w : World} {o : Oper} (f : FuncId) (args : Array Value) (hw : Region.wanted o (yielded ops a.tmps) = true) (hr : (execOp a.eval o).run P w = .ok (.enter f args) w)
    (h : Calls P f args w fun e w' => ∃ v, e = .returned v ∧ S w' ∧ wpKept P ops Q S T l (a.put o.dst v) w') : wpKept P ops Q S T (o :: l) a w := by
  unfold wpKept
  rw [if_pos hw]
  unfold Oper.wp
  rw [hr]
  exact h.mono fun e w' ⟨v, he, h1, h2⟩ => by subst he; exact ⟨h1, h2⟩
end

def bodyP (p : Pn) : List UInt8 := onumI p.ch ++ onumI p.wi ++ onumI p.tot ++ p.dg
def bodyR (p : Pn) : List UInt8 × Int := if p.mayB then (bodyP p, 0) else ([], 1)

set_option maxHeartbeats 3200000 in
theorem body_any (p : Pn) (ok : p.ok) (w : World) : Calls Tryd.prog 27 #[.agg (pnL p).toArray] w (RetBE w (bodyR p)) := by
  have hsz := pnL_size ok.dg
  have hb := (Below.refl w.heap.size w).alloc (Nat.le_refl _) (.cells (pnL p).toArray 27)
  have hh := heap_alloc_new w (.cells (pnL p).toArray 27)
  have hinf : (Tryd.prog.info? 27).map (·.size) = some (pnL p).toArray.size := by rw [hsz]; exact infoPlan
  have HM := Lib.hid (fun w => may_any p ok w)
  have K0 := Lib.hid (fun W (h : Below (w.heap.size + 1) (w.alloc (.cells (pnL p).toArray 27)) W) => ((h.cell (p := ⟨w.heap.size, 0, none⟩) (by simp)).trans (cell_of_row _ _ 0 _ _ _ hh)).trans (show _ = some (.int .i64 p.ch) from rfl))
  have K1 := Lib.hid (fun W (h : Below (w.heap.size + 1) (w.alloc (.cells (pnL p).toArray 27)) W) => ((h.cell (p := ⟨w.heap.size, 1, none⟩) (by simp)).trans (cell_of_row _ _ 1 _ _ _ hh)).trans (show _ = some (.int .i64 p.wi) from rfl))
  have K2 := Lib.hid (fun W (h : Below (w.heap.size + 1) (w.alloc (.cells (pnL p).toArray 27)) W) => ((h.cell (p := ⟨w.heap.size, 2, none⟩) (by simp)).trans (cell_of_row _ _ 2 _ _ _ hh)).trans (show _ = some (.int .i64 p.tot) from rfl))
  have K3 : Hid (∀ W (h : Below (w.heap.size + 1) (w.alloc (.cells (pnL p).toArray 27)) W) (c : Nat), Rd W (.slice (some ⟨w.heap.size, 3, none⟩) p.dg.length c) (bytesU p.dg)) := Lib.hid (fun W h c => by
    refine ⟨_, c, by rw [bytesU_length], fun _ => ⟨_, rfl, fun j u hu => ?_⟩⟩
    rw [Addr.add_lit, h.cell (p := ⟨w.heap.size, 3 + j, none⟩) (by simp), cell_of_row _ _ _ _ _ _ hh, Nat.add_comm 3 j]
    simpa [pnL] using hu)
  have Hh := Lib.hid hh
  have Hinf := Lib.hid hinf
  have hdl := ok.dg
  clear hh hinf
  cases hm : p.mayB with
  | false =>
    have hs : bodyR p = ([], 1) := by unfold bodyR; rw [hm]; rfl
    rw [hs]
    rw [hm] at HM
    clear hs hm K0 K1 K2 K3
    generalize (pnL p).toArray = X at *
    go_enter Tryd.func27, Tryd.ntmps27
    go_wp2_with first
      | (refine wpList_load_row rfl 27 (.tmp 1) rfl w.heap.size rfl 27 X (0, 0) _ Hh.out Tryd.underlying27 rfl Hinf.out ?_)
    refine (HM.out _).mono ?_
    rintro e w1 ⟨rfl, b1⟩
    have hb1 := hb.trans (b1.mono (by simp))
    go_wp2
    go_ret2
    exact RetBE.err rfl hb1
  | true =>
    have hs : bodyR p = (onumI p.ch ++ onumI p.wi ++ onumI p.tot ++ p.dg, 0) := by unfold bodyR; rw [hm]; rfl
    rw [hs]
    rw [hm] at HM
    clear hs hm
    obtain ⟨ch, wi, tot, dg⟩ := p
    simp only at K0 K1 K2 K3 hdl ⊢
    generalize (pnL ⟨ch, wi, tot, dg⟩).toArray = X at *
    go_enter Tryd.func27, Tryd.ntmps27
    go_wp2_with first
      | (refine wpList_load_row rfl 27 (.tmp 1) rfl w.heap.size rfl 27 X (0, 0) _ Hh.out Tryd.underlying27 rfl Hinf.out ?_)
    refine (HM.out _).mono ?_
    rintro e w1 ⟨rfl, b1⟩
    have hb1 : Below (w.heap.size + 1) (w.alloc (.cells X 27)) w1 := b1.mono (by simp)
    clear HM b1
    go_wp2
    refine wp_region_lmix (fun W => Below (w.heap.size + 1) (w.alloc (.cells X 27)) W) [0, 3, 6] [1, 4, 7] [] [2, 5] [8, 9] mixed (by kernel_rfl) rfl (fun _ _ _ _ _ h => h) hb1.drew ?_
    simp only [List.filterMap_cons, List.filterMap_nil, List.getElem?_toArray, List.getElem?_cons_succ, List.getElem?_cons_zero]
    repeat (
      refine free_val ?_ rfl (fun w1 => ?_) ?_
      rotate_left
      · (go_simp
         try go_bits
         rfl)
      simp only [Act.put, List.setIfInBounds_toArray, List.set_cons_zero, List.set_cons_succ])
    refine free_nil ?_
    repeat (first
      | (refine late_val ?_ rfl (fun w1 hS => ?_) ?_
         rotate_left
         · (have c0 := K0.out w1 hS; have c1 := K1.out w1 hS; have c2 := K2.out w1 hS
            go_simp
            try go_bits
            rfl)
         simp only [Act.put, List.setIfInBounds_toArray, List.set_cons_zero, List.set_cons_succ])
      | (refine late_off rfl ?_
         simp only [Act.put, List.setIfInBounds_toArray, List.set_cons_zero, List.set_cons_succ]))
    refine late_nil ?_
    refine held_nil (fun w9 hS => ?_)
    have B9 : w.heap.size + 1 ≤ w9.heap.size := by have := hS.size; simpa using this
    obtain ⟨L1, hL1⟩ : ∃ L, L = [] ++ onumI ch := ⟨_, rfl⟩
    obtain ⟨L2, hL2⟩ : ∃ L, L = L1 ++ onumI wi := ⟨_, rfl⟩
    obtain ⟨L3, hL3⟩ : ∃ L, L = L2 ++ onumI tot := ⟨_, rfl⟩
    have l1 : L1.length ≤ 6 := by rw [hL1]; simpa using onumI_len ch
    have l2 : L2.length ≤ 12 := by rw [hL2, List.length_append]; have := onumI_len wi; omega
    have l3 : L3.length ≤ 18 := by rw [hL3, List.length_append]; have := onumI_len tot; omega
    have N1 := number_any (.slice none 0 0) [] (by simp) ch w9 (Rd.nil w9)
    rw [← hL1] at N1
    have N2 := Lib.hid (fun v w h => number_any v L1 (by omega) wi w h)
    rw [← hL2] at N2
    have N3 := Lib.hid (fun v w h => number_any v L2 (by omega) tot w h)
    rw [← hL3] at N3
    have he : L3 ++ dg = onumI ch ++ onumI wi ++ onumI tot ++ dg := by rw [hL3, hL2, hL1]; simp
    have He := Lib.hid he
    clear hL1 hL2 hL3 he
    refine kept_call 35 #[.slice none 0 0, .int .i64 ch] rfl (by go_simp) (N1.mono ?_)
    rintro e w10 ⟨v10, rfl, h10, b10⟩
    have o10 : Own (w.heap.size + 1) (Rw 5 1 v10 L1.length (bytesU L1) * Emp) w10 := Own.fresh B9 (Own.start _ _) h10 b10
    have hb10 := hS.trans (b10.mono B9)
    have B10 := Nat.le_trans B9 b10.size
    have N2' := N2.out v10 w10 o10.rd
    refine ⟨_, rfl, hb10, ?_⟩
    simp only [Act.put, List.setIfInBounds_toArray, List.set_cons_zero, List.set_cons_succ]
    refine kept_call 35 #[v10, .int .i64 wi] rfl (by go_simp) (N2'.mono ?_)
    rintro e w11 ⟨v11, rfl, h11, b11⟩
    have o11 : Own (w.heap.size + 1) (Rw 5 1 v11 L2.length (bytesU L2) * Emp) w11 := Own.fresh B10 (Own.start _ _) h11 b11
    have hb11 := hb10.trans (b11.mono B10)
    have B11 := Nat.le_trans B10 b11.size
    refine ⟨_, rfl, hb11, ?_⟩
    simp only [Act.put, List.setIfInBounds_toArray, List.set_cons_zero, List.set_cons_succ]
    refine kept_nil ?_
    have H12 := Lib.hid (N3.out v11 w11 o11.rd)
    clear o10 o11 h10 h11 b10 b11 hb10 B9 B10 hS hb1 N1 N2 N2' N3
    go_wp2_with fail
    refine H12.out.mono ?_
    rintro e w12 ⟨v12, rfl, h12, b12⟩
    have o12 : Own (w.heap.size + 1) (Rw 5 1 v12 L3.length (bytesU L3) * Emp) w12 := Own.fresh B11 (Own.start _ _) h12 b12
    have hb12 := hb11.trans (b12.mono B11)
    obtain ⟨A12, c12, rfl⟩ := o12.row_n
    obtain ⟨v13, w13, hrun, o13, b13⟩ := byte_append (Nat.le_trans B11 b12.size) o12 (K3.out w12 hb12 32) (by rw [hdl]; omega)
    rw [hdl] at hrun
    have hb13 := (hb.trans (hb12.mono (by omega))).trans (b13.mono (by omega))
    obtain ⟨A13, c13, rfl⟩ := o13.row_n
    have hcap := o13.cap
    have hrd := o13.rd
    have Hrun := Lib.hid hrun
    have Hfin : Hid (RetBE w (onumI ch ++ onumI wi ++ onumI tot ++ dg, 0) (.returned (.tuple #[.slice A13 (L3 ++ dg).length c13, .int .i64 0])) w13) := Lib.hid (by rw [He.out] at hrd hcap ⊢; exact ⟨A13, c13, rfl, hrd, hcap, hb13⟩)
    clear hrun o13 b13 hcap hrd He o12 h12 b12 hb12 hb11 H12 hb13
    generalize L3 ++ dg = L4 at *
    go_wp2_with (at_builtin; refine wpList_append_run rfl (.tmp 17) (.tmp 19) 32 rfl rfl rfl Hrun.out ?_)
    go_ret2
    exact Hfin.out
end Go.Proofs.YtmppagiaonbggaaDoor

/- The walks over slices.Grow and slices.Concat at bytes, Join and Stream of package source. -/
namespace Go.Proofs.YtmppagiaonbggaaDoor
set_option linter.unusedVariables false
set_option linter.unusedSimpArgs false
set_option maxRecDepth 100000
open Go.RowKit

theorem Own.rdP {B n c : Nat} {R : HP} {w : World} {e : TypeId} {A : Option Addr} {xs : List (Value × List UInt8)} (hn : n = xs.length) (h : Own B (Rw e 1 (.slice A n c) n (xs.map (·.1)) * R) w) (hx : ∀ x ∈ xs, Rd w x.1 (bytesU x.2)) : RdP w A xs := by
  refine ⟨fun j hj => ?_, hx⟩
  rcases h.row.2 with ⟨hv, h0⟩ | ⟨g, cap, cur, hv, _, hg, h1, h2, h3, h4⟩
  · omega
  · injection hv with e1 _ _
    refine ⟨g, 0, e1, ?_⟩
    rw [cell_of_row _ _ _ _ _ _ hg, Nat.zero_add, ← Array.getElem?_toList]
    have : (cur.toList.take (n * 1))[j]? = some xs[j].1 := by rw [h4]; simp [hj]
    rw [List.getElem?_take] at this
    split at this
    · exact this
    · cases this

set_option maxHeartbeats 1600000 in
theorem grow_any (n : Nat) (hn : n ≤ 1000000000) (w : World) : Calls Tryd.prog 61 #[.slice none 0 0, .int .i64 (n : Int)] w (RetB w []) := by
  have n1 : (n : Int) ≤ 1000000000 := by omega
  by_cases h0 : n = 0
  · subst h0
    go_enter Tryd.func61, Tryd.ntmps61
    go_wp2
    go_ret
    exact ⟨_, rfl, World.ownsRow_nil w _ _ _, Below.refl _ _⟩
  · obtain ⟨i0, hi, hz0, hz1, hz2⟩ := info_parts infoU8
    have hrun := fun ty => Lib.run_append_grow_zeros (P := Tryd.prog) w 32 3 ty 5 i0 _ .i64 .i64 Tryd.underlying32 Tryd.underlying3 hi hz0 none 0 0 [] (run_firstCells_none w.drew i0.size 0 0 0) n (by omega) (by omega) (by omega) (by omega) (by rw [hz2]; omega)
      (by rw [hz2]; exact growslice_fits (by omega) (by omega))
    rw [Nat.zero_add] at hrun
    have hge := grownCap_ge w n 0 5
    have hle := grownCap_le_maxLen w n 0 5 (by unfold maxLen; omega)
    generalize grownCap w n 0 5 = G at *
    have hsz : ([].toArray ++ Builtin.zeroCells (Value.int .u8 0).cells n ++ Builtin.zeroCells (Value.int .u8 0).cells (G - n)).size = G * 1 := by
      simp [Builtin.zeroCells, Value.cells]; omega
    generalize [].toArray ++ Builtin.zeroCells (Value.int .u8 0).cells n ++ Builtin.zeroCells (Value.int .u8 0).cells (G - n) = cur at *
    have hfin : RetB w [] (.returned (.slice (some ⟨w.heap.size, 0, none⟩) 0 G)) (w.drew.alloc (.cells cur 5)) := by
      have := heap_alloc_new w.drew (.cells cur 5)
      refine ⟨_, rfl, ⟨by simp [bytesU], .inr ⟨w.heap.size, G, cur, rfl, Nat.le_refl _, this, Nat.zero_le _, hle, hsz, by simp [bytesU]⟩⟩, ?_⟩
      exact ((Below.refl w.heap.size w).drew).alloc (Nat.le_refl _) _
    have Hrun := Lib.hid hrun
    have Hfin := Lib.hid hfin
    have n2 : (0 : Int) < (n : Int) := by omega
    have G1 : (G : Int) ≤ 9223372036854775807 := by unfold maxLen at hle; omega
    clear hrun hfin hge hle hsz hi hz0 hz1 hz2
    go_enter Tryd.func61, Tryd.ntmps61
    go_wp2_with (at_builtin; refine Lib.wpList_append_run _ rfl _ _ _ _ rfl _ _ rfl rfl _ _ (Hrun.out _) ?_)
    go_ret
    exact Hfin.out

set_option maxHeartbeats 3200000 in
theorem concat_any (A : Option Addr) (c : Nat) (vs : List (Value × List UInt8)) (hn : vs.length ≤ 1000000) (hl : (joinP vs).length ≤ 1000000000) (w : World) (hr : RdP w A vs) :
    Calls Tryd.prog 39 #[.slice A vs.length c] w (RetB w (joinP vs)) := by
  have Hr := Lib.hid (fun W (h : Below w.heap.size w W) => hr.below h)
  have n1 : (vs.length : Int) ≤ 1000000 := by omega
  have Hl := Lib.hid hl
  clear hr hl
  go_enter Tryd.func39, Tryd.ntmps39
  go_wp2
  go_loopg [3, 11] vs.length (fun kk v3 v11 wr => ∃ (i : Nat), kk + i = vs.length ∧ v11 = .int .i64 (i : Int) ∧ v3 = .int .i64 ((joinP (vs.take i)).length : Int) ∧ wr = w)
  case atStart => exact ⟨0, by omega, rfl, rfl, rfl⟩
  case round =>
    obtain ⟨i, hk, rfl, rfl, hw⟩ := hrel
    have hw := hw.symm
    subst hw
    have i0 : (0 : Int) ≤ (i : Int) := by omega
    by_cases hlt : (i : Int) < (vs.length : Int)
    · obtain ⟨j, rfl⟩ : ∃ j, gk = j + 1 := ⟨gk - 1, by omega⟩
      have hil : i < vs.length := by omega
      obtain ⟨b, off, rfl, hc⟩ := (Hr.out w (Below.refl _ _)).1 i hil
      have hrd := (Hr.out w (Below.refl _ _)).2 _ (List.getElem_mem hil)
      have hjt := joinP_take vs i hil
      have hle := joinP_le vs (i + 1)
      have hlen := Hl.out
      rw [hjt, List.length_append] at hle
      obtain ⟨Av, cv, hv⟩ : ∃ A c, vs[i].1 = .slice A vs[i].2.length c := by obtain ⟨A, c, h, _⟩ := hrd; exact ⟨A, c, by rw [h, bytesU_length]⟩
      rw [hv] at hc
      have He := Lib.hid (show (joinP (vs.take (i + 1))).length = (joinP (vs.take i)).length + vs[i].2.length by rw [hjt, List.length_append])
      have Hk := Lib.hid hk
      clear hrd hjt hv hk
      generalize vs[i].2.length = m at *
      generalize (joinP (vs.take i)).length = s at *
      have s1 : (s : Int) ≤ 1000000000 := by omega
      have m1 : (m : Int) ≤ 1000000000 := by omega
      obtain ⟨t, ht⟩ : ∃ t, s + m = t := ⟨_, rfl⟩
      have e1 : (s : Int) + (m : Int) = (t : Int) := by omega
      have t1 : (t : Int) ≤ 1000000000 := by omega
      have t0 : (0 : Int) ≤ (t : Int) := by omega
      clear hle hlen
      go_wp2
      go_roundg j
      case measure => omega
      case rel => exact ⟨i + 1, by have := Hk.out; omega, rfl, by rw [He.out, ht], rfl⟩
    · obtain rfl : i = vs.length := by omega
      have hlen := Hl.out
      have HG := Lib.hid (grow_any (joinP vs).length hlen w)
      rw [List.take_length]
      generalize hL : (joinP vs).length = L at *
      have HL := Lib.hid hL
      clear hk hlen hL
      go_wp2_with fail
      refine HG.out.mono ?_
      rintro e w1 ⟨v1, rfl, ho1, b1⟩
      have o1 : Own w.heap.size (Rw 5 1 v1 ([] : List UInt8).length (bytesU []) * Emp) w1 := Own.fresh (Nat.le_refl _) (Own.start _ _) ho1 b1
      obtain ⟨A1, c1, rfl⟩ := o1.row_n
      clear ho1 HG
      go_wp2
      generalize hX0 : w.heap.size = X0 at *
      go_loopg [6, 27] vs.length (fun kk v3 v11 wr => ∃ (i : Nat) (out : List UInt8) (A' : Option Addr) (c' : Nat), kk + i = vs.length ∧ v11 = .int .i64 (i : Int) ∧ v3 = .slice A' out.length c' ∧ Hid (out = joinP (vs.take i)) ∧ Own X0 (Rw 5 1 (.slice A' out.length c') out.length (bytesU out) * Emp) wr ∧ Below X0 w wr)
      case atStart => exact ⟨0, [], A1, c1, by omega, rfl, rfl, Lib.hid rfl, o1, b1⟩
      case round =>
        clear o1 b1
        obtain ⟨i, out, A', c', hk, rfl, rfl, he, ho, hb⟩ := hrel
        have i0 : (0 : Int) ≤ (i : Int) := by omega
        have Bw : X0 ≤ wr.heap.size := by rw [← hX0]; exact hb.size
        by_cases hlt : (i : Int) < (vs.length : Int)
        · obtain ⟨j, rfl⟩ : ∃ j, gk = j + 1 := ⟨gk - 1, by omega⟩
          have hil : i < vs.length := by omega
          obtain ⟨b, off, rfl, hc⟩ := (Hr.out wr hb).1 i hil
          have hrd := (Hr.out wr hb).2 _ (List.getElem_mem hil)
          have hjt := joinP_take vs i hil
          have hle := joinP_le vs (i + 1)
          have hlen : (joinP vs).length ≤ 1000000000 := by rw [HL.out]; exact Hl.out
          rw [hjt, ← he.out, List.length_append] at hle
          obtain ⟨Av, cv, hv⟩ : ∃ A c, vs[i].1 = .slice A vs[i].2.length c := by obtain ⟨A, c, h, _⟩ := hrd; exact ⟨A, c, by rw [h, bytesU_length]⟩
          rw [hv] at hc hrd
          obtain ⟨v', w', hrun, o2, b2⟩ := byte_append Bw ho hrd (by omega)
          have Hrun := Lib.hid hrun
          have hb2 := hb.trans b2
          have He := Lib.hid (show out ++ vs[i].2 = joinP (vs.take (i + 1)) by rw [hjt, ← he.out])
          have Hk := Lib.hid hk
          obtain ⟨A2, c2, rfl⟩ := o2.row_n
          clear hrun b2 hrd hjt hle hlen hv he ho hb hk
          generalize vs[i].2 = xs at *
          generalize out ++ xs = out2 at *
          go_wp2_with (at_builtin; refine wpList_append_run rfl (.tmp 31) (.tmp 32) 32 rfl rfl rfl Hrun.out ?_)
          go_roundg j
          case measure => omega
          case rel => exact ⟨i + 1, out2, _, _, by have := Hk.out; omega, rfl, rfl, He, o2, hb2⟩
        · have Hfin : Hid (out = joinP vs) := Lib.hid (by rw [he.out, List.take_of_length_le (by omega)])
          clear he hk
          go_wp2
          go_ret
          exact RetB.mk rfl rfl Hfin.out hX0.symm ho (hX0 ▸ hb)

theorem join_any (A : Option Addr) (c : Nat) (vs : List (Value × List UInt8)) (hn : vs.length ≤ 1000000) (hl : (joinP vs).length ≤ 1000000000) (w : World) (hr : RdP w A vs) :
    Calls Tryd.prog 23 #[.slice A vs.length c] w (RetB w (joinP vs)) := by
  have C := concat_any A c vs hn hl w hr
  generalize joinP vs = out at *
  clear hr
  go_enter Tryd.func23, Tryd.ntmps23
  go_wp2_with fail
  refine C.mono ?_
  rintro e w1 ⟨v1, rfl, ho1, b1⟩
  go_wp2
  go_ret
  exact ⟨v1, rfl, ho1, b1⟩

theorem infoSl : (Tryd.prog.info? 32).map (fun i => (i.zero, i.size, i.bytes)) = some (some (.slice none 0 0), 1, 24) := by kernel_rfl
def dataL (l : List Fi) : List UInt8 := l.flatMap (·.data)
theorem dataL_length (l : List Fi) : (dataL l).length = dataLen l := by
  unfold dataL dataLen; rw [List.length_flatMap]
def streamP (l : List Fi) : List UInt8 := if whyE (ents l) = 0 then dataL l else []
def partsF (l : List (Fi × Value)) : List (Value × List UInt8) := l.map fun x => (x.2, x.1.data)
theorem joinP_partsF (l : List (Fi × Value)) : joinP (partsF l) = dataL (l.map (·.1)) := by
  unfold joinP partsF dataL; rw [List.flatMap_map, List.flatMap_map]

set_option maxRecDepth 100000 in
set_option maxHeartbeats 3200000 in
theorem stream_any (A : Option Addr) (c : Nat) (l : List (Fi × Value)) (hl : l.length ≤ 1000000) (hs : dataLen (l.map (·.1)) ≤ 1000000000) (ok : ∀ x ∈ l, x.1.ok) (w : World) (h : Sh w) (hr : RdF w A l) :
    Calls Tryd.prog 14 #[.slice A l.length c] w (RetB w (streamP (l.map (·.1)))) := by
  have R := rightE_any A c l (by omega) (by omega) ok w h hr
  by_cases hz : whyE (ents (l.map (·.1))) = 0
  · obtain ⟨i0, hi, hz0, hz1, hz2⟩ := info_parts infoSl
    have Hi0 := Lib.hid (And.intro hi (And.intro hz0 (And.intro hz1 hz2)))
    rw [hz] at R
    have HR := Lib.hid R
    have hst : streamP (l.map (·.1)) = joinP (partsF l) := by unfold streamP; rw [if_pos hz, joinP_partsF]
    rw [hst]
    have Hl := Lib.hid (show (joinP (partsF l)).length ≤ 1000000000 by rw [joinP_partsF, dataL_length]; exact hs)
    have Hr := Lib.hid (fun w1 (b : Below w.heap.size w w1) => hr.below b)
    have n1 : (l.length : Int) ≤ 1000000 := by omega
    clear hr hi hz0 hz1 hz2 hs hst hz R h ok
    go_enter Tryd.func14, Tryd.ntmps14
    go_wp2_with fail
    refine HR.out.mono ?_
    rintro e w1 ⟨rfl, hb⟩
    have hO := (Own.start w.heap.size w1).rw_nil 32 1
    clear HR
    go_wp2
    go_loopg [3, 11] l.length (fun k v u wr => ∃ (i : Nat) (A' : Option Addr) (c' : Nat), k + i = l.length ∧ u = .int .i64 i ∧ v = .slice A' i c' ∧ Below w.heap.size w wr ∧ Own w.heap.size (Rw 32 1 (.slice A' i c') i ((partsF (l.take i)).map (·.1)) * Emp) wr)
    case atStart => exact ⟨0, none, 0, by omega, rfl, rfl, hb, hO⟩
    case round =>
      clear hb hO
      obtain ⟨i, A', c', hk, rfl, rfl, hb, ho⟩ := hrel
      by_cases hlt : (i : Int) < (l.length : Int)
      · obtain ⟨j, rfl⟩ : ∃ j, gk = j + 1 := ⟨gk - 1, by omega⟩
        have hil : i < l.length := by omega
        have i0' : (0 : Int) ≤ (i : Int) := by omega
        obtain ⟨b, off, rfl, q, d⟩ := (Hr.out _ hb).1 i hil
        obtain ⟨Ad, cd, hdv⟩ := (Hr.out _ hb).get i hil
        have Hk := Lib.hid hk
        have Hsn := Lib.hid (show (partsF (l.take (i + 1))).map (·.1) = (partsF (l.take i)).map (·.1) ++ [l[i].2] by rw [List.take_succ_eq_append_getElem hil]; simp only [partsF, List.map_append, List.map_cons, List.map_nil])
        clear hk
        generalize l[i] = x at *
        generalize (partsF (l.take i)).map (·.1) = E at *
        obtain ⟨⟨path, kind, mode, time, data, tgt⟩, dv⟩ := x
        simp only at hdv Hsn
        subst hdv
        generalize data.length = dn at *
        have d0 := d 0 _ rfl
        have d1 := d 1 _ rfl
        have d2 := d 2 _ rfl
        have d3 := d 3 _ rfl
        have d4 := d 4 _ rfl
        have d5 := d 5 _ rfl
        simp only [Nat.add_zero] at d0 d1 d2 d3 d4 d5
        clear d
        have o1 := (ho.new hb.size 57 #[.string (str path), .int .i64 kind, .int .i64 mode, .int .i64 time, .slice Ad dn cd, .string (str tgt)]).cast (sep_left_comm _ _ _)
        have hb1 := hb.alloc hb.size (.cells #[.string (str path), .int .i64 kind, .int .i64 mode, .int .i64 time, .slice Ad dn cd, .string (str tgt)] 57)
        have k4 : (wr.alloc (.cells #[.string (str path), .int .i64 kind, .int .i64 mode, .int .i64 time, .slice Ad dn cd, .string (str tgt)] 57)).cell? ⟨wr.heap.size, 4, none⟩ = some (.slice Ad dn cd) := (o1.cast (sep_left_comm _ _ _)).cell 4
        obtain ⟨g2, cap2, w2, hrun, o2, b2⟩ := row_append (P := Tryd.prog) hb1.size Tryd.underlying47 Hi0.out.1 Hi0.out.2.1 Hi0.out.2.2.1 Hi0.out.2.2.2 rfl (by omega) o1 #[.slice Ad dn cd] rfl
          (by intro u hu; simp at hu; rcases hu with rfl; rfl) (by omega) (by omega)
        rw [World.size_alloc] at hrun
        have Hrun := Lib.hid hrun
        have hb2 := hb1.trans b2
        have o3 := (o2.cast (sep_left_comm _ _ _)).drop
        clear hrun o1 hb1 hb ho b2 o2
        go_wp2_with (at_builtin; refine wpList_append_at rfl (.tmp 15) (.tmp 18) 47 rfl rfl rfl Hrun.out ?_)
        go_roundg j
        case measure => omega
        case rel => exact ⟨i + 1, some ⟨g2, 0, none⟩, cap2, by have := Hk.out; omega, rfl, rfl, hb2, by rw [Hsn.out]; exact o3⟩
      · obtain rfl : i = l.length := by omega
        rw [List.take_length] at ho
        have hpl : (partsF l).length = l.length := by simp [partsF]
        have hrp : RdP wr A' (partsF l) := ho.rdP hpl.symm (by
          intro x hx
          obtain ⟨y, hy, rfl⟩ := List.mem_map.1 hx
          exact (Hr.out _ hb).2 y hy)
        have J := join_any A' c' (partsF l) (by omega) Hl.out wr hrp
        rw [hpl] at J
        generalize joinP (partsF l) = out at *
        clear hrp
        go_wp2_with fail
        refine J.mono ?_
        rintro e w3 ⟨v1, rfl, ho1, b1⟩
        have o4 := Own.fresh hb.size (Own.start _ _) ho1 b1
        have hb4 := hb.trans (b1.mono hb.size)
        go_wp2
        go_ret
        exact RetB.mk rfl rfl rfl rfl o4 hb4
  · have hz' : (whyE (ents (l.map (·.1))) == 0) = false := by simpa using hz
    rw [hz'] at R
    have hst : streamP (l.map (·.1)) = [] := by unfold streamP; rw [if_neg hz]
    rw [hst]
    clear hr hs hst hz hz' h ok
    go_enter Tryd.func14, Tryd.ntmps14
    go_wp2_with fail
    refine R.mono ?_
    rintro e w1 ⟨rfl, hb⟩
    go_wp2
    go_ret
    exact ⟨_, rfl, World.ownsRow_nil _ _ _ _, hb⟩
end Go.Proofs.YtmppagiaonbggaaDoor

/- The walk over the reference's Number. -/
namespace Go.Proofs.YtmppagiaonbggaaDoor
set_option linter.unusedVariables false
set_option linter.unusedSimpArgs false
set_option maxRecDepth 100000
open Go.RowKit

set_option maxRecDepth 100000 in
set_option maxHeartbeats 1600000 in
theorem refnum_in : ∀ (m : Nat), m ≤ 1099511627775 → ∀ (w : World), Calls Tryd.prog 51 #[.int .i64 (m : Int)] w (RetB w (onum m)) := by
  intro m
  induction m using Nat.strongRecOn with
  | _ m ih =>
    intro hm w
    by_cases hs : m < 128
    · have hc8 : (UInt8.ofNat m).toNat = m := u8_toNat _ (by omega)
      have hs' : (m : Int) < 128 := by omega
      have o1 : Own w.heap.size (Rw 5 1 (.slice (some ⟨w.heap.size, 0, none⟩) 1 1) [UInt8.ofNat m].length (bytesU [UInt8.ofNat m]) * Emp) (w.alloc (.cells #[.int .u8 (m : Int)] 5)) := by
        have := ((Own.start w.heap.size w).new (Nat.le_refl _) 5 #[.int .u8 (m : Int)]).rw_of_bk (size := 1) (n := 1) rfl (by unfold maxLen; decide)
        have e : bytesU [UInt8.ofNat m] = [.int .u8 (m : Int)] := by unfold bytesU; rw [List.map_cons, List.map_nil, hc8]
        rw [e]
        exact this
      have b1 := (Below.refl w.heap.size w).alloc (Nat.le_refl _) (.cells #[.int .u8 (m : Int)] 5)
      rw [onum_small hs]
      clear ih hc8 hs
      go_enter Tryd.func51, Tryd.ntmps51
      go_wp2
      go_ret
      exact RetB.mk rfl rfl rfl rfl o1 b1
    · have hs' : ¬ (m : Int) < 128 := by omega
      have hc8 : (UInt8.ofNat (m % 128 + 128)).toNat = m % 128 + 128 := u8_toNat _ (by omega)
      have o1 : Own w.heap.size (Rw 5 1 (.slice (some ⟨w.heap.size, 0, none⟩) 1 1) [UInt8.ofNat (m % 128 + 128)].length (bytesU [UInt8.ofNat (m % 128 + 128)]) * Emp) (w.alloc (.cells #[.int .u8 ((m % 128 + 128 : Nat) : Int)] 5)) := by
        have := ((Own.start w.heap.size w).new (Nat.le_refl _) 5 #[.int .u8 ((m % 128 + 128 : Nat) : Int)]).rw_of_bk (size := 1) (n := 1) rfl (by unfold maxLen; decide)
        have e : bytesU [UInt8.ofNat (m % 128 + 128)] = [.int .u8 ((m % 128 + 128 : Nat) : Int)] := by unfold bytesU; rw [List.map_cons, List.map_nil, hc8]
        rw [e]
        exact this
      have b1 := (Below.refl w.heap.size w).alloc (Nat.le_refl _) (.cells #[.int .u8 ((m % 128 + 128 : Nat) : Int)] 5)
      have I := ih (m / 128) (by omega) (by omega)
      rw [onum_big hs]
      have h6 := onum_len6 (n := m / 128) (by omega)
      obtain ⟨d, hd⟩ : ∃ d : Nat, d = m / 128 := ⟨_, rfl⟩
      rw [← hd] at I h6 ⊢
      have hq : (m : Int).tdiv 128 = (d : Int) := by rw [Int.tdiv_eq_ediv_of_nonneg (by omega)]; omega
      have hr : 128 + (m : Int) % 128 = ((m % 128 + 128 : Nat) : Int) := by omega
      have d1 : (d : Int) ≤ 1099511627775 := by omega
      have d0 : (0 : Int) ≤ (d : Int) := by omega
      obtain ⟨q, hqq⟩ : ∃ q : Nat, q = m % 128 + 128 := ⟨_, rfl⟩
      rw [← hqq] at hr o1 b1 ⊢
      have q1 : (q : Int) < 256 := by omega
      have q0 : (0 : Int) ≤ (q : Int) := by omega
      generalize UInt8.ofNat q = cq at *
      clear ih hc8 hs hd hqq
      have I2 := fun w1 => I w1
      go_enter Tryd.func51, Tryd.ntmps51
      go_wp2_with fail
      refine (I2 _).mono ?_
      rintro e w2 ⟨v2, rfl, ho2, b2⟩
      have o2 := Own.fresh (by simp) o1 ho2 b2
      have o3 := o2.swap.assoc
      have o4 : Own w.heap.size (Rw 5 1 (.slice (some ⟨w.heap.size, 0, none⟩) 1 1) [cq].length (bytesU [cq]) * (Rw 5 1 v2 (onum d).length (bytesU (onum d)) * Emp)) w2 := o3.cast (by ac_rfl)
      obtain ⟨A2, c2, rfl⟩ := o2.row_n
      obtain ⟨v3, w3, hrun, o5, b3⟩ := byte_append (Nat.le_trans (by simp) b2.size) o4 o2.rd (by simp; omega)
      have Hrun := Lib.hid hrun
      have hb := (b1.trans (b2.mono b1.size)).trans b3
      clear hrun o2 o3 o4 ho2 b1 b2 b3 o1
      go_wp2_with (at_builtin; refine wpList_append_run rfl (.tmp 18) (.tmp 21) 32 rfl rfl rfl Hrun.out ?_)
      go_ret
      exact RetB.mk rfl rfl rfl rfl o5 hb

set_option maxRecDepth 100000 in
theorem refnum_any (n : Int) (w : World) : Calls Tryd.prog 51 #[.int .i64 n] w (RetB w (onumI n)) := by
  have Z := refnum_in
  by_cases h1 : n < 0
  · have hn : onumI n = [UInt8.ofNat 0] := by unfold onumI; rw [if_pos (.inl h1), onum_small (by omega)]
    rw [hn]
    clear hn Z
    have o1 : Own w.heap.size (Rw 5 1 (.slice (some ⟨w.heap.size, 0, none⟩) 1 1) [UInt8.ofNat 0].length (bytesU [UInt8.ofNat 0]) * Emp) (w.alloc (.cells #[.int .u8 0] 5)) :=
      ((Own.start w.heap.size w).new (Nat.le_refl _) 5 #[.int .u8 0]).rw_of_bk (size := 1) (n := 1) rfl (by unfold maxLen; decide)
    have b1 := (Below.refl w.heap.size w).alloc (Nat.le_refl _) (.cells #[.int .u8 0] 5)
    go_enter Tryd.func51, Tryd.ntmps51
    go_wp2
    go_ret
    exact RetB.mk rfl rfl rfl rfl o1 b1
  · by_cases h2 : 1099511627775 < n
    · have hn : onumI n = [UInt8.ofNat 0] := by unfold onumI; rw [if_pos (.inr h2), onum_small (by omega)]
      rw [hn]
      clear hn Z
      have o1 : Own w.heap.size (Rw 5 1 (.slice (some ⟨w.heap.size, 0, none⟩) 1 1) [UInt8.ofNat 0].length (bytesU [UInt8.ofNat 0]) * Emp) (w.alloc (.cells #[.int .u8 0] 5)) :=
        ((Own.start w.heap.size w).new (Nat.le_refl _) 5 #[.int .u8 0]).rw_of_bk (size := 1) (n := 1) rfl (by unfold maxLen; decide)
      have b1 := (Below.refl w.heap.size w).alloc (Nat.le_refl _) (.cells #[.int .u8 0] 5)
      go_enter Tryd.func51, Tryd.ntmps51
      go_wp2
      go_ret
      exact RetB.mk rfl rfl rfl rfl o1 b1
    · have hn : onumI n = onum n.toNat := by unfold onumI; rw [if_neg (by omega)]
      obtain ⟨m, rfl⟩ : ∃ m : Nat, n = (m : Int) := ⟨n.toNat, by omega⟩
      rw [hn, Int.toNat_natCast]
      exact Z m (by omega) w
end Go.Proofs.YtmppagiaonbggaaDoor

/- The walks over the reference's numbers and bytes, and over its bytes of entries. -/
namespace Go.Proofs.YtmppagiaonbggaaDoor
set_option linter.unusedVariables false
set_option linter.unusedSimpArgs false
set_option maxRecDepth 100000
open Go.RowKit

/-- '[]byte(s)'. -/
theorem conv_bytes (w : World) (l : List UInt8) : ∃ A c w', (convert 9 32 (.string (str l))).run Tryd.prog w = .ok (.slice A l.length c) w' ∧ Rd w' (.slice A l.length c) (bytesU l) ∧ Below w.heap.size w w' := by
  refine ⟨_, _, _, run_bytes_of_string w 9 32 5 (str l) Tryd.underlying9 Tryd.underlying32 Tryd.underlying5, ?_, ((Below.refl _ w).drew).alloc (Nat.le_refl _) _⟩
  refine ⟨_, _, by rw [bytesU_length], fun _ => ⟨_, rfl, fun j u hu => ?_⟩⟩
  have hj : j < l.length := by have := (List.getElem?_eq_some_iff.1 hu).1; rwa [bytesU_length] at this
  rw [Addr.add_lit, Nat.zero_add]
  have hn : (w.drew.alloc (.cells (bytesRow (str l) (grownCap w (str l).size 0 5)) 5 ((bytesRow (str l) (grownCap w (str l).size 0 5)).size, (bytesRow (str l) (grownCap w (str l).size 0 5)).size + 1))).heap[w.heap.size]? = some (.cells (bytesRow (str l) (grownCap w (str l).size 0 5)) 5 ((bytesRow (str l) (grownCap w (str l).size 0 5)).size, (bytesRow (str l) (grownCap w (str l).size 0 5)).size + 1)) := heap_alloc_new w.drew _
  rw [cell_of_row _ _ _ _ _ _ hn, bytesRow_at (str l) _ j (by simpa [str] using hj), ← hu]
  simp [bytesU, str, hj]
theorem wpList_conv_run {P : Program} {ops : Array Oper} {Q : Exit → Act → World → Prop} {rest : List Oper} {o : Oper} {a : Act} {w w' : World} (hgd : o.guard = none) (x : Operand) (s t : TypeId) {v u : Value}
    (ho : o.op = .convert s t x) (hx : a.eval x = v) (hr : (convert s t v).run P w = .ok u w')
    (h : wpList P ops Q rest (a.put o.dst u) w') : wpList P ops Q (o :: rest) a w := by
  refine wpList_plain hgd fun K hK => ?_
  unfold Oper.wp execOp
  simp only [ho, Sem.run_bind, Sem.run_pure, hx, hr, Result.andThen_ok]
  exact hK _ _ h

set_option maxRecDepth 100000 in
set_option maxHeartbeats 1600000 in
theorem refbytes_any (u : Value) (x : List UInt8) (hx : x.length ≤ 200000) (w : World) (hu : Rd w u (bytesU x)) :
    Calls Tryd.prog 52 #[u] w (RetB w (obytes x)) := by
  have N := refnum_any (x.length : Int) w
  have Hu := Lib.hid (fun w1 (b : Below w.heap.size w w1) => hu.below b)
  obtain ⟨A, c, rfl, _⟩ := id hu
  rw [bytesU_length] at Hu ⊢
  have h6 : (onumI (x.length : Int)).length ≤ 6 := onumI_len _
  unfold obytes
  generalize onumI (x.length : Int) = L at N h6 ⊢
  clear hu
  go_enter Tryd.func52, Tryd.ntmps52
  go_wp2_with fail
  refine N.mono ?_
  rintro e w1 ⟨v1, rfl, ho1, b1⟩
  have o1 : Own w.heap.size (Rw 5 1 v1 L.length (bytesU L) * Emp) w1 := Own.fresh (Nat.le_refl _) (Own.start _ _) ho1 b1
  obtain ⟨v2, w2, hrun, o2, b2⟩ := byte_append b1.size o1 (Hu.out _ b1) (by omega)
  obtain ⟨A1, c1, rfl⟩ := o1.row_n
  have Hrun := Lib.hid hrun
  have hb2 := b1.trans b2
  clear hrun ho1 N
  go_wp2_with (at_builtin; refine wpList_append_run rfl (.tmp 5) (.tmp 6) 32 rfl rfl rfl Hrun.out ?_)
  go_ret
  exact RetB.mk rfl rfl rfl rfl o2 hb2
end Go.Proofs.YtmppagiaonbggaaDoor

/- The walk over the reference's bytes of entries. -/
namespace Go.Proofs.YtmppagiaonbggaaDoor
set_option linter.unusedVariables false
set_option linter.unusedSimpArgs false
set_option maxRecDepth 100000
open Go.RowKit

theorem encE_len {e : En} (h : e.num) : (encE e).length ≤ 554 := by
  have h1 := onumI_len e.kind
  have h2 := onumI_len e.mode
  have h3 := onumI_len e.time
  have h4 := onumI_len e.beg
  have h5 := onumI_len e.size
  have h6 := onumI_len (e.path.length : Int)
  have h7 := onumI_len (e.tgt.length : Int)
  have h8 := h.path
  have h9 := h.tgt
  unfold encE obytes
  simp only [List.length_append]
  omega
/-- What a call returned goes behind a row. -/
theorem app_ret {B : Nat} {R : HP} [Loc B R] {w w1 : World} {out x : List UInt8} {A : Option Addr} {c : Nat} {v1 : Value} (hB : B ≤ w.heap.size) (o : Own B (Rw 5 1 (.slice A out.length c) out.length (bytesU out) * R) w)
    (ho1 : w1.ownsRow w.heap.size 5 1 v1 x.length (bytesU x)) (b1 : Below w.heap.size w w1) (hn : out.length + x.length ≤ 140737488355328) :
    ∃ A1 c1, v1 = .slice A1 x.length c1 ∧ ∃ (out' : List UInt8) (A2 : Option Addr) (c2 : Nat) (w2 : World), Hid (out' = out ++ x) ∧ Hid ((Builtin.append_ #[32, 32] 32 #[.slice A out.length c, .slice A1 x.length c1]).run Tryd.prog w1 = .ok (.slice A2 out'.length c2) w2) ∧
      Own B (Rw 5 1 (.slice A2 out'.length c2) out'.length (bytesU out') * R) w2 ∧ Below B w w2 := by
  have o1 := Own.fresh hB o ho1 b1
  obtain ⟨A1, c1, rfl⟩ := o1.row_n
  have hrd := o1.rd
  have o2 : Own B (Rw 5 1 (.slice A out.length c) out.length (bytesU out) * (Rw 5 1 (.slice A1 x.length c1) x.length (bytesU x) * R)) w1 := o1.cast (sep_left_comm _ _ _)
  obtain ⟨v2, w2, hrun, o3, b3⟩ := byte_append (Nat.le_trans hB b1.size) o2 hrd hn
  obtain ⟨A2, c2, rfl⟩ := o3.row_n
  exact ⟨A1, c1, rfl, out ++ x, A2, c2, w2, Lib.hid rfl, Lib.hid hrun, (o3.cast (sep_left_comm _ _ _)).right, (b1.mono hB).trans b3⟩
def numsE (e : En) : List Int := [e.kind, e.mode, e.time, e.beg, e.size]

set_option maxRecDepth 100000 in
set_option maxHeartbeats 6400000 in
theorem refenc_any (A : Option Addr) (c : Nat) (l : List En) (hl : l.length ≤ 1024) (hx : ∀ e ∈ l, e.num) (w : World) (hr : RdA 7 enL w A l) :
    Calls Tryd.prog 31 #[.slice A l.length c] w (RetB w (encL l)) := by
  have Hr := Lib.hid (fun w1 (b : Below w.heap.size w w1) => hr.below b)
  have Hx := Lib.hid hx
  have n1 : (l.length : Int) ≤ 1024 := by omega
  have N0 := refnum_any (l.length : Int) w
  have He : Hid (encL l = onumI (l.length : Int) ++ l.flatMap encE) := Lib.hid rfl
  have h6 := onumI_len (l.length : Int)
  clear hr hx
  go_enter Tryd.func31, Tryd.ntmps31
  go_wp2_with fail
  refine N0.mono ?_
  rintro e w1 ⟨v1, rfl, ho1, b1⟩
  have o1 : Own w.heap.size (Rw 5 1 v1 (onumI (l.length : Int)).length (bytesU (onumI (l.length : Int))) * Emp) w1 := Own.fresh (Nat.le_refl _) (Own.start _ _) ho1 b1
  generalize hL0 : onumI (l.length : Int) = L0 at *
  obtain ⟨A1, c1, rfl⟩ := o1.row_n
  clear hL0 ho1 N0
  go_wp2
  go_loopg [3, 4] l.length (fun k v u wr => ∃ (i : Nat) (out : List UInt8) (A' : Option Addr) (c' : Nat), k + i = l.length ∧ u = .int .i64 (i : Int) ∧ v = .slice A' out.length c' ∧ Own w.heap.size (Rw 5 1 (.slice A' out.length c') out.length (bytesU out) * Emp) wr ∧ Below w.heap.size w wr ∧ out.length ≤ 6 + 554 * i ∧ Hid (out = L0 ++ (l.take i).flatMap encE))
  case atStart => exact ⟨0, L0, A1, c1, by omega, rfl, rfl, o1, b1, by omega, Lib.hid (by simp)⟩
  case round =>
    clear o1 b1
    obtain ⟨i, out, A', c', hk, rfl, rfl, ho, hb, hol, he⟩ := hrel
    have i0' : (0 : Int) ≤ (i : Int) := by omega
    by_cases hlt : (i : Int) < (l.length : Int)
    · obtain ⟨j, rfl⟩ : ∃ j, gk = j + 1 := ⟨gk - 1, by omega⟩
      have hil : i < l.length := by omega
      obtain ⟨b, off, rfl, q, d⟩ := Hr.out _ hb i hil
      have hxi := Hx.out _ (List.getElem_mem hil)
      have Hsn : Hid ((l.take (i + 1)).flatMap encE = (l.take i).flatMap encE ++ encE l[i]) := Lib.hid (by rw [List.take_succ_eq_append_getElem hil, List.flatMap_append]; simp)
      have Hk := Lib.hid hk
      clear hk
      generalize l[i] = x at *
      have Hlen := Lib.hid (encE_len hxi)
      have Henc : Hid (encE x = (numsE x).flatMap onumI ++ (obytes x.path ++ obytes x.tgt)) := Lib.hid (by simp [encE, numsE])
      have Hnum := Lib.hid hxi
      obtain ⟨path, kind, mode, time, tgt, beg, size⟩ := x
      obtain ⟨d0, d1, d2, d3, d4, d5, d6⟩ := RdA.cells7 d
      simp only at d0 d1 d2 d3 d4 d5 d6 Hsn Henc
      have o1 := ho.alloc_keep hb.size (.cells #[.string (str path), .int .i64 kind, .int .i64 mode, .int .i64 time, .string (str tgt), .int .i64 beg, .int .i64 size] 62)
      clear d hxi o1
      have o1 := ho.new hb.size 62 #[.string (str path), .int .i64 kind, .int .i64 mode, .int .i64 time, .string (str tgt), .int .i64 beg, .int .i64 size]
      have hb1 := hb.alloc hb.size (.cells #[.string (str path), .int .i64 kind, .int .i64 mode, .int .i64 time, .string (str tgt), .int .i64 beg, .int .i64 size] 62)
      have o2 := o1.new hb1.size 3 #[.int .i64 kind, .int .i64 mode, .int .i64 time, .int .i64 beg, .int .i64 size]
      have hb2 := hb1.alloc hb1.size (.cells #[.int .i64 kind, .int .i64 mode, .int .i64 time, .int .i64 beg, .int .i64 size] 3)
      have eN : (wr.alloc (.cells #[.string (str path), .int .i64 kind, .int .i64 mode, .int .i64 time, .string (str tgt), .int .i64 beg, .int .i64 size] 62)).heap.size = wr.heap.size + 1 := by simp
      rw [eN] at o2
      have o3 := o2.foc (Rw 5 1 (.slice A' out.length c') out.length (bytesU out))
      clear o1 o2 hb1 ho hb eN
      generalize hX0 : wr.heap.size = X0 at *
      go_wp2
      go_loopg [3, 7] 5 (fun k v u wr2 => ∃ (t : Nat) (out2 : List UInt8) (A2 : Option Addr) (c2 : Nat), k + t = 5 ∧ u = .int .i64 (t : Int) ∧ v = .slice A2 out2.length c2 ∧ Own w.heap.size (Rw 5 1 (.slice A2 out2.length c2) out2.length (bytesU out2) * (Bk (X0 + 1) 3 #[.int .i64 kind, .int .i64 mode, .int .i64 time, .int .i64 beg, .int .i64 size] * (Bk X0 62 #[.string (str path), .int .i64 kind, .int .i64 mode, .int .i64 time, .string (str tgt), .int .i64 beg, .int .i64 size] * Emp))) wr2 ∧ Below w.heap.size w wr2 ∧ out2.length ≤ out.length + 6 * t ∧ Hid (out2 = out ++ ((numsE ⟨path, kind, mode, time, tgt, beg, size⟩).take t).flatMap onumI))
      case atStart => exact ⟨0, out, A', c', rfl, rfl, rfl, o3, hb2, by omega, Lib.hid (by simp)⟩
      case round =>
        clear o3 hb2
        obtain ⟨t, out2, A2, c2, hkt, rfl, rfl, ho, hb, hol2, he2⟩ := hrel
        have t0' : (0 : Int) ≤ (t : Int) := by omega
        by_cases hlt2 : (t : Int) < 5
        · obtain ⟨jt, rfl⟩ : ∃ j, gk = j + 1 := ⟨gk - 1, by omega⟩
          have ht5 : t < 5 := by omega
          have hc : wr.cell? ⟨X0 + 1, t, none⟩ = some (.int .i64 ((numsE ⟨path, kind, mode, time, tgt, beg, size⟩)[t]'ht5)) := (ho.cellOf (X0 + 1) t).trans (by
            have : t = 0 ∨ t = 1 ∨ t = 2 ∨ t = 3 ∨ t = 4 := by omega
            rcases this with rfl | rfl | rfl | rfl | rfl <;> rfl)
          have Htk : Hid ((numsE ⟨path, kind, mode, time, tgt, beg, size⟩).take (t + 1) = (numsE ⟨path, kind, mode, time, tgt, beg, size⟩).take t ++ [(numsE ⟨path, kind, mode, time, tgt, beg, size⟩)[t]'ht5]) := Lib.hid (List.take_succ_eq_append_getElem ht5)
          generalize (numsE ⟨path, kind, mode, time, tgt, beg, size⟩)[t]'ht5 = z at *
          have N := refnum_any z wr
          have hz6 := onumI_len z
          have Hkt := Lib.hid hkt
          clear hkt
          go_wp2_with fail
          refine N.mono ?_
          rintro e w3 ⟨v1, rfl, ho1, b1⟩
          obtain ⟨A3, c3, rfl, out3, A4, c4, w4, he3, Hrun, o4, b4⟩ := app_ret hb.size ho ho1 b1 (by omega)
          have hb4 := hb.trans b4
          clear ho hb ho1 b1 b4 hc N
          go_wp2_with (at_builtin; refine wpList_append_run rfl (.tmp 36) (.tmp 41) 32 rfl rfl rfl Hrun.out ?_)
          go_roundg jt
          case measure => omega
          case rel => exact ⟨t + 1, out3, A4, c4, by have := Hkt.out; omega, rfl, rfl, o4, hb4, by rw [he3.out, List.length_append]; omega, Lib.hid (by rw [he3.out, he2.out, Htk.out]; simp)⟩
        · obtain rfl : t = 5 := by omega
          have cp : wr.cell? ⟨X0, 0, none⟩ = some (.string (str path)) := ho.cellOf X0 0
          obtain ⟨Ap, cp', wp, hcv, hrp, bp⟩ := conv_bytes wr path
          have Hcv := Lib.hid hcv
          have hp256 := Hnum.out.path
          have ht256 := Hnum.out.tgt
          simp only at hp256 ht256
          have R1 := refbytes_any (.slice Ap path.length cp') path (by omega) wp hrp
          have ho2 := ho.grown hb.size bp
          have hbp := hb.trans (bp.mono hb.size)
          clear hcv hrp ho bp hb
          go_wp2_with (refine wpList_conv_run rfl (.tmp 45) 9 32 rfl rfl Hcv.out ?_)
          refine R1.mono ?_
          rintro e w3 ⟨v1, rfl, ho1, b1⟩
          have hop : (obytes path).length ≤ 300 := by unfold obytes; rw [List.length_append]; have := onumI_len (path.length : Int); omega
          have hot : (obytes tgt).length ≤ 300 := by unfold obytes; rw [List.length_append]; have := onumI_len (tgt.length : Int); omega
          obtain ⟨A3, c3, rfl, out3, A4, c4, w4, he3, Hrun, o4, b4⟩ := app_ret hbp.size ho2 ho1 b1 (by omega)
          have ho3 : out3.length = out2.length + (obytes path).length := by rw [he3.out, List.length_append]
          have hb4 := hbp.trans b4
          have ct : w4.cell? ⟨X0, 4, none⟩ = some (.string (str tgt)) := o4.cellOf X0 4
          obtain ⟨At, ct', wt, hcv2, hrt, bt⟩ := conv_bytes w4 tgt
          have Hcv2 := Lib.hid hcv2
          have R2 := refbytes_any (.slice At tgt.length ct') tgt (by omega) wt hrt
          have o5 := o4.grown hb4.size bt
          have hb5 := hb4.trans (bt.mono hb4.size)
          have Ho3 := Lib.hid ho3
          clear hcv2 hrt o4 bt hb4 b4 ho2 hbp ho1 b1 cp R1 ho3 Hcv
          go_wp2_with (first
            | (at_builtin; refine wpList_append_run rfl (.tmp 43) (.tmp 47) 32 rfl rfl rfl Hrun.out ?_)
            | (refine wpList_conv_run rfl (.tmp 51) 9 32 rfl rfl Hcv2.out ?_))
          refine R2.mono ?_
          rintro e w6 ⟨v1, rfl, ho1, b1⟩
          obtain ⟨A5, c5, rfl, out5, A6, c6, w7, he5, Hrun5, o6, b6⟩ := app_ret hb5.size o5 ho1 b1 (by have := Ho3.out; omega)
          have hb6 := hb5.trans b6
          have o7 := (o6.cast (show _ = Bk (X0 + 1) _ _ * (Bk X0 _ _ * (Rw _ _ _ _ _ * Emp)) by ac_rfl)).right.right
          clear o5 hb5 ho1 b1 b6 o6 Hrun Hcv2 R2 ct
          go_wp2_with (at_builtin; refine wpList_append_run rfl (.tmp 49) (.tmp 53) 32 rfl rfl rfl Hrun5.out ?_)
          go_roundg j
          case measure => omega
          case rel =>
            have hfin : out5 = L0 ++ (l.take (i + 1)).flatMap encE := by
              rw [he5.out, he3.out, he2.out, Hsn.out, Henc.out, he.out]
              have : (numsE ⟨path, kind, mode, time, tgt, beg, size⟩).take 5 = numsE ⟨path, kind, mode, time, tgt, beg, size⟩ := rfl
              rw [this]
              simp only [List.append_assoc]
            exact ⟨i + 1, out5, A6, c6, by have := Hk.out; omega, rfl, rfl, o7, hb6, by
              have h1 := congrArg List.length hfin
              have h2 := congrArg List.length he.out
              have h3 := Hlen.out
              rw [Hsn.out] at h1
              simp only [List.length_append] at h1 h2
              omega, Lib.hid hfin⟩
    · obtain rfl : i = l.length := by omega
      rw [List.take_length] at he
      go_wp2
      go_ret
      exact RetB.mk rfl rfl (by rw [He.out, he.out]) rfl ho hb
end Go.Proofs.YtmppagiaonbggaaDoor
