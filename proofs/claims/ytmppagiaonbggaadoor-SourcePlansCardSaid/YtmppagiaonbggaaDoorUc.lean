/- Texts of one proof, merged: XQe XQt XQu XE1 XE2 XFoc XTwo XOb XE3 XE4. -/
import Derived.Test.YtmppagiaonbggaaDoorUb
import GoSem.Op.String
import Derived.Deep.QuietTactic
import Derived.WalkSmall
import Derived.Deep.LoopGhost
import Derived.BigQuiet
import Derived.RowKit
import Derived.KernelRfl
import Derived.Lib.Hide
import Derived.Laws.ShiftsVar
import Derived.WalkSpells
import Derived.Lib.BufferMore
/- Plain laws on the order of lists, and on a text cut at each slash and joined again. -/
namespace Go.Proofs.YtmppagiaonbggaaDoor
set_option linter.unusedVariables false
set_option linter.unusedSimpArgs false
set_option maxRecDepth 100000

/-- The order of two lists, by the order of what they hold. -/
def lexC {α : Type} (c : α → α → Int) : List α → List α → Int
  | [], [] => 0
  | [], _ :: _ => -1
  | _ :: _, [] => 1
  | x :: xs, y :: ys => if c x y = 0 then lexC c xs ys else c x y

structure Cmp {α : Type} (c : α → α → Int) : Prop where
  zero : ∀ x y, c x y = 0 ↔ x = y
  neg : ∀ x y, c y x = - c x y
  trans : ∀ x y z, c x y < 0 → c y z < 0 → c x z < 0

theorem lexC_zero {α : Type} {c : α → α → Int} (h : Cmp c) : ∀ a b, lexC c a b = 0 ↔ a = b
  | [], [] => by simp [lexC]
  | [], _ :: _ => by simp [lexC]
  | _ :: _, [] => by simp [lexC]
  | x :: xs, y :: ys => by
    unfold lexC
    have ih := lexC_zero h xs ys
    by_cases hc : c x y = 0
    · rw [if_pos hc, ih, (h.zero x y).1 hc]; simp
    · rw [if_neg hc]
      have : x ≠ y := fun e => hc ((h.zero x y).2 e)
      simp [hc, this]
theorem lexC_neg {α : Type} {c : α → α → Int} (h : Cmp c) : ∀ a b, lexC c b a = - lexC c a b
  | [], [] => by simp [lexC]
  | [], _ :: _ => by simp [lexC]
  | _ :: _, [] => by simp [lexC]
  | x :: xs, y :: ys => by
    unfold lexC
    have ih := lexC_neg h xs ys
    have hn := h.neg x y
    by_cases hc : c x y = 0
    · rw [if_pos hc, if_pos (by omega), ih]
    · rw [if_neg hc, if_neg (by omega), hn]
theorem lexC_trans {α : Type} {c : α → α → Int} (h : Cmp c) : ∀ a b d, lexC c a b < 0 → lexC c b d < 0 → lexC c a d < 0
  | [], [], _ => by simp [lexC]
  | [], _ :: _, [] => by simp [lexC]
  | [], _ :: _, _ :: _ => by simp [lexC]
  | _ :: _, [], _ => by simp [lexC]
  | _ :: _, _ :: _, [] => by simp [lexC]
  | x :: xs, y :: ys, z :: zs => by
    unfold lexC
    have ih := lexC_trans h xs ys zs
    by_cases h1 : c x y = 0
    · obtain rfl := (h.zero x y).1 h1
      rw [if_pos h1]
      by_cases h2 : c x z = 0
      · rw [if_pos h2, if_pos h2]; exact ih
      · rw [if_neg h2, if_neg h2]; exact fun _ h => h
    · rw [if_neg h1]
      by_cases h2 : c y z = 0
      · obtain rfl := (h.zero y z).1 h2
        rw [if_neg h1]; exact fun h _ => h
      · rw [if_neg h2]
        intro a b
        have := h.trans x y z a b
        rw [if_neg (by omega)]
        exact this
theorem lexC_cmp {α : Type} {c : α → α → Int} (h : Cmp c) : Cmp (lexC c) := ⟨lexC_zero h, lexC_neg h, lexC_trans h⟩
theorem Cmp.le_trans {α : Type} {c : α → α → Int} (h : Cmp c) {x y z : α} (a : c x y ≤ 0) (b : c y z ≤ 0) : c x z ≤ 0 := by
  by_cases h1 : c x y = 0
  · obtain rfl := (h.zero _ _).1 h1; exact b
  · by_cases h2 : c y z = 0
    · obtain rfl := (h.zero _ _).1 h2; exact a
    · have := h.trans x y z (by omega) (by omega); omega
theorem lexC_prefix {α : Type} {c : α → α → Int} (h : Cmp c) : ∀ (p t : List α), lexC c p (p ++ t) ≤ 0 ∧ (t ≠ [] → lexC c p (p ++ t) < 0)
  | [], [] => by simp [lexC]
  | [], _ :: _ => by simp [lexC]
  | x :: xs, t => by
    have ih := lexC_prefix h xs t
    rw [List.cons_append]
    unfold lexC
    rw [if_pos ((h.zero x x).2 rfl)]
    exact ih
theorem lexC_between {α : Type} {c : α → α → Int} (h : Cmp c) : ∀ (p x y z : List α), p <+: x → p <+: z → lexC c x y ≤ 0 → lexC c y z ≤ 0 → p <+: y
  | [], _, _, _, _, _, _, _ => List.nil_prefix
  | a :: p, x, y, z, ⟨t, ht⟩, ⟨s, hs⟩, h1, h2 => by
    subst ht; subst hs
    rw [List.cons_append] at h1 h2
    cases y with
    | nil => simp [lexC] at h1
    | cons b y =>
      unfold lexC at h1 h2
      have hn := h.neg a b
      have h0 : c a b = 0 := by
        by_cases e : c a b = 0
        · exact e
        · rw [if_neg e] at h1
          rw [if_neg (by omega)] at h2
          omega
      rw [if_pos h0] at h1
      rw [if_pos (by omega)] at h2
      obtain rfl := (h.zero _ _).1 h0
      obtain ⟨r, hr⟩ := lexC_between h p (p ++ t) y (p ++ s) ⟨t, rfl⟩ ⟨s, rfl⟩ h1 h2
      exact ⟨r, by rw [← hr]; rfl⟩

def cmpB (x y : UInt8) : Int := (if x < y then -1 else if x = y then 0 else 1)
theorem cmpB_cmp : Cmp cmpB := by
  refine ⟨fun x y => ?_, fun x y => ?_, fun x y z => ?_⟩
  · unfold cmpB
    simp only [UInt8.lt_iff_toNat_lt, ← UInt8.toNat_inj]
    by_cases h : x.toNat < y.toNat <;> by_cases h2 : x.toNat = y.toNat <;> simp [h, h2]
  · unfold cmpB
    simp only [UInt8.lt_iff_toNat_lt, ← UInt8.toNat_inj]
    by_cases h : x.toNat < y.toNat
    · rw [if_neg (by omega), if_neg (by omega), if_pos h]; rfl
    · by_cases h2 : x.toNat = y.toNat
      · rw [if_neg (by omega), if_pos h2.symm, if_neg h, if_pos h2]; rfl
      · rw [if_pos (by omega), if_neg h, if_neg h2]
  · unfold cmpB
    simp only [UInt8.lt_iff_toNat_lt, ← UInt8.toNat_inj]
    intro h1 h2
    have a : x.toNat < y.toNat := by
      by_cases h : x.toNat < y.toNat
      · exact h
      · rw [if_neg h] at h1; split at h1 <;> omega
    have b : y.toNat < z.toNat := by
      by_cases h : y.toNat < z.toNat
      · exact h
      · rw [if_neg h] at h2; split at h2 <;> omega
    rw [if_pos (by omega)]; decide

theorem bytesLess_lex : ∀ a b : List UInt8, lexC cmpB a b = if Op.bytesLess a b then -1 else if a = b then 0 else 1
  | [], [] => by simp [lexC, Op.bytesLess]
  | [], _ :: _ => by simp [lexC, Op.bytesLess]
  | _ :: _, [] => by simp [lexC, Op.bytesLess]
  | x :: xs, y :: ys => by
    have ih := bytesLess_lex xs ys
    unfold lexC
    rw [ih]
    by_cases hc : cmpB x y = 0
    · obtain rfl := (cmpB_cmp.zero _ _).1 hc
      rw [if_pos hc]
      have : Op.bytesLess (x :: xs) (x :: ys) = Op.bytesLess xs ys := by
        show (decide (x < x) || (x == x && Op.bytesLess xs ys)) = _
        have : ¬ x < x := by simp [UInt8.lt_iff_toNat_lt]
        simp [this]
      rw [this]
      simp
    · rw [if_neg hc]
      have hne : x ≠ y := fun e => hc ((cmpB_cmp.zero _ _).2 e)
      have : Op.bytesLess (x :: xs) (y :: ys) = decide (x < y) := by
        show (decide (x < y) || (x == y && Op.bytesLess xs ys)) = _
        simp [hne]
      rw [this]
      have hl : (x :: xs = y :: ys) = False := by simp [hne]
      unfold cmpB
      simp [hne]

/-! a text cut, and joined -/
def pjoin : List (List UInt8) → List UInt8
  | [] => []
  | p :: ps => match ps with
    | [] => p
    | _ :: _ => p ++ 47 :: pjoin ps
theorem pjoin_cons (p : List UInt8) {ps : List (List UInt8)} (h : ps ≠ []) : pjoin (p :: ps) = p ++ 47 :: pjoin ps := by
  cases ps with
  | nil => exact absurd rfl h
  | cons q qs => rfl
theorem pjoin_append : ∀ {a b : List (List UInt8)}, a ≠ [] → b ≠ [] → pjoin (a ++ b) = pjoin a ++ 47 :: pjoin b
  | [], _, h, _ => absurd rfl h
  | [p], b, _, hb => by rw [List.singleton_append, pjoin_cons p hb]; rfl
  | p :: q :: a, b, _, hb => by
    rw [List.cons_append, pjoin_cons p (by simp), pjoin_append (by simp) hb, pjoin_cons p (by simp)]
    simp
theorem pjoin_psplit : ∀ s, pjoin (psplit s) = s
  | [] => rfl
  | c :: l => by
    have ih := pjoin_psplit l
    by_cases hc : c = 47
    · subst hc
      rw [psplit_slash, pjoin_cons _ (psplit_ne l), ih]; rfl
    · obtain ⟨p, ps, hl⟩ : ∃ p ps, psplit l = p :: ps := by
        cases h : psplit l with
        | nil => exact absurd h (psplit_ne l)
        | cons p ps => exact ⟨p, ps, rfl⟩
      rw [psplit_other hc hl]
      rw [hl] at ih
      cases ps with
      | nil => rw [← ih]; rfl
      | cons q qs =>
        rw [pjoin_cons _ (by simp)] at ih ⊢
        rw [← ih]; rfl
theorem psplit_inj {a b : List UInt8} (h : psplit a = psplit b) : a = b := by rw [← pjoin_psplit a, h, pjoin_psplit]
theorem psplit_join (a b : List UInt8) : psplit (a ++ 47 :: b) = psplit a ++ psplit b := by
  induction a with
  | nil => rw [List.nil_append, psplit_slash]; rfl
  | cons c a ih =>
    rw [List.cons_append]
    by_cases hc : c = 47
    · subst hc
      rw [psplit_slash, psplit_slash, ih]; rfl
    · obtain ⟨p, ps, hl⟩ : ∃ p ps, psplit a = p :: ps := by
        cases h : psplit a with
        | nil => exact absurd h (psplit_ne a)
        | cons p ps => exact ⟨p, ps, rfl⟩
      rw [hl] at ih
      rw [psplit_other hc hl, psplit_other hc ih]; rfl
theorem psplit_free : ∀ s : List UInt8, 47 ∉ s → psplit s = [s]
  | [], _ => rfl
  | c :: l, h => by
    have ih := psplit_free l (fun hm => h (List.mem_cons_of_mem _ hm))
    rw [psplit_other (fun e => h (by rw [e]; exact List.mem_cons_self)) ih]
theorem psplit_one {s : List UInt8} (h : (psplit s).length = 1) : psplit s = [s] := by
  obtain ⟨x, hx⟩ := List.length_eq_one_iff.1 h
  have := pjoin_psplit s
  rw [hx] at this
  rw [hx, show x = s from this]
theorem hasPrefix_psplit (s p : List UInt8) : Lib.hasPrefix (s ++ [47]) (p ++ [47]) = true ↔ psplit p <+: psplit s := by
  unfold Lib.hasPrefix
  rw [List.isPrefixOf_iff_prefix]
  constructor
  · rintro ⟨t, ht⟩
    rcases List.eq_nil_or_concat t with rfl | ⟨t', x, rfl⟩
    · rw [List.append_nil] at ht
      rw [List.append_cancel_right ht]
      exact List.prefix_refl _
    · rw [List.concat_eq_append, ← List.append_assoc] at ht
      have h2 := List.append_inj' ht (by simp)
      have e : s = p ++ 47 :: t' := by rw [← h2.1]; simp
      rw [e, psplit_join]
      exact List.prefix_append _ _
  · rintro ⟨t, ht⟩
    by_cases h : t = []
    · subst h
      rw [List.append_nil] at ht
      rw [psplit_inj ht]
      exact List.prefix_refl _
    · have e : s = p ++ 47 :: pjoin t := by rw [← pjoin_psplit s, ← ht, pjoin_append (psplit_ne p) h, pjoin_psplit]
      rw [e]
      exact ⟨pjoin t ++ [47], by simp⟩
/-- All but the last part. -/
def parent (s : List UInt8) : List UInt8 := pjoin (psplit s).dropLast
theorem lastIdx_some {s : List UInt8} {i : Nat} (hi : s[i]? = some 47) (hn : ∀ j, i < j → s[j]? ≠ some 47) : psplit s = psplit (s.take i) ++ [s.drop (i + 1)] ∧ parent s = s.take i ∧ (psplit s).length ≠ 1 := by
  have e : s = s.take i ++ 47 :: s.drop (i + 1) := by
    have hlt : i < s.length := (List.getElem?_eq_some_iff.1 hi).1
    conv => lhs; rw [← List.take_append_drop i s]
    rw [List.drop_eq_getElem_cons hlt, (List.getElem?_eq_some_iff.1 hi).2]
  have hf : 47 ∉ s.drop (i + 1) := fun hm => by
    obtain ⟨j, hj⟩ := List.mem_iff_getElem?.1 hm
    rw [List.getElem?_drop] at hj
    exact hn _ (by omega) hj
  have h1 : psplit s = psplit (s.take i) ++ [s.drop (i + 1)] := by
    conv => lhs; rw [e]
    rw [psplit_join, psplit_free _ hf]
  refine ⟨h1, ?_, ?_⟩
  · unfold parent; rw [h1, List.dropLast_concat, pjoin_psplit]
  · rw [h1, List.length_append]
    have := psplit_ne (s.take i)
    have := List.length_pos_iff.2 this
    simp; omega
theorem lastIdx_none {s : List UInt8} (hn : ∀ j : Nat, s[j]? ≠ some 47) : psplit s = [s] ∧ parent s = [] := by
  have h1 := psplit_free s (fun hm => by obtain ⟨j, hj⟩ := List.mem_iff_getElem?.1 hm; exact hn j hj)
  exact ⟨h1, by unfold parent; rw [h1]; rfl⟩
theorem pjoin_fold (l : List (List UInt8)) (h : l ≠ []) : l.foldl (fun s p => s ++ 47 :: p) [] = 47 :: pjoin l := by
  have g : ∀ (l : List (List UInt8)) (a : List UInt8), l ≠ [] → l.foldl (fun s p => s ++ 47 :: p) a = a ++ 47 :: pjoin l := by
    intro l
    induction l with
    | nil => intro a h; exact absurd rfl h
    | cons p ps ih =>
      intro a _
      rw [List.foldl_cons]
      by_cases hp : ps = []
      · subst hp; rfl
      · rw [ih _ hp, pjoin_cons p hp]; simp
  exact g l [] h
end Go.Proofs.YtmppagiaonbggaaDoor

/- The walk over the reference's text. -/
namespace Go.Proofs.YtmppagiaonbggaaDoor
set_option linter.unusedVariables false
set_option linter.unusedSimpArgs false
set_option maxRecDepth 100000
open Go.RowKit

theorem cmpT_lex (a b : List UInt8) : cmpT a b = lexC cmpB a b := (bytesLess_lex a b).symm
theorem cmpB_lt {x y : UInt8} (h : x.toNat < y.toNat) : cmpB x y = -1 := by unfold cmpB; rw [if_pos (UInt8.lt_iff_toNat_lt.2 h)]
theorem cmpB_gt {x y : UInt8} (h : y.toNat < x.toNat) : cmpB x y = 1 := by have := cmpB_cmp.neg y x; rw [cmpB_lt h] at this; exact this
theorem lexC_ne {α : Type} {c : α → α → Int} {x y : α} {xs ys : List α} (h : c x y ≠ 0) : lexC c (x :: xs) (y :: ys) = c x y := by
  conv => lhs; unfold lexC
  rw [if_neg h]
theorem lexC_eq {α : Type} {c : α → α → Int} {x y : α} {xs ys : List α} (h : c x y = 0) : lexC c (x :: xs) (y :: ys) = lexC c xs ys := by
  conv => lhs; unfold lexC
  rw [if_pos h]
theorem drop_nil (s : ByteArray) (i : Nat) (h : s.size ≤ i) : s.data.toList.drop i = [] := List.drop_eq_nil_of_le (show s.data.toList.length ≤ i from h)
theorem drop_get (s : ByteArray) (i : Nat) (h : i < s.size) : s.data.toList.drop i = s[i] :: s.data.toList.drop (i + 1) := List.drop_eq_getElem_cons (show i < s.data.toList.length from h)

set_option maxHeartbeats 1600000 in
theorem reftext_any (a b : ByteArray) (ha : a.size ≤ 4294967296) (hb : b.size ≤ 4294967296) (w : World) : Calls Tryd.prog 46 #[.string a, .string b] w fun e w' => e = .returned (.int .i64 (cmpT a.data.toList b.data.toList)) ∧ Below w.heap.size w w' := by
  rw [cmpT_lex]
  have ha' : (a.size : Int) ≤ 4294967296 := by omega
  have hb' : (b.size : Int) ≤ 4294967296 := by omega
  go_enter Tryd.func46, Tryd.ntmps46
  go_wp2
  go_loopg [5] a.size (fun k s wr => ∃ i : Nat, k + i = a.size ∧ i ≤ b.size ∧ s = .int .i64 i ∧ Below w.heap.size w wr ∧ Hid (lexC cmpB a.data.toList b.data.toList = lexC cmpB (a.data.toList.drop i) (b.data.toList.drop i)))
  case atStart => exact ⟨0, by omega, by omega, rfl, Below.refl _ _, Lib.hid rfl⟩
  case round =>
    obtain ⟨i, hk, hib, rfl, hbb, he⟩ := hrel
    by_cases h1 : (i : Int) < (a.size : Int)
    · by_cases h2 : (i : Int) < (b.size : Int)
      · obtain ⟨j, rfl⟩ : ∃ j, gk = j + 1 := ⟨gk - 1, by omega⟩
        have hia : i < a.size := by omega
        have hib2 : i < b.size := by omega
        have he2 := he.out
        rw [drop_get a i hia, drop_get b i hib2] at he2
        have i0 : (0 : Int) ≤ (i : Int) := by omega
        have Hk := Lib.hid hk
        clear hk he
        rcases Nat.lt_trichotomy a[i].toNat b[i].toNat with hc | hc | hc
        · rw [lexC_ne (by rw [cmpB_lt hc]; decide), cmpB_lt hc] at he2
          have He := Lib.hid he2
          clear he2
          go_wp2
          go_quiet (fail)
          go_wp2
          go_ret
          exact ⟨by rw [He.out]; rfl, by first | exact below_drewN hbb _ | exact below_drewN (below_drewN hbb _) _⟩
        · rw [UInt8.toNat_inj.1 hc, lexC_eq ((cmpB_cmp.zero _ _).2 rfl)] at he2
          have He := Lib.hid he2
          have hn1 : ¬ a[i].toNat < b[i].toNat := by omega
          have hn2 : ¬ b[i].toNat < a[i].toNat := by omega
          clear he2 hc
          go_wp2
          go_quiet (fail)
          go_wp2
          go_quiet (fail)
          go_wp2
          go_roundg j
          case measure => omega
          case rel => exact ⟨i + 1, by have := Hk.out; omega, by omega, rfl, below_drewN hbb _, He⟩
        · rw [lexC_ne (by rw [cmpB_gt hc]; decide), cmpB_gt hc] at he2
          have He := Lib.hid he2
          have hn1 : ¬ a[i].toNat < b[i].toNat := by omega
          clear he2
          go_wp2
          go_quiet (fail)
          go_wp2
          go_quiet (fail)
          go_wp2
          go_ret
          exact ⟨by rw [He.out]; rfl, by first | exact below_drewN hbb _ | exact below_drewN (below_drewN hbb _) _⟩
      · have hbe : i = b.size := by omega
        have he2 := he.out
        rw [drop_get a i (by omega), drop_nil b i (by omega)] at he2
        have He : Hid (lexC cmpB a.data.toList b.data.toList = 1) := Lib.hid he2
        have hn1 : ¬ (a.size : Int) < (b.size : Int) := by omega
        have hn2 : (b.size : Int) < (a.size : Int) := by omega
        clear he2 he hbe hk
        go_wp2
        go_ret
        exact ⟨by rw [He.out]; rfl, hbb⟩
    · have hae : i = a.size := by omega
      have he2 := he.out
      rw [drop_nil a i (by omega)] at he2
      by_cases h2 : (a.size : Int) < (b.size : Int)
      · rw [drop_get b i (by omega)] at he2
        have He : Hid (lexC cmpB a.data.toList b.data.toList = -1) := Lib.hid he2
        clear he2 he hae hk
        go_wp2
        go_ret
        exact ⟨by rw [He.out]; rfl, hbb⟩
      · rw [drop_nil b i (by omega)] at he2
        have He : Hid (lexC cmpB a.data.toList b.data.toList = 0) := Lib.hid he2
        have hn2 : ¬ (b.size : Int) < (a.size : Int) := by omega
        clear he2 he hae hk
        go_wp2
        go_ret
        exact ⟨by rw [He.out]; rfl, hbb⟩
end Go.Proofs.YtmppagiaonbggaaDoor

/- The walk over the reference's Compare. -/
namespace Go.Proofs.YtmppagiaonbggaaDoor
set_option linter.unusedVariables false
set_option linter.unusedSimpArgs false
set_option maxRecDepth 100000
open Go.RowKit

theorem cmpL_lex : ∀ a b, cmpL a b = lexC cmpT a b
  | [], [] => rfl
  | [], _ :: _ => rfl
  | _ :: _, [] => rfl
  | x :: xs, y :: ys => by
    show (if cmpT x y = 0 then cmpL xs ys else cmpT x y) = (if cmpT x y = 0 then lexC cmpT xs ys else cmpT x y)
    rw [cmpL_lex xs ys]
theorem lexC_congr {α : Type} {c d : α → α → Int} (h : ∀ x y, c x y = d x y) : ∀ a b, lexC c a b = lexC d a b
  | [], [] => rfl
  | [], _ :: _ => rfl
  | _ :: _, [] => rfl
  | x :: xs, y :: ys => by
    unfold lexC
    rw [h x y, lexC_congr h xs ys]
theorem cmpT_cmp : Cmp cmpT := by
  have : cmpT = lexC cmpB := by funext a b; exact cmpT_lex a b
  rw [this]; exact lexC_cmp cmpB_cmp
theorem cmpL_cmp : Cmp cmpL := by
  have : cmpL = lexC cmpT := by funext a b; exact cmpL_lex a b
  rw [this]; exact lexC_cmp cmpT_cmp
theorem RdS.at_ {W : World} {A : Option Addr} {l : List (List UInt8)} (h : RdS W A l) (i : Nat) (hi : i < l.length) : ∃ b off, A = some ⟨b, off, none⟩ ∧ b < W.heap.size ∧ W.cell? ⟨b, off + i, none⟩ = some (.string (str l[i])) := by
  obtain ⟨b, off, ha, hc⟩ := h i hi
  exact ⟨b, off, ha, World.block_lt_of_cell? W _ hc, hc⟩

set_option maxHeartbeats 1600000 in
theorem refcompare_any (a b : ByteArray) (ha : a.size ≤ 4294967280) (hb : b.size ≤ 4294967280) (w : World) : Calls Tryd.prog 29 #[.string a, .string b] w fun e w' => e = .returned (.int .i64 (cmpL (psplit a.data.toList) (psplit b.data.toList))) ∧ Below w.heap.size w w' := by
  obtain ⟨ha1, ha3⟩ := psplit_len a.data.toList
  obtain ⟨hb1, hb3⟩ := psplit_len b.data.toList
  have ha2 : a.data.toList.length = a.size := rfl
  have hb2 : b.data.toList.length = b.size := rfl
  have Hs := Lib.hid (fun w1 => refsplit_any a (by omega) w1)
  have Ht := Lib.hid (fun w1 => refsplit_any b (by omega) w1)
  have X1 : Hid (∀ x ∈ psplit a.data.toList, x.length ≤ 4294967296) := Lib.hid (fun x hx => by have := ha3 x hx; omega)
  have X2 : Hid (∀ x ∈ psplit b.data.toList, x.length ≤ 4294967296) := Lib.hid (fun x hx => by have := hb3 x hx; omega)
  rw [cmpL_lex]
  have n1 : ((psplit a.data.toList).length : Int) ≤ 4294967296 := by omega
  have n2 : ((psplit b.data.toList).length : Int) ≤ 4294967296 := by omega
  clear ha1 ha3 hb1 hb3 ha2 hb2
  generalize psplit a.data.toList = l1 at Hs X1 n1 ⊢
  generalize psplit b.data.toList = l2 at Ht X2 n2 ⊢
  go_enter Tryd.func29, Tryd.ntmps29
  go_wp2_with fail
  refine (Hs.out w).mono ?_
  rintro e w1 ⟨A1, c1, rfl, r1, b1⟩
  go_wp2_with fail
  refine (Ht.out w1).mono ?_
  rintro e w2 ⟨A2, c2, rfl, r2, b2⟩
  have H1 := Lib.hid (And.intro (r1.below b2) r2)
  have hb0 := b1.trans (b2.mono b1.size)
  clear r1 r2 b1 b2
  go_wp2
  go_loopg [7] l1.length (fun k s wr => ∃ i : Nat, k + i = l1.length ∧ i ≤ l2.length ∧ s = .int .i64 i ∧ Below w.heap.size w wr ∧ Hid (RdS wr A1 l1 ∧ RdS wr A2 l2) ∧ Hid (lexC cmpT l1 l2 = lexC cmpT (l1.drop i) (l2.drop i)))
  case atStart => exact ⟨0, by omega, by omega, rfl, hb0, H1, Lib.hid rfl⟩
  case round =>
    clear hb0 H1
    obtain ⟨i, hk, hib, rfl, hbb, hrd, he⟩ := hrel
    by_cases h1 : (i : Int) < (l1.length : Int)
    · by_cases h2 : (i : Int) < (l2.length : Int)
      · obtain ⟨j, rfl⟩ : ∃ j, gk = j + 1 := ⟨gk - 1, by omega⟩
        have hia : i < l1.length := by omega
        have hib2 : i < l2.length := by omega
        have he2 := he.out
        rw [List.drop_eq_getElem_cons hia, List.drop_eq_getElem_cons hib2] at he2
        have i0 : (0 : Int) ≤ (i : Int) := by omega
        obtain ⟨p1, o1, rfl, q1, d1⟩ := hrd.out.1.at_ i hia
        obtain ⟨p2, o2, rfl, q2, d2⟩ := hrd.out.2.at_ i hib2
        have Hk := Lib.hid hk
        have Hc := Lib.hid (fun W => reftext_any (str l1[i]) (str l2[i]) (by have := X1.out _ (List.getElem_mem hia); exact this) (by have := X2.out _ (List.getElem_mem hib2); exact this) W)
        have D1 := Lib.hid d1
        have D2 := Lib.hid d2
        have Hnext : Hid (cmpT l1[i] l2[i] = 0 → lexC cmpT l1 l2 = lexC cmpT (l1.drop (i + 1)) (l2.drop (i + 1))) := Lib.hid (fun h => by rw [he2, lexC_eq h])
        have Hend : Hid (cmpT l1[i] l2[i] ≠ 0 → lexC cmpT l1 l2 = cmpT l1[i] l2[i]) := Lib.hid (fun h => by rw [he2, lexC_ne h])
        clear hk he he2 d1 d2
        generalize l1[i] = x at *
        generalize l2[i] = y at *
        go_wp2
        refine wp_region_mix (Below wr.heap.size wr) [0, 1, 2, 3, 4, 5, 6, 7] [8, 9] mixed (by kernel_rfl) rfl ((Below.refl _ _).drew) ?_
        simp only [List.filterMap_cons, List.filterMap_nil, List.getElem?_toArray, List.getElem?_cons_succ, List.getElem?_cons_zero]
        repeat (first
          | (refine held_val ?_ rfl (fun w1 hS => ?_) ?_
             rotate_left
             · (have k1 := (hS.cell (p := ⟨p1, o1 + i, none⟩) q1).trans D1.out; have k2 := (hS.cell (p := ⟨p2, o2 + i, none⟩) q2).trans D2.out
                go_simp
                try go_bits
                rfl)
             simp only [Act.put, List.setIfInBounds_toArray, List.set_cons_zero, List.set_cons_succ])
          | (refine held_off rfl ?_
             simp only [Act.put, List.setIfInBounds_toArray, List.set_cons_zero, List.set_cons_succ]))
        refine held_nil (fun w4 hS => ?_)
        go_wp2_with fail
        refine (Hc.out w4).mono ?_
        rintro e w5 ⟨rfl, b5⟩
        have b6 := hS.trans (b5.mono hS.size)
        have hv : cmpT (str x).data.toList (str y).data.toList = cmpT x y := rfl
        rw [hv]
        obtain ⟨r, hr⟩ : ∃ r, cmpT x y = r := ⟨_, rfl⟩
        rw [hr] at Hnext Hend ⊢
        clear hv hr hS b5
        have hb7 := hbb.trans (b6.mono hbb.size)
        by_cases h0 : r = 0
        · subst h0
          have He := Lib.hid (Hnext.out rfl)
          have Hrd := Lib.hid (And.intro (hrd.out.1.below b6) (hrd.out.2.below b6))
          clear b6
          go_wp2
          go_roundg j
          case measure => omega
          case rel => exact ⟨i + 1, by have := Hk.out; omega, by omega, rfl, hb7, Hrd, He⟩
        · have He := Lib.hid (Hend.out h0)
          have h0' : (r == 0) = false := by simpa using h0
          go_wp2
          go_ret
          exact ⟨by rw [He.out]; rfl, hb7⟩
      · have he2 := he.out
        rw [List.drop_eq_getElem_cons (show i < l1.length by omega), List.drop_eq_nil_of_le (show l2.length ≤ i by omega)] at he2
        have He : Hid (lexC cmpT l1 l2 = 1) := Lib.hid he2
        have hn1 : ¬ (l1.length : Int) < (l2.length : Int) := by omega
        have hn2 : (l2.length : Int) < (l1.length : Int) := by omega
        clear he2 he hk
        go_wp2
        go_ret
        exact ⟨by rw [He.out]; rfl, hbb⟩
    · have he2 := he.out
      rw [List.drop_eq_nil_of_le (show l1.length ≤ i by omega)] at he2
      by_cases h2 : (l1.length : Int) < (l2.length : Int)
      · rw [List.drop_eq_getElem_cons (show i < l2.length by omega)] at he2
        have He : Hid (lexC cmpT l1 l2 = -1) := Lib.hid he2
        clear he2 he hk
        go_wp2
        go_ret
        exact ⟨by rw [He.out]; rfl, hbb⟩
      · rw [List.drop_eq_nil_of_le (show l2.length ≤ i by omega)] at he2
        have He : Hid (lexC cmpT l1 l2 = 0) := Lib.hid he2
        have hn2 : ¬ (l2.length : Int) < (l1.length : Int) := by omega
        clear he2 he hk
        go_wp2
        go_ret
        exact ⟨by rw [He.out]; rfl, hbb⟩
theorem sorted_pairwise {l : List (List UInt8)} : SortedP l ↔ l.Pairwise (fun a b => cmpL (psplit a) (psplit b) < 0) ∧ ∀ x ∈ l, okPath x = true := by
  constructor
  · intro h
    refine ⟨List.pairwise_iff_getElem.2 ?_, fun x hx => ?_⟩
    · intro i j hi hj hij
      induction j with
      | zero => omega
      | succ j ih =>
        have h1 := (h (j + 1) hj).2 (by omega)
        simp only [Nat.add_sub_cancel] at h1
        by_cases e : i = j
        · subst e; exact h1
        · exact cmpL_cmp.trans _ _ _ (ih (by omega) (by omega)) h1
    · obtain ⟨i, hi, rfl⟩ := List.mem_iff_getElem.1 hx
      exact (h i hi).1
  · rintro ⟨h1, h2⟩ i hi
    exact ⟨h2 _ (List.getElem_mem hi), fun h0 => List.pairwise_iff_getElem.1 h1 (i - 1) i (by omega) hi (by omega)⟩
theorem sorted_sub {l m : List (List UInt8)} (h : SortedP l) (hs : m.Sublist l) : SortedP m := by
  obtain ⟨h1, h2⟩ := sorted_pairwise.1 h
  exact sorted_pairwise.2 ⟨h1.sublist hs, fun x hx => h2 x (hs.mem hx)⟩

end Go.Proofs.YtmppagiaonbggaaDoor

/- Package entry: what entries are, as they lie; the walks over plain, and over what holds of all. -/
namespace Go.Proofs.YtmppagiaonbggaaDoor
set_option linter.unusedVariables false
set_option linter.unusedSimpArgs false
set_option maxRecDepth 100000
open Go.RowKit

/-- A file, but for its data. -/
structure En where
  path : List UInt8
  kind : Int
  mode : Int
  time : Int
  tgt : List UInt8
  beg : Int
  size : Int
deriving DecidableEq
instance : Inhabited En := ⟨⟨[], 0, 0, 0, [], 0, 0⟩⟩
def enL (e : En) : List Value := [.string (str e.path), .int .i64 e.kind, .int .i64 e.mode, .int .i64 e.time, .string (str e.tgt), .int .i64 e.beg, .int .i64 e.size]
theorem enL_len (e : En) : (enL e).length = 7 := rfl
def okI (n : Int) : Prop := -9223372036854775808 ≤ n ∧ n ≤ 9223372036854775807
/-- What every entry of Go is. -/
structure En.ok (e : En) : Prop where
  path : e.path.length ≤ 9223372036854775807
  kind : okI e.kind
  mode : okI e.mode
  time : okI e.time
  tgt : e.tgt.length ≤ 9223372036854775807
  beg : okI e.beg
  size : okI e.size

/-- May an entry be, but for its path, and where it begins? -/
def plainP (e : En) : Prop := 0 ≤ e.mode ∧ e.mode < 4096 ∧ 0 ≤ e.time ∧ e.time ≤ 1099511627775 ∧ 0 ≤ e.size ∧ e.size ≤ 1048576 ∧
  ((e.kind = 1 ∧ e.tgt = []) ∨ (e.kind = 2 ∧ e.tgt = [] ∧ e.size = 0) ∨ (e.kind = 3 ∧ 1 ≤ e.tgt.length ∧ e.tgt.length ≤ 256 ∧ e.size = 0))
instance (e : En) : Decidable (plainP e) := by unfold plainP; infer_instance
def plainB (e : En) : Bool := decide (plainP e)

set_option maxHeartbeats 1600000 in
theorem plain_any (e : En) (ok : e.ok) (w : World) : Calls Tryd.prog 59 #[.agg (enL e).toArray] w fun x w' => x = .returned (.bool (plainB e)) ∧ Below w.heap.size w w' := by
  obtain ⟨path, kind, mode, time, tgt, beg, size⟩ := e
  have hto : (str tgt).size = tgt.length := rfl
  have Yes : Hid (plainP ⟨path, kind, mode, time, tgt, beg, size⟩ → Ending.returned (.bool true) = Ending.returned (.bool (plainB ⟨path, kind, mode, time, tgt, beg, size⟩))) := Lib.hid (fun h => by unfold plainB; rw [decide_eq_true h])
  have No : Hid (¬ plainP ⟨path, kind, mode, time, tgt, beg, size⟩ → Ending.returned (.bool false) = Ending.returned (.bool (plainB ⟨path, kind, mode, time, tgt, beg, size⟩))) := Lib.hid (fun h => by unfold plainB; rw [decide_eq_false h])
  have hb := Lib.hid (fun o => (Below.refl w.heap.size w).alloc (Nat.le_refl _) o)
  have htl : tgt.length ≤ 9223372036854775807 := ok.tgt
  simp only [enL]
  clear ok
  unfold plainP at Yes No
  simp only at Yes No
  by_cases hm : 0 ≤ mode ∧ mode < 4096 ∧ 0 ≤ time ∧ time ≤ 1099511627775 ∧ 0 ≤ size ∧ size ≤ 1048576
  · obtain ⟨m1, m2, m3, m4, m5, m6⟩ := hm
    by_cases he : tgt = []
    · subst he
      have t1 : (str []).toList = [] := by rw [ByteArray.toList_eq]; rfl
      have t2 : (str []).toList.isEmpty = true := by rw [t1]; rfl
      by_cases k1 : kind = 1
      · subst k1
        go_enter Tryd.func59, Tryd.ntmps59
        go_wp2
        go_ret
        exact ⟨Yes.out ⟨m1, m2, m3, m4, m5, m6, by simp⟩, hb.out _⟩
      · have k1' : (kind == 1) = false := by simpa using k1
        by_cases k2 : kind = 2
        · subst k2
          by_cases z : size = 0
          · subst z
            go_enter Tryd.func59, Tryd.ntmps59
            go_wp2
            go_ret
            exact ⟨Yes.out ⟨m1, m2, m3, m4, m5, m6, by simp⟩, hb.out _⟩
          · have z' : (size == 0) = false := by simpa using z
            go_enter Tryd.func59, Tryd.ntmps59
            go_wp2
            go_ret
            exact ⟨No.out (by simp; omega), hb.out _⟩
        · have k2' : (kind == 2) = false := by simpa using k2
          have hl0 : ¬ (1 : Int) ≤ ((str ([] : List UInt8)).size : Int) := by show ¬ (1 : Int) ≤ 0; omega
          by_cases k3 : kind = 3
          · subst k3
            go_enter Tryd.func59, Tryd.ntmps59
            go_wp2
            go_ret
            exact ⟨No.out (by simp), hb.out _⟩
          · have k3' : (kind == 3) = false := by simpa using k3
            go_enter Tryd.func59, Tryd.ntmps59
            go_wp2
            go_ret
            exact ⟨No.out (by simp; omega), hb.out _⟩
    · have t1 : ¬ (str tgt).toList = [] := by rw [ByteArray.toList_eq]; exact he
      have t2 : (str tgt).toList.isEmpty = false := by simpa using t1
      by_cases k1 : kind = 1
      · subst k1
        go_enter Tryd.func59, Tryd.ntmps59
        go_wp2
        go_ret
        exact ⟨No.out (by simp [he]), hb.out _⟩
      · have k1' : (kind == 1) = false := by simpa using k1
        by_cases k2 : kind = 2
        · subst k2
          go_enter Tryd.func59, Tryd.ntmps59
          go_wp2
          go_ret
          exact ⟨No.out (by simp [he]), hb.out _⟩
        · have k2' : (kind == 2) = false := by simpa using k2
          by_cases k3 : kind = 3
          · subst k3
            have hl1 : (1 : Int) ≤ ((str tgt).size : Int) := by have := List.length_pos_iff.2 he; omega
            have hzz : ((str tgt).size : Int) ≤ 9223372036854775807 := by omega
            by_cases hl2 : ((str tgt).size : Int) ≤ 256
            · by_cases z : size = 0
              · subst z
                go_enter Tryd.func59, Tryd.ntmps59
                go_wp2
                go_ret
                exact ⟨Yes.out ⟨m1, m2, m3, m4, m5, m6, by simp; omega⟩, hb.out _⟩
              · have z' : (size == 0) = false := by simpa using z
                go_enter Tryd.func59, Tryd.ntmps59
                go_wp2
                go_ret
                exact ⟨No.out (by simp [z]), hb.out _⟩
            · go_enter Tryd.func59, Tryd.ntmps59
              go_wp2
              go_ret
              exact ⟨No.out (by simp; omega), hb.out _⟩
          · have k3' : (kind == 3) = false := by simpa using k3
            go_enter Tryd.func59, Tryd.ntmps59
            go_wp2
            go_ret
            exact ⟨No.out (by simp [k1, k2, k3]), hb.out _⟩
  · have HN : Hid (Ending.returned (.bool false) = Ending.returned (.bool (plainB ⟨path, kind, mode, time, tgt, beg, size⟩))) := Lib.hid (No.out (fun h => hm ⟨h.1, h.2.1, h.2.2.1, h.2.2.2.1, h.2.2.2.2.1, h.2.2.2.2.2.1⟩))
    have Hm := Lib.hid hm
    clear hm Yes No
    go_enter Tryd.func59, Tryd.ntmps59
    by_cases m1 : 0 ≤ mode
    · by_cases m2 : mode < 4096
      · by_cases m3 : 0 ≤ time
        · by_cases m4 : time ≤ 1099511627775
          · by_cases m5 : 0 ≤ size
            · by_cases m6 : size ≤ 1048576
              · exact absurd ⟨m1, m2, m3, m4, m5, m6⟩ Hm.out
              · go_wp2
                go_ret
                exact ⟨HN.out, hb.out _⟩
            · go_wp2
              go_ret
              exact ⟨HN.out, hb.out _⟩
          · go_wp2
            go_ret
            exact ⟨HN.out, hb.out _⟩
        · go_wp2
          go_ret
          exact ⟨HN.out, hb.out _⟩
      · go_wp2
        go_ret
        exact ⟨HN.out, hb.out _⟩
    · go_wp2
      go_ret
      exact ⟨HN.out, hb.out _⟩

theorem small_any (e : En) (w : World) : Calls Tryd.prog 58 #[.agg (enL e).toArray] w fun x w' => x = .returned (.bool (decide (e.size ≤ 1048576))) ∧ Below w.heap.size w w' := by
  obtain ⟨path, kind, mode, time, tgt, beg, size⟩ := e
  simp only [enL]
  have hb := Lib.hid (fun o => (Below.refl w.heap.size w).alloc (Nat.le_refl _) o)
  go_enter Tryd.func58, Tryd.ntmps58
  go_wp2
  go_ret
  exact ⟨rfl, hb.out _⟩

end Go.Proofs.YtmppagiaonbggaaDoor

/- Package entry: the walk over what holds of all. -/
namespace Go.Proofs.YtmppagiaonbggaaDoor
set_option linter.unusedVariables false
set_option linter.unusedSimpArgs false
set_option maxRecDepth 100000
open Go.RowKit

def allB (p : Nat → Bool) (n : Nat) : Bool := (List.range n).all p
theorem allB_true {p : Nat → Bool} {n : Nat} : allB p n = true ↔ ∀ i, i < n → p i = true := by
  unfold allB; rw [List.all_eq_true]; simp
theorem allB_false {p : Nat → Bool} {n i : Nat} (h : i < n) (hp : p i = false) : allB p n = false := by
  cases hh : allB p n
  · rfl
  · have := allB_true.1 hh i h
    rw [hp] at this; cases this
set_option maxHeartbeats 1600000 in
/-- Does a function answer yes at each entry? What it keeps of its own: I. -/
theorem all_any (N : FuncId) (hN : ∀ (xs : Array Value) (W : World), (callFunc N xs).run Tryd.prog W = .ok (.enter N xs) W) (caps : Array Value) (I : Nat → World → Prop) (p : Nat → Bool) (A : Option Addr) (c : Nat) (l : List En) (hl : l.length ≤ 9223372036854775807) (w0 w : World) (hb : Below w0.heap.size w0 w) (hr : RdA 7 enL w0 A l) (h0 : I 0 w)
    (hal : ∀ i W o, I i W → I i (W.alloc o)) (hf : ∀ i (h : i < l.length) W, Below w0.heap.size w0 W → I i W → Calls Tryd.prog N (#[.agg (enL l[i]).toArray] ++ caps) W fun e W' => e = .returned (.bool (p i)) ∧ (p i = true → I (i + 1) W') ∧ Below w0.heap.size W W') :
    Calls Tryd.prog 57 #[.slice A l.length c, .func (.func N) #[] caps] w fun e W' => e = .returned (.bool (allB p l.length)) ∧ Below w0.heap.size w0 W' := by
  have Hr := Lib.hid hr
  have Hf := Lib.hid hf
  have Hal := Lib.hid hal
  have H0 := Lib.hid h0
  clear hr hf hal h0
  have n1 : (l.length : Int) ≤ 9223372036854775807 := by omega
  go_enter Tryd.func57, Tryd.ntmps57
  go_wp2
  go_loopg [9] l.length (fun k v wr => ∃ i : Nat, k + i = l.length ∧ v = .int .i64 i ∧ Below w0.heap.size w0 wr ∧ Hid (I i wr) ∧ Hid (∀ j, j < i → p j = true))
  case atStart => exact ⟨0, by omega, rfl, hb, H0, Lib.hid (fun j h => absurd h (Nat.not_lt_zero _))⟩
  case round =>
    clear hb H0
    obtain ⟨i, hk, rfl, hb, hi, hp⟩ := hrel
    by_cases hlt : (i : Int) < (l.length : Int)
    · obtain ⟨j, rfl⟩ : ∃ j, gk = j + 1 := ⟨gk - 1, by omega⟩
      have hil : i < l.length := by omega
      have i0 : (0 : Int) ≤ (i : Int) := by omega
      obtain ⟨b, off, rfl, q, d⟩ := Hr.out.below hb i hil
      have Hk := Lib.hid hk
      have HF := Lib.hid (fun W => Hf.out i hil W)
      have hp2 : Hid (p i = true → ∀ j, j < i + 1 → p j = true) := Lib.hid (fun h j hj => by
        by_cases e : j = i
        · subst e; exact h
        · exact hp.out j (by omega))
      generalize hpi : p i = pi at *
      have Hpi := Lib.hid hpi
      clear hk hp hpi
      generalize l[i] = x at *
      obtain ⟨path, kind, mode, time, tgt, beg, size⟩ := x
      have d0 := d 0 _ rfl
      have d1 := d 1 _ rfl
      have d2 := d 2 _ rfl
      have d3 := d 3 _ rfl
      have d4 := d 4 _ rfl
      have d5 := d 5 _ rfl
      have d6 := d 6 _ rfl
      simp only [Nat.add_zero] at d0 d1 d2 d3 d4 d5 d6
      clear d
      have hal1 := Lib.hid (Hal.out i wr (.cells #[.string (str path), .int .i64 kind, .int .i64 mode, .int .i64 time, .string (str tgt), .int .i64 beg, .int .i64 size] 71) hi.out)
      have hb1 := hb.alloc hb.size (.cells #[.string (str path), .int .i64 kind, .int .i64 mode, .int .i64 time, .string (str tgt), .int .i64 beg, .int .i64 size] 71)
      go_wp2_with fail
      refine (HF.out _ hb1 hal1.out).mono ?_
      rintro e wz ⟨rfl, hI, b⟩
      have HI := Lib.hid hI
      have hb2 := hb1.trans b
      clear hI b hb1 hb hi hal1 HF d0 d1 d2 d3 d4 d5 d6
      cases pi with
      | true =>
        go_wp2
        go_roundg j
        case measure => omega
        case rel => exact ⟨i + 1, by have := Hk.out; omega, rfl, hb2, Lib.hid (HI.out (by trivial)), Lib.hid (hp2.out (by trivial))⟩
      | false =>
        go_wp2
        go_ret
        exact ⟨by rw [allB_false hil Hpi.out]; rfl, hb2⟩
    · go_wp2
      go_ret
      exact ⟨by rw [allB_true.2 (fun j hj => hp.out j (by omega))]; rfl, hb⟩
end Go.Proofs.YtmppagiaonbggaaDoor

/- Words to find a part of what is owned, wherever it stands. -/
namespace Go.Proofs.YtmppagiaonbggaaDoor
set_option linter.unusedVariables false
set_option linter.unusedSimpArgs false
set_option maxRecDepth 100000
open Go.RowKit

/-- A stands somewhere in W; R is the rest. -/
class Foc (A W : HP) (R : outParam HP) : Prop where
  out : W = A * R
instance (priority := high) Foc.here {A C : HP} : Foc A (A * C) C := ⟨rfl⟩
instance (priority := low) Foc.there {A D C R : HP} [f : Foc A C R] : Foc A (D * C) (D * R) := ⟨by rw [f.out]; exact sep_left_comm _ _ _⟩
theorem Own.foc {B : Nat} {W R : HP} {w : World} (A : HP) [f : Foc A W R] (h : Own B W w) : Own B (A * R) w := by rw [f.out] at h; exact h

/-- Block X stands somewhere in W. -/
class HasBk (B : Nat) (X : Nat) (W : HP) (t : outParam TypeId) (cs : outParam (Array Value)) (rep : outParam (Array Value → HP)) : Prop where
  out : ∃ C : HP, Loc B C ∧ W = Bk X t cs * C ∧ ∀ cs', rep cs' = Bk X t cs' * C
instance (priority := high) HasBk.here {B X : Nat} {t : TypeId} {cs : Array Value} {C : HP} [k : Loc B C] : HasBk B X (Bk X t cs * C) t cs (fun cs' => Bk X t cs' * C) := ⟨⟨C, k, rfl, fun _ => rfl⟩⟩
instance (priority := low) HasBk.there {B X : Nat} {t : TypeId} {cs : Array Value} {D C : HP} {rep : Array Value → HP} [k : Loc B D] [f : HasBk B X C t cs rep] : HasBk B X (D * C) t cs (fun cs' => D * rep cs') := ⟨by
  obtain ⟨E, kE, h1, h2⟩ := f.out
  exact ⟨D * E, inferInstance, by rw [h1]; exact sep_left_comm _ _ _, fun cs' => by rw [h2]; exact sep_left_comm _ _ _⟩⟩

section
variable {B : Nat} {W : HP} {w : World} {t : TypeId} {cs : Array Value} {rep : Array Value → HP}
theorem Own.cellOf (h : Own B W w) (X : Nat) [f : HasBk B X W t cs rep] (i : Nat) : w.cell? ⟨X, i, none⟩ = cs[i]? := by
  obtain ⟨C, _, h1, _⟩ := f.out
  rw [h1] at h
  exact h.cell i
theorem Own.freeOf (h : Own B W w) (X : Nat) [f : HasBk B X W t cs rep] (i : Nat) : w.frozen? ⟨X, i, none⟩ = false := by
  obtain ⟨C, _, h1, _⟩ := f.out
  rw [h1] at h
  exact h.unfrozen i
theorem Own.setOf (h : Own B W w) (hB : B ≤ w.heap.size) (X : Nat) [f : HasBk B X W t cs rep] (i : Nat) (u : Value) : Own B (rep (cs.setIfInBounds i u)) (w.setCell ⟨X, i, none⟩ u) ∧ Below B w (w.setCell ⟨X, i, none⟩ u) := by
  obtain ⟨C, k, h1, h2⟩ := f.out
  rw [h1] at h
  rw [h2]
  exact ⟨h.set hB i u, h.below_set i u⟩
theorem Own.blockOf (h : Own B W w) (X : Nat) [f : HasBk B X W t cs rep] : w.heap[X]? = some (.cells cs t (0, 0)) := by
  obtain ⟨C, _, h1, _⟩ := f.out
  rw [h1] at h
  exact h.bk.1
end
end Go.Proofs.YtmppagiaonbggaaDoor

/- A statement whose order Go leaves open, of two threads, each with what it owns: in whatever order their steps come, both end as each ends alone; then comes the rest. -/
namespace Go.Proofs.YtmppagiaonbggaaDoor
set_option linter.unusedVariables false
set_option linter.unusedSimpArgs false
set_option maxRecDepth 100000
open Go.RowKit

section
variable {P : Program} {ops : Array Oper} {md : Region.Mode} {Q : Exit → Act → World → Prop} {B : Nat}

/-- From every world in which A is owned (beside whatever) the operation ends in some value and some owning that Ψ tells. -/
def StepR (P : Program) (B : Nat) (o : Oper) (a : Act) (A : HP) (Ψ : Value → HP → Prop) : Prop :=
  ∀ (R : HP) [Loc B R] (w : World), B ≤ w.heap.size → Own B (A * R) w → match (execOp a.eval o).run P w with
    | .ok (.value u) w' => ∃ A', Ψ u A' ∧ Own B (A' * R) w' ∧ Below B w w'
    | .ok .skip w' => ∃ A', Ψ undef A' ∧ Own B (A' * R) w' ∧ Below B w w'
    | .ok (.enter f args) w' => Calls P f args w' fun e w'' => ∃ u A', e = .returned u ∧ Ψ u A' ∧ Own B (A' * R) w'' ∧ Below B w w''
    | _ => False

/-- A thread: its operations in their order, each from what the one ahead has left; at the end Φ tells of the values and of what is owned. -/
def TW (P : Program) (ops : Array Oper) (B : Nat) : List Oper → (List Value → HP → Prop) → Act → HP → Prop
  | [], Φ, _, A => Φ [] A
  | o :: l, Φ, a, A => Loc B A ∧ ((Region.wanted o (yielded ops a.tmps) = true ∧ StepR P B o a A (fun v A' => Loc B A' ∧ TW P ops B l (fun vs => Φ (v :: vs)) (a.put o.dst v) A')) ∨
      (Region.wanted o (yielded ops a.tmps) = false ∧ TW P ops B l (fun vs => Φ (undef :: vs)) (a.put o.dst undef) A))

def putAll : List Oper → List Value → Act → Act
  | o :: l, v :: vs, a => putAll l vs (a.put o.dst v)
  | _, _, a => a

theorem StepR.imp {o : Oper} {a : Act} {A : HP} {Ψ Ψ' : Value → HP → Prop} (h : StepR P B o a A Ψ) (hi : ∀ v A', Ψ v A' → Ψ' v A') : StepR P B o a A Ψ' := by
  intro R _ w hB hO
  have h1 := h R w hB hO
  generalize (execOp a.eval o).run P w = r at h1 ⊢
  cases r with
  | ok n w' =>
    cases n <;> simp only at h1 ⊢
    case value u => obtain ⟨A', h2, h3⟩ := h1; exact ⟨A', hi _ _ h2, h3⟩
    case skip => obtain ⟨A', h2, h3⟩ := h1; exact ⟨A', hi _ _ h2, h3⟩
    case enter f args => exact h1.mono fun e w'' ⟨u, A', he, h2, h3⟩ => ⟨u, A', he, hi _ _ h2, h3⟩
  | halt x w' => cases x <;> exact h1.elim

theorem TW.put (hsel : Region.noSelect ops = true) {oi : Oper} {v : Value} : ∀ (l : List Oper) (Φ : List Value → HP → Prop) (a : Act) (A : HP), (∀ o ∈ l, (∃ j : Nat, ops[j]? = some o) ∧ o.apart ops oi = true) → TW P ops B l Φ a A → TW P ops B l Φ (a.put oi.dst v) A
  | [], _, _, _, _, h => h
  | o :: l, Φ, a, A, hap, h => by
    obtain ⟨⟨j, hj⟩, hoa⟩ := hap o List.mem_cons_self
    obtain ⟨h1, h2, h3⟩ := Oper.apart_spec hoa
    have sj := Region.noSelect_spec hsel j o
    have he := execOp_put o (fun cs b => sj cs b hj) a oi.dst v h3
    have hw := wanted_put o a oi.dst v h3
    have hl : ∀ o' ∈ l, (∃ j : Nat, ops[j]? = some o') ∧ o'.apart ops oi = true := fun o' ho' => hap o' (List.mem_cons_of_mem _ ho')
    obtain ⟨hloc, h⟩ := h
    refine ⟨hloc, ?_⟩
    rcases h with ⟨hwa, hst⟩ | ⟨hwa, hr⟩
    · left
      refine ⟨by rw [hw]; exact hwa, ?_⟩
      have hst' : StepR P B o (a.put oi.dst v) A (fun v' A' => Loc B A' ∧ TW P ops B l (fun vs => Φ (v' :: vs)) (a.put o.dst v') A') := by
        unfold StepR at hst ⊢
        rw [he]
        exact hst
      refine hst'.imp fun v' A' ⟨hl', ht⟩ => ⟨hl', ?_⟩
      rw [← Act.put_comm a v' v h2]
      exact TW.put hsel l _ _ _ hl ht
    · right
      refine ⟨by rw [hw]; exact hwa, ?_⟩
      rw [← Act.put_comm a undef v h2]
      exact TW.put hsel l _ _ _ hl hr

theorem putAll_put : ∀ (l : List Oper) (vs : List Value) (a : Act) (oi : Oper) (v : Value), (∀ o ∈ l, o.apart ops oi = true) → putAll l vs (a.put oi.dst v) = (putAll l vs a).put oi.dst v
  | [], _, _, _, _, _ => by simp [putAll]
  | o :: l, [], _, _, _, _ => by simp [putAll]
  | o :: l, u :: vs, a, oi, v, h => by
    obtain ⟨h1, h2, h3⟩ := Oper.apart_spec (h o List.mem_cons_self)
    show putAll l vs ((a.put oi.dst v).put o.dst u) = (putAll l vs (a.put o.dst u)).put oi.dst v
    rw [← Act.put_comm a u v h2]
    exact putAll_put l vs _ oi v (fun o' ho' => h o' (List.mem_cons_of_mem _ ho'))

theorem StepR.wp {o : Oper} {a : Act} {A R : HP} [Loc B R] {Ψ : Value → HP → Prop} {w : World} (h : StepR P B o a A Ψ) (hB : B ≤ w.heap.size) (hO : Own B (A * R) w) {K : Act → World → Prop}
    (hK : ∀ v A' w', Ψ v A' → Own B (A' * R) w' → Below B w w' → K (a.put o.dst v) w') : o.wp P a w K Q := by
  have h1 := h R w hB hO
  unfold Oper.wp
  generalize (execOp a.eval o).run P w = r at h1
  cases r with
  | ok n w' =>
    cases n <;> simp only [Oper.upon] at h1 ⊢
    case value u => obtain ⟨A', h2, h3, h4⟩ := h1; exact hK _ _ _ h2 h3 h4
    case skip => obtain ⟨A', h2, h3, h4⟩ := h1; exact hK _ _ _ h2 h3 h4
    case enter f args => exact h1.mono fun e w'' ⟨u, A', he, h2, h3, h4⟩ => by subst he; exact hK _ _ _ h2 h3 h4
  | halt x w' => cases x <;> exact h1.elim

/-! the static look -/
def apartAll (ops : Array Oper) (l1 l2 : List Nat) : Bool := l1.all fun i => l2.all fun j => match ops[i]?, ops[j]? with | some oi, some oj => oi.apart ops oj && oj.apart ops oi | _, _ => false
def lastOf : List Nat → Option Nat
  | [] => none
  | [i] => some i
  | _ :: l => lastOf l
def behind (md : Region.Mode) (ops : Array Oper) (l : List Nat) (t : Nat) : Bool := match lastOf l with | none => true | some i => Region.waitsFor md ops t i
def twoB (md : Region.Mode) (ops : Array Oper) (listed : Array Bool) (l1 l2 ts : List Nat) : Bool :=
  Region.noSelect ops && decide (listed.size = ops.size) &&
  ((List.range ops.size).all fun j => listed.getD j true || l1.contains j || l2.contains j || ts.contains j) &&
  ((l1 ++ l2 ++ ts).all fun j => decide (j < ops.size) && !listed.getD j true) &&
  decide (l1 ++ l2).Nodup && lexOk md ops l1 listed && lexOk md ops l2 listed && chained md ops l1 && chained md ops l2 &&
  (ts.all fun t => !(l1 ++ l2).contains t && ((ts.any fun s => Region.waitsFor md ops t s) || (behind md ops l1 t && behind md ops l2 t))) && apartAll ops l1 l2

structure TwoOk (md : Region.Mode) (ops : Array Oper) (listed : Array Bool) (l1 l2 ts : List Nat) : Prop where
  size : listed.size = ops.size
  cover : ∀ j, j < ops.size → listed.getD j true = false → j ∈ l1 ∨ j ∈ l2 ∨ j ∈ ts
  un : ∀ j, j ∈ l1 ∨ j ∈ l2 ∨ j ∈ ts → j < ops.size ∧ listed.getD j true = false
  nd1 : l1.Nodup
  nd2 : l2.Nodup
  dis : ∀ i ∈ l1, i ∉ l2
  ndt : ∀ t ∈ ts, t ∉ l1 ∧ t ∉ l2
  lex1 : lexOk md ops l1 listed = true
  lex2 : lexOk md ops l2 listed = true
  ch1 : chained md ops l1 = true
  ch2 : chained md ops l2 = true
  root : ∀ t ∈ ts, (∃ s ∈ ts, Region.waitsFor md ops t s = true) ∨ (behind md ops l1 t = true ∧ behind md ops l2 t = true)
  apart : ∀ i ∈ l1, ∀ j ∈ l2, ∀ oi oj, ops[i]? = some oi → ops[j]? = some oj → oi.apart ops oj = true ∧ oj.apart ops oi = true

theorem twoB_ok {listed : Array Bool} {l1 l2 ts : List Nat} (h : twoB md ops listed l1 l2 ts = true) : Region.noSelect ops = true ∧ TwoOk md ops listed l1 l2 ts := by
  simp only [twoB, Bool.and_eq_true, decide_eq_true_eq] at h
  obtain ⟨⟨⟨⟨⟨⟨⟨⟨⟨⟨h1, h2⟩, h3⟩, h4⟩, h5⟩, h6⟩, h7⟩, h8⟩, h9⟩, h10⟩, h11⟩ := h
  have hnd := List.nodup_append.1 h5
  refine ⟨h1, h2, fun j hj hl => ?_, fun j hj => ?_, hnd.1, hnd.2.1, fun i hi hi2 => hnd.2.2 i hi i hi2 rfl, fun t ht => ?_, h6, h7, h8, h9, fun t ht => ?_, fun i hi j hj oi oj hoi hoj => ?_⟩
  · have := List.all_eq_true.1 h3 j (List.mem_range.2 hj)
    rw [hl] at this
    simpa [or_assoc] using this
  · have := List.all_eq_true.1 h4 j (by simp; exact hj)
    simp only [Bool.and_eq_true, decide_eq_true_eq, Bool.not_eq_true'] at this
    exact this
  · have := List.all_eq_true.1 h10 t ht
    simp only [Bool.and_eq_true, Bool.not_eq_true'] at this
    have h := this.1
    simp at h
    exact h
  · have := List.all_eq_true.1 h10 t ht
    simp only [Bool.and_eq_true, Bool.or_eq_true, List.any_eq_true] at this
    exact this.2
  · have := List.all_eq_true.1 (List.all_eq_true.1 h11 i hi) j hj
    rw [hoi, hoj] at this
    simpa [Bool.and_eq_true] using this

theorem lastOf_mem : ∀ (l : List Nat) (i : Nat), lastOf l = some i → i ∈ l
  | [x], i, h => by injection h with h; subst h; exact List.mem_cons_self
  | x :: y :: l, i, h => List.mem_cons_of_mem _ (lastOf_mem (y :: l) i h)
theorem lastOf_some : ∀ (x : Nat) (l : List Nat), ∃ i, lastOf (x :: l) = some i
  | x, [] => ⟨x, rfl⟩
  | _, y :: l => lastOf_some y l

theorem TwoOk.only {listed : Array Bool} {l1 l2 ts : List Nat} (ok : TwoOk md ops listed l1 l2 ts) (hne : l1 ≠ [] ∨ l2 ≠ []) {i : Nat} (hi : i ∈ Region.ready md ops listed) : (∃ l, l1 = i :: l) ∨ (∃ l, l2 = i :: l) := by
  obtain ⟨hlt, hun, hed⟩ := mem_ready'.1 hi
  have bad : ∀ s, s ∈ l1 ∨ s ∈ l2 ∨ s ∈ ts → Region.waitsFor md ops i s = true → False := fun s hs' hw => by
    have h1 := edgesIn_waits hed hw
    rw [getD_both (ok.un s hs').2] at h1
    cases h1
  rcases ok.cover i hlt hun with h | h | h
  · rcases chained_prev l1 i ok.ch1 h with h2 | ⟨s, hs, hw⟩
    · exact .inl h2
    · exact (bad s (.inl hs) hw).elim
  · rcases chained_prev l2 i ok.ch2 h with h2 | ⟨s, hs, hw⟩
    · exact .inr h2
    · exact (bad s (.inr (.inl hs)) hw).elim
  · exfalso
    rcases ok.root i h with ⟨s, hs, hw⟩ | ⟨hb1, hb2⟩
    · exact bad s (.inr (.inr hs)) hw
    · rcases hne with hne | hne
      · obtain ⟨x, l, rfl⟩ : ∃ x l, l1 = x :: l := by cases l1 with | nil => exact absurd rfl hne | cons x l => exact ⟨x, l, rfl⟩
        obtain ⟨j, hj⟩ := lastOf_some x l
        rw [behind, hj] at hb1
        exact bad j (.inl (lastOf_mem _ _ hj)) hb1
      · obtain ⟨x, l, rfl⟩ : ∃ x l, l2 = x :: l := by cases l2 with | nil => exact absurd rfl hne | cons x l => exact ⟨x, l, rfl⟩
        obtain ⟨j, hj⟩ := lastOf_some x l
        rw [behind, hj] at hb2
        exact bad j (.inr (.inl (lastOf_mem _ _ hj))) hb2

theorem behind_tail {i : Nat} {l : List Nat} {t : Nat} (h : behind md ops (i :: l) t = true) : behind md ops l t = true := by
  cases l with
  | nil => rfl
  | cons y l => exact h
theorem chained_tail {i : Nat} {l : List Nat} (h : chained md ops (i :: l) = true) : chained md ops l = true := by
  simp only [chained, Bool.and_eq_true] at h
  exact h.2

theorem TwoOk.swap {listed : Array Bool} {l1 l2 ts : List Nat} (ok : TwoOk md ops listed l1 l2 ts) : TwoOk md ops listed l2 l1 ts :=
  ⟨ok.size, fun j hj hl => (by rcases ok.cover j hj hl with h | h | h <;> simp [h]), fun j hj => ok.un j (by rcases hj with h | h | h <;> simp [h]), ok.nd2, ok.nd1, fun i hi h => ok.dis i h hi, fun t ht => (ok.ndt t ht).symm, ok.lex2, ok.lex1, ok.ch2, ok.ch1,
   fun t ht => (ok.root t ht).imp id And.symm, fun i hi j hj oi oj hoi hoj => (ok.apart j hj i hi oj oi hoj hoi).symm⟩

theorem TwoOk.strike {listed : Array Bool} {i : Nat} {l1 l2 ts : List Nat} (ok : TwoOk md ops listed (i :: l1) l2 ts) : TwoOk md ops (listed.setIfInBounds i true) l1 l2 ts := by
  obtain ⟨hlt, hui⟩ := ok.un i (.inl List.mem_cons_self)
  have hn := List.nodup_cons.1 ok.nd1
  have hi2 := ok.dis i List.mem_cons_self
  have hne : ∀ j, j ∈ l1 ∨ j ∈ l2 ∨ j ∈ ts → i ≠ j := by
    rintro j hj rfl
    rcases hj with h | h | h
    · exact hn.1 h
    · exact hi2 h
    · exact (ok.ndt i h).1 List.mem_cons_self
  have hlex := ok.lex1
  simp only [lexOk, Bool.and_eq_true] at hlex
  refine ⟨by simp [ok.size], fun j hj hl => ?_, fun j hj => ?_, hn.2, ok.nd2, fun j hj => ok.dis j (List.mem_cons_of_mem _ hj), fun t ht => ⟨fun h => (ok.ndt t ht).1 (List.mem_cons_of_mem _ h), (ok.ndt t ht).2⟩, hlex.2, lexOk_set _ _ ok.lex2, chained_tail ok.ch1, ok.ch2,
    fun t ht => (ok.root t ht).imp id (fun h => ⟨behind_tail h.1, h.2⟩), fun a ha b hb => ok.apart a (List.mem_cons_of_mem _ ha) b hb⟩
  · by_cases hij : i = j
    · subst hij
      rw [show (listed.setIfInBounds i true).getD i true = true by simp [ok.size, hlt]] at hl
      cases hl
    · rw [getD_set_ne true hij] at hl
      rcases ok.cover j hj hl with h | h | h
      · rcases List.mem_cons.1 h with h | h
        · exact absurd h.symm hij
        · exact .inl h
      · exact .inr (.inl h)
      · exact .inr (.inr h)
  · have := ok.un j (by rcases hj with h | h | h <;> simp [h])
    exact ⟨this.1, by rw [getD_set_ne true (hne j hj)]; exact this.2⟩

theorem markAll_set : ∀ (l : List Nat) (i : Nat) (listed : Array Bool), markAll l (listed.setIfInBounds i true) = (markAll l listed).setIfInBounds i true
  | [], _, _ => rfl
  | j :: l, i, listed => by
    show markAll l ((listed.setIfInBounds i true).setIfInBounds j true) = (markAll l (listed.setIfInBounds j true)).setIfInBounds i true
    rw [← markAll_set l i]
    by_cases h : i = j
    · subst h; rfl
    · rw [Array.setIfInBounds_comm _ _ h]

def opsOf (ops : Array Oper) (l : List Nat) : List Oper := l.filterMap fun i => ops[i]?
theorem opsOf_cons {i : Nat} {l : List Nat} {o : Oper} (h : ops[i]? = some o) : opsOf ops (i :: l) = o :: opsOf ops l := by simp [opsOf, h]
theorem mem_opsOf {l : List Nat} {o : Oper} (h : o ∈ opsOf ops l) : ∃ i ∈ l, ops[i]? = some o := by
  simpa [opsOf] using h

theorem wpAny_two (hsel : Region.noSelect ops = true) {ts : List Nat} {R : HP} [Loc B R] {fuel : Nat} : ∀ (n : Nat) (l1 l2 : List Nat) (listed : Array Bool) (a : Act) (w : World) (Φ1 Φ2 : List Value → HP → Prop) (A1 A2 : HP), l1.length + l2.length = n → Loc B A1 → Loc B A2 →
    TwoOk md ops listed l1 l2 ts → TW P ops B (opsOf ops l1) Φ1 a A1 → TW P ops B (opsOf ops l2) Φ2 a A2 → B ≤ w.heap.size → Own B (A1 * (A2 * R)) w →
    (∀ vs1 A1' vs2 A2' w', Φ1 vs1 A1' → Φ2 vs2 A2' → Own B (A1' * (A2' * R)) w' → Below B w w' → wpAny P md ops Q fuel (markAll l2 (markAll l1 listed)) (putAll (opsOf ops l2) vs2 (putAll (opsOf ops l1) vs1 a)) w') →
    wpAny P md ops Q (n + fuel) listed a w
  | 0, l1, l2, listed, a, w, Φ1, Φ2, A1, A2, hn, _, _, ok, h1, h2, hB, hO, hK => by
    obtain rfl : l1 = [] := List.eq_nil_of_length_eq_zero (by omega)
    obtain rfl : l2 = [] := List.eq_nil_of_length_eq_zero (by omega)
    rw [Nat.zero_add]
    exact hK [] A1 [] A2 w h1 h2 hO (Below.refl B w)
  | n + 1, l1, l2, listed, a, w, Φ1, Φ2, A1, A2, hn, k1, k2, ok, h1, h2, hB, hO, hK => by
    rw [show n + 1 + fuel = (n + fuel) + 1 by omega]
    have hne : l1 ≠ [] ∨ l2 ≠ [] := by
      cases l1 with
      | nil => right; intro e; subst e; simp at hn
      | cons x l => left; simp
    have hrdy : Region.ready md ops listed ≠ [] := by
      intro h0
      rcases hne with hne | hne
      · obtain ⟨x, l, rfl⟩ : ∃ x l, l1 = x :: l := by cases l1 with | nil => exact absurd rfl hne | cons x l => exact ⟨x, l, rfl⟩
        have hlex := ok.lex1
        simp only [lexOk, Bool.and_eq_true] at hlex
        have hun := ok.un x (by simp)
        have : x ∈ Region.ready md ops listed := mem_ready'.2 ⟨hun.1, hun.2, hlex.1⟩
        rw [h0] at this; cases this
      · obtain ⟨x, l, rfl⟩ : ∃ x l, l2 = x :: l := by cases l2 with | nil => exact absurd rfl hne | cons x l => exact ⟨x, l, rfl⟩
        have hlex := ok.lex2
        simp only [lexOk, Bool.and_eq_true] at hlex
        have hun := ok.un x (by simp)
        have : x ∈ Region.ready md ops listed := mem_ready'.2 ⟨hun.1, hun.2, hlex.1⟩
        rw [h0] at this; cases this
    refine ⟨fun h0 => absurd h0 hrdy, fun i hi => ?_⟩
    have hlt := (mem_ready'.1 hi).1
    obtain ⟨o, ho⟩ : ∃ o, ops[i]? = some o := ⟨_, Array.getElem?_eq_getElem hlt⟩
    unfold wpOp
    simp only [ho]
    rcases ok.only hne hi with ⟨l, rfl⟩ | ⟨l, rfl⟩
    · rw [opsOf_cons ho] at h1
      have hap : ∀ o' ∈ opsOf ops l2, (∃ j : Nat, ops[j]? = some o') ∧ o'.apart ops o = true := fun o' h' => by
        obtain ⟨j, hj, hoj⟩ := mem_opsOf h'
        exact ⟨⟨j, hoj⟩, (ok.apart i List.mem_cons_self j hj o o' ho hoj).2⟩
      have hlen : l.length + l2.length = n := by simp at hn; omega
      obtain ⟨_, h1 | h1⟩ := h1
      · rw [if_pos h1.1]
        left
        refine h1.2.wp hB hO fun v A' w' ⟨kl, ht⟩ hO' hb => ?_
        refine wpAny_two hsel n l l2 _ _ w' (fun vs => Φ1 (v :: vs)) Φ2 A' A2 hlen kl k2 ok.strike ht (h2.put hsel _ _ _ _ hap) (Nat.le_trans hB hb.size) hO' fun vs1 A1' vs2 A2' w'' p1 p2 hO'' hb' => ?_
        have := hK (v :: vs1) A1' vs2 A2' w'' p1 p2 hO'' (hb.trans hb')
        rw [opsOf_cons ho] at this
        exact this
      · rw [if_neg (by rw [h1.1]; exact Bool.false_ne_true)]
        refine wpAny_two hsel n l l2 _ _ w (fun vs => Φ1 (undef :: vs)) Φ2 A1 A2 hlen k1 k2 ok.strike h1.2 (h2.put hsel _ _ _ _ hap) hB hO fun vs1 A1' vs2 A2' w'' p1 p2 hO'' hb' => ?_
        have := hK (undef :: vs1) A1' vs2 A2' w'' p1 p2 hO'' hb'
        rw [opsOf_cons ho] at this
        exact this
    · rw [opsOf_cons ho] at h2
      have hap : ∀ o' ∈ opsOf ops l1, (∃ j : Nat, ops[j]? = some o') ∧ o'.apart ops o = true := fun o' h' => by
        obtain ⟨j, hj, hoj⟩ := mem_opsOf h'
        exact ⟨⟨j, hoj⟩, (ok.apart j hj i List.mem_cons_self o' o hoj ho).1⟩
      have hlen : l1.length + l.length = n := by simp at hn; omega
      obtain ⟨_, h2 | h2⟩ := h2
      · rw [if_pos h2.1]
        left
        refine h2.2.wp hB (hO.cast (sep_left_comm _ _ _)) fun v A' w' ⟨kl, ht⟩ hO' hb => ?_
        refine wpAny_two hsel n l1 l _ _ w' Φ1 (fun vs => Φ2 (v :: vs)) A1 A' hlen k1 kl ok.swap.strike.swap (h1.put hsel _ _ _ _ hap) ht (Nat.le_trans hB hb.size) (hO'.cast (sep_left_comm _ _ _)) fun vs1 A1' vs2 A2' w'' p1 p2 hO'' hb' => ?_
        have := hK vs1 A1' (v :: vs2) A2' w'' p1 p2 hO'' (hb.trans hb')
        rw [opsOf_cons ho] at this
        rw [putAll_put _ _ _ _ _ (fun o' h' => (hap o' h').2), markAll_set]
        exact this
      · rw [if_neg (by rw [h2.1]; exact Bool.false_ne_true)]
        refine wpAny_two hsel n l1 l _ _ w Φ1 (fun vs => Φ2 (undef :: vs)) A1 A2 hlen k1 k2 ok.swap.strike.swap (h1.put hsel _ _ _ _ hap) h2.2 hB hO fun vs1 A1' vs2 A2' w'' p1 p2 hO'' hb' => ?_
        have := hK vs1 A1' (undef :: vs2) A2' w'' p1 p2 hO'' hb'
        rw [opsOf_cons ho] at this
        rw [putAll_put _ _ _ _ _ (fun o' h' => (hap o' h').2), markAll_set]
        exact this

/-- THE RULE: us free, at whatever time · l1 and l2 two threads · ts behind both. -/
theorem wp_region_two {id : Nat} {a : Act} {w : World} (us l1 l2 ts : List Nat) (A1 A2 R : HP) [k1 : Loc B A1] [k2 : Loc B A2] [Loc B R] (hm : P.follows .mixedOrders = true)
    (hB : (freeB .any ops us (Array.replicate ops.size false) && twoB .any ops (markAll us (Array.replicate ops.size false)) l1 l2 ts) = true) (hf : ops.size = us.length + ((l1.length + l2.length) + ts.length))
    (hQ : ∀ c a d v w, Q (.panic c) (a.put (some d) v) w → Q (.panic c) a w) (hsz : B ≤ w.heap.size) (hO : Own B (A1 * (A2 * R)) w.drew)
    (h : wpFree P ops (fun a1 => ∃ Φ1 Φ2 : List Value → HP → Prop, TW P ops B (opsOf ops l1) Φ1 a1 A1 ∧ TW P ops B (opsOf ops l2) Φ2 a1 A2 ∧
      ∀ vs1 A1' vs2 A2' w', Φ1 vs1 A1' → Φ2 vs2 A2' → Own B (A1' * (A2' * R)) w' → Below B w w' → wpAny P .any ops Q ts.length (markAll l2 (markAll l1 (markAll us (Array.replicate ops.size false)))) (putAll (opsOf ops l2) vs2 (putAll (opsOf ops l1) vs1 a1)) w')
      (us.filterMap fun i => ops[i]?) a) : (Code.region id ops true).wp P Q a w := by
  rw [Bool.and_eq_true] at hB
  refine wp_region_any hm ?_
  obtain ⟨hsel, ok⟩ := twoB_ok hB.2
  have hgo : wpAny P .any ops Q (us.length + ((l1.length + l2.length) + ts.length)) (Array.replicate ops.size false) a w.drew := by
    refine wpAny_free hQ hsel us _ a hB.1 (fun a' ⟨Φ1, Φ2, t1, t2, hK⟩ => ?_) h
    exact wpAny_two hsel (l1.length + l2.length) l1 l2 _ a' _ Φ1 Φ2 A1 A2 rfl k1 k2 ok t1 t2 hsz hO fun vs1 A1' vs2 A2' w' p1 p2 ho hb => hK vs1 A1' vs2 A2' w' p1 p2 ho ((Below.refl B w).drew.trans hb)
  rw [← hf] at hgo
  exact hgo

/-! the steps -/
theorem tw_nil {Φ : List Value → HP → Prop} {a : Act} {A : HP} (h : Φ [] A) : TW P ops B [] Φ a A := h
theorem tw_val {o : Oper} {l : List Oper} {Φ : List Value → HP → Prop} {a : Act} {A : HP} [k : Loc B A] (v : Value) (hw : Region.wanted o (yielded ops a.tmps) = true)
    (hv : ∀ (R : HP) [Loc B R] (w : World), Own B (A * R) w → (execOp a.eval o).run P w = .ok (.value v) w) (h : TW P ops B l (fun vs => Φ (v :: vs)) (a.put o.dst v) A) : TW P ops B (o :: l) Φ a A :=
  ⟨k, .inl ⟨hw, fun R _ w hB hO => by rw [hv R w hO]; exact ⟨A, ⟨k, h⟩, hO, Below.refl B w⟩⟩⟩
theorem tw_call {o : Oper} {l : List Oper} {Φ : List Value → HP → Prop} {a : Act} {A : HP} [k : Loc B A] (f : FuncId) (args : Array Value) (Ψ : Value → HP → Prop) (hw : Region.wanted o (yielded ops a.tmps) = true)
    (hr : ∀ (R : HP) [Loc B R] (w : World), Own B (A * R) w → (execOp a.eval o).run P w = .ok (.enter f args) w)
    (hc : ∀ (R : HP) [Loc B R] (w : World), B ≤ w.heap.size → Own B (A * R) w → Calls P f args w fun e w' => ∃ v A', e = .returned v ∧ (Loc B A' ∧ Ψ v A') ∧ Own B (A' * R) w' ∧ Below B w w')
    (h : ∀ v A', Loc B A' → Ψ v A' → TW P ops B l (fun vs => Φ (v :: vs)) (a.put o.dst v) A') : TW P ops B (o :: l) Φ a A :=
  ⟨k, .inl ⟨hw, fun R _ w hB hO => by rw [hr R w hO]; exact (hc R w hB hO).mono fun e w' ⟨v, A', he, ⟨kl, hp⟩, ho, hb⟩ => ⟨v, A', he, ⟨kl, h v A' kl hp⟩, ho, hb⟩⟩⟩
theorem Own.row_n {B : Nat} {R : HP} {w : World} {e : TypeId} {size : Nat} {v : Value} {n : Nat} {xs : List Value} (h : Own B (Rw e size v n xs * R) w) : ∃ A c, v = .slice A n c := by
  rcases h.row.2 with ⟨rfl, rfl⟩ | ⟨g, cap, cur, rfl, _⟩
  · exact ⟨_, _, rfl⟩
  · exact ⟨_, _, rfl⟩
end
end Go.Proofs.YtmppagiaonbggaaDoor

/- Rows of bytes: one more byte, a clone. -/
namespace Go.Proofs.YtmppagiaonbggaaDoor
set_option linter.unusedVariables false
set_option linter.unusedSimpArgs false
set_option maxRecDepth 100000
open Go.RowKit

def bytesU (l : List UInt8) : List Value := l.map fun x => Value.int .u8 (x.toNat : Int)
theorem infoU8 : (Tryd.prog.info? 5).map (fun i => (i.zero, i.size, i.bytes)) = some (some (.int .u8 0), 1, 1) := by kernel_rfl
theorem run_append_none {P : Program} {w : World} (base : Nat) (t ty e : TypeId) (i : TypeInfo) (size : Nat) (ht : P.underlying t = some (.slice e)) (hi : P.info? e = some i)
    (v : Value) (n : Nat) (xs : List Value) (hown : w.ownsRow base e size v n xs) (c : Nat) :
    (Builtin.append_ #[t, t] ty #[v, .slice none 0 c]).run P w = .ok v w := by
  rcases hown.2 with ⟨rfl, rfl⟩ | ⟨g, cap, cur, rfl, _, _, hnc, _⟩
  · simp [Builtin.append_, run_underlying ht, sizeOf, typeInfo, hi, Builtin.lenOf, Builtin.firstCells]
  · simp [Builtin.append_, run_underlying ht, sizeOf, typeInfo, hi, Builtin.lenOf, Builtin.firstCells, hnc, storeCells]
theorem bytesU_length (l : List UInt8) : (bytesU l).length = l.length := by simp [bytesU]
theorem bytesU_append (a b : List UInt8) : bytesU (a ++ b) = bytesU a ++ bytesU b := by simp [bytesU]
set_option maxRecDepth 100000 in
/-- Bytes that one can read go behind a row that one owns. -/
theorem byte_append {B : Nat} {R : HP} [Loc B R] {w : World} (hB : B ≤ w.heap.size) {v : Value} {xs ys : List UInt8} {A : Option Addr} {c : Nat} (h : Own B (Rw 5 1 v xs.length (bytesU xs) * R) w) (hr : Rd w (.slice A ys.length c) (bytesU ys))
    (hn : xs.length + ys.length ≤ 140737488355328) :
    ∃ v' w', (Builtin.append_ #[32, 32] 32 #[v, .slice A ys.length c]).run Tryd.prog w = .ok v' w' ∧ Own B (Rw 5 1 v' (xs ++ ys).length (bytesU (xs ++ ys)) * R) w' ∧ Below B w w' := by
  obtain ⟨i0, hi, hz0, hz1, hz2⟩ := info_parts infoU8
  obtain ⟨A', c', hv, hrd⟩ := hr
  injection hv with e1 e2 e3
  subst e1; subst e3
  cases A with
  | none =>
    obtain rfl : ys = [] := by
      cases ys with
      | nil => rfl
      | cons y ys =>
        obtain ⟨ad, h1, _⟩ := hrd (by simp [bytesU])
        cases h1
    refine ⟨v, w, run_append_none (P := Tryd.prog) B 32 32 5 i0 1 Tryd.underlying32 hi v xs.length (bytesU xs) h.row c, by simpa using h, Below.refl B w⟩
  | some ad =>
    obtain ⟨v', w', hr, h2, h3, _, h5⟩ := run_append_own_at (P := Tryd.prog) w B 32 32 5 i0 _ 1 1 Tryd.underlying32 hi hz0 hz1 hz2 rfl (by omega) v xs.length (bytesU xs) h.row
      ad ys.length c (bytesU ys) (by rw [bytesU_length]; omega) (by
        intro j x hj
        have hne : bytesU ys ≠ [] := by intro e; rw [e] at hj; simp at hj
        obtain ⟨ad', h1, h2⟩ := hrd hne
        injection h1 with h1
        subst h1
        exact h2 j x hj) (by intro x hx; obtain ⟨y, _, rfl⟩ := List.mem_map.1 hx; rfl) (by unfold maxLen; omega) (by omega) hB
    have h6 := Own.appended hB h h2 h3 h5
    refine ⟨v', w', hr, ?_, h6.2⟩
    have := h6.1
    rw [List.length_append, bytesU_append]
    exact this
/-- A part of bytes that one can read. -/
theorem Rd.part {w : World} {A : Option Addr} {n c : Nat} {xs : List Value} (h : Rd w (.slice A n c) xs) (i m c' : Nat) (ys : List Value) (hy : ys = (xs.drop i).take m) (hm : ys.length = m) : Rd w (.slice (A.map (·.add i)) m c') ys := by
  obtain ⟨A', c1, hv, hrd⟩ := h
  injection hv with e1 e2 e3
  subst e1
  refine ⟨_, c', by rw [hm], fun hne => ?_⟩
  have hx : xs ≠ [] := by intro e; subst e; simp at hy; exact hne hy
  obtain ⟨ad, rfl, hc⟩ := hrd hx
  refine ⟨ad.add i, rfl, fun j u hj => ?_⟩
  rw [hy, List.getElem?_take] at hj
  split at hj
  · rw [List.getElem?_drop] at hj
    have := hc _ _ hj
    rw [Addr.add_add]
    exact this
  · cases hj
/-- What a call leaves that returns bytes of its own. -/
def RetB (w : World) (l : List UInt8) (e : Ending) (w' : World) : Prop := ∃ v, e = .returned v ∧ w'.ownsRow w.heap.size 5 1 v l.length (bytesU l) ∧ Below w.heap.size w w'
theorem RetB.mk {w w' : World} {l l' : List UInt8} {e : Ending} {v v' : Value} {B : Nat} {R : HP} (he : e = .returned v) (hv : v = v') (hl : l' = l) (hB : B = w.heap.size) (ho : Own B (Rw 5 1 v' l'.length (bytesU l') * R) w') (hb : Below w.heap.size w w') : RetB w l e w' := by
  subst hv; subst hl; subst hB; exact ⟨_, he, ho.row, hb⟩
theorem u8_cast (c : UInt8) : (c.toNat : Int) % 256 = c.toNat := by have := c.toNat_lt; omega
theorem byte_snoc {B : Nat} {R : HP} [Loc B R] {w : World} (hB : B ≤ w.heap.size) {v : Value} {xs : List UInt8} (h : Own B (Rw 5 1 v xs.length (bytesU xs) * R) w) (c : UInt8) (n : Int) (hn : n = (c.toNat : Int)) (hl : xs.length ≤ 140737488355327) :
    ∃ g cap w', (Builtin.append_ #[32, 32] 32 #[v, .slice (some ⟨w.heap.size, 0, none⟩) 1 1]).run Tryd.prog (w.alloc (.cells #[.int .u8 n] 5)) = .ok (.slice (some ⟨g, 0, none⟩) (xs ++ [c]).length cap) w' ∧
      Own B (Rw 5 1 (.slice (some ⟨g, 0, none⟩) (xs ++ [c]).length cap) (xs ++ [c]).length (bytesU (xs ++ [c])) * R) w' ∧ Below B w w' := by
  subst hn
  have h1 := h.alloc_keep hB (.cells #[.int .u8 (c.toNat : Int)] 5)
  have hB1 : B ≤ (w.alloc (.cells #[.int .u8 (c.toNat : Int)] 5)).heap.size := by simp; omega
  obtain ⟨v', w', hr, h2, h3⟩ := byte_append (A := some ⟨w.heap.size, 0, none⟩) (c := 1) (ys := [c]) hB1 h1
    ⟨_, 1, rfl, fun _ => ⟨_, rfl, fun j u hj => by
      match j, hj with
      | 0, hj => simp [bytesU] at hj; subst hj; simp [Addr.add]⟩⟩ (by simp; omega)
  obtain ⟨g, cap, rfl, _⟩ := h2.row.form (by simp)
  exact ⟨g, cap, w', hr, h2, ((Below.refl B w).alloc hB _).trans h3⟩

set_option maxRecDepth 100000 in
theorem clone_any (v : Value) (l : List UInt8) (w : World) (hr : Rd w v (bytesU l)) (hl : l.length ≤ 140737488355328) :
    Calls Tryd.prog 37 #[v] w (RetB w l) := by
  obtain ⟨i0, hi, hz0, hz1, hz2⟩ := info_parts infoU8
  obtain ⟨A, c, rfl, hr⟩ := hr
  have hlen : (bytesU l).length = l.length := by simp [bytesU]
  rcases A with _ | ad
  · obtain rfl : l = [] := by
      cases l with
      | nil => rfl
      | cons x l => obtain ⟨ad, h, _⟩ := hr (by simp [bytesU]); cases h
    have he := fun W : World => Lib.run_eql_slice_nil_nil (P := Tryd.prog) W (t := 32) (e := 5) 0 c Tryd.underlying32
    show Calls _ _ #[.slice none 0 c] _ _
    go_enter Tryd.func37, Tryd.ntmps37
    go_wp2
    go_ret
    exact ⟨.slice none 0 0, rfl, World.ownsRow_nil _ _ _ _, Below.refl _ _⟩
  · have hc : ∀ j u, (bytesU l)[j]? = some u → w.cell? (ad.add j) = some u := by
      intro j u hu
      obtain ⟨ad', h, hcc⟩ := hr (by intro e; rw [e] at hu; cases hu)
      injection h with h
      subst h
      exact hcc j u hu
    clear hr
    obtain ⟨v', w', hrun, ho, hg, _, hat⟩ := run_append_own_at (P := Tryd.prog) (w.alloc (.cells #[] 5)) w.heap.size 32 32 5 i0 _ 1 1 Tryd.underlying32 hi hz0 hz1 hz2 rfl (by omega)
      (.slice (some ⟨w.heap.size, 0, none⟩) 0 0) 0 [] ⟨rfl, .inr ⟨w.heap.size, 0, #[], rfl, Nat.le_refl _, heap_alloc_new w _, Nat.le_refl _, by unfold maxLen; omega, rfl, rfl⟩⟩ ad l.length c (bytesU l) (by rw [hlen]; omega)
      (fun j u hu => by
        have h1 := hc j u hu
        rw [World.cell?_alloc_lt _ _ _ (World.block_lt_of_cell? w _ h1)]
        exact h1)
      (by intro u hu; obtain ⟨x, _, rfl⟩ := List.mem_map.1 hu; rfl) (by unfold maxLen; omega) (by omega) (by simp)
    have hbe : Below w.heap.size w w' := ((Below.refl _ w).alloc (Nat.le_refl _) _).grown hg (by simp) (fun k hk => by simp [Value.ownBlock] at hk; omega)
    rw [List.nil_append, Nat.zero_add] at ho
    clear hc
    have he := fun W : World => Lib.run_eql_slice_some_nil (P := Tryd.prog) W (t := 32) (e := 5) ad (bytesU l).length c Tryd.underlying32
    rw [hlen] at he ⊢
    go_enter Tryd.func37, Tryd.ntmps37
    go_wp2_with (at_builtin; refine wpList_append_run rfl (.tmp 5) (.tmp 6) 32 rfl rfl rfl hrun ?_)
    go_ret
    exact ⟨v', rfl, ho, hbe⟩
end Go.Proofs.YtmppagiaonbggaaDoor

/- Package entry: the walks over the entries of files, and over their paths. -/
namespace Go.Proofs.YtmppagiaonbggaaDoor
set_option linter.unusedVariables false
set_option linter.unusedSimpArgs false
set_option maxRecDepth 100000
open Go.RowKit

/-- A file. -/
structure Fi where
  path : List UInt8
  kind : Int
  mode : Int
  time : Int
  data : List UInt8
  tgt : List UInt8
deriving DecidableEq
instance : Inhabited Fi := ⟨⟨[], 0, 0, 0, [], []⟩⟩
/-- A file with the slice that its data lie in. -/
def fiL (x : Fi × Value) : List Value := [.string (str x.1.path), .int .i64 x.1.kind, .int .i64 x.1.mode, .int .i64 x.1.time, x.2, .string (str x.1.tgt)]
/-- Files, as they lie. -/
def RdF (w : World) (A : Option Addr) (l : List (Fi × Value)) : Prop := RdA 6 fiL w A l ∧ ∀ x ∈ l, Rd w x.2 (bytesU x.1.data)
theorem RdF.below {w w' : World} {A : Option Addr} {l : List (Fi × Value)} (h : RdF w A l) (hb : Below w.heap.size w w') : RdF w' A l := ⟨h.1.below hb, fun x hx => (h.2 x hx).below hb⟩
theorem RdF.get {w : World} {A : Option Addr} {l : List (Fi × Value)} (h : RdF w A l) (i : Nat) (hi : i < l.length) : ∃ (Ad : Option Addr) (cd : Nat), l[i].2 = .slice Ad l[i].1.data.length cd := by
  obtain ⟨Ad, cd, hv, _⟩ := h.2 _ (List.getElem_mem hi)
  exact ⟨Ad, cd, by rw [hv]; simp [bytesU]⟩

/-- The entries of files, from a place on. -/
def entsFrom : Int → List Fi → List En
  | _, [] => []
  | at_, f :: l => ⟨f.path, f.kind, f.mode, f.time, f.tgt, at_, f.data.length⟩ :: entsFrom (at_ + f.data.length) l
def ents (l : List Fi) : List En := entsFrom 0 l
def dataLen (l : List Fi) : Nat := (l.map fun f => f.data.length).sum
theorem entsFrom_length : ∀ (a : Int) (l : List Fi), (entsFrom a l).length = l.length
  | _, [] => rfl
  | a, f :: l => by simp [entsFrom, entsFrom_length]
theorem entsFrom_snoc : ∀ (a : Int) (l : List Fi) (f : Fi), entsFrom a (l ++ [f]) = entsFrom a l ++ [⟨f.path, f.kind, f.mode, f.time, f.tgt, a + (dataLen l : Int), f.data.length⟩]
  | a, [], f => by simp [entsFrom, dataLen]
  | a, g :: l, f => by
    rw [List.cons_append]
    unfold entsFrom
    rw [entsFrom_snoc, List.cons_append]
    congr 4
    unfold dataLen
    simp
    omega
theorem dataLen_snoc (l : List Fi) (f : Fi) : dataLen (l ++ [f]) = dataLen l + f.data.length := by simp [dataLen]
theorem dataLen_take (l : List Fi) (i : Nat) : dataLen (l.take i) ≤ dataLen l := by
  have : dataLen l = dataLen (l.take i) + dataLen (l.drop i) := by
    conv => lhs; rw [← List.take_append_drop i l]
    unfold dataLen
    rw [List.map_append, List.sum_append]
  omega

theorem infoEn : (Tryd.prog.info? 71).map (fun i => (i.zero, i.size, i.bytes)) = some (some (.agg #[.string ByteArray.empty, .int .i64 0, .int .i64 0, .int .i64 0, .string ByteArray.empty, .int .i64 0, .int .i64 0]), 7, 72) := by kernel_rfl

set_option maxRecDepth 100000 in
set_option maxHeartbeats 3200000 in
theorem entries_any (A : Option Addr) (c : Nat) (l : List (Fi × Value)) (hl : l.length ≤ 4294967296) (hs : dataLen (l.map (·.1)) ≤ 4294967296) (w : World) (hr : RdF w A l) :
    Calls Tryd.prog 33 #[.slice A l.length c] w (RetA 7 enL w (ents (l.map (·.1)))) := by
  obtain ⟨i0, hi, hz0, hz1, hz2⟩ := info_parts infoEn
  have Hi0 := Lib.hid (And.intro hi (And.intro hz0 (And.intro hz1 hz2)))
  have hO := (Own.start w.heap.size w).rw_nil 71 7
  have hb := Below.refl w.heap.size w
  have Hr := Lib.hid (fun w1 (b : Below w.heap.size w w1) => hr.below b)
  have Hd := Lib.hid (fun i => dataLen_take (l.map (·.1)) i)
  have Hs := Lib.hid hs
  have n1 : (l.length : Int) ≤ 4294967296 := by omega
  clear hr hi hz0 hz1 hz2 hs
  go_enter Tryd.func33, Tryd.ntmps33
  go_wp2
  go_loopg [3, 4, 9] l.length (fun k v a u wr => ∃ (i : Nat) (A' : Option Addr) (c' : Nat), k + i = l.length ∧ u = .int .i64 i ∧ a = .int .i64 (dataLen ((l.take i).map (·.1)) : Int) ∧ v = .slice A' i c' ∧ Below w.heap.size w wr ∧ Own w.heap.size (Rw 71 7 (.slice A' i c') i (flat enL (ents ((l.take i).map (·.1)))) * Emp) wr)
  case atStart => exact ⟨0, none, 0, by omega, rfl, rfl, rfl, hb, hO⟩
  case round =>
    clear hb hO
    obtain ⟨i, A', c', hk, rfl, rfl, rfl, hb, ho⟩ := hrel
    by_cases hlt : (i : Int) < (l.length : Int)
    · obtain ⟨j, rfl⟩ : ∃ j, gk = j + 1 := ⟨gk - 1, by omega⟩
      have hil : i < l.length := by omega
      have i0' : (0 : Int) ≤ (i : Int) := by omega
      obtain ⟨b, off, rfl, q, d⟩ := (Hr.out _ hb).1 i hil
      obtain ⟨Ad, cd, hdv⟩ := (Hr.out _ hb).get i hil
      have Hk := Lib.hid hk
      have htk : (l.take (i + 1)).map (·.1) = (l.take i).map (·.1) ++ [l[i].1] := by rw [List.take_succ_eq_append_getElem hil, List.map_append]; rfl
      have hsn : ents ((l.take (i + 1)).map (·.1)) = ents ((l.take i).map (·.1)) ++ [⟨l[i].1.path, l[i].1.kind, l[i].1.mode, l[i].1.time, l[i].1.tgt, (dataLen ((l.take i).map (·.1)) : Int), l[i].1.data.length⟩] := by
        rw [htk]; unfold ents; rw [entsFrom_snoc, Int.zero_add]
      have hdl : dataLen ((l.take (i + 1)).map (·.1)) = dataLen ((l.take i).map (·.1)) + l[i].1.data.length := by rw [htk, dataLen_snoc]
      have hle := Hd.out (i + 1)
      rw [← List.map_take, hdl] at hle
      have hle := Nat.le_trans hle Hs.out
      generalize dataLen ((l.take i).map (·.1)) = D at *
      have Hsn := Lib.hid hsn
      have Hdl := Lib.hid hdl
      clear htk hsn hdl hk
      generalize ents ((l.take i).map (·.1)) = E at *
      generalize l[i] = x at *
      obtain ⟨⟨path, kind, mode, time, data, tgt⟩, dv⟩ := x
      simp only at hdv hle Hsn Hdl
      subst hdv
      generalize data.length = dn at *
      have d0 := d 0 _ rfl
      have d1 := d 1 _ rfl
      have d2 := d 2 _ rfl
      have d3 := d 3 _ rfl
      have d4 := d 4 _ rfl
      have d5 := d 5 _ rfl
      simp only [Nat.add_zero] at d0 d1 d2 d3 d4 d5
      clear d
      have D0 : (D : Int) ≤ 4294967296 := by omega
      have D1 : (dn : Int) ≤ 4294967296 := by omega
      have o1 := (ho.new hb.size 57 #[.string (str path), .int .i64 kind, .int .i64 mode, .int .i64 time, .slice Ad dn cd, .string (str tgt)]).cast (sep_left_comm _ _ _)
      have hb1 := hb.alloc hb.size (.cells #[.string (str path), .int .i64 kind, .int .i64 mode, .int .i64 time, .slice Ad dn cd, .string (str tgt)] 57)
      obtain ⟨g2, cap2, w2, hrun, o2, b2⟩ := row_append (P := Tryd.prog) hb1.size Tryd.underlying39 Hi0.out.1 Hi0.out.2.1 Hi0.out.2.2.1 Hi0.out.2.2.2 rfl (by omega) o1 #[.string (str path), .int .i64 kind, .int .i64 mode, .int .i64 time, .string (str tgt), .int .i64 D, .int .i64 dn] rfl
        (by intro u hu; simp at hu; rcases hu with rfl | rfl | rfl | rfl | rfl | rfl | rfl <;> rfl) (by omega) (by omega)
      rw [World.size_alloc] at hrun
      have Hrun := Lib.hid hrun
      have hb2 := hb1.trans b2
      have k4 : w2.cell? ⟨wr.heap.size, 4, none⟩ = some (.slice Ad dn cd) := (o2.cast (sep_left_comm _ _ _)).cell 4
      have o3 := (o2.cast (sep_left_comm _ _ _)).drop
      clear hrun o1 hb1 hb ho b2 o2
      go_wp2_with (at_builtin; refine wpList_append_at rfl (.tmp 13) (.tmp 29) 39 rfl rfl rfl Hrun.out ?_)
      go_roundg j
      case measure => omega
      case rel => exact ⟨i + 1, some ⟨g2, 0, none⟩, cap2, by have := Hk.out; omega, rfl, congrArg (Value.int .i64) (by rw [Hdl.out]; omega), rfl, hb2, by rw [Hsn.out, flat_snoc]; exact o3⟩
    · obtain rfl : i = l.length := by omega
      rw [List.take_length] at ho
      go_wp2
      go_ret
      exact RetA.mk rfl (by unfold ents; rw [entsFrom_length]; simp) ho.cap (ho.rdA enL_len (by unfold ents; rw [entsFrom_length]; simp)) hb
end Go.Proofs.YtmppagiaonbggaaDoor

/- Package entry: the walks over paths, and over what is amiss with entries. -/
namespace Go.Proofs.YtmppagiaonbggaaDoor
set_option linter.unusedVariables false
set_option linter.unusedSimpArgs false
set_option maxRecDepth 100000
open Go.RowKit

def strL (x : List UInt8) : List Value := [.string (str x)]
theorem strL_len (x : List UInt8) : (strL x).length = 1 := rfl
theorem rds_of_rdA {w : World} {A : Option Addr} {l : List (List UInt8)} (h : RdA 1 strL w A l) : RdS w A l := fun i hi => by
  obtain ⟨b, off, ha, _, hc⟩ := h i hi
  refine ⟨b, off, ha, ?_⟩
  have := hc 0 _ rfl
  rwa [Nat.mul_one, Nat.add_zero] at this
theorem flat_strL (l : List (List UInt8)) : flat strL l = strsV l := by
  induction l with
  | nil => rfl
  | cons a l ih => show strL a ++ flat strL l = _; rw [ih]; rfl
theorem RdA.cells7 {w : World} {b off : Nat} {i : Nat} {e : En} (d : ∀ j u, (enL e)[j]? = some u → w.cell? ⟨b, off + i * 7 + j, none⟩ = some u) :
    w.cell? ⟨b, off + i * 7, none⟩ = some (.string (str e.path)) ∧ w.cell? ⟨b, off + i * 7 + 1, none⟩ = some (.int .i64 e.kind) ∧ w.cell? ⟨b, off + i * 7 + 2, none⟩ = some (.int .i64 e.mode) ∧ w.cell? ⟨b, off + i * 7 + 3, none⟩ = some (.int .i64 e.time) ∧
    w.cell? ⟨b, off + i * 7 + 4, none⟩ = some (.string (str e.tgt)) ∧ w.cell? ⟨b, off + i * 7 + 5, none⟩ = some (.int .i64 e.beg) ∧ w.cell? ⟨b, off + i * 7 + 6, none⟩ = some (.int .i64 e.size) :=
  ⟨d 0 _ rfl, d 1 _ rfl, d 2 _ rfl, d 3 _ rfl, d 4 _ rfl, d 5 _ rfl, d 6 _ rfl⟩

set_option maxRecDepth 100000 in
set_option maxHeartbeats 3200000 in
theorem paths_any (A : Option Addr) (c : Nat) (l : List En) (hl : l.length ≤ 4294967296) (w : World) (hr : RdA 7 enL w A l) :
    Calls Tryd.prog 54 #[.slice A l.length c] w (RetA 1 strL w (l.map (·.path))) := by
  obtain ⟨i0, hi, hz0, hz1, hz2⟩ := info_parts infoStr
  have Hi0 := Lib.hid (And.intro hi (And.intro hz0 (And.intro hz1 hz2)))
  have hO := (Own.start w.heap.size w).rw_nil 9 1
  have hb := Below.refl w.heap.size w
  have Hr := Lib.hid (fun w1 (b : Below w.heap.size w w1) => hr.below b)
  have n1 : (l.length : Int) ≤ 4294967296 := by omega
  clear hr hi hz0 hz1 hz2
  go_enter Tryd.func54, Tryd.ntmps54
  go_wp2
  go_loopg [3, 8] l.length (fun k v u wr => ∃ (i : Nat) (A' : Option Addr) (c' : Nat), k + i = l.length ∧ u = .int .i64 i ∧ v = .slice A' i c' ∧ Below w.heap.size w wr ∧ Own w.heap.size (Rw 9 1 (.slice A' i c') i (flat strL ((l.take i).map (·.path))) * Emp) wr)
  case atStart => exact ⟨0, none, 0, by omega, rfl, rfl, hb, hO⟩
  case round =>
    clear hb hO
    obtain ⟨i, A', c', hk, rfl, rfl, hb, ho⟩ := hrel
    by_cases hlt : (i : Int) < (l.length : Int)
    · obtain ⟨j, rfl⟩ : ∃ j, gk = j + 1 := ⟨gk - 1, by omega⟩
      have hil : i < l.length := by omega
      have i0' : (0 : Int) ≤ (i : Int) := by omega
      obtain ⟨b, off, rfl, q, d⟩ := Hr.out _ hb i hil
      have Hk := Lib.hid hk
      have Hsn : Hid ((l.take (i + 1)).map (·.path) = (l.take i).map (·.path) ++ [l[i].path]) := Lib.hid (by rw [List.take_succ_eq_append_getElem hil, List.map_append]; rfl)
      clear hk
      generalize (l.take i).map (·.path) = E at *
      generalize l[i] = x at *
      obtain ⟨path, kind, mode, time, tgt, beg, size⟩ := x
      obtain ⟨d0, d1, d2, d3, d4, d5, d6⟩ := RdA.cells7 d
      simp only at d0 d1 d2 d3 d4 d5 d6 Hsn
      clear d
      have o1 := ho.alloc_keep hb.size (.cells #[.string (str path), .int .i64 kind, .int .i64 mode, .int .i64 time, .string (str tgt), .int .i64 beg, .int .i64 size] 71)
      have hb1 := hb.alloc hb.size (.cells #[.string (str path), .int .i64 kind, .int .i64 mode, .int .i64 time, .string (str tgt), .int .i64 beg, .int .i64 size] 71)
      obtain ⟨g2, cap2, w2, hrun, o2, b2⟩ := row_append (P := Tryd.prog) hb1.size Tryd.underlying83 Hi0.out.1 Hi0.out.2.1 Hi0.out.2.2.1 Hi0.out.2.2.2 rfl (by omega) o1 #[.string (str path)] rfl
        (by intro u hu; simp at hu; rcases hu with rfl; rfl) (by omega) (by omega)
      rw [World.size_alloc] at hrun
      have Hrun := Lib.hid hrun
      have hb2 := hb1.trans b2
      clear hrun o1 hb1 hb ho b2
      go_wp2_with (at_builtin; refine wpList_append_at rfl (.tmp 12) (.tmp 15) 83 rfl rfl rfl Hrun.out ?_)
      go_roundg j
      case measure => omega
      case rel => exact ⟨i + 1, some ⟨g2, 0, none⟩, cap2, by have := Hk.out; omega, rfl, rfl, hb2, by rw [Hsn.out, flat_snoc]; exact o2⟩
    · obtain rfl : i = l.length := by omega
      rw [List.take_length] at ho
      go_wp2
      go_ret
      exact RetA.mk rfl (by simp) ho.cap (ho.rdA strL_len (by simp)) hb

theorem allB_list {α : Type} [Inhabited α] (q : α → Bool) (l : List α) (d : α) : allB (fun i => q (l.getD i d)) l.length = l.all q := by
  rw [Bool.eq_iff_iff, allB_true, List.all_eq_true]
  constructor
  · intro h x hx
    obtain ⟨i, hi, rfl⟩ := List.mem_iff_getElem.1 hx
    have := h i hi
    simpa [hi] using this
  · intro h i hi
    have := h l[i] (List.getElem_mem hi)
    simpa [hi] using this

set_option maxHeartbeats 1600000 in
theorem allstr_any (A : Option Addr) (c : Nat) (l : List (List UInt8)) (hl : l.length ≤ 9223372036854775807) (hx : ∀ x ∈ l, x.length ≤ 9223372036854775807) (w : World) (h : Sh w) (hr : RdS w A l) :
    Calls Tryd.prog 53 #[.slice A l.length c, .func (.func 55) #[] #[]] w fun e w' => e = .returned (.bool (l.all okPath)) ∧ Below w.heap.size w w' := by
  have hb := Below.refl w.heap.size w
  have Hh := Lib.hid (fun w1 (b : Below w.heap.size w w1) => sh_below h b)
  have Hr := Lib.hid (fun w1 (b : Below w.heap.size w w1) => hr.below b)
  have Hx := Lib.hid hx
  have n1 : (l.length : Int) ≤ 9223372036854775807 := by omega
  clear h hr hx
  go_enter Tryd.func53, Tryd.ntmps53
  go_wp2
  go_loopg [9] l.length (fun k v wr => ∃ i : Nat, k + i = l.length ∧ v = .int .i64 i ∧ Below w.heap.size w wr ∧ Hid (∀ j, j < i → okPath (l.getD j []) = true))
  case atStart => exact ⟨0, by omega, rfl, hb, Lib.hid (fun j h => absurd h (Nat.not_lt_zero _))⟩
  case round =>
    clear hb
    obtain ⟨i, hk, rfl, hb, hp⟩ := hrel
    by_cases hlt : (i : Int) < (l.length : Int)
    · obtain ⟨j, rfl⟩ : ∃ j, gk = j + 1 := ⟨gk - 1, by omega⟩
      have hil : i < l.length := by omega
      have i0 : (0 : Int) ≤ (i : Int) := by omega
      obtain ⟨b, off, rfl, q, d⟩ := (Hr.out _ hb).at_ i hil
      have Hk := Lib.hid hk
      have hg : l.getD i [] = l[i] := by simp [hil]
      have R := Lib.hid (fun w1 h1 => right_any (str l[i]) (by have := Hx.out _ (List.getElem_mem hil); exact this) w1 h1)
      rw [data_str, ← hg] at R
      have hp2 : Hid (okPath (l.getD i []) = true → ∀ j, j < i + 1 → okPath (l.getD j []) = true) := Lib.hid (fun h j hj => by
        by_cases e : j = i
        · subst e; exact h
        · exact hp.out j (by omega))
      have hbad : Hid (okPath (l.getD i []) = false → l.all okPath = false) := Lib.hid (fun h => by rw [← allB_list okPath l []]; exact allB_false hil h)
      clear hk hp
      generalize okPath (l.getD i []) = y at *
      rw [hg] at *
      generalize l[i] = x at *
      clear hg
      go_wp2_with fail
      refine (R.out _ (Hh.out _ hb)).mono ?_
      rintro e wz ⟨rfl, b⟩
      replace hb := hb.trans (b.mono hb.size)
      clear b
      cases y with
      | true =>
        go_wp2
        go_roundg j
        case measure => omega
        case rel => exact ⟨i + 1, by have := Hk.out; omega, rfl, hb, Lib.hid (hp2.out (by trivial))⟩
      | false =>
        go_wp2
        go_ret
        exact ⟨by rw [hbad.out (by trivial)]; rfl, hb⟩
    · have hall : Hid (l.all okPath = true) := Lib.hid (by rw [← allB_list okPath l []]; exact allB_true.2 (fun j hj => hp.out j (by omega)))
      go_wp2
      go_ret
      exact ⟨by rw [hall.out]; rfl, hb⟩
/-! what is amiss -/
def pairB : List (List UInt8) → Bool
  | [] => true
  | x :: l => (match l with | [] => true | y :: _ => decide (cmpL (psplit x) (psplit y) < 0)) && pairB l
theorem pairB_index : ∀ l : List (List UInt8), pairB l = true ↔ ∀ i (h : i + 1 < l.length), cmpL (psplit (l[i]'(by omega))) (psplit l[i + 1]) < 0
  | [] => by simp [pairB]
  | [x] => by simp [pairB]
  | x :: y :: l => by
    have ih := pairB_index (y :: l)
    unfold pairB
    rw [Bool.and_eq_true, ih, decide_eq_true_eq]
    constructor
    · rintro ⟨h1, h2⟩ i hi
      cases i with
      | zero => exact h1
      | succ i => exact h2 i (by simpa using hi)
    · intro h
      exact ⟨h 0 (by simp), fun i hi => h (i + 1) (by simpa using hi)⟩
def sortedB (l : List (List UInt8)) : Bool := l.all okPath && pairB l
theorem sortedB_iff (l : List (List UInt8)) : sortedB l = true ↔ SortedP l := by
  unfold sortedB SortedP
  rw [Bool.and_eq_true, List.all_eq_true, pairB_index]
  constructor
  · rintro ⟨h1, h2⟩ i hi
    refine ⟨h1 _ (List.getElem_mem hi), fun h0 => ?_⟩
    obtain ⟨j, rfl⟩ : ∃ j, i = j + 1 := ⟨i - 1, by omega⟩
    exact h2 j hi
  · intro h
    refine ⟨fun x hx => ?_, fun i hi => (h (i + 1) hi).2 (by omega)⟩
    obtain ⟨i, hi, rfl⟩ := List.mem_iff_getElem.1 hx
    exact (h i hi).1
def capA (a s : Int) : Int := min (a + min (max s 0) 4194305) 4194305
def sumC (l : List En) : Int := l.foldl (fun a e => capA a e.size) 0
def whyE (l : List En) : Int :=
  if (l.map (·.path)).all okPath = false then 9
  else if sortedB (l.map (·.path)) = false then 10
  else if 1024 < l.length ∨ 4194304 < sumC l ∨ l.all (fun e => decide (e.size ≤ 1048576)) = false then 7
  else if l.all plainB = false then 1
  else 0
end Go.Proofs.YtmppagiaonbggaaDoor
