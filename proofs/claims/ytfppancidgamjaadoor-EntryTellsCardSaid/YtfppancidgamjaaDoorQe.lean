/- Plain laws on the order of lists, and on a text cut at each slash and joined again. -/
import Derived.Test.YtfppancidgamjaaDoorQ1
import GoSem.Op.String
namespace Go.Proofs.YtfppancidgamjaaDoor
set_option linter.unusedVariables false
set_option linter.unusedSimpArgs false

/-- The order of two lists, by the order of what they hold. -/
def lexC {α : Type} (c : α → α → Int) : List α → List α → Int
  | [], [] => 0
  | [], _ :: _ => -1
  | _ :: _, [] => 1
  | x :: xs, y :: ys => if c x y = 0 then lexC c xs ys else c x y

structure Cmp {α : Type} (c : α → α → Int) : Prop where
  zero : ∀ x y, c x y = 0 ↔ x = y
  neg : ∀ x y, c y x = - c x y
  trans : ∀ x y z, c x y < 0 → c y z < 0 → c x z < 0

theorem lexC_zero {α : Type} {c : α → α → Int} (h : Cmp c) : ∀ a b, lexC c a b = 0 ↔ a = b
  | [], [] => by simp [lexC]
  | [], _ :: _ => by simp [lexC]
  | _ :: _, [] => by simp [lexC]
  | x :: xs, y :: ys => by
    unfold lexC
    have ih := lexC_zero h xs ys
    by_cases hc : c x y = 0
    · rw [if_pos hc, ih, (h.zero x y).1 hc]; simp
    · rw [if_neg hc]
      have : x ≠ y := fun e => hc ((h.zero x y).2 e)
      simp [hc, this]
theorem lexC_neg {α : Type} {c : α → α → Int} (h : Cmp c) : ∀ a b, lexC c b a = - lexC c a b
  | [], [] => by simp [lexC]
  | [], _ :: _ => by simp [lexC]
  | _ :: _, [] => by simp [lexC]
  | x :: xs, y :: ys => by
    unfold lexC
    have ih := lexC_neg h xs ys
    have hn := h.neg x y
    by_cases hc : c x y = 0
    · rw [if_pos hc, if_pos (by omega), ih]
    · rw [if_neg hc, if_neg (by omega), hn]
theorem lexC_trans {α : Type} {c : α → α → Int} (h : Cmp c) : ∀ a b d, lexC c a b < 0 → lexC c b d < 0 → lexC c a d < 0
  | [], [], _ => by simp [lexC]
  | [], _ :: _, [] => by simp [lexC]
  | [], _ :: _, _ :: _ => by simp [lexC]
  | _ :: _, [], _ => by simp [lexC]
  | _ :: _, _ :: _, [] => by simp [lexC]
  | x :: xs, y :: ys, z :: zs => by
    unfold lexC
    have ih := lexC_trans h xs ys zs
    by_cases h1 : c x y = 0
    · obtain rfl := (h.zero x y).1 h1
      rw [if_pos h1]
      by_cases h2 : c x z = 0
      · rw [if_pos h2, if_pos h2]; exact ih
      · rw [if_neg h2, if_neg h2]; exact fun _ h => h
    · rw [if_neg h1]
      by_cases h2 : c y z = 0
      · obtain rfl := (h.zero y z).1 h2
        rw [if_neg h1]; exact fun h _ => h
      · rw [if_neg h2]
        intro a b
        have := h.trans x y z a b
        rw [if_neg (by omega)]
        exact this
theorem lexC_cmp {α : Type} {c : α → α → Int} (h : Cmp c) : Cmp (lexC c) := ⟨lexC_zero h, lexC_neg h, lexC_trans h⟩
theorem Cmp.le_trans {α : Type} {c : α → α → Int} (h : Cmp c) {x y z : α} (a : c x y ≤ 0) (b : c y z ≤ 0) : c x z ≤ 0 := by
  by_cases h1 : c x y = 0
  · obtain rfl := (h.zero _ _).1 h1; exact b
  · by_cases h2 : c y z = 0
    · obtain rfl := (h.zero _ _).1 h2; exact a
    · have := h.trans x y z (by omega) (by omega); omega
theorem lexC_prefix {α : Type} {c : α → α → Int} (h : Cmp c) : ∀ (p t : List α), lexC c p (p ++ t) ≤ 0 ∧ (t ≠ [] → lexC c p (p ++ t) < 0)
  | [], [] => by simp [lexC]
  | [], _ :: _ => by simp [lexC]
  | x :: xs, t => by
    have ih := lexC_prefix h xs t
    rw [List.cons_append]
    unfold lexC
    rw [if_pos ((h.zero x x).2 rfl)]
    exact ih
theorem lexC_between {α : Type} {c : α → α → Int} (h : Cmp c) : ∀ (p x y z : List α), p <+: x → p <+: z → lexC c x y ≤ 0 → lexC c y z ≤ 0 → p <+: y
  | [], _, _, _, _, _, _, _ => List.nil_prefix
  | a :: p, x, y, z, ⟨t, ht⟩, ⟨s, hs⟩, h1, h2 => by
    subst ht; subst hs
    rw [List.cons_append] at h1 h2
    cases y with
    | nil => simp [lexC] at h1
    | cons b y =>
      unfold lexC at h1 h2
      have hn := h.neg a b
      have h0 : c a b = 0 := by
        by_cases e : c a b = 0
        · exact e
        · rw [if_neg e] at h1
          rw [if_neg (by omega)] at h2
          omega
      rw [if_pos h0] at h1
      rw [if_pos (by omega)] at h2
      obtain rfl := (h.zero _ _).1 h0
      obtain ⟨r, hr⟩ := lexC_between h p (p ++ t) y (p ++ s) ⟨t, rfl⟩ ⟨s, rfl⟩ h1 h2
      exact ⟨r, by rw [← hr]; rfl⟩

def cmpB (x y : UInt8) : Int := (if x < y then -1 else if x = y then 0 else 1)
theorem cmpB_cmp : Cmp cmpB := by
  refine ⟨fun x y => ?_, fun x y => ?_, fun x y z => ?_⟩
  · unfold cmpB
    simp only [UInt8.lt_iff_toNat_lt, ← UInt8.toNat_inj]
    by_cases h : x.toNat < y.toNat <;> by_cases h2 : x.toNat = y.toNat <;> simp [h, h2]
  · unfold cmpB
    simp only [UInt8.lt_iff_toNat_lt, ← UInt8.toNat_inj]
    by_cases h : x.toNat < y.toNat
    · rw [if_neg (by omega), if_neg (by omega), if_pos h]; rfl
    · by_cases h2 : x.toNat = y.toNat
      · rw [if_neg (by omega), if_pos h2.symm, if_neg h, if_pos h2]; rfl
      · rw [if_pos (by omega), if_neg h, if_neg h2]
  · unfold cmpB
    simp only [UInt8.lt_iff_toNat_lt, ← UInt8.toNat_inj]
    intro h1 h2
    have a : x.toNat < y.toNat := by
      by_cases h : x.toNat < y.toNat
      · exact h
      · rw [if_neg h] at h1; split at h1 <;> omega
    have b : y.toNat < z.toNat := by
      by_cases h : y.toNat < z.toNat
      · exact h
      · rw [if_neg h] at h2; split at h2 <;> omega
    rw [if_pos (by omega)]; decide

theorem bytesLess_lex : ∀ a b : List UInt8, lexC cmpB a b = if Op.bytesLess a b then -1 else if a = b then 0 else 1
  | [], [] => by simp [lexC, Op.bytesLess]
  | [], _ :: _ => by simp [lexC, Op.bytesLess]
  | _ :: _, [] => by simp [lexC, Op.bytesLess]
  | x :: xs, y :: ys => by
    have ih := bytesLess_lex xs ys
    unfold lexC
    rw [ih]
    by_cases hc : cmpB x y = 0
    · obtain rfl := (cmpB_cmp.zero _ _).1 hc
      rw [if_pos hc]
      have : Op.bytesLess (x :: xs) (x :: ys) = Op.bytesLess xs ys := by
        show (decide (x < x) || (x == x && Op.bytesLess xs ys)) = _
        have : ¬ x < x := by simp [UInt8.lt_iff_toNat_lt]
        simp [this]
      rw [this]
      simp
    · rw [if_neg hc]
      have hne : x ≠ y := fun e => hc ((cmpB_cmp.zero _ _).2 e)
      have : Op.bytesLess (x :: xs) (y :: ys) = decide (x < y) := by
        show (decide (x < y) || (x == y && Op.bytesLess xs ys)) = _
        simp [hne]
      rw [this]
      have hl : (x :: xs = y :: ys) = False := by simp [hne]
      unfold cmpB
      simp [hne]

/-! a text cut, and joined -/
def pjoin : List (List UInt8) → List UInt8
  | [] => []
  | p :: ps => match ps with
    | [] => p
    | _ :: _ => p ++ 47 :: pjoin ps
theorem pjoin_cons (p : List UInt8) {ps : List (List UInt8)} (h : ps ≠ []) : pjoin (p :: ps) = p ++ 47 :: pjoin ps := by
  cases ps with
  | nil => exact absurd rfl h
  | cons q qs => rfl
theorem pjoin_append : ∀ {a b : List (List UInt8)}, a ≠ [] → b ≠ [] → pjoin (a ++ b) = pjoin a ++ 47 :: pjoin b
  | [], _, h, _ => absurd rfl h
  | [p], b, _, hb => by rw [List.singleton_append, pjoin_cons p hb]; rfl
  | p :: q :: a, b, _, hb => by
    rw [List.cons_append, pjoin_cons p (by simp), pjoin_append (by simp) hb, pjoin_cons p (by simp)]
    simp
theorem pjoin_psplit : ∀ s, pjoin (psplit s) = s
  | [] => rfl
  | c :: l => by
    have ih := pjoin_psplit l
    by_cases hc : c = 47
    · subst hc
      rw [psplit_slash, pjoin_cons _ (psplit_ne l), ih]; rfl
    · obtain ⟨p, ps, hl⟩ : ∃ p ps, psplit l = p :: ps := by
        cases h : psplit l with
        | nil => exact absurd h (psplit_ne l)
        | cons p ps => exact ⟨p, ps, rfl⟩
      rw [psplit_other hc hl]
      rw [hl] at ih
      cases ps with
      | nil => rw [← ih]; rfl
      | cons q qs =>
        rw [pjoin_cons _ (by simp)] at ih ⊢
        rw [← ih]; rfl
theorem psplit_inj {a b : List UInt8} (h : psplit a = psplit b) : a = b := by rw [← pjoin_psplit a, h, pjoin_psplit]
theorem psplit_join (a b : List UInt8) : psplit (a ++ 47 :: b) = psplit a ++ psplit b := by
  induction a with
  | nil => rw [List.nil_append, psplit_slash]; rfl
  | cons c a ih =>
    rw [List.cons_append]
    by_cases hc : c = 47
    · subst hc
      rw [psplit_slash, psplit_slash, ih]; rfl
    · obtain ⟨p, ps, hl⟩ : ∃ p ps, psplit a = p :: ps := by
        cases h : psplit a with
        | nil => exact absurd h (psplit_ne a)
        | cons p ps => exact ⟨p, ps, rfl⟩
      rw [hl] at ih
      rw [psplit_other hc hl, psplit_other hc ih]; rfl
theorem psplit_free : ∀ s : List UInt8, 47 ∉ s → psplit s = [s]
  | [], _ => rfl
  | c :: l, h => by
    have ih := psplit_free l (fun hm => h (List.mem_cons_of_mem _ hm))
    rw [psplit_other (fun e => h (by rw [e]; exact List.mem_cons_self)) ih]
theorem psplit_one {s : List UInt8} (h : (psplit s).length = 1) : psplit s = [s] := by
  obtain ⟨x, hx⟩ := List.length_eq_one_iff.1 h
  have := pjoin_psplit s
  rw [hx] at this
  rw [hx, show x = s from this]
theorem hasPrefix_psplit (s p : List UInt8) : Lib.hasPrefix (s ++ [47]) (p ++ [47]) = true ↔ psplit p <+: psplit s := by
  unfold Lib.hasPrefix
  rw [List.isPrefixOf_iff_prefix]
  constructor
  · rintro ⟨t, ht⟩
    rcases List.eq_nil_or_concat t with rfl | ⟨t', x, rfl⟩
    · rw [List.append_nil] at ht
      rw [List.append_cancel_right ht]
      exact List.prefix_refl _
    · rw [List.concat_eq_append, ← List.append_assoc] at ht
      have h2 := List.append_inj' ht (by simp)
      have e : s = p ++ 47 :: t' := by rw [← h2.1]; simp
      rw [e, psplit_join]
      exact List.prefix_append _ _
  · rintro ⟨t, ht⟩
    by_cases h : t = []
    · subst h
      rw [List.append_nil] at ht
      rw [psplit_inj ht]
      exact List.prefix_refl _
    · have e : s = p ++ 47 :: pjoin t := by rw [← pjoin_psplit s, ← ht, pjoin_append (psplit_ne p) h, pjoin_psplit]
      rw [e]
      exact ⟨pjoin t ++ [47], by simp⟩
/-- All but the last part. -/
def parent (s : List UInt8) : List UInt8 := pjoin (psplit s).dropLast
theorem lastIdx_some {s : List UInt8} {i : Nat} (hi : s[i]? = some 47) (hn : ∀ j, i < j → s[j]? ≠ some 47) : psplit s = psplit (s.take i) ++ [s.drop (i + 1)] ∧ parent s = s.take i ∧ (psplit s).length ≠ 1 := by
  have e : s = s.take i ++ 47 :: s.drop (i + 1) := by
    have hlt : i < s.length := (List.getElem?_eq_some_iff.1 hi).1
    conv => lhs; rw [← List.take_append_drop i s]
    rw [List.drop_eq_getElem_cons hlt, (List.getElem?_eq_some_iff.1 hi).2]
  have hf : 47 ∉ s.drop (i + 1) := fun hm => by
    obtain ⟨j, hj⟩ := List.mem_iff_getElem?.1 hm
    rw [List.getElem?_drop] at hj
    exact hn _ (by omega) hj
  have h1 : psplit s = psplit (s.take i) ++ [s.drop (i + 1)] := by
    conv => lhs; rw [e]
    rw [psplit_join, psplit_free _ hf]
  refine ⟨h1, ?_, ?_⟩
  · unfold parent; rw [h1, List.dropLast_concat, pjoin_psplit]
  · rw [h1, List.length_append]
    have := psplit_ne (s.take i)
    have := List.length_pos_iff.2 this
    simp; omega
theorem lastIdx_none {s : List UInt8} (hn : ∀ j : Nat, s[j]? ≠ some 47) : psplit s = [s] ∧ parent s = [] := by
  have h1 := psplit_free s (fun hm => by obtain ⟨j, hj⟩ := List.mem_iff_getElem?.1 hm; exact hn j hj)
  exact ⟨h1, by unfold parent; rw [h1]; rfl⟩
theorem pjoin_fold (l : List (List UInt8)) (h : l ≠ []) : l.foldl (fun s p => s ++ 47 :: p) [] = 47 :: pjoin l := by
  have g : ∀ (l : List (List UInt8)) (a : List UInt8), l ≠ [] → l.foldl (fun s p => s ++ 47 :: p) a = a ++ 47 :: pjoin l := by
    intro l
    induction l with
    | nil => intro a h; exact absurd rfl h
    | cons p ps ih =>
      intro a _
      rw [List.foldl_cons]
      by_cases hp : ps = []
      · subst hp; rfl
      · rw [ih _ hp, pjoin_cons p hp]; simp
  exact g l [] h
end Go.Proofs.YtfppancidgamjaaDoor
