/- A text cut at each slash: plain laws. -/
import Derived.Lib.SplitLaws
import Derived.Lib.LastIndexByte
namespace Go.Proofs.YtfppancidgamjaaDoor
set_option linter.unusedVariables false
set_option linter.unusedSimpArgs false

/-- The parts of a text between its slashes. -/
def psplit : List UInt8 → List (List UInt8)
  | [] => [[]]
  | c :: l => if c = 47 then [] :: psplit l else match psplit l with
    | [] => [[c]]
    | p :: ps => (c :: p) :: ps
theorem psplit_ne : ∀ l, psplit l ≠ []
  | [] => by simp [psplit]
  | c :: l => by
    unfold psplit
    split
    · simp
    · split <;> simp
theorem psplit_slash (l : List UInt8) : psplit (47 :: l) = [] :: psplit l := by rw [psplit, if_pos rfl]
theorem psplit_other {c : UInt8} (h : c ≠ 47) {l p : List UInt8} {ps : List (List UInt8)} (hl : psplit l = p :: ps) : psplit (c :: l) = (c :: p) :: ps := by
  rw [psplit, if_neg h, hl]

theorem split_psplit : ∀ s : List UInt8, Lib.splitK [47] 0 (Lib.count s [47]) s = psplit s
  | [] => by rw [Lib.count_one]; rfl
  | b :: l => by
    have ih := split_psplit l
    by_cases hb : b = 47
    · subst hb
      rw [psplit_slash, Lib.count_cons_eq, Nat.add_comm, ← ih]
      have hix : Lib.index ((47 : UInt8) :: l) [47] = 0 := by rw [Lib.index]; simp [List.isPrefixOf]
      conv => lhs; unfold Lib.splitK
      rw [hix]
      rw [if_neg (by decide)]
      rfl
    · have hp : ([47] : List UInt8).isPrefixOf (b :: l) = false := by simp [List.isPrefixOf, Ne.symm hb]
      have hix : Lib.index (b :: l) [47] = if Lib.index l [47] == -1 then -1 else Lib.index l [47] + 1 := by rw [Lib.index, hp]; simp
      rw [Lib.count_cons_ne b 47 l hb]
      cases hk : Lib.count l [47] with
      | zero =>
        rw [hk] at ih
        exact (psplit_other hb ih.symm).symm
      | succ k =>
        rw [hk] at ih
        have hm : Lib.index l [47] ≠ -1 := fun e => by rw [Lib.count_miss e] at hk; cases hk
        have hge := Lib.index_ge l [47]
        obtain ⟨j, hj⟩ : ∃ j : Nat, Lib.index l [47] = j := ⟨(Lib.index l [47]).toNat, by omega⟩
        have hne : ¬ (Lib.index l [47] == -1) = true := fun e => hm (beq_iff_eq.1 e)
        rw [if_neg hne, hj] at hix
        unfold Lib.splitK at ih ⊢
        rw [if_neg hne, hj] at ih
        rw [hix, if_neg (by simp; omega)]
        have e1 : ((j : Int) + 1).toNat = j + 1 := by omega
        have e2 : ((j : Nat) : Int).toNat = j := by omega
        rw [e2] at ih
        rw [e1]
        rw [psplit_other hb ih.symm]
        simp [List.take_succ_cons, List.drop_succ_cons, Nat.add_right_comm]

def str (l : List UInt8) : ByteArray := ⟨l.toArray⟩
theorem str_data (s : ByteArray) : str s.data.toList = s := rfl
theorem data_str (l : List UInt8) : (str l).data.toList = l := rfl
def slash : ByteArray := ⟨#[47]⟩
theorem splitB_psplit (s : ByteArray) : Lib.splitB slash 0 (Lib.countB s slash) s = (psplit s.data.toList).map str := by
  have h := Lib.splitB_data slash 0 (Lib.countB s slash) s
  have h2 : Lib.splitK slash.data.toList 0 (Lib.countB s slash) s.data.toList = psplit s.data.toList := split_psplit _
  rw [h2] at h
  rw [← h, List.map_map]
  have : (str ∘ fun b : ByteArray => b.data.toList) = id := rfl
  rw [this, List.map_id]
theorem countB_psplit (s : ByteArray) : Lib.countB s slash + 1 = (psplit s.data.toList).length := by
  have h := Lib.splitB_all slash (by decide) 0 (Lib.countB s slash) s rfl
  rw [splitB_psplit, List.length_map] at h
  exact h.symm
end Go.Proofs.YtfppancidgamjaaDoor
