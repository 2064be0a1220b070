/- Package entry: what entries are, as they lie; the walks over plain, and over what holds of all. -/
import Derived.Test.YtfppancidgamjaaDoorE0
import Derived.Test.YtfppancidgamjaaDoorQu
import Derived.Deep.LoopGhost
namespace Go.Proofs.YtfppancidgamjaaDoor
set_option linter.unusedVariables false
set_option linter.unusedSimpArgs false
open Go.RowKit

/-- A file, but for its data. -/
structure En where
  path : List UInt8
  kind : Int
  mode : Int
  time : Int
  tgt : List UInt8
  beg : Int
  size : Int
deriving DecidableEq
instance : Inhabited En := ⟨⟨[], 0, 0, 0, [], 0, 0⟩⟩
def enL (e : En) : List Value := [.string (str e.path), .int .i64 e.kind, .int .i64 e.mode, .int .i64 e.time, .string (str e.tgt), .int .i64 e.beg, .int .i64 e.size]
theorem enL_len (e : En) : (enL e).length = 7 := rfl
def okI (n : Int) : Prop := -9223372036854775808 ≤ n ∧ n ≤ 9223372036854775807
/-- What every entry of Go is. -/
structure En.ok (e : En) : Prop where
  path : e.path.length ≤ 9223372036854775807
  kind : okI e.kind
  mode : okI e.mode
  time : okI e.time
  tgt : e.tgt.length ≤ 9223372036854775807
  beg : okI e.beg
  size : okI e.size

/-- May an entry be, but for its path, and where it begins? -/
def plainP (e : En) : Prop := 0 ≤ e.mode ∧ e.mode < 4096 ∧ 0 ≤ e.time ∧ e.time ≤ 1099511627775 ∧ 0 ≤ e.size ∧ e.size ≤ 1048576 ∧
  ((e.kind = 1 ∧ e.tgt = []) ∨ (e.kind = 2 ∧ e.tgt = [] ∧ e.size = 0) ∨ (e.kind = 3 ∧ 1 ≤ e.tgt.length ∧ e.tgt.length ≤ 256 ∧ e.size = 0))
instance (e : En) : Decidable (plainP e) := by unfold plainP; infer_instance
def plainB (e : En) : Bool := decide (plainP e)

set_option maxHeartbeats 1600000 in
theorem plain_any (e : En) (ok : e.ok) (w : World) : Calls Tryd.prog 51 #[.agg (enL e).toArray] w fun x w' => x = .returned (.bool (plainB e)) ∧ Below w.heap.size w w' := by
  obtain ⟨path, kind, mode, time, tgt, beg, size⟩ := e
  have hto : (str tgt).size = tgt.length := rfl
  have Yes : Hid (plainP ⟨path, kind, mode, time, tgt, beg, size⟩ → Ending.returned (.bool true) = Ending.returned (.bool (plainB ⟨path, kind, mode, time, tgt, beg, size⟩))) := Lib.hid (fun h => by unfold plainB; rw [decide_eq_true h])
  have No : Hid (¬ plainP ⟨path, kind, mode, time, tgt, beg, size⟩ → Ending.returned (.bool false) = Ending.returned (.bool (plainB ⟨path, kind, mode, time, tgt, beg, size⟩))) := Lib.hid (fun h => by unfold plainB; rw [decide_eq_false h])
  have hb := Lib.hid (fun o => (Below.refl w.heap.size w).alloc (Nat.le_refl _) o)
  have htl : tgt.length ≤ 9223372036854775807 := ok.tgt
  simp only [enL]
  clear ok
  unfold plainP at Yes No
  simp only at Yes No
  by_cases hm : 0 ≤ mode ∧ mode < 4096 ∧ 0 ≤ time ∧ time ≤ 1099511627775 ∧ 0 ≤ size ∧ size ≤ 1048576
  · obtain ⟨m1, m2, m3, m4, m5, m6⟩ := hm
    by_cases he : tgt = []
    · subst he
      have t1 : (str []).toList = [] := by rw [ByteArray.toList_eq]; rfl
      have t2 : (str []).toList.isEmpty = true := by rw [t1]; rfl
      by_cases k1 : kind = 1
      · subst k1
        go_enter Tryd.func51, Tryd.ntmps51
        go_wp2
        go_ret
        exact ⟨Yes.out ⟨m1, m2, m3, m4, m5, m6, by simp⟩, hb.out _⟩
      · have k1' : (kind == 1) = false := by simpa using k1
        by_cases k2 : kind = 2
        · subst k2
          by_cases z : size = 0
          · subst z
            go_enter Tryd.func51, Tryd.ntmps51
            go_wp2
            go_ret
            exact ⟨Yes.out ⟨m1, m2, m3, m4, m5, m6, by simp⟩, hb.out _⟩
          · have z' : (size == 0) = false := by simpa using z
            go_enter Tryd.func51, Tryd.ntmps51
            go_wp2
            go_ret
            exact ⟨No.out (by simp; omega), hb.out _⟩
        · have k2' : (kind == 2) = false := by simpa using k2
          have hl0 : ¬ (1 : Int) ≤ ((str ([] : List UInt8)).size : Int) := by show ¬ (1 : Int) ≤ 0; omega
          by_cases k3 : kind = 3
          · subst k3
            go_enter Tryd.func51, Tryd.ntmps51
            go_wp2
            go_ret
            exact ⟨No.out (by simp), hb.out _⟩
          · have k3' : (kind == 3) = false := by simpa using k3
            go_enter Tryd.func51, Tryd.ntmps51
            go_wp2
            go_ret
            exact ⟨No.out (by simp; omega), hb.out _⟩
    · have t1 : ¬ (str tgt).toList = [] := by rw [ByteArray.toList_eq]; exact he
      have t2 : (str tgt).toList.isEmpty = false := by simpa using t1
      by_cases k1 : kind = 1
      · subst k1
        go_enter Tryd.func51, Tryd.ntmps51
        go_wp2
        go_ret
        exact ⟨No.out (by simp [he]), hb.out _⟩
      · have k1' : (kind == 1) = false := by simpa using k1
        by_cases k2 : kind = 2
        · subst k2
          go_enter Tryd.func51, Tryd.ntmps51
          go_wp2
          go_ret
          exact ⟨No.out (by simp [he]), hb.out _⟩
        · have k2' : (kind == 2) = false := by simpa using k2
          by_cases k3 : kind = 3
          · subst k3
            have hl1 : (1 : Int) ≤ ((str tgt).size : Int) := by have := List.length_pos_iff.2 he; omega
            have hzz : ((str tgt).size : Int) ≤ 9223372036854775807 := by omega
            by_cases hl2 : ((str tgt).size : Int) ≤ 256
            · by_cases z : size = 0
              · subst z
                go_enter Tryd.func51, Tryd.ntmps51
                go_wp2
                go_ret
                exact ⟨Yes.out ⟨m1, m2, m3, m4, m5, m6, by simp; omega⟩, hb.out _⟩
              · have z' : (size == 0) = false := by simpa using z
                go_enter Tryd.func51, Tryd.ntmps51
                go_wp2
                go_ret
                exact ⟨No.out (by simp [z]), hb.out _⟩
            · go_enter Tryd.func51, Tryd.ntmps51
              go_wp2
              go_ret
              exact ⟨No.out (by simp; omega), hb.out _⟩
          · have k3' : (kind == 3) = false := by simpa using k3
            go_enter Tryd.func51, Tryd.ntmps51
            go_wp2
            go_ret
            exact ⟨No.out (by simp [k1, k2, k3]), hb.out _⟩
  · have HN : Hid (Ending.returned (.bool false) = Ending.returned (.bool (plainB ⟨path, kind, mode, time, tgt, beg, size⟩))) := Lib.hid (No.out (fun h => hm ⟨h.1, h.2.1, h.2.2.1, h.2.2.2.1, h.2.2.2.2.1, h.2.2.2.2.2.1⟩))
    have Hm := Lib.hid hm
    clear hm Yes No
    go_enter Tryd.func51, Tryd.ntmps51
    by_cases m1 : 0 ≤ mode
    · by_cases m2 : mode < 4096
      · by_cases m3 : 0 ≤ time
        · by_cases m4 : time ≤ 1099511627775
          · by_cases m5 : 0 ≤ size
            · by_cases m6 : size ≤ 1048576
              · exact absurd ⟨m1, m2, m3, m4, m5, m6⟩ Hm.out
              · go_wp2
                go_ret
                exact ⟨HN.out, hb.out _⟩
            · go_wp2
              go_ret
              exact ⟨HN.out, hb.out _⟩
          · go_wp2
            go_ret
            exact ⟨HN.out, hb.out _⟩
        · go_wp2
          go_ret
          exact ⟨HN.out, hb.out _⟩
      · go_wp2
        go_ret
        exact ⟨HN.out, hb.out _⟩
    · go_wp2
      go_ret
      exact ⟨HN.out, hb.out _⟩

theorem small_any (e : En) (w : World) : Calls Tryd.prog 50 #[.agg (enL e).toArray] w fun x w' => x = .returned (.bool (decide (e.size ≤ 1048576))) ∧ Below w.heap.size w w' := by
  obtain ⟨path, kind, mode, time, tgt, beg, size⟩ := e
  simp only [enL]
  have hb := Lib.hid (fun o => (Below.refl w.heap.size w).alloc (Nat.le_refl _) o)
  go_enter Tryd.func50, Tryd.ntmps50
  go_wp2
  go_ret
  exact ⟨rfl, hb.out _⟩

end Go.Proofs.YtfppancidgamjaaDoor
