/- The walks over told, given and same of the laws on entries. -/
import Derived.Test.YtfppancidgamjaaDoorEb
namespace Go.Proofs.YtfppancidgamjaaDoor
set_option linter.unusedVariables false
set_option linter.unusedSimpArgs false
open Go.RowKit

theorem infoEnR : (Tryd.prog.info? 63).map (fun i => (i.zero, i.size, i.bytes)) = some (some (.agg #[.string ByteArray.empty, .int .i64 0, .int .i64 0, .int .i64 0, .string ByteArray.empty, .int .i64 0, .int .i64 0]), 7, 72) := by kernel_rfl

set_option maxRecDepth 100000 in
set_option maxHeartbeats 3200000 in
theorem told_any (A : Option Addr) (c : Nat) (l : List (Fi × Value)) (hl : l.length ≤ 4294967296) (hs : dataLen (l.map (·.1)) ≤ 4294967296) (w : World) (hr : RdF w A l) :
    Calls Tryd.prog 15 #[.slice A l.length c] w (RetA 7 enL w (ents (l.map (·.1)))) := by
  obtain ⟨i0, hi, hz0, hz1, hz2⟩ := info_parts infoEnR
  have Hi0 := Lib.hid (And.intro hi (And.intro hz0 (And.intro hz1 hz2)))
  have hO := (Own.start w.heap.size w).rw_nil 63 7
  have hb := Below.refl w.heap.size w
  have Hr := Lib.hid (fun w1 (b : Below w.heap.size w w1) => hr.below b)
  have Hd := Lib.hid (fun i => dataLen_take (l.map (·.1)) i)
  have Hs := Lib.hid hs
  have n1 : (l.length : Int) ≤ 4294967296 := by omega
  clear hr hi hz0 hz1 hz2 hs
  go_enter Tryd.func15, Tryd.ntmps15
  go_wp2
  go_loopg [3, 4, 9] l.length (fun k v a u wr => ∃ (i : Nat) (A' : Option Addr) (c' : Nat), k + i = l.length ∧ u = .int .i64 i ∧ a = .int .i64 (dataLen ((l.take i).map (·.1)) : Int) ∧ v = .slice A' i c' ∧ Below w.heap.size w wr ∧ Own w.heap.size (Rw 63 7 (.slice A' i c') i (flat enL (ents ((l.take i).map (·.1)))) * Emp) wr)
  case atStart => exact ⟨0, none, 0, by omega, rfl, rfl, rfl, hb, hO⟩
  case round =>
    clear hb hO
    obtain ⟨i, A', c', hk, rfl, rfl, rfl, hb, ho⟩ := hrel
    by_cases hlt : (i : Int) < (l.length : Int)
    · obtain ⟨j, rfl⟩ : ∃ j, gk = j + 1 := ⟨gk - 1, by omega⟩
      have hil : i < l.length := by omega
      have i0' : (0 : Int) ≤ (i : Int) := by omega
      obtain ⟨b, off, rfl, q, d⟩ := (Hr.out _ hb).1 i hil
      obtain ⟨Ad, cd, hdv⟩ := (Hr.out _ hb).get i hil
      have Hk := Lib.hid hk
      have htk : (l.take (i + 1)).map (·.1) = (l.take i).map (·.1) ++ [l[i].1] := by rw [List.take_succ_eq_append_getElem hil, List.map_append]; rfl
      have hsn : ents ((l.take (i + 1)).map (·.1)) = ents ((l.take i).map (·.1)) ++ [⟨l[i].1.path, l[i].1.kind, l[i].1.mode, l[i].1.time, l[i].1.tgt, (dataLen ((l.take i).map (·.1)) : Int), l[i].1.data.length⟩] := by
        rw [htk]; unfold ents; rw [entsFrom_snoc, Int.zero_add]
      have hdl : dataLen ((l.take (i + 1)).map (·.1)) = dataLen ((l.take i).map (·.1)) + l[i].1.data.length := by rw [htk, dataLen_snoc]
      have hle := Hd.out (i + 1)
      rw [← List.map_take, hdl] at hle
      have hle := Nat.le_trans hle Hs.out
      generalize dataLen ((l.take i).map (·.1)) = D at *
      have Hsn := Lib.hid hsn
      have Hdl := Lib.hid hdl
      clear htk hsn hdl hk
      generalize ents ((l.take i).map (·.1)) = E at *
      generalize l[i] = x at *
      obtain ⟨⟨path, kind, mode, time, data, tgt⟩, dv⟩ := x
      simp only at hdv hle Hsn Hdl
      subst hdv
      generalize data.length = dn at *
      have d0 := d 0 _ rfl
      have d1 := d 1 _ rfl
      have d2 := d 2 _ rfl
      have d3 := d 3 _ rfl
      have d4 := d 4 _ rfl
      have d5 := d 5 _ rfl
      simp only [Nat.add_zero] at d0 d1 d2 d3 d4 d5
      clear d
      have D0 : (D : Int) ≤ 4294967296 := by omega
      have D1 : (dn : Int) ≤ 4294967296 := by omega
      have o1 := (ho.new hb.size 41 #[.string (str path), .int .i64 kind, .int .i64 mode, .int .i64 time, .slice Ad dn cd, .string (str tgt)]).cast (sep_left_comm _ _ _)
      have hb1 := hb.alloc hb.size (.cells #[.string (str path), .int .i64 kind, .int .i64 mode, .int .i64 time, .slice Ad dn cd, .string (str tgt)] 41)
      obtain ⟨g2, cap2, w2, hrun, o2, b2⟩ := row_append (P := Tryd.prog) hb1.size Tryd.underlying33 Hi0.out.1 Hi0.out.2.1 Hi0.out.2.2.1 Hi0.out.2.2.2 rfl (by omega) o1 #[.string (str path), .int .i64 kind, .int .i64 mode, .int .i64 time, .string (str tgt), .int .i64 D, .int .i64 dn] rfl
        (by intro u hu; simp at hu; rcases hu with rfl | rfl | rfl | rfl | rfl | rfl | rfl <;> rfl) (by omega) (by omega)
      rw [World.size_alloc] at hrun
      have Hrun := Lib.hid hrun
      have hb2 := hb1.trans b2
      have k4 : w2.cell? ⟨wr.heap.size, 4, none⟩ = some (.slice Ad dn cd) := (o2.cast (sep_left_comm _ _ _)).cell 4
      have o3 := (o2.cast (sep_left_comm _ _ _)).drop
      clear hrun o1 hb1 hb ho b2 o2
      go_wp2_with (at_builtin; refine wpList_append_at rfl (.tmp 13) (.tmp 29) 33 rfl rfl rfl Hrun.out ?_)
      go_roundg j
      case measure => omega
      case rel => exact ⟨i + 1, some ⟨g2, 0, none⟩, cap2, by have := Hk.out; omega, rfl, congrArg (Value.int .i64) (by rw [Hdl.out]; omega), rfl, hb2, by rw [Hsn.out, flat_snoc]; exact o3⟩
    · obtain rfl : i = l.length := by omega
      rw [List.take_length] at ho
      go_wp2
      go_ret
      exact RetA.mk rfl (by unfold ents; rw [entsFrom_length]; simp) ho.cap (ho.rdA enL_len (by unfold ents; rw [entsFrom_length]; simp)) hb

set_option maxRecDepth 100000 in
set_option maxHeartbeats 3200000 in
theorem given_any (A : Option Addr) (c : Nat) (l : List En) (hl : l.length ≤ 4294967296) (w : World) (hr : RdA 7 enL w A l) :
    Calls Tryd.prog 25 #[.slice A l.length c] w (RetA 7 enL w l) := by
  obtain ⟨i0, hi, hz0, hz1, hz2⟩ := info_parts infoEnR
  have Hi0 := Lib.hid (And.intro hi (And.intro hz0 (And.intro hz1 hz2)))
  have hO := (Own.start w.heap.size w).rw_nil 63 7
  have hb := Below.refl w.heap.size w
  have Hr := Lib.hid (fun w1 (b : Below w.heap.size w w1) => hr.below b)
  have n1 : (l.length : Int) ≤ 4294967296 := by omega
  clear hr hi hz0 hz1 hz2
  go_enter Tryd.func25, Tryd.ntmps25
  go_wp2
  go_loopg [3, 8] l.length (fun k v u wr => ∃ (i : Nat) (A' : Option Addr) (c' : Nat), k + i = l.length ∧ u = .int .i64 i ∧ v = .slice A' i c' ∧ Below w.heap.size w wr ∧ Own w.heap.size (Rw 63 7 (.slice A' i c') i (flat enL (l.take i)) * Emp) wr)
  case atStart => exact ⟨0, none, 0, by omega, rfl, rfl, hb, hO⟩
  case round =>
    clear hb hO
    obtain ⟨i, A', c', hk, rfl, rfl, hb, ho⟩ := hrel
    by_cases hlt : (i : Int) < (l.length : Int)
    · obtain ⟨j, rfl⟩ : ∃ j, gk = j + 1 := ⟨gk - 1, by omega⟩
      have hil : i < l.length := by omega
      have i0' : (0 : Int) ≤ (i : Int) := by omega
      obtain ⟨b, off, rfl, q, d⟩ := Hr.out _ hb i hil
      have Hk := Lib.hid hk
      have Hsn : Hid (l.take (i + 1) = l.take i ++ [l[i]]) := Lib.hid (List.take_succ_eq_append_getElem hil)
      clear hk
      generalize l.take i = E at *
      generalize l[i] = x at *
      obtain ⟨path, kind, mode, time, tgt, beg, size⟩ := x
      obtain ⟨d0, d1, d2, d3, d4, d5, d6⟩ := RdA.cells7 d
      simp only at d0 d1 d2 d3 d4 d5 d6 Hsn
      clear d
      have o1 := ho.alloc_keep hb.size (.cells #[.string (str path), .int .i64 kind, .int .i64 mode, .int .i64 time, .string (str tgt), .int .i64 beg, .int .i64 size] 30)
      have hb1 := hb.alloc hb.size (.cells #[.string (str path), .int .i64 kind, .int .i64 mode, .int .i64 time, .string (str tgt), .int .i64 beg, .int .i64 size] 30)
      obtain ⟨g2, cap2, w2, hrun, o2, b2⟩ := row_append (P := Tryd.prog) hb1.size Tryd.underlying33 Hi0.out.1 Hi0.out.2.1 Hi0.out.2.2.1 Hi0.out.2.2.2 rfl (by omega) o1 #[.string (str path), .int .i64 kind, .int .i64 mode, .int .i64 time, .string (str tgt), .int .i64 beg, .int .i64 size] rfl
        (by intro u hu; simp at hu; rcases hu with rfl | rfl | rfl | rfl | rfl | rfl | rfl <;> rfl) (by omega) (by omega)
      rw [World.size_alloc] at hrun
      have Hrun := Lib.hid hrun
      have hb2 := hb1.trans b2
      clear hrun o1 hb1 hb ho b2
      go_wp2_with (at_builtin; refine wpList_append_at rfl (.tmp 12) (.tmp 28) 33 rfl rfl rfl Hrun.out ?_)
      go_roundg j
      case measure => omega
      case rel => exact ⟨i + 1, some ⟨g2, 0, none⟩, cap2, by have := Hk.out; omega, rfl, rfl, hb2, by rw [Hsn.out, flat_snoc]; exact o2⟩
    · obtain rfl : i = l.length := by omega
      rw [List.take_length] at ho
      go_wp2
      go_ret
      exact RetA.mk rfl rfl ho.cap (ho.rdA enL_len (by simp)) hb


set_option maxRecDepth 100000 in
set_option maxHeartbeats 1600000 in
theorem same_any (A B : Option Addr) (ca cb : Nat) (a b : List En) (ha : a.length ≤ 4294967296) (hb' : b.length ≤ 4294967296) (w : World) (hra : RdA 7 enL w A a) (hrb : RdA 7 enL w B b) :
    Calls Tryd.prog 18 #[.slice A a.length ca, .slice B b.length cb] w fun e w' => e = .returned (.bool (decide (a = b))) ∧ Below w.heap.size w w' := by
  have G := Lib.hid (given_any A ca a ha w hra)
  have Hb := Lib.hid (fun w1 (h : Below w.heap.size w w1) => hrb.below h)
  have n1 : (a.length : Int) ≤ 4294967296 := by omega
  have n2 : (b.length : Int) ≤ 4294967296 := by omega
  have hb := Below.refl w.heap.size w
  clear hra hrb
  by_cases hlen : a.length = b.length
  · have hl1 : (a.length == b.length) = true := by simpa using hlen
    have hl2 : ((a.length : Int) == (b.length : Int)) = true := by rw [beq_iff_eq]; omega
    have hl3 : ((a.length : Int) != (b.length : Int)) = false := by simp [hlen]
    have Hyes : Hid ((∀ i (h : i < a.length) (h2 : i < b.length), a[i] = b[i]) → decide (a = b) = true) := Lib.hid (fun h => decide_eq_true (List.ext_getElem hlen (fun i h1 h2 => h i h1 h2)))
    have Hno : Hid (∀ i (h : i < a.length) (h2 : i < b.length), a[i] ≠ b[i] → decide (a = b) = false) := Lib.hid (fun i h h2 hne => decide_eq_false (fun e => by subst e; exact hne rfl))
    have Hlen := Lib.hid hlen
    clear hlen
    have hg := guardEnR
    go_enter Tryd.func18, Tryd.ntmps18
    go_wp2_with fail
    refine G.out.mono ?_
    rintro e wz ⟨A1, c1, rfl, k1, r1, b1⟩
    replace hb := hb.trans (b1.mono hb.size)
    have R1 := Lib.hid (fun w1 (h : Below wz.heap.size wz w1) => r1.below h)
    clear r1
    go_wp2
    go_loopg [16] a.length (fun k v wr => ∃ i : Nat, k + i = a.length ∧ v = .int .i64 i ∧ Below w.heap.size w wr ∧ Below wz.heap.size wz wr ∧ Hid (∀ j (h : j < a.length) (h2 : j < b.length), j < i → a[j] = b[j]))
    case atStart => exact ⟨0, by omega, rfl, hb, Below.refl _ _, Lib.hid (fun j h h2 h3 => absurd h3 (Nat.not_lt_zero _))⟩
    case round =>
      clear hb b1
      obtain ⟨i, hk, rfl, hb, hbz, hp⟩ := hrel
      by_cases hlt : (i : Int) < (a.length : Int)
      · obtain ⟨j, rfl⟩ : ∃ j, gk = j + 1 := ⟨gk - 1, by omega⟩
        have hil : i < a.length := by omega
        have hil2 : i < b.length := by have := Hlen.out; omega
        have i0' : (0 : Int) ≤ (i : Int) := by omega
        have i1' : (i : Int) < (b.length : Int) := by omega
        have Hk := Lib.hid hk
        clear hk
        obtain ⟨p1, o1, rfl, q1, d⟩ := R1.out _ hbz i hil
        obtain ⟨p2, o2, rfl, q2, d'⟩ := Hb.out _ hb i hil2
        have Hn := Lib.hid (Hno.out i hil hil2)
        have Hy : Hid (a[i] = b[i] → ∀ j (h : j < a.length) (h2 : j < b.length), j < i + 1 → a[j] = b[j]) := Lib.hid (fun h j hj hj2 hlt => by
          by_cases e : j = i
          · subst e; exact h
          · exact hp.out j hj hj2 (by omega))
        clear hp
        generalize a[i] = x at *
        generalize b[i] = y at *
        have hneq := fun W => neqEnR x y W
        obtain ⟨path, kind, mode, time, tgt, beg, size⟩ := x
        obtain ⟨path2, kind2, mode2, time2, tgt2, beg2, size2⟩ := y
        obtain ⟨d0, d1, d2, d3, d4, d5, d6⟩ := RdA.cells7 d
        obtain ⟨e0, e1, e2, e3, e4, e5, e6⟩ := RdA.cells7 d'
        simp only [enL] at d0 d1 d2 d3 d4 d5 d6 e0 e1 e2 e3 e4 e5 e6 hneq
        clear d d'
        cases hd : decide ((⟨path, kind, mode, time, tgt, beg, size⟩ : En) = ⟨path2, kind2, mode2, time2, tgt2, beg2, size2⟩) with
        | true =>
          rw [hd] at hneq
          have Hy2 := Lib.hid (Hy.out (of_decide_eq_true hd))
          clear hd Hy Hn
          go_wp2
          go_quiet (fail)
          go_wp2
          go_roundg j
          case measure => omega
          case rel => exact ⟨i + 1, by have := Hk.out; omega, rfl, below_drewN hb _, below_drewN hbz _, Hy2⟩
        | false =>
          rw [hd] at hneq
          have Hn2 := Lib.hid (Hn.out (of_decide_eq_false hd))
          clear hd Hy Hn
          go_wp2
          go_quiet (fail)
          go_wp2
          go_ret
          exact ⟨by rw [Hn2.out]; rfl, below_drewN hb _⟩
      · have Hy := Lib.hid (Hyes.out (fun j h h2 => hp.out j h h2 (by omega)))
        go_wp2
        go_ret
        exact ⟨by rw [Hy.out]; rfl, hb⟩
  · have hl1 : (a.length == b.length) = false := by simpa using hlen
    have hl2 : ((a.length : Int) == (b.length : Int)) = false := by rw [beq_eq_false_iff_ne]; omega
    have hl4 : ¬ (a.length : Int) = (b.length : Int) := by omega
    have Hn : Hid (decide (a = b) = false) := Lib.hid (decide_eq_false (fun e => hlen (by rw [e])))
    go_enter Tryd.func18, Tryd.ntmps18
    go_wp2_with fail
    refine G.out.mono ?_
    rintro e wz ⟨A1, c1, rfl, k1, r1, b1⟩
    replace hb := hb.trans (b1.mono hb.size)
    clear r1
    go_wp2
    go_ret
    exact ⟨by rw [Hn.out]; rfl, hb⟩
end Go.Proofs.YtfppancidgamjaaDoor
