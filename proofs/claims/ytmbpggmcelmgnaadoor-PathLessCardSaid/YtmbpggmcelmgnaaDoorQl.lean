/- The walk over the law PathJoins. -/
import Derived.Test.YtmbpggmcelmgnaaDoorQk
namespace Go.Proofs.YtmbpggmcelmgnaaDoor
set_option linter.unusedVariables false
set_option linter.unusedSimpArgs false
open Go.RowKit

def slashed (l : List (List UInt8)) : List UInt8 := l.flatMap fun p => 47 :: p
theorem slashed_join : ∀ l : List (List UInt8), l ≠ [] → slashed l = 47 :: pjoin l
  | [], h => absurd rfl h
  | p :: ps, _ => by
    by_cases h : ps = []
    · subst h; simp [slashed, pjoin]
    · rw [pjoin_cons p h]
      have := slashed_join ps h
      unfold slashed at *
      rw [List.flatMap_cons, this]; rfl
theorem slashed_take (l : List (List UInt8)) (i : Nat) (h : i < l.length) : slashed (l.take (i + 1)) = slashed (l.take i) ++ 47 :: l[i] := by
  rw [List.take_succ_eq_append_getElem h]; unfold slashed; rw [List.flatMap_append]; simp
theorem slashed_le (l : List (List UInt8)) (i : Nat) : (slashed (l.take i)).length ≤ (slashed l).length := by
  have : slashed l = slashed (l.take i) ++ slashed (l.drop i) := by
    conv => lhs; rw [← List.take_append_drop i l]
    unfold slashed; rw [List.flatMap_append]
  rw [this]; simp
theorem joins_law (a b : List UInt8) (ha : okPath a = true) (hb : okPath b = true) (hl : (a ++ 47 :: b).length ≤ 256) :
    okPath (a ++ 47 :: b) = true ∧ below (a ++ 47 :: b) a = true ∧ cmpL (psplit a) (psplit (a ++ 47 :: b)) < 0 ∧ (parentOf b = [] → parentOf (a ++ 47 :: b) = a) := by
  have h1 := psplit_join a b
  have hok : okPath (a ++ 47 :: b) = true := okPath_parts.2 ⟨hl, fun x hx => by
    rw [h1] at hx
    rcases List.mem_append.1 hx with h | h
    · exact (okPath_parts.1 ha).2 x h
    · exact (okPath_parts.1 hb).2 x h⟩
  refine ⟨hok, (below_psplit _ _).2 ⟨hok, ha, by rw [h1]; exact List.prefix_append _ _⟩, ?_, fun hp => ?_⟩
  · rw [h1, cmpL_lex]; exact (lexC_prefix cmpT_cmp (psplit a) _).2 (psplit_ne b)
  · rcases parents_law b hb with ⟨_, h2⟩ | ⟨h2, _⟩
    · rw [parentOf_good hok]
      unfold parent
      rw [h1, psplit_one h2, List.dropLast_concat, pjoin_psplit]
    · exact absurd hp h2

set_option maxHeartbeats 1600000 in
theorem joins_walk (a b : ByteArray) (ha : a.size ≤ 9223372036854775807) (hb' : b.size ≤ 9223372036854775807) (w : World) (h : Sh w) : Calls Tryd.prog 8 #[.string a, .string b] w fun e w' => e = .returned (.bool true) ∧ Below w.heap.size w w' := by
  have hb := Below.refl w.heap.size w
  have Hh := Lib.hid (fun w1 (b : Below w.heap.size w w1) => sh_below h b)
  have Aw := Lib.hid (fun w1 h1 => awake_any w1 h1)
  have az : (a.size : Int) ≤ 9223372036854775807 := by omega
  have bz : (b.size : Int) ≤ 9223372036854775807 := by omega
  clear h
  by_cases hlong : (400 : Int) < (a.size : Int) ∨ (400 : Int) < (b.size : Int)
  · have h3 : (400 : Int) < (a.size : Int) ∨ ((a.size : Int) ≤ 400 ∧ (400 : Int) < (b.size : Int)) := by omega
    clear hlong
    rcases h3 with h1 | ⟨h1, h2⟩
    all_goals
      go_enter Tryd.func8, Tryd.ntmps8
      go_wp2_with fail
      refine (Aw.out _ (Hh.out _ hb)).mono ?_
      rintro e wz ⟨rfl, b⟩
      replace hb := hb.trans (b.mono hb.size)
      clear b
      go_wp2
      go_ret
      exact ⟨rfl, hb⟩
  have la : (a.size : Int) ≤ 400 := by omega
  have lb : (b.size : Int) ≤ 400 := by omega
  clear hlong
  have Ra := Lib.hid (fun w1 h1 => right_any a (by omega) w1 h1)
  have Rb := Lib.hid (fun w1 h1 => right_any b (by omega) w1 h1)
  cases hoa : okPath a.data.toList with
  | false =>
    rw [hoa] at Ra
    clear hoa
    go_enter Tryd.func8, Tryd.ntmps8
    go_wp2_with fail
    refine (Ra.out _ (Hh.out _ hb)).mono ?_
    rintro e wz ⟨rfl, b⟩
    replace hb := hb.trans (b.mono hb.size)
    clear b
    go_wp2_with fail
    refine (Aw.out _ (Hh.out _ hb)).mono ?_
    rintro e wz ⟨rfl, b⟩
    replace hb := hb.trans (b.mono hb.size)
    clear b
    go_wp2
    go_ret
    exact ⟨rfl, hb⟩
  | true =>
  cases hob : okPath b.data.toList with
  | false =>
    rw [hoa] at Ra
    rw [hob] at Rb
    clear hoa hob
    go_enter Tryd.func8, Tryd.ntmps8
    go_wp2_with fail
    refine (Ra.out _ (Hh.out _ hb)).mono ?_
    rintro e wz ⟨rfl, b⟩
    replace hb := hb.trans (b.mono hb.size)
    clear b
    go_wp2_with fail
    refine (Rb.out _ (Hh.out _ hb)).mono ?_
    rintro e wz ⟨rfl, b⟩
    replace hb := hb.trans (b.mono hb.size)
    clear b
    go_wp2_with fail
    refine (Aw.out _ (Hh.out _ hb)).mono ?_
    rintro e wz ⟨rfl, b⟩
    replace hb := hb.trans (b.mono hb.size)
    clear b
    go_wp2
    go_ret
    exact ⟨rfl, hb⟩
  | true =>
  rw [hoa] at Ra
  rw [hob] at Rb
  have hr1 := fun W => run_string_add_sum (P := Tryd.prog) (w := W) a ⟨#[47]⟩ (by show a.size + 1 ≤ _; omega)
  have hr2 := fun W => run_string_add_sum (P := Tryd.prog) (w := W) (a ++ ⟨#[47]⟩) b (by rw [ByteArray.size_append]; show a.size + 1 + b.size ≤ _; omega)
  have hc : (a ++ ⟨#[47]⟩ ++ b : ByteArray).data.toList = a.data.toList ++ 47 :: b.data.toList := by simp
  have hcs : (a ++ ⟨#[47]⟩ ++ b : ByteArray).size = (a.data.toList ++ 47 :: b.data.toList).length := by rw [← hc]; rfl
  have hcz : (a ++ ⟨#[47]⟩ ++ b : ByteArray).size ≤ 900 := by rw [hcs]; simp; omega
  have R3 := Lib.hid (fun w1 h1 => right_any (a ++ ⟨#[47]⟩ ++ b) (by omega) w1 h1)
  rw [hc] at R3
  by_cases hl : (256 : Int) < ((a ++ ⟨#[47]⟩ ++ b : ByteArray).size : Int)
  · have hno : okPath (a.data.toList ++ 47 :: b.data.toList) = false := by
      unfold okPath; rw [← hcs, decide_eq_false (by omega)]; rfl
    rw [hno] at R3
    have Hr2 := Lib.hid hr2
    clear hno hc hcs hcz hoa hob hr2
    have hr2 := Hr2.out
    generalize (a ++ ⟨#[47]⟩ ++ b : ByteArray) = c at *
    go_enter Tryd.func8, Tryd.ntmps8
    go_wp2_with fail
    refine (Ra.out _ (Hh.out _ hb)).mono ?_
    rintro e wz ⟨rfl, b⟩
    replace hb := hb.trans (b.mono hb.size)
    clear b
    go_wp2_with fail
    refine (Rb.out _ (Hh.out _ hb)).mono ?_
    rintro e wz ⟨rfl, b⟩
    replace hb := hb.trans (b.mono hb.size)
    clear b
    go_wp2_with fail
    refine (R3.out _ (Hh.out _ hb)).mono ?_
    rintro e wz ⟨rfl, b⟩
    replace hb := hb.trans (b.mono hb.size)
    clear b
    go_wp2_with fail
    refine (Aw.out _ (Hh.out _ hb)).mono ?_
    rintro e wz ⟨rfl, b⟩
    replace hb := hb.trans (b.mono hb.size)
    clear b
    go_wp2
    go_ret
    exact ⟨rfl, hb⟩
  have hl2 : (a.data.toList ++ 47 :: b.data.toList).length ≤ 256 := by rw [← hcs]; omega
  obtain ⟨q1, q2, q3, q4⟩ := joins_law _ _ hoa hob hl2
  have hpt : partsOf (a.data.toList ++ 47 :: b.data.toList) = psplit a.data.toList ++ psplit b.data.toList := by unfold partsOf; rw [q1, psplit_join]; rfl
  have hpa : partsOf a.data.toList = psplit a.data.toList := by unfold partsOf; rw [hoa]; rfl
  have hpb : partsOf b.data.toList = psplit b.data.toList := by unfold partsOf; rw [hob]; rfl
  have Pc := Lib.hid (fun w1 h1 => parts_any (a ++ ⟨#[47]⟩ ++ b) (by omega) w1 h1)
  have Pa := Lib.hid (fun w1 h1 => parts_any a (by omega) w1 h1)
  have Pb := Lib.hid (fun w1 h1 => parts_any b (by omega) w1 h1)
  have Bc := Lib.hid (fun w1 h1 => below_any (a ++ ⟨#[47]⟩ ++ b) a (by omega) (by omega) w1 h1)
  have Ca := Lib.hid (fun w1 h1 => compare_any a (a ++ ⟨#[47]⟩ ++ b) (by omega) (by omega) w1 h1)
  have Eb := Lib.hid (fun w1 h1 => parent_any b (by omega) w1 h1)
  have Ec := Lib.hid (fun w1 h1 => parent_any (a ++ ⟨#[47]⟩ ++ b) (by omega) w1 h1)
  rw [hc, hpt] at Pc
  rw [hpa] at Pa
  rw [hpb] at Pb
  rw [hc, q2] at Bc
  rw [hc] at Ca Ec
  rw [q1] at R3
  have hne := psplit_ne a.data.toList
  have hsj : Hid (slashed (psplit a.data.toList ++ psplit b.data.toList) = 47 :: (a ++ ⟨#[47]⟩ ++ b : ByteArray).data.toList) := Lib.hid (by
    rw [slashed_join _ (by simp [hne]), ← psplit_join, pjoin_psplit, hc])
  have hsl : Hid (∀ i, (slashed ((psplit a.data.toList ++ psplit b.data.toList).take i)).length ≤ 257) := Lib.hid (fun i => by
    have h1 := slashed_le (psplit a.data.toList ++ psplit b.data.toList) i
    have h2 := hsj.out
    rw [h2, hc] at h1
    simp at h1 hl2
    omega)
  have n1 := (psplit_len a.data.toList).1
  have n2 := (psplit_len b.data.toList).1
  have n1' : ((psplit a.data.toList).length : Int) ≤ 401 := by have : a.data.toList.length = a.size := rfl; omega
  have n2' : ((psplit b.data.toList).length : Int) ≤ 401 := by have : b.data.toList.length = b.size := rfl; omega
  have hap : ((psplit a.data.toList ++ psplit b.data.toList).length : Int) = ((psplit a.data.toList).length : Int) + ((psplit b.data.toList).length : Int) := by rw [List.length_append]; omega
  have n3 : ((psplit a.data.toList ++ psplit b.data.toList).length : Int) ≤ 802 := by omega
  generalize psplit a.data.toList ++ psplit b.data.toList = l at *
  generalize cmpL (psplit a.data.toList) (psplit (a.data.toList ++ 47 :: b.data.toList)) = x at *
  generalize hna : (psplit a.data.toList).length = na at *
  generalize hnb : (psplit b.data.toList).length = nb at *
  generalize parentOf b.data.toList = pb at *
  generalize parentOf (a.data.toList ++ 47 :: b.data.toList) = pc at *
  have q5 : pb = [] → str pc = a := fun h => by rw [q4 h]; exact str_data a
  have Q5 := Lib.hid q5
  have Hap := Lib.hid hap
  have Hr2 := Lib.hid hr2
  clear q1 q2 q4 q5 hc hcs hpt hpa hpb hne n1 n2 hna hnb hap hoa hob hl2 hr2
  have hr2 := Hr2.out
  have hcz2 : ((a ++ ⟨#[47]⟩ ++ b : ByteArray).size : Int) ≤ 256 := by omega
  generalize (a ++ ⟨#[47]⟩ ++ b : ByteArray) = c at *
  clear hcz
  go_enter Tryd.func8, Tryd.ntmps8
  go_wp2_with fail
  refine (Ra.out _ (Hh.out _ hb)).mono ?_
  rintro e wz ⟨rfl, b⟩
  replace hb := hb.trans (b.mono hb.size)
  clear b
  go_wp2_with fail
  refine (Rb.out _ (Hh.out _ hb)).mono ?_
  rintro e wz ⟨rfl, b⟩
  replace hb := hb.trans (b.mono hb.size)
  clear b
  go_wp2_with fail
  refine (Pc.out _ (Hh.out _ hb)).mono ?_
  rintro e wz ⟨A, cc, rfl, hrd, b⟩
  replace hb := hb.trans (b.mono hb.size)
  clear b
  have Hrd := Lib.hid hrd
  clear hrd
  go_wp2
  go_loopg [6, 44] l.length (fun k v u wr => ∃ i : Nat, k + i = l.length ∧ u = .int .i64 i ∧ v = .string (str (slashed (l.take i))) ∧ wr = wz)
  case atStart => exact ⟨0, by omega, rfl, rfl, rfl⟩
  case round =>
    obtain ⟨i, hk, rfl, rfl, rfl⟩ := hrel
    by_cases hlt : (i : Int) < (l.length : Int)
    · obtain ⟨j, rfl⟩ : ∃ j, gk = j + 1 := ⟨gk - 1, by omega⟩
      have hil : i < l.length := by omega
      have i0 : (0 : Int) ≤ (i : Int) := by omega
      obtain ⟨p1, o1, rfl, q1, d1⟩ := Hrd.out.at_ i hil
      have hs1 := hsl.out i
      have hs2 := hsl.out (i + 1)
      have hst := slashed_take l i hil
      rw [hst] at hs2
      have Hst := Lib.hid hst
      have Hk := Lib.hid hk
      clear hk hst
      generalize l[i] = y at *
      generalize slashed (l.take i) = u at *
      rw [List.length_append, List.length_cons] at hs2
      have hr3 := fun W => run_string_add_sum (P := Tryd.prog) (w := W) ⟨#[47]⟩ (str y) (by show 1 + y.length ≤ _; omega)
      have hr4 := fun W => run_string_add_sum (P := Tryd.prog) (w := W) (str u) (⟨#[47]⟩ ++ str y) (by rw [ByteArray.size_append]; show u.length + (1 + y.length) ≤ _; omega)
      have He : Hid (str u ++ (⟨#[47]⟩ ++ str y) = str (slashed (l.take (i + 1)))) := Lib.hid (by rw [Hst.out]; refine Go.WideShapes.bytes_inj ?_; simp [str])
      clear hs1 hs2
      go_wp2
      go_roundg j
      case measure => omega
      case rel => exact ⟨i + 1, by have := Hk.out; omega, rfl, congrArg Value.string He.out, rfl⟩
    · obtain rfl : i = l.length := by omega
      have hfin := hsj.out
      rw [List.take_length]
      rw [hfin]
      have hr5 := fun W => run_string_add_sum (P := Tryd.prog) (w := W) ⟨#[47]⟩ c (by show 1 + c.size ≤ _; omega)
      have he5 : (⟨#[47]⟩ ++ c : ByteArray) = str (47 :: c.data.toList) := by refine Go.WideShapes.bytes_inj ?_; simp [str]
      rw [he5] at hr5
      generalize str (47 :: c.data.toList) = u at *
      clear he5 hfin hk Hrd
      have hap : (l.length == na + nb) = true := by have := Hap.out; simp; omega
      have hap2 : ((l.length : Int) == (na : Int) + (nb : Int)) = true := by have := Hap.out; simp; omega
      by_cases hpb : pb = []
      · subst hpb
        obtain rfl := Q5.out rfl
        rw [show str [] = (⟨#[]⟩ : ByteArray) from rfl] at Eb
        go_wp2_with fail
        refine (R3.out _ (Hh.out _ hb)).mono ?_
        rintro e wz ⟨rfl, b⟩
        replace hb := hb.trans (b.mono hb.size)
        clear b
        go_wp2_with fail
        refine (Bc.out _ (Hh.out _ hb)).mono ?_
        rintro e wz ⟨rfl, b⟩
        replace hb := hb.trans (b.mono hb.size)
        clear b
        go_wp2_with fail
        refine (Ca.out _ (Hh.out _ hb)).mono ?_
        rintro e wz ⟨rfl, b⟩
        replace hb := hb.trans (b.mono hb.size)
        clear b
        go_wp2_with fail
        refine (Pc.out _ (Hh.out _ hb)).mono ?_
        rintro e wz ⟨A1, c1, rfl, _, b⟩
        replace hb := hb.trans (b.mono hb.size)
        clear b
        go_wp2_with fail
        refine (Pa.out _ (Hh.out _ hb)).mono ?_
        rintro e wz ⟨A2, c2, rfl, _, b⟩
        replace hb := hb.trans (b.mono hb.size)
        clear b
        go_wp2_with fail
        refine (Pb.out _ (Hh.out _ hb)).mono ?_
        rintro e wz ⟨A3, c3, rfl, _, b⟩
        replace hb := hb.trans (b.mono hb.size)
        clear b
        go_wp2_with fail
        refine (Eb.out _ (Hh.out _ hb)).mono ?_
        rintro e wz ⟨rfl, b⟩
        replace hb := hb.trans (b.mono hb.size)
        clear b
        go_wp2_with fail
        refine (Ec.out _ (Hh.out _ hb)).mono ?_
        rintro e wz ⟨rfl, b⟩
        replace hb := hb.trans (b.mono hb.size)
        clear b
        go_wp2_with fail
        refine (Aw.out _ (Hh.out _ hb)).mono ?_
        rintro e wz ⟨rfl, b⟩
        replace hb := hb.trans (b.mono hb.size)
        clear b
        go_wp2
        go_ret
        exact ⟨rfl, hb⟩
      · have hne : ¬ (str pb).toList = [] := by rw [ByteArray.toList_eq]; exact hpb
        have hne2 : (str pb).toList.isEmpty = false := by simpa using hne
        have hne3 : (!(str pb).toList.isEmpty) = true := by rw [hne2]; rfl
        go_wp2_with fail
        refine (R3.out _ (Hh.out _ hb)).mono ?_
        rintro e wz ⟨rfl, b⟩
        replace hb := hb.trans (b.mono hb.size)
        clear b
        go_wp2_with fail
        refine (Bc.out _ (Hh.out _ hb)).mono ?_
        rintro e wz ⟨rfl, b⟩
        replace hb := hb.trans (b.mono hb.size)
        clear b
        go_wp2_with fail
        refine (Ca.out _ (Hh.out _ hb)).mono ?_
        rintro e wz ⟨rfl, b⟩
        replace hb := hb.trans (b.mono hb.size)
        clear b
        go_wp2_with fail
        refine (Pc.out _ (Hh.out _ hb)).mono ?_
        rintro e wz ⟨A1, c1, rfl, _, b⟩
        replace hb := hb.trans (b.mono hb.size)
        clear b
        go_wp2_with fail
        refine (Pa.out _ (Hh.out _ hb)).mono ?_
        rintro e wz ⟨A2, c2, rfl, _, b⟩
        replace hb := hb.trans (b.mono hb.size)
        clear b
        go_wp2_with fail
        refine (Pb.out _ (Hh.out _ hb)).mono ?_
        rintro e wz ⟨A3, c3, rfl, _, b⟩
        replace hb := hb.trans (b.mono hb.size)
        clear b
        go_wp2_with fail
        refine (Eb.out _ (Hh.out _ hb)).mono ?_
        rintro e wz ⟨rfl, b⟩
        replace hb := hb.trans (b.mono hb.size)
        clear b
        go_wp2_with fail
        refine (Aw.out _ (Hh.out _ hb)).mono ?_
        rintro e wz ⟨rfl, b⟩
        replace hb := hb.trans (b.mono hb.size)
        clear b
        go_wp2
        go_ret
        exact ⟨rfl, hb⟩
end Go.Proofs.YtmbpggmcelmgnaaDoor
