/- The walk over the law EntryFills. -/
import Derived.Test.YtfppancidgamjaaDoorEk
namespace Go.Proofs.YtfppancidgamjaaDoor
set_option linter.unusedVariables false
set_option linter.unusedSimpArgs false
open Go.RowKit

/-! the law in plain words -/
def allData (l : List Fi) : List UInt8 := l.flatMap (·.data)
theorem allData_snoc (l : List Fi) (f : Fi) : allData (l ++ [f]) = allData l ++ f.data := by simp [allData]
theorem allData_length (l : List Fi) : (allData l).length = dataLen l := by
  unfold allData dataLen
  rw [List.length_flatMap]
theorem fileOf_from (pre : List UInt8) : ∀ (l : List Fi) (post : List UInt8), (entsFrom pre.length l).map (fileOf (pre ++ (allData l ++ post))) = l := by
  intro l
  induction l generalizing pre with
  | nil => intro post; rfl
  | cons f l ih =>
    intro post
    unfold entsFrom
    rw [List.map_cons]
    have e1 : fileOf (pre ++ (allData (f :: l) ++ post)) ⟨f.path, f.kind, f.mode, f.time, f.tgt, (pre.length : Int), (f.data.length : Int)⟩ = f := by
      unfold fileOf
      have : ((pre ++ (allData (f :: l) ++ post)).drop (pre.length : Int).toNat).take (f.data.length : Int).toNat = f.data := by
        simp [allData]
      simp only [this]
    have h2 := ih (pre ++ f.data) post
    rw [e1]
    congr 1
    have e2 : pre ++ f.data ++ (allData l ++ post) = pre ++ (allData (f :: l) ++ post) := by simp [allData]
    rw [e2, List.length_append, Int.natCast_add] at h2
    exact h2
theorem total_ents {l : List Fi} (h : whyE (ents l) = 0) : totalE (ents l) = (dataLen l : Int) := by
  unfold totalE
  rw [if_pos (fineB_ents h)]
  unfold sumS ents
  have : ∀ (a : Int) (l : List Fi), ((entsFrom a l).map (·.size)).sum = (dataLen l : Int) := by
    intro a l
    induction l generalizing a with
    | nil => rfl
    | cons f l ih =>
      unfold entsFrom
      rw [List.map_cons, List.sum_cons, ih]
      simp [dataLen]
  exact this 0 l
theorem fill_ents {l : List Fi} (h : whyE (ents l) = 0) : fillE (ents l) (allData l) = some l := by
  unfold fillE
  rw [if_pos ⟨fineB_ents h, by rw [total_ents h, allData_length]⟩]
  have := fileOf_from [] l []
  simp only [List.nil_append, List.append_nil] at this
  exact congrArg some this
theorem fill_more {l : List Fi} (h : whyE (ents l) = 0) {more : List UInt8} (hm : more ≠ []) : fillE (ents l) (allData l ++ more) = none := by
  unfold fillE
  rw [if_neg]
  rintro ⟨_, h2⟩
  rw [total_ents h, List.length_append, allData_length] at h2
  have : more.length ≠ 0 := by simpa using hm
  omega

set_option maxRecDepth 100000 in
set_option maxHeartbeats 6400000 in
theorem fills_walk (A : Option Addr) (c : Nat) (l : List (Fi × Value)) (hl : l.length ≤ 9223372036854775807) (hw : ∀ x ∈ l, x.1.wide) (Am : Option Addr) (cm : Nat) (more : List UInt8) (w : World) (h : Sh w) (hr : RdF w A l) (hm : Rd w (.slice Am more.length cm) (bytesU more)) :
    Calls Tryd.prog 6 #[.slice A l.length c, .slice Am more.length cm] w fun e w' => e = .returned (.bool true) ∧ Below w.heap.size w w' := by
  have hb := Below.refl w.heap.size w
  have Hh := Lib.hid (fun w1 (b : Below w.heap.size w w1) => sh_below h b)
  have Aw := Lib.hid (fun w1 h1 => awakeE_any w1 h1)
  have Fe := Lib.hid (few_any A c l hl hw w hr)
  have Hr := Lib.hid (fun w1 (b : Below w.heap.size w w1) => hr.below b)
  have Hm := Lib.hid (fun w1 (b : Below w.heap.size w w1) => hm.below b)
  by_cases hf : fewP (l.map (·.1))
  · rw [decide_eq_true hf] at Fe
    by_cases hm1 : 100 < more.length
    · have hm2 : (100 : Int) < (more.length : Int) := by omega
      clear h hr hf hm
      go_enter Tryd.func6, Tryd.ntmps6
      go_wp2_with fail
      refine (Fe.out).mono ?_
      rintro e wz ⟨rfl, rfl⟩
      go_wp2_with fail
      refine (Aw.out _ (Hh.out _ hb)).mono ?_
      rintro e wz ⟨rfl, b⟩
      replace hb := hb.trans (b.mono hb.size)
      clear b
      go_wp2
      go_ret
      exact ⟨rfl, hb⟩
    have hm2 : ¬ (100 : Int) < (more.length : Int) := by omega
    have hm3 : more.length ≤ 100 := by omega
    obtain ⟨f1, f2, f3⟩ := few_ok hw hf
    have n1 : (l.length : Int) ≤ 12 := by omega
    have hek := ents_ok (l := l.map (·.1)) (by intro f hf; obtain ⟨x, hx, rfl⟩ := List.mem_map.1 hf; exact f3 x hx) (by omega)
    have hel : (ents (l.map (·.1))).length = l.length := by unfold ents; rw [entsFrom_length]; simp
    have O1 := Lib.hid (fun w1 h1 hr => of_any A c l (by omega) (by omega) f3 w1 h1 hr)
    by_cases hz : whyE (ents (l.map (·.1))) = 0
    · have ho1 : ofE (l.map (·.1)) = ents (l.map (·.1)) := by unfold ofE; rw [if_pos hz]
      rw [hz, ho1] at O1
      have Fl := Lib.hid (fun A c Ad cd data hdc w1 h1 hr hd => fill_any A c (ents (l.map (·.1))) (by omega) (fun e he => (hek e he).1) (fun e he => (hek e he).2) Ad cd data hdc w1 h1 hr hd)
      have E1 := Lib.hid (fill_ents hz)
      have E2 := Lib.hid (fun (hne : more ≠ []) => fill_more hz hne)
      have Fs := Lib.hid (fun A B ca cb (a : List (Fi × Value)) (he : a.map (·.1) = l.map (·.1)) w1 h1 h2 => files_same A B ca cb a l (by have := congrArg List.length he; simp at this; omega) he w1 h1 h2)
      have hdl := allData_length (l.map (·.1))
      have Hd := Lib.hid (fun i => dataLen_take (l.map (·.1)) i)
      have Hal := Lib.hid (And.intro hdl (show (allData (l.map (·.1))).length ≤ 2400 by omega))
      clear h hr hm hf f1 f3 hek hz ho1 hdl hel
      go_enter Tryd.func6, Tryd.ntmps6
      go_wp2_with fail
      refine (Fe.out).mono ?_
      rintro e wz ⟨rfl, rfl⟩
      go_wp2_with fail
      refine (O1.out _ (Hh.out _ hb) (Hr.out _ hb)).mono ?_
      rintro e w1 ⟨A1, c1, rfl, k1, r1, b1⟩
      have hb1 := Below.refl w1.heap.size w1
      have R1 := Lib.hid (fun wx (bx : Below w1.heap.size w1 wx) => r1.below bx)
      have hOD : Own w1.heap.size (Rw 5 1 (.slice none 0 0) ([] : List UInt8).length (bytesU []) * Emp) w1 := (Own.start w1.heap.size w1).rw_nil 5 1
      replace hb := hb.trans (b1.mono hb.size)
      have w1s := hb.size
      have Hb0 := Lib.hid hb
      clear r1 b1 k1
      generalize ents (l.map (·.1)) = es at *
      go_wp2
      go_loopg [7, 33] l.length (fun k v u wr => ∃ (i : Nat) (A' : Option Addr) (c' : Nat) (ds : List UInt8), k + i = l.length ∧ u = .int .i64 i ∧ v = .slice A' ds.length c' ∧ Hid (ds = allData ((l.take i).map (·.1))) ∧ Below w1.heap.size w1 wr ∧ Own w1.heap.size (Rw 5 1 (.slice A' ds.length c') ds.length (bytesU ds) * Emp) wr)
      case atStart => exact ⟨0, none, 0, [], by omega, rfl, rfl, Lib.hid rfl, hb1, hOD⟩
      case round =>
        clear hb hb1 hOD
        obtain ⟨i, A', c', ds, hk, rfl, rfl, hds, hb1, ho⟩ := hrel
        have hb := Hb0.out.trans (hb1.mono Hb0.out.size)
        by_cases hlt : (i : Int) < (l.length : Int)
        · obtain ⟨j, rfl⟩ : ∃ j, gk = j + 1 := ⟨gk - 1, by omega⟩
          have hil : i < l.length := by omega
          have i0' : (0 : Int) ≤ (i : Int) := by omega
          have Hk := Lib.hid hk
          clear hk
          obtain ⟨b, off, rfl, q, d⟩ := (Hr.out _ hb).1 i hil
          have r2 := (Hr.out _ hb).2 _ (List.getElem_mem hil)
          obtain ⟨d0, d1, d2, d3, d4, d5⟩ := cells6 d
          have htk : allData ((l.take (i + 1)).map (·.1)) = allData ((l.take i).map (·.1)) ++ l[i].1.data := by rw [List.take_succ_eq_append_getElem hil, List.map_append]; exact allData_snoc _ _
          have hle := Hd.out (i + 1)
          rw [← allData_length, ← allData_length, ← List.map_take, htk, ← hds.out, List.length_append, Hal.out.1] at hle
          rw [← hds.out] at htk
          have Htk := Lib.hid htk
          have hle2 : ds.length + l[i].1.data.length ≤ 2400 := by have := Hal.out; omega
          clear d htk hle
          generalize l[i] = x at *
          obtain ⟨⟨path, kind, mode, time, data, tgt⟩, xv⟩ := x
          simp only at d0 d1 d2 d3 d4 d5 r2 hle2 Htk
          obtain ⟨Ax, cx, hx⟩ : ∃ A c, xv = .slice A data.length c := by obtain ⟨A, c, h, _⟩ := r2; exact ⟨A, c, by rw [h, bytesU_length]⟩
          subst hx
          have o1 := (ho.new hb1.size 41 #[.string (str path), .int .i64 kind, .int .i64 mode, .int .i64 time, .slice Ax data.length cx, .string (str tgt)]).cast (sep_left_comm _ _ _)
          have ba := (Below.refl wr.heap.size wr).alloc (Nat.le_refl _) (.cells #[.string (str path), .int .i64 kind, .int .i64 mode, .int .i64 time, .slice Ax data.length cx, .string (str tgt)] 41)
          have r3 := r2.below ba
          have hb2 := hb1.trans (ba.mono hb1.size)
          obtain ⟨v2, w2, hrun, o2, b2⟩ := byte_append hb2.size o1 r3 (by omega)
          obtain ⟨A2, c2, rfl⟩ := o2.row_n
          have Hrun := Lib.hid hrun
          have o3 := (o2.cast (sep_left_comm _ _ _)).drop
          have k4 : w2.cell? ⟨wr.heap.size, 4, none⟩ = some (.slice Ax data.length cx) := (o2.cast (sep_left_comm _ _ _)).cell 4
          have hb3 := hb2.trans b2
          clear hrun ba b2 hb2 hb1 hb o1 o2 ho r2 r3
          go_wp2_with (at_builtin; refine wpList_append_at rfl (.tmp 37) (.tmp 39) 39 rfl rfl rfl Hrun.out ?_)
          go_roundg j
          case measure => omega
          case rel => exact ⟨i + 1, A2, c2, ds ++ data, by have := Hk.out; omega, rfl, by rw [List.length_append], Lib.hid Htk.out.symm, hb3, o3⟩
        · obtain rfl : i = l.length := by omega
          have hds2 := hds.out
          rw [List.take_length] at hds2
          have e1 := E1.out
          have e2 := E2.out
          have dl := Hal.out.2
          rw [← hds2] at e1 e2 dl
          have rd1 := ho.rd
          have kd := ho.cap
          have He2 := Lib.hid e2
          have e1' := Lib.hid e1
          clear hds hds2 hk ho Hal
          go_wp2_with fail
          refine (Fl.out A1 c1 A' c' ds kd _ (Hh.out _ hb) (R1.out _ hb1) rd1).mono ?_
          rw [e1]
          rintro e w5 ⟨Ak, ck, lk, hlk, rfl, kk, rk, b5⟩
          have rd5 := rd1.below b5
          replace hb := hb.trans (b5.mono hb.size)
          replace hb1 := hb1.trans (b5.mono hb1.size)
          have q0 := ((Own.start w5.heap.size w5).new (Nat.le_refl _) 5 #[]).rw_of_bk (size := 1) (n := 0) rfl (by unfold maxLen; decide)
          have b6 := (Below.refl w5.heap.size w5).alloc (Nat.le_refl _) (.cells #[] 5)
          obtain ⟨v7, w7, hrun7, q7, b7⟩ := byte_append (xs := []) b6.size q0 (rd5.below b6) (by simp; omega)
          rw [List.nil_append] at q7
          obtain ⟨A7, c7, rfl⟩ := q7.row_n
          have b57 := b6.trans b7
          obtain ⟨v8, w8, hrun8, q8, b8⟩ := byte_append b57.size q7 (Hm.out _ (hb.trans (b57.mono hb.size))) (by omega)
          obtain ⟨A8, c8, rfl⟩ := q8.row_n
          have b58 := b57.trans b8
          have rd8 := q8.rd
          have k8 := q8.cap
          have Rk := Lib.hid (And.intro hlk (rk.below b58))
          replace hb := hb.trans (b58.mono hb.size)
          replace hb1 := hb1.trans (b58.mono hb1.size)
          have Hrun7 := Lib.hid hrun7
          have Hrun8 := Lib.hid hrun8
          have F2 := Lib.hid (Fl.out A1 c1 A8 c8 (ds ++ more) k8 _ (Hh.out _ hb) (R1.out _ hb1) rd8)
          clear rd1 kd rd5 q0 b6 q7 b57 b7 b8 b58 q8 k8 rd8 e1 hrun7 hrun8 rk kk hlk b5
          rw [List.length_append] at *
          by_cases hme : more = []
          · subst hme
            have f2 := F2.out
            rw [List.append_nil, e1'.out] at f2
            have F3 := Lib.hid f2
            clear f2 F2
            simp only [List.length_nil, Nat.add_zero] at *
            go_wp2_with (at_builtin; first | refine wpList_append_at rfl (.tmp 50) (.tmp 51) 39 rfl rfl rfl Hrun7.out ?_ | refine wpList_append_at rfl (.tmp 52) (.tmp 53) 39 rfl rfl rfl Hrun8.out ?_)
            refine F3.out.mono ?_
            rintro e w9 ⟨A9, c9, l9, hl9, rfl, k9, r9, b9⟩
            have Rk9 := Lib.hid (Rk.out.2.below b9)
            replace hb := hb.trans (b9.mono hb.size)
            clear b9 hl9 k9 r9
            go_wp2_with fail
            refine (Fs.out _ _ _ _ lk Rk.out.1 _ Rk9.out (Hr.out _ hb)).mono ?_
            rintro e wz ⟨rfl, b⟩
            replace hb := hb.trans (b.mono hb.size)
            clear b
            go_wp2_with fail
            refine (Aw.out _ (Hh.out _ hb)).mono ?_
            rintro e wz ⟨rfl, b⟩
            replace hb := hb.trans (b.mono hb.size)
            clear b
            go_wp2
            go_ret
            exact ⟨rfl, hb⟩
          · have f2 := F2.out
            rw [He2.out hme] at f2
            have F3 := Lib.hid f2
            have hm4 : ¬ more.length = 0 := by simpa using hme
            have hm5 : (more.length == 0) = false := by simpa using hm4
            have hm6 : ((more.length : Int) == 0) = false := by simpa using hm4
            clear f2 F2 hme
            generalize more.length = mn at *
            go_wp2_with (at_builtin; first | refine wpList_append_at rfl (.tmp 50) (.tmp 51) 39 rfl rfl rfl Hrun7.out ?_ | refine wpList_append_at rfl (.tmp 52) (.tmp 53) 39 rfl rfl rfl Hrun8.out ?_)
            refine F3.out.mono ?_
            rintro e w9 ⟨rfl, b9⟩
            have Rk9 := Lib.hid (Rk.out.2.below b9)
            replace hb := hb.trans (b9.mono hb.size)
            clear b9
            go_wp2_with fail
            refine (Fs.out _ _ _ _ lk Rk.out.1 _ Rk9.out (Hr.out _ hb)).mono ?_
            rintro e wz ⟨rfl, b⟩
            replace hb := hb.trans (b.mono hb.size)
            clear b
            go_wp2_with fail
            refine (Aw.out _ (Hh.out _ hb)).mono ?_
            rintro e wz ⟨rfl, b⟩
            replace hb := hb.trans (b.mono hb.size)
            clear b
            go_wp2
            go_ret
            exact ⟨rfl, hb⟩
    · have ho1 : ofE (l.map (·.1)) = [] := by unfold ofE; rw [if_neg hz]
      rw [ho1] at O1
      have Hz := Lib.hid hz
      clear h hr hf f1 f2 f3 hek hel hz ho1
      generalize ents (l.map (·.1)) = es at *
      generalize whyE es = z at *
      have hz1 := Hz.out
      have hz2 : (z == 0) = false := by simpa using hz1
      go_enter Tryd.func6, Tryd.ntmps6
      go_wp2_with fail
      refine (Fe.out).mono ?_
      rintro e wz ⟨rfl, rfl⟩
      go_wp2_with fail
      refine (O1.out _ (Hh.out _ hb) (Hr.out _ hb)).mono ?_
      rintro e w1 ⟨A1, c1, rfl, k1, r1, b1⟩
      replace hb := hb.trans (b1.mono hb.size)
      clear r1 b1 k1
      go_wp2_with fail
      refine (Aw.out _ (Hh.out _ hb)).mono ?_
      rintro e wz ⟨rfl, b⟩
      replace hb := hb.trans (b.mono hb.size)
      clear b
      go_wp2
      go_ret
      exact ⟨rfl, hb⟩
  · rw [decide_eq_false hf] at Fe
    clear h hr hf
    go_enter Tryd.func6, Tryd.ntmps6
    go_wp2_with fail
    refine (Fe.out).mono ?_
    rintro e wz ⟨rfl, rfl⟩
    go_wp2_with fail
    refine (Aw.out _ (Hh.out _ hb)).mono ?_
    rintro e wz ⟨rfl, b⟩
    replace hb := hb.trans (b.mono hb.size)
    clear b
    go_wp2
    go_ret
    exact ⟨rfl, hb⟩
end Go.Proofs.YtfppancidgamjaaDoor
