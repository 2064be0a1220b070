/- Texts of one proof, merged: XOe XOf XOg XPre XTwf XEg XOh XOi XOj. -/
import Derived.Test.YtfppancidgamjaaDoorGc
/- The walk over Encode of package entry. -/
namespace Go.Proofs.YtfppancidgamjaaDoor
set_option linter.unusedVariables false
set_option linter.unusedSimpArgs false
open Go.RowKit

/-- Bytes that are read alone, of a block that is owned. -/
def Rdo (v : Value) (l : List UInt8) : HP := fun w F => Rd w v (bytesU l) ∧ ∀ a n c, v = .slice (some a) n c → F a.block
instance Loc.rdo {B : Nat} {v : Value} {l : List UInt8} : Loc B (Rdo v l) where
  keep := fun w w' F h _ ⟨⟨A, c, e, hc⟩, hF⟩ => ⟨⟨A, c, e, fun hne => by
    obtain ⟨ad, rfl, hcc⟩ := hc hne
    exact ⟨ad, rfl, fun j u hu => (World.cell?_of_block (by rw [add_block]; exact h _ (hF _ _ _ e))).trans (hcc j u hu)⟩⟩, hF⟩
  up := fun w F F' h ⟨hr, hF⟩ => ⟨hr, fun a n c e => h _ (hF a n c e)⟩
theorem Own.rdo {B : Nat} {v : Value} {l : List UInt8} {R : HP} {w : World} (h : Own B (Rdo v l * R) w) : Rd w v (bytesU l) := by
  obtain ⟨F, hf, F1, F2, hd, h1, h2, ha, hr⟩ := h
  exact ha.1
set_option maxRecDepth 100000 in
theorem conv_own {B : Nat} {R : HP} [Loc B R] {w : World} (hB : B ≤ w.heap.size) (h : Own B R w) (l : List UInt8) : ∃ A c w', (convert 9 39 (.string (str l))).run Tryd.prog w = .ok (.slice A l.length c) w' ∧ Own B (Rdo (.slice A l.length c) l * R) w' ∧ Below B w w' := by
  obtain ⟨A, c, w', hr, hrd, hb⟩ := conv_bytes w l
  have h2 := run_bytes_of_string w 9 39 5 (str l) Tryd.underlying9 Tryd.underlying39 Tryd.underlying5
  rw [hr] at h2
  injection h2 with e1 e2
  injection e1 with e3 e4 e5
  refine ⟨A, c, w', hr, Own.turn hB h.emp hb.size fun F _ _ => ⟨fun k => k = w.heap.size, fun k hk => .inr ⟨by omega, ?_⟩, ⟨hrd, fun a n c' e => ?_⟩, fun k hk _ => hb.block k hk⟩, hb.mono hB⟩
  · subst hk; rw [e2]; simp
  · injection e with e _ _
    rw [e3] at e
    injection e with e
    rw [← e]

theorem obytes_len (x : List UInt8) : (obytes x).length ≤ 6 + x.length := by unfold obytes; rw [List.length_append]; have := onumI_len (x.length : Int); omega
theorem obytes_ret (v u : Value) (l x : List UInt8) (hl : l.length ≤ 140737488000000) (hx : x.length ≤ 200000) (w : World) (hr : Rd w v (bytesU l)) (hu : Rd w u (bytesU x)) :
    Calls Tryd.prog 45 #[v, u] w (RetB w (l ++ obytes x)) := by
  have := obytes_any v u l x hl hx w hr hu
  rw [List.append_assoc] at this
  exact this

theorem index5 (W : World) (a b c d e : Int) (t : Nat) (ht : t = 0 ∨ t = 1 ∨ t = 2 ∨ t = 3 ∨ t = 4) :
    (Instr.index 75 (.agg #[.int .i64 a, .int .i64 b, .int .i64 c, .int .i64 d, .int .i64 e]) (.int .i64 (t : Int))).run Tryd.prog W = .ok (.int .i64 ([a, b, c, d, e].getD t 0)) W := by
  have h1 : (Tryd.prog.info? 3).map (fun i => i.size) = some 1 := by kernel_rfl
  obtain ⟨i0, hi, hs⟩ := Option.map_eq_some_iff.1 h1
  have h2 := Tryd.underlying3
  rcases ht with rfl | rfl | rfl | rfl | rfl <;> simp [Instr.index, asIntOf, run_underlying Tryd.underlying75, part, sizeOf, typeInfo, hi, hs, run_underlying h2, go_sem]
theorem exec_conv {P : Program} {o : Oper} {a : Act} {w w' : World} (x : Operand) (s t : TypeId) {v u : Value} (ho : o.op = .convert s t x) (hx : a.eval x = v) (hr : (convert s t v).run P w = .ok u w') : (execOp a.eval o).run P w = .ok (.value u) w' := by
  unfold execOp
  simp only [ho, Sem.run_bind, Sem.run_pure, hx, hr, Result.andThen_ok]
/-- A row that a call made takes the place of another one. -/
theorem own_new {B : Nat} {R : HP} [Loc B R] {w w1 : World} {v0 v1 : Value} {old L : List UInt8} (hB : B ≤ w.heap.size) (o : Own B (Rw 5 1 v0 old.length (bytesU old) * R) w)
    (ho1 : w1.ownsRow w.heap.size 5 1 v1 L.length (bytesU L)) (b1 : Below w.heap.size w w1) :
    ∃ (L' : List UInt8) (A1 : Option Addr) (c1 : Nat), Hid (L' = L) ∧ v1 = .slice A1 L'.length c1 ∧ Own B (Rw 5 1 (.slice A1 L'.length c1) L'.length (bytesU L') * R) w1 ∧ Below B w w1 := by
  have o1 := Own.fresh hB o ho1 b1
  obtain ⟨A1, c1, rfl⟩ := o1.row_n
  exact ⟨L, A1, c1, Lib.hid rfl, rfl, (o1.cast (sep_left_comm _ _ _)).right, b1.mono hB⟩
def EncP (w : World) (l : List En) (e : Ending) (w' : World) : Prop :=
  if fineB l then ∃ v, e = .returned (.tuple #[v, .int .i64 0]) ∧ w'.ownsRow w.heap.size 5 1 v (encL l).length (bytesU (encL l)) ∧ Below w.heap.size w w'
  else e = .returned (.tuple #[.slice none 0 0, .int .i64 1]) ∧ Below w.heap.size w w'

set_option maxRecDepth 100000 in
set_option maxHeartbeats 6400000 in
theorem encode_any (A : Option Addr) (c : Nat) (l : List En) (hl : l.length ≤ 4294967296) (ok : ∀ e ∈ l, e.ok) (hx : ∀ e ∈ l, e.path.length ≤ 4294967280) (w : World) (h : Sh w) (hr : RdA 7 enL w A l) :
    Calls Tryd.prog 31 #[.slice A l.length c] w (EncP w l) := by
  have Fi := fine_any A c l hl ok hx w h hr
  cases hff : fineB l with
  | false =>
    have e0 : Hid (∀ e w', (e = .returned (.tuple #[.slice none 0 0, .int .i64 1]) ∧ Below w.heap.size w w') → EncP w l e w') := Lib.hid (fun e w' h => by unfold EncP; rw [hff]; exact h)
    rw [hff] at Fi
    clear hr h hff
    go_enter Tryd.func31, Tryd.ntmps31
    go_wp2_with fail
    refine Fi.mono ?_
    rintro e w1 ⟨rfl, b1⟩
    go_wp2
    go_ret2
    exact e0.out _ _ ⟨rfl, b1⟩
  | true =>
    have e0 : Hid (∀ e w', (∃ v, e = .returned (.tuple #[v, .int .i64 0]) ∧ w'.ownsRow w.heap.size 5 1 v (encL l).length (bytesU (encL l)) ∧ Below w.heap.size w w') → EncP w l e w') := Lib.hid (fun e w' h => by unfold EncP; rw [hff]; exact h)
    have Hr := Lib.hid (fun w1 (b : Below w.heap.size w w1) => hr.below b)
    have Hx := Lib.hid (fine_num hff)
    have hl1024 : l.length ≤ 1024 := (whyE_zero (fineB_true hff).1).2.1
    have n1 : (l.length : Int) ≤ 1024 := by omega
    have N0 := fun w1 => number_any (.slice none 0 0) [] (by simp) (l.length : Int) w1 (Rd.nil w1)
    have He : Hid (encL l = onumI (l.length : Int) ++ l.flatMap encE) := Lib.hid rfl
    have h6 := onumI_len (l.length : Int)
    rw [hff] at Fi
    simp only [List.nil_append] at N0
    clear hr hx h hff ok hl
    go_enter Tryd.func31, Tryd.ntmps31
    go_wp2_with fail
    refine Fi.mono ?_
    rintro e w0 ⟨rfl, b0⟩
    go_wp2_with fail
    refine (N0 w0).mono ?_
    rintro e w1 ⟨v1, rfl, ho1, b1⟩
    have o1 : Own w.heap.size (Rw 5 1 v1 (onumI (l.length : Int)).length (bytesU (onumI (l.length : Int))) * Emp) w1 := Own.fresh b0.size (Own.start _ _) ho1 b1
    have hb1 := b0.trans (b1.mono b0.size)
    generalize hL0 : onumI (l.length : Int) = L0 at *
    obtain ⟨A1, c1, rfl⟩ := o1.row_n
    clear hL0 ho1 N0 b0 b1 Fi
    go_wp2
    go_loopg [4, 17] l.length (fun k v u wr => ∃ (i : Nat) (out : List UInt8) (A' : Option Addr) (c' : Nat), k + i = l.length ∧ u = .int .i64 (i : Int) ∧ v = .slice A' out.length c' ∧ Own w.heap.size (Rw 5 1 (.slice A' out.length c') out.length (bytesU out) * Emp) wr ∧ Below w.heap.size w wr ∧ out.length ≤ 6 + 554 * i ∧ Hid (out = L0 ++ (l.take i).flatMap encE))
    case atStart => exact ⟨0, L0, A1, c1, by omega, rfl, rfl, o1, hb1, by omega, Lib.hid (by simp)⟩
    case round =>
      clear o1 hb1
      obtain ⟨i, out, A', c', hk, rfl, rfl, ho, hb, hol, he⟩ := hrel
      have i0' : (0 : Int) ≤ (i : Int) := by omega
      by_cases hlt : (i : Int) < (l.length : Int)
      · obtain ⟨j, rfl⟩ : ∃ j, gk = j + 1 := ⟨gk - 1, by omega⟩
        have hil : i < l.length := by omega
        obtain ⟨b, off, rfl, q, d⟩ := Hr.out _ hb i hil
        have hxi := Hx.out _ (List.getElem_mem hil)
        have Hsn : Hid ((l.take (i + 1)).flatMap encE = (l.take i).flatMap encE ++ encE l[i]) := Lib.hid (by rw [List.take_succ_eq_append_getElem hil, List.flatMap_append]; simp)
        have Hk := Lib.hid hk
        clear hk
        generalize l[i] = x at *
        have Hlen := Lib.hid (encE_len hxi)
        have Henc : Hid (encE x = (numsE x).flatMap onumI ++ (obytes x.path ++ obytes x.tgt)) := Lib.hid (by simp [encE, numsE])
        have Hnum := Lib.hid hxi
        obtain ⟨path, kind, mode, time, tgt, beg, size⟩ := x
        obtain ⟨d0, d1, d2, d3, d4, d5, d6⟩ := RdA.cells7 d
        simp only at d0 d1 d2 d3 d4 d5 d6 Hsn Henc
        clear d hxi
        have o3 := (ho.new hb.size 30 #[.string (str path), .int .i64 kind, .int .i64 mode, .int .i64 time, .string (str tgt), .int .i64 beg, .int .i64 size]).foc (Rw 5 1 (.slice A' out.length c') out.length (bytesU out))
        have hb2 := hb.alloc hb.size (.cells #[.string (str path), .int .i64 kind, .int .i64 mode, .int .i64 time, .string (str tgt), .int .i64 beg, .int .i64 size] 30)
        clear ho hb
        generalize hX0 : wr.heap.size = X0 at *
        go_wp2
        go_loopg [4, 32] 5 (fun k v u wr2 => ∃ (t : Nat) (out2 : List UInt8) (A2 : Option Addr) (c2 : Nat), k + t = 5 ∧ u = .int .i64 (t : Int) ∧ v = .slice A2 out2.length c2 ∧ Own w.heap.size (Rw 5 1 (.slice A2 out2.length c2) out2.length (bytesU out2) * (Bk X0 30 #[.string (str path), .int .i64 kind, .int .i64 mode, .int .i64 time, .string (str tgt), .int .i64 beg, .int .i64 size] * Emp)) wr2 ∧ Below w.heap.size w wr2 ∧ out2.length ≤ out.length + 6 * t ∧ Hid (out2 = out ++ ((numsE ⟨path, kind, mode, time, tgt, beg, size⟩).take t).flatMap onumI))
        case atStart => exact ⟨0, out, A', c', rfl, rfl, rfl, o3, hb2, by omega, Lib.hid (by simp)⟩
        case round =>
          clear o3 hb2
          obtain ⟨t, out2, A2, c2, hkt, rfl, rfl, ho, hb, hol2, he2⟩ := hrel
          have t0' : (0 : Int) ≤ (t : Int) := by omega
          by_cases hlt2 : (t : Int) < 5
          · obtain ⟨jt, rfl⟩ : ∃ j, gk = j + 1 := ⟨gk - 1, by omega⟩
            have ht5 : t = 0 ∨ t = 1 ∨ t = 2 ∨ t = 3 ∨ t = 4 := by omega
            have kx := fun W => index5 W kind mode time beg size t ht5
            have Htk : Hid ((numsE ⟨path, kind, mode, time, tgt, beg, size⟩).take (t + 1) = (numsE ⟨path, kind, mode, time, tgt, beg, size⟩).take t ++ [[kind, mode, time, beg, size].getD t 0]) := Lib.hid (by rcases ht5 with rfl | rfl | rfl | rfl | rfl <;> rfl)
            generalize [kind, mode, time, beg, size].getD t 0 = z at *
            have N := number_any (.slice A2 out2.length c2) out2 (by omega) z wr ho.rd
            have hz6 := onumI_len z
            have Hkt := Lib.hid hkt
            clear hkt ht5
            go_wp2_with fail
            refine N.mono ?_
            rintro e w3 ⟨v1, rfl, ho1, b1⟩
            obtain ⟨out3, A3, c3, he3, rfl, o4, b4⟩ := own_new hb.size ho ho1 b1
            have hb4 := hb.trans b4
            clear ho hb ho1 b1 b4 N
            go_wp2
            go_roundg jt
            case measure => omega
            case rel => exact ⟨t + 1, out3, A3, c3, by have := Hkt.out; omega, rfl, rfl, o4, hb4, by rw [he3.out, List.length_append]; omega, Lib.hid (by rw [he3.out, he2.out, Htk.out]; simp)⟩
          · obtain rfl : t = 5 := by omega
            have hp256 := Hnum.out.path
            have ht256 := Hnum.out.tgt
            simp only at hp256 ht256
            have hop := obytes_len path
            have hot := obytes_len tgt
            go_wp2
            refine wp_region_ltwo (B := w.heap.size) [0, 1, 5] [2, 6] [3, 4] [7] [8, 9] (Rw 5 1 (.slice A2 out2.length c2) out2.length (bytesU out2)) Emp (Bk X0 30 #[.string (str path), .int .i64 kind, .int .i64 mode, .int .i64 time, .string (str tgt), .int .i64 beg, .int .i64 size] * Emp) mixed (by kernel_rfl) rfl (fun _ _ _ _ _ h => h) hb.size ((ho.emp.cast (by ac_rfl)).drew hb.size) ?_
            simp only [List.filterMap_cons, List.filterMap_nil, List.getElem?_toArray, List.getElem?_cons_succ, List.getElem?_cons_zero]
            repeat (
              refine free_val ?_ rfl (fun w1 => ?_) ?_
              rotate_left
              · (go_simp
                 try go_bits
                 rfl)
              simp only [Act.put, List.setIfInBounds_toArray, List.set_cons_zero, List.set_cons_succ])
            refine free_nil ?_
            repeat (first
              | (refine late_val ?_ rfl (fun w1 hS => ?_) ?_
                 rotate_left
                 · (have c0 : w1.cell? ⟨X0, 0, none⟩ = some (.string (str path)) := hS.cell 0; have c4 : w1.cell? ⟨X0, 4, none⟩ = some (.string (str tgt)) := hS.cell 4
                    go_simp
                    try go_bits
                    rfl)
                 simp only [Act.put, List.setIfInBounds_toArray, List.set_cons_zero, List.set_cons_succ])
              | (refine late_off rfl ?_
                 simp only [Act.put, List.setIfInBounds_toArray, List.set_cons_zero, List.set_cons_succ]))
            refine late_nil ?_
            refine ⟨fun vs F => ∃ v3 out3 A3 c3, vs = [v3, .slice A3 out3.length c3] ∧ Hid (out3 = out2 ++ obytes path) ∧ F = Rw 5 1 (.slice A3 out3.length c3) out3.length (bytesU out3), fun vs F => ∃ A7 c7, vs = [.slice A7 tgt.length c7] ∧ F = Rdo (.slice A7 tgt.length c7) tgt, ?_, ?_, ?_⟩
            · simp only [opsOf, List.filterMap_cons, List.filterMap_nil, List.getElem?_toArray, List.getElem?_cons_succ, List.getElem?_cons_zero]
              refine tw_run (fun v F => ∃ A3 c3, v = .slice A3 path.length c3 ∧ F = (Rdo (.slice A3 path.length c3) path * Rw 5 1 (.slice A2 out2.length c2) out2.length (bytesU out2))) rfl (fun R1 _ w1 hB1 hS => ?_) ?_
              · obtain ⟨A3, c3, w3, hrun, o3, b3⟩ := conv_own hB1 hS path
                exact ⟨_, _, w3, exec_conv (.tmp 41) 9 39 rfl rfl hrun, ⟨inferInstance, A3, c3, rfl, rfl⟩, o3.assoc', b3⟩
              · rintro v3 F3 _ ⟨A3, c3, rfl, rfl⟩
                simp only [Act.put, List.setIfInBounds_toArray, List.set_cons_zero, List.set_cons_succ]
                refine tw_call 45 #[.slice A2 out2.length c2, .slice A3 path.length c3] (fun v F => ∃ (out3 : List UInt8) (A4 : Option Addr) (c4 : Nat), v = .slice A4 out3.length c4 ∧ Hid (out3 = out2 ++ obytes path) ∧ F = Rw 5 1 (.slice A4 out3.length c4) out3.length (bytesU out3)) rfl (fun R1 _ w1 hS => by go_simp) (fun R1 _ w1 hB1 hS => (obytes_ret (.slice A2 out2.length c2) (.slice A3 path.length c3) out2 path (by omega) (by omega) w1 (hS.assoc.right.rd) (hS.assoc.rdo)).mono ?_) ?_
                · rintro e w2 ⟨v1, rfl, ho1, b1⟩
                  obtain ⟨out3, A4, c4, he3, rfl, o4, b4⟩ := own_new hB1 (hS.assoc.right) ho1 b1
                  exact ⟨_, _, rfl, ⟨inferInstance, out3, A4, c4, rfl, he3, rfl⟩, o4, b4⟩
                · rintro v4 F4 _ ⟨out3, A4, c4, rfl, he3, rfl⟩
                  exact tw_nil ⟨_, out3, A4, c4, rfl, he3, rfl⟩
            · simp only [opsOf, List.filterMap_cons, List.filterMap_nil, List.getElem?_toArray, List.getElem?_cons_succ, List.getElem?_cons_zero]
              refine tw_run (fun v F => ∃ A3 c3, v = .slice A3 tgt.length c3 ∧ F = Rdo (.slice A3 tgt.length c3) tgt) rfl (fun R1 _ w1 hB1 hS => ?_) ?_
              · obtain ⟨A3, c3, w3, hrun, o3, b3⟩ := conv_own hB1 hS.right tgt
                exact ⟨_, _, w3, exec_conv (.tmp 45) 9 39 rfl rfl hrun, ⟨inferInstance, A3, c3, rfl, rfl⟩, o3, b3⟩
              · rintro v3 F3 _ ⟨A3, c3, rfl, rfl⟩
                exact tw_nil ⟨A3, c3, rfl, rfl⟩
            · rintro vs1 F1 vs2 F2 w4 ⟨v3, out3, A3, c3, rfl, he3, rfl⟩ ⟨A7, c7, rfl, rfl⟩ o4 b4
              simp only [opsOf, putAll, Act.put, List.filterMap_cons, List.filterMap_nil, List.getElem?_toArray, List.getElem?_cons_succ, List.getElem?_cons_zero, List.setIfInBounds_toArray, List.set_cons_zero, List.set_cons_succ]
              have hb4 := hb.trans b4
              have ho3 : out3.length = out2.length + (obytes path).length := by rw [he3.out, List.length_append]
              have N := obytes_ret (.slice A3 out3.length c3) (.slice A7 tgt.length c7) out3 tgt (by omega) (by omega) w4 o4.rd (o4.cast (sep_left_comm _ _ _)).rdo
              have o5 := (o4.cast (show _ = Rw 5 1 (.slice A3 out3.length c3) out3.length (bytesU out3) * (Rdo _ _ * (Bk X0 _ _ * Emp)) by ac_rfl))
              clear ho hb o4 b4 ho3
              go_wp2_with fail
              refine N.mono ?_
              rintro e w5 ⟨v1, rfl, ho1, b1⟩
              obtain ⟨out5, A5, c5, he5, rfl, o6, b6⟩ := own_new hb4.size o5 ho1 b1
              have hb6 := hb4.trans b6
              have o7 := (o6.cast (show _ = Rdo _ _ * (Bk X0 _ _ * (Rw _ _ _ _ _ * Emp)) by ac_rfl)).right.right
              clear N o5 hb4 o6 b6 ho1 b1
              go_wp2
              go_roundg j
              case measure => omega
              case rel =>
                have hfin : out5 = L0 ++ (l.take (i + 1)).flatMap encE := by
                  rw [he5.out, he3.out, he2.out, Hsn.out, Henc.out, he.out]
                  have : (numsE ⟨path, kind, mode, time, tgt, beg, size⟩).take 5 = numsE ⟨path, kind, mode, time, tgt, beg, size⟩ := rfl
                  rw [this]
                  simp only [List.append_assoc]
                exact ⟨i + 1, out5, A5, c5, by have := Hk.out; omega, rfl, rfl, o7, hb6, by
                  have h1 := congrArg List.length hfin
                  have h2 := congrArg List.length he.out
                  have h3 := Hlen.out
                  rw [Hsn.out] at h1
                  simp only [List.length_append] at h1 h2
                  omega, Lib.hid hfin⟩
      · obtain rfl : i = l.length := by omega
        rw [List.take_length] at he
        go_wp2
        go_ret2
        exact e0.out _ _ ⟨_, rfl, by rw [He.out, ← he.out]; exact ho.row, hb⟩
end Go.Proofs.YtfppancidgamjaaDoor

/- The walks over List of package octet at entries, and over Decode of package entry. -/
namespace Go.Proofs.YtfppancidgamjaaDoor
set_option linter.unusedVariables false
set_option linter.unusedSimpArgs false
open Go.RowKit

theorem readE_len (s : OS) : (readE s).2.rest.length ≤ s.rest.length :=
  Nat.le_trans (readBytes_len _ 256 (by omega)).2 (Nat.le_trans (readBytes_len _ 256 (by omega)).2 (stN_rest s 5))

set_option maxRecDepth 100000 in
set_option maxHeartbeats 6400000 in
theorem olist_any (p : Nat) (s : OS) (vs : List (Value × List UInt8)) (hl : s.rest.length ≤ 9223372036854775807) (B : Nat) (R : HP) [Loc B R] (w : World) (hB : B ≤ w.heap.size) (hO : Own B (Rdr p s vs * R) w) :
    Calls Tryd.prog 39 #[.pointer (some ⟨p, 0, none⟩), .int .i64 1024, .func (.func 40) #[] #[]] w fun e w' =>
      ∃ A c, (readL (readNum s 1024).1.toNat (readNum s 1024).2 []).1.length ≤ c ∧ c ≤ 9223372036854775807 ∧ Ret B w (.slice A (readL (readNum s 1024).1.toNat (readNum s 1024).2 []).1.length c) (Rw 30 7 (.slice A (readL (readNum s 1024).1.toNat (readNum s 1024).2 []).1.length c) (readL (readNum s 1024).1.toNat (readNum s 1024).2 []).1.length (flat enL (readL (readNum s 1024).1.toNat (readNum s 1024).2 []).1) * (Rdr p (readL (readNum s 1024).1.toNat (readNum s 1024).2 []).2 vs * R)) e w' := by
  obtain ⟨i0, hi, hz0, hz1, hz2⟩ := info_parts infoEn
  have Hi0 := Lib.hid (And.intro hi (And.intro hz0 (And.intro hz1 hz2)))
  have N := rnum_any p s vs hl 1024 B R w hB hO
  have hr := readNum_range s 1024 (by omega)
  have hrest := Nat.le_trans (readNum_rest s 1024) hl
  obtain ⟨n, hn⟩ : ∃ n : Nat, (readNum s 1024).1 = (n : Int) := ⟨(readNum s 1024).1.toNat, by omega⟩
  rw [hn] at N ⊢
  have n1 : (n : Int) ≤ 1024 := by omega
  rw [Int.toNat_natCast]
  generalize (readNum s 1024).2 = s1 at *
  obtain ⟨res, hres⟩ : ∃ res, res = readL n s1 [] := ⟨_, rfl⟩
  rw [← hres]
  have Hres := Lib.hid hres
  clear hO hn hr hres hi hz0 hz1 hz2
  go_enter Tryd.func39, Tryd.ntmps39
  go_wp2_with fail
  refine N.mono ?_
  rintro e w1 ⟨rfl, o1, b1⟩
  have o2 := o1.rw_nil 30 7
  clear o1 N
  go_wp2
  go_loopg [7, 11] n (fun k v u wr => ∃ (i : Nat) (acc : List En) (si : OS) (A' : Option Addr) (c' : Nat), k + i = n ∧ u = .int .i64 (i : Int) ∧ v = .slice A' i c' ∧ Own B (Rw 30 7 (.slice A' i c') i (flat enL acc) * (Rdr p si vs * R)) wr ∧ Below B w wr ∧ si.rest.length ≤ 9223372036854775807 ∧ Hid (acc.length = i ∧ readL k si acc = res))
  case atStart => exact ⟨0, [], s1, none, 0, by omega, rfl, rfl, o2, b1, hrest, Lib.hid ⟨rfl, Hres.out.symm⟩⟩
  case round =>
    clear o2 b1 hrest
    obtain ⟨i, acc, si, A', c', hk, rfl, rfl, ho, hb, hsi, hq⟩ := hrel
    have Bw : B ≤ wr.heap.size := Nat.le_trans hB hb.size
    have i0' : (0 : Int) ≤ (i : Int) := by omega
    by_cases hlt : (i : Int) < (n : Int)
    · obtain ⟨j, rfl⟩ : ∃ j, gk = j + 1 := ⟨gk - 1, by omega⟩
      have E := readE_any p si vs hsi B (Rw 30 7 (.slice A' i c') i (flat enL acc) * R) wr Bw (ho.cast (sep_left_comm _ _ _))
      have hrl := Nat.le_trans (readE_len si) hsi
      have Hq2 : Hid (acc.length = i ∧ (if (readE si).2.err ≠ 0 then (([] : List En), (readE si).2) else readL j (readE si).2 (acc ++ [(readE si).1])) = res) := Lib.hid hq.out
      have Hk := Lib.hid hk
      clear hk hq ho
      generalize (readE si).1 = x at *
      generalize (readE si).2 = s2 at *
      obtain ⟨path, kind, mode, time, tgt, beg, size⟩ := x
      change Calls _ _ _ _ (Ret B wr (.agg #[.string (str path), .int .i64 kind, .int .i64 mode, .int .i64 time, .string (str tgt), .int .i64 beg, .int .i64 size]) _) at E
      go_wp2_with fail
      refine E.mono ?_
      rintro e w3 ⟨rfl, o3, b3⟩
      have hb3 := hb.trans b3
      have B3 := Nat.le_trans hB hb3.size
      obtain ⟨g2, cap2, w4, hrun, o4, b4⟩ := row_append (P := Tryd.prog) B3 Tryd.underlying25 Hi0.out.1 Hi0.out.2.1 Hi0.out.2.2.1 Hi0.out.2.2.2 rfl (by omega) (o3.cast (sep_left_comm _ _ _)) #[.string (str path), .int .i64 kind, .int .i64 mode, .int .i64 time, .string (str tgt), .int .i64 beg, .int .i64 size] rfl
        (by intro u hu; simp at hu; rcases hu with rfl | rfl | rfl | rfl | rfl | rfl | rfl <;> rfl) (by omega) (by omega)
      have Hrun := Lib.hid hrun
      have hb4 := hb3.trans b4
      have B4 := Nat.le_trans hB hb4.size
      have X := rerr_any p s2 vs B (Rw 30 7 (.slice (some ⟨g2, 0, none⟩) (i + 1) cap2) (i + 1) (flat enL acc ++ #[.string (str path), .int .i64 kind, .int .i64 mode, .int .i64 time, .string (str tgt), .int .i64 beg, .int .i64 size].toList) * R) w4 (o4.cast (sep_left_comm _ _ _))
      clear hrun o3 hb hb3 b3 b4 E
      by_cases herr : s2.err = 0
      · have Hq3 : Hid (acc.length = i ∧ readL j s2 (acc ++ [⟨path, kind, mode, time, tgt, beg, size⟩]) = res) := Lib.hid ⟨Hq2.out.1, by have := Hq2.out.2; rwa [if_neg (by omega)] at this⟩
        rw [herr] at X
        clear Hq2
        go_wp2_with (at_builtin; refine wpList_append_at rfl (.tmp 13) (.tmp 17) 25 rfl rfl rfl Hrun.out ?_)
        refine X.mono ?_
        rintro e w5 ⟨rfl, rfl⟩
        go_wp2
        go_roundg j
        case measure => omega
        case rel => exact ⟨i + 1, _, s2, some ⟨g2, 0, none⟩, cap2, by have := Hk.out; omega, rfl, rfl, by rw [flat_snoc]; exact o4, hb4, hrl, Lib.hid ⟨by rw [List.length_append, Hq3.out.1]; rfl, Hq3.out.2⟩⟩
      · have Hq3 : Hid (res = ([], s2)) := Lib.hid (by have := Hq2.out.2; rw [if_pos herr] at this; exact this.symm)
        have herr2 : (s2.err == 0) = false := by simpa using herr
        generalize hse : s2.err = se at X herr herr2
        have oF := o4.right.rw_nil 30 7
        clear Hq2
        go_wp2_with (at_builtin; refine wpList_append_at rfl (.tmp 13) (.tmp 17) 25 rfl rfl rfl Hrun.out ?_)
        refine X.mono ?_
        rintro e w5 ⟨rfl, rfl⟩
        go_wp2
        go_ret
        rw [Hq3.out]
        exact ⟨none, 0, by simp, by omega, rfl, oF, hb4⟩
    · obtain rfl : i = n := by omega
      obtain rfl : gk = 0 := by omega
      have hr0 : res = (acc, si) := hq.out.2.symm
      have hcap := ho.cap
      have Hr0 := Lib.hid hr0
      have Hal := Lib.hid hq.out.1
      clear hr0
      go_wp2
      go_ret
      rw [Hr0.out]
      simp only [Hal.out]
      exact ⟨A', c', hcap.1, hcap.2, rfl, ho, hb⟩
end Go.Proofs.YtfppancidgamjaaDoor

/- The walk over Decode of package entry. -/
namespace Go.Proofs.YtfppancidgamjaaDoor
set_option linter.unusedVariables false
set_option linter.unusedSimpArgs false
open Go.RowKit

def DecP (w : World) (b : List UInt8) (e : Ending) (w' : World) : Prop :=
  ∃ A c, e = .returned (.tuple #[.slice A (decP b).1.length c, .int .i64 (decP b).2]) ∧ ((decP b).1.length ≤ c ∧ c ≤ 9223372036854775807) ∧ RdA 7 enL w' A (decP b).1 ∧ Below w.heap.size w w'
theorem DecP.mk {w w' : World} {b : List UInt8} {e : Ending} {A : Option Addr} {n c : Nat} {l : List En} {z y : Int} (he : e = .returned (.tuple #[.slice A n c, .int .i64 y])) (hd : decP b = (l, z)) (hy : y = z) (hn : n = l.length) (hc : n ≤ c ∧ c ≤ 9223372036854775807) (hr : RdA 7 enL w' A l) (hb : Below w.heap.size w w') : DecP w b e w' := by
  subst hy; subst hn
  unfold DecP
  rw [hd]
  exact ⟨A, c, he, hc, hr, hb⟩
theorem En.num.ok {e : En} (h : e.num) : e.ok ∧ e.path.length ≤ 4294967280 := by
  obtain ⟨h1, h2, h3, h4, h5, h6, h7⟩ := h
  exact ⟨⟨by omega, ⟨by omega, by omega⟩, ⟨by omega, by omega⟩, ⟨by omega, by omega⟩, by omega, ⟨by omega, by omega⟩, ⟨by omega, by omega⟩⟩, by omega⟩

set_option maxRecDepth 100000 in
set_option maxHeartbeats 6400000 in
theorem decode_any (v : Value) (b : List UInt8) (hbl : b.length ≤ 140737488355328) (w : World) (h : Sh w) (hr : Rd w v (bytesU b)) :
    Calls Tryd.prog 29 #[v] w (DecP w b) := by
  have N := rnew_any v b hbl w.heap.size Emp w (Nat.le_refl _) (Own.start _ _) hr
  obtain ⟨Av, cv, rfl, _⟩ := id hr
  rw [bytesU_length] at N ⊢
  have hdz : decZ b = if oend (readAll b).2 = 0 ∧ fineB (readAll b).1 = false then 4 else oend (readAll b).2 := rfl
  have hdp : decP b = if decZ b ≠ 0 then ([], decZ b) else ((readAll b).1, 0) := rfl
  have hal : readAll b = readL (readNum ⟨b, 0⟩ 1024).1.toNat (readNum ⟨b, 0⟩ 1024).2 [] := rfl
  have hnr := readNum_range ⟨b, 0⟩ 1024 (by omega)
  have hok : (readAll b).2.err = 0 → (readAll b).1.length ≤ 1024 ∧ ∀ e ∈ (readAll b).1, e.num := fun h0 => by
    obtain ⟨_, l, h2, h3, _, h5⟩ := readL_ok _ _ _ _ _ (show readL (readNum ⟨b, 0⟩ 1024).1.toNat (readNum ⟨b, 0⟩ 1024).2 [] = ((readAll b).1, (readAll b).2) from rfl) h0
    rw [List.nil_append] at h2
    rw [h2]
    exact ⟨by omega, h5⟩
  have L := Lib.hid (fun p w1 (hB : w.heap.size ≤ w1.heap.size) o => olist_any p ⟨b, 0⟩ [] (by show b.length ≤ _; omega) w.heap.size Emp w1 hB o)
  rw [← hal] at L
  have Hok := Lib.hid hok
  have Hdz := Lib.hid hdz
  have Hdp := Lib.hid hdp
  clear hr hal hnr hok hdz hdp
  generalize readAll b = r at *
  obtain ⟨x, t⟩ := r
  simp only at L Hok Hdz Hdp
  have Hh := Lib.hid (fun w1 (b : Below w.heap.size w w1) => sh_below h b)
  clear h
  go_enter Tryd.func29, Tryd.ntmps29
  go_wp2_with fail
  refine N.mono ?_
  rintro e w1 ⟨p, rfl, o1, b1⟩
  go_wp2_with fail
  refine (L.out p w1 b1.size o1).mono ?_
  rintro e w2 ⟨A, c, hc1, hc2, rfl, o2, b2⟩
  have hb2 := b1.trans b2
  have E := rend_any p t [] w.heap.size _ w2 (o2.cast (sep_left_comm _ _ _))
  have hrd := o2.rdA enL_len rfl
  clear N L o1 b1 b2
  by_cases hz : oend t = 0
  · have herr : t.err = 0 := by
      unfold oend at hz
      split at hz
      · cases hz
      · exact hz
    obtain ⟨k1, k2⟩ := Hok.out herr
    have F := fine_any A c x (by omega) (fun e he => (k2 e he).ok.1) (fun e he => (k2 e he).ok.2) w2 (Hh.out _ hb2) hrd
    rw [hz] at E
    clear k2 herr
    cases hff : fineB x with
    | true =>
      have hd : decP b = (x, 0) := by
        have h1 : decZ b = 0 := by rw [Hdz.out, if_neg (by rw [hff]; simp), hz]
        rw [Hdp.out, if_neg (by omega)]
      have Hd := Lib.hid hd
      rw [hff] at F
      clear hff hd Hdz Hdp hz
      go_wp2_with fail
      refine E.mono ?_
      rintro e w3 ⟨rfl, rfl⟩
      go_wp2_with fail
      refine F.mono ?_
      rintro e w4 ⟨rfl, b4⟩
      have hb4 := hb2.trans (b4.mono hb2.size)
      have hrd4 := hrd.below b4
      clear hrd b4 hb2 o2 F E
      go_wp2
      go_ret2
      exact DecP.mk rfl Hd.out rfl rfl ⟨hc1, hc2⟩ hrd4 hb4
    | false =>
      have hd : decP b = ([], 4) := by
        have h1 : decZ b = 4 := by rw [Hdz.out, if_pos ⟨hz, hff⟩]
        rw [Hdp.out, h1, if_pos (by omega)]
      have Hd := Lib.hid hd
      rw [hff] at F
      clear hff hd Hdz Hdp hz
      go_wp2_with fail
      refine E.mono ?_
      rintro e w3 ⟨rfl, rfl⟩
      go_wp2_with fail
      refine F.mono ?_
      rintro e w4 ⟨rfl, b4⟩
      have hb4 := hb2.trans (b4.mono hb2.size)
      clear hrd b4 hb2 o2 F E
      go_wp2
      go_ret2
      exact DecP.mk rfl Hd.out rfl rfl cap0 RdA.nil hb4
  · have hd : decP b = ([], oend t) := by
      have h1 : decZ b = oend t := by rw [Hdz.out, if_neg (fun h => hz h.1)]
      rw [Hdp.out, h1, if_pos hz]
    have Hd := Lib.hid hd
    have hz2 : (oend t == 0) = false := by simpa using hz
    clear hd Hdz Hdp
    generalize oend t = z at *
    go_wp2_with fail
    refine E.mono ?_
    rintro e w3 ⟨rfl, rfl⟩
    clear E o2 hrd
    go_wp2
    go_ret2
    exact DecP.mk rfl Hd.out rfl rfl cap0 RdA.nil hb2
end Go.Proofs.YtfppancidgamjaaDoor

/- An open-order region, step by step: a stretch in which one step alone may come; and the rule of two threads from any place on. -/
namespace Go.Proofs.YtfppancidgamjaaDoor
set_option linter.unusedVariables false
set_option linter.unusedSimpArgs false
open Go.RowKit

section
variable {P : Program} {ops : Array Oper} {md : Region.Mode} {Q : Exit → Act → World → Prop} {B : Nat}

def preB (md : Region.Mode) (ops : Array Oper) : List Nat → Array Bool → Bool
  | [], _ => true
  | i :: l, listed => decide (i < ops.size) && decide (Region.ready md ops listed = [i]) && preB md ops l (listed.setIfInBounds i true)

theorem letsOut_then {K : Act → World → Prop} (h : LetsOut (Exit.then K Q)) : LetsOut Q := h
theorem upon_then {o : Oper} {a : Act} {N : Act → World → Prop} {K : Act → World → Prop} : ∀ r : Result Next, o.upon P a N (Exit.then K Q) r → o.upon P a N Q r := by
  intro r h
  cases r with
  | ok n w => cases n <;> exact h
  | halt x w => cases x <;> exact h
theorem wpOp_then {i : Nat} {N : Act → World → Prop} {K : Act → World → Prop} {a : Act} {w : World} (h : wpOp P ops (Exit.then K Q) i N a w) : wpOp P ops Q i N a w := by
  unfold wpOp at *
  split at h
  · exact h
  · split at h
    · rename_i hw
      rw [if_pos hw]
      rcases h with h | ⟨h1, h2⟩
      · exact .inl (upon_then _ h)
      · exact .inr ⟨h1, letsOut_then h2⟩
    · rename_i hw
      rw [if_neg hw]
      exact h
theorem wpAny_pre' {n : Nat} : ∀ (pre : List Nat) (listed : Array Bool) (a : Act) (w : World), preB md ops pre listed = true →
    wpOps P ops (Exit.then (fun a w => wpAny P md ops Q n (markAll pre listed) a w) Q) pre a w → wpAny P md ops Q (pre.length + n) listed a w
  | [], listed, a, w, _, h => by rw [List.length_nil, Nat.zero_add]; exact h
  | i :: pre, listed, a, w, hB, h => by
    simp only [preB, Bool.and_eq_true, decide_eq_true_eq] at hB
    obtain ⟨⟨_, hr⟩, hB'⟩ := hB
    rw [wpOps_cons] at h
    rw [show (i :: pre).length + n = (pre.length + n) + 1 by simp; omega]
    refine ⟨fun h0 => (by rw [h0] at hr; cases hr), fun j hj => ?_⟩
    rw [hr] at hj
    obtain rfl := List.mem_singleton.1 hj
    exact wpOp_mono (fun a' w' h' => wpAny_pre' pre _ a' w' hB' h') (wpOp_then h)
theorem preB_lt : ∀ (pre : List Nat) (listed : Array Bool), preB md ops pre listed = true → ∀ i ∈ pre, i < ops.size
  | [], _, _, i, hi => absurd hi (by simp)
  | j :: pre, listed, hB, i, hi => by
    simp only [preB, Bool.and_eq_true, decide_eq_true_eq] at hB
    rcases List.mem_cons.1 hi with rfl | hi
    · exact hB.1.1
    · exact preB_lt pre _ hB.2 i hi
/-- The first steps come one by one. -/
theorem wpAny_pre {fuel n : Nat} {listed : Array Bool} {a : Act} {w : World} (pre : List Nat) (hB : preB md ops pre listed = true) (hf : fuel = pre.length + n)
    (h : wpList P ops (Exit.then (fun a w => wpAny P md ops Q n (markAll pre listed) a w) Q) (pre.filterMap fun i => ops[i]?) a w) : wpAny P md ops Q fuel listed a w := by
  subst hf
  exact wpAny_pre' pre listed a w hB (wpOps_list pre a w (preB_lt pre listed hB) h)
theorem wp_region_pre {id : Nat} {a : Act} {w : World} (pre : List Nat) (n : Nat) (hm : P.follows .mixedOrders = true) (hB : preB .any ops pre (Array.replicate ops.size false) = true) (hf : ops.size = pre.length + n)
    (h : wpList P ops (Exit.then (fun a w => wpAny P .any ops Q n (markAll pre (Array.replicate ops.size false)) a w) Q) (pre.filterMap fun i => ops[i]?) a w.drew) : (Code.region id ops true).wp P Q a w := by
  refine wp_region_any hm ?_
  have := wpAny_pre (md := .any) pre hB hf h
  exact this
/-- Two threads, with late reads, from any place on. -/
theorem wpAny_ltwo {fuel : Nat} {listed : Array Bool} {a : Act} {w : World} (us ls l1 l2 ts : List Nat) (A1 A2 R : HP) [k1 : Loc B A1] [k2 : Loc B A2] [Loc B R]
    (hB : (freeB .any ops us listed && mixB .any ops (markAll us listed) (ls ++ (l1 ++ l2)) ts && twoB .any ops (markAll ls (markAll us listed)) l1 l2 ts) = true)
    (hf : fuel = us.length + ((ls.length + (l1.length + l2.length)) + ts.length))
    (hQ : ∀ c a d v w, Q (.panic c) (a.put (some d) v) w → Q (.panic c) a w) (hsz : B ≤ w.heap.size) (hO : Own B (A1 * (A2 * R)) w)
    (h : wpFree P ops (fun a1 => wpLate P ops (fun w => Own B R w) (fun a2 => ∃ Φ1 Φ2 : List Value → HP → Prop, TW P ops B (opsOf ops l1) Φ1 a2 A1 ∧ TW P ops B (opsOf ops l2) Φ2 a2 A2 ∧
      ∀ vs1 A1' vs2 A2' w', Φ1 vs1 A1' → Φ2 vs2 A2' → Own B (A1' * (A2' * R)) w' → Below B w w' → wpList P ops Q (ts.filterMap fun i => ops[i]?) (putAll (opsOf ops l2) vs2 (putAll (opsOf ops l1) vs1 a2)) w')
      (ls.filterMap fun i => ops[i]?) a1) (us.filterMap fun i => ops[i]?) a) : wpAny P .any ops Q fuel listed a w := by
  simp only [Bool.and_eq_true] at hB
  obtain ⟨⟨hB1, hB2⟩, hB3⟩ := hB
  obtain ⟨hsel, ok1⟩ := mixB_ok hB2
  obtain ⟨_, ok2⟩ := twoB_ok hB3
  have hts : ∀ i ∈ ts, i < ops.size := fun i hi => (ok1.un i (by simp [hi])).1
  have hR : Own B R w := hO.right.right
  have hgo : wpAny P .any ops Q (us.length + ((ls.length + (l1.length + l2.length)) + ts.length)) listed a w := by
    refine wpAny_free hQ hsel us _ a hB1 (fun a1 h1 => ?_) h
    refine wpL_any (S := fun w => Own B R w) (T := fun a4 w4 => wpOps P ops Q ts a4 w4) (fun _ _ h => h) _ (ls ++ (l1 ++ l2)) _ a1 _ (by simp) ok1 ?_
    have := wpL_lates (P := P) (S := fun w => Own B R w) (T := fun a4 w4 => wpOps P ops Q ts a4 w4) (w := w) hsel hQ hR ls (l1 ++ l2) _ a1 ok1 (fun a2 ⟨Φ1, Φ2, t1, t2, hK⟩ _ => ?_) h1
    · rw [List.length_append]
      exact wpL_two hsel (l1.length + l2.length) l1 l2 _ a2 _ Φ1 Φ2 A1 A2 rfl k1 k2 ok2 t1 t2 hsz hO fun vs1 A1' vs2 A2' w' p1 p2 ho hb => wpOps_list ts _ w' hts (hK vs1 A1' vs2 A2' w' p1 p2 ho hb)
    · rw [List.length_append] at this
      exact this
  rw [← hf] at hgo
  exact hgo
end
end Go.Proofs.YtfppancidgamjaaDoor

/- The rule of two threads of which the first one has steps that are free as soon as they are ready (fl): these come at once. -/
namespace Go.Proofs.YtfppancidgamjaaDoor
set_option linter.unusedVariables false
set_option linter.unusedSimpArgs false
open Go.RowKit

section
variable {P : Program} {ops : Array Oper} {md : Region.Mode} {Q : Exit → Act → World → Prop} {B : Nat}

theorem getD_set_tt {a : Array Bool} {k j : Nat} (h : a.getD k true = true) : (a.setIfInBounds j true).getD k true = true := by
  by_cases e : j = k
  · subst e
    by_cases hs : j < a.size
    · simp [Array.getD_eq_getD_getElem?, hs]
    · simp [Array.getD_eq_getD_getElem?, hs]
  · rw [getD_set_ne true e]; exact h
theorem free_set {listed : Array Bool} {i j : Nat} (h : Region.free md ops listed i = true) : Region.free md ops (listed.setIfInBounds j true) i = true := by
  unfold Region.free at *
  split at h
  · cases h
  · rename_i oi _
    simp only [List.all_eq_true] at h ⊢
    intro k hk
    have h1 := h k hk
    simp only [Bool.or_eq_true] at h1 ⊢
    rcases h1 with (h1 | h1) | h1
    · exact .inl (.inl h1)
    · exact .inl (.inr (getD_set_tt h1))
    · exact .inr h1
def freeL (fl : List Nat) (md : Region.Mode) (ops : Array Oper) : List Nat → Array Bool → Bool
  | [], _ => true
  | i :: l, listed => (!fl.contains i || Region.free md ops listed i) && freeL fl md ops l (listed.setIfInBounds i true)
theorem freeL_set {fl : List Nat} {j : Nat} : ∀ (l : List Nat) (listed : Array Bool), freeL fl md ops l listed = true → freeL fl md ops l (listed.setIfInBounds j true) = true
  | [], _, _ => rfl
  | i :: l, listed, h => by
    simp only [freeL, Bool.and_eq_true, Bool.or_eq_true] at h ⊢
    refine ⟨h.1.imp id free_set, ?_⟩
    by_cases hij : i = j
    · subst hij; exact freeL_set l _ h.2
    · rw [Array.setIfInBounds_comm _ _ (Ne.symm hij)]; exact freeL_set l _ h.2
def rootedF (fl : List Nat) (md : Region.Mode) (ops : Array Oper) : List Nat → Bool
  | [] => true
  | s :: l => (fl.contains s || l.all fun t => (s :: l).any fun x => Region.waitsFor md ops t x) && rootedF fl md ops l
def twofB (fl : List Nat) (md : Region.Mode) (ops : Array Oper) (listed : Array Bool) (l1 l2 ts : List Nat) : Bool :=
  Region.noSelect ops && decide (listed.size = ops.size) &&
  ((List.range ops.size).all fun j => listed.getD j true || l1.contains j || l2.contains j || ts.contains j) &&
  ((l1 ++ l2 ++ ts).all fun j => decide (j < ops.size) && !listed.getD j true) &&
  decide (l1 ++ l2).Nodup && lexOk md ops l1 listed && lexOk md ops l2 listed && rootedF fl md ops l1 && freeL fl md ops l1 listed && chained md ops l2 &&
  (ts.all fun t => !(l1 ++ l2).contains t && ((ts.any fun s => Region.waitsFor md ops t s) || (behind md ops l1 t && behind md ops l2 t))) && apartAll ops l1 l2

structure TwofOk (fl : List Nat) (md : Region.Mode) (ops : Array Oper) (listed : Array Bool) (l1 l2 ts : List Nat) : Prop where
  size : listed.size = ops.size
  cover : ∀ j, j < ops.size → listed.getD j true = false → j ∈ l1 ∨ j ∈ l2 ∨ j ∈ ts
  un : ∀ j, j ∈ l1 ∨ j ∈ l2 ∨ j ∈ ts → j < ops.size ∧ listed.getD j true = false
  nd1 : l1.Nodup
  nd2 : l2.Nodup
  dis : ∀ i ∈ l1, i ∉ l2
  ndt : ∀ t ∈ ts, t ∉ l1 ∧ t ∉ l2
  lex1 : lexOk md ops l1 listed = true
  lex2 : lexOk md ops l2 listed = true
  ch1 : rootedF fl md ops l1 = true
  fr1 : freeL fl md ops l1 listed = true
  ch2 : chained md ops l2 = true
  root : ∀ t ∈ ts, (∃ s ∈ ts, Region.waitsFor md ops t s = true) ∨ (behind md ops l1 t = true ∧ behind md ops l2 t = true)
  apart : ∀ i ∈ l1, ∀ j ∈ l2, ∀ oi oj, ops[i]? = some oi → ops[j]? = some oj → oi.apart ops oj = true ∧ oj.apart ops oi = true

theorem twofB_ok {fl : List Nat} {listed : Array Bool} {l1 l2 ts : List Nat} (h : twofB fl md ops listed l1 l2 ts = true) : Region.noSelect ops = true ∧ TwofOk fl md ops listed l1 l2 ts := by
  simp only [twofB, Bool.and_eq_true, decide_eq_true_eq] at h
  obtain ⟨⟨⟨⟨⟨⟨⟨⟨⟨⟨⟨h1, h2⟩, h3⟩, h4⟩, h5⟩, h6⟩, h7⟩, h8⟩, h8'⟩, h9⟩, h10⟩, h11⟩ := h
  have hnd := List.nodup_append.1 h5
  refine ⟨h1, h2, fun j hj hl => ?_, fun j hj => ?_, hnd.1, hnd.2.1, fun i hi hi2 => hnd.2.2 i hi i hi2 rfl, fun t ht => ?_, h6, h7, h8, h8', h9, fun t ht => ?_, fun i hi j hj oi oj hoi hoj => ?_⟩
  · have := List.all_eq_true.1 h3 j (List.mem_range.2 hj)
    rw [hl] at this
    simpa [or_assoc] using this
  · have := List.all_eq_true.1 h4 j (by simp; exact hj)
    simp only [Bool.and_eq_true, decide_eq_true_eq, Bool.not_eq_true'] at this
    exact this
  · have := List.all_eq_true.1 h10 t ht
    simp only [Bool.and_eq_true, Bool.not_eq_true'] at this
    have h := this.1
    simp at h
    exact h
  · have := List.all_eq_true.1 h10 t ht
    simp only [Bool.and_eq_true, Bool.or_eq_true, List.any_eq_true] at this
    exact this.2
  · have := List.all_eq_true.1 (List.all_eq_true.1 h11 i hi) j hj
    rw [hoi, hoj] at this
    simpa [Bool.and_eq_true] using this

/-- Where the head of the first thread is no free step, the heads alone are ready. -/
theorem TwofOk.only {fl : List Nat} {listed : Array Bool} {l1 l2 ts : List Nat} (ok : TwofOk fl md ops listed l1 l2 ts) (hh : ∀ x l, l1 = x :: l → x ∉ fl) (hne : l1 ≠ [] ∨ l2 ≠ []) {i : Nat} (hi : i ∈ Region.ready md ops listed) : (∃ l, l1 = i :: l) ∨ (∃ l, l2 = i :: l) := by
  obtain ⟨hlt, hun, hed⟩ := mem_ready'.1 hi
  have bad : ∀ s, s ∈ l1 ∨ s ∈ l2 ∨ s ∈ ts → Region.waitsFor md ops i s = true → False := fun s hs' hw => by
    have h1 := edgesIn_waits hed hw
    rw [getD_both (ok.un s hs').2] at h1
    cases h1
  rcases ok.cover i hlt hun with h | h | h
  · cases l1 with
    | nil => cases h
    | cons x l =>
      rcases List.mem_cons.1 h with rfl | h
      · exact .inl ⟨l, rfl⟩
      · exfalso
        have hr := ok.ch1
        simp only [rootedF, Bool.and_eq_true, Bool.or_eq_true] at hr
        rcases hr.1 with h1 | h1
        · exact hh x l rfl (by simpa using h1)
        · obtain ⟨s, hs, hw⟩ := List.any_eq_true.1 (List.all_eq_true.1 h1 i h)
          exact bad s (.inl hs) hw
  · rcases chained_prev l2 i ok.ch2 h with h2 | ⟨s, hs, hw⟩
    · exact .inr h2
    · exact (bad s (.inr (.inl hs)) hw).elim
  · exfalso
    rcases ok.root i h with ⟨s, hs, hw⟩ | ⟨hb1, hb2⟩
    · exact bad s (.inr (.inr hs)) hw
    · rcases hne with hne | hne
      · obtain ⟨x, l, rfl⟩ : ∃ x l, l1 = x :: l := by cases l1 with | nil => exact absurd rfl hne | cons x l => exact ⟨x, l, rfl⟩
        obtain ⟨j, hj⟩ := lastOf_some x l
        rw [behind, hj] at hb1
        exact bad j (.inl (lastOf_mem _ _ hj)) hb1
      · obtain ⟨x, l, rfl⟩ : ∃ x l, l2 = x :: l := by cases l2 with | nil => exact absurd rfl hne | cons x l => exact ⟨x, l, rfl⟩
        obtain ⟨j, hj⟩ := lastOf_some x l
        rw [behind, hj] at hb2
        exact bad j (.inr (.inl (lastOf_mem _ _ hj))) hb2

theorem TwofOk.strike1 {fl : List Nat} {listed : Array Bool} {i : Nat} {l1 l2 ts : List Nat} (ok : TwofOk fl md ops listed (i :: l1) l2 ts) : TwofOk fl md ops (listed.setIfInBounds i true) l1 l2 ts := by
  obtain ⟨hlt, hui⟩ := ok.un i (.inl List.mem_cons_self)
  have hn := List.nodup_cons.1 ok.nd1
  have hi2 := ok.dis i List.mem_cons_self
  have hne : ∀ j, j ∈ l1 ∨ j ∈ l2 ∨ j ∈ ts → i ≠ j := by
    rintro j hj rfl
    rcases hj with h | h | h
    · exact hn.1 h
    · exact hi2 h
    · exact (ok.ndt i h).1 List.mem_cons_self
  have hlex := ok.lex1
  simp only [lexOk, Bool.and_eq_true] at hlex
  have hroot := ok.ch1
  simp only [rootedF, Bool.and_eq_true] at hroot
  have hfree := ok.fr1
  simp only [freeL, Bool.and_eq_true] at hfree
  refine ⟨by simp [ok.size], fun j hj hl => ?_, fun j hj => ?_, hn.2, ok.nd2, fun j hj => ok.dis j (List.mem_cons_of_mem _ hj), fun t ht => ⟨fun h => (ok.ndt t ht).1 (List.mem_cons_of_mem _ h), (ok.ndt t ht).2⟩, hlex.2, lexOk_set _ _ ok.lex2, hroot.2, hfree.2, ok.ch2,
    fun t ht => (ok.root t ht).imp id (fun h => ⟨behind_tail h.1, h.2⟩), fun a ha b hb => ok.apart a (List.mem_cons_of_mem _ ha) b hb⟩
  · by_cases hij : i = j
    · subst hij
      rw [show (listed.setIfInBounds i true).getD i true = true by simp [ok.size, hlt]] at hl
      cases hl
    · rw [getD_set_ne true hij] at hl
      rcases ok.cover j hj hl with h | h | h
      · rcases List.mem_cons.1 h with h | h
        · exact absurd h.symm hij
        · exact .inl h
      · exact .inr (.inl h)
      · exact .inr (.inr h)
  · have := ok.un j (by rcases hj with h | h | h <;> simp [h])
    exact ⟨this.1, by rw [getD_set_ne true (hne j hj)]; exact this.2⟩
theorem TwofOk.strike2 {fl : List Nat} {listed : Array Bool} {i : Nat} {l1 l2 ts : List Nat} (ok : TwofOk fl md ops listed l1 (i :: l2) ts) : TwofOk fl md ops (listed.setIfInBounds i true) l1 l2 ts := by
  obtain ⟨hlt, hui⟩ := ok.un i (.inr (.inl List.mem_cons_self))
  have hn := List.nodup_cons.1 ok.nd2
  have hne : ∀ j, j ∈ l1 ∨ j ∈ l2 ∨ j ∈ ts → i ≠ j := by
    rintro j hj rfl
    rcases hj with h | h | h
    · exact ok.dis _ h List.mem_cons_self
    · exact hn.1 h
    · exact (ok.ndt i h).2 List.mem_cons_self
  have hlex := ok.lex2
  simp only [lexOk, Bool.and_eq_true] at hlex
  refine ⟨by simp [ok.size], fun j hj hl => ?_, fun j hj => ?_, ok.nd1, hn.2, fun j hj h => ok.dis j hj (List.mem_cons_of_mem _ h), fun t ht => ⟨(ok.ndt t ht).1, fun h => (ok.ndt t ht).2 (List.mem_cons_of_mem _ h)⟩, lexOk_set _ _ ok.lex1, hlex.2, ok.ch1, freeL_set _ _ ok.fr1, chained_tail ok.ch2,
    fun t ht => (ok.root t ht).imp id (fun h => ⟨h.1, behind_tail h.2⟩), fun a ha b hb => ok.apart a ha b (List.mem_cons_of_mem _ hb)⟩
  · by_cases hij : i = j
    · subst hij
      rw [show (listed.setIfInBounds i true).getD i true = true by simp [ok.size, hlt]] at hl
      cases hl
    · rw [getD_set_ne true hij] at hl
      rcases ok.cover j hj hl with h | h | h
      · exact .inl h
      · rcases List.mem_cons.1 h with h | h
        · exact absurd h.symm hij
        · exact .inr (.inl h)
      · exact .inr (.inr h)
  · have := ok.un j (by rcases hj with h | h | h <;> simp [h])
    exact ⟨this.1, by rw [getD_set_ne true (hne j hj)]; exact this.2⟩

/-- A thread some steps of which (fl) yield one value in whatever world. -/
def TWF (P : Program) (ops : Array Oper) (B : Nat) (fl : List Nat) : List Nat → (List Value → HP → Prop) → Act → HP → Prop
  | [], Φ, _, A => Φ [] A
  | i :: l, Φ, a, A => Loc B A ∧ ∃ o, ops[i]? = some o ∧ ((i ∈ fl ∧ ∃ v, Yields P ops o v a ∧ TWF P ops B fl l (fun vs => Φ (v :: vs)) (a.put o.dst v) A) ∨
      (i ∉ fl ∧ ((Region.wanted o (yielded ops a.tmps) = true ∧ StepR P B o a A (fun v A' => Loc B A' ∧ TWF P ops B fl l (fun vs => Φ (v :: vs)) (a.put o.dst v) A')) ∨
      (Region.wanted o (yielded ops a.tmps) = false ∧ TWF P ops B fl l (fun vs => Φ (undef :: vs)) (a.put o.dst undef) A))))

theorem Yields.put (hsel : Region.noSelect ops = true) {o oi : Oper} {j : Nat} (hj : ops[j]? = some o) (hoa : o.apart ops oi = true) {u v : Value} {a : Act} (h : Yields P ops o u a) : Yields P ops o u (a.put oi.dst v) := by
  obtain ⟨h1, h2, h3⟩ := Oper.apart_spec hoa
  have sj := Region.noSelect_spec hsel j o
  have he := execOp_put o (fun cs b => sj cs b hj) a oi.dst v h3
  have hw := wanted_put o a oi.dst v h3
  unfold Yields at *
  rw [he, hw]
  exact h
theorem TWF.put (hsel : Region.noSelect ops = true) {fl : List Nat} {oi : Oper} {v : Value} : ∀ (l : List Nat) (Φ : List Value → HP → Prop) (a : Act) (A : HP), (∀ j ∈ l, ∀ o, ops[j]? = some o → o.apart ops oi = true) → TWF P ops B fl l Φ a A → TWF P ops B fl l Φ (a.put oi.dst v) A
  | [], _, _, _, _, h => h
  | j :: l, Φ, a, A, hap, h => by
    obtain ⟨hloc, o, hj, h⟩ := h
    have hoa := hap j List.mem_cons_self o hj
    obtain ⟨h1, h2, h3⟩ := Oper.apart_spec hoa
    have sj := Region.noSelect_spec hsel j o
    have he := execOp_put o (fun cs b => sj cs b hj) a oi.dst v h3
    have hw := wanted_put o a oi.dst v h3
    have hl : ∀ j' ∈ l, ∀ o, ops[j']? = some o → o.apart ops oi = true := fun j' hj' => hap j' (List.mem_cons_of_mem _ hj')
    refine ⟨hloc, o, hj, ?_⟩
    rcases h with ⟨hf, u, hy, ht⟩ | ⟨hf, ⟨hwa, hst⟩ | ⟨hwa, hr⟩⟩
    · left
      refine ⟨hf, u, Yields.put hsel hj hoa hy, ?_⟩
      rw [← Act.put_comm a u v h2]
      exact TWF.put hsel l _ _ _ hl ht
    · right
      refine ⟨hf, .inl ⟨by rw [hw]; exact hwa, ?_⟩⟩
      have hst' : StepR P B o (a.put oi.dst v) A (fun v' A' => Loc B A' ∧ TWF P ops B fl l (fun vs => Φ (v' :: vs)) (a.put o.dst v') A') := by
        unfold StepR at hst ⊢
        rw [he]
        exact hst
      refine hst'.imp fun v' A' ⟨hl', ht⟩ => ⟨hl', ?_⟩
      rw [← Act.put_comm a v' v h2]
      exact TWF.put hsel l _ _ _ hl ht
    · right
      refine ⟨hf, .inr ⟨by rw [hw]; exact hwa, ?_⟩⟩
      rw [← Act.put_comm a undef v h2]
      exact TWF.put hsel l _ _ _ hl hr

theorem wpAny_twof {fl : List Nat} (hsel : Region.noSelect ops = true) (hQ : ∀ c a d v w, Q (.panic c) (a.put (some d) v) w → Q (.panic c) a w) {ts : List Nat} {R : HP} [Loc B R] {fuel : Nat} : ∀ (n : Nat) (l1 l2 : List Nat) (listed : Array Bool) (a : Act) (w : World) (Φ1 Φ2 : List Value → HP → Prop) (A1 A2 : HP), l1.length + l2.length = n → Loc B A1 → Loc B A2 →
    TwofOk fl md ops listed l1 l2 ts → TWF P ops B fl l1 Φ1 a A1 → TW P ops B (opsOf ops l2) Φ2 a A2 → B ≤ w.heap.size → Own B (A1 * (A2 * R)) w →
    (∀ vs1 A1' vs2 A2' w', Φ1 vs1 A1' → Φ2 vs2 A2' → Own B (A1' * (A2' * R)) w' → Below B w w' → wpAny P md ops Q fuel (markAll l2 (markAll l1 listed)) (putAll (opsOf ops l2) vs2 (putAll (opsOf ops l1) vs1 a)) w') →
    wpAny P md ops Q (n + fuel) listed a w
  | 0, l1, l2, listed, a, w, Φ1, Φ2, A1, A2, hn, _, _, ok, h1, h2, hB, hO, hK => by
    obtain rfl : l1 = [] := List.eq_nil_of_length_eq_zero (by omega)
    obtain rfl : l2 = [] := List.eq_nil_of_length_eq_zero (by omega)
    rw [Nat.zero_add]
    exact hK [] A1 [] A2 w h1 h2 hO (Below.refl B w)
  | n + 1, l1, l2, listed, a, w, Φ1, Φ2, A1, A2, hn, k1, k2, ok, h1, h2, hB, hO, hK => by
    rw [show n + 1 + fuel = (n + fuel) + 1 by omega]
    by_cases hfl : ∃ x l, l1 = x :: l ∧ x ∈ fl
    · obtain ⟨i, l, rfl, hif⟩ := hfl
      obtain ⟨_, o, ho, h1 | h1⟩ := h1
      · obtain ⟨_, v, hy, ht⟩ := h1
        have hlex := ok.lex1
        simp only [lexOk, Bool.and_eq_true] at hlex
        have hfr := ok.fr1
        simp only [freeL, Bool.and_eq_true, Bool.or_eq_true] at hfr
        have hfree : Region.free md ops listed i = true := by
          rcases hfr.1 with h | h
          · simp [hif] at h
          · exact h
        have hun := ok.un i (by simp)
        have hrd : i ∈ Region.ready md ops listed := mem_ready'.2 ⟨hun.1, hun.2, hlex.1⟩
        have hap : ∀ o' ∈ opsOf ops l2, (∃ j : Nat, ops[j]? = some o') ∧ o'.apart ops o = true := fun o' h' => by
          obtain ⟨j, hj, hoj⟩ := mem_opsOf h'
          exact ⟨⟨j, hoj⟩, (ok.apart i List.mem_cons_self j hj o o' ho hoj).2⟩
        have hlen : l.length + l2.length = n := by simp at hn; omega
        refine wpAny_take ho hsel hfree (by simpa using hrd) (fun c a w hq => ?_) hy ?_
        · cases hd : o.dst with
          | none => rw [hd] at hq; exact hq
          | some d => rw [hd] at hq; exact hQ c a d v w hq
        · refine wpAny_twof hsel hQ n l l2 _ _ w (fun vs => Φ1 (v :: vs)) Φ2 A1 A2 hlen k1 k2 ok.strike1 ht (h2.put hsel _ _ _ _ hap) hB hO fun vs1 A1' vs2 A2' w'' p1 p2 hO'' hb' => ?_
          have := hK (v :: vs1) A1' vs2 A2' w'' p1 p2 hO'' hb'
          rw [opsOf_cons ho] at this
          exact this
      · exact absurd hif h1.1
    have hh : ∀ x l, l1 = x :: l → x ∉ fl := fun x l e hx => hfl ⟨x, l, e, hx⟩
    have hne : l1 ≠ [] ∨ l2 ≠ [] := by
      cases l1 with
      | nil => right; intro e; subst e; simp at hn
      | cons x l => left; simp
    have hrdy : Region.ready md ops listed ≠ [] := by
      intro h0
      rcases hne with hne | hne
      · obtain ⟨x, l, rfl⟩ : ∃ x l, l1 = x :: l := by cases l1 with | nil => exact absurd rfl hne | cons x l => exact ⟨x, l, rfl⟩
        have hlex := ok.lex1
        simp only [lexOk, Bool.and_eq_true] at hlex
        have hun := ok.un x (by simp)
        have : x ∈ Region.ready md ops listed := mem_ready'.2 ⟨hun.1, hun.2, hlex.1⟩
        rw [h0] at this; cases this
      · obtain ⟨x, l, rfl⟩ : ∃ x l, l2 = x :: l := by cases l2 with | nil => exact absurd rfl hne | cons x l => exact ⟨x, l, rfl⟩
        have hlex := ok.lex2
        simp only [lexOk, Bool.and_eq_true] at hlex
        have hun := ok.un x (by simp)
        have : x ∈ Region.ready md ops listed := mem_ready'.2 ⟨hun.1, hun.2, hlex.1⟩
        rw [h0] at this; cases this
    refine ⟨fun h0 => absurd h0 hrdy, fun i hi => ?_⟩
    have hlt := (mem_ready'.1 hi).1
    obtain ⟨o, ho⟩ : ∃ o, ops[i]? = some o := ⟨_, Array.getElem?_eq_getElem hlt⟩
    unfold wpOp
    simp only [ho]
    rcases ok.only hh hne hi with ⟨l, rfl⟩ | ⟨l, rfl⟩
    · obtain ⟨_, o', ho', h1⟩ := h1
      obtain rfl := Option.some.inj (ho.symm.trans ho')
      have hap : ∀ o' ∈ opsOf ops l2, (∃ j : Nat, ops[j]? = some o') ∧ o'.apart ops o = true := fun o' h' => by
        obtain ⟨j, hj, hoj⟩ := mem_opsOf h'
        exact ⟨⟨j, hoj⟩, (ok.apart i List.mem_cons_self j hj o o' ho hoj).2⟩
      have hlen : l.length + l2.length = n := by simp at hn; omega
      rcases h1 with h1 | ⟨_, h1⟩
      · exact absurd h1.1 (hh i l rfl)
      rcases h1 with h1 | h1
      · rw [if_pos h1.1]
        left
        refine h1.2.wp hB hO fun v A' w' ⟨kl, ht⟩ hO' hb => ?_
        refine wpAny_twof hsel hQ n l l2 _ _ w' (fun vs => Φ1 (v :: vs)) Φ2 A' A2 hlen kl k2 ok.strike1 ht (h2.put hsel _ _ _ _ hap) (Nat.le_trans hB hb.size) hO' fun vs1 A1' vs2 A2' w'' p1 p2 hO'' hb' => ?_
        have := hK (v :: vs1) A1' vs2 A2' w'' p1 p2 hO'' (hb.trans hb')
        rw [opsOf_cons ho] at this
        exact this
      · rw [if_neg (by rw [h1.1]; exact Bool.false_ne_true)]
        refine wpAny_twof hsel hQ n l l2 _ _ w (fun vs => Φ1 (undef :: vs)) Φ2 A1 A2 hlen k1 k2 ok.strike1 h1.2 (h2.put hsel _ _ _ _ hap) hB hO fun vs1 A1' vs2 A2' w'' p1 p2 hO'' hb' => ?_
        have := hK (undef :: vs1) A1' vs2 A2' w'' p1 p2 hO'' hb'
        rw [opsOf_cons ho] at this
        exact this
    · rw [opsOf_cons ho] at h2
      have hap1 : ∀ j ∈ l1, ∀ o', ops[j]? = some o' → o'.apart ops o = true := fun j hj o' hoj => (ok.apart j hj i List.mem_cons_self o' o hoj ho).1
      have hap : ∀ o' ∈ opsOf ops l1, o'.apart ops o = true := fun o' h' => by
        obtain ⟨j, hj, hoj⟩ := mem_opsOf h'
        exact hap1 j hj o' hoj
      have hlen : l1.length + l.length = n := by simp at hn; omega
      obtain ⟨_, h2 | h2⟩ := h2
      · rw [if_pos h2.1]
        left
        refine h2.2.wp hB (hO.cast (sep_left_comm _ _ _)) fun v A' w' ⟨kl, ht⟩ hO' hb => ?_
        refine wpAny_twof hsel hQ n l1 l _ _ w' Φ1 (fun vs => Φ2 (v :: vs)) A1 A' hlen k1 kl ok.strike2 (h1.put hsel _ _ _ _ hap1) ht (Nat.le_trans hB hb.size) (hO'.cast (sep_left_comm _ _ _)) fun vs1 A1' vs2 A2' w'' p1 p2 hO'' hb' => ?_
        have := hK vs1 A1' (v :: vs2) A2' w'' p1 p2 hO'' (hb.trans hb')
        rw [opsOf_cons ho] at this
        rw [putAll_put _ _ _ _ _ hap, markAll_set]
        exact this
      · rw [if_neg (by rw [h2.1]; exact Bool.false_ne_true)]
        refine wpAny_twof hsel hQ n l1 l _ _ w Φ1 (fun vs => Φ2 (undef :: vs)) A1 A2 hlen k1 k2 ok.strike2 (h1.put hsel _ _ _ _ hap1) h2.2 hB hO fun vs1 A1' vs2 A2' w'' p1 p2 hO'' hb' => ?_
        have := hK vs1 A1' (undef :: vs2) A2' w'' p1 p2 hO'' hb'
        rw [opsOf_cons ho] at this
        rw [putAll_put _ _ _ _ _ hap, markAll_set]
        exact this

/-- THE RULE: us free · l1 and l2 two threads, those of fl free as soon as they are ready · ts behind both. -/
theorem wp_region_twof {id : Nat} {a : Act} {w : World} (us fl l1 l2 ts : List Nat) (A1 A2 R : HP) [k1 : Loc B A1] [k2 : Loc B A2] [Loc B R] (hm : P.follows .mixedOrders = true)
    (hB : (freeB .any ops us (Array.replicate ops.size false) && twofB fl .any ops (markAll us (Array.replicate ops.size false)) l1 l2 ts) = true) (hf : ops.size = us.length + ((l1.length + l2.length) + ts.length))
    (hQ : ∀ c a d v w, Q (.panic c) (a.put (some d) v) w → Q (.panic c) a w) (hsz : B ≤ w.heap.size) (hO : Own B (A1 * (A2 * R)) w.drew)
    (h : wpFree P ops (fun a1 => ∃ Φ1 Φ2 : List Value → HP → Prop, TWF P ops B fl l1 Φ1 a1 A1 ∧ TW P ops B (opsOf ops l2) Φ2 a1 A2 ∧
      ∀ vs1 A1' vs2 A2' w', Φ1 vs1 A1' → Φ2 vs2 A2' → Own B (A1' * (A2' * R)) w' → Below B w w' → wpAny P .any ops Q ts.length (markAll l2 (markAll l1 (markAll us (Array.replicate ops.size false)))) (putAll (opsOf ops l2) vs2 (putAll (opsOf ops l1) vs1 a1)) w')
      (us.filterMap fun i => ops[i]?) a) : (Code.region id ops true).wp P Q a w := by
  rw [Bool.and_eq_true] at hB
  refine wp_region_any hm ?_
  obtain ⟨hsel, ok⟩ := twofB_ok hB.2
  have hgo : wpAny P .any ops Q (us.length + ((l1.length + l2.length) + ts.length)) (Array.replicate ops.size false) a w.drew := by
    refine wpAny_free hQ hsel us _ a hB.1 (fun a' ⟨Φ1, Φ2, t1, t2, hK⟩ => ?_) h
    exact wpAny_twof hsel hQ (l1.length + l2.length) l1 l2 _ a' _ Φ1 Φ2 A1 A2 rfl k1 k2 ok t1 t2 hsz hO fun vs1 A1' vs2 A2' w' p1 p2 ho hb => hK vs1 A1' vs2 A2' w' p1 p2 ho ((Below.refl B w).drew.trans hb)
  rw [← hf] at hgo
  exact hgo

theorem twf_nil {fl : List Nat} {Φ : List Value → HP → Prop} {a : Act} {A : HP} (h : Φ [] A) : TWF P ops B fl [] Φ a A := h
theorem twf_free {fl : List Nat} {i : Nat} {o : Oper} {l : List Nat} {Φ : List Value → HP → Prop} {a : Act} {A : HP} [k : Loc B A] (ho : ops[i]? = some o) (hi : i ∈ fl) (v : Value) (hw : Region.wanted o (yielded ops a.tmps) = true)
    (hv : ∀ w, (execOp a.eval o).run P w = .ok (.value v) w) (h : TWF P ops B fl l (fun vs => Φ (v :: vs)) (a.put o.dst v) A) : TWF P ops B fl (i :: l) Φ a A :=
  ⟨k, o, ho, .inl ⟨hi, v, .inl ⟨hw, hv⟩, h⟩⟩
theorem twf_val {fl : List Nat} {i : Nat} {o : Oper} {l : List Nat} {Φ : List Value → HP → Prop} {a : Act} {A : HP} [k : Loc B A] (ho : ops[i]? = some o) (hi : i ∉ fl) (v : Value) (hw : Region.wanted o (yielded ops a.tmps) = true)
    (hv : ∀ (R : HP) [Loc B R] (w : World), Own B (A * R) w → (execOp a.eval o).run P w = .ok (.value v) w) (h : TWF P ops B fl l (fun vs => Φ (v :: vs)) (a.put o.dst v) A) : TWF P ops B fl (i :: l) Φ a A :=
  ⟨k, o, ho, .inr ⟨hi, .inl ⟨hw, fun R _ w hB hO => by rw [hv R w hO]; exact ⟨A, ⟨k, h⟩, hO, Below.refl B w⟩⟩⟩⟩
theorem twf_call {fl : List Nat} {i : Nat} {o : Oper} {l : List Nat} {Φ : List Value → HP → Prop} {a : Act} {A : HP} [k : Loc B A] (ho : ops[i]? = some o) (hi : i ∉ fl) (f : FuncId) (args : Array Value) (Ψ : Value → HP → Prop) (hw : Region.wanted o (yielded ops a.tmps) = true)
    (hr : ∀ (R : HP) [Loc B R] (w : World), Own B (A * R) w → (execOp a.eval o).run P w = .ok (.enter f args) w)
    (hc : ∀ (R : HP) [Loc B R] (w : World), B ≤ w.heap.size → Own B (A * R) w → Calls P f args w fun e w' => ∃ v A', e = .returned v ∧ (Loc B A' ∧ Ψ v A') ∧ Own B (A' * R) w' ∧ Below B w w')
    (h : ∀ v A', Loc B A' → Ψ v A' → TWF P ops B fl l (fun vs => Φ (v :: vs)) (a.put o.dst v) A') : TWF P ops B fl (i :: l) Φ a A :=
  ⟨k, o, ho, .inr ⟨hi, .inl ⟨hw, fun R _ w hB hO => by rw [hr R w hO]; exact (hc R w hB hO).mono fun e w' ⟨v, A', he, ⟨kl, hp⟩, ho, hb⟩ => ⟨v, A', he, ⟨kl, h v A' kl hp⟩, ho, hb⟩⟩⟩⟩
end
end Go.Proofs.YtfppancidgamjaaDoor

/- The walk over the law EntryFinds. -/
namespace Go.Proofs.YtfppancidgamjaaDoor
set_option linter.unusedVariables false
set_option linter.unusedSimpArgs false
open Go.RowKit

/-- All below B is as it was. -/
def Kept (B : Nat) (w0 : World) : HP := fun w _ => ∀ k, k < B → w.heap[k]? = w0.heap[k]?
instance Loc.kept {B : Nat} {w0 : World} : Loc B (Kept B w0) := ⟨fun _ _ _ _ h2 h k hk => (h2 k hk).trans (h k hk), fun _ _ _ _ h => h⟩
theorem Own.kept {B : Nat} {R : HP} {w0 w : World} (h : Own B R w) (hb : Below B w0 w) (hB : B ≤ w0.heap.size) : Own B (Kept B w0 * R) w := by
  obtain ⟨F, hf, hr⟩ := h
  exact ⟨F, hf, fun _ => False, F, fun _ h => h.elim, fun _ h => h.elim, fun _ h => h, fun k hk => hb.block k hk, hr⟩
theorem Own.kept_out {B : Nat} {R : HP} {w0 w : World} (h : Own B (Kept B w0 * R) w) : ∀ k, k < B → w.heap[k]? = w0.heap[k]? := let ⟨_, _, _, _, _, _, _, hp, _⟩ := h; hp
theorem RdA.kept {α : Type} {k : Nat} {cs : α → List Value} {w w' : World} {A : Option Addr} {l : List α} (h : RdA k cs w A l) (hk : ∀ j, j < w.heap.size → w'.heap[j]? = w.heap[j]?) (hs : w.heap.size ≤ w'.heap.size) : RdA k cs w' A l := fun i hi => by
  obtain ⟨b, off, ha, hlt, hc⟩ := h i hi
  refine ⟨b, off, ha, by omega, fun j u hu => ?_⟩
  rw [World.cell?_of_block (w := w) (w' := w') (a := ⟨b, off + i * k + j, none⟩) (hk b hlt)]
  exact hc j u hu

theorem Own.bk_ne {B : Nat} {R : HP} {w : World} {a b : Nat} {t u : TypeId} {cs ds : Array Value} (h : Own B (Bk a t cs * (Bk b u ds * R)) w) : a ≠ b := by
  obtain ⟨F, _, F1, F2, hd, h1, h2, ⟨ha, _⟩, F3, F4, _, h3, _, ⟨hb, _⟩, _⟩ := h
  intro e
  subst e
  exact hd a ha (h3 a hb)
theorem paths_distinct {l : List En} (h : fineB l = true) {i j : Nat} (hi : i < l.length) (hj : j < i) : l[j].path ≠ l[i].path := by
  have h1 := (sortedB_iff _).1 (whyE_zero (fineB_true h).1).1
  have h2 := (sorted_pairwise.1 h1).1
  have h3 := List.pairwise_iff_getElem.1 h2 j i (by simp; omega) (by simpa using hi) hj
  simp only [List.getElem_map] at h3
  intro e
  rw [e, (cmpL_cmp.zero _ _).2 rfl] at h3
  omega
theorem find_take {l : List En} (h : fineB l = true) {i : Nat} (hi : i < l.length) : findE (l.take i) l[i].path = none := by
  unfold findE
  rw [List.find?_eq_none]
  intro x hx
  obtain ⟨j, hj, rfl⟩ := List.mem_iff_getElem.1 hx
  rw [List.length_take] at hj
  rw [List.getElem_take]
  simpa using paths_distinct h hi (show j < i by omega)
theorem find_self {l : List En} (h : fineB l = true) {i : Nat} (hi : i < l.length) : findE l l[i].path = some l[i] := by
  have e : l = l.take i ++ l[i] :: l.drop (i + 1) := by
    conv => lhs; rw [← List.take_append_drop i l, List.drop_eq_getElem_cons hi]
  have h1 := find_take h hi
  unfold findE at h1 ⊢
  conv => lhs; arg 2; rw [e]
  rw [List.find?_append, h1]
  rw [Option.none_or, List.find?_cons_of_pos (by simp)]

def zeroC : Array Value := #[.string ByteArray.empty, .int .i64 0, .int .i64 0, .int .i64 0, .string ByteArray.empty, .int .i64 0, .int .i64 0]

set_option maxRecDepth 100000 in
set_option maxHeartbeats 6400000 in
theorem finds_walk (A : Option Addr) (c : Nat) (l : List En) (hl : l.length ≤ c) (hc : c ≤ 9223372036854775807) (hw : ∀ x ∈ l, x.ok) (w : World) (h : Sh w) (hr : RdA 7 enL w A l) :
    Calls Tryd.prog 5 #[.slice A l.length c] w fun e w' => e = .returned (.bool true) ∧ Below w.heap.size w w' := by
  have hb := Below.refl w.heap.size w
  have Hh := Lib.hid (fun w1 (b : Below w.heap.size w w1) => sh_below h b)
  have Aw := Lib.hid (fun w1 h1 => awakeE_any w1 h1)
  have Fe := Lib.hid (short_any A c l (by omega) hw w hr)
  have Hr := Lib.hid (fun w1 (b : Below w.heap.size w w1) => hr.below b)
  have Hk0 := Lib.hid hr
  by_cases hf : shortP l
  · rw [decide_eq_true hf] at Fe
    have f1 := hf.1
    have f2 : ∀ e ∈ l, e.path.length ≤ 4294967280 := fun e he => by have := (hf.2 e he).1; omega
    have n1 : (l.length : Int) ≤ 20 := by omega
    have n2 : (l.length : Int) ≤ (c : Int) := by omega
    have n3 : (c : Int) ≤ 9223372036854775807 := by omega
    have F := Lib.hid (fun w1 h1 hr => fine_any A c l (by omega) hw f2 w1 h1 hr)
    cases hff : fineB l with
    | false =>
      rw [hff] at F
      clear h hr hf f2 hff
      go_enter Tryd.func5, Tryd.ntmps5
      go_wp2_with fail
      refine (Fe.out).mono ?_
      rintro e wz ⟨rfl, rfl⟩
      go_wp2_with fail
      refine (F.out _ (Hh.out _ hb) (Hr.out _ hb)).mono ?_
      rintro e wz ⟨rfl, b⟩
      replace hb := hb.trans (b.mono hb.size)
      clear b
      go_wp2_with fail
      refine (Aw.out _ (Hh.out _ hb)).mono ?_
      rintro e wz ⟨rfl, b⟩
      replace hb := hb.trans (b.mono hb.size)
      clear b
      go_wp2
      go_ret
      exact ⟨rfl, hb⟩
    | true =>
      rw [hff] at F
      have Fi := Lib.hid (fun i (hi : i < l.length) (w1 : World) hr => find_any A c l (by omega) (str l[i].path) w1 hr)
      have Ft := Lib.hid (fun i (hi : i < l.length) (w1 : World) hr => find_any A c (l.take i) (by rw [List.length_take]; omega) (str l[i].path) w1 hr)
      have Hs := Lib.hid (fun i hi => find_self hff (i := i) hi)
      have Ht := Lib.hid (fun i hi => find_take hff (i := i) hi)
      have hg := guardEn
      clear h hr hf f2 hff
      go_enter Tryd.func5, Tryd.ntmps5
      go_wp2_with fail
      refine (Fe.out).mono ?_
      rintro e wz ⟨rfl, rfl⟩
      go_wp2_with fail
      refine (F.out _ (Hh.out _ hb) (Hr.out _ hb)).mono ?_
      rintro e wz ⟨rfl, b⟩
      replace hb := hb.trans (b.mono hb.size)
      clear b
      go_wp2
      go_loopg [20] l.length (fun k v wr => ∃ i : Nat, k + i = l.length ∧ v = .int .i64 i ∧ Below w.heap.size w wr)
      case atStart => exact ⟨0, by omega, rfl, hb⟩
      case round =>
        clear hb
        obtain ⟨i, hk, rfl, hb⟩ := hrel
        by_cases hlt : (i : Int) < (l.length : Int)
        · obtain ⟨j, rfl⟩ : ∃ j, gk = j + 1 := ⟨gk - 1, by omega⟩
          have hil : i < l.length := by omega
          have i0' : (0 : Int) ≤ (i : Int) := by omega
          have ic : (i : Int) ≤ (c : Int) := by omega
          have icn : i ≤ c := by omega
          have Hk := Lib.hid hk
          clear hk
          obtain ⟨b, off, rfl, q, d⟩ := Hr.out _ hb i hil
          have F1 := Lib.hid (Fi.out i hil)
          have F2 := Lib.hid (Ft.out i hil)
          have hs := Hs.out i hil
          have ht := Ht.out i hil
          have hlen : (l.take i).length = i := by rw [List.length_take]; omega
          rw [hlen] at F2
          simp only [data_str] at F1 F2
          rw [hs] at F1
          rw [ht] at F2
          have hneq := fun W => neqEn l[i] l[i] W
          rw [decide_eq_true rfl] at hneq
          clear hs ht hlen
          generalize l[i] = x at *
          obtain ⟨path, kind, mode, time, tgt, beg, size⟩ := x
          obtain ⟨d0, d1, d2, d3, d4, d5, d6⟩ := RdA.cells7 d
          simp only [enL] at d0 d1 d2 d3 d4 d5 d6 hneq
          simp only at F1 F2
          clear d
          have o1 := (Own.start w.heap.size wr).new hb.size 30 #[.string (str path), .int .i64 kind, .int .i64 mode, .int .i64 time, .string (str tgt), .int .i64 beg, .int .i64 size]
          have hb1 := hb.alloc hb.size (.cells #[.string (str path), .int .i64 kind, .int .i64 mode, .int .i64 time, .string (str tgt), .int .i64 beg, .int .i64 size] 30)
          go_wp2_with fail
          refine (F1.out _ (Hr.out _ hb1)).mono ?_
          rintro e w2 ⟨rfl, b2⟩
          have o2 := o1.grown hb1.size b2
          have hb2 := hb1.trans (b2.mono hb1.size)
          simp only [Option.getD_some, Option.isSome_some, enL]
          have o3 := o2.new hb2.size 30 #[.string (str path), .int .i64 kind, .int .i64 mode, .int .i64 time, .string (str tgt), .int .i64 beg, .int .i64 size]
          have hb3 := hb2.alloc hb2.size (.cells #[.string (str path), .int .i64 kind, .int .i64 mode, .int .i64 time, .string (str tgt), .int .i64 beg, .int .i64 size] 30)
          clear d0 d1 d2 d3 d4 d5 d6 o1 o2 hb1 hb2 b2 hb
          go_wp2
          generalize w2.alloc (.cells #[.string (str path), .int .i64 kind, .int .i64 mode, .int .i64 time, .string (str tgt), .int .i64 beg, .int .i64 size] 30) = W3 at *
          generalize w2.heap.size = g5 at *
          generalize wr.heap.size = g4 at *
          have o4 := (o3.emp).kept hb3 (Nat.le_refl _)
          clear o3
          refine wp_region_twof (B := w.heap.size) [0, 1, 2, 3] [8] [4, 5, 6, 8, 7] [9] [10, 11] (Kept w.heap.size w * Bk g4 30 #[.string (str path), .int .i64 kind, .int .i64 mode, .int .i64 time, .string (str tgt), .int .i64 beg, .int .i64 size]) Emp _ mixed (by kernel_rfl) rfl (fun _ _ _ _ _ h => h) hb3.size ((o4.cast (show _ = (Kept w.heap.size w * Bk g4 _ _) * (Emp * (Bk g5 _ _ * Emp)) by ac_rfl)).drew hb3.size) ?_
          simp only [List.filterMap_cons, List.filterMap_nil, List.getElem?_toArray, List.getElem?_cons_succ, List.getElem?_cons_zero]
          repeat (
            refine free_val ?_ rfl (fun w1 => ?_) ?_
            rotate_left
            · (go_simp
               try go_bits
               rfl)
            simp only [Act.put, List.setIfInBounds_toArray, List.set_cons_zero, List.set_cons_succ])
          refine free_nil ?_
          refine ⟨fun vs F => vs = [.string (str path), .tuple #[.agg (enL default).toArray, .bool false], .tuple #[.agg (enL default).toArray, .bool false], .bool false, .agg (enL default).toArray] ∧ F = (Kept w.heap.size w * Bk g4 30 #[.string (str path), .int .i64 kind, .int .i64 mode, .int .i64 time, .string (str tgt), .int .i64 beg, .int .i64 size]), fun vs F => ∃ g, vs = [.pointer (some ⟨g, 0, none⟩)] ∧ F = Bk g 30 zeroC, ?_, ?_, ?_⟩
          · refine twf_val rfl (by decide) ?_ rfl (fun R1 _ w1 hS => ?_) ?_
            rotate_left
            · have c0 : w1.cell? ⟨g4, 0, none⟩ = some (.string (str path)) := (hS.cast (show _ = Bk g4 _ _ * (Kept w.heap.size w * R1) by ac_rfl)).cell 0
              go_simp
              rfl
            simp only [Act.put, List.setIfInBounds_toArray, List.set_cons_zero, List.set_cons_succ]
            refine twf_call rfl (by decide) 20 #[.slice (some ⟨b, off, none⟩) i c, .string (str path)] (fun v F => v = .tuple #[.agg (enL default).toArray, .bool false] ∧ F = (Kept w.heap.size w * Bk g4 30 #[.string (str path), .int .i64 kind, .int .i64 mode, .int .i64 time, .string (str tgt), .int .i64 beg, .int .i64 size])) rfl (fun R1 _ w1 hS => by go_simp) (fun R1 _ w1 hB1 hS => (F2.out w1 ((Hk0.out.take i).kept hS.assoc.kept_out hB1)).mono ?_) ?_
            · rintro e w2 ⟨rfl, b2⟩
              exact ⟨_, _, rfl, ⟨inferInstance, rfl, rfl⟩, hS.grown hB1 b2, b2.mono hB1⟩
            rintro v F _ ⟨rfl, rfl⟩
            simp only [Act.put, List.setIfInBounds_toArray, List.set_cons_zero, List.set_cons_succ]
            refine twf_val rfl (by decide) ?_ rfl (fun R1 _ w1 hS => ?_) ?_
            rotate_left
            · go_simp
              rfl
            simp only [Act.put, List.setIfInBounds_toArray, List.set_cons_zero, List.set_cons_succ]
            refine twf_free rfl (by decide) ?_ rfl (fun w1 => ?_) ?_
            rotate_left
            · go_simp
              rfl
            simp only [Act.put, List.setIfInBounds_toArray, List.set_cons_zero, List.set_cons_succ]
            refine twf_val rfl (by decide) ?_ rfl (fun R1 _ w1 hS => ?_) ?_
            rotate_left
            · go_simp
              rfl
            simp only [Act.put, List.setIfInBounds_toArray, List.set_cons_zero, List.set_cons_succ]
            exact twf_nil ⟨rfl, rfl⟩
          · simp only [opsOf, List.filterMap_cons, List.filterMap_nil, List.getElem?_toArray, List.getElem?_cons_succ, List.getElem?_cons_zero]
            refine tw_run (fun v F => ∃ g, v = .pointer (some ⟨g, 0, none⟩) ∧ F = Bk g 30 zeroC) rfl (fun R1 _ w1 hB1 hS => ⟨.pointer (some ⟨w1.heap.size, 0, none⟩), _, w1.alloc (.cells zeroC 30), by unfold zeroC; go_simp; rfl, ⟨inferInstance, _, rfl, rfl⟩, (hS.drop).new hB1 30 zeroC, (Below.refl w.heap.size w1).alloc hB1 _⟩) ?_
            rintro v F _ ⟨g, rfl, rfl⟩
            simp only [Act.put, List.setIfInBounds_toArray, List.set_cons_zero, List.set_cons_succ]
            exact tw_nil ⟨g, rfl, rfl⟩
          · rintro vs1 A1' vs2 A2' w4 ⟨rfl, rfl⟩ ⟨g, rfl, rfl⟩ o5 b5
            simp only [opsOf, putAll, Act.put, List.filterMap_cons, List.filterMap_nil, List.getElem?_toArray, List.getElem?_cons_succ, List.getElem?_cons_zero, List.setIfInBounds_toArray, List.set_cons_zero, List.set_cons_succ]
            have e0 : (enL default).toArray = zeroC := rfl
            rw [e0]
            refine wpAny_mix (· = w4) [] [10, 11] (by kernel_rfl) rfl rfl ?_
            simp only [List.filterMap_cons, List.filterMap_nil, List.getElem?_toArray, List.getElem?_cons_succ, List.getElem?_cons_zero]
            refine held_nil ?_
            rintro w5 rfl
            have hb4 := hb3.trans b5
            have n1 : g ≠ g5 := (o5.cast (show _ = Bk g _ _ * (Bk g5 _ _ * (Kept w.heap.size w * (Bk g4 _ _ * Emp))) by ac_rfl)).bk_ne
            have n2 : g ≠ g4 := (o5.cast (show _ = Bk g _ _ * (Bk g4 _ _ * (Kept w.heap.size w * (Bk g5 _ _ * Emp))) by ac_rfl)).bk_ne
            have n1' := Ne.symm n1
            have n2' := Ne.symm n2
            have k1 := o5.cast (show _ = Bk g5 _ _ * (Kept w.heap.size w * (Bk g4 _ _ * (Bk g _ zeroC * Emp))) by ac_rfl)
            have k2 := o5.cast (show _ = Bk g4 _ _ * (Kept w.heap.size w * (Bk g5 _ _ * (Bk g _ zeroC * Emp))) by ac_rfl)
            have k3 := o5.cast (show _ = Bk g _ zeroC * (Kept w.heap.size w * (Bk g5 _ _ * (Bk g4 _ _ * Emp))) by ac_rfl)
            have f0 := k3.unfrozen 0
            have f1 := k3.unfrozen 1
            have f2 := k3.unfrozen 2
            have f3 := k3.unfrozen 3
            have f4 := k3.unfrozen 4
            have f5 := k3.unfrozen 5
            have f6 := k3.unfrozen 6
            have z0 : w5.cell? ⟨g, 0, none⟩ = some (.string ByteArray.empty) := k3.cell 0
            have z1 : w5.cell? ⟨g, 1, none⟩ = some (.int .i64 0) := k3.cell 1
            have z2 : w5.cell? ⟨g, 2, none⟩ = some (.int .i64 0) := k3.cell 2
            have z3 : w5.cell? ⟨g, 3, none⟩ = some (.int .i64 0) := k3.cell 3
            have z4 : w5.cell? ⟨g, 4, none⟩ = some (.string ByteArray.empty) := k3.cell 4
            have z5 : w5.cell? ⟨g, 5, none⟩ = some (.int .i64 0) := k3.cell 5
            have z6 : w5.cell? ⟨g, 6, none⟩ = some (.int .i64 0) := k3.cell 6
            have x0 : w5.cell? ⟨g5, 0, none⟩ = some (.string (str path)) := k1.cell 0
            have x1 : w5.cell? ⟨g5, 1, none⟩ = some (.int .i64 kind) := k1.cell 1
            have x2 : w5.cell? ⟨g5, 2, none⟩ = some (.int .i64 mode) := k1.cell 2
            have x3 : w5.cell? ⟨g5, 3, none⟩ = some (.int .i64 time) := k1.cell 3
            have x4 : w5.cell? ⟨g5, 4, none⟩ = some (.string (str tgt)) := k1.cell 4
            have x5 : w5.cell? ⟨g5, 5, none⟩ = some (.int .i64 beg) := k1.cell 5
            have x6 : w5.cell? ⟨g5, 6, none⟩ = some (.int .i64 size) := k1.cell 6
            have y0 : w5.cell? ⟨g4, 0, none⟩ = some (.string (str path)) := k2.cell 0
            have y1 : w5.cell? ⟨g4, 1, none⟩ = some (.int .i64 kind) := k2.cell 1
            have y2 : w5.cell? ⟨g4, 2, none⟩ = some (.int .i64 mode) := k2.cell 2
            have y3 : w5.cell? ⟨g4, 3, none⟩ = some (.int .i64 time) := k2.cell 3
            have y4 : w5.cell? ⟨g4, 4, none⟩ = some (.string (str tgt)) := k2.cell 4
            have y5 : w5.cell? ⟨g4, 5, none⟩ = some (.int .i64 beg) := k2.cell 5
            have y6 : w5.cell? ⟨g4, 6, none⟩ = some (.int .i64 size) := k2.cell 6
            have s6 := (k3.set7 hb4.size (.string ByteArray.empty) (.int .i64 0) (.int .i64 0) (.int .i64 0) (.string ByteArray.empty) (.int .i64 0) (.int .i64 0)).2
            have hb5 := hb4.trans s6
            clear s6 k1 k2 k3 o5 o4 hb4 b5 hb3 n1 n2 e0
            unfold zeroC
            go_wp2
            go_roundg j
            case measure => omega
            case rel => exact ⟨i + 1, by have := Hk.out; omega, rfl, hb5⟩
        · clear hk
          go_wp2_with fail
          refine (Aw.out _ (Hh.out _ hb)).mono ?_
          rintro e wz ⟨rfl, b⟩
          replace hb := hb.trans (b.mono hb.size)
          clear b
          go_wp2
          go_ret
          exact ⟨rfl, hb⟩
  · rw [decide_eq_false hf] at Fe
    clear h hr hf
    go_enter Tryd.func5, Tryd.ntmps5
    go_wp2_with fail
    refine (Fe.out).mono ?_
    rintro e wz ⟨rfl, rfl⟩
    go_wp2_with fail
    refine (Aw.out _ (Hh.out _ hb)).mono ?_
    rintro e wz ⟨rfl, b⟩
    replace hb := hb.trans (b.mono hb.size)
    clear b
    go_wp2
    go_ret
    exact ⟨rfl, hb⟩
end Go.Proofs.YtfppancidgamjaaDoor

/- Entries told as the document's, with the row that is made. -/
namespace Go.Proofs.YtfppancidgamjaaDoor
set_option linter.unusedVariables false
set_option linter.unusedSimpArgs false
open Go.RowKit

/-- What a call leaves that returns a row of its own. -/
def RetRow (t : TypeId) (k : Nat) (w : World) (n : Nat) (xs : List Value) (e : Ending) (w' : World) : Prop := ∃ A c, e = .returned (.slice A n c) ∧ w'.ownsRow w.heap.size t k (.slice A n c) n xs ∧ Below w.heap.size w w'
theorem RetRow.mk {t : TypeId} {k n m : Nat} {w w' : World} {xs : List Value} {e : Ending} {A : Option Addr} {c : Nat} {R : HP} (he : e = .returned (.slice A m c)) (hm : m = n) (ho : Own w.heap.size (Rw t k (.slice A n c) n xs * R) w') (hb : Below w.heap.size w w') : RetRow t k w n xs e w' := by
  subst hm; exact ⟨A, c, he, ho.row, hb⟩

set_option maxRecDepth 100000 in
set_option maxHeartbeats 3200000 in
theorem given_own (A : Option Addr) (c : Nat) (l : List En) (hl : l.length ≤ 4294967296) (w : World) (hr : RdA 7 enL w A l) :
    Calls Tryd.prog 25 #[.slice A l.length c] w (RetRow 63 7 w l.length (flat enL l)) := by
  obtain ⟨i0, hi, hz0, hz1, hz2⟩ := info_parts infoEnR
  have Hi0 := Lib.hid (And.intro hi (And.intro hz0 (And.intro hz1 hz2)))
  have hO := (Own.start w.heap.size w).rw_nil 63 7
  have hb := Below.refl w.heap.size w
  have Hr := Lib.hid (fun w1 (b : Below w.heap.size w w1) => hr.below b)
  have n1 : (l.length : Int) ≤ 4294967296 := by omega
  clear hr hi hz0 hz1 hz2
  go_enter Tryd.func25, Tryd.ntmps25
  go_wp2
  go_loopg [3, 8] l.length (fun k v u wr => ∃ (i : Nat) (A' : Option Addr) (c' : Nat), k + i = l.length ∧ u = .int .i64 i ∧ v = .slice A' i c' ∧ Below w.heap.size w wr ∧ Own w.heap.size (Rw 63 7 (.slice A' i c') i (flat enL (l.take i)) * Emp) wr)
  case atStart => exact ⟨0, none, 0, by omega, rfl, rfl, hb, hO⟩
  case round =>
    clear hb hO
    obtain ⟨i, A', c', hk, rfl, rfl, hb, ho⟩ := hrel
    by_cases hlt : (i : Int) < (l.length : Int)
    · obtain ⟨j, rfl⟩ : ∃ j, gk = j + 1 := ⟨gk - 1, by omega⟩
      have hil : i < l.length := by omega
      have i0' : (0 : Int) ≤ (i : Int) := by omega
      obtain ⟨b, off, rfl, q, d⟩ := Hr.out _ hb i hil
      have Hk := Lib.hid hk
      have Hsn : Hid (l.take (i + 1) = l.take i ++ [l[i]]) := Lib.hid (List.take_succ_eq_append_getElem hil)
      clear hk
      generalize l.take i = E at *
      generalize l[i] = x at *
      obtain ⟨path, kind, mode, time, tgt, beg, size⟩ := x
      obtain ⟨d0, d1, d2, d3, d4, d5, d6⟩ := RdA.cells7 d
      simp only at d0 d1 d2 d3 d4 d5 d6 Hsn
      clear d
      have o1 := ho.alloc_keep hb.size (.cells #[.string (str path), .int .i64 kind, .int .i64 mode, .int .i64 time, .string (str tgt), .int .i64 beg, .int .i64 size] 30)
      have hb1 := hb.alloc hb.size (.cells #[.string (str path), .int .i64 kind, .int .i64 mode, .int .i64 time, .string (str tgt), .int .i64 beg, .int .i64 size] 30)
      obtain ⟨g2, cap2, w2, hrun, o2, b2⟩ := row_append (P := Tryd.prog) hb1.size Tryd.underlying33 Hi0.out.1 Hi0.out.2.1 Hi0.out.2.2.1 Hi0.out.2.2.2 rfl (by omega) o1 #[.string (str path), .int .i64 kind, .int .i64 mode, .int .i64 time, .string (str tgt), .int .i64 beg, .int .i64 size] rfl
        (by intro u hu; simp at hu; rcases hu with rfl | rfl | rfl | rfl | rfl | rfl | rfl <;> rfl) (by omega) (by omega)
      rw [World.size_alloc] at hrun
      have Hrun := Lib.hid hrun
      have hb2 := hb1.trans b2
      clear hrun o1 hb1 hb ho b2
      go_wp2_with (at_builtin; refine wpList_append_at rfl (.tmp 12) (.tmp 28) 33 rfl rfl rfl Hrun.out ?_)
      go_roundg j
      case measure => omega
      case rel => exact ⟨i + 1, some ⟨g2, 0, none⟩, cap2, by have := Hk.out; omega, rfl, rfl, hb2, by rw [Hsn.out, flat_snoc]; exact o2⟩
    · obtain rfl : i = l.length := by omega
      rw [List.take_length] at ho
      go_wp2
      go_ret
      exact RetRow.mk rfl rfl ho hb
end Go.Proofs.YtfppancidgamjaaDoor

/- The walk over the law EntryOne. -/
namespace Go.Proofs.YtfppancidgamjaaDoor
set_option linter.unusedVariables false
set_option linter.unusedSimpArgs false
open Go.RowKit

theorem Rd.kept {w w' : World} {v : Value} {xs : List Value} (h : Rd w v xs) (hk : ∀ j, j < w.heap.size → w'.heap[j]? = w.heap[j]?) : Rd w' v xs := by
  obtain ⟨A, c, hv, hr⟩ := h
  refine ⟨A, c, hv, fun hne => ?_⟩
  obtain ⟨ad, ha, hc⟩ := hr hne
  exact ⟨ad, ha, fun j u hu => (World.cell?_of_block (hk _ (World.block_lt_of_cell? w _ (hc j u hu)))).trans (hc j u hu)⟩
theorem reffine_any' (l : List En) (hx : ∀ e ∈ l, e.num) (hl : l.length ≤ 1024) (A : Option Addr) (c : Nat) (w : World) (hr : RdA 7 enL w A l) :
    Calls Tryd.prog 27 #[.slice A l.length c] w fun e w' => e = .returned (.bool (fineB l)) ∧ Below w.heap.size w w' :=
  reffine_any A c l (by omega) (fun e he => (hx e he).ok.1) (fun e he => (hx e he).ok.2) w hr

set_option maxRecDepth 100000 in
set_option maxHeartbeats 6400000 in
theorem one_walk (A : Option Addr) (c : Nat) (b : List UInt8) (hbc : b.length ≤ c ∧ c ≤ 9223372036854775807) (w : World) (h : Sh w) (hr : Rd w (.slice A b.length c) (bytesU b)) :
    Calls Tryd.prog 9 #[.slice A b.length c] w fun e w' => e = .returned (.bool true) ∧ Below w.heap.size w w' := by
  have hb := Below.refl w.heap.size w
  have Hh := Lib.hid (fun w1 (b : Below w.heap.size w w1) => sh_below h b)
  have Aw := Lib.hid (fun w1 h1 => awakeE_any w1 h1)
  have Hr := Lib.hid (fun w1 (b : Below w.heap.size w w1) => hr.below b)
  have n0 : (b.length : Int) ≤ 9223372036854775807 := by omega
  by_cases hlong : (3000 : Int) < (b.length : Int)
  · clear h hr
    generalize b.length = n at *
    go_enter Tryd.func9, Tryd.ntmps9
    go_wp2_with fail
    refine (Aw.out _ (Hh.out _ hb)).mono ?_
    rintro e wz ⟨rfl, b⟩
    replace hb := hb.trans (b.mono hb.size)
    clear b
    go_wp2
    go_ret
    exact ⟨rfl, hb⟩
  · have D := decode_any (.slice A b.length c) b (by omega) w h hr
    unfold DecP at D
    have Hdz : Hid ((decP b).2 ≠ 0 → (decP b).1 = []) := Lib.hid (fun hz => by
      unfold decP at hz ⊢
      split
      · rfl
      · rename_i h0; rw [if_neg h0] at hz; exact absurd rfl hz)
    have Hok : Hid ((decP b).2 = 0 → fineB (decP b).1 = true ∧ encL (decP b).1 = b) := Lib.hid (fun hz => decP_ok (Prod.ext rfl hz))
    clear h hr
    generalize (decP b).1 = x at *
    generalize (decP b).2 = z at *
    by_cases hz : z = 0
    · subst hz
      obtain ⟨hfx, hex⟩ := Hok.out rfl
      have hnum := fine_num hfx
      have hxl := (whyE_zero (fineB_true hfx).1).2.1
      have G := Lib.hid (fun A c w1 hr => given_own A c x (by omega) w1 hr)
      have F := Lib.hid (fun A c w1 hr => reffine_any' x hnum hxl A c w1 hr)
      have E := Lib.hid (fun A c w1 hr => refenc_any A c x hxl hnum w1 hr)
      rw [hfx] at F
      have Hex := Lib.hid hex
      clear hfx hex hnum Hok Hdz
      go_enter Tryd.func9, Tryd.ntmps9
      go_wp2_with fail
      refine D.mono ?_
      rintro e w1 ⟨Ax, cx, rfl, hcx, r1, b1⟩
      replace hb := hb.trans b1
      have R1 := Lib.hid (fun w2 (b : Below w1.heap.size w1 w2) => r1.below b)
      have hb1 := Below.refl w1.heap.size w1
      clear r1 b1 D
      generalize hn : x.length = n at *
      have Hn := Lib.hid hn.symm
      clear hn
      go_wp2
      refine wp_region_pre [0, 1, 2, 3] 12 mixed (by kernel_rfl) rfl ?_
      simp only [List.filterMap_cons, List.filterMap_nil, List.getElem?_toArray, List.getElem?_cons_succ, List.getElem?_cons_zero]
      replace hb := hb.drew
      replace hb1 := hb1.drew
      go_wp2_with fail
      refine (G.out _ _ _ (R1.out _ hb1)).mono ?_
      rintro e w2 ⟨A2, c2, rfl, ho2, b2⟩
      replace hb := hb.trans (b2.mono hb.size)
      replace hb1 := hb1.trans (b2.mono hb1.size)
      have r2 : RdA 7 enL w2 A2 x := Own.rdA enL_len Hn.out (Own.fresh (Nat.le_refl _) (Own.start _ _) ho2 b2)
      clear b2 ho2
      go_wp2_with fail
      refine (F.out _ _ _ r2).mono ?_
      rintro e w3 ⟨rfl, b3⟩
      replace hb := hb.trans (b3.mono hb.size)
      replace hb1 := hb1.trans (b3.mono hb1.size)
      clear b3 r2
      go_wp2
      have r3 := R1.out _ hb1
      have d3 := Hr.out _ hb
      refine wpAny_ltwo (B := w3.heap.size) [4, 8] [9] [5, 6, 7] [] [10, 11, 12, 13, 14, 15] (Kept w3.heap.size w3) Emp (Kept w3.heap.size w3) (by kernel_rfl) rfl (fun _ _ _ _ _ h => h) (Nat.le_refl _) ((((Own.start w3.heap.size w3).kept (Below.refl _ _) (Nat.le_refl _)).kept (Below.refl _ _) (Nat.le_refl _)).cast (by ac_rfl)) ?_
      simp only [List.filterMap_cons, List.filterMap_nil, List.getElem?_toArray, List.getElem?_cons_succ, List.getElem?_cons_zero]
      repeat (
        refine free_val ?_ rfl (fun w1 => ?_) ?_
        rotate_left
        · (go_simp
           try go_bits
           rfl)
        simp only [Act.put, List.setIfInBounds_toArray, List.set_cons_zero, List.set_cons_succ])
      refine free_nil ?_
      repeat (first
        | (refine late_val ?_ rfl (fun w1 hS => ?_) ?_
           rotate_left
           · (have s9 := str_of_rd (d3.kept hS.emp.swap.kept_out)
              go_simp
              try go_bits
              rfl)
           simp only [Act.put, List.setIfInBounds_toArray, List.set_cons_zero, List.set_cons_succ])
        | (refine late_off rfl ?_
           simp only [Act.put, List.setIfInBounds_toArray, List.set_cons_zero, List.set_cons_succ]))
      refine late_nil ?_
      refine ⟨fun vs F => ∃ v5 v6, vs = [v5, v6, .string (str b)], fun vs F => vs = [] ∧ F = Emp, ?_, ?_, ?_⟩
      · simp only [opsOf, List.filterMap_cons, List.filterMap_nil, List.getElem?_toArray, List.getElem?_cons_succ, List.getElem?_cons_zero]
        refine tw_call 25 #[.slice Ax n cx] (fun v F => ∃ A5 c5, v = .slice A5 n c5 ∧ F = Rw 63 7 (.slice A5 n c5) n (flat enL x)) rfl (fun R1 _ w1 hS => by go_simp) (fun R1 _ w1 hB1 hS => (G.out _ _ w1 (r3.kept hS.kept_out hB1)).mono ?_) ?_
        · rintro e w4 ⟨A5, c5, rfl, ho5, b5⟩
          exact ⟨_, _, rfl, ⟨inferInstance, A5, c5, rfl, rfl⟩, (Own.fresh hB1 hS.right ho5 b5), b5.mono hB1⟩
        · rintro v5 F5 _ ⟨A5, c5, rfl, rfl⟩
          simp only [Act.put, List.setIfInBounds_toArray, List.set_cons_zero, List.set_cons_succ]
          refine tw_call 30 #[.slice A5 n c5] (fun v F => ∃ A6 c6, v = .slice A6 b.length c6 ∧ F = Rw 5 1 (.slice A6 b.length c6) b.length (bytesU b)) rfl (fun R1 _ w1 hS => by go_simp) (fun R1 _ w1 hB1 hS => (E.out _ _ w1 (Own.rdA enL_len Hn.out hS)).mono ?_) ?_
          · rintro e w4 ⟨v6, rfl, ho6, b6⟩
            rw [Hex.out] at ho6
            have o6 := Own.fresh hB1 hS.right ho6 b6
            obtain ⟨A6, c6, rfl⟩ := o6.row_n
            exact ⟨_, _, rfl, ⟨inferInstance, A6, c6, rfl, rfl⟩, o6, b6.mono hB1⟩
          · rintro v6 F6 _ ⟨A6, c6, rfl, rfl⟩
            simp only [Act.put, List.setIfInBounds_toArray, List.set_cons_zero, List.set_cons_succ]
            refine tw_val (.string (str b)) rfl (fun R1 _ w1 hS => ?_) ?_
            · have s7 := str_of_rd hS.rd
              go_simp
            · exact tw_nil ⟨_, _, rfl⟩
      · simp only [opsOf, List.filterMap_cons, List.filterMap_nil, List.getElem?_toArray, List.getElem?_cons_succ, List.getElem?_cons_zero]
        exact tw_nil ⟨rfl, rfl⟩
      · rintro vs1 F1 vs2 F2 w4 ⟨v5, v6, rfl⟩ ⟨rfl, rfl⟩ o4 b4
        simp only [opsOf, putAll, Act.put, List.filterMap_cons, List.filterMap_nil, List.getElem?_toArray, List.getElem?_cons_succ, List.getElem?_cons_zero, List.setIfInBounds_toArray, List.set_cons_zero, List.set_cons_succ]
        replace hb := hb.trans (b4.mono hb.size)
        have heq : ((str b).toList == (str b).toList) = true := by simp
        clear o4 b4 r3 d3 hb1 R1
        go_wp2_with fail
        refine (Aw.out _ (Hh.out _ hb)).mono ?_
        rintro e wz ⟨rfl, b⟩
        replace hb := hb.trans (b.mono hb.size)
        clear b
        go_wp2
        go_ret
        exact ⟨rfl, hb⟩
    · have hx0 := Hdz.out hz
      subst hx0
      have hz1 : (z == 0) = false := by simpa using hz
      clear Hdz Hok
      go_enter Tryd.func9, Tryd.ntmps9
      go_wp2_with fail
      refine D.mono ?_
      rintro e w1 ⟨Ax, cx, rfl, hcx, r1, b1⟩
      replace hb := hb.trans b1
      clear r1 b1 D
      go_wp2_with fail
      refine (Aw.out _ (Hh.out _ hb)).mono ?_
      rintro e wz ⟨rfl, b⟩
      replace hb := hb.trans (b.mono hb.size)
      clear b
      go_wp2
      go_ret
      exact ⟨rfl, hb⟩
end Go.Proofs.YtfppancidgamjaaDoor

/- The walk over the law EntryEncodes. -/
namespace Go.Proofs.YtfppancidgamjaaDoor
set_option linter.unusedVariables false
set_option linter.unusedSimpArgs false
open Go.RowKit

set_option maxRecDepth 100000 in
set_option maxHeartbeats 6400000 in
theorem encodes_walk (A : Option Addr) (c : Nat) (l : List En) (hl : l.length ≤ 9223372036854775807) (hw : ∀ x ∈ l, x.ok) (w : World) (h : Sh w) (hr : RdA 7 enL w A l) :
    Calls Tryd.prog 10 #[.slice A l.length c] w fun e w' => e = .returned (.bool true) ∧ Below w.heap.size w w' := by
  have hb := Below.refl w.heap.size w
  have Hh := Lib.hid (fun w1 (b : Below w.heap.size w w1) => sh_below h b)
  have Aw := Lib.hid (fun w1 h1 => awakeE_any w1 h1)
  have Sh0 := Lib.hid (short_any A c l hl hw w hr)
  have Hr := Lib.hid (fun w1 (b : Below w.heap.size w w1) => hr.below b)
  by_cases hs : shortP l
  · rw [decide_eq_true hs] at Sh0
    have hl20 : l.length ≤ 20 := hs.1
    have hpx : ∀ e ∈ l, e.path.length ≤ 4294967280 := fun e he => by have := (hs.2 e he).1; omega
    have E := encode_any A c l (by omega) hw hpx w h hr
    have G := Lib.hid (fun w1 hr => given_own A c l (by omega) w1 hr)
    have F := Lib.hid (fun A c w1 hr => reffine_any A c l (by omega) hw hpx w1 hr)
    have n1 : (l.length : Int) ≤ 20 := by omega
    unfold EncP at E
    clear h hr hs
    cases hf : fineB l with
    | false =>
      rw [hf] at F
      rw [hf] at E
      simp only [Bool.false_eq_true, if_false] at E
      clear hpx hf
      generalize hn : l.length = n at *
      have Hn := Lib.hid hn.symm
      clear hn
      go_enter Tryd.func10, Tryd.ntmps10
      go_wp2_with fail
      refine (Sh0.out).mono ?_
      rintro e wz ⟨rfl, rfl⟩
      go_wp2_with fail
      refine E.mono ?_
      rintro e w1 ⟨rfl, b1⟩
      replace hb := hb.trans b1
      clear b1 E
      go_wp2_with fail
      refine (G.out _ (Hr.out _ hb)).mono ?_
      rintro e w2 ⟨A2, c2, rfl, ho2, b2⟩
      have r2 : RdA 7 enL w2 A2 l := Own.rdA enL_len Hn.out (Own.fresh (Nat.le_refl _) (Own.start _ _) ho2 b2)
      replace hb := hb.trans (b2.mono hb.size)
      clear b2 ho2
      go_wp2_with fail
      refine (F.out _ _ _ r2).mono ?_
      rintro e w3 ⟨rfl, b3⟩
      replace hb := hb.trans (b3.mono hb.size)
      clear b3 r2
      go_wp2_with fail
      refine (Aw.out _ (Hh.out _ hb)).mono ?_
      rintro e wz ⟨rfl, b⟩
      replace hb := hb.trans (b.mono hb.size)
      clear b
      go_wp2
      go_ret
      exact ⟨rfl, hb⟩
    | true =>
      rw [hf] at F
      rw [hf] at E
      simp only [if_true] at E
      have hnum := fine_num hf
      have RE := Lib.hid (fun A c w1 hr => refenc_any A c l (by omega) hnum w1 hr)
      have hdl : (encL l).length ≤ 140737488355328 := by
        have : ∀ m : List En, (∀ e ∈ m, e.num) → (m.flatMap encE).length ≤ 554 * m.length := by
          intro m
          induction m with
          | nil => simp
          | cons e m ih =>
            intro hm
            have h1 := ih (fun x hx => hm x (List.mem_cons_of_mem _ hx))
            have h2 := encE_len (hm e List.mem_cons_self)
            rw [List.flatMap_cons, List.length_append, List.length_cons]
            omega
        have h1 := this l hnum
        unfold encL
        rw [List.length_append]
        have := onumI_len (l.length : Int)
        omega
      have D := Lib.hid (fun v w1 h1 h2 => decode_any v (encL l) hdl w1 h1 h2)
      unfold DecP at D
      rw [decP_enc hf] at D
      simp only at D
      have Sm := Lib.hid (fun A B ca cb w1 h1 h2 => same_any A B ca cb l l (by omega) (by omega) w1 h1 h2)
      rw [decide_eq_true rfl] at Sm
      clear hpx hf hnum
      generalize hn : l.length = n at *
      have Hn := Lib.hid hn.symm
      clear hn
      generalize encL l = b at *
      go_enter Tryd.func10, Tryd.ntmps10
      go_wp2_with fail
      refine (Sh0.out).mono ?_
      rintro e wz ⟨rfl, rfl⟩
      go_wp2_with fail
      refine E.mono ?_
      rintro e w1 ⟨vb, rfl, hob, b1⟩
      have oB := Own.fresh (Nat.le_refl _) (Own.start _ _) hob b1
      obtain ⟨Ab, cb, rfl⟩ := oB.row_n
      have rb := oB.rd
      have Rb := Lib.hid (fun w2 (b : Below w1.heap.size w1 w2) => rb.below b)
      replace hb := hb.trans b1
      have hb1 := Below.refl w1.heap.size w1
      clear b1 E hob oB rb
      go_wp2_with fail
      refine (G.out _ (Hr.out _ hb)).mono ?_
      rintro e w2 ⟨A2, c2, rfl, ho2, b2⟩
      have r2 : RdA 7 enL w2 A2 l := Own.rdA enL_len Hn.out (Own.fresh (Nat.le_refl _) (Own.start _ _) ho2 b2)
      replace hb := hb.trans (b2.mono hb.size)
      replace hb1 := hb1.trans (b2.mono hb1.size)
      clear b2 ho2
      go_wp2_with fail
      refine (F.out _ _ _ r2).mono ?_
      rintro e w3 ⟨rfl, b3⟩
      replace hb := hb.trans (b3.mono hb.size)
      replace hb1 := hb1.trans (b3.mono hb1.size)
      clear b3 r2
      go_wp2_with fail
      refine (D.out _ _ (Hh.out _ hb) (Rb.out _ hb1)).mono ?_
      rintro e w4 ⟨Ak, ck, rfl, hck, rk, b4⟩
      replace hb := hb.trans (b4.mono hb.size)
      replace hb1 := hb1.trans (b4.mono hb1.size)
      have Rk := Lib.hid (fun w5 (b : Below w4.heap.size w4 w5) => rk.below b)
      clear b4 rk D
      go_wp2
      have r4 := Hr.out _ hb
      have d4 := Rb.out _ hb1
      refine wp_region_two (B := w4.heap.size) [0, 2] [1] [3, 4, 5] [6, 7, 8, 9, 10, 11, 12, 13, 14, 15, 16, 17, 18, 19, 20, 21, 22, 23, 24] (Kept w4.heap.size w4) (Kept w4.heap.size w4) Emp mixed (by kernel_rfl) rfl (fun _ _ _ _ _ h => h) (Nat.le_refl _) (((((Own.start w4.heap.size w4).kept (Below.refl _ _) (Nat.le_refl _)).kept (Below.refl _ _) (Nat.le_refl _))).drew (Nat.le_refl _)) ?_
      simp only [List.filterMap_cons, List.filterMap_nil, List.getElem?_toArray, List.getElem?_cons_succ, List.getElem?_cons_zero]
      repeat (
        refine free_val ?_ rfl (fun w1 => ?_) ?_
        rotate_left
        · (go_simp
           try go_bits
           rfl)
        simp only [Act.put, List.setIfInBounds_toArray, List.set_cons_zero, List.set_cons_succ])
      refine free_nil ?_
      refine ⟨fun vs F => vs = [.string (str b)] ∧ F = Kept w4.heap.size w4, fun vs F => ∃ v5 v6 A6 c6, vs = [v5, v6, .string (str b)] ∧ F = Rw 5 1 (.slice A6 b.length c6) b.length (bytesU b), ?_, ?_, ?_⟩
      · simp only [opsOf, List.filterMap_cons, List.filterMap_nil, List.getElem?_toArray, List.getElem?_cons_succ, List.getElem?_cons_zero]
        refine tw_val (.string (str b)) rfl (fun R1 _ w1 hS => ?_) ?_
        · have s1 := str_of_rd (d4.kept hS.kept_out)
          go_simp
        · exact tw_nil ⟨rfl, rfl⟩
      · simp only [opsOf, List.filterMap_cons, List.filterMap_nil, List.getElem?_toArray, List.getElem?_cons_succ, List.getElem?_cons_zero]
        refine tw_call 25 #[.slice A n c] (fun v F => ∃ A5 c5, v = .slice A5 n c5 ∧ F = Rw 63 7 (.slice A5 n c5) n (flat enL l)) rfl (fun R1 _ w1 hS => by go_simp) (fun R1 _ w1 hB1 hS => (G.out w1 (r4.kept hS.kept_out hB1)).mono ?_) ?_
        · rintro e w5 ⟨A5, c5, rfl, ho5, b5⟩
          exact ⟨_, _, rfl, ⟨inferInstance, A5, c5, rfl, rfl⟩, (Own.fresh hB1 hS.right ho5 b5), b5.mono hB1⟩
        · rintro v5 F5 _ ⟨A5, c5, rfl, rfl⟩
          simp only [Act.put, List.setIfInBounds_toArray, List.set_cons_zero, List.set_cons_succ]
          refine tw_call 30 #[.slice A5 n c5] (fun v F => ∃ A6 c6, v = .slice A6 b.length c6 ∧ F = Rw 5 1 (.slice A6 b.length c6) b.length (bytesU b)) rfl (fun R1 _ w1 hS => by go_simp) (fun R1 _ w1 hB1 hS => (RE.out _ _ w1 (Own.rdA enL_len Hn.out hS)).mono ?_) ?_
          · rintro e w5 ⟨v6, rfl, ho6, b6⟩
            have o6 := Own.fresh hB1 hS.right ho6 b6
            obtain ⟨A6, c6, rfl⟩ := o6.row_n
            exact ⟨_, _, rfl, ⟨inferInstance, A6, c6, rfl, rfl⟩, o6, b6.mono hB1⟩
          · rintro v6 F6 _ ⟨A6, c6, rfl, rfl⟩
            simp only [Act.put, List.setIfInBounds_toArray, List.set_cons_zero, List.set_cons_succ]
            refine tw_val (.string (str b)) rfl (fun R1 _ w1 hS => ?_) ?_
            · have s7 := str_of_rd hS.rd
              go_simp
            · exact tw_nil ⟨_, _, A6, c6, rfl, rfl⟩
      · rintro vs1 F1 vs2 F2 w5 ⟨rfl, rfl⟩ ⟨v5, v6, A6, c6, rfl, rfl⟩ o5 b5
        simp only [opsOf, putAll, Act.put, List.filterMap_cons, List.filterMap_nil, List.getElem?_toArray, List.getElem?_cons_succ, List.getElem?_cons_zero, List.setIfInBounds_toArray, List.set_cons_zero, List.set_cons_succ]
        replace hb := hb.trans (b5.mono hb.size)
        have rk5 := Rk.out _ b5
        have heq : ((str b).toList == (str b).toList) = true := by simp
        clear o5 b5 r4 d4 hb1 Rb Rk
        refine wpAny_pre [6, 7, 8, 9, 10, 11, 12, 13, 14, 15] (n := 9) (by kernel_rfl) rfl ?_
        simp only [List.filterMap_cons, List.filterMap_nil, List.getElem?_toArray, List.getElem?_cons_succ, List.getElem?_cons_zero]
        go_wp2
        have r5 := Hr.out _ hb
        refine wpAny_ltwo (B := w5.heap.size) [16, 17] [] [18] [] [19, 20, 21, 22, 23, 24] (Kept w5.heap.size w5) Emp Emp (by kernel_rfl) rfl (fun _ _ _ _ _ h => h) (Nat.le_refl _) ((((Own.start w5.heap.size w5).emp.kept (Below.refl _ _) (Nat.le_refl _)))) ?_
        simp only [List.filterMap_cons, List.filterMap_nil, List.getElem?_toArray, List.getElem?_cons_succ, List.getElem?_cons_zero]
        repeat (
          refine free_val ?_ rfl (fun w1 => ?_) ?_
          rotate_left
          · (go_simp
             try go_bits
             rfl)
          simp only [Act.put, List.setIfInBounds_toArray, List.set_cons_zero, List.set_cons_succ])
        refine free_nil ?_
        refine late_nil ?_
        refine ⟨fun vs F => ∃ A5 c5, vs = [.slice A5 n c5] ∧ F = Rw 63 7 (.slice A5 n c5) n (flat enL l), fun vs F => vs = [] ∧ F = Emp, ?_, ?_, ?_⟩
        · simp only [opsOf, List.filterMap_cons, List.filterMap_nil, List.getElem?_toArray, List.getElem?_cons_succ, List.getElem?_cons_zero]
          refine tw_call 25 #[.slice A n c] (fun v F => ∃ A5 c5, v = .slice A5 n c5 ∧ F = Rw 63 7 (.slice A5 n c5) n (flat enL l)) rfl (fun R1 _ w1 hS => by go_simp) (fun R1 _ w1 hB1 hS => (G.out w1 (r5.kept hS.kept_out hB1)).mono ?_) ?_
          · rintro e w6 ⟨A5, c5, rfl, ho5, b5⟩
            exact ⟨_, _, rfl, ⟨inferInstance, A5, c5, rfl, rfl⟩, (Own.fresh hB1 hS.right ho5 b5), b5.mono hB1⟩
          · rintro v5 F5 _ ⟨A5, c5, rfl, rfl⟩
            exact tw_nil ⟨A5, c5, rfl, rfl⟩
        · simp only [opsOf, List.filterMap_cons, List.filterMap_nil, List.getElem?_toArray, List.getElem?_cons_succ, List.getElem?_cons_zero]
          exact tw_nil ⟨rfl, rfl⟩
        · rintro vs1 F1 vs2 F2 w6 ⟨A5, c5, rfl, rfl⟩ ⟨rfl, rfl⟩ o6 b6
          simp only [opsOf, putAll, Act.put, List.filterMap_cons, List.filterMap_nil, List.getElem?_toArray, List.getElem?_cons_succ, List.getElem?_cons_zero, List.setIfInBounds_toArray, List.set_cons_zero, List.set_cons_succ]
          replace hb := hb.trans (b6.mono hb.size)
          have rk6 := rk5.below b6
          have rg6 : RdA 7 enL w6 A5 l := Own.rdA enL_len Hn.out o6
          clear o6 b6 rk5 r5
          go_wp2_with fail
          refine (Sm.out _ _ _ _ _ rk6 rg6).mono ?_
          rintro e w7 ⟨rfl, b7⟩
          replace hb := hb.trans (b7.mono hb.size)
          clear b7 rk6 rg6
          go_wp2_with fail
          refine (Aw.out _ (Hh.out _ hb)).mono ?_
          rintro e wz ⟨rfl, bz⟩
          replace hb := hb.trans (bz.mono hb.size)
          clear bz
          go_wp2
          go_ret
          exact ⟨rfl, hb⟩
  · rw [decide_eq_false hs] at Sh0
    clear h hr hs
    generalize l.length = n at *
    go_enter Tryd.func10, Tryd.ntmps10
    go_wp2_with fail
    refine (Sh0.out).mono ?_
    rintro e wz ⟨rfl, rfl⟩
    go_wp2_with fail
    refine (Aw.out _ (Hh.out _ hb)).mono ?_
    rintro e wz ⟨rfl, b⟩
    replace hb := hb.trans (b.mono hb.size)
    clear b
    go_wp2
    go_ret
    exact ⟨rfl, hb⟩
end Go.Proofs.YtfppancidgamjaaDoor
