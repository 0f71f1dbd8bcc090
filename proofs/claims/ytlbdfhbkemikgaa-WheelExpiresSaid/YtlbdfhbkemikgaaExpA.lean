/- WheelExpires: the walk, at most 500 timers. -/
import Derived.Test.YtlbdfhbkemikgaaExpKit
set_option linter.unusedVariables false
set_option linter.unusedSimpArgs false
namespace Go.Proofs.Ytlbdfhbkemikgaa.wheelExpires
open Go.ChangeShapes Go.WideShapes Go.ChangeAt Go.RowKit
open Plain


set_option maxHeartbeats 8000000 in
set_option maxRecDepth 100000 in
theorem walk_less (A : Option Addr) (n c : Nat) (f : Nat → Int) (A1 : Option Addr) (n1 c1 : Nat) (f1 : Nat → Int) (A2 : Option Addr) (n2 c2 : Nat) (f2 : Nat → Int) (w : World) (hn : n ≤ c) (hc : c ≤ 9223372036854775807) (hi : IntsAt w A n f)
    (hn1 : n1 ≤ c1) (hc1 : c1 ≤ 9223372036854775807) (hi1 : IntsAt w A1 n1 f1) (hn2 : n2 ≤ c2) (hc2 : c2 ≤ 9223372036854775807) (hi2 : IntsAt w A2 n2 f2) (hb : n ≤ 500) :
    Calls Try.prog 6 #[.slice A n c, .slice A1 n1 c1, .slice A2 n2 c2] w fun e w' => e = .returned (.bool true) ∧ Below w.heap.size w w' := by
  have conN := Lib.hid (newSt w 500 (by omega) (by omega))
  unfold iv at conN
  have HI := Lib.hid hi
  have HI1 := Lib.hid hi1
  have HI2 := Lib.hid hi2
  clear hi hi1 hi2
  have hb1 : ¬ (n : Int) > 500 := by omega
  go_enter Try.func6, Try.ntmps6
  go_wp2_with fail
  refine conN.out.mono ?_
  rintro e w1 ⟨p, m, V1, rfl, h1⟩
  have F1 : Hid (E1 w p m n (.slice none 0 0) (.int .i64 0) w1) := ⟨0, [], [], by omega, rfl, ⟨V1, S0 500, h1, ⟨rfl, rfl, rfl, rfl⟩, SlI.nil w1, fun g hg => by simp [Value.ownBlock] at hg⟩, R.nil, rfl, fun x hx => by simp at hx⟩
  clear conN h1
  go_wp2_with fail
  clear hb1
  go_loopw [9, 10] (fun v i wr => E1 w p m n v i wr) (fun _ i _ => n - (intOf i).toNat)
  case atStart => exact F1.out
  case round =>
    clear F1
    obtain ⟨k, L, a, hk, rfl, he, hr, hl, hf⟩ := hrel
    have HE := Lib.hid he
    have HR := Lib.hid hr
    have HL := Lib.hid hl
    have HF := Lib.hid hf
    clear he hr hl hf
    by_cases hkn : k < n
    · obtain ⟨b, o, rfl, hbl, hcell⟩ := (HI.out.keep HE.out.kept).2 (by omega)
      have hck := hcell k (by omega)
      have bf := HI.out.1 k (by omega)
      have P3 := Lib.hid (place_any (f k) 5000 wr bf.1 bf.2 (by omega) (by omega))
      have e0 : 0 ≤ f k % 5000 ∧ f k % 5000 < 5000 := by omega
      obtain ⟨d, hd⟩ : ∃ d : Nat, (d : Int) = f k % 5000 := ⟨(f k % 5000).toNat, by omega⟩
      rw [← hd] at e0 P3
      clear hcell hd bf
      have C3 := Lib.hid (e_start HE.out (by omega) (by omega) d (by omega))
      have e1 : Hid (0 + d = d) := Nat.zero_add _
      rw [e1.out] at C3
      go_wp2_with fail
      refine P3.out.mono ?_
      rintro e w3 ⟨rfl, rfl⟩
      clear P3 hck
      go_wp2_with fail
      refine C3.out.mono ?_
      rintro e w3 ⟨rfl, he3⟩
      have HE3 := Lib.hid he3
      have l1 : a.length < 1000 := by rw [HL.out]; omega
      clear he3 C3 HE
      go_wp2_with (at_builtin
                   refine wp_append_int rfl _ _ rfl _ _ w3 HE3.out.row (d : Int) rfl rfl (by omega) ?_
                   intro v4 w4 a1 a2 a3
                   have A1' := Lib.hid a1
                   have A2' := Lib.hid a2
                   have A3' := Lib.hid a3
                   clear a1 a2 a3)
      have hfin : E1 w p m n v4 (.int .i64 ((k : Int) + 1)) w4 := by
        refine ⟨k + 1, _, _, by omega, by go_num, e_append HE3.out A1'.out A2'.out A3'.out, ?_, by rw [List.length_append, HL.out]; rfl, HF.out.add d (by omega)⟩
        have := HR.out.add d 0
        rw [HL.out] at this
        exact this
      have HFIN := Lib.hid hfin
      clear hfin
      go_wp2_with fail
      exact ⟨HFIN.out, by simp [intOf]; omega⟩
    · obtain rfl : n = k := by omega
      have F2 : Hid (E2 w p m n n1 u9 (.int .i64 0) wr) := ⟨0, L, a, by omega, rfl, HE.out, HR.out, HL.out, HF.out⟩
      obtain ⟨A3, c3, e3, hA3⟩ := shape_ HE.out HL.out
      have HA3 := Lib.hid hA3
      subst e3
      clear HE HR HL HF hA3
      go_wp2_with fail
      go_loopw [14] (fun i wx => E2 w p m n n1 (.slice A3 n c3) i wx) (fun i _ => n1 - (intOf i).toNat)
      case atStart => exact F2.out
      case round =>
        clear F2
        obtain ⟨j, L, a, hj, rfl, he, hr, hl, hf⟩ := hrel
        have HE := Lib.hid he
        have HR := Lib.hid hr
        have HL := Lib.hid hl
        have HF := Lib.hid hf
        clear he hr hl hf
        by_cases hj1 : j < n1
        · by_cases hN : 0 < n
          · obtain ⟨g, rfl⟩ := HA3.out hN
            obtain ⟨b, o, rfl, hbl, hcell⟩ := (HI1.out.keep HE.out.kept).2 (by omega)
            have hck := hcell j (by omega)
            have bf := HI1.out.1 j (by omega)
            have P3 := Lib.hid (place_any (f1 j) n wr bf.1 bf.2 (by omega) (by omega))
            have e0 : 0 ≤ f1 j % n ∧ f1 j % n < n := ⟨Int.emod_nonneg _ (by omega), Int.emod_lt_of_pos _ (by omega)⟩
            obtain ⟨d, hd⟩ : ∃ d : Nat, (d : Int) = f1 j % n := ⟨(f1 j % n).toNat, by omega⟩
            rw [← hd] at e0 P3
            have dN : d < n := by omega
            clear hcell hd bf
            obtain ⟨x, hx⟩ : ∃ x, a[d]? = some x := ⟨a[d]'(by rw [HL.out]; exact dN), List.getElem?_eq_getElem _⟩
            have bx := HF.out.get hx
            by_cases hx0 : 0 ≤ x
            · obtain ⟨t, ht, htd⟩ := HR.out.has d x hx hx0
              have htx := HR.out.at_ t ht
              rw [htd, hx] at htx
              have C3 := Lib.hid (e_cancel HE.out (by omega) (by omega) ht)
              have e2 : Hid ((t.at_ : Int) - (0 : Nat) = x) := by unfold Hid; injection htx; omega
              rw [e2.out, htd] at C3
              have HX := Lib.hid hx
              clear htx hx htd HE ht
              have ge0 : decide (x ≥ 0) = true := decide_eq_true hx0
              go_wp2_with fail
              refine P3.out.mono ?_
              rintro e w3 ⟨rfl, rfl⟩
              clear P3 hck
              go_wp2_with fail
              refine C3.out.mono ?_
              rintro e w3 ⟨rfl, he3⟩
              have hcx : w3.cell? ⟨g, d, none⟩ = some (.int .i64 x) := sli_cell he3.row HX.out
              have hfr : w3.frozen? ⟨g, d, none⟩ = false := sli_free he3.row d
              have HE3 := Lib.hid he3
              clear he3 C3
              go_wp2_with fail
              as_aux_lemma =>
                go_quiet (fail)
                go_wp2_with fail
                have hfin : E2 w p m n n1 (.slice (some ⟨g, 0, none⟩) n c3) (.int .i64 ((j : Int) + 1)) ((w3.setCell ⟨g, d, none⟩ (.int .i64 (-1))).drewN nq) :=
                  ⟨j + 1, _, _, by omega, by go_num, (e_set HE3.out (by rw [HL.out]; exact dN) (-1)).keep ((Keep.refl Nothing _).drewN nq), HR.out.drop d, by rw [List.length_set]; exact HL.out, HF.out.set d⟩
                exact ⟨hfin, by simp [intOf]; omega⟩
            · have hno : ∀ t ∈ L, t.id ≠ d := fun t ht e => by
                have := HR.out.at_ t ht
                rw [e, hx] at this
                injection this; omega
              have C3 := Lib.hid (e_none HE.out (by omega) (by omega) d (by omega) hno)
              have LF : Hid (L.filter (fun t => decide (t.id ≠ d)) = L) := List.filter_eq_self.2 (fun t ht => by simpa using hno t ht)
              have HX := Lib.hid hx
              clear hx hno HE
              have ge0 : decide (x ≥ 0) = false := decide_eq_false (by omega)
              go_wp2_with fail
              refine P3.out.mono ?_
              rintro e w3 ⟨rfl, rfl⟩
              clear P3 hck
              go_wp2_with fail
              refine C3.out.mono ?_
              rintro e w3 ⟨ge, rfl, he3⟩
              rw [← LF.out] at he3
              have hcx : w3.cell? ⟨g, d, none⟩ = some (.int .i64 x) := sli_cell he3.row HX.out
              have hfr : w3.frozen? ⟨g, d, none⟩ = false := sli_free he3.row d
              have HE3 := Lib.hid he3
              clear he3 C3
              go_wp2_with fail
              as_aux_lemma =>
                go_quiet (fail)
                go_wp2_with fail
                have hfin : E2 w p m n n1 (.slice (some ⟨g, 0, none⟩) n c3) (.int .i64 ((j : Int) + 1)) ((w3.setCell ⟨g, d, none⟩ (.int .i64 (-1))).drewN nq) :=
                  ⟨j + 1, _, _, by omega, by go_num, (e_set HE3.out (by rw [HL.out]; exact dN) (-1)).keep ((Keep.refl Nothing _).drewN nq), HR.out.drop d, by rw [List.length_set]; exact HL.out, HF.out.set d⟩
                exact ⟨hfin, by simp [intOf]; omega⟩
          · have hj2 : ¬ (n : Int) > 0 := by omega
            as_aux_lemma =>
              have F3 : Hid (E3 w p m n n2 (.slice A3 n c3) (.int .i64 0) (.int .i64 0) wr) := ⟨0, 0, L, a, by omega, by omega, by omega, rfl, rfl, HE.out, HR.out, HL.out, HF.out⟩
              clear HE HR HL HF
              go_wp2_with fail
              go_loopw [18, 19] (fun s i wx => E3 w p m n n2 (.slice A3 n c3) s i wx) (fun _ i _ => 100 - (intOf i).toNat)
              case atStart => exact F3.out
              case round =>
                clear F3
                obtain ⟨y, now, L, a, hy, hy1, hnow, rfl, rfl, he, hr, hl, hf⟩ := hrel
                have HE := Lib.hid he
                have HR := Lib.hid hr
                have HL := Lib.hid hl
                have HF := Lib.hid hf
                clear he hr hl hf
                by_cases hy2 : y < n2
                · by_cases hy3 : y < 100
                  · obtain ⟨b, o, rfl, hbl, hcell⟩ := (HI2.out.keep HE.out.kept).2 (by omega)
                    have hck := hcell y (by omega)
                    have bf := HI2.out.1 y (by omega)
                    have P3 := Lib.hid (place_any (f2 y) 800 wr bf.1 bf.2 (by omega) (by omega))
                    have e0 : 0 ≤ f2 y % 800 ∧ f2 y % 800 < 800 := by omega
                    obtain ⟨d, hd⟩ : ∃ d : Nat, (d : Int) = f2 y % 800 := ⟨(f2 y % 800).toNat, by omega⟩
                    rw [← hd] at e0 P3
                    clear hcell hd bf
                    have C3 := Lib.hid (e_tick HE.out (by omega) (by omega) d (by omega))
                    have FA := Lib.hid HE.out.facts
                    go_wp2_with fail
                    refine P3.out.mono ?_
                    rintro e w3 ⟨rfl, rfl⟩
                    clear P3 hck
                    go_wp2_with fail
                    refine C3.out.mono ?_
                    rintro e w3 ⟨u, rfl, he3, hu, huo⟩
                    rw [← expT_ids] at hu
                    have F4 : Hid (E4 w p m n now d L u (.slice A3 n c3) (.int .i64 (-1)) (.int .i64 0) w3) :=
                      ⟨0, a, -1, Nat.zero_le _, rfl, rfl, fun _ _ _ _ _ => by omega, by omega, he3, HR.out.congr (List.filter_eq_self.2 (fun t _ => by simp)).symm, HL.out, HF.out, hu, huo⟩
                    obtain ⟨Au, cu, e3, hAu⟩ := shape_u hu
                    have HAU := Lib.hid hAu
                    subst e3
                    clear HE HR HL HF he3 hu huo hAu C3
                    go_wp2_with fail
                    go_loopw [22, 23] (fun z i wx => E4 w p m n now d L (.slice Au (expT L now (d + 1)).length cu) (.slice A3 n c3) z i wx) (fun _ i _ => (expT L now (d + 1)).length - (intOf i).toNat)
                    case atStart => exact F4.out
                    case round =>
                      clear F4
                      obtain ⟨q, a, z, hq, rfl, rfl, hz, bz, he, hr, hl, hf, hu, huo⟩ := hrel
                      by_cases hql : q < (expT L now (d + 1)).length
                      · obtain ⟨gu, rfl⟩ := HAU.out (by omega)
                        obtain ⟨t, ht⟩ : ∃ t, (expT L now (d + 1))[q]? = some t := ⟨_, List.getElem?_eq_getElem hql⟩
                        obtain ⟨k1, k2, k3, k4, k5⟩ := mid_facts FA.out.1 ht hr
                        have htl : t.id < n := by have := (List.getElem?_eq_some_iff.1 k5).1; omega
                        obtain ⟨g, rfl⟩ := HA3.out (by omega)
                        have hzt := hz t (List.mem_of_getElem? ht) q ht (Nat.le_refl _)
                        have hc1 : wr.cell? ⟨gu, q, none⟩ = some (.int .i64 (t.id : Int)) := sl_cell hu (by unfold ids; rw [List.getElem?_map, ht]; rfl)
                        have hc2 : wr.cell? ⟨g, t.id, none⟩ = some (.int .i64 (t.at_ : Int)) := sli_cell he.row k5
                        have hfr : wr.frozen? ⟨g, t.id, none⟩ = false := sli_free he.row t.id
                        have qb := short_T L now (d + 1)
                        have qb2 := FA.out.2.2
                        have qb3 : (q : Int) < 1000 := by omega
                        have i0 : 0 ≤ (t.id : Int) := by omega
                        have i1 : (t.id : Int) < (n : Int) := by omega
                        have i2 : 0 ≤ (t.at_ : Int) := by omega
                        have i3 : (t.at_ : Int) ≤ (now : Int) + d := by omega
                        have bt : t.at_ ≤ 5000 := by have := (hf.get k5).2; omega
                        have hfin : E4 w p m n now d L (.slice (some ⟨gu, 0, none⟩) (expT L now (d + 1)).length cu) (.slice (some ⟨g, 0, none⟩) n c3) (.int .i64 (t.at_ : Int)) (.int .i64 ((q : Int) + 1)) (wr.setCell ⟨g, t.id, none⟩ (.int .i64 (-1))) := by
                          refine ⟨q + 1, a.set t.id (-1), t.at_, hql, by go_num, rfl, fun s _ k hk hqk => ?_, by omega, e_set he (by omega) (-1), ?_, by rw [List.length_set]; exact hl, hf.set _, hu.of_block (fun x hx => Below.heap_setCell wr _ _ x (fun e => huo x hx (by rw [e]; rfl))), huo⟩
                          · have := later_at FA.out.1 ht hk (by omega)
                            omega
                          · exact (hr.drop t.id).congr (filter_take L (ids (expT L now (d + 1))) q t.id (by unfold ids; rw [List.getElem?_map, ht]; rfl))
                        have HFIN := Lib.hid hfin
                        clear hz he hr hl hf hu huo hfin k1 k2 k3 k4 k5 ht
                        go_wp2_with fail
                        all_goals exact ⟨HFIN.out, by simp [intOf]; omega⟩
                      · obtain rfl : q = (expT L now (d + 1)).length := by omega
                        have hr2 : R (L.filter (fun t => decide (now + d < t.at_))) a := hr.congr (by rw [show (expT L now (d + 1)).length = (ids (expT L now (d + 1))).length by simp [ids], List.take_length]; exact filter_all FA.out.1 FA.out.2.1)
                        have HE := Lib.hid he
                        have HR := Lib.hid hr2
                        have HL := Lib.hid hl
                        have HF := Lib.hid hf
                        clear he hr hr2 hl hf hu huo hz
                        obtain ⟨w5, rfl⟩ : ∃ w5 : World, w5 = wr := ⟨_, rfl⟩
                        go_wp2_with fail
                        go_loopw [24] (fun i wx => ∃ k : Nat, k ≤ n ∧ i = .int .i64 (k : Int) ∧ wx = w5) (fun i _ => n - (intOf i).toNat)
                        case atStart => exact ⟨0, Nat.zero_le _, rfl, rfl⟩
                        case round =>
                          obtain ⟨k, hk, rfl, rfl⟩ := hrel
                          by_cases hkl : k < n
                          · obtain ⟨g, rfl⟩ := HA3.out (by omega)
                            obtain ⟨x, hx⟩ : ∃ x, a[k]? = some x := ⟨a[k]'(by rw [HL.out]; exact hkl), List.getElem?_eq_getElem _⟩
                            have hc2 : wr.cell? ⟨g, k, none⟩ = some (.int .i64 x) := sli_cell HE.out.row hx
                            by_cases hx0 : 0 ≤ x
                            · obtain ⟨t, ht, htd⟩ := HR.out.has k x hx hx0
                              have htx := HR.out.at_ t ht
                              rw [htd, hx] at htx
                              have h6 : (t.at_ : Int) = x := by injection htx; omega
                              have h7 : now + d < t.at_ := by simpa using (List.mem_filter.1 ht).2
                              have h8 : (now : Int) + d < x := by omega
                              clear htx hx htd ht h6 h7
                              go_wp2_with fail
                              all_goals exact ⟨⟨k + 1, by omega, by go_num, trivial⟩, by simp [intOf]; omega⟩
                            · have hx1 : x < 0 := by omega
                              clear hx
                              go_wp2_with fail
                              all_goals exact ⟨⟨k + 1, by omega, by go_num, trivial⟩, by simp [intOf]; omega⟩
                          · obtain rfl : n = k := by omega
                            have hfin : E3 w p m n n2 (.slice A3 n c3) (.int .i64 ((now : Int) + d)) (.int .i64 ((y : Int) + 1)) wr :=
                              ⟨y + 1, now + d, _, a, by omega, by omega, by omega, by go_num, by go_num, HE.out, HR.out, HL.out, HF.out⟩
                            have HFIN := Lib.hid hfin
                            clear hfin
                            go_wp2_with fail
                            all_goals exact ⟨HFIN.out, by simp [intOf]; omega⟩
                  · have hy4 : ¬ (y : Int) < 100 := by omega
                    as_aux_lemma =>
                      go_wp2_with fail
                      refine (awake_c _).mono ?_
                      rintro e wA ⟨rfl, hkA⟩
                      have K := Lib.hid (HE.out.kept.trans hkA (fun _ _ h => h))
                      clear hkA HE HR HL HF
                      go_wp2_with fail
                      go_ret
                      exact ⟨rfl, K.out.below (Nat.le_refl _) (fun _ _ h => h)⟩
                · have hy4 : ¬ (y : Int) < n2 := by omega
                  as_aux_lemma =>
                    go_wp2_with fail
                    refine (awake_c _).mono ?_
                    rintro e wA ⟨rfl, hkA⟩
                    have K := Lib.hid (HE.out.kept.trans hkA (fun _ _ h => h))
                    clear hkA HE HR HL HF
                    go_wp2_with fail
                    go_ret
                    exact ⟨rfl, K.out.below (Nat.le_refl _) (fun _ _ h => h)⟩
        · have hj2 : ¬ (j : Int) < n1 := by omega
          as_aux_lemma =>
            have F3 : Hid (E3 w p m n n2 (.slice A3 n c3) (.int .i64 0) (.int .i64 0) wr) := ⟨0, 0, L, a, by omega, by omega, by omega, rfl, rfl, HE.out, HR.out, HL.out, HF.out⟩
            clear HE HR HL HF
            go_wp2_with fail
            go_loopw [18, 19] (fun s i wx => E3 w p m n n2 (.slice A3 n c3) s i wx) (fun _ i _ => 100 - (intOf i).toNat)
            case atStart => exact F3.out
            case round =>
              clear F3
              obtain ⟨y, now, L, a, hy, hy1, hnow, rfl, rfl, he, hr, hl, hf⟩ := hrel
              have HE := Lib.hid he
              have HR := Lib.hid hr
              have HL := Lib.hid hl
              have HF := Lib.hid hf
              clear he hr hl hf
              by_cases hy2 : y < n2
              · by_cases hy3 : y < 100
                · obtain ⟨b, o, rfl, hbl, hcell⟩ := (HI2.out.keep HE.out.kept).2 (by omega)
                  have hck := hcell y (by omega)
                  have bf := HI2.out.1 y (by omega)
                  have P3 := Lib.hid (place_any (f2 y) 800 wr bf.1 bf.2 (by omega) (by omega))
                  have e0 : 0 ≤ f2 y % 800 ∧ f2 y % 800 < 800 := by omega
                  obtain ⟨d, hd⟩ : ∃ d : Nat, (d : Int) = f2 y % 800 := ⟨(f2 y % 800).toNat, by omega⟩
                  rw [← hd] at e0 P3
                  clear hcell hd bf
                  have C3 := Lib.hid (e_tick HE.out (by omega) (by omega) d (by omega))
                  have FA := Lib.hid HE.out.facts
                  go_wp2_with fail
                  refine P3.out.mono ?_
                  rintro e w3 ⟨rfl, rfl⟩
                  clear P3 hck
                  go_wp2_with fail
                  refine C3.out.mono ?_
                  rintro e w3 ⟨u, rfl, he3, hu, huo⟩
                  rw [← expT_ids] at hu
                  have F4 : Hid (E4 w p m n now d L u (.slice A3 n c3) (.int .i64 (-1)) (.int .i64 0) w3) :=
                    ⟨0, a, -1, Nat.zero_le _, rfl, rfl, fun _ _ _ _ _ => by omega, by omega, he3, HR.out.congr (List.filter_eq_self.2 (fun t _ => by simp)).symm, HL.out, HF.out, hu, huo⟩
                  obtain ⟨Au, cu, e3, hAu⟩ := shape_u hu
                  have HAU := Lib.hid hAu
                  subst e3
                  clear HE HR HL HF he3 hu huo hAu C3
                  go_wp2_with fail
                  go_loopw [22, 23] (fun z i wx => E4 w p m n now d L (.slice Au (expT L now (d + 1)).length cu) (.slice A3 n c3) z i wx) (fun _ i _ => (expT L now (d + 1)).length - (intOf i).toNat)
                  case atStart => exact F4.out
                  case round =>
                    clear F4
                    obtain ⟨q, a, z, hq, rfl, rfl, hz, bz, he, hr, hl, hf, hu, huo⟩ := hrel
                    by_cases hql : q < (expT L now (d + 1)).length
                    · obtain ⟨gu, rfl⟩ := HAU.out (by omega)
                      obtain ⟨t, ht⟩ : ∃ t, (expT L now (d + 1))[q]? = some t := ⟨_, List.getElem?_eq_getElem hql⟩
                      obtain ⟨k1, k2, k3, k4, k5⟩ := mid_facts FA.out.1 ht hr
                      have htl : t.id < n := by have := (List.getElem?_eq_some_iff.1 k5).1; omega
                      obtain ⟨g, rfl⟩ := HA3.out (by omega)
                      have hzt := hz t (List.mem_of_getElem? ht) q ht (Nat.le_refl _)
                      have hc1 : wr.cell? ⟨gu, q, none⟩ = some (.int .i64 (t.id : Int)) := sl_cell hu (by unfold ids; rw [List.getElem?_map, ht]; rfl)
                      have hc2 : wr.cell? ⟨g, t.id, none⟩ = some (.int .i64 (t.at_ : Int)) := sli_cell he.row k5
                      have hfr : wr.frozen? ⟨g, t.id, none⟩ = false := sli_free he.row t.id
                      have qb := short_T L now (d + 1)
                      have qb2 := FA.out.2.2
                      have qb3 : (q : Int) < 1000 := by omega
                      have i0 : 0 ≤ (t.id : Int) := by omega
                      have i1 : (t.id : Int) < (n : Int) := by omega
                      have i2 : 0 ≤ (t.at_ : Int) := by omega
                      have i3 : (t.at_ : Int) ≤ (now : Int) + d := by omega
                      have bt : t.at_ ≤ 5000 := by have := (hf.get k5).2; omega
                      have hfin : E4 w p m n now d L (.slice (some ⟨gu, 0, none⟩) (expT L now (d + 1)).length cu) (.slice (some ⟨g, 0, none⟩) n c3) (.int .i64 (t.at_ : Int)) (.int .i64 ((q : Int) + 1)) (wr.setCell ⟨g, t.id, none⟩ (.int .i64 (-1))) := by
                        refine ⟨q + 1, a.set t.id (-1), t.at_, hql, by go_num, rfl, fun s _ k hk hqk => ?_, by omega, e_set he (by omega) (-1), ?_, by rw [List.length_set]; exact hl, hf.set _, hu.of_block (fun x hx => Below.heap_setCell wr _ _ x (fun e => huo x hx (by rw [e]; rfl))), huo⟩
                        · have := later_at FA.out.1 ht hk (by omega)
                          omega
                        · exact (hr.drop t.id).congr (filter_take L (ids (expT L now (d + 1))) q t.id (by unfold ids; rw [List.getElem?_map, ht]; rfl))
                      have HFIN := Lib.hid hfin
                      clear hz he hr hl hf hu huo hfin k1 k2 k3 k4 k5 ht
                      go_wp2_with fail
                      all_goals exact ⟨HFIN.out, by simp [intOf]; omega⟩
                    · obtain rfl : q = (expT L now (d + 1)).length := by omega
                      have hr2 : R (L.filter (fun t => decide (now + d < t.at_))) a := hr.congr (by rw [show (expT L now (d + 1)).length = (ids (expT L now (d + 1))).length by simp [ids], List.take_length]; exact filter_all FA.out.1 FA.out.2.1)
                      have HE := Lib.hid he
                      have HR := Lib.hid hr2
                      have HL := Lib.hid hl
                      have HF := Lib.hid hf
                      clear he hr hr2 hl hf hu huo hz
                      obtain ⟨w5, rfl⟩ : ∃ w5 : World, w5 = wr := ⟨_, rfl⟩
                      go_wp2_with fail
                      go_loopw [24] (fun i wx => ∃ k : Nat, k ≤ n ∧ i = .int .i64 (k : Int) ∧ wx = w5) (fun i _ => n - (intOf i).toNat)
                      case atStart => exact ⟨0, Nat.zero_le _, rfl, rfl⟩
                      case round =>
                        obtain ⟨k, hk, rfl, rfl⟩ := hrel
                        by_cases hkl : k < n
                        · obtain ⟨g, rfl⟩ := HA3.out (by omega)
                          obtain ⟨x, hx⟩ : ∃ x, a[k]? = some x := ⟨a[k]'(by rw [HL.out]; exact hkl), List.getElem?_eq_getElem _⟩
                          have hc2 : wr.cell? ⟨g, k, none⟩ = some (.int .i64 x) := sli_cell HE.out.row hx
                          by_cases hx0 : 0 ≤ x
                          · obtain ⟨t, ht, htd⟩ := HR.out.has k x hx hx0
                            have htx := HR.out.at_ t ht
                            rw [htd, hx] at htx
                            have h6 : (t.at_ : Int) = x := by injection htx; omega
                            have h7 : now + d < t.at_ := by simpa using (List.mem_filter.1 ht).2
                            have h8 : (now : Int) + d < x := by omega
                            clear htx hx htd ht h6 h7
                            go_wp2_with fail
                            all_goals exact ⟨⟨k + 1, by omega, by go_num, trivial⟩, by simp [intOf]; omega⟩
                          · have hx1 : x < 0 := by omega
                            clear hx
                            go_wp2_with fail
                            all_goals exact ⟨⟨k + 1, by omega, by go_num, trivial⟩, by simp [intOf]; omega⟩
                        · obtain rfl : n = k := by omega
                          have hfin : E3 w p m n n2 (.slice A3 n c3) (.int .i64 ((now : Int) + d)) (.int .i64 ((y : Int) + 1)) wr :=
                            ⟨y + 1, now + d, _, a, by omega, by omega, by omega, by go_num, by go_num, HE.out, HR.out, HL.out, HF.out⟩
                          have HFIN := Lib.hid hfin
                          clear hfin
                          go_wp2_with fail
                          all_goals exact ⟨HFIN.out, by simp [intOf]; omega⟩
                · have hy4 : ¬ (y : Int) < 100 := by omega
                  as_aux_lemma =>
                    go_wp2_with fail
                    refine (awake_c _).mono ?_
                    rintro e wA ⟨rfl, hkA⟩
                    have K := Lib.hid (HE.out.kept.trans hkA (fun _ _ h => h))
                    clear hkA HE HR HL HF
                    go_wp2_with fail
                    go_ret
                    exact ⟨rfl, K.out.below (Nat.le_refl _) (fun _ _ h => h)⟩
              · have hy4 : ¬ (y : Int) < n2 := by omega
                as_aux_lemma =>
                  go_wp2_with fail
                  refine (awake_c _).mono ?_
                  rintro e wA ⟨rfl, hkA⟩
                  have K := Lib.hid (HE.out.kept.trans hkA (fun _ _ h => h))
                  clear hkA HE HR HL HF
                  go_wp2_with fail
                  go_ret
                  exact ⟨rfl, K.out.below (Nat.le_refl _) (fun _ _ h => h)⟩
end Go.Proofs.Ytlbdfhbkemikgaa.wheelExpires
