/- The statement WheelPlays is proved: any script of timers and ticks: the same ids, times, errors; behind each call as many timers, and the same time. -/
import Derived.Test.YtlbdfhbkemikgaaRows
import Derived.Test.YtlbdfhbkemikgaaPlayB
import Derived.Test.YtlbdfhbkemikgaaLawKit
import Derived.Deep.RegionHeld3
import Derived.Deep.CutBlock
import Derived.Deep.DeepCutAuto
set_option linter.unusedVariables false
set_option linter.unusedSimpArgs false
namespace Go.Proofs.Ytlbdfhbkemikgaa.wheelPlays
open Go.ChangeShapes Go.WideShapes Go.ChangeAt Go.RowKit
open Plain wheelExpires

structure Inv (A : Ab) (M i : Nat) : Prop where
  most : A.most = M
  now : A.now ≤ 1048576 * i
  next : A.next ≤ i
theorem Inv.small {A : Ab} {M i : Nat} (h : Inv A M i) (hM : M ≤ 4096) (hi : i ≤ 3000) : Small A := ⟨by have := h.most; omega, by have := h.now; omega, by have := h.next; omega⟩
theorem Inv.start {A A' : Ab} {M i : Nat} (h : Inv A M i) {n what : Int} {r : Er} {val : Int} (hr : StartRel A n what r val A') : Inv A' M (i + 1) := by
  obtain ⟨h1, h2, h3⟩ := h
  rcases hr with ⟨_, _, _, rfl⟩ | ⟨_, _, _, rfl⟩ | ⟨_, _, _, rfl⟩
  · exact ⟨h1, by omega, by omega⟩
  · exact ⟨h1, by omega, by omega⟩
  · exact ⟨h1, by show A.now ≤ _; omega, by show A.next + 1 ≤ _; omega⟩
theorem Inv.drop {A : Ab} {M i : Nat} (h : Inv A M i) (o : Option Tm) : Inv (dropOf A o) M (i + 1) := by
  obtain ⟨h1, h2, h3⟩ := h
  cases o with
  | none => exact ⟨h1, by show A.now ≤ _; omega, by show A.next ≤ _; omega⟩
  | some t => exact ⟨h1, by show A.now ≤ _; omega, by show A.next ≤ _; omega⟩
theorem Inv.same {A : Ab} {M i : Nat} (h : Inv A M i) : Inv A M (i + 1) := by
  obtain ⟨h1, h2, h3⟩ := h
  exact ⟨h1, by omega, by omega⟩
theorem Inv.tick {A : Ab} {M i : Nat} (h : Inv A M i) {d : Nat} (hd : d ≤ 1048576) : Inv (tickOf A d) M (i + 1) := by
  obtain ⟨h1, h2, h3⟩ := h
  exact ⟨h1, by show A.now + d ≤ _; omega, by show A.next ≤ _; omega⟩

def PRel (w : World) (p m b M n : Nat) (i : Value) (wr : World) : Prop :=
  ∃ (k : Nat) (A : Ab), k ≤ 3000 ∧ k ≤ n ∧ i = .int .i64 (k : Int) ∧ Pl w wr p m b A A ∧ Inv A M k
def Done (w : World) (p m b M k : Nat) (s : Value) (wr : World) : Prop := s = .bool true ∧ ∃ A, Pl w wr p m b A A ∧ Inv A M (k + 1)

theorem own : ownKnob Try.prog.godebug = none := by kernel_rfl

set_option maxHeartbeats 8000000 in
set_option maxRecDepth 100000 in
theorem walk_ok (a0 : Int) (A1 : Option Addr) (n c : Nat) (w : World) (b0 : -9223372036854775808 ≤ a0 ∧ a0 ≤ 9223372036854775807) (hnc : n ≤ c) (hc : c ≤ 9223372036854775807) (hops : OpsAt w A1 n) (h1 : 1 ≤ a0) (h2 : a0 ≤ 4096) :
    Calls Try.prog 8 #[.int .i64 a0, .slice A1 n c] w fun e w' => e = .returned (.bool true) ∧ Below w.heap.size w w' := by
  obtain ⟨M, rfl⟩ : ∃ M : Nat, a0 = (M : Int) := ⟨a0.toNat, by omega⟩
  have m1 : 1 ≤ M := by omega
  have m2 : M ≤ 4096 := by omega
  have conN := Lib.hid (newSt w M m1 m2)
  unfold iv at conN
  have HO := Lib.hid hops
  clear hops
  go_enter Try.func8, Try.ntmps8
  go_wp2_with fail
  refine conN.out.mono ?_
  rintro e w1 ⟨p, m, V1, rfl, hst⟩
  have conR := Lib.hid (new_ref w1 (M : Int) (by omega) (by omega))
  have HS := Lib.hid hst
  clear conN hst
  go_wp2_with fail
  refine conR.out.mono ?_
  rintro e w2 ⟨b, rfl, hb, hr, hk⟩
  have hp0 : Pl w w2 p m b ⟨M, 0, 0, []⟩ ⟨M, 0, 0, []⟩ := by
    refine ⟨V1, S0 M, .slice none 0 0, HS.out.keep hk, ⟨rfl, rfl, rfl, rfl⟩, by simpa using hr, Nat.le_trans HS.out.2.2.1.size hb, fun g hg => by simp [Value.ownBlock] at hg⟩
  have P0 := Lib.hid hp0
  clear conR hb hr hk hp0 HS
  go_wp2_with fail
  refine (ref_nil _).mono ?_
  rintro e w3 ⟨rfl, hk⟩
  have F1 : Hid (PRel w p m b M n (.int .i64 0) w3) := ⟨0, _, by omega, by omega, rfl, P0.out.keep hk, ⟨rfl, by show 0 ≤ _; omega, by show 0 ≤ _; omega⟩⟩
  clear hk P0
  go_wp2_with fail
  go_loopw [9] (fun i wr => PRel w p m b M n i wr) (fun i _ => 3000 - (intOf i).toNat)
  case atStart => exact F1.out
  case round =>
    clear F1
    obtain ⟨k, A, hk1, hk2, rfl, hp, hinv⟩ := hrel
    have HP := Lib.hid hp
    have HI := Lib.hid hinv
    clear hp hinv
    by_cases hkn : k < n
    · by_cases hk3 : k < 3000
      · obtain ⟨ob, oo, x, e1, hob, hfit⟩ := (HO.out.keep HP.out.kept) k hkn
        subst e1
        have x0 := hfit.fk.2
        have x1 := hfit.fn.2
        have x2 := hfit.fi.2
        have x3 := hfit.fw.2
        have y0 := hfit.fk.1
        have y1 := hfit.fn.1
        have y2 := hfit.fi.1
        have y3 := hfit.fw.1
        unfold I64 at y0 y1 y2 y3
        have P3 := Lib.hid (fun W => place_any x.kind 5 W y0.1 y0.2 (by omega) (by omega))
        have z0 : 0 ≤ x.kind % 5 ∧ x.kind % 5 < 5 := by omega
        have ki : (k : Int) < (n : Int) := by omega
        have kj : (k : Int) < 3000 := by omega
        clear hfit
        go_wp2_with fail
        refine (P3.out _).mono ?_
        rintro e w4 ⟨rfl, rfl⟩
        have HX := Lib.hid (Row.new wr 51 #[.int .i64 x.kind, .int .i64 x.n, .int .i64 x.id, .int .i64 x.what])
        have HPX := Lib.hid (HP.out.keep ((Keep.refl Nothing wr).alloc (.cells #[.int .i64 x.kind, .int .i64 x.n, .int .i64 x.id, .int .i64 x.what] 51)))
        have SM := Lib.hid (HI.out.small m2 hk1)
        have FA := Lib.hid HP.out.facts
        clear x0 x1 x2 x3 P3 HP
        generalize wr.heap.size = X at *
        obtain ⟨W, hW⟩ : ∃ W, wr.alloc (.cells #[.int .i64 x.kind, .int .i64 x.n, .int .i64 x.id, .int .i64 x.what] 51) = W := ⟨_, rfl⟩
        rw [hW] at HX HPX ⊢
        clear hW
        obtain ⟨d, hd⟩ : ∃ d, d = x.kind % 5 := ⟨_, rfl⟩
        rw [← hd] at z0 ⊢
        clear hd
        have DD := Lib.hid (show d = 0 ∨ d = 1 ∨ d = 2 ∨ d = 3 ∨ d = 4 by omega)
        clear z0
        go_upto_block 2 with fail
        go_cut [11] (fun s wx => Done w p m b M k s wx)
        case first =>
          have x1 : W.cell? ⟨X, 1, none⟩ = some (.int .i64 x.n) := HX.out.cell 1
          have x2 : W.cell? ⟨X, 2, none⟩ = some (.int .i64 x.id) := HX.out.cell 2
          have x3 : W.cell? ⟨X, 3, none⟩ = some (.int .i64 x.what) := HX.out.cell 3
          have xlt := HX.out.lt
          have dd := DD.out
          rcases dd with rfl | rfl | rfl | rfl | rfl
          · as_aux_lemma =>
              obtain ⟨r, val, A', hrel⟩ := start_rel A x.n x.what
              have REL := Lib.hid hrel
              have C1 := Lib.hid (start_a HPX.out SM.out x.n x.what y1.1 y1.2 hrel)
              clear hrel
              go_wp2_with fail
              refine C1.out.mono ?_
              rintro e w5 ⟨ea, rfl, hea, hp5, hf5⟩
              have HX5 := hf5.row HX.out (by decide) (by decide) (by decide) (by decide)
              have x1' : w5.cell? ⟨X, 1, none⟩ = some (.int .i64 x.n) := HX5.cell 1
              have x3' : w5.cell? ⟨X, 3, none⟩ = some (.int .i64 x.what) := HX5.cell 3
              have C2 := Lib.hid (start_b hp5 SM.out FA.out.2.2 x.n x.what y1.1 y1.2 REL.out)
              have HEA := Lib.hid hea
              clear hea hp5 hf5 HX5 C1
              go_wp2_with fail
              refine C2.out.mono ?_
              rintro e w6 ⟨eb, rfl, heb, hp6, hf6⟩
              have C3 := Lib.hid (ref_c w6 ea eb r (HEA.out.fr hf6) heb)
              have HP6 := Lib.hid hp6
              clear heb hp6 hf6 C2 HEA
              go_wp2_with fail
              refine C3.out.mono ?_
              rintro e w7 ⟨rfl, hk7⟩
              have DN : Hid (Done w p m b M k (.bool true) w7) := ⟨rfl, A', HP6.out.keep hk7, HI.out.start REL.out⟩
              clear hk7 C3
              go_wp2_with fail
              go_meet
              exact DN.out
          · as_aux_lemma =>
              obtain ⟨r, o, hrel⟩ := find_rel A "cancel" x.id
              have REL := Lib.hid hrel
              have C1 := Lib.hid (cancel_a HPX.out SM.out x.id y2.1 y2.2 hrel)
              clear hrel
              go_wp2_with fail
              refine C1.out.mono ?_
              rintro e w5 ⟨ea, rfl, hea, hp5, hf5⟩
              have HX5 := hf5.row HX.out (by decide) (by decide) (by decide) (by decide)
              have x2' : w5.cell? ⟨X, 2, none⟩ = some (.int .i64 x.id) := HX5.cell 2
              have C2 := Lib.hid (cancel_b hp5 SM.out FA.out.2.2 FA.out.1 (fun t ht => (FA.out.2.1 t ht).2.1) x.id y2.1 y2.2 REL.out)
              have HEA := Lib.hid hea
              clear hea hp5 hf5 HX5 C1
              go_wp2_with fail
              refine C2.out.mono ?_
              rintro e w6 ⟨eb, rfl, heb, hp6, hf6⟩
              have C3 := Lib.hid (ref_c w6 ea eb r (HEA.out.fr hf6) heb)
              have HP6 := Lib.hid hp6
              clear heb hp6 hf6 C2 HEA
              go_wp2_with fail
              refine C3.out.mono ?_
              rintro e w7 ⟨rfl, hk7⟩
              have DN : Hid (Done w p m b M k (.bool true) w7) := ⟨rfl, _, HP6.out.keep hk7, HI.out.drop o⟩
              clear hk7 C3
              go_wp2_with fail
              go_meet
              exact DN.out
          · as_aux_lemma =>
              obtain ⟨r, o, hrel⟩ := find_rel A "left" x.id
              have C1 := Lib.hid (left_a HPX.out SM.out x.id y2.1 y2.2 hrel)
              rcases hrel with ⟨t, ht, hid, rfl, rfl⟩ | ⟨hno, rfl, rfl⟩
              · have REL : Hid (FindRel A "left" x.id none (some t)) := .inl ⟨t, ht, hid, rfl, rfl⟩
                have la := (FA.out.2.1 t ht)
                have s1 := SM.out.now
                have la1 := la.1
                have la2 := la.2.1
                have wr0 : IntKind.i64.wrap ((t.at_ : Int) - A.now) = (t.at_ : Int) - A.now := wrap64 (by omega) (by omega)
                clear ht hid la
                go_wp2_with fail
                refine C1.out.mono ?_
                rintro e w5 ⟨ea, rfl, hea, hp5, hf5⟩
                have HX5 := hf5.row HX.out (by decide) (by decide) (by decide) (by decide)
                have x2' : w5.cell? ⟨X, 2, none⟩ = some (.int .i64 x.id) := HX5.cell 2
                have C2 := Lib.hid (get_b hp5 SM.out FA.out.2.2 FA.out.1 "left" x.id y2.1 y2.2 REL.out)
                have HEA := Lib.hid hea
                clear hea hp5 hf5 HX5 C1
                go_wp2_with fail
                refine C2.out.mono ?_
                rintro e w6 ⟨eb, rfl, heb, hp6, hf6⟩
                have eb0 : eb = .pointer none := heb
                subst eb0
                have HEB := Lib.hid heb
                have HA6 := Lib.hid (HEA.out.fr hf6)
                have HP6 := Lib.hid (hp6.keep ((Keep.refl Nothing w6).alloc (.cells #[.int .i64 (t.id : Int), .int .i64 (t.at_ : Int), .int .i64 t.what] 57)))
                have HT6 := Lib.hid (Row.new w6 57 #[.int .i64 (t.id : Int), .int .i64 (t.at_ : Int), .int .i64 t.what])
                have HA7 := Lib.hid (HA6.out.fr (Fr.nothing ((Keep.refl Nothing w6).alloc (.cells #[.int .i64 (t.id : Int), .int .i64 (t.at_ : Int), .int .i64 t.what] 57))))
                clear heb hp6 hf6 C2 HEA HA6
                unfold aggOf
                go_wp2_with fail
                generalize w6.heap.size = Y at *
                obtain ⟨W7, hW7⟩ : ∃ W7, w6.alloc (.cells #[.int .i64 (t.id : Int), .int .i64 (t.at_ : Int), .int .i64 t.what] 57) = W7 := ⟨_, rfl⟩
                rw [hW7] at HP6 HT6 HA7 ⊢
                clear hW7
                have k1 : W7.cell? ⟨Y, 1, none⟩ = some (.int .i64 (t.at_ : Int)) := HT6.out.cell 1
                obtain ⟨X3, c3, k2, _⟩ := HP6.out.cells
                go_quiet (fail)
                have C3 := Lib.hid (ref_c (W7.drewN nq) ea (.pointer none) none (HA7.out.fr (Fr.nothing ((Keep.refl Nothing W7).drewN nq))) rfl)
                have HP7 := Lib.hid (HP6.out.keep ((Keep.refl Nothing W7).drewN nq))
                unfold leftOf
                go_wp2_with fail
                refine C3.out.mono ?_
                rintro e w7 ⟨rfl, hk7⟩
                have DN : Hid (Done w p m b M k (.bool true) w7) := ⟨rfl, _, HP7.out.keep hk7, HI.out.same⟩
                clear hk7 C3
                go_wp2_with fail
                go_meet
                exact DN.out
              · have REL : Hid (FindRel A "left" x.id (some ("left".toUTF8, x.id % 2147483648, 3)) none) := .inr ⟨hno, rfl, rfl⟩
                clear hno
                go_wp2_with fail
                refine C1.out.mono ?_
                rintro e w5 ⟨ea, rfl, hea, hp5, hf5⟩
                have HX5 := hf5.row HX.out (by decide) (by decide) (by decide) (by decide)
                have x2' : w5.cell? ⟨X, 2, none⟩ = some (.int .i64 x.id) := HX5.cell 2
                have C2 := Lib.hid (get_b hp5 SM.out FA.out.2.2 FA.out.1 "left" x.id y2.1 y2.2 REL.out)
                have HEA := Lib.hid hea
                clear hea hp5 hf5 HX5 C1
                go_wp2_with fail
                refine C2.out.mono ?_
                rintro e w6 ⟨eb, rfl, heb, hp6, hf6⟩
                have heb' := heb
                obtain ⟨gx, e0, _⟩ := heb
                subst e0
                have C3 := Lib.hid (ref_c (w6.alloc (.cells #[.int .i64 0, .int .i64 0, .int .i64 0] 57)) ea _ _ ((HEA.out.fr hf6).fr (Fr.nothing ((Keep.refl Nothing w6).alloc _))) (heb'.keep ((Keep.refl Nothing w6).alloc _)))
                have HP6 := Lib.hid (hp6.keep ((Keep.refl Nothing w6).alloc (.cells #[.int .i64 0, .int .i64 0, .int .i64 0] 57)))
                clear heb' hp6 hf6 C2 HEA
                unfold aggOf leftOf
                go_wp2_with fail
                refine C3.out.mono ?_
                rintro e w7 ⟨rfl, hk7⟩
                have DN : Hid (Done w p m b M k (.bool true) w7) := ⟨rfl, _, HP6.out.keep hk7, HI.out.same⟩
                clear hk7 C3
                go_wp2_with fail
                go_meet
                exact DN.out
          · as_aux_lemma =>
              obtain ⟨r, o, hrel⟩ := find_rel A "what" x.id
              have REL := Lib.hid hrel
              have C1 := Lib.hid (what_a HPX.out SM.out x.id y2.1 y2.2 hrel)
              clear hrel
              cases o with
              | some t =>
                go_wp2_with fail
                refine C1.out.mono ?_
                rintro e w5 ⟨ea, rfl, hea, hp5, hf5⟩
                have HX5 := hf5.row HX.out (by decide) (by decide) (by decide) (by decide)
                have x2' : w5.cell? ⟨X, 2, none⟩ = some (.int .i64 x.id) := HX5.cell 2
                have C2 := Lib.hid (get_b hp5 SM.out FA.out.2.2 FA.out.1 "what" x.id y2.1 y2.2 REL.out)
                have HEA := Lib.hid hea
                clear hea hp5 hf5 HX5 C1
                go_wp2_with fail
                refine C2.out.mono ?_
                rintro e w6 ⟨eb, rfl, heb, hp6, hf6⟩
                have C3 := Lib.hid (ref_c (w6.alloc (.cells #[.int .i64 (t.id : Int), .int .i64 (t.at_ : Int), .int .i64 t.what] 57)) ea eb r ((HEA.out.fr hf6).fr (Fr.nothing ((Keep.refl Nothing w6).alloc _))) (heb.keep ((Keep.refl Nothing w6).alloc _)))
                have HP6 := Lib.hid (hp6.keep ((Keep.refl Nothing w6).alloc (.cells #[.int .i64 (t.id : Int), .int .i64 (t.at_ : Int), .int .i64 t.what] 57)))
                clear heb hp6 hf6 C2 HEA
                unfold aggOf whatOf
                go_wp2_with fail
                refine C3.out.mono ?_
                rintro e w7 ⟨rfl, hk7⟩
                have DN : Hid (Done w p m b M k (.bool true) w7) := ⟨rfl, _, HP6.out.keep hk7, HI.out.same⟩
                clear hk7 C3
                go_wp2_with fail
                go_meet
                exact DN.out
              | none =>
                go_wp2_with fail
                refine C1.out.mono ?_
                rintro e w5 ⟨ea, rfl, hea, hp5, hf5⟩
                have HX5 := hf5.row HX.out (by decide) (by decide) (by decide) (by decide)
                have x2' : w5.cell? ⟨X, 2, none⟩ = some (.int .i64 x.id) := HX5.cell 2
                have C2 := Lib.hid (get_b hp5 SM.out FA.out.2.2 FA.out.1 "what" x.id y2.1 y2.2 REL.out)
                have HEA := Lib.hid hea
                clear hea hp5 hf5 HX5 C1
                go_wp2_with fail
                refine C2.out.mono ?_
                rintro e w6 ⟨eb, rfl, heb, hp6, hf6⟩
                have C3 := Lib.hid (ref_c (w6.alloc (.cells #[.int .i64 0, .int .i64 0, .int .i64 0] 57)) ea eb r ((HEA.out.fr hf6).fr (Fr.nothing ((Keep.refl Nothing w6).alloc _))) (heb.keep ((Keep.refl Nothing w6).alloc _)))
                have HP6 := Lib.hid (hp6.keep ((Keep.refl Nothing w6).alloc (.cells #[.int .i64 0, .int .i64 0, .int .i64 0] 57)))
                clear heb hp6 hf6 C2 HEA
                unfold aggOf whatOf
                go_wp2_with fail
                refine C3.out.mono ?_
                rintro e w7 ⟨rfl, hk7⟩
                have DN : Hid (Done w p m b M k (.bool true) w7) := ⟨rfl, _, HP6.out.keep hk7, HI.out.same⟩
                clear hk7 C3
                go_wp2_with fail
                go_meet
                exact DN.out
          · as_aux_lemma =>
              have HPD := Lib.hid (HPX.out.keep (Keep.drew (Keep.refl Nothing W)))
              have C1 := Lib.hid (tick_a HPD.out SM.out x.n y1.1 y1.2)
              have KT : Hid (ticksOf x.n ≤ 1048576) := by unfold Hid ticksOf; omega
              have HXD : Hid (Row W.drew X 51 #[.int .i64 x.kind, .int .i64 x.n, .int .i64 x.id, .int .i64 x.what]) := HX.out
              have hlen : (expT A.live A.now (ticksOf x.n + 1)).length < 1000000000 := by
                have h1 := short_T A.live A.now (ticksOf x.n + 1)
                have h2 := FA.out.2.2
                have h3 := SM.out.next
                omega
              have hlen2 : (expFrom A.live A.now (ticksOf x.n + 1)).length < 1000000000000 := by rw [← expT_ids]; simp [ids]; omega
              have HL1 := Lib.hid hlen
              have HL2 := Lib.hid hlen2
              clear hlen hlen2 x2 x3
              go_wp2_with fail
              go_region_held3 (fun w' => w'.cell? ⟨X, 1, none⟩ = some (.int .i64 x.n)) (first | assumption | go_keep)
                ((first
                  | (go_at_call 11
                     refine C1.out.mono ?_
                     rintro e w5 ⟨u, rfl, hu, hp5, hou, hf5⟩
                     have HX5 := Lib.hid (hf5.row HXD.out (by decide) (by decide) (by decide) (by decide))
                     have x5 : w5.cell? ⟨X, 1, none⟩ = some (.int .i64 x.n) := HX5.out.cell 1
                     have C2 := Lib.hid (tick_b hp5 SM.out FA.out.2.2 FA.out.1 (fun t ht => ⟨(FA.out.2.1 t ht).1, (FA.out.2.1 t ht).2.1⟩) x.n y1.1 y1.2)
                     have HU := Lib.hid hu
                     clear hu hp5 hou hf5)
                  | (go_at_call 26
                     refine C2.out.mono ?_
                     rintro e w6 ⟨uu, rfl, huu, hp6, hf6, hs6⟩
                     have HX6 := Lib.hid (hf6.row HX5.out (by decide) (by decide) (by decide) (by decide))
                     have x6 : w6.cell? ⟨X, 1, none⟩ = some (.int .i64 x.n) := HX6.out.cell 1
                     have C3 := Lib.hid (ids_c w6 uu _ huu HL1.out)
                     have HU6 := Lib.hid (hs6 _ _ HU.out)
                     have HP6 := Lib.hid hp6
                     clear huu hp6 hf6 hs6)
                  | (go_at_call 25
                     refine C3.out.mono ?_
                     rintro e w7 ⟨u7, rfl, hu7, hk7⟩
                     rw [expT_ids] at hu7
                     have HX7 := Lib.hid (HX6.out.keep hk7 (fun h => h))
                     have x7 : w7.cell? ⟨X, 1, none⟩ = some (.int .i64 x.n) := HX7.out.cell 1
                     have C4 := Lib.hid (same_c w7 u u7 _ (sl_keep HU6.out hk7) hu7 HL2.out)
                     have HP7 := Lib.hid (HP6.out.keep hk7)
                     clear hu7 hk7)
                  | (go_at_call 14
                     refine C4.out.mono ?_
                     rintro e w8 ⟨rfl, hk8⟩
                     have HX8 := Lib.hid (HX7.out.keep hk8 (fun h => h))
                     have x8 : w8.cell? ⟨X, 1, none⟩ = some (.int .i64 x.n) := HX8.out.cell 1
                     have HP8 := Lib.hid (HP7.out.keep hk8)
                     clear hk8)))
              all_goals
                have DN : Hid (Done w p m b M k (.bool true) w8) := ⟨rfl, _, HP8.out, HI.out.tick KT.out⟩
                go_wp2_with fail
                go_meet
                exact DN.out
        case rest =>
          obtain ⟨rfl, A', hp', hinv'⟩ := hcut
          have HP' := Lib.hid hp'
          have HI' := Lib.hid hinv'
          have C15 := Lib.hid (fun q => now_a (HP'.out.keep ((Keep.refl Nothing wc).drewN q)))
          have C16 := Lib.hid (fun q => len_a (HP'.out.keep ((Keep.refl Nothing wc).drewN q)))
          obtain ⟨X3, c3, n1, n3⟩ := HP'.out.cells
          clear hp' hinv'
          go_wp2_with fail
          go_quiet ((first | (go_at_call 15; exact Calls.quiet_of_same (C15.out _)) | (go_at_call 16; exact Calls.quiet_of_same (C16.out _))))
          go_wp2_with fail
          go_roundw
          case rel =>
            have FR : PRel w p m b M n (.int .i64 ((k : Int) + 1)) (wc.drewN nq) := ⟨k + 1, A', by omega, by omega, by go_num, HP'.out.keep ((Keep.refl Nothing wc).drewN nq), HI'.out⟩
            exact FR
          case measure => simp [intOf]; omega
      · have hj2 : ¬ (k : Int) < 3000 := by omega
        as_aux_lemma =>
          go_wp2_with fail
          refine (awake_c _).mono ?_
          rintro e wA ⟨rfl, hkA⟩
          have K := Lib.hid (HP.out.kept.trans hkA (fun _ _ h => h))
          clear hkA HP
          go_wp2_with fail
          go_ret
          exact ⟨rfl, K.out.below (Nat.le_refl _) (fun _ _ h => h)⟩
    · have hj2 : ¬ (k : Int) < n := by omega
      as_aux_lemma =>
        go_wp2_with fail
        refine (awake_c _).mono ?_
        rintro e wA ⟨rfl, hkA⟩
        have K := Lib.hid (HP.out.kept.trans hkA (fun _ _ h => h))
        clear hkA HP
        go_wp2_with fail
        go_ret
        exact ⟨rfl, K.out.below (Nat.le_refl _) (fun _ _ h => h)⟩

set_option maxHeartbeats 2000000 in
set_option maxRecDepth 100000 in
theorem walk_bad (a0 : Int) (A1 : Option Addr) (n c : Nat) (w : World) (b0 : -9223372036854775808 ≤ a0 ∧ a0 ≤ 9223372036854775807) (h1 : a0 < 1 ∨ 4096 < a0) :
    Calls Try.prog 8 #[.int .i64 a0, .slice A1 n c] w fun e w' => e = .returned (.bool true) ∧ Below w.heap.size w w' := by
  have conN := Lib.hid (new_bad w a0 h1 b0.1 b0.2)
  go_enter Try.func8, Try.ntmps8
  go_wp2_with fail
  refine conN.out.mono ?_
  rintro e w1 ⟨g, rfl, _, hr, hk⟩
  have conR := Lib.hid (new_ref_bad w1 a0 (by omega) b0.1 b0.2)
  have HR := Lib.hid hr
  have K1 := Lib.hid hk
  clear conN hr hk
  go_wp2_with fail
  refine conR.out.mono ?_
  rintro e w2 ⟨x, rfl, hx, hk⟩
  have C := Lib.hid (ref_at w2 g x _ a0 1 (HR.out.keep hk (fun h => h)) (by decide) hx)
  have K2 := Lib.hid (K1.out.trans hk (fun _ _ h => h))
  clear conR hx hk HR K1
  go_wp2_with fail
  refine C.out.mono ?_
  rintro e w3 ⟨rfl, hk⟩
  have K3 := Lib.hid (K2.out.trans hk (fun _ _ h => h))
  clear hk C K2
  go_wp2_with fail
  refine (awake_c _).mono ?_
  rintro e wA ⟨rfl, hkA⟩
  have K := Lib.hid (K3.out.trans hkA (fun _ _ h => h))
  clear hkA K3
  go_wp2_with fail
  go_ret
  exact ⟨rfl, K.out.below (Nat.le_refl _) (fun _ _ h => h)⟩

theorem walk (a0 : Int) (A1 : Option Addr) (n c : Nat) (w : World) (w0 : (Lit.int .i64 a0).wf = true) (hnc : n ≤ c) (hc : c ≤ 9223372036854775807) (hops : OpsAt w A1 n) :
    Calls Try.prog 8 #[.int .i64 a0, .slice A1 n c] w fun e w' => e = .returned (.bool true) ∧ Below w.heap.size w w' := by
  have b0 : -9223372036854775808 ≤ a0 ∧ a0 ≤ 9223372036854775807 := i64_of w0
  by_cases h : 1 ≤ a0 ∧ a0 ≤ 4096
  · exact walk_ok a0 A1 n c w b0 hnc hc hops h.1 h.2
  · exact walk_bad a0 A1 n c w b0 (by omega)

set_option maxRecDepth 100000 in
theorem lifted (os : Os) (started : os.Started) (H : Type) (enc : TypeId × Value → H) :
    ReturnsInHanded {} Try.checked os 8 .any (Rows.wheelPlaysSpec.pre6 enc Try.prog Try.f8 Rows.wheelPlaysRow.domain false) (Rows.wheelPlaysSpec.post enc Try.prog Try.f8 false true false false) := by
  refine returnsInHanded_of_change (C := Try.checked) own started (by kernel_rfl) Try.func8
    (ChangeSpec.witness6 (enc := enc) (C := Try.checked) false ⟨#[], #[.int .i64 0, .slice none 0 0], []⟩ 8 (by kernel_rfl) (by kernel_rfl) (by kernel_rfl) (by kernel_rfl)) ?_
  intro W base args ds gs before hval0 hW hcnd _
  have hval : ∀ (j : Nat) t v, Try.f8.params[j]? = some t → args[j]? = some v → Value.okWide Try.prog W .any base t v := hval0
  have hW' := hW
  obtain ⟨p, q, hA0, hV, rfl, hfz, hnd⟩ := hW
  have hA : DataW.TrodAll enc Try.prog W 0 (fun _ => true) true Try.f8.params.toList args.toList ds p := hA0
  rw [Try.params8] at hA hval
  obtain ⟨v0, vs0, d0, ds0, p0, q0, hargs, rfl, rfl, h0, r0⟩ := trodAll_cons hA
  obtain ⟨v1, vs1, d1, ds1, p1, q1, rfl, rfl, rfl, h1, r1⟩ := trodAll_cons r0
  obtain ⟨rfl, rfl, rfl⟩ := trodAll_nil r1
  obtain rfl : args = #[v0, v1] := by cases args; simp_all
  obtain ⟨a0, rfl, rfl, rfl, w0⟩ := open_int Try.underlying3 (hval 0 3 v0 rfl rfl) h0
  obtain ⟨A1, n1, c1, rfl, hn1, hc1, hi1⟩ := ops_open (hval 1 44 v1 rfl rfl) h1
  refine (walk a0 A1 n1 c1 W w0 hn1 hc1 hi1).mono fun e W' ⟨he, hg⟩ => ?_
  subst he
  exact ⟨_, rfl, LawKit.law_post (tb := 4) (by kernel_rfl) Try.underlying4 rfl (by kernel_rfl) rfl hW' ⟨rfl, rfl, rfl⟩ hg⟩

theorem over : Rows.wheelPlaysRow.holds Try.pinned (OpenSpec.ofChange Rows.wheelPlaysSpec) :=
  OpenClaim.holds_of_wide 8 Try.f8 rfl rfl rfl rfl rfl rfl rfl ⟨rfl, rfl, rfl, rfl, rfl⟩ rfl rfl rfl rfl rfl (by kernel_rfl) Try.func8 (by kernel_rfl)
    (of_decide_eq_true (by kernel_rfl)) (by unfold Func.isWrapper; first | (rw [if_pos (by decide +kernel)]; kernel_rfl) | (rw [if_neg (by decide +kernel)]; exact ⟨rfl, rfl⟩))
    (fun os started H enc _ => lifted os started H enc)

theorem proved : Rows.WheelPlaysSaid :=
  over
#print axioms proved
end Go.Proofs.Ytlbdfhbkemikgaa.wheelPlays
