/- Walks of the document's own Fair and Least. -/
import Derived.Test.YtniopaimhncmkaaWalkD
set_option linter.unusedVariables false
set_option linter.unusedSimpArgs false
namespace Go.Proofs.Ytniopaimhncmkaa
open Go.RowKit Go.Proofs.Ytniopaimhncmkaa.Plain

/-- is there a run of 'j' among the 'm' entries from 's' on? -/
def foundB (f : Nat → Ent) (j : Int) (s : Nat) : Nat → Bool
  | 0 => false
  | m + 1 => foundB f j s m || decide (hit j (f (s + m)))

theorem foundB_iff (f : Nat → Ent) (j : Int) (s : Nat) : ∀ m, foundB f j s m = true ↔ inWin f j s m
  | 0 => by simp [foundB, inWin]; omega
  | m + 1 => by
    rw [foundB, Bool.or_eq_true, foundB_iff f j s m, decide_eq_true_eq]
    constructor
    · rintro (⟨i, a, b, c⟩ | h)
      · exact ⟨i, a, by omega, c⟩
      · exact ⟨s + m, by omega, by omega, h⟩
    · rintro ⟨i, a, b, c⟩
      by_cases e : i = s + m
      · subst e; exact .inr c
      · exact .inl ⟨i, a, by omega, c⟩

theorem found_same {f : Nat → Ent} {j : Int} {s m : Nat} {e : Ent} (hf : f (s + m) = e) (h0 : foundB f j s m = false) (h : ¬ hit j e) : foundB f j s (m + 1) = false := by
  rw [foundB, h0, hf]; simpa using h

theorem found_yes {f : Nat → Ent} {j : Int} {s m : Nat} {e : Ent} (hf : f (s + m) = e) (h : hit j e) : foundB f j s (m + 1) = true := by
  rw [foundB, hf]; simp [h]

theorem found_kept {f : Nat → Ent} {j : Int} {s m : Nat} (h0 : foundB f j s m = true) : foundB f j s (m + 1) = true := by
  rw [foundB, h0]; rfl

def IRel (w : World) (f : Nat → Ent) (j s K : Nat) (v9 v10 : Value) (wr : World) : Prop :=
  ∃ m : Nat, m ≤ K ∧ v10 = .int .i64 ((s : Int) + m) ∧ v9 = .bool (foundB f j s m) ∧ Below w.heap.size w wr

def JRel (w : World) (f : Nat → Ent) (W : Int) (s K : Nat) (v8 : Value) (wr : World) : Prop :=
  ∃ j : Nat, ((j : Int) ≤ W ∨ j = 0) ∧ v8 = .int .i64 j ∧ (∀ w' : Nat, w' < j → inWin f w' s K) ∧ Below w.heap.size w wr

def FRel (w : World) (f : Nat → Ent) (n : Nat) (W : Int) (K : Nat) (v7 : Value) (wr : World) : Prop :=
  ∃ s : Nat, s + K ≤ n + 1 ∧ v7 = .int .i64 s ∧ (∀ s' : Nat, s' < s → ∀ w' : Nat, (w' : Int) < W → inWin f w' s' K) ∧ Below w.heap.size w wr

theorem IRel.next_kept {w wr : World} {f : Nat → Ent} {j s K m : Nat} {o : Obj} (hm : m < K) (hb : Below w.heap.size w wr) (h0 : foundB f j s m = true) :
    IRel w f j s K (.bool true) (.int .i64 ((s : Int) + m + 1)) (wr.alloc o) :=
  ⟨m + 1, hm, by go_num, by rw [found_kept h0], hb.alloc hb.size o⟩

theorem IRel.next_no {w wr : World} {f : Nat → Ent} {j s K m : Nat} {o : Obj} {e : Ent} (hm : m < K) (hb : Below w.heap.size w wr) (hf : f (s + m) = e) (h0 : foundB f j s m = false) (h : ¬ hit j e) :
    IRel w f j s K (.bool false) (.int .i64 ((s : Int) + m + 1)) (wr.alloc o) :=
  ⟨m + 1, hm, by go_num, by rw [found_same hf h0 h], hb.alloc hb.size o⟩

theorem IRel.next_yes {w wr : World} {f : Nat → Ent} {j s K m : Nat} {o : Obj} {e : Ent} (hm : m < K) (hb : Below w.heap.size w wr) (hf : f (s + m) = e) (h : hit j e) :
    IRel w f j s K (.bool true) (.int .i64 ((s : Int) + m + 1)) (wr.alloc o) :=
  ⟨m + 1, hm, by go_num, by rw [found_yes hf h], hb.alloc hb.size o⟩

set_option maxHeartbeats 2000000 in
set_option maxRecDepth 100000 in
theorem refFair_any (A : Option Addr) (n cap : Nat) (f : Nat → Ent) (W k : Int) (w : World) (hs : ScriptAt w A n f) (hn : n ≤ 1000000000) (hW : W ≤ 1000000000) :
    Calls Try.prog 14 #[.slice A n cap, .int .i64 W, .int .i64 k] w fun e w' => e = .returned (.bool (fairB f n W k)) ∧ Below w.heap.size w w' := by
  by_cases c0 : k < 1
  · have Hv : Hid (fairB f n W k = false) := by unfold Hid fairB; simp; omega
    go_enter Try.func14, Try.ntmps14
    go_wp2_with fail
    go_ret
    exact ⟨by rw [Hv.out]; rfl, Below.refl _ _⟩
  · by_cases c1 : (n : Int) < k
    · have Hv : Hid (fairB f n W k = true) := by
        have := least_bounds f n W
        unfold Hid fairB; simp; omega
      go_enter Try.func14, Try.ntmps14
      go_wp2_with fail
      go_loop [7] (fun v7 => v7 = .int .i64 0) (fun _ => 0)
      case atStart => rfl
      case round =>
        subst hrel
        go_wp2_with fail
        go_ret
        exact ⟨by rw [Hv.out]; rfl, Below.refl _ _⟩
    · obtain ⟨K, rfl⟩ : ∃ K : Nat, k = K := ⟨k.toNat, by omega⟩
      have c2 : 1 ≤ K := by omega
      have c3 : K ≤ n := by omega
      have hfi := Lib.hid (fair_iff f n W K c2)
      obtain ⟨b, off, rfl, hb, hc, hr⟩ := hs (by omega)
      have HC := Lib.hid hc
      clear hr hs hc c0 c1
      go_enter Try.func14, Try.ntmps14
      go_wp2_with fail
      go_loopw [7] (FRel w f n W K) (fun i _ => n + 1 - (intOf i).toNat)
      case atStart => exact ⟨0, by omega, rfl, fun s' h => by omega, Below.refl _ _⟩
      case round =>
        obtain ⟨s, hsK, rfl, hall, hbel⟩ := hrel
        have HALL := Lib.hid hall
        clear hall
        by_cases d0 : s + K ≤ n
        · go_wp2_with fail
          obtain ⟨wo, rfl⟩ : ∃ wo : World, wo = wr := ⟨_, rfl⟩
          go_loopw [8] (JRel w f W s K) (fun i _ => (W - intOf i).toNat)
          case atStart => exact ⟨0, .inr rfl, rfl, fun w' h => by omega, hbel⟩
          case round =>
            obtain ⟨j, hjW, rfl, hjall, hbel⟩ := hrel
            have HJ := Lib.hid hjall
            clear hjall
            by_cases d1 : (j : Int) < W
            · go_wp2_with fail
              obtain ⟨wp, rfl⟩ : ∃ wp : World, wp = wr := ⟨_, rfl⟩
              go_loopw [9, 10] (IRel w f j s K) (fun _ i _ => s + K - (intOf i).toNat)
              case atStart => exact ⟨0, by omega, by go_num, rfl, hbel⟩
              case round =>
                obtain ⟨m, hmK, rfl, rfl, hbel⟩ := hrel
                by_cases d2 : m < K
                · obtain ⟨s3, s6, k4, n5, A7, A8, A9, l7, c7, l8, c8, l9, c9, e0, e1, e2, e3, e4, e5, e6, e7, e8, e9⟩ := HC.out (s + m) (by omega)
                  rw [← hbel.cell (p := ⟨b, _, none⟩) hb] at e0 e1 e2 e3 e4 e5 e6 e7 e8 e9
                  generalize hf : f (s + m) = e at *
                  have Hf := Lib.hid hf
                  clear hf
                  by_cases f0 : foundB f j s m = true
                  · have F0 := Lib.hid f0
                    rw [f0]
                    clear f0
                    go_wp2_with fail
                    exact ⟨IRel.next_kept d2 hbel F0.out, by simp [intOf]; omega⟩
                  · have f0' : foundB f j s m = false := by simpa using f0
                    have F0 := Lib.hid f0'
                    rw [f0']
                    clear f0 f0'
                    by_cases x0 : e.kind = 1
                    · have y0 : (e.kind == 1) = true := by simpa using x0
                      by_cases x1 : e.a = j
                      · have y1 : (e.a == (j : Int)) = true := by simpa using x1
                        by_cases x2 : 1 ≤ e.b
                        · have hh := Lib.hid (show hit j e from ⟨x0, x1, x2⟩)
                          clear x0 x1
                          go_wp2_with fail
                          exact ⟨IRel.next_yes d2 hbel Hf.out hh.out, by simp [intOf]; omega⟩
                        · have hh := Lib.hid (show ¬ hit j e from fun h => x2 h.2.2)
                          clear x0 x1
                          go_wp2_with fail
                          exact ⟨IRel.next_no d2 hbel Hf.out F0.out hh.out, by simp [intOf]; omega⟩
                      · have y1 : (e.a == (j : Int)) = false := by simpa using x1
                        have hh := Lib.hid (show ¬ hit j e from fun h => x1 h.2.1)
                        clear x0 x1
                        go_wp2_with fail
                        exact ⟨IRel.next_no d2 hbel Hf.out F0.out hh.out, by simp [intOf]; omega⟩
                    · have y0 : (e.kind == 1) = false := by simpa using x0
                      have hh := Lib.hid (show ¬ hit j e from fun h => x0 h.1)
                      clear x0
                      go_wp2_with fail
                      exact ⟨IRel.next_no d2 hbel Hf.out F0.out hh.out, by simp [intOf]; omega⟩
                · obtain rfl : m = K := by omega
                  have hfo := Lib.hid (foundB_iff f j s m)
                  by_cases f0 : foundB f j s m = true
                  · have F0 := Lib.hid (hfo.out.1 f0)
                    rw [f0]
                    clear f0
                    go_wp2_with fail
                    refine ⟨⟨j + 1, .inl (by omega), by go_num, fun w' h => ?_, hbel⟩, by simp [intOf]; omega⟩
                    by_cases e : w' = j
                    · subst e; exact F0.out
                    · exact HJ.out w' (by omega)
                  · have f0' : foundB f j s m = false := by simpa using f0
                    have F0 := Lib.hid (fun h => f0 (hfo.out.2 h))
                    rw [f0']
                    clear f0 f0'
                    go_wp2_with fail
                    go_ret
                    have hv : fairB f n W m = false := by
                      unfold fairB
                      have h1 : ¬ least f n W ≤ m := fun h => F0.out (hfi.out.2 h s d0 j d1)
                      simp [h1]
                    exact ⟨by rw [hv]; rfl, hbel⟩
            · go_wp2_with fail
              refine ⟨⟨s + 1, by omega, by go_num, fun s' h w' hw => ?_, hbel⟩, by simp [intOf]; omega⟩
              by_cases e : s' = s
              · subst e; exact HJ.out w' (by omega)
              · exact HALL.out s' (by omega) w' hw
        · go_wp2_with fail
          go_ret
          have hv : fairB f n W K = true := by
            unfold fairB
            have h1 : least f n W ≤ K := hfi.out.1 fun s' h' w' hw' => HALL.out s' (by omega) w' hw'
            simp [h1]; omega
          exact ⟨by rw [hv]; rfl, hbel⟩

set_option maxHeartbeats 1000000 in
set_option maxRecDepth 100000 in
theorem refLeast_any (A : Option Addr) (n cap : Nat) (f : Nat → Ent) (W : Int) (w : World) (hs : ScriptAt w A n f) (hn : n ≤ 1000000000) (hW : W ≤ 1000000000) :
    Calls Try.prog 16 #[.slice A n cap, .int .i64 W] w fun e w' => e = .returned (.int .i64 (least f n W)) ∧ Below w.heap.size w w' := by
  have lb := least_bounds f n W
  obtain ⟨L, hL⟩ : ∃ L : Nat, least f n W = L := ⟨(least f n W).toNat, by omega⟩
  have HL := Lib.hid hL
  have l1 : 1 ≤ L := by omega
  have l2 : L ≤ n + 1 := by omega
  have HS := Lib.hid hs
  clear hL hs lb
  go_enter Try.func16, Try.ntmps16
  go_wp2_with fail
  go_loopw [5] (fun v5 wr => ∃ k : Nat, 1 ≤ k ∧ k ≤ L ∧ v5 = .int .i64 k ∧ Below w.heap.size w wr) (fun i _ => n + 2 - (intOf i).toNat)
  case atStart => exact ⟨1, by omega, l1, rfl, Below.refl _ _⟩
  case round =>
    obtain ⟨k, hk, hkL, rfl, hbel⟩ := hrel
    by_cases c0 : k ≤ n
    · have hsr : ScriptAt wr A n f := fun hp => by
        obtain ⟨b, off, e, hb, hc, hr⟩ := HS.out hp
        refine ⟨b, off, e, Nat.lt_of_lt_of_le hb hbel.size, fun i hi => ?_, hr⟩
        obtain ⟨s3, s6, k4, n5, A7, A8, A9, l7, c7, l8, c8, l9, c9, e0, e1, e2, e3, e4, e5, e6, e7, e8, e9⟩ := hc i hi
        refine ⟨s3, s6, k4, n5, A7, A8, A9, l7, c7, l8, c8, l9, c9, ?_⟩
        rw [hbel.cell (p := ⟨b, _, none⟩) hb, hbel.cell (p := ⟨b, _, none⟩) hb, hbel.cell (p := ⟨b, _, none⟩) hb, hbel.cell (p := ⟨b, _, none⟩) hb, hbel.cell (p := ⟨b, _, none⟩) hb, hbel.cell (p := ⟨b, _, none⟩) hb,
          hbel.cell (p := ⟨b, _, none⟩) hb, hbel.cell (p := ⟨b, _, none⟩) hb, hbel.cell (p := ⟨b, _, none⟩) hb, hbel.cell (p := ⟨b, _, none⟩) hb]
        exact ⟨e0, e1, e2, e3, e4, e5, e6, e7, e8, e9⟩
      have HC := refFair_any A n cap f W k wr hsr hn hW
      have hv : fairB f n W k = decide (L ≤ k) := by unfold fairB; rw [HL.out]; simp; omega
      rw [hv] at HC
      have HC' := Lib.hid HC
      clear HC hv hsr
      by_cases c1 : k = L
      · have c2 : L ≤ k := by omega
        have C1 := Lib.hid c1
        clear c1
        go_wp2_with fail
        refine HC'.out.mono ?_
        rintro e w1 ⟨rfl, hb1⟩
        go_wp2_with fail
        go_ret
        exact ⟨by rw [HL.out, ← C1.out]; rfl, hbel.trans (hb1.mono hbel.size)⟩
      · have c2 : k < L := by omega
        clear c1
        go_wp2_with fail
        refine HC'.out.mono ?_
        rintro e w1 ⟨rfl, hb1⟩
        go_wp2_with fail
        exact ⟨⟨k + 1, by omega, by omega, by go_num, hbel.trans (hb1.mono hbel.size)⟩, by simp [intOf]; omega⟩
    · have c2 := Lib.hid (show L = n + 1 by omega)
      go_wp2_with fail
      go_ret
      exact ⟨by rw [HL.out, c2.out]; rfl, hbel⟩
end Go.Proofs.Ytniopaimhncmkaa
