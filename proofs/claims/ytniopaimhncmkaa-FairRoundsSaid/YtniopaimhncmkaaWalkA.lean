/- Walk of longest: the contract of fair.longest over the entries that a slice holds. -/
import Derived.Test.YtniopaimhncmkaaProg
import Derived.Test.YtniopaimhncmkaaPlain
import Derived.WalkKit
import Derived.KernelRfl
import Derived.Lib.Hide
import Derived.Deep.LoopGhost
import Derived.Deep.QuietTactic
import Derived.BigQuiet
import Derived.Deep.DeepCutAuto
set_option linter.unusedVariables false
set_option linter.unusedSimpArgs false
namespace Go.Proofs.Ytniopaimhncmkaa
open Go.RowKit Go.Proofs.Ytniopaimhncmkaa.Plain

/-- entry 'e' lies at 'b', 'o' in the world 'w'. -/
def EntAt (w : World) (b o : Nat) (e : Ent) : Prop :=
  ∃ (s3 s6 : ByteArray) (k4 n5 : Int) (A7 A8 A9 : Option Addr) (l7 c7 l8 c8 l9 c9 : Nat),
    w.cell? ⟨b, o, none⟩ = some (.int .i64 e.kind) ∧ w.cell? ⟨b, o + 1, none⟩ = some (.int .i64 e.a) ∧ w.cell? ⟨b, o + 2, none⟩ = some (.int .i64 e.b) ∧
    w.cell? ⟨b, o + 3, none⟩ = some (.string s3) ∧ w.cell? ⟨b, o + 4, none⟩ = some (.int .i64 k4) ∧ w.cell? ⟨b, o + 5, none⟩ = some (.int .i64 n5) ∧
    w.cell? ⟨b, o + 6, none⟩ = some (.string s6) ∧ w.cell? ⟨b, o + 7, none⟩ = some (.slice A7 l7 c7) ∧ w.cell? ⟨b, o + 8, none⟩ = some (.slice A8 l8 c8) ∧
    w.cell? ⟨b, o + 9, none⟩ = some (.slice A9 l9 c9)

def ArrIs (w : World) (b : Nat) (L : Nat → Int) : Prop := w.heap[b]? = some (.cells (Array.ofFn (n := 64) fun k => .int .i64 (L k)) 40 (0, 0))

theorem ArrIs.cell {w : World} {b : Nat} {L : Nat → Int} (h : ArrIs w b L) {k : Nat} (hk : k < 64) : w.cell? ⟨b, k, none⟩ = some (.int .i64 (L k)) := by
  unfold ArrIs at h
  simp [World.cell?, h, hk]

theorem ArrIs.free {w : World} {b : Nat} {L : Nat → Int} (h : ArrIs w b L) (k : Nat) : w.frozen? ⟨b, k, none⟩ = false := by
  unfold ArrIs at h
  simp [World.frozen?, h]

theorem ArrIs.lt {w : World} {b : Nat} {L : Nat → Int} (h : ArrIs w b L) : b < w.heap.size := by
  unfold ArrIs at h
  exact (Array.getElem?_eq_some_iff.1 h).1

theorem ArrIs.alloc {w : World} {b : Nat} {L : Nat → Int} (h : ArrIs w b L) (o : Obj) : ArrIs (w.alloc o) b L := (Below.heap_alloc w o b h.lt).trans h

theorem ArrIs.set_ {w : World} {b : Nat} {L : Nat → Int} (h : ArrIs w b L) (k : Nat) (x : Int) : ArrIs (w.setCell ⟨b, k, none⟩ (.int .i64 x)) b (fun j => if j = k then x else L j) := by
  unfold ArrIs at h ⊢
  simp only [World.setCell, Array.getElem?_modify, h, if_true, Option.map_some, Option.some.injEq, Obj.cells.injEq, and_true]
  simp only [Option.isSome_none, Bool.false_eq_true, if_false]
  apply Array.ext
  · simp
  · intro i h1 h2
    rw [Array.getElem_setIfInBounds (by simpa using h2)]
    by_cases e : k = i
    · subst e; simp
    · rw [if_neg e]; simp [show ¬ i = k from fun h => e h.symm]

theorem ArrIs.new (w : World) : ArrIs (w.alloc (.cells (Array.ofFn (n := 64) fun _ => .int .i64 0) 40)) w.heap.size (fun _ => 0) := by
  unfold ArrIs
  exact heap_alloc_new w _

def LRel (w : World) (n : Nat) (f : Nat → Ent) (W : Int) (n8 i16 : Value) (wr : World) : Prop :=
  ∃ k : Nat, k ≤ n ∧ i16 = .int .i64 k ∧ n8 = .int .i64 (run W f k).n ∧ w.heap.size < wr.heap.size ∧ Below w.heap.size w wr ∧ ArrIs wr w.heap.size (run W f k).last

theorem step_no {W : Int} {f : Nat → Ent} {k : Nat} {e : Ent} (hf : f k = e) (h : ¬ cond W e) : run W f (k + 1) = run W f k := by
  rw [run_succ, hf]; unfold Plain.step; rw [if_neg h]

theorem step_yes {W : Int} {f : Nat → Ent} {k : Nat} {e : Ent} (hf : f k = e) (h : cond W e) :
    run W f (k + 1) = { n := big (run W f k).n ((k : Int) - (run W f k).last e.a.toNat), last := fun j => if j = e.a.toNat then (k : Int) + 1 else (run W f k).last j } := by
  rw [run_succ, hf]; unfold Plain.step; rw [if_pos h]

theorem lrel_skip {w wr : World} {n k : Nat} {f : Nat → Ent} {W : Int} {e : Ent} (o : Obj) (hlt : k < n) (hsz : w.heap.size < wr.heap.size) (hbel : Below w.heap.size w wr)
    (harr : ArrIs wr w.heap.size (run W f k).last) (hf : f k = e) (h : ¬ cond W e) : LRel w n f W (.int .i64 (run W f k).n) (.int .i64 ((k : Int) + 1)) (wr.alloc o) :=
  ⟨k + 1, hlt, by go_num, by rw [step_no hf h], by simp; omega, hbel.alloc (by omega) o, by rw [step_no hf h]; exact harr.alloc o⟩

theorem lrel_hit {w wr : World} {n k : Nat} {f : Nat → Ent} {W : Int} {e : Ent} (o : Obj) (hlt : k < n) (hsz : w.heap.size < wr.heap.size) (hbel : Below w.heap.size w wr)
    (harr : ArrIs wr w.heap.size (run W f k).last) (hf : f k = e) (h : cond W e) :
    LRel w n f W (.int .i64 (big (run W f k).n ((k : Int) - (run W f k).last e.a.toNat))) (.int .i64 ((k : Int) + 1)) ((wr.setCell ⟨w.heap.size, e.a.toNat, none⟩ (.int .i64 ((k : Int) + 1))).alloc o) := by
  refine ⟨k + 1, hlt, by go_num, by rw [step_yes hf h], by simp; omega, (hbel.setCell (p := ⟨w.heap.size, e.a.toNat, none⟩) (Nat.le_refl _) _).alloc (by simp; omega) o, ?_⟩
  rw [step_yes hf h]
  exact (harr.set_ _ _).alloc o

set_option maxHeartbeats 1000000 in
set_option maxRecDepth 100000 in
theorem longest_any (b off : Nat) (n cap : Nat) (f : Nat → Ent) (W : Nat) (w : World) (hb : b < w.heap.size) (hn : n ≤ 1000000000) (hcap : n ≤ cap) (hW : W ≤ 64)
    (hc : ∀ i, i < n → EntAt w b (off + i * 10) (f i)) (hr : ∀ i, -9223372036854775808 ≤ (f i).a ∧ (f i).a ≤ 9223372036854775807) :
    Calls Try.prog 18 #[.slice (some ⟨b, off, none⟩) n cap, .int .i64 0, .int .i64 W] w fun e w' => e = .returned (.int .i64 (longest f n W)) ∧ Below w.heap.size w w' := by
  go_enter Try.func18, Try.ntmps18
  go_wp2
  go_loopw [8, 16] (LRel w n f W) (fun _ i _ => n - (intOf i).toNat)
  case atStart => exact ⟨0, Nat.zero_le _, rfl, rfl, by simp, (Below.refl _ _).alloc (Nat.le_refl _) _, ArrIs.new w⟩
  case round =>
    obtain ⟨k, hk, rfl, rfl, hsz, hbel, harr⟩ := hrel
    by_cases hlt : k < n
    · obtain ⟨s3, s6, k4, n5, A7, A8, A9, l7, c7, l8, c8, l9, c9, e0, e1, e2, e3, e4, e5, e6, e7, e8, e9⟩ := hc k hlt
      rw [← hbel.cell (p := ⟨b, _, none⟩) hb] at e0 e1 e2 e3 e4 e5 e6 e7 e8 e9
      clear hc
      have r1 := (hr k).1
      have r2 := (hr k).2
      clear hr
      generalize hf : f k = e at *
      have Hf := Lib.hid hf
      clear hf
      by_cases c0 : e.kind = 1
      · have d0 : (e.kind == 1) = true := by simpa using c0
        clear c0
        by_cases c1 : 0 ≤ e.a
        · by_cases c2 : e.a < W
          · by_cases c3 : 1 ≤ e.b
            · have c4 : e.a < 64 := by omega
              have hcell := harr.cell (k := e.a.toNat) (by omega)
              have hfree := harr.free e.a.toNat
              have b1 := (ok_run W f k).n0
              have b2 := (ok_run W f k).ni
              have b3 := (ok_run W f k).l0 e.a.toNat
              have b4 := (ok_run W f k).li e.a.toNat
              go_wp2
              go_roundw
              case rel => exact lrel_hit _ hlt hsz hbel harr Hf.out ⟨by simpa using d0, c1, c2, c3⟩
              case measure => simp [intOf]; omega
            · go_wp2
              go_roundw
              case rel => exact lrel_skip _ hlt hsz hbel harr Hf.out (fun h => by have := h.2.2.2; omega)
              case measure => simp [intOf]; omega
          · go_wp2
            go_roundw
            case rel => exact lrel_skip _ hlt hsz hbel harr Hf.out (fun h => by have := h.2.2.1; omega)
            case measure => simp [intOf]; omega
        · go_wp2
          go_roundw
          case rel => exact lrel_skip _ hlt hsz hbel harr Hf.out (fun h => by have := h.2.1; omega)
          case measure => simp [intOf]; omega
      · have d0 : (e.kind == 1) = false := by simpa using c0
        clear c0
        go_wp2
        go_roundw
        case rel => exact lrel_skip _ hlt hsz hbel harr Hf.out (fun h => by have := h.1; simp [this] at d0)
        case measure => simp [intOf]; omega
    · have hkn : k = n := by omega
      subst hkn
      clear hc hr hk
      go_wp2
      go_loop [8, 12] (fun n8 i12 => ∃ j : Nat, j ≤ 64 ∧ j ≤ W ∧ i12 = .int .i64 j ∧ n8 = .int .i64 (fin k (run W f k) j)) (fun _ i => 64 - (intOf i).toNat)
      case atStart => exact ⟨0, by omega, by omega, rfl, rfl⟩
      case round =>
        obtain ⟨j, hj, hjW, rfl, rfl⟩ := hrel
        by_cases c0 : j < 64
        · by_cases c1 : j < W
          · have hcell := harr.cell (k := j) c0
            have b1 := (ok_run W f k).l0 j
            have b2 := (ok_run W f k).li j
            go_wp2
            have hm : ((k - ((run W f k).last j).toNat : Nat) : Int) = (k : Int) - (run W f k).last j := by omega
            rw [hm]
            clear hm
            go_round
            case rel => exact ⟨j + 1, by omega, by omega, by go_num, rfl⟩
            case measure => simp [intOf]; omega
          · have hjw : j = W := by omega
            subst hjw
            go_wp2
            go_ret
            exact ⟨rfl, hbel⟩
        · have hjw : j = W := by omega
          subst hjw
          go_wp2
          go_ret
          exact ⟨rfl, hbel⟩
end Go.Proofs.Ytniopaimhncmkaa
