/-
  'small' of one event: what it answers, whatever the event; what was, stays.
-/
import Derived.Test.YtfemcbcjonfpaaaGreatDoorCtxJ
import Derived.Test.YtfemcbcjonfpaaaGreatDoorDSmall
namespace Go.Dx.Jo
open Go.Proofs

noncomputable def cS : Code := match Tryz.f7.body with | some c => c | none => .skip
noncomputable def outS : Code := inC (inC (sndC (fstC (sndC (sndC (sndC cS))))))
noncomputable def b1S : Code := inC (fstC (sndC outS))
noncomputable def inS : Code := inC (inC (sndC (fstC (sndC b1S))))
theorem bodyS : Tryz.f7.body = some cS := by kernel_rfl
theorem cS_eq : cS = .seq (fstC cS) (.seq (fstC (sndC cS)) (.seq (fstC (sndC (sndC cS))) (.seq (.seq (fstC (fstC (sndC (sndC (sndC cS))))) (.block 0 (.loop outS))) (sndC (sndC (sndC (sndC cS))))))) := by kernel_rfl
theorem outS_eq : outS = .seq (fstC outS) (.seq (.block 1 b1S) (sndC (sndC outS))) := by kernel_rfl
theorem b1S_eq : b1S = .seq (fstC b1S) (.seq (.seq (fstC (fstC (sndC b1S))) (.block 2 (.loop inS))) (sndC (sndC b1S))) := by kernel_rfl
theorem bare : Bare base := ⟨rfl, rfl, rfl, rfl, rfl, rfl, rfl, rfl⟩
theorem gokEv {lb nb : Int × Int} : GOK (Gev base lb nb) Tryz.prog := gok rfl rfl rfl rfl
theorem gokSp {it : List ITab} {lt : Bool} {arr aft usr prt : Int × Int} : GOK (Gsp base it lt arr aft usr prt) Tryz.prog := gok rfl rfl rfl rfl

theorem k_P0 : outIs (run (Gev base (0, 9223372036854775807) (0, 400)) 30 none 7 65 (fstC cS) (mkA [(0, .sl 0 0 1 (.ex 1))]) [] (st1 24)) (chk .nor [(0, .sl 0 0 1 (.ex 1)), (2, .bool false)]) = true := by kernel_rfl
theorem k_P1 : outIs (run (Gev base (0, 9223372036854775807) (0, 400)) 30 none 7 65 (fstC (sndC cS)) (mkA [(0, .sl 0 0 1 (.ex 1)), (2, .bool false)]) [] (st1 24)) (chk .nor [(0, .sl 0 0 1 (.ex 1)), (2, .bool false), (3, .int .i64 (.c 0))]) = true := by kernel_rfl
theorem k_P2 : outIs (run (Gev base (0, 9223372036854775807) (0, 400)) 30 none 7 65 (fstC (sndC (sndC cS))) (mkA [(0, .sl 0 0 1 (.ex 1)), (2, .bool false), (3, .int .i64 (.c 0))]) [] (st1 24)) (chk .nor [(0, .sl 0 0 1 (.ex 1)), (2, .bool false), (3, .int .i64 (.c 0))]) = true := by kernel_rfl
theorem k_X : outIs (run (Gev base (0, 9223372036854775807) (0, 400)) 30 none 7 65 (fstC (fstC (sndC (sndC (sndC cS))))) (mkA [(0, .sl 0 0 1 (.ex 1)), (2, .bool false), (3, .int .i64 (.c 0))]) [] (st1 24)) (chk .nor [(0, .sl 0 0 1 (.ex 1)), (2, .bool false), (3, .int .i64 (.c 0)), (4, .int .i64 (.c 0))]) = true := by kernel_rfl
theorem k_T1 : outIs (run (Gev base (0, 9223372036854775807) (0, 400)) 30 none 7 65 (fstC outS) (mkA [(0, .sl 0 0 1 (.ex 1)), (2, .bool false), (3, .int .i64 (.c 0)), (4, .int .i64 (.c 0))]) [] (st1 24)) (chk .nor [(0, .sl 0 0 1 (.ex 1)), (2, .bool false), (3, .int .i64 (.c 0)), (4, .int .i64 (.c 0))]) = true := by kernel_rfl
theorem k_T1e : outIs (run (Gev base (0, 9223372036854775807) (0, 400)) 30 none 7 65 (fstC outS) (mkA [(0, .sl 0 0 1 (.ex 1)), (2, .bool false), (4, .int .i64 (.c 1))]) [] (st1 24)) (chk (.exit 0) [(0, .sl 0 0 1 (.ex 1))]) = true := by kernel_rfl
theorem k_U1 : outIs (run (Gev base (0, 8) (0, 400)) 30 none 7 65 (fstC b1S) (mkA [(0, .sl 0 0 1 (.ex 1)), (2, .bool false), (3, .int .i64 (.c 0)), (4, .int .i64 (.c 0))]) [] (st1 24)) (chk .nor [(0, .sl 0 0 1 (.ex 1)), (2, .bool false), (3, .int .i64 (.c 0)), (4, .int .i64 (.c 0))]) = true := by kernel_rfl
theorem k_U1b : outIs (run (Gev base (9, 9223372036854775807) (0, 400)) 30 none 7 65 (fstC b1S) (mkA [(0, .sl 0 0 1 (.ex 1)), (2, .bool false), (3, .int .i64 (.c 0)), (4, .int .i64 (.c 0))]) [] (st1 24)) (chk .ret [(2, .bool false)]) = true := by kernel_rfl
theorem k_Y : outIs (run (Gev base (0, 8) (0, 400)) 30 none 7 65 (fstC (fstC (sndC b1S))) (mkA [(0, .sl 0 0 1 (.ex 1)), (2, .bool false), (3, .int .i64 (.c 0)), (4, .int .i64 (.c 0))]) [] (st1 24)) (chk .nor [(0, .sl 0 0 1 (.ex 1)), (2, .bool false), (3, .int .i64 (.c 0)), (4, .int .i64 (.c 0)), (5, .int .i64 (.c 0))]) = true := by kernel_rfl
theorem k_in_end : outIs (run (Gev base (0, 8) (0, 400)) 30 none 7 65 inS (mkA [(0, .sl 0 0 1 (.ex 1)), (2, .bool false), (3, .int .i64 (.a 2 0)), (4, .int .i64 (.c 0)), (5, .int .i64 (.a 1 0))]) [] (st1 24)) (chk (.exit 2) [(0, .sl 0 0 1 (.ex 1)), (2, .bool false), (3, .int .i64 (.a 2 0)), (4, .int .i64 (.c 0))]) = true := by kernel_rfl
theorem k_U2 : outIs (run (Gev base (0, 8) (0, 14)) 30 none 7 65 (sndC (sndC b1S)) (mkA [(0, .sl 0 0 1 (.ex 1)), (2, .bool false), (3, .int .i64 (.a 2 0)), (4, .int .i64 (.c 0))]) [] (st1 24)) (chk .nor [(0, .sl 0 0 1 (.ex 1)), (2, .bool false), (3, .int .i64 (.a 2 0)), (4, .int .i64 (.c 0))]) = true := by kernel_rfl
theorem k_U2b : outIs (run (Gev base (0, 8) (15, 400)) 30 none 7 65 (sndC (sndC b1S)) (mkA [(0, .sl 0 0 1 (.ex 1)), (2, .bool false), (3, .int .i64 (.a 2 0)), (4, .int .i64 (.c 0))]) [] (st1 24)) (chk .ret [(2, .bool false)]) = true := by kernel_rfl
theorem k_T2 : outIs (run (Gev base (0, 9223372036854775807) (0, 400)) 30 none 7 65 (sndC (sndC outS)) (mkA [(0, .sl 0 0 1 (.ex 1)), (2, .bool false), (3, .int .i64 (.a 2 0)), (4, .int .i64 (.c 0))]) [] (st1 24)) (chk .nor [(0, .sl 0 0 1 (.ex 1)), (2, .bool false), (4, .int .i64 (.c 1))]) = true := by kernel_rfl
theorem k_rest : outIs (run (Gev base (0, 9223372036854775807) (0, 400)) 30 none 7 65 (sndC (sndC (sndC (sndC cS)))) (mkA [(0, .sl 0 0 1 (.ex 1))]) [] (st1 24)) (chk .ret [(2, .bool true)]) = true := by kernel_rfl
theorem r_aft : outIs (run (Gsp base [{ t := 22, j := 9, i := .a 0 0, id := 1, o := 0 }] true (-9223372036854775808, 9223372036854775807) (21, 9223372036854775807) (-9223372036854775808, 9223372036854775807) (-9223372036854775808, 9223372036854775807)) 30 none 7 65 inS (mkA [(0, .sl 0 0 1 (.ex 1)), (2, .bool false), (3, .int .i64 (.a 2 0)), (4, .int .i64 (.c 0)), (5, .int .i64 (.a 0 0))]) [] (st2 24 67)) (chk .ret [(2, .bool false)]) = true := by kernel_rfl
theorem r_usr : outIs (run (Gsp base [{ t := 22, j := 9, i := .a 0 0, id := 1, o := 0 }] true (-9223372036854775808, 9223372036854775807) (0, 20) (101, 9223372036854775807) (-9223372036854775808, 9223372036854775807)) 30 none 7 65 inS (mkA [(0, .sl 0 0 1 (.ex 1)), (2, .bool false), (3, .int .i64 (.a 2 0)), (4, .int .i64 (.c 0)), (5, .int .i64 (.a 0 0))]) [] (st2 24 67)) (chk .ret [(2, .bool false)]) = true := by kernel_rfl
theorem r_prt : outIs (run (Gsp base [{ t := 22, j := 9, i := .a 0 0, id := 1, o := 0 }] true (-9223372036854775808, 9223372036854775807) (0, 20) (0, 100) (101, 9223372036854775807)) 30 none 7 65 inS (mkA [(0, .sl 0 0 1 (.ex 1)), (2, .bool false), (3, .int .i64 (.a 2 0)), (4, .int .i64 (.c 0)), (5, .int .i64 (.a 0 0))]) [] (st2 24 67)) (chk .ret [(2, .bool false)]) = true := by kernel_rfl
theorem r_neg : outIs (run (Gsp base [{ t := 22, j := 9, i := .a 0 0, id := 1, o := 0 }] true (-9223372036854775808, -1) (0, 20) (0, 100) (0, 100)) 30 none 7 65 inS (mkA [(0, .sl 0 0 1 (.ex 1)), (2, .bool false), (3, .int .i64 (.a 2 0)), (4, .int .i64 (.c 0)), (5, .int .i64 (.a 0 0))]) [] (st2 24 67)) (chk .nor [(0, .sl 0 0 1 (.ex 1)), (2, .bool false), (3, .int .i64 (.a 2 0)), (4, .int .i64 (.c 0)), (5, .int .i64 (.a 0 1))]) = true := by kernel_rfl
theorem r_mid : outIs (run (Gsp base [{ t := 22, j := 9, i := .a 0 0, id := 1, o := 0 }] true (0, 50) (0, 20) (0, 100) (0, 100)) 30 none 7 65 inS (mkA [(0, .sl 0 0 1 (.ex 1)), (2, .bool false), (3, .int .i64 (.a 2 0)), (4, .int .i64 (.c 0)), (5, .int .i64 (.a 0 0))]) [] (st2 24 67)) (chk .nor [(0, .sl 0 0 1 (.ex 1)), (2, .bool false), (3, .int .i64 (.a 7 0)), (4, .int .i64 (.c 0)), (5, .int .i64 (.a 0 1))]) = true := by kernel_rfl
theorem r_big : outIs (run (Gsp base [{ t := 22, j := 9, i := .a 0 0, id := 1, o := 0 }] true (51, 9223372036854775807) (0, 20) (0, 100) (0, 100)) 30 none 7 65 inS (mkA [(0, .sl 0 0 1 (.ex 1)), (2, .bool false), (3, .int .i64 (.a 2 0)), (4, .int .i64 (.c 0)), (5, .int .i64 (.a 0 0))]) [] (st2 24 67)) (chk .nor [(0, .sl 0 0 1 (.ex 1)), (2, .bool false), (3, .int .i64 (.a 2 50)), (4, .int .i64 (.c 0)), (5, .int .i64 (.a 0 1))]) = true := by kernel_rfl

theorem h41 : Tryz.prog.underlying 22 = some (.slice 67) := by kernel_rfl
theorem h49 : ∃ i, Tryz.prog.info? 67 = some i ∧ i.size = 13 := ⟨Tryz.t67, by kernel_rfl, by kernel_rfl⟩

def slotN (i : Nat) (A : Act) : Nat := match A.tmps[i]? with
  | some (Value.int _ x) => x.toNat
  | _ => 0
theorem slotN_of {i : Nat} {A : Act} {k : IntKind} {x : Int} (h : A.tmps[i]? = some (Value.int k x)) : slotN i A = x.toNat := by unfold slotN; rw [h]
/-- At the head of the inner loop's rounds. -/
structure InI (w0 : World) (b o : Nat) (N : SpecN) (L : Nat) (k : Nat) (A : Act) (w : World) : Prop where
  calm : Calm w0 w
  size : A.tmps.size = 65
  df : A.defers = []
  s0 : A.tmps[0]? = some (.slice (some ⟨b, o, none⟩) 1 1)
  s2 : A.tmps[2]? = some (.bool false)
  s3 : A.tmps[3]? = some (.int .i64 (sumTo N.x k))
  s4 : A.tmps[4]? = some (.int .i64 0)
  s5 : A.tmps[5]? = some (.int .i64 k)
  le : k ≤ L
  ok : ∀ j, j < k → ¬ N.bad j

variable {w0 : World} {b o : Nat} {E : Nat → Value} {sa : Option Addr} {L cap : Nat} {N : SpecN}
theorem clip_neg {x : Int} (h : x < 0) : clip x = 0 := by unfold clip; rw [if_pos h]
theorem clip_mid {x : Int} (h : 0 ≤ x) (h' : x ≤ 50) : clip x = x := by unfold clip; rw [if_neg (by omega), if_pos h']
theorem clip_big {x : Int} (h : 50 < x) : clip x = 50 := by unfold clip; rw [if_neg (by omega), if_neg (by omega)]
theorem wrap_small {n : Int} (h1 : 0 ≤ n) (h2 : n ≤ 1000) : IntKind.i64.wrap n = n := inK_mid (k := .i64) (a := 0) (b := 1000) rfl rfl h1 h2

theorem round_bad {n : Nat} (hE : EvAt w0 b o E) (h9 : E 9 = .slice sa L cap) (hS : ∀ k, k < L → SpecAt w0 b sa N k) (hL8 : L ≤ 8) {k : Nat} {A : Act} {w : World} (hI : InI w0 b o N L k A w) (hk : k < L) (hb : N.bad k) {Q : Exit → Act → World → Prop}
    (hQ : ∀ A' w', A'.tmps.size = 65 → A'.defers = [] → A'.tmps[2]? = some (.bool false) → Calm w0 w' → Q .ret A' w') : inS.wpIn Fence.wide n Tryz.prog Q A w := by
  have hSk := (hS k hk).calm hI.calm
  have hn := sumTo_bd N.x k
  obtain ⟨_, _, _, _, _, _, _, _, _, _, _, _, ⟨_, x1, x2⟩, _, u1, u2, p1, p2, a1, a2⟩ := hSk
  have hSk := (hS k hk).calm hI.calm
  have l0 : ∀ y ∈ ([(0, .sl 0 0 1 (.ex 1)), (2, .bool false), (3, .int .i64 (.a 2 0)), (4, .int .i64 (.c 0)), (5, .int .i64 (.a 0 0))] : List (Nat × SV)), ∃ V, A.tmps[y.1]? = some V ∧ SVal b o (intAt k L (sumTo N.x k) (N.x k) (N.la k) (N.lu k) (N.lp k) (IntKind.i64.wrap (sumTo N.x k + N.x k))) y.2 V := by
    simp [SVal, intAt, hI.s0, hI.s2, hI.s3, hI.s4, hI.s5]
  have fin : ∀ A' w', A'.tmps.size = 65 → A'.defers = [] → (∀ y ∈ ([(2, .bool false)] : List (Nat × SV)), ∃ V, A'.tmps[y.1]? = some V ∧ SVal b o (intAt k L (sumTo N.x k) (N.x k) (N.la k) (N.lu k) (N.lp k) (IntKind.i64.wrap (sumTo N.x k + N.x k))) y.2 V) → Calm w w' → Q (exitOf .ret) A' w' := fun A' w' q1 q2 q3 q4 => hQ A' w' q1 q2 (by simpa [SVal] using q3) (hI.calm.trans q4)
  by_cases ha : 20 < N.la k
  · exact sp_piece bare gokSp h41 h49 (hE.calm hI.calm) hSk h9 hk hL8 ⟨hn.1, by omega⟩ ⟨x1, x2⟩ ⟨by omega, a2⟩ ⟨by omega, u2⟩ ⟨by omega, p2⟩ rfl r_aft rfl hI.size hI.df l0 fin
  · by_cases hu : 100 < N.lu k
    · exact sp_piece bare gokSp h41 h49 (hE.calm hI.calm) hSk h9 hk hL8 ⟨hn.1, by omega⟩ ⟨x1, x2⟩ ⟨a1, by omega⟩ ⟨by omega, u2⟩ ⟨by omega, p2⟩ rfl r_usr rfl hI.size hI.df l0 fin
    · have hp : 100 < N.lp k := by unfold SpecN.bad at hb; omega
      exact sp_piece bare gokSp h41 h49 (hE.calm hI.calm) hSk h9 hk hL8 ⟨hn.1, by omega⟩ ⟨x1, x2⟩ ⟨a1, by omega⟩ ⟨u1, by omega⟩ ⟨by omega, p2⟩ rfl r_prt rfl hI.size hI.df l0 fin

theorem round_ok {n : Nat} (hE : EvAt w0 b o E) (h9 : E 9 = .slice sa L cap) (hS : ∀ k, k < L → SpecAt w0 b sa N k) (hL8 : L ≤ 8) {k : Nat} {A : Act} {w : World} (hI : InI w0 b o N L k A w) (hk : k < L) (hb : ¬ N.bad k) {Q : Exit → Act → World → Prop}
    (hQ : ∀ A' w', InI w0 b o N L (k + 1) A' w' → Q .normal A' w') : inS.wpIn Fence.wide n Tryz.prog Q A w := by
  have hSk := (hS k hk).calm hI.calm
  have hn := sumTo_bd N.x k
  obtain ⟨_, _, _, _, _, _, _, _, _, _, _, _, ⟨_, x1, x2⟩, _, u1, u2, p1, p2, a1, a2⟩ := hSk
  have hSk := (hS k hk).calm hI.calm
  have l0 : ∀ y ∈ ([(0, .sl 0 0 1 (.ex 1)), (2, .bool false), (3, .int .i64 (.a 2 0)), (4, .int .i64 (.c 0)), (5, .int .i64 (.a 0 0))] : List (Nat × SV)), ∃ V, A.tmps[y.1]? = some V ∧ SVal b o (intAt k L (sumTo N.x k) (N.x k) (N.la k) (N.lu k) (N.lp k) (IntKind.i64.wrap (sumTo N.x k + N.x k))) y.2 V := by
    simp [SVal, intAt, hI.s0, hI.s2, hI.s3, hI.s4, hI.s5]
  have hok : ∀ j, j < k + 1 → ¬ N.bad j := fun j hj => by
    by_cases e : j = k
    · rw [e]; exact hb
    · exact hI.ok j (by omega)
  have fin : ∀ (s : SI) (A' : Act) (w' : World), s.den (env13 E (fun _ => .bool true) k L (sumTo N.x k) (N.x k) (N.la k) (N.lu k) (N.lp k) (IntKind.i64.wrap (sumTo N.x k + N.x k))) = sumTo N.x (k + 1) → A'.tmps.size = 65 → A'.defers = [] → Calm w w' → A'.tmps[0]? = some (.slice (some ⟨b, o, none⟩) 1 1) → A'.tmps[2]? = some (.bool false) →
      A'.tmps[3]? = some (.int .i64 (s.den (env13 E (fun _ => .bool true) k L (sumTo N.x k) (N.x k) (N.la k) (N.lu k) (N.lp k) (IntKind.i64.wrap (sumTo N.x k + N.x k))))) → A'.tmps[4]? = some (.int .i64 0) → A'.tmps[5]? = some (.int .i64 (k + 1)) → Q .normal A' w' := fun s A' w' e q1 q2 q4 g0 g2 g3 g4 g5 =>
    hQ A' w' ⟨hI.calm.trans q4, q1, q2, g0, g2, by rw [g3, e], g4, by rw [g5]; rfl, hk, hok⟩
  unfold SpecN.bad at hb
  by_cases hneg : N.x k < 0
  · refine sp_piece bare gokSp h41 h49 (hE.calm hI.calm) hSk h9 hk hL8 ⟨hn.1, by omega⟩ ⟨x1, by omega⟩ ⟨a1, by omega⟩ ⟨u1, by omega⟩ ⟨p1, by omega⟩ rfl r_neg rfl hI.size hI.df l0 fun A' w' q1 q2 q3 q4 => ?_
    simp [SVal, intAt] at q3
    exact fin (.a 2 0) A' w' (by simp only [sumTo, clip_neg hneg]; rfl) q1 q2 q4 q3.1 q3.2.1 (by rw [q3.2.2.1]; simp [SI.den, env13, intAt]) q3.2.2.2.1 q3.2.2.2.2
  · by_cases hbig : 50 < N.x k
    · refine sp_piece bare gokSp h41 h49 (hE.calm hI.calm) hSk h9 hk hL8 ⟨hn.1, by omega⟩ ⟨by omega, x2⟩ ⟨a1, by omega⟩ ⟨u1, by omega⟩ ⟨p1, by omega⟩ rfl r_big rfl hI.size hI.df l0 fun A' w' q1 q2 q3 q4 => ?_
      simp [SVal, intAt] at q3
      exact fin (.a 2 50) A' w' (by simp only [sumTo, clip_big hbig]; rfl) q1 q2 q4 q3.1 q3.2.1 (by rw [q3.2.2.1]; simp [SI.den, env13, intAt]) q3.2.2.2.1 q3.2.2.2.2
    · refine sp_piece bare gokSp h41 h49 (hE.calm hI.calm) hSk h9 hk hL8 ⟨hn.1, by omega⟩ ⟨by omega, by omega⟩ ⟨a1, by omega⟩ ⟨u1, by omega⟩ ⟨p1, by omega⟩ rfl r_mid rfl hI.size hI.df l0 fun A' w' q1 q2 q3 q4 => ?_
      simp [SVal, intAt] at q3
      exact fin (.a 7 0) A' w' (by simp only [sumTo, clip_mid (Int.not_lt.1 hneg) (Int.not_lt.1 hbig)]; show IntKind.i64.wrap (sumTo N.x k + N.x k) + 0 = _; rw [wrap_small (by omega) (by omega)]; omega) q1 q2 q4 q3.1 q3.2.1 (by rw [q3.2.2.1]; simp [SI.den, env13, intAt]) q3.2.2.2.1 q3.2.2.2.2

theorem round_end {n : Nat} (hE : EvAt w0 b o E) (h9 : E 9 = .slice sa L cap) (hL8 : L ≤ 8) {A : Act} {w : World} (hI : InI w0 b o N L L A w) {Q : Exit → Act → World → Prop}
    (hQ : ∀ A' w', A'.tmps.size = 65 → A'.defers = [] → Calm w0 w' → (∀ y ∈ ([(0, .sl 0 0 1 (.ex 1)), (2, .bool false), (3, .int .i64 (.a 2 0)), (4, .int .i64 (.c 0))] : List (Nat × SV)), ∃ V, A'.tmps[y.1]? = some V ∧ SVal b o (intAt 0 L (sumTo N.x L) 0 0 0 0 0) y.2 V) → Q (.exit 2) A' w') : inS.wpIn Fence.wide n Tryz.prog Q A w := by
  have hn := sumTo_bd N.x L
  refine ev_piece bare gokEv (hE.calm hI.calm) (L := L) (nn := sumTo N.x L) ⟨by omega, by omega⟩ ⟨hn.1, by omega⟩ ⟨sa, L, cap, h9, rfl⟩ k_in_end rfl hI.size hI.df ?_ fun A' w' q1 q2 q3 q4 => hQ A' w' q1 q2 (hI.calm.trans q4) q3
  simp [SVal, intAt, hI.s0, hI.s2, hI.s3, hI.s4, hI.s5]

/-- At the head of the outer loop's rounds. -/
structure OutI (w0 : World) (b o : Nat) (A : Act) (w : World) : Prop where
  calm : Calm w0 w
  size : A.tmps.size = 65
  df : A.defers = []

theorem small_ok {n : Nat} (hE : EvAt w0 b o E) (h9 : E 9 = .slice sa L cap) (hLm : (L : Int) ≤ 9223372036854775807) (hS : L ≤ 8 → ∀ k, k < L → SpecAt w0 b sa N k) :
    CallsIn Fence.wide n Tryz.prog 7 #[.slice (some ⟨b, o, none⟩) 1 1] w0 (fun e w' => e = .returned (.bool (N.small 14 L)) ∧ Calm w0 w') := by
  have hret : ∀ (r : Bool) (A : Act) (w : World), A.defers = [] → A.tmps[2]? = some (.bool r) → Calm w0 w → N.small 14 L = r → bodyPost Tryz.prog Tryz.f7 (fun e w' => e = .returned (.bool (N.small 14 L)) ∧ Calm w0 w') .ret A w := fun r A w hd h2 hc e =>
    ⟨hd, .bool r, by simp [results, Tryz.results7, go_sem, h2], by rw [e], hc⟩
  refine callsIn_of_wp Tryz.func7 bodyS trivial ?_
  have hL9 : ∃ p m c, E 9 = .slice p m c ∧ (m : Int) = (L : Int) := ⟨sa, L, cap, h9, rfl⟩
  have hLA : (0 : Int) ≤ L ∧ (L : Int) ≤ 9223372036854775807 := ⟨by omega, hLm⟩
  rw [cS_eq]
  refine wpIn_seq (ev_piece bare gokEv hE (L := L) (nn := 0) hLA ⟨by omega, by omega⟩ hL9 k_P0 rfl (by simp [Tryz.ntmps7]) rfl (by simp [SVal, Tryz.ntmps7]) fun A w s d l c => ?_)
  refine wpIn_seq (ev_piece bare gokEv (hE.calm c) (L := L) (nn := 0) hLA ⟨by omega, by omega⟩ hL9 k_P1 rfl s d l fun A w s d l c' => ?_)
  replace c := c.trans c'
  refine wpIn_seq (ev_piece bare gokEv (hE.calm c) (L := L) (nn := 0) hLA ⟨by omega, by omega⟩ hL9 k_P2 rfl s d l fun A w s d l c' => ?_)
  replace c := c.trans c'
  refine wpIn_seq (wpIn_seq (ev_piece bare gokEv (hE.calm c) (L := L) (nn := 0) hLA ⟨by omega, by omega⟩ hL9 k_X rfl s d l fun A w s d l c' => ?_))
  replace c := c.trans c'
  refine wpIn_block (wpIn_loop (fun A w => OutI w0 b o A w ∧ ((∀ y ∈ ([(0, .sl 0 0 1 (.ex 1)), (2, .bool false), (3, .int .i64 (.c 0)), (4, .int .i64 (.c 0))] : List (Nat × SV)), ∃ V, A.tmps[y.1]? = some V ∧ SVal b o (intAt 0 L 0 0 0 0 0 0) y.2 V) ∨ N.good 14 L ∧ (∀ y ∈ ([(0, .sl 0 0 1 (.ex 1)), (2, .bool false), (4, .int .i64 (.c 1))] : List (Nat × SV)), ∃ V, A.tmps[y.1]? = some V ∧ SVal b o (intAt 0 L (sumTo N.x L) 0 0 0 0 0) y.2 V)))
    (fun A _ => 1 - slotN 4 A) ⟨⟨c, s, d⟩, .inl l⟩ fun A w hA => ?_)
  clear l d s c c'
  obtain ⟨⟨c, s, d⟩, l | ⟨hgood, l⟩⟩ := hA
  · -- the first round
    have h40 : A.tmps[4]? = some (.int .i64 0) := by simp [SVal] at l; exact l.2.2.2
    rw [outS_eq]
    refine wpIn_seq (ev_piece bare gokEv (hE.calm c) (L := L) (nn := 0) hLA ⟨by omega, by omega⟩ hL9 k_T1 rfl s d l fun A1 w1 s d l c' => ?_)
    replace c := c.trans c'
    refine wpIn_seq (wpIn_block ?_)
    rw [b1S_eq]
    by_cases hL8 : L ≤ 8
    · have hLB : (0 : Int) ≤ L ∧ (L : Int) ≤ 8 := ⟨by omega, by omega⟩
      replace hS := hS hL8
      refine wpIn_seq (ev_piece bare gokEv (hE.calm c) (L := L) (nn := 0) hLB ⟨by omega, by omega⟩ hL9 k_U1 rfl s d l fun A2 w2 s d l c' => ?_)
      replace c := c.trans c'
      refine wpIn_seq (wpIn_seq (ev_piece bare gokEv (hE.calm c) (L := L) (nn := 0) hLB ⟨by omega, by omega⟩ hL9 k_Y rfl s d l fun A3 w3 s d l c' => ?_))
      replace c := c.trans c'
      simp [SVal] at l
      refine wpIn_block (wpIn_loop (fun A w => ∃ k, InI w0 b o N L k A w) (fun A _ => L - slotN 5 A) ⟨0, c, s, d, l.1, l.2.1, l.2.2.1, l.2.2.2.1, l.2.2.2.2, Nat.zero_le _, fun j hj => by omega⟩ fun A4 w4 hA4 => ?_)
      clear l d s c c'
      obtain ⟨k, hI⟩ := hA4
      by_cases hk : k < L
      · by_cases hb : N.bad k
        · refine round_bad hE h9 hS hL8 hI hk hb fun A' w' q1 q2 q3 q4 => ?_
          exact hret false A' w' q2 q3 q4 (SpecN.small_f fun hg => hg.2.1 k hk hb)
        · refine round_ok hE h9 hS hL8 hI hk hb fun A' w' hI' => ⟨⟨_, hI'⟩, ?_⟩
          rw [slotN_of hI.s5, slotN_of hI'.s5]; omega
      · obtain rfl : k = L := by have := hI.le; omega
        refine round_end hE h9 hL8 hI fun A' w' s d c l => ?_
        show (sndC (sndC b1S)).wpIn _ _ _ _ A' w'
        have hn := sumTo_bd N.x k
        by_cases hm : sumTo N.x k ≤ 14
        · refine ev_piece bare gokEv (hE.calm c) (L := k) (nn := sumTo N.x k) hLB ⟨hn.1, by omega⟩ hL9 k_U2 rfl s d l fun A5 w5 s d l c' => ?_
          replace c := c.trans c'
          show (sndC (sndC outS)).wpIn _ _ _ _ A5 w5
          refine ev_piece bare gokEv (hE.calm c) (L := k) (nn := sumTo N.x k) hLA ⟨hn.1, by omega⟩ hL9 k_T2 rfl s d l fun A6 w6 s d l c' => ?_
          replace c := c.trans c'
          have h41' : A6.tmps[4]? = some (.int .i64 1) := by simp [SVal] at l; exact l.2.2
          refine ⟨⟨⟨c, s, d⟩, .inr ⟨⟨hL8, hI.ok, hm⟩, l⟩⟩, ?_⟩
          rw [slotN_of h40, slotN_of h41']; decide
        · refine ev_piece bare gokEv (hE.calm c) (L := k) (nn := sumTo N.x k) hLB ⟨by omega, by omega⟩ hL9 k_U2b rfl s d l fun A5 w5 s d l c' => ?_
          exact hret false A5 w5 d (by simpa [SVal] using l) (c.trans c') (SpecN.small_f fun hg => hm hg.2.2)
    · refine wpIn_seq (ev_piece bare gokEv (hE.calm c) (L := L) (nn := 0) ⟨by omega, hLm⟩ ⟨by omega, by omega⟩ hL9 k_U1b rfl s d l fun A2 w2 s d l c' => ?_)
      exact hret false A2 w2 d (by simpa [SVal] using l) (c.trans c') (SpecN.small_f fun hg => hL8 hg.1)
  · have hn := sumTo_bd N.x L
    have hg2 := hgood.1
    rw [outS_eq]
    refine wpIn_seq (ev_piece bare gokEv (hE.calm c) (L := L) (nn := sumTo N.x L) hLA ⟨hn.1, by omega⟩ hL9 k_T1e rfl s d l fun A1 w1 s d l c' => ?_)
    replace c := c.trans c'
    show (sndC (sndC (sndC (sndC cS)))).wpIn _ _ _ _ A1 w1
    refine ev_piece bare gokEv (hE.calm c) (L := L) (nn := sumTo N.x L) hLA ⟨hn.1, by omega⟩ hL9 k_rest rfl s d l fun A2 w2 s d l c' => ?_
    exact hret true A2 w2 d (by simpa [SVal] using l) (c.trans c') (SpecN.small_t hgood)
#print axioms small_ok
end Go.Dx.Jo
