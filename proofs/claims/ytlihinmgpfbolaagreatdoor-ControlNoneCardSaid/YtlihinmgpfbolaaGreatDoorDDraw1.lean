/-
  What an operation looks at: its operands alone; what reads leave.
-/
import Derived.Test.YtlihinmgpfbolaaGreatDoorDRound
namespace Go.Dx
section
variable {G : Ctx} {a a' : PM SV} {s s' : St}

theorem evs_congr : ∀ {xs : List Operand}, (∀ x, x ∈ xs → ev G a x = ev G a' x) → evs G a xs = evs G a' xs
  | [], _ => rfl
  | x :: xs, h => by
    simp only [evs]
    rw [h x List.mem_cons_self, evs_congr fun y hy => h y (List.mem_cons_of_mem _ hy)]
theorem evps_congr : ∀ {xs : List (Nat × Operand)}, (∀ x, x ∈ xs.map (·.2) → ev G a x = ev G a' x) → evps G a xs = evps G a' xs
  | [], _ => rfl
  | (i, x) :: xs, h => by
    simp only [evps]
    rw [h x (by simp), evps_congr fun y hy => h y (by simp only [List.map_cons, List.mem_cons]; exact .inr hy)]
theorem omap_congr {o : Option Operand} (h : ∀ x, x ∈ o.toList → ev G a x = ev G a' x) : omap G a o = omap G a' o := by
  cases o with
  | none => rfl
  | some x => simp only [omap]; rw [h x (by simp)]

theorem execD_congr (op : Op) (h : ∀ x, x ∈ op.operands.toList → ev G a x = ev G a' x) : execD G a s op = execD G a' s op := by
  cases op
  case build t ps => simp only [execD]; rw [evps_congr (a' := a') fun x hx => h x (by simpa [Op.operands] using hx)]
  case buildSlice t n ps => simp only [execD]; rw [evps_congr (a' := a') fun x hx => h x (by simpa [Op.operands] using hx)]
  case makeFunc fn first cap =>
    simp only [execD]
    rw [evs_congr (a' := a') (xs := first.toList) fun x hx => h x (by simp [Op.operands]; exact .inl (by simpa using hx)), evs_congr (a' := a') (xs := cap.toList) fun x hx => h x (by simp [Op.operands]; exact .inr (by simpa using hx))]
  case slice t x lo hi mx =>
    simp only [execD]
    rw [h x (by simp [Op.operands]), omap_congr (a' := a') (o := lo) fun x hx => h x (by simp [Op.operands] at hx ⊢; simp [hx]), omap_congr (a' := a') (o := hi) fun x hx => h x (by simp [Op.operands] at hx ⊢; simp [hx]),
      omap_congr (a' := a') (o := mx) fun x hx => h x (by simp [Op.operands] at hx ⊢; simp [hx])]
  case call c =>
    simp only [execD]
    rw [evs_congr (a' := a') (xs := c.args.toList) fun x hx => h x (by
      simp only [Op.operands, Call.operands]
      cases c.callee <;> simp <;> simp_all)]
    have hc : ∀ f, c.callee = .value f → ev G a f = ev G a' f := fun f hf => h f (by simp only [Op.operands, Call.operands, hf]; simp)
    generalize evs G a' c.args.toList = l
    unfold callO
    cases l with
    | none => rfl
    | some l =>
      cases hcc : c.callee with
      | builtin b => rfl
      | value f => simp only; rw [hc f hcc]
      | invoke x y => rfl
  all_goals simp only [execD]
  all_goals first
    | rfl
    | (rename_i x y z; rw [h x (by simp [Op.operands]), h y (by simp [Op.operands]), h z (by simp [Op.operands])])
    | skip
  all_goals (
    simp only [Op.operands] at h
    simp only [List.mem_cons, List.not_mem_nil, or_false, forall_eq_or_imp, forall_eq] at h
    simp only [h])
/-- The same answer in every state, and the state as it was. -/
def Still (f : St → OpR) : Prop := ∃ o : Option SV, ∀ s, f s = ofV s o
theorem Still.of (o : Option SV) : Still (fun s => ofV s o) := ⟨o, fun _ => rfl⟩
theorem Still.fail : Still (fun _ => .fail) := ⟨none, fun _ => rfl⟩
theorem Still.val (v : SV) : Still (fun s => .val v s) := ⟨some v, fun _ => rfl⟩
theorem pure_still (op : Op) (h : pureOp op = true) : Still fun s => execD G a s op := by
  cases op <;> first | (simp only [pureOp] at h; cases h; done) | skip
  all_goals simp only [execD]
  case move x => exact .of _
  case assign x => exact .of _
  case pick c x y =>
    unfold pickD
    generalize ev G a c = C
    split <;> first | exact .of _ | exact .fail
  case nilCheck x =>
    unfold nilCheckD
    generalize ev G a x = X
    split <;> first | exact .val _ | exact .fail
  case binOp op t x y u =>
    unfold binO
    generalize ev G a x = X; generalize ev G a y = Y
    split <;> first | exact .of _ | exact .fail
  case unOp op t x =>
    unfold unD
    generalize ev G a x = X
    split <;> first | exact .val _ | exact .fail
  case makeInterface t x =>
    unfold ifaceD
    generalize ev G a x = X; generalize G.desc t = D
    split
    · split <;> first | exact .val _ | exact .fail
    · exact .fail
  case fieldAddr t x f =>
    unfold fieldAddrD
    generalize ev G a x = X; generalize G.desc t = D
    split
    · split
      · split <;> first | exact .val _ | exact .fail
      · exact .fail
    · exact .fail
  case field t x f =>
    unfold fieldD
    generalize ev G a x = X; generalize G.desc t = D
    split
    · split <;> first | exact .of _ | exact .fail
    · exact .fail
  case indexAddr t x i =>
    unfold indexAddrD elemAddr
    generalize ev G a x = X; generalize ev G a i = I; generalize G.desc t = D
    split
    · split
      · split <;> first | exact .val _ | exact .fail
      · exact .fail
    · split
      · split <;> first | exact .val _ | exact .fail
      · exact .fail
    · exact .of _
    · exact .fail
  case index t x i =>
    unfold indexD
    generalize ev G a x = X; generalize ev G a i = I; generalize G.desc t = D
    split
    · split
      · split <;> first | exact .of _ | exact .fail
      · exact .fail
    · split
      · split <;> first | exact .val _ | exact .fail
      · exact .fail
    · exact .fail
  case slice t x lo hi mx =>
    unfold sliceO
    generalize ev G a x = X; generalize omap G a hi = H; generalize omap G a mx = M
    split
    · split <;> first | exact .of _ | exact .fail
    · exact .fail
  case extract x i =>
    unfold extractD
    generalize ev G a x = X
    split <;> first | exact .of _ | exact .fail
theorem pure_exec {op : Op} {v : SV} {s1 : St} (h : pureOp op = true) (he : execD G a s op = .val v s1) (s' : St) : execD G a s' op = .val v s' := by
  obtain ⟨o, ho⟩ := pure_still (G := G) (a := a) op h
  have h1 := ho s
  have h2 := ho s'
  simp only at h1 h2
  rw [he] at h1
  rw [h2]
  cases o with
  | none => cases h1
  | some u => simp only [ofV] at h1 ⊢; cases h1; rfl

theorem ofV_same {o : Option SV} {v : SV} (h : ofV s o = .val v s') : s' = s := by
  cases o <;> simp only [ofV] at h <;> cases h; rfl
theorem read_same {op : Op} {v : SV} (h : readOp op = true) (he : execD G a s op = .val v s') : s' = s := by
  cases op <;> first | (simp only [readOp] at h; cases h; done) | skip
  all_goals simp only [execD] at he
  case load t x => unfold loadO at he; split at he <;> first | exact ofV_same he | cases he
  case lookup t x k ok => unfold lookupO at he; split at he <;> first | exact ofV_same he | cases he
  case convert t u x =>
    unfold convO convertD at he
    (repeat' split at he) <;> first | exact ofV_same he | (cases he; rfl) | cases he
  case build t ps =>
    unfold buildD at he
    (repeat' split at he) <;> first | (cases he; rfl) | cases he
  case call c =>
    unfold callO at he
    simp only [readOp] at h
    split at he
    · cases he
    · split at he
      · rename_i b hb
        rw [hb] at h
        unfold builtinD at he
        cases b <;> first | (simp only at h; cases h; done) | skip
        · exact ofV_same he
        · simp only at he; split at he <;> first | exact ofV_same he | cases he
        · simp only at he; split at he <;> first | exact ofV_same he | cases he
      · rename_i f hf; rw [hf] at h; cases h
      · cases he
theorem float_same {op : Op} {v : SV} (ha : anchorOp op = false) (hal : allocOp op = none) (he : execD G a s op = .val v s') : s' = s := by
  cases hp : pureOp op with
  | true =>
    have := pure_exec hp he s
    rw [he] at this; cases this; rfl
  | false =>
    cases hr : readOp op with
    | true => exact read_same hr he
    | false => simp only [anchorOp, hp, hr, hal] at ha; cases ha

theorem leq_eq' : ∀ {x y : List Nat}, leq x y = true → x = y
  | [], [], _ => rfl
  | [], _ :: _, h => by simp only [leq] at h; cases h
  | _ :: _, [], h => by simp only [leq] at h; cases h
  | x :: xs, y :: ys, h => by
    simp only [leq] at h
    split at h
    · rename_i e; rw [beq_t.1 e, leq_eq' h]
    · cases h
theorem ieq_eq' {x y : Int} (h : ieq x y = true) : x = y := by
  cases x <;> cases y <;> simp only [ieq] at h <;> first | (rw [beq_t.1 h]) | cases h
theorem b1_eq {x y : SV} (h : b1 x y = true) : x = y := by
  unfold b1 at h
  split at h
  · rename_i a b; cases a <;> cases b <;> first | rfl | cases h
  · split at h
    · rename_i hk; rw [kn_inj hk, ieq_eq' h]
    · cases h
  · split at h
    · rename_i hk hi; rw [kn_inj hk, beq_t.1 hi, ieq_eq' h]
    · cases h
  · rw [leq_eq' h]
  · rfl
  · split at h
    · rename_i hb; rw [beq_t.1 hb, beq_t.1 h]
    · cases h
  · rfl
  · split at h
    · rename_i h1 h2 h3; rw [beq_t.1 h1, beq_t.1 h2, beq_t.1 h3, beq_t.1 h]
    · cases h
  · split at h
    · rename_i h1 h2 h3; rw [beq_t.1 h1, beq_t.1 h2, beq_t.1 h3, beq_t.1 h]
    · cases h
  · rfl
  · rw [beq_t.1 h]
  · rfl
  · rfl
  · rw [beq_t.1 h]
  · cases h
theorem bL_eq : ∀ {x y : List SV}, bL x y = true → x = y
  | [], [], _ => rfl
  | [], _ :: _, h => by simp only [bL] at h; cases h
  | _ :: _, [], h => by simp only [bL] at h; cases h
  | x :: xs, y :: ys, h => by
    simp only [bL] at h
    split at h
    · rename_i e; rw [b1_eq e, bL_eq h]
    · cases h
theorem bF_eq {x y : SV} (h : bF x y = true) : x = y := by
  unfold bF at h
  split at h
  · split at h
    · rename_i h1 h2; rw [beq_t.1 h1, bL_eq h2, bL_eq h]
    · cases h
  · exact b1_eq h
theorem bLF_eq : ∀ {x y : List SV}, bLF x y = true → x = y
  | [], [], _ => rfl
  | [], _ :: _, h => by simp only [bLF] at h; cases h
  | _ :: _, [], h => by simp only [bLF] at h; cases h
  | x :: xs, y :: ys, h => by
    simp only [bLF] at h
    split at h
    · rename_i e; rw [bF_eq e, bLF_eq h]
    · cases h
theorem bV_eq {x y : SV} (h : bV x y = true) : x = y := by
  unfold bV at h
  split at h
  · rw [bLF_eq h]
  · rw [bLF_eq h]
  · exact bF_eq h
end
end Go.Dx
