/- The formulas, as rewriting rules: one for each kind of operation. No program is known here. -/
import Derived.Test.YtdbeoigbkkdpdaaGreatDoorPAbsDraw2
import Derived.IntWalk
import Derived.Scope
set_option linter.all false
set_option linter.unnecessarySimpa false
set_option linter.unusedSimpArgs false
set_option linter.unusedVariables false
namespace Go.Proofs.YtdbeoigbkkdpdaaGreatDoor
open Go.ChangeShapes Go.WideShapes Go.ChangeAt Go.RowKit

/-- a token: a congruence that asks for it always has something to do, so that simp goes into nothing else -/
def Tk : Prop := True
@[go_sem] theorem Tk_t : Tk = True := eq_true (show Tk from trivial)
/-- so many of one value -/
def rep (n : Nat) (v : Value) : List Value := List.replicate n v
theorem rep_ok {n : Nat} {v : Value} (h : okV v) : ∀ u, u ∈ rep n v → okV u := fun u hu => by rw [List.eq_of_mem_replicate hu]; exact h
@[go_sem] theorem repB {n : Nat} {b : Bool} : (∀ u, u ∈ rep n (.bool b) → okV u) = True := eq_true (rep_ok trivial)
@[go_sem] theorem repI {n : Nat} : (∀ u, u ∈ rep n (.int .i64 0) → okV u) = True := eq_true (rep_ok rfl)
/-- what simp leaves alone -/
def Hold (X : Prop) : Prop := X
@[congr] theorem hold_cg {X b : Prop} (_ : Tk = b) : Hold X = Hold X := rfl
theorem hold_ {X : Prop} (h : X) : Hold X := h
section
variable {P : Program} {G : World → Prop} {σ : AState} {L : Operand → AV} {bk : List BA} {K : AV → List BA → Prop} {dst : Option Tmp} {ty : TypeId} {pos : String} {after : Array Edge} {gd : Option (Nat × Bool)}
@[go_sem] theorem vops_nil {ops : List Oper} {KK : AState → Prop} : vops P G ops [] σ KK = KK σ := rfl
@[go_sem] theorem vops_cons {ops : List Oper} {op : Op} {rest : List Oper} {KK : AState → Prop} : vops P G ops (⟨dst, op, ty, pos, after, none⟩ :: rest) σ KK = vop P G σ ⟨dst, op, ty, pos, after, none⟩ fun r bk => vops P G ops rest ⟨putF dst r σ.fr, bk⟩ KK := rfl
theorem vops_guard {ops : List Oper} {op : Op} {rest : List Oper} {j : Nat} {b : Bool} {KK : AState → Prop} : vops P G ops (⟨dst, op, ty, pos, after, some (j, b)⟩ :: rest) σ KK =
    match yieldA ops σ.fr j with
    | .val (.bool x) => (x = b → vop P G σ ⟨dst, op, ty, pos, after, some (j, b)⟩ fun r bk => vops P G ops rest ⟨putF dst r σ.fr, bk⟩ KK) ∧ (x = !b → vops P G ops rest ⟨putF dst (.val undef) σ.fr, σ.bk⟩ KK)
    | .val (.tuple _) => vops P G ops rest ⟨putF dst (.val undef) σ.fr, σ.bk⟩ KK
    | _ => False := rfl
@[go_sem] theorem putF_some {d : Nat} {r : AV} {fr : List (Nat × AV)} : putF (some d) r fr = (d, r) :: fr := rfl
@[go_sem] theorem putF_none {r : AV} {fr : List (Nat × AV)} : putF none r fr = fr := rfl
@[go_sem] theorem look_cons {j i : Nat} {a : AV} {r : List (Nat × AV)} : look ((j, a) :: r) i = if i = j then a else look r i := rfl
@[go_sem] theorem look_nil {i : Nat} : look [] i = .any := rfl
@[go_sem] theorem ev_tmp {fr : List (Nat × AV)} {t : Nat} : ev fr (.tmp t) = look fr t := rfl
@[go_sem] theorem ev_int {fr : List (Nat × AV)} {k : IntKind} {m : Int} : ev fr (.const (.int k m)) = .val (.int k m) := rfl
@[go_sem] theorem ev_bool {fr : List (Nat × AV)} {b : Bool} : ev fr (.const (.bool b)) = .val (.bool b) := rfl
@[go_sem] theorem ev_string {fr : List (Nat × AV)} {s : ByteArray} : ev fr (.const (.string s)) = .val (.string s) := rfl
@[go_sem] theorem ev_slice {fr : List (Nat × AV)} {A : Option Addr} {m c : Nat} : ev fr (.const (.slice A m c)) = .val (.slice A m c) := rfl
@[go_sem] theorem ev_agg {fr : List (Nat × AV)} {cs : Array Value} : ev fr (.const (.agg cs)) = .agg (cs.toList.map AV.val) := rfl
@[go_sem] theorem ev_nilFunc {fr : List (Nat × AV)} : ev fr (.const .nilFunc) = .val .nilFunc := rfl
@[go_sem] theorem ev_nilPtr {fr : List (Nat × AV)} : ev fr (.const (.pointer none)) = .val (.pointer none) := rfl
@[go_sem] theorem ev_func {fr : List (Nat × AV)} {f : Nat} : ev fr (.func f) = .fn f [] := rfl
@[go_sem] theorem ev_global {fr : List (Nat × AV)} {g : Nat} : ev fr (.global g) = .val (.pointer (some ⟨g, 0, none⟩)) := rfl
@[go_sem] theorem nrm_val {v : Value} : nrm (.val v) = .val v := rfl
@[go_sem] theorem nrm_iv {v : Value} : nrm (.iv (.val v)) = .val v := rfl
@[go_sem] theorem nrm_pt {cs : List IV} : nrm (.iv (.pt cs)) = .ip cs := rfl
@[go_sem] theorem nrm_sl {k : Nat} {l : List (List IV)} : nrm (.iv (.sl k l)) = .iv (.sl k l) := rfl
@[go_sem] theorem nrm_own {b : Nat} : nrm (.own b) = .own b := rfl
@[go_sem] theorem nrm_any : nrm .any = .any := rfl
@[go_sem] theorem nrm_agg {cs : List AV} : nrm (.agg cs) = .agg cs := rfl
@[go_sem] theorem nrm_aggI {cs : List IV} : nrm (.aggI cs) = .aggI cs := rfl
@[go_sem] theorem nrm_bp {b o : Nat} : nrm (.bp b o) = .bp b o := rfl
@[go_sem] theorem nrm_ip {cs : List IV} : nrm (.ip cs) = .ip cs := rfl
@[go_sem] theorem findB_nil {b : Nat} : findB b [] = none := rfl
@[go_sem] theorem findB_box {b c : Nat} {cs : List AV} {r : List BA} : findB b (.box c cs :: r) = if c = b then some (.box c cs) else findB b r := rfl
@[go_sem] theorem findB_arr {b c : Nat} {cs : List IV} {r : List BA} : findB b (.arr c cs :: r) = if c = b then some (.arr c cs) else findB b r := rfl
@[go_sem] theorem findB_row {b c e k : Nat} {l : List (List IV)} {r : List BA} : findB b (.row c e k l :: r) = if c = b then some (.row c e k l) else findB b r := rfl
@[go_sem] theorem replB_box {b c : Nat} {cs : List AV} {r y : List BA} : replB b y (.box c cs :: r) = if c = b then y ++ r else .box c cs :: replB b y r := rfl
@[go_sem] theorem replB_arr {b c : Nat} {cs : List IV} {r y : List BA} : replB b y (.arr c cs :: r) = if c = b then y ++ r else .arr c cs :: replB b y r := rfl
@[go_sem] theorem replB_row {b c e k : Nat} {l : List (List IV)} {r y : List BA} : replB b y (.row c e k l :: r) = if c = b then y ++ r else .row c e k l :: replB b y r := rfl
@[go_sem] theorem setsL_nil {α : Type} {cs : List α} {o : Nat} : setsL cs o [] = cs := rfl
@[go_sem] theorem setsL_cons {α : Type} {cs : List α} {o : Nat} {d : α} {ds : List α} : setsL cs o (d :: ds) = setsL (cs.set o d) (o + 1) ds := rfl
@[go_sem] theorem rdI_0 {s : Nat} {c : IV} {cs : List IV} {KK : AV → Prop} : rdI 0 s (c :: cs) KK = KK (nrm (.iv c)) := rfl
@[go_sem] theorem rdI_1 {s : Nat} {cs : List IV} {KK : AV → Prop} : rdI 1 s cs KK = (s ≤ cs.length ∧ KK (.agg ((cs.take s).map fun c => nrm (.iv c)))) := rfl
@[go_sem] theorem rdI_2 {s : Nat} {cs : List IV} {KK : AV → Prop} : rdI 2 s cs KK = (s ≤ cs.length ∧ KK (.aggI (cs.take s))) := rfl
@[go_sem] theorem rdA_0 {s : Nat} {c : AV} {cs : List AV} {KK : AV → Prop} : rdA 0 s (c :: cs) KK = KK c := rfl
@[go_sem] theorem rdA_1 {s : Nat} {cs : List AV} {KK : AV → Prop} : rdA 1 s cs KK = (s ≤ cs.length ∧ KK (.agg (cs.take s))) := rfl
@[go_sem] theorem cid_some {d : Nat} : cid (some d) = 100 * (d + 1) := rfl
@[go_sem] theorem cellsA_agg {cs : List AV} : cellsA (.agg cs) = cs := rfl
@[go_sem] theorem cellsA_val {v : Value} : cellsA (.val v) = [.val v] := rfl
@[go_sem] theorem cellsA_iv {i : IV} : cellsA (.iv i) = [.iv i] := rfl
@[go_sem] theorem cellsA_own {b : Nat} : cellsA (.own b) = [.own b] := rfl
@[go_sem] theorem cellsA_bp {b o : Nat} : cellsA (.bp b o) = [.bp b o] := rfl
@[go_sem] theorem cellsA_ip {cs : List IV} : cellsA (.ip cs) = [.ip cs] := rfl
@[go_sem] theorem cellsA_fn {f : Nat} {cs : List AV} : cellsA (.fn f cs) = [.fn f cs] := rfl
@[go_sem] theorem cellsA_aggI {cs : List IV} : cellsA (.aggI cs) = cs.map AV.iv := rfl
@[go_sem] theorem fr_pick {b x y : Operand} : freshO ⟨dst, .pick b x y, ty, pos, after, gd⟩ σ = True := by unfold freshO; simp [makes]
@[go_sem] theorem vopL_pick {b x y : Operand} : vopL P G L bk ⟨dst, .pick b x y, ty, pos, after, gd⟩ K = match nrm (L b) with
    | .val (.bool true) => K (L x) bk
    | .val (.bool false) => K (L y) bk
    | _ => False := by unfold vopL qop; rfl
def freshQ (dst : Option Tmp) (σ : AState) : Prop := (offF (cid dst) (cid dst + 100) σ.fr && offB (cid dst) (cid dst + 100) σ.bk) = true
theorem fresh_no {o : Oper} (h : makes o = false) : freshO o σ = True := by unfold freshO; rw [h]; simp
theorem fresh_yes {o : Oper} (h : makes o = true) : freshO o σ = freshQ o.dst σ := by unfold freshO freshQ; rw [h]; simp
@[go_sem] theorem fr_move {x : Operand} : freshO ⟨dst, .move x, ty, pos, after, gd⟩ σ = True := fresh_no rfl
@[go_sem] theorem fr_assign {x : Operand} : freshO ⟨dst, .assign x, ty, pos, after, gd⟩ σ = True := fresh_no rfl
@[go_sem] theorem fr_load {t : TypeId} {x : Operand} : freshO ⟨dst, .load t x, ty, pos, after, gd⟩ σ = True := fresh_no rfl
@[go_sem] theorem fr_store {t : TypeId} {x y : Operand} : freshO ⟨dst, .store t x y, ty, pos, after, gd⟩ σ = True := fresh_no rfl
@[go_sem] theorem fr_nil {x : Operand} : freshO ⟨dst, .nilCheck x, ty, pos, after, gd⟩ σ = True := fresh_no rfl
@[go_sem] theorem fr_bin {op : BinOp} {t tz : TypeId} {x y : Operand} : freshO ⟨dst, .binOp op t x y tz, ty, pos, after, gd⟩ σ = True := fresh_no rfl
@[go_sem] theorem fr_un {op : UnOp} {t : TypeId} {x : Operand} : freshO ⟨dst, .unOp op t x, ty, pos, after, gd⟩ σ = True := fresh_no rfl
@[go_sem] theorem fr_conv {s d : TypeId} {x : Operand} : freshO ⟨dst, .convert s d x, ty, pos, after, gd⟩ σ = True := fresh_no rfl
@[go_sem] theorem fr_func {f : Fn} {a c : Array Operand} : freshO ⟨dst, .makeFunc f a c, ty, pos, after, gd⟩ σ = True := fresh_no rfl
@[go_sem] theorem fr_slice {t : TypeId} {x : Operand} {l h m : Option Operand} : freshO ⟨dst, .slice t x l h m, ty, pos, after, gd⟩ σ = True := fresh_no rfl
@[go_sem] theorem fr_fieldAddr {t : TypeId} {x : Operand} {f : Nat} : freshO ⟨dst, .fieldAddr t x f, ty, pos, after, gd⟩ σ = True := fresh_no rfl
@[go_sem] theorem fr_field {t : TypeId} {x : Operand} {f : Nat} : freshO ⟨dst, .field t x f, ty, pos, after, gd⟩ σ = True := fresh_no rfl
@[go_sem] theorem fr_indexAddr {t : TypeId} {x i : Operand} : freshO ⟨dst, .indexAddr t x i, ty, pos, after, gd⟩ σ = True := fresh_no rfl
@[go_sem] theorem fr_index {t : TypeId} {x i : Operand} : freshO ⟨dst, .index t x i, ty, pos, after, gd⟩ σ = True := fresh_no rfl
@[go_sem] theorem fr_extract {x : Operand} {i : Nat} : freshO ⟨dst, .extract x i, ty, pos, after, gd⟩ σ = True := fresh_no rfl
@[go_sem] theorem fr_build {t : TypeId} {ps : Array (Nat × Operand)} : freshO ⟨dst, .build t ps, ty, pos, after, gd⟩ σ = True := fresh_no rfl
@[go_sem] theorem fr_len {x : Array Operand} {t : Array TypeId} : freshO ⟨dst, .call { callee := .builtin .len, args := x, argTypes := t }, ty, pos, after, gd⟩ σ = True := fresh_no rfl
@[go_sem] theorem fr_max {x : Array Operand} {t : Array TypeId} : freshO ⟨dst, .call { callee := .builtin .max, args := x, argTypes := t }, ty, pos, after, gd⟩ σ = True := fresh_no rfl
@[go_sem] theorem fr_min {x : Array Operand} {t : Array TypeId} : freshO ⟨dst, .call { callee := .builtin .min, args := x, argTypes := t }, ty, pos, after, gd⟩ σ = True := fresh_no rfl
@[go_sem] theorem fr_append {x : Array Operand} {t : Array TypeId} : freshO ⟨dst, .call { callee := .builtin .append, args := x, argTypes := t }, ty, pos, after, gd⟩ σ = freshQ dst σ := fresh_yes rfl
@[go_sem] theorem fr_call {f : Operand} {x : Array Operand} {t : Array TypeId} : freshO ⟨dst, .call { callee := .value f, args := x, argTypes := t }, ty, pos, after, gd⟩ σ = freshQ dst σ := fresh_yes rfl
@[go_sem] theorem fr_alloc {e : TypeId} : freshO ⟨dst, .alloc e, ty, pos, after, gd⟩ σ = freshQ dst σ := fresh_yes rfl
@[go_sem] theorem fr_box {e : TypeId} {x : Operand} : freshO ⟨dst, .box e x, ty, pos, after, gd⟩ σ = freshQ dst σ := fresh_yes rfl
@[go_sem] theorem fr_buildSlice {t : TypeId} {k : Nat} {ps : Array (Nat × Operand)} : freshO ⟨dst, .buildSlice t k ps, ty, pos, after, gd⟩ σ = freshQ dst σ := fresh_yes rfl
@[go_sem] theorem vop_def {o : Oper} : vop P G σ o K = (freshO o σ ∧ vopL P G (ev σ.fr) σ.bk o K) := rfl
@[go_sem] theorem vopL_move {x : Operand} : vopL P G L bk ⟨dst, .move x, ty, pos, after, gd⟩ K = K (L x) bk := rfl
@[go_sem] theorem vopL_assign {x : Operand} : vopL P G L bk ⟨dst, .assign x, ty, pos, after, gd⟩ K = K (L x) bk := rfl
@[go_sem] theorem vopL_alloc {e : TypeId} : vopL P G L bk ⟨dst, .alloc e, ty, pos, after, gd⟩ K = (match tyZ P e with
    | some (2, zs) => (∀ v ∈ zs, okV v) ∧ K (.bp (cid dst) 0) (.arr (cid dst) (zs.map IV.val) :: bk)
    | some (_, zs) => K (.bp (cid dst) 0) (.box (cid dst) (zs.map AV.val) :: bk)
    | none => False) := rfl
@[go_sem] theorem vopL_box {e : TypeId} {x : Operand} : vopL P G L bk ⟨dst, .box e x, ty, pos, after, gd⟩ K = (match L x with
    | .aggI cs => K (.bp (cid dst) 0) (.arr (cid dst) cs :: bk)
    | u => okC u = true ∧ K (.bp (cid dst) 0) (.box (cid dst) (cellsA u) :: bk)) := rfl
@[go_sem] theorem vopL_load {t : TypeId} {x : Operand} : vopL P G L bk ⟨dst, .load t x, ty, pos, after, gd⟩ K = match tyK P t with
    | some (q, s) => match L x with
      | .ip cs => rdI q s cs fun r => K r bk
      | .bp b p => match findB b bk with
        | some (.box _ cs) => rdA q s (cs.drop p) fun r => K r bk
        | some (.arr _ cs) => match q with
          | 0 => ∃ u, cs[p]? = some u ∧ Hold (K (nrm (.iv u)) bk)
          | 1 => False
          | _ => p = 0 ∧ s = cs.length ∧ K (.aggI cs) bk
        | _ => False
      | .rp b k i j => match findB b bk with
        | some (.row _ _ k' l) => k' = k ∧ ∃ cs, l[i]? = some cs ∧ Hold (rdI q s (cs.drop j) fun r => K r bk)
        | _ => False
      | _ => False
    | none => False := rfl
@[go_sem] theorem vopL_nil {x : Operand} : vopL P G L bk ⟨dst, .nilCheck x, ty, pos, after, gd⟩ K = match L x with
      | .ip cs => K (.ip cs) bk
      | .bp b p => K (.bp b p) bk
      | .rp b k i j => K (.rp b k i j) bk
      | .fn f cs => K (.fn f cs) bk
      | _ => False := rfl
@[go_sem] theorem vopL_bin {op : BinOp} {t tz : TypeId} {x y : Operand} : vopL P G L bk ⟨dst, .binOp op t x y tz, ty, pos, after, gd⟩ K = binQ P op t x y (L x) (L y) fun r => K r bk := rfl
@[go_sem] theorem vopL_un {op : UnOp} {t : TypeId} {x : Operand} : vopL P G L bk ⟨dst, .unOp op t x, ty, pos, after, gd⟩ K = match op, nrm (L x) with
    | .not, .val (.bool b) => K (.val (.bool !b)) bk
    | .neg, .val (.int k m) => ∃ m', k.wrap (0 - m) = m' ∧ Hold (K (.val (.int k m')) bk)
    | _, _ => False := rfl
@[go_sem] theorem vopL_conv {s d : TypeId} {x : Operand} : vopL P G L bk ⟨dst, .convert s d x, ty, pos, after, gd⟩ K = match tyInt P s, tyInt P d, nrm (L x) with
    | some _, some k, .val (.int _ m) => ∃ m', k.wrap m = m' ∧ Hold (K (.val (.int k m')) bk)
    | _, _, _ => False := rfl
@[go_sem] theorem vopL_func {f : FuncId} {first caps : Array Operand} : vopL P G L bk ⟨dst, .makeFunc (.func f) first caps, ty, pos, after, gd⟩ K = (first = #[] ∧ K (.fn f (caps.toList.map (L))) bk) := rfl
@[go_sem] theorem vopL_slice {t : TypeId} {x : Operand} {lo hi mx : Option Operand} : vopL P G L bk ⟨dst, .slice t x lo hi mx, ty, pos, after, gd⟩ K = match tySl P t, nrm (L x) with
    | some (_, k, _), .iv (.sl k' l) =>
      k = k' ∧ ∃ i j : Nat, (match lo with | none => i = 0 | some p => L p = .val (.int .i64 i)) ∧ (match hi with | none => j = l.length | some p => L p = .val (.int .i64 j)) ∧ i ≤ j ∧ j ≤ l.length ∧ mxQ L mx hi j l.length (Hold (K (.iv (.sl k ((l.take j).drop i))) bk))
    | _, _ => False := rfl
@[go_sem] theorem mxQ_none {hi : Option Operand} {j m : Nat} {X : Prop} : mxQ L none hi j m X = X := rfl
@[go_sem] theorem mxQ_some {p q : Operand} {j n : Nat} {X : Prop} : mxQ L (some p) (some q) j n X = ∃ m : Nat, L p = .val (.int .i64 m) ∧ j ≤ m ∧ m ≤ n ∧ X := by simp [mxQ]
@[go_sem] theorem vopL_cap {x : Operand} {t : TypeId} : vopL P G L bk ⟨dst, .call { callee := .builtin .cap, args := #[x], argTypes := #[t] }, ty, pos, after, gd⟩ K = match nrm (L x) with
      | .val (.slice none 0 0) => (tySl P t).isSome = true ∧ K (.val (.int .i64 0)) bk
      | _ => False := rfl
@[go_sem] theorem fr_cap {x : Array Operand} {t : Array TypeId} : freshO ⟨dst, .call { callee := .builtin .cap, args := x, argTypes := t }, ty, pos, after, gd⟩ σ = True := fresh_no rfl
@[go_sem] theorem vopL_fieldAddr {t : TypeId} {x : Operand} {f : Nat} : vopL P G L bk ⟨dst, .fieldAddr t x f, ty, pos, after, gd⟩ K = match tyF P t f with
    | some (off, _, s) => s ≠ 0 ∧ match L x with
      | .ip cs => K (.ip (cs.drop off)) bk
      | .bp b p => K (.bp b (p + off)) bk
      | .rp b k i j => K (.rp b k i (j + off)) bk
      | _ => False
    | none => False := rfl
@[go_sem] theorem vopL_field {t : TypeId} {x : Operand} {f : Nat} : vopL P G L bk ⟨dst, .field t x f, ty, pos, after, gd⟩ K = match tyF P t f, L x with
    | some (off, q, s), .agg cs => rdA q s (cs.drop off) fun r => K r bk
    | _, _ => False := rfl
@[go_sem] theorem vopL_indexAddr {t : TypeId} {x i : Operand} : vopL P G L bk ⟨dst, .indexAddr t x i, ty, pos, after, gd⟩ K = match nrm (L i) with
    | .val (.int _ m) => match tySl P t with
      | some (_, k, _) => match nrm (L x) with
        | .iv (.sl k' l) => k = k' ∧ 0 ≤ m ∧ ∃ cs, l[m.toNat]? = some cs ∧ Hold (K (.ip cs) bk)
        | .own b => match findB b bk with
          | some (.row _ _ k' l) => k = k' ∧ 0 ≤ m ∧ m.toNat < l.length ∧ Hold (K (.rp b k m.toNat 0) bk)
          | _ => False
        | _ => False
      | none => match tyAr P t, L x with
        | some (n, _, k), .bp b p => 0 ≤ m ∧ m < (n : Int) ∧ 0 < k ∧ Hold (K (.bp b (p + m.toNat * k)) bk)
        | some (n, _, k), .ip cs => 0 ≤ m ∧ m < (n : Int) ∧ 0 < k ∧ Hold (K (.ip (cs.drop (m.toNat * k))) bk)
        | _, _ => False
    | _ => False := rfl
@[go_sem] theorem vopL_index {t : TypeId} {x i : Operand} : vopL P G L bk ⟨dst, .index t x i, ty, pos, after, gd⟩ K = match nrm (L i), L x with
    | .val (.int _ m), .aggI cs => match tyAr P t with
      | some (n, 0, 1) => 0 ≤ m ∧ m < (n : Int) ∧ ∃ u, cs[m.toNat]? = some u ∧ Hold (K (nrm (.iv u)) bk)
      | _ => False
    | .val (.int _ m), .val (.string s) => tyStr P t = true ∧ 0 ≤ m ∧ ∃ b, s[m.toNat]? = some b ∧ Hold (K (.val (.int .u8 (b.toNat : Nat))) bk)
    | _, _ => False := rfl
@[go_sem] theorem vopL_struct {t : TypeId} {parts : Array (Nat × Operand)} : vopL P G L bk ⟨dst, .build t parts, ty, pos, after, gd⟩ K = match tyBld P t with
    | some (zs, places) => match fillA places (zs.map AV.val) (parts.toList.map fun p => (p.1, L p.2)) with
      | some cs => K (.agg cs) bk
      | none => False
    | none => False := rfl
@[go_sem] theorem fillA_nil {ps : List (Nat × Nat)} {cells : List AV} : fillA ps cells [] = some cells := rfl
@[go_sem] theorem fillA_cons {ps : List (Nat × Nat)} {cells : List AV} {i : Nat} {v : AV} {rest : List (Nat × AV)} : fillA ps cells ((i, v) :: rest) = match ps[i]? with
    | none => none
    | some (off, size) => if (cellsA v).length = size ∧ okC v = true ∧ off + size ≤ cells.length then fillA ps (setsL cells off (cellsA v)) rest else none := rfl
@[go_sem] theorem vopL_extract {x : Operand} {i : Nat} : vopL P G L bk ⟨dst, .extract x i, ty, pos, after, gd⟩ K = match L x with
    | .tup cs => i < cs.length ∧ K (cs.getD i .any) bk
    | _ => False := rfl
@[go_sem] theorem vopL_store {t : TypeId} {x y : Operand} : vopL P G L bk ⟨dst, .store t x y, ty, pos, after, gd⟩ K = storeQ P t (L x) (L y) bk fun bk' => K .any bk' := rfl
@[go_sem] theorem vopL_append {x y : Operand} {t t' : TypeId} : vopL P G L bk ⟨dst, .call { callee := .builtin .append, args := #[x, y], argTypes := #[t, t'] }, ty, pos, after, gd⟩ K = (t' = t ∧ appendQ P t (L x) (L y) (cid dst) bk K) := rfl
@[go_sem] theorem vopL_len {x : Operand} {t : TypeId} : vopL P G L bk ⟨dst, .call { callee := .builtin .len, args := #[x], argTypes := #[t] }, ty, pos, after, gd⟩ K = lenQ P t (fun b => findB b bk) (L x) fun r => K r bk := rfl
@[go_sem] theorem vopL_max {x y : Operand} {tt : Array TypeId} : vopL P G L bk ⟨dst, .call { callee := .builtin .max, args := #[x, y], argTypes := tt }, ty, pos, after, gd⟩ K = match nrm (L x), nrm (L y) with
      | .val (.int k p), .val (.int _ q) => ∃ m, max p q = m ∧ Hold (K (.val (.int k m)) bk)
      | _, _ => False := rfl
@[go_sem] theorem vopL_min {x y : Operand} {tt : Array TypeId} : vopL P G L bk ⟨dst, .call { callee := .builtin .min, args := #[x, y], argTypes := tt }, ty, pos, after, gd⟩ K = match nrm (L x), nrm (L y) with
      | .val (.int k p), .val (.int _ q) => ∃ m, min p q = m ∧ Hold (K (.val (.int k m)) bk)
      | _, _ => False := rfl
/-- a call, as it is met: a contract is asked for -/
def callW (P : Program) (G : World → Prop) (f : FuncId) (args : List AV) (dst : Option Tmp) (bk : List BA) (K : AV → List BA → Prop) : Prop := callQ P G (fun b => findB b bk) f args (cid dst) fun r nb => K r (nb ++ bk)
@[go_sem] theorem vopL_call {fo : Operand} {args : Array Operand} {tt : Array TypeId} : vopL P G L bk ⟨dst, .call { callee := .value fo, args := args, argTypes := tt }, ty, pos, after, gd⟩ K = match L fo with
    | .fn f caps => callW P G f (args.toList.map L ++ caps) dst bk K
    | _ => False := rfl
/-- a slice literal, as it is met -/
def bsQ (L : Operand → AV) (k len : Nat) (parts : Array (Nat × Operand)) (A B : List (List IV) → Prop) : Prop := ∃ l : List (List IV), l.length = len ∧ 0 < k ∧ len * k ≤ 16777216 ∧ (∀ (i : Nat) (cs : List IV), l[i]? = some cs → cs.length = k ∧ ∃ x, parts[i]? = some (i, x) ∧ okC (L x) = true ∧ toIs (cellsA (L x)) = some cs ∧ okAs (cellsA (L x))) ∧ parts.size = len ∧ (A l ∨ B l)
@[go_sem] theorem vopL_build {t : TypeId} {len : Nat} {parts : Array (Nat × Operand)} : vopL P G L bk ⟨dst, .buildSlice t len parts, ty, pos, after, gd⟩ K = (match tySl P t with
    | some (e, k, _) => (tyZ P e).isSome = true ∧ bsQ L k len parts (fun l => K (.own (cid dst)) (.row (cid dst) e k l :: bk)) (fun l => K (.iv (.sl k l)) bk)
    | none => False) := rfl
@[go_sem] theorem lenQ_sl {t : TypeId} {B : Nat → Option BA} {k : Nat} {l : List (List IV)} {KK : AV → Prop} : lenQ P t B (.iv (.sl k l)) KK = ((tySl P t).isSome = true ∧ KK (.val (.int .i64 (l.length : Nat)))) := rfl
@[go_sem] theorem lenQ_own {t : TypeId} {B : Nat → Option BA} {b : Nat} {KK : AV → Prop} : lenQ P t B (.own b) KK = match B b with
    | some (.row _ _ _ l) => (tySl P t).isSome = true ∧ KK (.val (.int .i64 (l.length : Nat)))
    | _ => False := rfl
@[go_sem] theorem lenQ_str {t : TypeId} {B : Nat → Option BA} {s : ByteArray} {KK : AV → Prop} : lenQ P t B (.val (.string s)) KK = (tyStr P t = true ∧ KK (.val (.int .i64 (s.size : Nat)))) := rfl
@[go_sem] theorem lenQ_nil {t : TypeId} {B : Nat → Option BA} {KK : AV → Prop} : lenQ P t B (.val (.slice none 0 0)) KK = ((tySl P t).isSome = true ∧ KK (.val (.int .i64 0))) := rfl
section
variable {t : TypeId} {x y : Operand} {k k' : IntKind} {p q : Int} {KK : AV → Prop}
@[go_sem] theorem valA_val {v : Value} : valA (.val v) = some v := rfl
@[go_sem] theorem valA_agg {cs : List AV} : valA (.agg cs) = (valA.valAs cs).map fun l => .agg l.toArray := rfl
@[go_sem] theorem valAs_nil : valA.valAs [] = some [] := rfl
@[go_sem] theorem valAs_cons {v : Value} {cs : List AV} : valA.valAs (.val v :: cs) = (valA.valAs cs).map fun l => v :: l := by
  show (match valA (.val v), valA.valAs cs with | some v, some l => some (v :: l) | _, _ => none) = _
  rw [valA_val]
  cases valA.valAs cs <;> rfl
@[go_sem] theorem bin_agg {op : BinOp} {u v : List AV} : binQ P op t x y (.agg u) (.agg v) KK = match valA (.agg u), valA (.agg v) with
    | some p, some q => ∃ r, (∀ w, (do eqGuard op t x y p q; binOp op t p q : Sem Value).run P w = .ok r w) ∧ Hold (KK (.val r))
    | _, _ => False := by cases op <;> rfl
@[go_sem] theorem bin_bool {op : BinOp} {u v : Bool} : binQ P op t x y (.val (.bool u)) (.val (.bool v)) KK = ∃ r, (∀ w, (do eqGuard op t x y (.bool u) (.bool v); binOp op t (.bool u) (.bool v) : Sem Value).run P w = .ok r w) ∧ Hold (KK (.val r)) := by cases op <;> rfl
@[go_sem] theorem bin_lss : binQ P .lss t x y (.val (.int k p)) (.val (.int k' q)) KK = (k = k' ∧ KK (.val (.bool (decide (p < q))))) := rfl
@[go_sem] theorem bin_leq : binQ P .leq t x y (.val (.int k p)) (.val (.int k' q)) KK = (k = k' ∧ KK (.val (.bool (decide (p ≤ q))))) := rfl
@[go_sem] theorem bin_gtr : binQ P .gtr t x y (.val (.int k p)) (.val (.int k' q)) KK = (k = k' ∧ KK (.val (.bool (decide (q < p))))) := rfl
@[go_sem] theorem bin_geq : binQ P .geq t x y (.val (.int k p)) (.val (.int k' q)) KK = (k = k' ∧ KK (.val (.bool (decide (q ≤ p))))) := rfl
@[go_sem] theorem bin_eql : binQ P .eql t x y (.val (.int k p)) (.val (.int k' q)) KK = (k = k' ∧ KK (.val (.bool (decide (p = q))))) := rfl
@[go_sem] theorem bin_neq : binQ P .neq t x y (.val (.int k p)) (.val (.int k' q)) KK = (k = k' ∧ KK (.val (.bool (decide (p ≠ q))))) := rfl
@[go_sem] theorem bin_add : binQ P .add t x y (.val (.int k p)) (.val (.int k' q)) KK = (k = k' ∧ ∃ m, k.wrap (p + q) = m ∧ Hold (KK (.val (.int k m)))) := rfl
@[go_sem] theorem bin_sub : binQ P .sub t x y (.val (.int k p)) (.val (.int k' q)) KK = (k = k' ∧ ∃ m, k.wrap (p - q) = m ∧ Hold (KK (.val (.int k m)))) := rfl
@[go_sem] theorem bin_and : binQ P .and t x y (.val (.int k p)) (.val (.int k' q)) KK = ∃ r, (∀ w, (do eqGuard .and t x y (.int k p) (.int k' q); binOp .and t (.int k p) (.int k' q) : Sem Value).run P w = .ok r w) ∧ Hold (KK (.val r)) := rfl
@[go_sem] theorem bin_rem : binQ P .rem t x y (.val (.int k p)) (.val (.int k' q)) KK = ∃ r, (∀ w, (do eqGuard .rem t x y (.int k p) (.int k' q); binOp .rem t (.int k p) (.int k' q) : Sem Value).run P w = .ok r w) ∧ Hold (KK (.val r)) := rfl
@[go_sem] theorem bin_quo : binQ P .quo t x y (.val (.int k p)) (.val (.int k' q)) KK = ∃ r, (∀ w, (do eqGuard .quo t x y (.int k p) (.int k' q); binOp .quo t (.int k p) (.int k' q) : Sem Value).run P w = .ok r w) ∧ Hold (KK (.val r)) := rfl
@[go_sem] theorem bin_or : binQ P .or t x y (.val (.int k p)) (.val (.int k' q)) KK = ∃ r, (∀ w, (do eqGuard .or t x y (.int k p) (.int k' q); binOp .or t (.int k p) (.int k' q) : Sem Value).run P w = .ok r w) ∧ Hold (KK (.val r)) := rfl
@[go_sem] theorem bin_xor : binQ P .xor t x y (.val (.int k p)) (.val (.int k' q)) KK = ∃ r, (∀ w, (do eqGuard .xor t x y (.int k p) (.int k' q); binOp .xor t (.int k p) (.int k' q) : Sem Value).run P w = .ok r w) ∧ Hold (KK (.val r)) := rfl
@[go_sem] theorem bin_shl : binQ P .shl t x y (.val (.int k p)) (.val (.int k' q)) KK = ∃ r, (∀ w, (do eqGuard .shl t x y (.int k p) (.int k' q); binOp .shl t (.int k p) (.int k' q) : Sem Value).run P w = .ok r w) ∧ Hold (KK (.val r)) := rfl
@[go_sem] theorem bin_shr : binQ P .shr t x y (.val (.int k p)) (.val (.int k' q)) KK = ∃ r, (∀ w, (do eqGuard .shr t x y (.int k p) (.int k' q); binOp .shr t (.int k p) (.int k' q) : Sem Value).run P w = .ok r w) ∧ Hold (KK (.val r)) := rfl
@[go_sem] theorem bin_mul : binQ P .mul t x y (.val (.int k p)) (.val (.int k' q)) KK = (k = k' ∧ ∃ m, k.wrap (p * q) = m ∧ Hold (KK (.val (.int k m)))) := rfl
end
end
@[go_sem] theorem argF_cons {i : Nat} {c : AV} {cs : List AV} : argF i (c :: cs) = (i, c) :: argF (i + 1) cs := rfl
@[go_sem] theorem argF_nil {i : Nat} : argF i [] = [] := rfl
@[go_sem] theorem oneOf_one {c : AV} : oneOf [c] = c := rfl
@[go_sem] theorem oneOf_two {c d : AV} {l : List AV} : oneOf (c :: d :: l) = .tup (c :: d :: l) := rfl
@[go_sem] theorem leF_nil {ρ : Nat → Nat} {fr : List (Nat × AV)} : leF ρ fr [] = True := rfl
@[go_sem] theorem leF_cons {ρ : Nat → Nat} {fr r : List (Nat × AV)} {i : Nat} {c : AV} : leF ρ fr ((i, c) :: r) = (look fr i = c.ren ρ ∧ leF ρ fr r) := rfl
@[go_sem] theorem leB_nil {ρ : Nat → Nat} {bk : List BA} : leB ρ bk [] = True := rfl
@[go_sem] theorem leB_cons {ρ : Nat → Nat} {bk r : List BA} {b : BA} : leB ρ bk (b :: r) = (findB (ρ b.id) bk = some (b.ren ρ) ∧ leB ρ bk r) := rfl
@[go_sem] theorem idsOf_nil {ρ : Nat → Nat} : idsOf ρ [] = [] := rfl
@[go_sem] theorem idsOf_cons {ρ : Nat → Nat} {b : BA} {r : List BA} : idsOf ρ (b :: r) = ρ b.id :: idsOf ρ r := rfl
@[go_sem] theorem id_box {b : Nat} {cs : List AV} : (BA.box b cs).id = b := rfl
@[go_sem] theorem id_arr {b : Nat} {cs : List IV} : (BA.arr b cs).id = b := rfl
@[go_sem] theorem id_row {b e k : Nat} {l : List (List IV)} : (BA.row b e k l).id = b := rfl
section
variable {ρ : Nat → Nat}
@[go_sem] theorem ren_any : AV.any.ren ρ = .any := rfl
@[go_sem] theorem ren_val {v : Value} : (AV.val v).ren ρ = .val v := rfl
@[go_sem] theorem ren_iv {i : IV} : (AV.iv i).ren ρ = .iv i := rfl
@[go_sem] theorem ren_ip {cs : List IV} : (AV.ip cs).ren ρ = .ip cs := rfl
@[go_sem] theorem ren_aggI {cs : List IV} : (AV.aggI cs).ren ρ = .aggI cs := rfl
@[go_sem] theorem ren_bp {b o : Nat} : (AV.bp b o).ren ρ = .bp (ρ b) o := rfl
@[go_sem] theorem ren_own {b : Nat} : (AV.own b).ren ρ = .own (ρ b) := rfl
@[go_sem] theorem ren_agg {cs : List AV} : (AV.agg cs).ren ρ = .agg (AV.ren.rens ρ cs) := rfl
@[go_sem] theorem ren_tup {cs : List AV} : (AV.tup cs).ren ρ = .tup (AV.ren.rens ρ cs) := rfl
@[go_sem] theorem ren_fn {f : Nat} {cs : List AV} : (AV.fn f cs).ren ρ = .fn f (AV.ren.rens ρ cs) := rfl
@[go_sem] theorem rens_nil : AV.ren.rens ρ [] = [] := rfl
@[go_sem] theorem rens_cons {c : AV} {cs : List AV} : AV.ren.rens ρ (c :: cs) = c.ren ρ :: AV.ren.rens ρ cs := rfl
@[go_sem] theorem renB_box {b : Nat} {cs : List AV} : (BA.box b cs).ren ρ = .box (ρ b) (AV.ren.rens ρ cs) := rfl
@[go_sem] theorem renB_arr {b : Nat} {cs : List IV} : (BA.arr b cs).ren ρ = .arr (ρ b) cs := rfl
@[go_sem] theorem renB_row {b e k : Nat} {l : List (List IV)} : (BA.row b e k l).ren ρ = .row (ρ b) e k l := rfl
end
@[go_sem] theorem retQ_nil {P : Program} {σ : AState} {K : List AV → Prop} : retQ P σ [] K = K [] := rfl
@[go_sem] theorem retQ_tmp {P : Program} {σ : AState} {t : Nat} {r : List ResultVar} {K : List AV → Prop} : retQ P σ (.tmp t :: r) K = retQ P σ r fun l => K (look σ.fr t :: l) := rfl
@[go_sem] theorem retQ_cell {P : Program} {σ : AState} {d t : Nat} {r : List ResultVar} {K : List AV → Prop} : retQ P σ (.cell d t :: r) K = match look σ.fr d with
    | .bp b p => match findB b σ.bk, tyK P t with
      | some (.box _ cs), some (q, s) => rdA q s (cs.drop p) fun u => retQ P σ r fun l => K (u :: l)
      | some (.arr _ cs), some (2, s) => p = 0 ∧ s = cs.length ∧ retQ P σ r fun l => K (.aggI cs :: l)
      | _, _ => False
    | _ => False := rfl
def offO (lo hi : Nat) (A : List Nat) (skip : Nat) : Nat → List AV → Bool
  | _, [] => true
  | j, x :: r => (x.off lo hi || (Nat.beq j skip || (A.getD j 0).testBit skip)) && offO lo hi A skip (j + 1) r
def offT (lo hi : Nat) (ex : Nat → Bool) : Nat → List BA → Bool
  | _, [] => true
  | t, b :: r => (b.off lo hi || ex t) && offT lo hi ex (t + 1) r
/-- a block that this operation makes, or one behind it -/
def exT (A : List Nat) (bs : List Nat) (hs : List Hint) (i t : Nat) : Bool := (outs bs hs i).contains t || (List.range hs.length).any fun j => (outs bs hs j).contains t && (A.getD j 0).testBit i
def freshB (A : List Nat) (toks : List BA) (fr0 : List (Nat × AV)) (rs : List AV) (hs : List Hint) (bs : List Nat) : Nat → List Oper → Bool
  | _, [] => true
  | i, o :: r => (match makes o with
    | true => offF (cid o.dst) (cid o.dst + 100) fr0 && offO (cid o.dst) (cid o.dst + 100) A i 0 rs && offT (cid o.dst) (cid o.dst + 100) (exT A bs hs i) 0 toks
    | false => true) && freshB A toks fr0 rs hs bs (i + 1) r
theorem offO_get {lo hi skip : Nat} {A : List Nat} : ∀ {rs : List AV} {s : Nat}, offO lo hi A skip s rs = true → ∀ (j : Nat) x, s + j ≠ skip → (A.getD (s + j) 0).testBit skip = false → rs[j]? = some x → x.off lo hi = true
  | [], _, _, j, x, _, _, h => by simp at h
  | y :: r, s, h, j, x, hne, hA, hx => by
    simp only [offO, Bool.and_eq_true, Bool.or_eq_true] at h
    cases j with
    | zero =>
      simp at hx; subst hx
      rcases h.1 with h | h | h
      · exact h
      · exact absurd (Nat.eq_of_beq_eq_true h) (by simpa using hne)
      · rw [Nat.add_zero] at hA
        rw [hA] at h; cases h
    | succ j => exact offO_get h.2 j x (by omega) (by rwa [show s + 1 + j = s + (j + 1) by omega]) (by simpa using hx)
theorem offT_get {lo hi : Nat} {ex : Nat → Bool} : ∀ {toks : List BA} {s : Nat}, offT lo hi ex s toks = true → ∀ (j : Nat) b, ex (s + j) = false → toks[j]? = some b → b.off lo hi = true
  | [], _, _, j, x, _, h => by simp at h
  | y :: r, s, h, j, x, hne, hx => by
    simp only [offT, Bool.and_eq_true, Bool.or_eq_true] at h
    cases j with
    | zero =>
      simp at hx; subst hx
      rcases h.1 with h | h
      · exact h
      · rw [Nat.add_zero] at hne
        rw [hne] at h; cases h
    | succ j => exact offT_get h.2 j x (by rwa [show s + 1 + j = s + (j + 1) by omega]) (by simpa using hx)
theorem freshB_all {toks : List BA} {fr0 : List (Nat × AV)} {ops : List Oper} {rs : List AV} {hs : List Hint} {bs : List Nat} (h : freshB (bef [] (ops.map depsO)) toks fr0 rs hs bs 0 ops = true) : freshAll toks fr0 ops rs hs bs := by
  obtain ⟨A, hA⟩ : ∃ A, bef [] (ops.map depsO) = A := ⟨_, rfl⟩
  rw [hA] at h
  unfold freshAll
  rw [hA]
  have key : ∀ (ops : List Oper) (s : Nat), freshB A toks fr0 rs hs bs s ops = true → ∀ (i : Nat) o, ops[i]? = some o → makes o = true → offF (cid o.dst) (cid o.dst + 100) fr0 = true ∧ offO (cid o.dst) (cid o.dst + 100) A (s + i) 0 rs = true ∧ offT (cid o.dst) (cid o.dst + 100) (exT A bs hs (s + i)) 0 toks = true := by
    intro ops
    induction ops with
    | nil => intro s _ i o h; simp at h
    | cons q r ih =>
      intro s h i o ho hm
      simp only [freshB, Bool.and_eq_true] at h
      cases i with
      | zero =>
        simp at ho; subst ho
        have := h.1
        rw [hm] at this
        simp only [Bool.and_eq_true] at this
        exact ⟨this.1.1, this.1.2, this.2⟩
      | succ i =>
        have := ih (s + 1) h.2 i o (by simpa using ho) hm
        rwa [show s + 1 + i = s + (i + 1) by omega] at this
  intro i o ho hm
  obtain ⟨k1, k2, k3⟩ := key ops 0 h i o ho hm
  simp only [Nat.zero_add] at k2 k3
  refine ⟨k1, fun j x hj hb hx => offO_get k2 j x (by simpa using hj) (by rwa [Nat.zero_add]) hx, fun t b ht ha hb => offT_get k3 t b ?_ hb⟩
  rw [Nat.zero_add]
  unfold exT
  rw [Bool.or_eq_false_iff]
  refine ⟨by simpa using ht, ?_⟩
  rw [List.any_eq_false]
  intro j _ hc
  rw [Bool.and_eq_true] at hc
  rw [ha j (by simpa using hc.1)] at hc
  cases hc.2
@[go_sem] theorem yieldA_eq {ops : List Oper} {fr : List (Nat × AV)} {j : Nat} : yieldA ops fr j = match ops[j]? with
  | some o => match o.dst with
    | some d => nrm (look fr d)
    | none => .any
  | none => .any := rfl
section
variable {P : Program} {G : World → Prop} {fr : List (Nat × AV)} {bk : List BA} {ops rest : List Oper} {KK : AState → Prop} {dst : Option Tmp} {op : Op} {ty : TypeId} {pos : String} {after : Array Edge} {j : Nat} {b : Bool}
variable {ds : List Nat} {fr0 : List (Nat × AV)} {toks : List BA} {rs : List AV} {KD : List BA → List AV → Prop} {sl : List (Nat × Nat)} {pre rd cs : List Nat} {out : Nat} {hs : List Hint}
end
theorem AW.reg {P : Program} {G : World → Prop} {V w0 : World} {n : Nd} {ro : Option Nat} {σ : AState} {K : Exit → AState → Prop} {id : Nat} {l : List Oper} (hd : dstsOk n l = true) (h : ∀ KK : AState → Prop, (∀ σ', K .normal σ' → KK σ') → vops P G l l σ KK) : AW P G ro V w0 n (.region id l.toArray false) σ K := AW.region hd (h _ fun _ h => h)
theorem AW.scope {P : Program} {G : World → Prop} {V w0 : World} {n : Nd} {ro : Option Nat} {σ : AState} {K : Exit → AState → Prop} {c : Code} (h : AW P G ro V w0 n c σ fun e σ' => match e with
    | .goto _ => False
    | e => K e σ') : AW P G ro V w0 n (.scope c) σ K := fun hG m E a w hn hs => wpIn_scope_straight (wpIn_mono (h hG m E a w hn hs) fun e a w h => by
  obtain ⟨m', E', σ', h0, h1, h2⟩ := h
  cases e <;> first | exact ⟨m', E', σ', h0, h1, h2⟩ | exact h1.elim)
theorem AW.drawn {P : Program} {G : World → Prop} {V w0 : World} {n : Nd} {ro : Option Nat} {σ : AState} {K : Exit → AState → Prop} {id m : Nat} {ops : List Oper} (hs : List Hint) {ds fin bs : List Nat} (hp : P.follows .mixedOrders = true) (hm : σ.bk.length = m) (hok : drawOk n m ops hs = true) (hds : dstsOf ops = ds) (hfin : finOf m hs = fin) (hbs : bases m hs = bs)
    (h : ∀ KD : List BA → List AV → Prop, (∀ toks rs, (freshB (bef [] (ops.map depsO)) toks σ.fr rs hs bs 0 ops = true ∧ K .normal ⟨finF ops rs σ.fr, selB fin toks⟩) → KD toks rs) → vdraw P G ds σ.fr ops hs σ.bk [] KD) : AW P G ro V w0 n (.region id ops.toArray true) σ K := by
  subst hds hfin hbs
  exact AW.draw hs hp hm hok (fun _ _ h => freshB_all h) (h _ fun _ _ h => h)
section
variable {P : Program} {G : World → Prop} {ds : List Nat} {fr0 : List (Nat × AV)} {toks : List BA} {rs : List AV} {K : List BA → List AV → Prop}
@[go_sem] theorem vdraw_nil : vdraw P G ds fr0 [] [] toks rs K = K toks rs := rfl
theorem vdraw_cons {dst : Option Tmp} {op : Op} {ty : TypeId} {pos : String} {after : Array Edge} {gd : Option (Nat × Bool)} {r : List Oper} {sl : List (Nat × Nat)} {pre rd cs : List Nat} {out : Nat} {hs : List Hint} :
    vdraw P G ds fr0 (⟨dst, op, ty, pos, after, gd⟩ :: r) (⟨sl, pre, rd, cs, out⟩ :: hs) toks rs K = guardD rs gd (vopL P G (ev (selF sl rs ++ maskF pre ds ++ fr0)) (selB cs toks ++ selB rd toks) ⟨dst, op, ty, pos, after, gd⟩ fun x bk' =>
      bk' = bk'.take out ++ selB rd toks ∧ (bk'.take out).length = out ∧ vdraw P G ds fr0 r hs (toks ++ bk'.take out) (rs ++ [x]) K) (out = 0 ∧ cs = [] ∧ vdraw P G ds fr0 r hs toks (rs ++ [.val undef]) K) := rfl
@[go_sem] theorem guardD_none {run skip : Prop} : guardD rs none run skip = run := rfl
@[go_sem] theorem guardD_some {j : Nat} {b : Bool} {run skip : Prop} : guardD rs (some (j, b)) run skip = match nrm (rs.getD j .any) with
    | .val (.bool true) => (match b with | true => run | false => skip)
    | .val (.bool false) => (match b with | true => skip | false => run)
    | .val (.tuple _) => skip
    | _ => False := rfl
@[go_sem] theorem selF_nil : selF [] rs = [] := rfl
@[go_sem] theorem selF_cons {d j : Nat} {r : List (Nat × Nat)} : selF ((d, j) :: r) rs = (d, rs.getD j .any) :: selF r rs := rfl
@[go_sem] theorem maskF_nil {pre : List Nat} : maskF pre [] = [] := rfl
@[go_sem] theorem maskF_no {d : Nat} {r : List Nat} : maskF [] (d :: r) = (d, .any) :: maskF [] r := rfl
@[go_sem] theorem selB_nil : selB [] toks = [] := rfl
@[go_sem] theorem selB_cons {t : Nat} {r : List Nat} : selB (t :: r) toks = toks.getD t (.arr 0 []) :: selB r toks := rfl
@[go_sem] theorem finF_nil {fr : List (Nat × AV)} : finF [] rs fr = fr := rfl
@[go_sem] theorem finF_some {d : Nat} {op : Op} {ty : TypeId} {pos : String} {after : Array Edge} {gd : Option (Nat × Bool)} {r : List Oper} {x : AV} {fr : List (Nat × AV)} : finF (⟨some d, op, ty, pos, after, gd⟩ :: r) (x :: rs) fr = (d, x) :: finF r rs fr := rfl
@[go_sem] theorem finF_none {op : Op} {ty : TypeId} {pos : String} {after : Array Edge} {gd : Option (Nat × Bool)} {r : List Oper} {x : AV} {fr : List (Nat × AV)} : finF (⟨none, op, ty, pos, after, gd⟩ :: r) (x :: rs) fr = finF r rs fr := rfl
end
attribute [go_sem] Option.map_some Option.map_none List.getElem?_cons_zero List.getElem?_cons_succ List.map_cons List.map_nil List.take_succ_cons List.take_zero List.drop_succ_cons List.drop_zero List.length_cons List.length_nil List.nil_append List.cons_append List.getD_cons_zero List.getD_cons_succ List.set_cons_zero List.set_cons_succ List.length_map true_and and_true Option.isSome_some List.append_nil List.take_nil List.drop_nil eq_self
theorem i64_wrap {x : Int} (h1 : -9223372036854775808 ≤ x) (h2 : x ≤ 9223372036854775807) : IntKind.i64.wrap x = x := IntWalk.i64_in _ (by omega)
theorem get_map {α β : Type} {f : α → β} {l : List α} {i : Nat} {y : α} (h : l[i]? = some y) : (l.map f)[i]? = some (f y) := by rw [List.getElem?_map, h]; rfl
@[go_sem] theorem toNat_nat {m : Nat} : ((m : Nat) : Int).toNat = m := rfl
-- the small first parts of the formulas
section
variable {b : Prop}
theorem nF {d : Option Tmp} {σ : AState} (hb : b) (h : freshQ d σ := by rfl) : freshQ d σ ∧ b := ⟨h, hb⟩
end
-- what simp may go into
section
variable {P : Program} {G : World → Prop} {V w0 : World} {n : Nd} {ro : Option Nat} {σ σ' : AState} {K : AV → List BA → Prop} {KE : Exit → AState → Prop} {KS : AState → Prop} {KA : AV → Prop} {KB : List BA → Prop} {o : Oper} {ops l : List Oper} {L L' : Operand → AV} {bk bk' : List BA} {c : Code} {x x' y y' : AV} {cs cs' : List AV} {is is' : List IV} {t : TypeId} {f : FuncId} {dst : Option Tmp}
@[congr] theorem AW_cg {B0 : Prop} (h : σ = σ') (_ : Tk = B0) : AW P G ro V w0 n c σ KE = AW P G ro V w0 n c σ' KE := by rw [h]
@[congr] theorem vops_cg {B0 : Prop} (h : σ = σ') (_ : Tk = B0) : vops P G ops l σ KS = vops P G ops l σ' KS := by rw [h]
@[congr] theorem vop_cg {B0 : Prop} (h : σ = σ') (_ : Tk = B0) : vop P G σ o K = vop P G σ' o K := by rw [h]
@[congr] theorem vopL_cg {B0 : Prop} (h : L = L') (hb : bk = bk') (_ : Tk = B0) : vopL P G L bk o K = vopL P G L' bk' o K := by rw [h, hb]
@[congr] theorem callW_cg {B0 : Prop} (h : cs = cs') (hb : bk = bk') (_ : Tk = B0) : callW P G f cs dst bk K = callW P G f cs' dst bk' K := by rw [h, hb]
@[congr] theorem storeQ_cg {B0 : Prop} (h : x = x') (h2 : y = y') (hb : bk = bk') (_ : Tk = B0) : storeQ P t x y bk KB = storeQ P t x' y' bk' KB := by rw [h, h2, hb]
@[congr] theorem appendQ_cg {B0 : Prop} {d d' : Nat} (h : x = x') (h2 : y = y') (hd : d = d') (hb : bk = bk') (_ : Tk = B0) : appendQ P t x y d bk K = appendQ P t x' y' d' bk' K := by rw [h, h2, hd, hb]
@[congr] theorem bsQ_cg {B0 : Prop} {k m : Nat} {parts : Array (Nat × Operand)} {C D : List (List IV) → Prop} (h : L = L') (_ : Tk = B0) : bsQ L k m parts C D = bsQ L' k m parts C D := by rw [h]
@[congr] theorem lenQ_cg {B0 : Prop} {B : Nat → Option BA} (h : x = x') (_ : Tk = B0) : lenQ P t B x KA = lenQ P t B x' KA := by rw [h]
@[congr] theorem binQ_cg {B0 : Prop} {op : BinOp} {u v : Operand} (h : x = x') (h2 : y = y') (_ : Tk = B0) : binQ P op t u v x y KA = binQ P op t u v x' y' KA := by rw [h, h2]
@[congr] theorem rdI_cg {B0 : Prop} {q s : Nat} (h : is = is') (_ : Tk = B0) : rdI q s is KA = rdI q s is' KA := by rw [h]
@[congr] theorem rdA_cg {B0 : Prop} {q s : Nat} (h : cs = cs') (_ : Tk = B0) : rdA q s cs KA = rdA q s cs' KA := by rw [h]
@[congr] theorem vdraw_cg {B0 : Prop} {ds : List Nat} {fr0 : List (Nat × AV)} {hs : List Hint} {KD : List BA → List AV → Prop} (h : bk = bk') (h2 : cs = cs') (_ : Tk = B0) : vdraw P G ds fr0 l hs bk cs KD = vdraw P G ds fr0 l hs bk' cs' KD := by rw [h, h2]
@[congr] theorem retQ_cg {B0 : Prop} {rs : List ResultVar} {KL : List AV → Prop} (h : σ = σ') (_ : Tk = B0) : retQ P σ rs KL = retQ P σ' rs KL := by rw [h]
/-- a branch -/
def condQ (x : AV) (A B : Prop) : Prop := ∃ t, x = .val (.bool t) ∧ (t = true → A) ∧ (t = false → B)
variable {A B : Prop}
@[congr] theorem condQ_cg {B0 : Prop} (h : x = x') (_ : Tk = B0) : condQ x A B = condQ x' A B := by rw [h]
@[go_sem] theorem condQ_t : condQ (.val (.bool true)) A B = A := by simp [condQ]
@[go_sem] theorem condQ_f : condQ (.val (.bool false)) A B = B := by simp [condQ]
@[go_sem] theorem condQ_t' {t : Bool} (h : t = true) : condQ (.val (.bool t)) A B = A := by rw [h, condQ_t]
@[go_sem] theorem condQ_f' {t : Bool} (h : t = false) : condQ (.val (.bool t)) A B = B := by rw [h, condQ_f]
theorem cond_ {t : Bool} (h1 : t = true → A) (h2 : t = false → B) : condQ (.val (.bool t)) A B := ⟨t, rfl, h1, h2⟩
/-- a premise that is reckoned -/
def Rk (p : Bool) (A : Prop) : Prop := p = true ∧ A
@[congr] theorem Rk_cg {B0 : Prop} {p : Bool} (_ : Tk = B0) : Rk p A = Rk p A := rfl
@[go_sem] theorem Rk_t {p : Bool} (h : p = true) : Rk p A = A := by simp [Rk, h]
/-- code, as far as the next piece -/
def W1 (P : Program) (G : World → Prop) (ro : Option Nat) (V w0 : World) (n : Nd) : Code → AState → (Exit → AState → Prop) → Prop
  | .skip, σ, K => K .normal σ
  | .ret, σ, K => K .ret σ
  | .exit id, σ, K => K (.exit id) σ
  | .label _, σ, K => K .normal σ
  | .seq x y, σ, K => W1 P G ro V w0 n x σ fun e σ' => match e with
    | .normal => AW P G ro V w0 n y σ' K
    | e => K e σ'
  | .block id c, σ, K => W1 P G ro V w0 n c σ fun e σ' => match e with
    | .exit j => if j = id then K .normal σ' else K (.exit j) σ'
    | e => K e σ'
  | .scope c, σ, K => W1 P G ro V w0 n c σ fun e σ' => match e with
    | .goto _ => False
    | e => K e σ'
  | .cond c x y, σ, K => condQ (nrm (ev σ.fr c)) (AW P G ro V w0 n x σ K) (AW P G ro V w0 n y σ K)
  | .region _ ops false, σ, K => Rk (dstsOk n ops.toList) (vops P G ops.toList ops.toList σ fun σ' => K .normal σ')
  | c, σ, K => AW P G ro V w0 n c σ K
def stepC : Code → Bool
  | .region _ _ d => !d
  | .loop _ => false
  | .rangeFunc _ _ _ _ => false
  | .goto _ => false
  | .refuse _ => false
  | _ => true
@[congr] theorem W1_cg {B0 : Prop} (h : σ = σ') (_ : Tk = B0) : W1 P G ro V w0 n c σ KE = W1 P G ro V w0 n c σ' KE := by rw [h]
theorem W1_run : ∀ {c : Code} {σ : AState} {K : Exit → AState → Prop}, W1 P G ro V w0 n c σ K → AW P G ro V w0 n c σ K := by
  intro c
  induction c with
  | skip => exact fun h => AW.skip h
  | ret => exact fun h => AW.ret h
  | exit id => exact fun h => AW.exit h
  | label l => exact fun h => AW.label h
  | seq x y ihx _ => exact fun h => AW.seq (ihx h)
  | block id c ih => exact fun h => AW.block (ih h)
  | scope c ih => exact fun h => AW.scope (ih h)
  | cond c x y _ _ => exact fun ⟨t, h0, h1, h2⟩ => AW.cond h0 h1 h2
  | region id ops d =>
    cases d with
    | false =>
      intro σ K h
      exact AW.region (l := ops.toList) h.1 h.2
    | true => exact fun h => h
  | _ => exact fun h => h
theorem st_ (_ : stepC c = true) (h : W1 P G ro V w0 n c σ KE) : AW P G ro V w0 n c σ KE := W1_run h
variable {id : Nat} {a b : Code}
@[go_sem] theorem W1_skip : W1 P G ro V w0 n .skip σ KE = KE .normal σ := rfl
@[go_sem] theorem W1_ret : W1 P G ro V w0 n .ret σ KE = KE .ret σ := rfl
@[go_sem] theorem W1_exit : W1 P G ro V w0 n (.exit id) σ KE = KE (.exit id) σ := rfl
@[go_sem] theorem W1_label : W1 P G ro V w0 n (.label id) σ KE = KE .normal σ := rfl
@[go_sem] theorem W1_seq : W1 P G ro V w0 n (.seq a b) σ KE = W1 P G ro V w0 n a σ fun e σ' => match e with
    | .normal => AW P G ro V w0 n b σ' KE
    | e => KE e σ' := rfl
@[go_sem] theorem W1_block : W1 P G ro V w0 n (.block id a) σ KE = W1 P G ro V w0 n a σ fun e σ' => match e with
    | .exit j => if j = id then KE .normal σ' else KE (.exit j) σ'
    | e => KE e σ' := rfl
@[go_sem] theorem W1_scope : W1 P G ro V w0 n (.scope a) σ KE = W1 P G ro V w0 n a σ fun e σ' => match e with
    | .goto _ => False
    | e => KE e σ' := rfl
@[go_sem] theorem W1_cond {q : Operand} : W1 P G ro V w0 n (.cond q a b) σ KE = condQ (nrm (ev σ.fr q)) (AW P G ro V w0 n a σ KE) (AW P G ro V w0 n b σ KE) := rfl
@[go_sem] theorem W1_region : W1 P G ro V w0 n (.region id l.toArray false) σ KE = Rk (dstsOk n l) (vops P G l l σ fun σ' => KE .normal σ') := rfl
@[go_sem] theorem W1_drawn {q : Array Oper} : W1 P G ro V w0 n (.region id q true) σ KE = AW P G ro V w0 n (.region id q true) σ KE := rfl
@[go_sem] theorem W1_loop : W1 P G ro V w0 n (.loop a) σ KE = AW P G ro V w0 n (.loop a) σ KE := rfl
@[go_sem] theorem W1_range {q : Operand} {ps : Array Tmp} : W1 P G ro V w0 n (.rangeFunc q ps a b) σ KE = AW P G ro V w0 n (.rangeFunc q ps a b) σ KE := rfl
end
-- premises that the discharger settles
section
variable {b : Prop} {P : Program} {G : World → Prop} {ops rest : List Oper} {KK : AState → Prop} {σ : AState} {d : Option Tmp} {op : Op} {ty : TypeId} {pos : String} {after : Array Edge} {j : Nat} {g : Bool}
@[go_sem] theorem fresh_t (h : (offF (cid d) (cid d + 100) σ.fr && offB (cid d) (cid d + 100) σ.bk) = true) : freshQ d σ = True := eq_true h
@[go_sem] theorem okC_t {y : AV} (h : okC y = true) : (okC y = true) = True := eq_true h
@[go_sem] theorem lt_t {s m : Nat} (h : Nat.blt s m = true) : (s < m ∧ b) = b := by simp [blt_iff.1 h]
@[go_sem] theorem wrap_t {x : Int} {KI : Int → Prop} (h1 : -9223372036854775808 ≤ x) (h2 : x ≤ 9223372036854775807) : (∃ m, IntKind.i64.wrap x = m ∧ Hold (KI m)) = KI x := by simp [Hold, i64_wrap h1 h2]
@[go_sem] theorem vops_1 (h : yieldA ops σ.fr j = .val (.bool g)) : vops P G ops (⟨d, op, ty, pos, after, some (j, g)⟩ :: rest) σ KK = vop P G σ ⟨d, op, ty, pos, after, some (j, g)⟩ fun r bk => vops P G ops rest ⟨putF d r σ.fr, bk⟩ KK := by
  rw [vops_guard]
  simp only [h, true_implies]
  cases g <;> simp
@[go_sem] theorem vops_0 (h : yieldA ops σ.fr j = .val (.bool !g)) : vops P G ops (⟨d, op, ty, pos, after, some (j, g)⟩ :: rest) σ KK = vops P G ops rest ⟨putF d (.val undef) σ.fr, σ.bk⟩ KK := by
  rw [vops_guard]
  simp only [h, true_implies]
  cases g <;> simp
@[go_sem] theorem vops_u (h : yieldA ops σ.fr j = .val undef) : vops P G ops (⟨d, op, ty, pos, after, some (j, g)⟩ :: rest) σ KK = vops P G ops rest ⟨putF d (.val undef) σ.fr, σ.bk⟩ KK := by
  rw [vops_guard]
  simp only [h, undef]
variable {ds : List Nat} {fr0 : List (Nat × AV)} {toks : List BA} {rs : List AV} {KD : List BA → List AV → Prop} {sl : List (Nat × Nat)} {pre rd cs : List Nat} {out : Nat} {hs : List Hint}
/-- what a drawn operation hands on -/
def Dn (out : Nat) (rt : List BA) (bk' : List BA) (F : List BA → Prop) : Prop := bk' = bk'.take out ++ rt ∧ (bk'.take out).length = out ∧ F (bk'.take out)
@[congr] theorem Dn_cg {B0 : Prop} {rt bk bk' : List BA} {F : List BA → Prop} (h : bk = bk') (_ : Tk = B0) : Dn out rt bk F = Dn out rt bk' F := by rw [h]
@[go_sem] theorem Dn_t {rt bk' : List BA} {F : List BA → Prop} (h : bk' = bk'.take out ++ rt) (h2 : (bk'.take out).length = out) : Dn out rt bk' F = F (bk'.take out) := by
  unfold Dn
  simp only [h2, true_and]
  exact propext ⟨fun h => h.2, fun h' => ⟨h, h'⟩⟩
@[go_sem] theorem vdraw_n : vdraw P G ds fr0 (⟨d, op, ty, pos, after, none⟩ :: rest) (⟨sl, pre, rd, cs, out⟩ :: hs) toks rs KD = vopL P G (ev (selF sl rs ++ maskF pre ds ++ fr0)) (selB cs toks ++ selB rd toks) ⟨d, op, ty, pos, after, none⟩ fun x bk' =>
      Dn out (selB rd toks) bk' fun nb => vdraw P G ds fr0 rest hs (toks ++ nb) (rs ++ [x]) KD := rfl
@[go_sem] theorem vdraw_1 (h : nrm (rs.getD j .any) = .val (.bool g)) : vdraw P G ds fr0 (⟨d, op, ty, pos, after, some (j, g)⟩ :: rest) (⟨sl, pre, rd, cs, out⟩ :: hs) toks rs KD = vopL P G (ev (selF sl rs ++ maskF pre ds ++ fr0)) (selB cs toks ++ selB rd toks) ⟨d, op, ty, pos, after, some (j, g)⟩ fun x bk' =>
      Dn out (selB rd toks) bk' fun nb => vdraw P G ds fr0 rest hs (toks ++ nb) (rs ++ [x]) KD := by
  rw [vdraw_cons]
  unfold guardD
  simp only [h]
  cases g <;> rfl
@[go_sem] theorem vdraw_0 (h : nrm (rs.getD j .any) = .val (.bool !g)) (h0 : out = 0) (h1 : cs = []) : vdraw P G ds fr0 (⟨d, op, ty, pos, after, some (j, g)⟩ :: rest) (⟨sl, pre, rd, cs, out⟩ :: hs) toks rs KD = vdraw P G ds fr0 rest hs toks (rs ++ [.val undef]) KD := by
  rw [vdraw_cons]
  unfold guardD
  simp only [h]
  subst h0 h1
  cases g <;> simp
@[go_sem] theorem vdraw_u (h : nrm (rs.getD j .any) = .val undef) (h0 : out = 0) (h1 : cs = []) : vdraw P G ds fr0 (⟨d, op, ty, pos, after, some (j, g)⟩ :: rest) (⟨sl, pre, rd, cs, out⟩ :: hs) toks rs KD = vdraw P G ds fr0 rest hs toks (rs ++ [.val undef]) KD := by
  rw [vdraw_cons]
  unfold guardD
  simp only [h, undef]
  subst h0 h1
  simp
end
@[go_sem] theorem ex_some {α : Type} {c : α} {K : α → Prop} : (∃ u, some c = some u ∧ Hold (K u)) = K c := by simp [Hold]
attribute [go_sem] ne_eq not_false_eq_true Bool.not_true Bool.not_false
attribute [irreducible] Hold
end Go.Proofs.YtdbeoigbkkdpdaaGreatDoor
