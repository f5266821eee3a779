/- Stamps, spans, writes, notes as trees; contracts of the elder kind, told as data. -/
import Derived.Test.YtkphfdmelfhnoaaGreatDoorPAbsSimp
import Derived.Test.YtkphfdmelfhnoaaGreatDoorProg
import Derived.Test.YtkphfdmelfhnoaaGreatDoorPNoteSmall
set_option linter.all false
set_option linter.unnecessarySimpa false
set_option linter.unusedSimpArgs false
set_option linter.unusedVariables false
namespace Go.Proofs.YtkphfdmelfhnoaaGreatDoor
open Go.ChangeShapes Go.WideShapes Go.ChangeAt Go.RowKit
@[go_sem] theorem tyK_3 : tyK Tryz.prog 3 = some (0, 1) := by kernel_rfl
@[go_sem] theorem tyInt_3 : tyInt Tryz.prog 3 = some .i64 := by kernel_rfl
@[go_sem] theorem tyZ_3 : tyZ Tryz.prog 3 = some (0, [.int .i64 0]) := by kernel_rfl
@[go_sem] theorem tyK_4 : tyK Tryz.prog 4 = some (0, 1) := by kernel_rfl
@[go_sem] theorem tyZ_4 : tyZ Tryz.prog 4 = some (0, [.bool false]) := by kernel_rfl
@[go_sem] theorem tyZ_5 : tyZ Tryz.prog 5 = some (0, [.int .u8 0]) := by kernel_rfl
@[go_sem] theorem tyStr_9 : tyStr Tryz.prog 9 = true := by kernel_rfl
@[go_sem] theorem tyK_22 : tyK Tryz.prog 22 = some (0, 1) := by kernel_rfl
@[go_sem] theorem tyZ_22 : tyZ Tryz.prog 22 = some (0, [.slice none 0 0]) := by kernel_rfl
@[go_sem] theorem tyK_23 : tyK Tryz.prog 23 = some (0, 1) := by kernel_rfl
@[go_sem] theorem tySl_23 : tySl Tryz.prog 23 = some (147, 3, 40) := by kernel_rfl
@[go_sem] theorem tyZ_23 : tyZ Tryz.prog 23 = some (0, [.slice none 0 0]) := by kernel_rfl
@[go_sem] theorem tyK_24 : tyK Tryz.prog 24 = some (0, 1) := by kernel_rfl
@[go_sem] theorem tySl_24 : tySl Tryz.prog 24 = some (55, 4, 32) := by kernel_rfl
@[go_sem] theorem tyZ_24 : tyZ Tryz.prog 24 = some (0, [.slice none 0 0]) := by kernel_rfl
@[go_sem] theorem tyK_25 : tyK Tryz.prog 25 = some (0, 1) := by kernel_rfl
@[go_sem] theorem tySl_25 : tySl Tryz.prog 25 = some (51, 4, 48) := by kernel_rfl
@[go_sem] theorem tyK_27 : tyK Tryz.prog 27 = some (1, 5) := by kernel_rfl
@[go_sem] theorem tyF_27_0 : tyF Tryz.prog 27 0 = some (0, 0, 1) := by kernel_rfl
@[go_sem] theorem tyF_27_1 : tyF Tryz.prog 27 1 = some (1, 0, 1) := by kernel_rfl
@[go_sem] theorem tyF_27_2 : tyF Tryz.prog 27 2 = some (2, 0, 1) := by kernel_rfl
@[go_sem] theorem tyF_27_3 : tyF Tryz.prog 27 3 = some (3, 0, 1) := by kernel_rfl
@[go_sem] theorem tyF_27_4 : tyF Tryz.prog 27 4 = some (4, 0, 1) := by kernel_rfl
@[go_sem] theorem tyB_27 : tyBld Tryz.prog 27 = some ([.slice none 0 0, .slice none 0 0, .slice none 0 0, .slice none 0 0, .int .i64 0], [(0, 1), (1, 1), (2, 1), (3, 1), (4, 1)]) := by kernel_rfl
@[go_sem] theorem tyZ_27 : tyZ Tryz.prog 27 = some (1, [.slice none 0 0, .slice none 0 0, .slice none 0 0, .slice none 0 0, .int .i64 0]) := by kernel_rfl
@[go_sem] theorem tyK_28 : tyK Tryz.prog 28 = some (0, 1) := by kernel_rfl
@[go_sem] theorem tySl_28 : tySl Tryz.prog 28 = some (78, 2, 16) := by kernel_rfl
@[go_sem] theorem tyZ_28 : tyZ Tryz.prog 28 = some (0, [.slice none 0 0]) := by kernel_rfl
@[go_sem] theorem tyK_30 : tyK Tryz.prog 30 = some (1, 4) := by kernel_rfl
@[go_sem] theorem tyF_30_0 : tyF Tryz.prog 30 0 = some (0, 0, 1) := by kernel_rfl
@[go_sem] theorem tyF_30_1 : tyF Tryz.prog 30 1 = some (1, 0, 1) := by kernel_rfl
@[go_sem] theorem tyF_30_2 : tyF Tryz.prog 30 2 = some (2, 0, 1) := by kernel_rfl
@[go_sem] theorem tyF_30_3 : tyF Tryz.prog 30 3 = some (3, 0, 1) := by kernel_rfl
@[go_sem] theorem tyB_30 : tyBld Tryz.prog 30 = some ([.slice none 0 0, .slice none 0 0, .slice none 0 0, .slice none 0 0], [(0, 1), (1, 1), (2, 1), (3, 1)]) := by kernel_rfl
@[go_sem] theorem tyZ_30 : tyZ Tryz.prog 30 = some (1, [.slice none 0 0, .slice none 0 0, .slice none 0 0, .slice none 0 0]) := by kernel_rfl
@[go_sem] theorem tyInt_44 : tyInt Tryz.prog 44 = some .u64 := by kernel_rfl
@[go_sem] theorem tyK_45 : tyK Tryz.prog 45 = some (0, 1) := by kernel_rfl
@[go_sem] theorem tySl_45 : tySl Tryz.prog 45 = some (5, 1, 1) := by kernel_rfl
@[go_sem] theorem tyByt_45 : tyByt Tryz.prog 45 = true := by kernel_rfl
@[go_sem] theorem tyK_49 : tyK Tryz.prog 49 = some (1, 2) := by kernel_rfl
@[go_sem] theorem tyB_49 : tyBld Tryz.prog 49 = some ([.int .i64 0, .int .i64 0], [(0, 1), (1, 1)]) := by kernel_rfl
@[go_sem] theorem tyZ_49 : tyZ Tryz.prog 49 = some (1, [.int .i64 0, .int .i64 0]) := by kernel_rfl
@[go_sem] theorem tyK_51 : tyK Tryz.prog 51 = some (1, 4) := by kernel_rfl
@[go_sem] theorem tyF_51_0 : tyF Tryz.prog 51 0 = some (0, 0, 1) := by kernel_rfl
@[go_sem] theorem tyF_51_1 : tyF Tryz.prog 51 1 = some (1, 1, 2) := by kernel_rfl
@[go_sem] theorem tyF_51_2 : tyF Tryz.prog 51 2 = some (3, 0, 1) := by kernel_rfl
@[go_sem] theorem tyB_51 : tyBld Tryz.prog 51 = some ([.int .i64 0, .int .i64 0, .int .i64 0, .slice none 0 0], [(0, 1), (1, 2), (3, 1)]) := by kernel_rfl
@[go_sem] theorem tyZ_51 : tyZ Tryz.prog 51 = some (1, [.int .i64 0, .int .i64 0, .int .i64 0, .slice none 0 0]) := by kernel_rfl
@[go_sem] theorem tyK_55 : tyK Tryz.prog 55 = some (1, 4) := by kernel_rfl
@[go_sem] theorem tyF_55_0 : tyF Tryz.prog 55 0 = some (0, 1, 2) := by kernel_rfl
@[go_sem] theorem tyF_55_1 : tyF Tryz.prog 55 1 = some (2, 0, 1) := by kernel_rfl
@[go_sem] theorem tyF_55_2 : tyF Tryz.prog 55 2 = some (3, 0, 1) := by kernel_rfl
@[go_sem] theorem tyB_55 : tyBld Tryz.prog 55 = some ([.int .i64 0, .int .i64 0, .int .i64 0, .bool false], [(0, 2), (2, 1), (3, 1)]) := by kernel_rfl
@[go_sem] theorem tyZ_55 : tyZ Tryz.prog 55 = some (1, [.int .i64 0, .int .i64 0, .int .i64 0, .bool false]) := by kernel_rfl
@[go_sem] theorem tySl_68 : tySl Tryz.prog 68 = some (3, 1, 8) := by kernel_rfl
@[go_sem] theorem tySl_72 : tySl Tryz.prog 72 = some (30, 4, 96) := by kernel_rfl
@[go_sem] theorem tyK_78 : tyK Tryz.prog 78 = some (1, 2) := by kernel_rfl
@[go_sem] theorem tyF_78_0 : tyF Tryz.prog 78 0 = some (0, 0, 1) := by kernel_rfl
@[go_sem] theorem tyF_78_1 : tyF Tryz.prog 78 1 = some (1, 0, 1) := by kernel_rfl
@[go_sem] theorem tyB_78 : tyBld Tryz.prog 78 = some ([.int .i64 0, .int .i64 0], [(0, 1), (1, 1)]) := by kernel_rfl
@[go_sem] theorem tyZ_78 : tyZ Tryz.prog 78 = some (1, [.int .i64 0, .int .i64 0]) := by kernel_rfl
@[go_sem] theorem tyK_112 : tyK Tryz.prog 112 = some (2, 256) := by kernel_rfl
@[go_sem] theorem tySl_112 : tySl Tryz.prog 112 = none := by kernel_rfl
@[go_sem] theorem tyAr_112 : tyAr Tryz.prog 112 = some (256, 0, 1) := by kernel_rfl
@[go_sem] theorem tyZ_112 : tyZ Tryz.prog 112 = some (2, rep 256 (.bool false)) := by kernel_rfl
@[go_sem] theorem tyK_147 : tyK Tryz.prog 147 = some (1, 3) := by kernel_rfl
@[go_sem] theorem tyF_147_0 : tyF Tryz.prog 147 0 = some (0, 1, 2) := by kernel_rfl
@[go_sem] theorem tyF_147_1 : tyF Tryz.prog 147 1 = some (2, 0, 1) := by kernel_rfl
@[go_sem] theorem tyB_147 : tyBld Tryz.prog 147 = some ([.int .i64 0, .int .i64 0, .slice none 0 0], [(0, 2), (2, 1)]) := by kernel_rfl
@[go_sem] theorem tyZ_147 : tyZ Tryz.prog 147 = some (1, [.int .i64 0, .int .i64 0, .slice none 0 0]) := by kernel_rfl
@[go_sem] theorem tyMp_172 : tyMp Tryz.prog 172 = some (.i64, .bool false) := by kernel_rfl
@[go_sem] theorem tySl_178 : tySl Tryz.prog 178 = some (22, 1, 24) := by kernel_rfl
@[go_sem] theorem tyK_197 : tyK Tryz.prog 197 = some (0, 1) := by kernel_rfl
@[go_sem] theorem tyZ_197 : tyZ Tryz.prog 197 = some (0, [.nilFunc]) := by kernel_rfl
@[go_sem] theorem tySl_211 : tySl Tryz.prog 211 = none := by kernel_rfl
@[go_sem] theorem tyAr_211 : tyAr Tryz.prog 211 = some (2, 0, 1) := by kernel_rfl
@[go_sem] theorem tyB_211 : tyBld Tryz.prog 211 = some ([.int .i64 0, .int .i64 0], [(0, 1), (1, 1)]) := by kernel_rfl
@[go_sem] theorem tyK_212 : tyK Tryz.prog 212 = some (2, 4) := by kernel_rfl
@[go_sem] theorem tySl_212 : tySl Tryz.prog 212 = none := by kernel_rfl
@[go_sem] theorem tyAr_212 : tyAr Tryz.prog 212 = some (2, 2, 2) := by kernel_rfl
@[go_sem] theorem tyB_212 : tyBld Tryz.prog 212 = some ([.int .i64 0, .int .i64 0, .int .i64 0, .int .i64 0], [(0, 2), (2, 2)]) := by kernel_rfl
@[go_sem] theorem tyZ_212 : tyZ Tryz.prog 212 = some (2, [.int .i64 0, .int .i64 0, .int .i64 0, .int .i64 0]) := by kernel_rfl
@[go_sem] theorem tySl_214 : tySl Tryz.prog 214 = none := by kernel_rfl
@[go_sem] theorem tyAr_214 : tyAr Tryz.prog 214 = some (64, 0, 1) := by kernel_rfl
@[go_sem] theorem tySl_225 : tySl Tryz.prog 225 = some (28, 1, 24) := by kernel_rfl
@[go_sem] theorem tyK_227 : tyK Tryz.prog 227 = some (0, 1) := by kernel_rfl
@[go_sem] theorem tyF_229_0 : tyF Tryz.prog 229 0 = some (0, 2, 64) := by kernel_rfl
@[go_sem] theorem tyF_229_1 : tyF Tryz.prog 229 1 = some (64, 0, 1) := by kernel_rfl
@[go_sem] theorem tyZ_229 : tyZ Tryz.prog 229 = some (1, rep 64 (.int .i64 0) ++ [.int .u64 0]) := by kernel_rfl
@[go_sem] theorem tyK_262 : tyK Tryz.prog 262 = some (0, 1) := by kernel_rfl
def enSt (s : Stamp) : List IV := [.val (.int .i64 s.count), .val (.int .i64 s.node)]
def enSp (s : Span) : List IV := [.val (.int .i64 s.lo), .val (.int .i64 s.hi)]
def enW (y : Write) : List IV := [.val (.int .i64 y.stamp.count), .val (.int .i64 y.stamp.node), .val (.int .i64 y.object), .val (.bool y.gone)]
def stI (l : List Stamp) : IV := .sl 2 (l.map enSt)
def spI (l : List Span) : IV := .sl 2 (l.map enSp)
def wrI (l : List Write) : IV := .sl 4 (l.map enW)
def enN (x : Note) : List IV := [stI x.start, stI x.end_, spI x.blur, wrI x.writes]
def noI (l : List Note) : IV := .sl 4 (l.map enN)
def stA (l : List Stamp) : AV := .iv (stI l)
def spA (l : List Span) : AV := .iv (spI l)
def noteA (x : Note) : AV := .agg [.iv (stI x.start), .iv (stI x.end_), .iv (spI x.blur), .iv (wrI x.writes)]
theorem enSp_eq (s : Span) : enSp s = [.val (.int .i64 s.lo), .val (.int .i64 s.hi)] := rfl
theorem enW_eq (y : Write) : enW y = [.val (.int .i64 y.stamp.count), .val (.int .i64 y.stamp.node), .val (.int .i64 y.object), .val (.bool y.gone)] := rfl
theorem enN_eq (x : Note) : enN x = [stI x.start, stI x.end_, spI x.blur, wrI x.writes] := rfl
section
variable {X : World} {v : Value}
theorem st_rep {cs : List Value} {s : Stamp} (h : StampR cs s) : RepVs X cs (enSt s) := by
 obtain ⟨rfl, h1, h2⟩ := h; exact ⟨.val h1, .val h2, trivial⟩
theorem rep_st {cs : List Value} {s : Stamp} (h : RepVs X cs (enSt s)) : StampR cs s := by
 match cs, h with
 | [a, b], ⟨h1, h2, _⟩ => cases h1 with | val i1 => cases h2 with | val i2 => exact ⟨rfl, i1, i2⟩
theorem sp_rep {cs : List Value} {s : Span} (h : SpanR cs s) : RepVs X cs (enSp s) := by
 obtain ⟨rfl, h1, h2⟩ := h; exact ⟨.val h1, .val h2, trivial⟩
theorem rep_sp {cs : List Value} {s : Span} (h : RepVs X cs (enSp s)) : SpanR cs s := by
 match cs, h with
 | [a, b], ⟨h1, h2, _⟩ => cases h1 with | val i1 => cases h2 with | val i2 => exact ⟨rfl, i1, i2⟩
theorem w_rep {cs : List Value} {s : Write} (h : WriteR cs s) : RepVs X cs (enW s) := by
 obtain ⟨rfl, h1, h2, h3⟩ := h; exact ⟨.val h1, .val h2, .val h3, .val trivial, trivial⟩
theorem rep_w {cs : List Value} {s : Write} (h : RepVs X cs (enW s)) : WriteR cs s := by
 match cs, h with
 | [a, b, c, d], ⟨h1, h2, h3, h4, _⟩ => cases h1 with | val i1 => cases h2 with | val i2 => cases h3 with | val i3 => cases h4 with | val i4 => exact ⟨rfl, i1, i2, i3⟩
theorem RepV.stamps {l : List Stamp} (h : RepV X v (stI l)) : Stamps X X.heap.size v l := h.to_typed fun _ _ _ h => rep_st h
theorem RepV.spans {l : List Span} (h : RepV X v (spI l)) : Spans X X.heap.size v l := h.to_typed fun _ _ _ h => rep_sp h
theorem RepV.writes {l : List Write} (h : RepV X v (wrI l)) : Writes X X.heap.size v l := h.to_typed fun _ _ _ h => rep_w h
theorem stamps_rep {l : List Stamp} {B : Nat} (h : Stamps X B v l) (hB : B ≤ X.heap.size) : RepV X v (stI l) := RepV.of_typed (fun _ _ h => st_rep h) h hB
theorem spans_rep {l : List Span} {B : Nat} (h : Spans X B v l) (hB : B ≤ X.heap.size) : RepV X v (spI l) := RepV.of_typed (fun _ _ h => sp_rep h) h hB
theorem writes_rep {l : List Write} {B : Nat} (h : Writes X B v l) (hB : B ≤ X.heap.size) : RepV X v (wrI l) := RepV.of_typed (fun _ _ h => w_rep h) h hB
theorem rep_note {E : Env} {w : World} (he : Ext X w) {x : Note} (h : RepA E X v (noteA x)) : ∃ v0 v1 v2 v3, v = .agg #[v0, v1, v2, v3] ∧ NoteV w w.heap.size v0 v1 v2 v3 x := by
 cases h with
 | @agg vs _ h1 h2 =>
  obtain ⟨l⟩ := vs
  match l, h1 with
  | [v0, v1, v2, v3], _ =>
   have a0 := h2 0 v0 _ rfl rfl
   have a1 := h2 1 v1 _ rfl rfl
   have a2 := h2 2 v2 _ rfl rfl
   have a3 := h2 3 v3 _ rfl rfl
   cases a0 with | iv a0 => cases a1 with | iv a1 => cases a2 with | iv a2 => cases a3 with | iv a3 =>
   exact ⟨v0, v1, v2, v3, rfl, a0.stamps.ext (fun _ _ h => h) he, a1.stamps.ext (fun _ _ h => h) he, a2.spans.ext (fun _ _ h => h) he, a3.writes.ext (fun _ _ h => h) he⟩
theorem Chunks.map_ {α β : Type} {R : List Value → α → Prop} {R' : List Value → β → Prop} {f : α → β} {k : Nat} (hR : ∀ cs x, R cs x → R' cs (f x)) : ∀ {xs : List Value} {l : List α}, Chunks R k xs l → Chunks R' k xs (l.map f)
 | _, [], h => h
 | _, _ :: _, ⟨cs, rest, e, hk, h1, h⟩ => ⟨cs, rest, e, hk, hR _ _ h1, Chunks.map_ hR h⟩
theorem OwnSl.map_ {α β : Type} {R : List Value → α → Prop} {R' : List Value → β → Prop} {f : α → β} {k : Nat} {w : World} {base : Nat} {e : TypeId} {l : List α} (hR : ∀ cs x, R cs x → R' cs (f x)) (h : OwnSl R k w base e v l) : OwnSl R' k w base e v (l.map f) := by
 obtain ⟨xs, h1, h2, h3⟩ := h
 exact ⟨xs, by rw [List.length_map]; exact h1, h2.map_ hR, by rw [List.length_map]; exact h3⟩
end
section
variable {P : Program} {G : World → Prop} {f : FuncId} {fn : Func} {c : Code}
theorem enters_f (hf : P.funcs[f]? = some fn) (hb : fn.body = some c) (hname : (fn.name == "runtime.NumGoroutine") = false) (vs : Array Value) (w : World) : (callFunc f vs).run P w = .ok (.enter f vs) w := by
 have hname' : ¬ fn.name = "runtime.NumGoroutine" := by simpa using hname
 simp [callFunc, program, Sem.run, hf, hname', hb]
theorem bridge {args : List AV} {r : AV} (hf : P.funcs[f]? = some fn) (hb : fn.body = some c) (hname : (fn.name == "runtime.NumGoroutine") = false)
  (h : ∀ (V w : World) (E : Env) (vs : Array Value), Ext V w → G w → RepAs E V vs.toList args → Calls P f vs w fun e w' => ∃ v, e = .returned v ∧ Below w.heap.size w w' ∧ RepA E (vis V w w' []) v r) : ACalls P G f args r [] :=
 ⟨enters_f hf hb hname, fun V w E vs hV hG hr => (h V w E vs hV hG hr).mono fun _ w' ⟨v, he, hb, hv⟩ => ⟨v, E, he, hb, List.nodup_nil, fun _ h => (by cases h), fun _ h => (by cases h), hv⟩⟩
theorem args1 {E : Env} {V : World} {vs : Array Value} {a : AV} (h : RepAs E V vs.toList [a]) : ∃ v, vs = #[v] ∧ RepA E V v a := by
 obtain ⟨v, vs', h1, h2, h3⟩ := RepAs.cons_iff.1 h
 rw [RepAs.nil_iff] at h3
 subst h3
 exact ⟨v, by rw [← Array.toArray_toList (xs := vs), h1], h2⟩
theorem args2 {E : Env} {V : World} {vs : Array Value} {a b : AV} (h : RepAs E V vs.toList [a, b]) : ∃ v u, vs = #[v, u] ∧ RepA E V v a ∧ RepA E V u b := by
 obtain ⟨v, vs', h1, h2, h3⟩ := RepAs.cons_iff.1 h
 obtain ⟨u, vs2, rfl, h4, h5⟩ := RepAs.cons_iff.1 h3
 rw [RepAs.nil_iff] at h5
 subst h5
 exact ⟨v, u, by rw [← Array.toArray_toList (xs := vs), h1], h2, h4⟩
theorem iv_stamps {E : Env} {V w : World} {v : Value} {l : List Stamp} (hV : Ext V w) (h : RepA E V v (.iv (stI l))) : Stamps w w.heap.size v l := by
 cases h with | iv h => exact h.stamps.ext (fun _ _ h => h) hV
theorem iv_spans {E : Env} {V w : World} {v : Value} {l : List Span} (hV : Ext V w) (h : RepA E V v (.iv (spI l))) : Spans w w.heap.size v l := by
 cases h with | iv h => exact h.spans.ext (fun _ _ h => h) hV
theorem iv_writes {E : Env} {V w : World} {v : Value} {l : List Write} (hV : Ext V w) (h : RepA E V v (.iv (wrI l))) : Writes w w.heap.size v l := by
 cases h with | iv h => exact h.writes.ext (fun _ _ h => h) hV
theorem bridge_val {args : List AV} {v : Value} (hf : P.funcs[f]? = some fn) (hb : fn.body = some c) (hname : (fn.name == "runtime.NumGoroutine") = false)
  (h : ∀ (V w : World) (E : Env) (vs : Array Value), Ext V w → G w → RepAs E V vs.toList args → Calls P f vs w fun e w' => e = .returned v ∧ Below w.heap.size w w') : ACalls P G f args (.val v) [] :=
 ⟨enters_f hf hb hname, fun V w E vs hV hG hr => (h V w E vs hV hG hr).mono fun _ w' ⟨he, hb⟩ => ⟨v, E, he, hb, List.nodup_nil, fun _ h => (by cases h), fun _ h => (by cases h), .val⟩⟩
theorem bridge_own {α : Type} {R : List Value → α → Prop} {enc : α → List IV} {k T : Nat} {l : List α} (hR : ∀ X cs x, R cs x → RepVs X cs (enc x)) {args : List AV} (hf : P.funcs[f]? = some fn) (hb : fn.body = some c) (hname : (fn.name == "runtime.NumGoroutine") = false)
  (h : ∀ (V w : World) (E : Env) (vs : Array Value), Ext V w → G w → RepAs E V vs.toList args → Calls P f vs w fun e w' => (∃ v, e = .returned v ∧ OwnSl R k w' w.heap.size T v l) ∧ Below w.heap.size w w') : ACalls P G f args (.own 0) [.row 0 T k (l.map enc)] :=
 ⟨enters_f hf hb hname, fun V w E vs hV hG hr => (h V w E vs hV hG hr).mono fun _ w' ⟨⟨v, he, hO⟩, hb⟩ => by
  obtain ⟨A, cc, hv⟩ := hO.form
  have ho : owns ⟨fun _ => (v.ownBlock).getD 0, fun _ => v⟩ [.row 0 T k (l.map enc)] = v.ownBlock.toList := by simp [owns, BA.owned]
  refine ⟨v, ⟨fun _ => (v.ownBlock).getD 0, fun _ => v⟩, he, hb, by rw [ho]; cases v.ownBlock <;> simp, fun g hg => by rw [ho, Option.mem_toList] at hg; exact (hO.lt g hg).1, fun b hb' => ?_, ?_⟩
  ·simp only [List.mem_singleton] at hb'
   subst hb'
   exact ⟨hO.map_ fun cs x h => hR _ cs x h, fun g hg => by simp [hg]⟩
  ·rw [hv]
   exact .own rfl⟩
end
end Go.Proofs.YtkphfdmelfhnoaaGreatDoor
