/- Stamps, spans, writes, notes as trees; contracts of the elder kind, told as data. -/
import Derived.Test.YtaiekfeiaamemaaGreatDoorPAbsSimp
import Derived.Test.YtaiekfeiaamemaaGreatDoorProg
import Derived.Test.YtaiekfeiaamemaaGreatDoorPStreamSpec
set_option linter.all false
set_option linter.unnecessarySimpa false
set_option linter.unusedSimpArgs false
set_option linter.unusedVariables false
namespace Go.Proofs.YtaiekfeiaamemaaGreatDoor
open Go.ChangeShapes Go.WideShapes Go.ChangeAt Go.RowKit
@[go_sem] theorem tyK_3 : tyK Tryz.prog 3 = some (0, 1) := by kernel_rfl
@[go_sem] theorem tyInt_3 : tyInt Tryz.prog 3 = some .i64 := by kernel_rfl
@[go_sem] theorem tyZ_3 : tyZ Tryz.prog 3 = some (0, [.int .i64 0]) := by kernel_rfl
@[go_sem] theorem tyK_4 : tyK Tryz.prog 4 = some (0, 1) := by kernel_rfl
@[go_sem] theorem tyZ_4 : tyZ Tryz.prog 4 = some (0, [.bool false]) := by kernel_rfl
@[go_sem] theorem tyZ_5 : tyZ Tryz.prog 5 = some (0, [.int .u8 0]) := by kernel_rfl
@[go_sem] theorem tyStr_9 : tyStr Tryz.prog 9 = true := by kernel_rfl
@[go_sem] theorem tySl_23 : tySl Tryz.prog 23 = none := by kernel_rfl
@[go_sem] theorem tyAr_23 : tyAr Tryz.prog 23 = some (2, 0, 1) := by kernel_rfl
@[go_sem] theorem tyB_23 : tyBld Tryz.prog 23 = some ([.int .i64 0, .int .i64 0], [(0, 1), (1, 1)]) := by kernel_rfl
@[go_sem] theorem tyK_24 : tyK Tryz.prog 24 = some (0, 1) := by kernel_rfl
@[go_sem] theorem tyZ_24 : tyZ Tryz.prog 24 = some (0, [.slice none 0 0]) := by kernel_rfl
@[go_sem] theorem tyK_25 : tyK Tryz.prog 25 = some (0, 1) := by kernel_rfl
@[go_sem] theorem tySl_25 : tySl Tryz.prog 25 = some (161, 3, 40) := by kernel_rfl
@[go_sem] theorem tyZ_25 : tyZ Tryz.prog 25 = some (0, [.slice none 0 0]) := by kernel_rfl
@[go_sem] theorem tyK_26 : tyK Tryz.prog 26 = some (0, 1) := by kernel_rfl
@[go_sem] theorem tySl_26 : tySl Tryz.prog 26 = some (69, 4, 32) := by kernel_rfl
@[go_sem] theorem tyK_27 : tyK Tryz.prog 27 = some (0, 1) := by kernel_rfl
@[go_sem] theorem tySl_27 : tySl Tryz.prog 27 = some (66, 4, 48) := by kernel_rfl
@[go_sem] theorem tyK_29 : tyK Tryz.prog 29 = some (1, 5) := by kernel_rfl
@[go_sem] theorem tyF_29_0 : tyF Tryz.prog 29 0 = some (0, 0, 1) := by kernel_rfl
@[go_sem] theorem tyF_29_1 : tyF Tryz.prog 29 1 = some (1, 0, 1) := by kernel_rfl
@[go_sem] theorem tyF_29_2 : tyF Tryz.prog 29 2 = some (2, 0, 1) := by kernel_rfl
@[go_sem] theorem tyF_29_3 : tyF Tryz.prog 29 3 = some (3, 0, 1) := by kernel_rfl
@[go_sem] theorem tyF_29_4 : tyF Tryz.prog 29 4 = some (4, 0, 1) := by kernel_rfl
@[go_sem] theorem tyB_29 : tyBld Tryz.prog 29 = some ([.slice none 0 0, .slice none 0 0, .slice none 0 0, .slice none 0 0, .int .i64 0], [(0, 1), (1, 1), (2, 1), (3, 1), (4, 1)]) := by kernel_rfl
@[go_sem] theorem tyZ_29 : tyZ Tryz.prog 29 = some (1, [.slice none 0 0, .slice none 0 0, .slice none 0 0, .slice none 0 0, .int .i64 0]) := by kernel_rfl
@[go_sem] theorem tyK_46 : tyK Tryz.prog 46 = some (1, 2) := by kernel_rfl
@[go_sem] theorem tyF_46_0 : tyF Tryz.prog 46 0 = some (0, 0, 1) := by kernel_rfl
@[go_sem] theorem tyF_46_1 : tyF Tryz.prog 46 1 = some (1, 0, 1) := by kernel_rfl
@[go_sem] theorem tyB_46 : tyBld Tryz.prog 46 = some ([.int .i64 0, .int .i64 0], [(0, 1), (1, 1)]) := by kernel_rfl
@[go_sem] theorem tyZ_46 : tyZ Tryz.prog 46 = some (1, [.int .i64 0, .int .i64 0]) := by kernel_rfl
@[go_sem] theorem tyK_47 : tyK Tryz.prog 47 = some (0, 1) := by kernel_rfl
@[go_sem] theorem tySl_47 : tySl Tryz.prog 47 = some (46, 2, 16) := by kernel_rfl
@[go_sem] theorem tyZ_47 : tyZ Tryz.prog 47 = some (0, [.slice none 0 0]) := by kernel_rfl
@[go_sem] theorem tyK_53 : tyK Tryz.prog 53 = some (1, 4) := by kernel_rfl
@[go_sem] theorem tyF_53_0 : tyF Tryz.prog 53 0 = some (0, 0, 1) := by kernel_rfl
@[go_sem] theorem tyF_53_1 : tyF Tryz.prog 53 1 = some (1, 0, 1) := by kernel_rfl
@[go_sem] theorem tyF_53_2 : tyF Tryz.prog 53 2 = some (2, 0, 1) := by kernel_rfl
@[go_sem] theorem tyF_53_3 : tyF Tryz.prog 53 3 = some (3, 0, 1) := by kernel_rfl
@[go_sem] theorem tyB_53 : tyBld Tryz.prog 53 = some ([.slice none 0 0, .slice none 0 0, .slice none 0 0, .slice none 0 0], [(0, 1), (1, 1), (2, 1), (3, 1)]) := by kernel_rfl
@[go_sem] theorem tyZ_53 : tyZ Tryz.prog 53 = some (1, [.slice none 0 0, .slice none 0 0, .slice none 0 0, .slice none 0 0]) := by kernel_rfl
@[go_sem] theorem tyK_63 : tyK Tryz.prog 63 = some (1, 2) := by kernel_rfl
@[go_sem] theorem tyB_63 : tyBld Tryz.prog 63 = some ([.int .i64 0, .int .i64 0], [(0, 1), (1, 1)]) := by kernel_rfl
@[go_sem] theorem tyZ_63 : tyZ Tryz.prog 63 = some (1, [.int .i64 0, .int .i64 0]) := by kernel_rfl
@[go_sem] theorem tyK_64 : tyK Tryz.prog 64 = some (0, 1) := by kernel_rfl
@[go_sem] theorem tySl_64 : tySl Tryz.prog 64 = some (5, 1, 1) := by kernel_rfl
@[go_sem] theorem tyByt_64 : tyByt Tryz.prog 64 = true := by kernel_rfl
@[go_sem] theorem tyK_66 : tyK Tryz.prog 66 = some (1, 4) := by kernel_rfl
@[go_sem] theorem tyF_66_0 : tyF Tryz.prog 66 0 = some (0, 0, 1) := by kernel_rfl
@[go_sem] theorem tyF_66_1 : tyF Tryz.prog 66 1 = some (1, 1, 2) := by kernel_rfl
@[go_sem] theorem tyF_66_2 : tyF Tryz.prog 66 2 = some (3, 0, 1) := by kernel_rfl
@[go_sem] theorem tyB_66 : tyBld Tryz.prog 66 = some ([.int .i64 0, .int .i64 0, .int .i64 0, .slice none 0 0], [(0, 1), (1, 2), (3, 1)]) := by kernel_rfl
@[go_sem] theorem tyZ_66 : tyZ Tryz.prog 66 = some (1, [.int .i64 0, .int .i64 0, .int .i64 0, .slice none 0 0]) := by kernel_rfl
@[go_sem] theorem tyK_69 : tyK Tryz.prog 69 = some (1, 4) := by kernel_rfl
@[go_sem] theorem tyF_69_0 : tyF Tryz.prog 69 0 = some (0, 1, 2) := by kernel_rfl
@[go_sem] theorem tyF_69_1 : tyF Tryz.prog 69 1 = some (2, 0, 1) := by kernel_rfl
@[go_sem] theorem tyF_69_2 : tyF Tryz.prog 69 2 = some (3, 0, 1) := by kernel_rfl
@[go_sem] theorem tyB_69 : tyBld Tryz.prog 69 = some ([.int .i64 0, .int .i64 0, .int .i64 0, .bool false], [(0, 2), (2, 1), (3, 1)]) := by kernel_rfl
@[go_sem] theorem tyZ_69 : tyZ Tryz.prog 69 = some (1, [.int .i64 0, .int .i64 0, .int .i64 0, .bool false]) := by kernel_rfl
@[go_sem] theorem tyInt_77 : tyInt Tryz.prog 77 = some .u64 := by kernel_rfl
@[go_sem] theorem tySl_91 : tySl Tryz.prog 91 = some (3, 1, 8) := by kernel_rfl
@[go_sem] theorem tyK_161 : tyK Tryz.prog 161 = some (1, 3) := by kernel_rfl
@[go_sem] theorem tyF_161_0 : tyF Tryz.prog 161 0 = some (0, 1, 2) := by kernel_rfl
@[go_sem] theorem tyF_161_1 : tyF Tryz.prog 161 1 = some (2, 0, 1) := by kernel_rfl
@[go_sem] theorem tyB_161 : tyBld Tryz.prog 161 = some ([.int .i64 0, .int .i64 0, .slice none 0 0], [(0, 2), (2, 1)]) := by kernel_rfl
@[go_sem] theorem tyZ_161 : tyZ Tryz.prog 161 = some (1, [.int .i64 0, .int .i64 0, .slice none 0 0]) := by kernel_rfl
@[go_sem] theorem tyK_183 : tyK Tryz.prog 183 = some (2, 256) := by kernel_rfl
@[go_sem] theorem tySl_183 : tySl Tryz.prog 183 = none := by kernel_rfl
@[go_sem] theorem tyAr_183 : tyAr Tryz.prog 183 = some (256, 0, 1) := by kernel_rfl
@[go_sem] theorem tyZ_183 : tyZ Tryz.prog 183 = some (2, rep 256 (.bool false)) := by kernel_rfl
@[go_sem] theorem tyMp_188 : tyMp Tryz.prog 188 = some (.i64, .bool false) := by kernel_rfl
@[go_sem] theorem tySl_192 : tySl Tryz.prog 192 = some (24, 1, 24) := by kernel_rfl
@[go_sem] theorem tyK_207 : tyK Tryz.prog 207 = some (0, 1) := by kernel_rfl
@[go_sem] theorem tyZ_207 : tyZ Tryz.prog 207 = some (0, [.nilFunc]) := by kernel_rfl
@[go_sem] theorem tyK_221 : tyK Tryz.prog 221 = some (2, 4) := by kernel_rfl
@[go_sem] theorem tySl_221 : tySl Tryz.prog 221 = none := by kernel_rfl
@[go_sem] theorem tyAr_221 : tyAr Tryz.prog 221 = some (2, 2, 2) := by kernel_rfl
@[go_sem] theorem tyB_221 : tyBld Tryz.prog 221 = some ([.int .i64 0, .int .i64 0, .int .i64 0, .int .i64 0], [(0, 2), (2, 2)]) := by kernel_rfl
@[go_sem] theorem tyZ_221 : tyZ Tryz.prog 221 = some (2, [.int .i64 0, .int .i64 0, .int .i64 0, .int .i64 0]) := by kernel_rfl
@[go_sem] theorem tySl_225 : tySl Tryz.prog 225 = none := by kernel_rfl
@[go_sem] theorem tyAr_225 : tyAr Tryz.prog 225 = some (64, 0, 1) := by kernel_rfl
@[go_sem] theorem tySl_232 : tySl Tryz.prog 232 = some (47, 1, 24) := by kernel_rfl
@[go_sem] theorem tyK_233 : tyK Tryz.prog 233 = some (0, 1) := by kernel_rfl
@[go_sem] theorem tyF_235_0 : tyF Tryz.prog 235 0 = some (0, 2, 64) := by kernel_rfl
@[go_sem] theorem tyF_235_1 : tyF Tryz.prog 235 1 = some (64, 0, 1) := by kernel_rfl
@[go_sem] theorem tyZ_235 : tyZ Tryz.prog 235 = some (1, rep 64 (.int .i64 0) ++ [.int .u64 0]) := by kernel_rfl
@[go_sem] theorem tyK_267 : tyK Tryz.prog 267 = some (0, 1) := by kernel_rfl
def enSt (s : Stamp) : List IV := [.val (.int .i64 s.count), .val (.int .i64 s.node)]
def enSp (s : Span) : List IV := [.val (.int .i64 s.lo), .val (.int .i64 s.hi)]
def enW (y : Write) : List IV := [.val (.int .i64 y.stamp.count), .val (.int .i64 y.stamp.node), .val (.int .i64 y.object), .val (.bool y.gone)]
def stI (l : List Stamp) : IV := .sl 2 (l.map enSt)
def spI (l : List Span) : IV := .sl 2 (l.map enSp)
def wrI (l : List Write) : IV := .sl 4 (l.map enW)
def enN (x : Note) : List IV := [stI x.start, stI x.end_, spI x.blur, wrI x.writes]
def noI (l : List Note) : IV := .sl 4 (l.map enN)
def stA (l : List Stamp) : AV := .iv (stI l)
def spA (l : List Span) : AV := .iv (spI l)
def noteA (x : Note) : AV := .agg [.iv (stI x.start), .iv (stI x.end_), .iv (spI x.blur), .iv (wrI x.writes)]
theorem enSp_eq (s : Span) : enSp s = [.val (.int .i64 s.lo), .val (.int .i64 s.hi)] := rfl
theorem enW_eq (y : Write) : enW y = [.val (.int .i64 y.stamp.count), .val (.int .i64 y.stamp.node), .val (.int .i64 y.object), .val (.bool y.gone)] := rfl
theorem enN_eq (x : Note) : enN x = [stI x.start, stI x.end_, spI x.blur, wrI x.writes] := rfl
section
variable {X : World} {v : Value}
theorem st_rep {cs : List Value} {s : Stamp} (h : StampR cs s) : RepVs X cs (enSt s) := by
 obtain ⟨rfl, h1, h2⟩ := h; exact ⟨.val h1, .val h2, trivial⟩
theorem rep_st {cs : List Value} {s : Stamp} (h : RepVs X cs (enSt s)) : StampR cs s := by
 match cs, h with
 | [a, b], ⟨h1, h2, _⟩ => cases h1 with | val i1 => cases h2 with | val i2 => exact ⟨rfl, i1, i2⟩
theorem sp_rep {cs : List Value} {s : Span} (h : SpanR cs s) : RepVs X cs (enSp s) := by
 obtain ⟨rfl, h1, h2⟩ := h; exact ⟨.val h1, .val h2, trivial⟩
theorem rep_sp {cs : List Value} {s : Span} (h : RepVs X cs (enSp s)) : SpanR cs s := by
 match cs, h with
 | [a, b], ⟨h1, h2, _⟩ => cases h1 with | val i1 => cases h2 with | val i2 => exact ⟨rfl, i1, i2⟩
theorem w_rep {cs : List Value} {s : Write} (h : WriteR cs s) : RepVs X cs (enW s) := by
 obtain ⟨rfl, h1, h2, h3⟩ := h; exact ⟨.val h1, .val h2, .val h3, .val trivial, trivial⟩
theorem rep_w {cs : List Value} {s : Write} (h : RepVs X cs (enW s)) : WriteR cs s := by
 match cs, h with
 | [a, b, c, d], ⟨h1, h2, h3, h4, _⟩ => cases h1 with | val i1 => cases h2 with | val i2 => cases h3 with | val i3 => cases h4 with | val i4 => exact ⟨rfl, i1, i2, i3⟩
theorem RepV.stamps {l : List Stamp} (h : RepV X v (stI l)) : Stamps X X.heap.size v l := h.to_typed fun _ _ _ h => rep_st h
theorem RepV.spans {l : List Span} (h : RepV X v (spI l)) : Spans X X.heap.size v l := h.to_typed fun _ _ _ h => rep_sp h
theorem RepV.writes {l : List Write} (h : RepV X v (wrI l)) : Writes X X.heap.size v l := h.to_typed fun _ _ _ h => rep_w h
theorem stamps_rep {l : List Stamp} {B : Nat} (h : Stamps X B v l) (hB : B ≤ X.heap.size) : RepV X v (stI l) := RepV.of_typed (fun _ _ h => st_rep h) h hB
theorem writes_rep {l : List Write} {B : Nat} (h : Writes X B v l) (hB : B ≤ X.heap.size) : RepV X v (wrI l) := RepV.of_typed (fun _ _ h => w_rep h) h hB
theorem rep_note {E : Env} {w : World} (he : Ext X w) {x : Note} (h : RepA E X v (noteA x)) : ∃ v0 v1 v2 v3, v = .agg #[v0, v1, v2, v3] ∧ NoteV w w.heap.size v0 v1 v2 v3 x := by
 cases h with
 | @agg vs _ h1 h2 =>
  obtain ⟨l⟩ := vs
  match l, h1 with
  | [v0, v1, v2, v3], _ =>
   have a0 := h2 0 v0 _ rfl rfl
   have a1 := h2 1 v1 _ rfl rfl
   have a2 := h2 2 v2 _ rfl rfl
   have a3 := h2 3 v3 _ rfl rfl
   cases a0 with | iv a0 => cases a1 with | iv a1 => cases a2 with | iv a2 => cases a3 with | iv a3 =>
   exact ⟨v0, v1, v2, v3, rfl, a0.stamps.ext (fun _ _ h => h) he, a1.stamps.ext (fun _ _ h => h) he, a2.spans.ext (fun _ _ h => h) he, a3.writes.ext (fun _ _ h => h) he⟩
theorem Chunks.map_ {α β : Type} {R : List Value → α → Prop} {R' : List Value → β → Prop} {f : α → β} {k : Nat} (hR : ∀ cs x, R cs x → R' cs (f x)) : ∀ {xs : List Value} {l : List α}, Chunks R k xs l → Chunks R' k xs (l.map f)
 | _, [], h => h
 | _, _ :: _, ⟨cs, rest, e, hk, h1, h⟩ => ⟨cs, rest, e, hk, hR _ _ h1, Chunks.map_ hR h⟩
theorem OwnSl.map_ {α β : Type} {R : List Value → α → Prop} {R' : List Value → β → Prop} {f : α → β} {k : Nat} {w : World} {base : Nat} {e : TypeId} {l : List α} (hR : ∀ cs x, R cs x → R' cs (f x)) (h : OwnSl R k w base e v l) : OwnSl R' k w base e v (l.map f) := by
 obtain ⟨xs, h1, h2, h3⟩ := h
 exact ⟨xs, by rw [List.length_map]; exact h1, h2.map_ hR, by rw [List.length_map]; exact h3⟩
end
section
variable {P : Program} {G : World → Prop} {f : FuncId} {fn : Func} {c : Code}
theorem enters_f (hf : P.funcs[f]? = some fn) (hb : fn.body = some c) (hname : (fn.name == "runtime.NumGoroutine") = false) (vs : Array Value) (w : World) : (callFunc f vs).run P w = .ok (.enter f vs) w := by
 have hname' : ¬ fn.name = "runtime.NumGoroutine" := by simpa using hname
 simp [callFunc, program, Sem.run, hf, hname', hb]
theorem bridge {args : List AV} {r : AV} (hf : P.funcs[f]? = some fn) (hb : fn.body = some c) (hname : (fn.name == "runtime.NumGoroutine") = false)
  (h : ∀ (V w : World) (E : Env) (vs : Array Value), Ext V w → G w → RepAs E V vs.toList args → Calls P f vs w fun e w' => ∃ v, e = .returned v ∧ Below w.heap.size w w' ∧ RepA E (vis V w w' []) v r) : ACalls P G f args r [] :=
 ⟨enters_f hf hb hname, fun V w E vs hV hG hr => (h V w E vs hV hG hr).mono fun _ w' ⟨v, he, hb, hv⟩ => ⟨v, E, he, hb, List.nodup_nil, fun _ h => (by cases h), fun _ h => (by cases h), hv⟩⟩
theorem args1 {E : Env} {V : World} {vs : Array Value} {a : AV} (h : RepAs E V vs.toList [a]) : ∃ v, vs = #[v] ∧ RepA E V v a := by
 obtain ⟨v, vs', h1, h2, h3⟩ := RepAs.cons_iff.1 h
 rw [RepAs.nil_iff] at h3
 subst h3
 exact ⟨v, by rw [← Array.toArray_toList (xs := vs), h1], h2⟩
theorem args2 {E : Env} {V : World} {vs : Array Value} {a b : AV} (h : RepAs E V vs.toList [a, b]) : ∃ v u, vs = #[v, u] ∧ RepA E V v a ∧ RepA E V u b := by
 obtain ⟨v, vs', h1, h2, h3⟩ := RepAs.cons_iff.1 h
 obtain ⟨u, vs2, rfl, h4, h5⟩ := RepAs.cons_iff.1 h3
 rw [RepAs.nil_iff] at h5
 subst h5
 exact ⟨v, u, by rw [← Array.toArray_toList (xs := vs), h1], h2, h4⟩
theorem iv_stamps {E : Env} {V w : World} {v : Value} {l : List Stamp} (hV : Ext V w) (h : RepA E V v (.iv (stI l))) : Stamps w w.heap.size v l := by
 cases h with | iv h => exact h.stamps.ext (fun _ _ h => h) hV
theorem iv_spans {E : Env} {V w : World} {v : Value} {l : List Span} (hV : Ext V w) (h : RepA E V v (.iv (spI l))) : Spans w w.heap.size v l := by
 cases h with | iv h => exact h.spans.ext (fun _ _ h => h) hV
theorem iv_writes {E : Env} {V w : World} {v : Value} {l : List Write} (hV : Ext V w) (h : RepA E V v (.iv (wrI l))) : Writes w w.heap.size v l := by
 cases h with | iv h => exact h.writes.ext (fun _ _ h => h) hV
theorem bridge_val {args : List AV} {v : Value} (hf : P.funcs[f]? = some fn) (hb : fn.body = some c) (hname : (fn.name == "runtime.NumGoroutine") = false)
  (h : ∀ (V w : World) (E : Env) (vs : Array Value), Ext V w → G w → RepAs E V vs.toList args → Calls P f vs w fun e w' => e = .returned v ∧ Below w.heap.size w w') : ACalls P G f args (.val v) [] :=
 ⟨enters_f hf hb hname, fun V w E vs hV hG hr => (h V w E vs hV hG hr).mono fun _ w' ⟨he, hb⟩ => ⟨v, E, he, hb, List.nodup_nil, fun _ h => (by cases h), fun _ h => (by cases h), .val⟩⟩
theorem bridge_own {α : Type} {R : List Value → α → Prop} {enc : α → List IV} {k T : Nat} {l : List α} (hR : ∀ X cs x, R cs x → RepVs X cs (enc x)) {args : List AV} (hf : P.funcs[f]? = some fn) (hb : fn.body = some c) (hname : (fn.name == "runtime.NumGoroutine") = false)
  (h : ∀ (V w : World) (E : Env) (vs : Array Value), Ext V w → G w → RepAs E V vs.toList args → Calls P f vs w fun e w' => (∃ v, e = .returned v ∧ OwnSl R k w' w.heap.size T v l) ∧ Below w.heap.size w w') : ACalls P G f args (.own 0) [.row 0 T k (l.map enc)] :=
 ⟨enters_f hf hb hname, fun V w E vs hV hG hr => (h V w E vs hV hG hr).mono fun _ w' ⟨⟨v, he, hO⟩, hb⟩ => by
  obtain ⟨A, cc, hv⟩ := hO.form
  have ho : owns ⟨fun _ => (v.ownBlock).getD 0, fun _ => v⟩ [.row 0 T k (l.map enc)] = v.ownBlock.toList := by simp [owns, BA.owned]
  refine ⟨v, ⟨fun _ => (v.ownBlock).getD 0, fun _ => v⟩, he, hb, by rw [ho]; cases v.ownBlock <;> simp, fun g hg => by rw [ho, Option.mem_toList] at hg; exact (hO.lt g hg).1, fun b hb' => ?_, ?_⟩
  ·simp only [List.mem_singleton] at hb'
   subst hb'
   exact ⟨hO.map_ fun cs x h => hR _ cs x h, fun g hg => by simp [hg]⟩
  ·rw [hv]
   exact .own rfl⟩
end
end Go.Proofs.YtaiekfeiaamemaaGreatDoor
