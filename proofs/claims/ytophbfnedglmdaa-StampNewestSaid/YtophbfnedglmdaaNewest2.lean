/- The law StampNewest: the newest of any stamps is the reference's, and the list stays. -/
import Derived.Test.YtophbfnedglmdaaNewest
import Derived.Test.YtophbfnedglmdaaOwn
namespace Go.Proofs.Ytophbfnedglmdaa
open Go.ChangeShapes Go.WideShapes Go.ChangeAt Go.RowKit

theorem stampR_one : ∀ cs x, StampR cs x → ∀ u ∈ cs, u.oneCell' = true := by
  rintro cs x ⟨rfl, _⟩ u hu
  simp at hu
  rcases hu with rfl | rfl <;> rfl
theorem infoStamp : (Try.prog.info? 23).map (fun i => (i.zero, i.size, i.bytes)) = some (some (.agg #[.int .i64 0, .int .i64 0]), 2, 16) := by kernel_rfl
theorem ownEmpty (w : World) (e : TypeId) : OwnSl StampR 2 (w.alloc (.cells #[] e)) w.heap.size e (.slice (some ⟨w.heap.size, 0, none⟩) 0 0) [] :=
  ⟨[], ⟨rfl, .inr ⟨_, 0, #[], rfl, Nat.le_refl _, heap_alloc_new w _, Nat.le_refl _, Nat.zero_le _, rfl, rfl⟩⟩, rfl⟩

theorem lawNewest (l : List Stamp) (v : Value) (w : World) (h : Stamps w w.heap.size v l) (hsz : l.length * 16 ≤ 140737488355328) :
    Calls Try.prog 5 #[v] w fun e w' => e = .returned (.bool true) ∧ Below w.heap.size w w' := by
  have hle := h.len_le
  obtain ⟨i0, hi, hz0, hz1, hz2⟩ := info_parts infoStamp
  have hcN1 : ∀ u v', Stamps u u.heap.size v' l → Calls Try.prog 13 #[v'] u fun e w' => e = .returned (.tuple #[.agg #[.int .i64 (newestOf l).count, .int .i64 (newestOf l).node], .bool (decide (0 < l.length))]) ∧ Below u.heap.size u w' := fun u v' hu => stampNewest l v' u hu
  have hcN2 : ∀ u v', Stamps u u.heap.size v' l → Calls Try.prog 14 #[v'] u fun e w' => e = .returned (.tuple #[.agg #[.int .i64 (newestOf l).count, .int .i64 (newestOf l).node], .bool (decide (0 < l.length))]) ∧ Below u.heap.size u w' := fun u v' hu => refNewest l v' u hu
  generalize newestOf l = N at hcN1 hcN2
  generalize decide (0 < l.length) = any at hcN1 hcN2
  obtain ⟨nc, nn⟩ := N
  have HN1 := Lib.hid hcN1
  have HN2 := Lib.hid hcN2
  clear hcN1 hcN2
  obtain ⟨A, c, rfl, _⟩ := id h
  go_enter Try.func5, Try.ntmps5
  go_wp2_with (at_builtin; refine wpList_append_sl _ stampR_one rfl (.tmp 11) (.tmp 12) 31 rfl w.heap.size 23 i0 _ 16 Try.underlying31 hi hz0 hz1 hz2 rfl (by omega) _ [] rfl (ownEmpty w _) w.heap.size _ l rfl (h.keep (fun _ _ h => h) (Nat.le_refl _) (fun p hp => World.cell?_alloc_lt _ _ _ hp)) (by simp only [List.length_nil, maxLen]; omega) (by simp only [List.length_nil]; omega) (by simp) ?_; intro v1 w1 hown hgr hat)
  simp only [List.nil_append] at hown
  obtain ⟨A1, c1, rfl⟩ := hown.form
  have hb1 : Below w.heap.size w w1 := (balloc (Below.refl _ _)).grown hgr (by simp) (fun k hk => Nat.le_of_eq (Option.some.inj hk))
  have hs1 := hown.sl
  have hs0 := h.next hb1
  clear hgr hat hown h hi hz0 hz1 hz2
  refine (HN1.out w1 _ hs1).mono ?_
  rintro e w2 ⟨rfl, hb2⟩
  have h2 := bnext hb1 hb2
  replace hs1 := (hs1.next hb2)
  replace hs0 := (hs0.next hb2)
  clear hb2 hb1
  go_wp2_with fail
  have B1 : Blk (w2.alloc (.cells #[.int .i64 nc, .int .i64 nn] 23)) w2.heap.size 23 #[.int .i64 nc, .int .i64 nn] := Blk.new _ _ _
  replace hs1 := hs1.next (balloc (o := .cells #[.int .i64 nc, .int .i64 nn] 23) (Below.refl _ _))
  replace hs0 := hs0.next (balloc (o := .cells #[.int .i64 nc, .int .i64 nn] 23) (Below.refl _ _))
  refine (HN2.out _ _ hs0).mono ?_
  rintro e w3 ⟨rfl, hb3⟩
  have B1 := B1.next hb3
  replace hs1 := hs1.next hb3
  replace hs0 := hs0.next hb3
  have h3 := bnext (balloc h2) hb3
  clear hb3 h2 HN2
  have lt1 := B1.lt
  go_wp2_with fail
  replace hs1 := hs1.next (balloc (o := .cells #[.int .i64 nc, .int .i64 nn] 23) (Below.refl _ _))
  replace hs0 := hs0.next (balloc (o := .cells #[.int .i64 nc, .int .i64 nn] 23) (Below.refl _ _))
  have B2 : Blk (w3.alloc (.cells #[.int .i64 nc, .int .i64 nn] 23)) w3.heap.size 23 #[.int .i64 nc, .int .i64 nn] := Blk.new _ _ _
  replace B1 := B1.alloc (o := .cells #[.int .i64 nc, .int .i64 nn] 23)
  have h4 := balloc (o := .cells #[.int .i64 nc, .int .i64 nn] 23) h3
  clear h3 lt1
  generalize hW : w3.alloc (.cells #[.int .i64 nc, .int .i64 nn] 23) = W at *
  generalize w3.heap.size = g2 at *
  clear hW
  go_loopw [8] (fun k wr => ∃ m : Nat, m ≤ l.length ∧ k = .int .i64 m ∧ Below W.heap.size W wr) (fun k _ => l.length - (intOf k).toNat)
  case atStart => exact ⟨0, Nat.zero_le _, rfl, Below.refl _ _⟩
  case round =>
    obtain ⟨m, hm, rfl, hb⟩ := hrel
    replace hs1 := hs1.next hb
    replace hs0 := hs0.next hb
    replace B1 := B1.next hb
    have B2 := B2.next hb
    have hw := bnext h4 hb
    by_cases hlt : m < l.length
    · obtain ⟨x, hx⟩ : ∃ x, l[m]? = some x := ⟨l[m], List.getElem?_eq_getElem hlt⟩
      obtain ⟨b, off, c', hv, hbb, e0, e1, _, _⟩ := stamps_at hs0 hx
      obtain ⟨b', off', c'', hv', hbb', e0', e1', _, _⟩ := stamps_at hs1 hx
      injection hv with hv1 hv2 hv3
      injection hv' with hv1' hv2' hv3'
      subst hv1 hv1'
      clear hs0 hs1 hv2 hv3 hv2' hv3' hx h4
      obtain ⟨xc, xn⟩ := x
      simp only at e0 e1 e0' e1'
      go_wp2_with fail
      go_quiet (fail)
      go_wp2_with fail
      exact ⟨⟨m + 1, by omega, by go_num, bdrewN hb _⟩, by simp [intOf]; omega⟩
    · clear h4
      have b0 := B1.cell 0
      have b1 := B1.cell 1
      have d0 := B2.cell 0
      have d1 := B2.cell 1
      have l1 := B1.lt
      have l2 := B2.lt
      simp only [List.getElem?_toArray, List.getElem?_cons_zero, List.getElem?_cons_succ] at b0 b1 d0 d1
      go_wp2_with fail
      have hB3 : Blk (wr.alloc (.cells #[.int .i64 1, .int .i64 0, .int .i64 1, .int .i64 4] 23)) wr.heap.size 23 #[.int .i64 1, .int .i64 0, .int .i64 1, .int .i64 4] := Blk.new _ _ _
      have hs3 := (OwnSl.of_blk (R := StampR) (k := 2) (l := [⟨1, 0⟩, ⟨1, 4⟩]) hB3 ⟨[.int .i64 1, .int .i64 0], [.int .i64 1, .int .i64 4], rfl, rfl, ⟨rfl, rfl, rfl⟩, Chunks.one rfl ⟨rfl, rfl, rfl⟩⟩ (by unfold maxLen; simp)).sl
      refine (stampNewest [⟨1, 0⟩, ⟨1, 4⟩] _ _ hs3).mono ?_
      rintro e w5 ⟨he, hb5⟩
      rw [show newestOf [⟨1, 0⟩, ⟨1, 4⟩] = ⟨1, 4⟩ from rfl] at he
      subst he
      have q0 := kept_cell hb5 ((World.cell?_alloc_lt _ _ _ l1).trans b0)
      have q1 := kept_cell hb5 ((World.cell?_alloc_lt _ _ _ l1).trans b1)
      have r0 := kept_cell hb5 ((World.cell?_alloc_lt _ _ _ l2).trans d0)
      have r1 := kept_cell hb5 ((World.cell?_alloc_lt _ _ _ l2).trans d1)
      have k1 := World.block_lt_of_cell? _ _ q0
      have k2 := World.block_lt_of_cell? _ _ r0
      have h5 := bnext (balloc hw) hb5
      clear b0 b1 d0 d1 l1 l2 hb5 hB3 hs3 B1 B2 hs0 hs1 hw hb
      go_wp2_with fail
      go_ret
      exact ⟨rfl, balloc h5⟩

namespace newest
set_option maxRecDepth 100000 in
theorem lifted (os : Os) (started : os.Started) (H : Type) (enc : TypeId × Value → H) :
    ReturnsInHanded {} Try.checked os 5 .any (Rows.stampNewestSpec.pre6 enc Try.prog Try.f5 Rows.stampNewestRow.domain false) (Rows.stampNewestSpec.post enc Try.prog Try.f5 false true false false) := by
  refine returnsInHanded_of_change_sized (C := Try.checked) own started (by kernel_rfl) Try.func5
    (ChangeSpec.witness6 (enc := enc) (C := Try.checked) false ⟨#[], #[.slice none 0 0], []⟩ 8 (by kernel_rfl) (by kernel_rfl) (by kernel_rfl) (by kernel_rfl)) ?_
  intro W base args ds gs before hval0 hW hcnd hreach _
  have hW' := hW
  have hval : ∀ (j : Nat) t v, Try.f5.params[j]? = some t → args[j]? = some v → Value.okWide Try.prog W .any base t v := hval0
  obtain ⟨p, q, hA0, hV, rfl, hfz, hnd⟩ := hW
  have hA : DataW.TrodAll enc Try.prog W 0 (fun _ => true) true Try.f5.params.toList args.toList ds p := hA0
  rw [Try.params5] at hA hval
  obtain ⟨v0, vs0, d0, ds0, p0, q0, hargs, rfl, rfl, h0, r0⟩ := trodAll_cons hA
  obtain ⟨rfl, rfl, rfl⟩ := trodAll_nil r0
  obtain rfl : args = #[v0] := by cases args; simp_all
  obtain ⟨rfl, rfl⟩ := trodVars_none hV
  clear hA0 hval0
  obtain ⟨a0, len0, cap0, rfl⟩ := okWide_slice Try.underlying31 (hval 0 _ v0 rfl rfl)
  obtain ⟨n, hn⟩ := h0
  obtain ⟨_, l, v, hv, hl⟩ := opens_stamps (w := W) H enc n _ _ hn
  simp only [Value.cells, List.cons.injEq, and_true] at hv
  subst hv
  have hlen : l.length * 16 ≤ 140737488355328 := by
    obtain ⟨A, c, h2, _⟩ := id hl
    injection h2 with _ h3 _
    rcases Deep.open_slice Try.underlying31 hn with ⟨h1, _⟩ | ⟨a, len, cap, m, n', D, Pl, h1, _, _, _, _, hx, _⟩
    · simp only [Value.cells, List.cons.injEq, and_true] at h1
      injection h1 with _ h1 _
      omega
    · simp only [Value.cells, List.cons.injEq, and_true] at h1
      injection h1 with _ h1 _
      simp only [Prod.mk.injEq] at hx
      have := sized_slice (j := 0) hreach rfl (by rw [hx.1]; rfl) Try.underlying31
      rw [show Try.checked.prog.bytesOf 23 = 16 by kernel_rfl] at this
      simp only [List.length_map, List.length_range] at this
      have hr := reachBytes_lt
      omega
  have hlaw := lawNewest l _ W hl hlen
  refine hlaw.mono fun e W' ⟨he, hb⟩ => ?_
  subst he
  exact ⟨_, rfl, law_post laidOut (by kernel_rfl) (by kernel_rfl) Try.underlying4 rfl rfl rfl rfl hW' hb⟩

theorem proved : Rows.StampNewestSaid :=
  OpenClaim.holds_of_wide 5 Try.f5 rfl rfl rfl rfl rfl rfl rfl ⟨rfl, rfl, rfl, rfl, rfl⟩ rfl rfl rfl rfl rfl (by kernel_rfl) Try.func5 (by kernel_rfl)
    (of_decide_eq_true (by kernel_rfl)) (by unfold Func.isWrapper; first | (rw [if_pos (by decide +kernel)]; kernel_rfl) | (rw [if_neg (by decide +kernel)]; exact ⟨rfl, rfl⟩))
    (fun os started H enc _ => lifted os started H enc)
#print axioms proved
end newest
end Go.Proofs.Ytophbfnedglmdaa
