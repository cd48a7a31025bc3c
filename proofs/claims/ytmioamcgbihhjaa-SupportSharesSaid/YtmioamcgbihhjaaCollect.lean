/- The contracts of the collection of what an iterator gives, and of the points of a tree. -/
import Derived.Test.YtmioamcgbihhjaaWalk
import Derived.Test.YtmioamcgbihhjaaFxm
namespace Go.Proofs.Ytmioamcgbihhjaa
open Go.RowKit Go.Shelf Go.Maps

attribute [local go_sem] Oper.semAt_some

theorem info_str : (Try.prog.info? 9).map (fun i => (i.zero, i.size, i.bytes)) = some (some (.string ByteArray.empty), 1, 16) := by kernel_rfl

/-- An iterator over texts. -/
def Gives (gf : Nat) (lb : Array Value) (n₀ : Nat) (xs : List Txt) (w : World) : Prop :=
  ∀ m, SeqStopsK Fence.wide m Try.prog gf lb (fun x : Txt => #[Value.string x.1]) (Below n₀) (fun ys => ys = xs) (fun pre => pre <+: xs) xs.length w

set_option maxRecDepth 100000 in
set_option maxHeartbeats 4000000 in
theorem appendSeq_any (gf : Nat) (lb : Array Value) (eg : ∀ args w, (callFunc gf args).run Try.prog w = .ok (.enter gf args) w) (xs : List Txt) (hlen : xs.length ≤ 1000000) (w : World) (hseq : Gives gf lb w.heap.size xs w) :
    CallsIn Fence.wide 10 Try.prog 132 #[.slice none 0 0, .func (.func gf) #[] lb] w fun e W' => ∃ v, e = .returned v ∧ W'.ownsRow w.heap.size 9 1 v xs.length (xs.map encT) ∧ Below w.heap.size w W' := by
  obtain ⟨i0, hi, hz0, hz1, hz2⟩ := info_parts info_str
  refine callsIn_of_wp_marks Try.func132 rfl trivial ?_ rfl
  simp only [Try.ntmps132, List.size_toArray, List.length_cons, List.length_nil, Nat.reduceAdd, Nat.reduceSub, Array.replicate_succ, Array.replicate_zero, List.push_toArray, List.append_toArray, List.nil_append, List.cons_append]
  gi_wp2
  have bO := Boxed.new w 87 (.slice none 0 0)
  have hB0 : Below w.heap.size w (w.alloc (.cells #[.slice none 0 0] 87)) := (Below.refl _ w).alloc (Nat.le_refl _) _
  refine wpIn_rangeFunc_ownG rfl (by decide) (gf := gf) (lb := lb) rfl trivial eg
    (hseq 9) belowK_t (belowK_b (by simp)) hB0 (fun _ => rfl)
    (fun (pre : List Txt) W => (∃ v, Boxed W w.heap.size 87 v ∧ W.ownsRow w.heap.size 9 1 v pre.length (pre.map encT) ∧ True) ∧ Below w.heap.size w W)
    (fun _ _ _ => False)
    (OwnFrom.and (Own.from (holdsRow_own w.heap.size w.heap.size 87 9 1 (fun (pre : List Txt) => pre.length) (fun (pre : List Txt) => pre.map encT) (fun _ _ => True)) _) (ownFrom_below (Nat.le_refl _) (by simp)))
    (fun _ _ _ _ _ hs _ _ => hs)
    ⟨⟨_, bO, World.ownsRow_nil _ _ _ _, trivial⟩, hB0⟩
    (fun x => { tmps := #[.slice none 0 0, .func (.func gf) #[] lb, .pointer (some ⟨w.heap.size, 0, none⟩), undef, .slice none 0 0, .string x.1, .func (.func gf) #[] lb, .string x.1, undef, undef, undef, undef, undef], defers := [] }) ?assign ?body ?done ?stop
  case assign =>
    intro l x W K hK
    gi_wp2
    exact hK
  case body =>
    rintro l pre x W ⟨⟨v, hv, hrow, -⟩, hB⟩ hlt
    have hc := hv.cell
    gi_wp2_with (gi_at_builtin; refine wpListIn_append_own _ rfl _ _ 87 rfl w.heap.size 9 i0 (.string ByteArray.empty) 1 16 Try.underlying87 hi hz0 hz1 hz2 rfl (by decide) _ _ _ rfl (hrow.alloc _) ⟨W.heap.size, 0, none⟩ 1 1 [encT x] rfl rfl (cell_one_new _ _ _) (by simp [encT, Value.oneCell']) (by unfold maxLen; omega) (by omega) (by have := hB.size; simp; omega) ?_; intro v' w1 hown' hgrow _; obtain ⟨g', cap', rfl⟩ := ownsRow_succ hown'; obtain ⟨hv1, hv2, hr2, hk2, hb2⟩ := hv.appended (by decide) hrow hB.size (Nat.le_refl _) hown' hgrow; have hc1 := hv1.cell; have hf1 := hv1.frozen)
    exact ⟨hk2.from _, hb2, ⟨_, hv2, by simpa using hr2, trivial⟩, hB.trans hb2⟩
  case done =>
    rintro D ys W hD rfl ⟨⟨v, hv, hrow, -⟩, hB⟩ hK
    have hc := hv.cell
    gi_wp2
    refine ⟨by simp, .inl ⟨_, _, rfl, run_takeDeferred hK, ?_⟩⟩
    exact ⟨_, results_tmp rfl _ _ _, v, rfl, ownsRow_putObj hrow _ hK rfl, hB.trans (belowK_b (w := w) (Nat.le_refl _) W D _ _ (by simp at hD; omega) hK rfl rfl)⟩
  case stop =>
    rintro D c pre W _ _ h _
    exact h.elim

theorem collect_any (gf : Nat) (lb : Array Value) (eg : ∀ args w, (callFunc gf args).run Try.prog w = .ok (.enter gf args) w) (xs : List Txt) (hlen : xs.length ≤ 1000000) (w : World) (hseq : Gives gf lb w.heap.size xs w) :
    Calls Try.prog 122 #[.func (.func gf) #[] lb] w fun e W' => ∃ v, e = .returned v ∧ W'.ownsRow w.heap.size 9 1 v xs.length (xs.map encT) ∧ Below w.heap.size w W' := by
  have ha := callsIn_wide.1 (appendSeq_any gf lb eg xs hlen w hseq)
  clear hseq
  go_enter Try.func122, Try.ntmps122
  go_wp2_with fail
  refine ha.mono ?_
  rintro e w1 ⟨v, rfl, h1, h2⟩
  go_wp2
  go_ret
  exact ⟨_, rfl, h1, h2⟩

end Go.Proofs.Ytmioamcgbihhjaa
