/- Other pictures of one memory: rights to append for slices that are nil, and cells that are told in another way. -/
import Derived.Test.YtjiccnebfbpcgaaGreatDoorQAl27
set_option linter.unusedSimpArgs false
set_option linter.unusedVariables false
set_option linter.unusedSectionVars false
namespace Go.AL
theorem Weaker.heap {n0 n : Nat} {t : ATab} {d : List ADef} {h h' : AHeap} (hl : n0 ≤ h.length → n0 ≤ h'.length) (H : ∀ C w, HRel C h w → HRel C h' w) : Weaker n0 ⟨n, t, d, h⟩ ⟨n, t, d, h'⟩ :=
  fun C _ w hs hn => ⟨C, .refl _ _, ⟨hs.t, hs.d, H C w hs.h⟩, hl hn⟩
theorem Weaker.tabV {n0 n : Nat} {t t' : ATab} {d : List ADef} {h : AHeap} (H : ∀ C i rv, VRel C (t.get i) rv → VRel C (t'.get i) rv) : Weaker n0 ⟨n, t, d, h⟩ ⟨n, t', d, h⟩ :=
  fun C _ _ hs hn => ⟨C, .refl _ _, ⟨⟨hs.t.size, fun i => H C i _ (hs.t.val i)⟩, hs.d, hs.h⟩, hn⟩
theorem HRel.newToks {C : Ctx} {h : AHeap} {w : World} (hr : HRel C h w) (esz : Nat) : ∀ k, HRel C (h ++ List.replicate k (some (.tok esz 0))) w
  | 0 => by rw [List.replicate_zero, List.append_nil]; exact hr
  | k + 1 => by rw [List.replicate_succ', ← List.append_assoc]; exact (HRel.newToks hr esz k).newTok esz
theorem HRel.retell {C : Ctx} {h : AHeap} {w : World} (hr : HRel C h w) {a : Nat} {es es' : List (List AVal)} (ha : hget h a = some (.rows es)) (hl : es.length = es'.length)
    (hv : ∀ (i : Nat) x y, es[i]? = some x → es'[i]? = some y → x.length = y.length ∧ ∀ (j : Nat) u v, x[j]? = some u → y[j]? = some v → ∀ rv, VRel C u rv → VRel C v rv) : HRel C (h.set a (some (.rows es'))) w := by
  have sp : ∀ b o, hget (h.set a (some (.rows es'))) b = some o → (b = a ∧ o = .rows es') ∨ hget h b = some o := by
    intro b o e
    rcases hget_set e with ⟨e1, e2⟩ | ⟨_, e2⟩
    · cases e2; exact .inl ⟨e1, rfl⟩
    · exact .inr e2
  have sp2 : ∀ b o L, hget (h.set a (some (.rows es'))) b = some o → locOf C b o = some L → ∃ o0, hget h b = some o0 ∧ locOf C b o0 = some L ∧ liveFrom L o0 = liveFrom L o ∧ ∀ r, ORel C L o0 r → ORel C L o r := by
    intro b o L e hL
    rcases sp b o e with ⟨rfl, rfl⟩ | e
    · refine ⟨_, ha, hL, rfl, ?_⟩
      rintro r ⟨c, rfl, hrow⟩
      refine ⟨c, rfl, hrow.size, fun i y hy => ?_, by rw [← hl]; exact hrow.room, fun i j y v hy hj => ?_⟩
      · obtain ⟨x, hx⟩ : ∃ x, es[i]? = some x := ⟨_, List.getElem?_eq_getElem (by rw [hl]; exact (List.getElem?_eq_some_iff.1 hy).1)⟩
        rw [← (hv i x y hx hy).1]; exact hrow.len i x hx
      · obtain ⟨x, hx⟩ : ∃ x, es[i]? = some x := ⟨_, List.getElem?_eq_getElem (by rw [hl]; exact (List.getElem?_eq_some_iff.1 hy).1)⟩
        obtain ⟨l1, l2⟩ := hv i x y hx hy
        obtain ⟨u, hu⟩ : ∃ u, x[j]? = some u := ⟨_, List.getElem?_eq_getElem (by rw [l1]; exact (List.getElem?_eq_some_iff.1 hj).1)⟩
        obtain ⟨rv, r1, r2, r3⟩ := hrow.cell i j x u hx hu
        exact ⟨rv, r1, l2 j u v hu hj rv r2, r3⟩
    · exact ⟨o, e, hL, rfl, fun _ h => h⟩
  refine ⟨hr.cells, hr.frozen, fun b o L e hL => ?_, fun b b' o o' L L' e e' hL hL' hb => ?_, by rw [List.length_set]; exact hr.fresh, hr.there, hr.thereτ, fun b e n he => ?_, hr.io⟩
  · obtain ⟨o0, h0, hl0, hf, ho⟩ := sp2 b o L e hL
    obtain ⟨l1, l2, r, l3, l4⟩ := hr.live b o0 L h0 hl0
    exact ⟨l1, fun q hq => l2 q (by rw [hf]; exact hq), r, l3, ho r l4⟩
  · obtain ⟨o0, h0, hl0, _, _⟩ := sp2 b o L e hL
    obtain ⟨o0', h0', hl0', _, _⟩ := sp2 b' o' L' e' hL'
    exact hr.inj b b' o0 o0' L L' h0 h0' hl0 hl0' hb
  · rcases sp b _ he with ⟨_, e2⟩ | e2
    · cases e2
    · exact hr.top b e n e2
theorem VRel.gs_nil {C : Ctx} {rv : Value} (tok esz : Nat) (h : VRel C (.lit (.slice none 0 0)) rv) : VRel C (.gs tok esz []) rv := by
  cases h; exact .gnil tok esz
theorem VRel.gs_slice {C : Ctx} {rv : Value} {tok esz : Nat} {e : List AVal} {es : List (List AVal)} (h : VRel C (.gs tok esz (e :: es)) rv) : VRel C (.fslice (e :: es)) rv := by
  cases h with
  | gs _ _ _ L rcap rc hne ht hesz hlen hroom hsz hc h => exact .fslice _ L.b L.base L.esz rcap rc hlen hsz hc h
theorem VRel.gs_none {C : Ctx} {rv : Value} {tok esz : Nat} (h : VRel C (.gs tok esz []) rv) : VRel C (.lit (.slice none 0 0)) rv := by
  cases h with
  | gs _ _ _ L rcap rc hne => exact absurd rfl hne
  | gnil => exact .lit _
theorem VRel.uncap {C : Ctx} {rv : Value} {a esz i n : Nat} {c : Option Nat} (h : VRel C (.slice a esz i n c) rv) : VRel C (.slice a esz i n none) rv := by
  cases h with
  | slice _ _ _ _ _ rcap L ha hesz hcap hlen hroom => exact .slice a esz i n none rcap L ha hesz (fun c e => by cases e) hlen hroom
theorem hget_hset_ne {h : AHeap} {a b : Nat} {o : AObj} (e : a ≠ b) : hget (hset h a o) b = hget h b := hget_set_ne e _
theorem hget_hset_same {h : AHeap} {a : Nat} {o : AObj} (e : a < h.length) : hget (hset h a o) a = some o := hget_set_same e _
theorem hset_length {h : AHeap} {a : Nat} {o : AObj} : (hset h a o).length = h.length := by simp [hset]
theorem take_hset {h : AHeap} {a m : Nat} {o : AObj} (e : m ≤ a) : (hset h a o).take m = h.take m := by unfold hset; rw [List.take_set_of_le e]
theorem take_set_none {h : AHeap} {a m : Nat} {o : Option AObj} (e : m ≤ a) : (h.set a o : AHeap).take m = h.take m := by rw [List.take_set_of_le e]
theorem take_snoc {h l : AHeap} {m : Nat} (e : m ≤ h.length) : (h ++ l).take m = h.take m := by rw [List.take_append_of_le_length e]
theorem hget_take_eq {h h0 : AHeap} {m a : Nat} (e : h.take m = h0.take m) (ha : a < m) : hget h a = hget h0 a := by
  have := congrArg (fun l : AHeap => l[a]?) e
  simp only [List.getElem?_take, ha, if_true] at this
  unfold hget; rw [this]
def Marks (mm : Nat) (d : List ADef) (h : AHeap) : Prop := ∃ as : List Nat, d = as.map .mark ∧ as.Nodup ∧ ∀ a ∈ as, mm ≤ a ∧ hget h a = some .defd
theorem Marks.nil {mm : Nat} {h : AHeap} : Marks mm [] h := ⟨[], rfl, by simp, fun a h => by cases h⟩
theorem Marks.leave {mm : Nat} : ∀ {d : List ADef} {h : AHeap} {K : AHeap → Prop}, Marks mm d h → (∀ h', h'.length = h.length → (∀ a, a < mm ∨ hget h a ≠ some .defd → h'[a]? = h[a]?) → K h') → ALeave d h K := by
  intro d h K ⟨as, hd, hnd, ha⟩
  subst hd
  induction as generalizing h with
  | nil => intro hk; exact hk h rfl fun _ _ => rfl
  | cons a as ih =>
    intro hk
    obtain ⟨h1, h2⟩ := ha a (by simp)
    refine ⟨h2, ih (List.nodup_cons.1 hnd).2 (fun b hb => ?_) fun h' hl he => hk h' (by rw [hl, List.length_set]) fun b hb => ?_⟩
    · obtain ⟨h3, h4⟩ := ha b (by simp [hb])
      have hne : a ≠ b := fun e => by subst e; exact (List.nodup_cons.1 hnd).1 hb
      exact ⟨h3, by rw [hget_set_ne hne]; exact h4⟩
    · have hne : a ≠ b := by
        rintro rfl
        rcases hb with hb | hb
        · omega
        · exact hb h2
      rw [he b (by rw [hget_set_ne hne]; exact hb), List.getElem?_set_ne hne]
theorem Marks.keep {mm : Nat} {d : List ADef} {h h' : AHeap} (hm : Marks mm d h) (he : ∀ a, mm ≤ a → hget h a = some .defd → hget h' a = some .defd) : Marks mm d h' := by
  obtain ⟨as, hd, hnd, ha⟩ := hm
  exact ⟨as, hd, hnd, fun a hx => ⟨(ha a hx).1, he a (ha a hx).1 (ha a hx).2⟩⟩
theorem Marks.more {mm a : Nat} {d : List ADef} {h h' : AHeap} (hm : Marks mm d h) (ha : mm ≤ a) (hg : hget h a = none) (hn : hget h' a = some .defd) (he : ∀ a, mm ≤ a → hget h a = some .defd → hget h' a = some .defd) : Marks mm (.mark a :: d) h' := by
  obtain ⟨as, hd, hnd, hx⟩ := hm
  refine ⟨a :: as, by rw [hd]; rfl, List.nodup_cons.2 ⟨fun hm => ?_, hnd⟩, fun b hb => ?_⟩
  · rw [(hx a hm).2] at hg; cases hg
  · rcases List.mem_cons.1 hb with rfl | hb
    · exact ⟨ha, hn⟩
    · exact ⟨(hx b hb).1, he b (hx b hb).1 (hx b hb).2⟩
end Go.AL
