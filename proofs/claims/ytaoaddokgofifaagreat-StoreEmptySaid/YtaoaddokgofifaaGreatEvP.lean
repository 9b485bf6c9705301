/- A region that draws its order comes to what its run in the text's order comes to. -/
import Derived.Test.YtaoaddokgofifaaGreatEvO
namespace Go.Ev
open Go.RowKit
section
variable {P : Program} {T : TT} {X : Prims} {n : Nat} {ops : Array Oper} {s last : St} {tr : List (St × Value)}
variable {ρs ρ₀ ρ : Inj} {ws w : World} {ds : List Deferred} {D : Nat → Prop} {q : Nat} {L : List Value} {a : Act}

theorem Drawn.congr {D' : Nat → Prop} (h : Drawn ops s last tr ρs ws ds D q ρ₀ ρ L a w) (e : ∀ i, D i ↔ D' i) : Drawn ops s last tr ρs ws ds D' q ρ₀ ρ L a w := by
  have : D = D' := funext fun i => propext (e i)
  rw [← this]; exact h

/-- All is done. -/
theorem Drawn.over (tx : Text P T X n ops s last tr) (h : Drawn ops s last tr ρs ws ds D q ρ₀ ρ L a w) (hall : ∀ i, i < ops.size → D i) :
    ∃ ρ', Post ρs s.heap ws ρ' last.heap w ∧ All2 (TV ρ') last.tmps a.tmps.toList ∧ a.defers = ds := by
  obtain ⟨q', ρ₀', h', hq'⟩ := h.normal tx ops.size q (by omega)
  have hqq : q' = ops.size := by
    rcases hq' with h1 | ⟨o, ho, hl⟩
    · exact h1
    · have := (h'.loud q' o ho hl).1 (hall q' (Array.getElem?_eq_some_iff.1 ho).1)
      omega
  subst hqq
  have hle : ρ.le ρ₀' := fun k p hk => by
    rcases h'.pend k p hk with h1 | ⟨i, _, hi, _, hp, _⟩
    · exact h1
    · have := lay_lt hp; omega
  have hL : L = last.tmps := by
    apply List.ext_getElem?
    intro t
    rw [h'.slot t ops.size (Nat.le_refl _) fun i o ho _ => ?_, tx.fin]
    have := (Array.getElem?_eq_some_iff.1 ho).1
    exact ⟨fun _ => this, fun _ => hall i this⟩
  refine ⟨ρ₀', ?_, ?_, h'.defs⟩
  · have := h'.post
    rw [tx.fin] at this
    exact this
  · rw [← hL]
    exact h'.tv.mono fun _ _ x => x.mono hle

variable {ro : Option Nat} {m : Nat} {Q : Exit → Act → World → Prop}

theorem bare_get (n k : Nat) : (AH.bare n).get k = none := by
  show Tr.leaf.find (Tr.bitsOf k k) = none
  cases Tr.bitsOf k k <;> rfl

theorem Drawn.ids (tx : Text P T X n ops s last tr) (h : Drawn ops s last tr ρs ws ds D q ρ₀ ρ L a w) : MR ρ (AH.bare last.heap.next) w := by
  refine ⟨fun k p hk => ?_, fun k o p hg _ => ?_, fun k k' o o' p p' hg _ _ _ _ => ?_⟩
  · show k < last.heap.next
    rw [← tx.fin]
    rcases h.pend k p hk with h1 | ⟨i, _, _, rfl, hp, _⟩
    · exact Nat.lt_of_lt_of_le (h.post.mr.dom _ _ h1) (tx.mono h.q_le (Nat.le_refl _))
    · exact tx.id_lt hp (lay_lt hp) (Nat.le_refl _)
  · rw [bare_get] at hg; cases hg
  · rw [bare_get] at hg; cases hg

theorem wp_plain {o : Oper} {cv : Value} {w' : World} (hnd : ∀ c, o.op ≠ .defer c) (hrun : (execOp a.eval o).run P w = .ok (.value cv) w') {K : Act → World → Prop} (hK : K (a.put o.dst cv) w') : o.wpIn (Fr ro) m P a w K Q := by
  refine ⟨wide_about o w a ro, ?_⟩
  rw [Oper.semAt_eq _ _ _ hnd, hrun]
  exact hK

/-- One operation that may come up. -/
theorem Drawn.one (hT : T.Ok P) (hX : PrimsOk P X) (hXh : PrimsHere T X) (hC : CodesOk T) (IH : SimCode P T X n) (tx : Text P T X n ops s last tr) (hms : MR ρs s.heap ws)
    (h : Drawn ops s last tr ρs ws ds D q ρ₀ ρ L a w) {j : Nat} {o : Oper} (ho : ops[j]? = some o) (hnd : ¬ D j) (hah : ∀ k, Ahead ops k j → D k) {K : Act → World → Prop}
    (hK : ∀ q' ρ₀' ρ' L' a' w', Drawn ops s last tr ρs ws ds (fun i => D i ∨ i = j) q' ρ₀' ρ' L' a' w' → K a' w') : wpOpIn (Fr ro) m P ops Q j K a w := by
  obtain ⟨q, ρ₀, h, hq⟩ := h.normal tx ops.size q (by omega)
  unfold wpOpIn
  rw [ho]
  simp only
  rw [wanted_eq, wanted_sim h.tv, h.wanted tx ho hnd hah]
  have hj := (Array.getElem?_eq_some_iff.1 ho).1
  have hloudq : loudOp o.op = true → j = q := fun hl => by
    have h1 : q ≤ j := Nat.le_of_not_lt fun hh => hnd ((h.loud j o ho hl).2 hh)
    rcases Nat.lt_or_ge q j with h2 | h2
    · exfalso
      rcases hq with h3 | ⟨o', ho', hl'⟩
      · omega
      · have := (h.loud q o' ho' hl').1 (hah q (tx.ok.loud q o' j o ho' ho hl' hl h2))
        omega
    · omega
  cases hw : wantedL ops (stAt tr last j).tmps o with
  | false =>
    rw [if_neg (by simp)]
    refine ⟨wide_about o w a ro, ?_⟩
    have hv : TV ρ (valAt tr j) undef := by rw [(tx.off ho hw).1]; exact TV.undef
    cases hl : loudOp o.op with
    | true =>
      have := hloudq hl
      subst this
      exact hK _ _ _ _ _ _ (h.loudOff tx ho hnd hah hl hw hv)
    | false =>
      refine hK _ _ _ _ _ _ (h.calm tx ho hnd hah ?_ (fun hh => by rw [hl] at hh; cases hh) hv)
      rintro ⟨o', ho', _, hw'⟩
      rw [ho] at ho'; cases ho'
      rw [hw] at hw'; cases hw'
  | true =>
    rw [if_pos rfl]
    obtain ⟨hok, hev⟩ := tx.okOps ho hw
    have henv := h.env tx ho hnd hah
    have hTV : ∀ x ∈ o.op.operands, TV ρ (envL (stAt tr last j).tmps x) (a.eval x) := fun x hx => by
      rw [← henv x hx]
      exact env_all h.tv hok x hx
    rcases kinds o.op with ⟨hs, hnl, hny⟩ | ⟨hly, hnl, hns⟩ | ⟨hl, hns, hny⟩
    · -- leaves memory alone
      rw [still_oper hs] at hev
      have hnlay : ¬ Lay ops tr last j := by
        rintro ⟨o', ho', h1, _⟩
        rw [ho] at ho'; cases ho'
        rw [hny] at h1; cases h1
      have hndf : ∀ c, o.op ≠ .defer c := fun c hc => by rw [hc] at hs; simp [stillOp] at hs
      have fin : ∀ cv, (execOp a.eval o).run P w = .ok (.value cv) w → TV ρ (valAt tr j) cv → o.wpIn (Fr ro) m P a w K Q := fun cv hrun hv =>
        wp_plain hndf hrun (hK _ _ _ _ _ _ (h.calm tx ho hnd hah hnlay (fun hh => by rw [hnl] at hh; cases hh) hv))
      by_cases hp : pureOp o.op = true
      · obtain ⟨cv, hrun, hv⟩ := evStill_sim hT (h.ids tx) hTV hs (pure_any hp hev (AH.bare last.heap.next))
        exact fin cv hrun hv
      · have hp' : pureOp o.op = false := by simpa using hp
        obtain ⟨⟨H', hH'⟩, hb⟩ := tx.steady j o ho hs hp' hw q h.q_le hq fun e o' ho' hl' => ⟨fun hlt hh => hnd (h.down e j ((h.loud e o' ho' hl').2 hlt) hh), fun hge hh => by
          have := (h.loud e o' ho' hl').1 (hah e hh); omega⟩
        obtain ⟨cv, hrun, hv⟩ := evStill_sim hT h.post.mr (fun x hx => ((hTV x hx).cut (hb x hx)).mono (h.cut_le tx (Nat.le_refl _))) hs hH'
        exact fin cv hrun (hv.mono h.le)
    · -- lays a block
      rw [lays_oper hly] at hev
      have hcut : ∀ x ∈ o.op.operands, TV (ρ.cut (stAt tr last j).heap.next) (envL (stAt tr last j).tmps x) (a.eval x) := fun x hx => (hTV x hx).cut (tx.below j o ho hns hw x hx)
      obtain ⟨obj, O, Lp, mk, mkc, hH, hv, hor, hrun, htv, _⟩ := lays_sim hT hcut hly hev
      have hndf : ∀ c, o.op ≠ .defer c := fun c hc => by rw [hc] at hly; simp [laysOp] at hly
      have hjq : j ≠ q := by
        rintro rfl
        rcases hq with h3 | ⟨o', ho', hl'⟩
        · omega
        · rw [ho] at ho'; cases ho'
          rw [hnl] at hl'; cases hl'
      obtain ⟨ρ₀', ρ', hD⟩ := h.lays tx ho hnd hah hly hw hjq hH hor (by rw [hv]; exact htv _ _ _ (Inj.ext_same _ _ _))
      exact wp_plain hndf (hrun w) (hK _ _ _ _ _ _ hD)
    · -- loud
      have := hloudq hl
      subst this
      have hcut : ∀ x ∈ o.op.operands, TV ρ₀ (envL (stAt tr last j).tmps x) (a.eval x) := fun x hx => ((hTV x hx).cut (tx.below j o ho hns hw x hx)).mono (h.cut_le tx (Nat.le_refl _))
      refine evOperW_wp hT hX hXh hC IH h.post.mr hcut hev ?_
      intro cv ρ₀' w' hv hp
      obtain ⟨ρ', hD⟩ := h.louder tx hms ho hnd hah hl hv hp
      exact hK _ _ _ _ _ _ hD

theorem Drawn.all (hT : T.Ok P) (hX : PrimsOk P X) (hXh : PrimsHere T X) (hC : CodesOk T) (IH : SimCode P T X n) (tx : Text P T X n ops s last tr) (hms : MR ρs s.heap ws)
    (hQ : ∀ (a' : Act) w' ρ', Post ρs s.heap ws ρ' last.heap w' → All2 (TV ρ') last.tmps a'.tmps.toList → a'.defers = ds → Q .normal a' w') :
    ∀ (fuel : Nat) (listed : Array Bool) (U : List Nat) (q : Nat) (ρ₀ ρ : Inj) (L : List Value) (a : Act) (w : World), listed.size = ops.size → (∀ i, i < ops.size → ¬ listed.getD i false = true → i ∈ U) → U.length ≤ fuel →
      Drawn ops s last tr ρs ws ds (fun i => listed.getD i false = true) q ρ₀ ρ L a w → wpAnyIn (Fr ro) m P .any ops Q fuel listed a w := by
  have done : ∀ (listed : Array Bool) (q : Nat) (ρ₀ ρ : Inj) (L : List Value) (a : Act) (w : World), listed.size = ops.size →
      Drawn ops s last tr ρs ws ds (fun i => listed.getD i false = true) q ρ₀ ρ L a w → Region.ready .any ops listed = [] → Q .normal a w := by
    intro listed q ρ₀ ρ L a w hsz h hr
    have hall : ∀ i, i < ops.size → listed.getD i false = true := by
      intro i
      induction i using Nat.strongRecOn with
      | _ i ih =>
        intro hi
        cases hl : listed.getD i false with
        | true => rfl
        | false =>
          exfalso
          have ho : ops[i]? = some ops[i] := Array.getElem?_eq_getElem hi
          have : i ∈ Region.ready .any ops listed := by
            rw [mem_ready]
            refine ⟨?_, _, ho, fun e he hb => ?_⟩
            · rw [Array.getD_eq_getD_getElem?, Array.getElem?_eq_getElem (by omega)] at hl ⊢
              exact hl
            · have := tx.ok.edges i _ ho e (by simpa using he) hb
              exact ih e.on this (by omega)
          rw [hr] at this; cases this
    obtain ⟨ρ', h1, h2, h3⟩ := h.over tx hall
    exact hQ a w ρ' h1 h2 h3
  intro fuel
  induction fuel with
  | zero =>
    intro listed U q ρ₀ ρ L a w hsz hU hlen h
    have hUn : U = [] := List.eq_nil_of_length_eq_zero (by omega)
    subst hUn
    have hr : Region.ready .any ops listed = [] := by
      cases hr : Region.ready .any ops listed with
      | nil => rfl
      | cons j r =>
        exfalso
        have hj : j ∈ Region.ready .any ops listed := by rw [hr]; simp
        obtain ⟨h1, o, ho, _⟩ := mem_ready.1 hj
        have hlt := (Array.getElem?_eq_some_iff.1 ho).1
        have := hU j hlt (by
          rw [Array.getD_eq_getD_getElem?, Array.getElem?_eq_getElem (by omega)] at h1 ⊢
          simp only [Option.getD_some] at h1 ⊢
          rw [h1]; simp)
        cases this
    exact ⟨hr, done listed q ρ₀ ρ L a w hsz h hr⟩
  | succ fuel ih =>
    intro listed U q ρ₀ ρ L a w hsz hU hlen h
    refine ⟨done listed q ρ₀ ρ L a w hsz h, fun j hj => ?_⟩
    obtain ⟨h1, o, ho, hall⟩ := mem_ready.1 hj
    have hlt := (Array.getElem?_eq_some_iff.1 ho).1
    have hnd : ¬ listed.getD j false = true := by
      rw [Array.getD_eq_getD_getElem?, Array.getElem?_eq_getElem (by omega)] at h1 ⊢
      simp only [Option.getD_some] at h1 ⊢
      rw [h1]; simp
    have hah : ∀ k, Ahead ops k j → listed.getD k false = true := fun k hk => by
      obtain ⟨e, he, hb, h2⟩ := ahead_edge ho hk
      have hon := hall e (by simpa using he) hb
      rcases h2 with rfl | ⟨_, h2⟩
      · exact hon
      · exact h.down e.on k hon h2
    refine h.one hT hX hXh hC IH tx hms ho hnd hah ?_
    intro q' ρ₀' ρ' L' a' w' hD
    have hjU := hU j hlt hnd
    refine ih (listed.setIfInBounds j true) (U.erase j) q' ρ₀' ρ' L' a' w' (by simpa using hsz) ?_ ?_ (hD.congr fun i => (getD_set (by omega)).symm)
    · intro i hi hni
      rw [getD_set (by omega)] at hni
      have hne : i ≠ j := fun e => hni (.inr e)
      exact (List.mem_erase_of_ne hne).2 (hU i hi fun hh => hni (.inl hh))
    · rw [List.length_erase_of_mem hjU]; omega

/-- A region, in whatever order it is drawn. -/
theorem evDraw_wp (hT : T.Ok P) (hX : PrimsOk P X) (hXh : PrimsHere T X) (hC : CodesOk T) (hmix : P.follows .mixedOrders = true) (IH : SimCode P T X n) {id : Nat} (hd : drawOK ops = true) {s' : St}
    (hev : evRegionW P T X (evCode P T X n) ops true s = some s') (hm : MR ρ s.heap w) (hl : All2 (TV ρ) s.tmps a.tmps.toList)
    (hQ : ∀ (a' : Act) w' ρ', Post ρ s.heap w ρ' s'.heap w' → All2 (TV ρ') s'.tmps a'.tmps.toList → a'.defers = a.defers → Q .normal a' w') : (Code.region id ops true).wpIn (Fr ro) m P Q a w := by
  unfold evRegionW at hev
  simp only [if_true] at hev
  split at hev
  · rename_i tr last ht
    split at hev
    · rename_i hc
      simp only [Bool.and_eq_true] at hc
      cases hev
      have tx := text_of hd ht hc.1 hc.2
      refine wpIn_region_any hmix ?_
      have hm' : MR ρ s.heap { w with drawn := w.drawn + 1 } := hm.heap rfl
      refine Drawn.all (L := s.tmps) hT hX hXh hC IH tx hm' (fun a' w' ρ' h1 h2 h3 => hQ a' w' ρ' (h1.heap rfl) h2 h3) ops.size (Array.replicate ops.size false) (List.range ops.size) 0 ρ ρ a _ (by simp)
        (fun i hi _ => List.mem_range.2 hi) (by simp) ((Drawn.start tx hm' hl).congr fun i => ?_)
      rw [Array.getD_eq_getD_getElem?, Array.getElem?_replicate]
      split <;> simp
    · cases hev
  · cases hev

end
end Go.Ev
