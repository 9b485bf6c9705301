/- Which functions are answered by a contract of their own: a queue's Put and Take, and the table of sums; and that they answer so. -/
import Derived.Test.YtaoaddokgofifaaGreatPrC
namespace Go.Pr
open Go Go.Proofs Go.Ev Go.Fv Go.RowKit

def tabV : List Value := [.int .u32 0, .int .u32 4067132163, .int .u32 3778769143, .int .u32 324072436, .int .u32 3348797215, .int .u32 904991772, .int .u32 648144872, .int .u32 3570033899, .int .u32 2329499855, .int .u32 2024987596, .int .u32 1809983544, .int .u32 2575936315, .int .u32 1296289744, .int .u32 3207089363, .int .u32 2893594407, .int .u32 1578318884, .int .u32 274646895, .int .u32 3795141740, .int .u32 4049975192, .int .u32 51262619, .int .u32 3619967088, .int .u32 632279923, .int .u32 922689671, .int .u32 3298075524, .int .u32 2592579488, .int .u32 1760304291, .int .u32 2075979607, .int .u32 2312596564, .int .u32 1562183871, .int .u32 2943781820, .int .u32 3156637768, .int .u32 1313733451, .int .u32 549293790, .int .u32 3537243613, .int .u32 3246849577, .int .u32 871202090, .int .u32 3878099393, .int .u32 357341890, .int .u32 102525238, .int .u32 4101499445, .int .u32 2858735121, .int .u32 1477399826, .int .u32 1264559846, .int .u32 3107202533, .int .u32 1845379342, .int .u32 2677391885, .int .u32 2361733625, .int .u32 2125378298, .int .u32 820201905, .int .u32 3263744690, .int .u32 3520608582, .int .u32 598981189, .int .u32 4151959214, .int .u32 85089709, .int .u32 373468761, .int .u32 3827903834, .int .u32 3124367742, .int .u32 1213305469, .int .u32 1526817161, .int .u32 2842354314, .int .u32 2107672161, .int .u32 2412447074, .int .u32 2627466902, .int .u32 1861252501, .int .u32 1098587580, .int .u32 3004210879, .int .u32 2688576843, .int .u32 1378610760, .int .u32 2262928035, .int .u32 1955203488, .int .u32 1742404180, .int .u32 2511436119, .int .u32 3416409459, .int .u32 969524848, .int .u32 714683780, .int .u32 3639785095, .int .u32 205050476, .int .u32 4266873199, .int .u32 3976438427, .int .u32 526918040, .int .u32 1361435347, .int .u32 2739821008, .int .u32 2954799652, .int .u32 1114974503, .int .u32 2529119692, .int .u32 1691668175, .int .u32 2005155131, .int .u32 2247081528, .int .u32 3690758684, .int .u32 697762079, .int .u32 986182379, .int .u32 3366744552, .int .u32 476452099, .int .u32 3993867776, .int .u32 4250756596, .int .u32 255256311, .int .u32 1640403810, .int .u32 2477592673, .int .u32 2164122517, .int .u32 1922457750, .int .u32 2791048317, .int .u32 1412925310, .int .u32 1197962378, .int .u32 3037525897, .int .u32 3944729517, .int .u32 427051182, .int .u32 170179418, .int .u32 4165941337, .int .u32 746937522, .int .u32 3740196785, .int .u32 3451792453, .int .u32 1070968646, .int .u32 1905808397, .int .u32 2213795598, .int .u32 2426610938, .int .u32 1657317369, .int .u32 3053634322, .int .u32 1147748369, .int .u32 1463399397, .int .u32 2773627110, .int .u32 4215344322, .int .u32 153784257, .int .u32 444234805, .int .u32 3893493558, .int .u32 1021025245, .int .u32 3467647198, .int .u32 3722505002, .int .u32 797665321, .int .u32 2197175160, .int .u32 1889384571, .int .u32 1674398607, .int .u32 2443626636, .int .u32 1164749927, .int .u32 3070701412, .int .u32 2757221520, .int .u32 1446797203, .int .u32 137323447, .int .u32 4198817972, .int .u32 3910406976, .int .u32 461344835, .int .u32 3484808360, .int .u32 1037989803, .int .u32 781091935, .int .u32 3705997148, .int .u32 2460548119, .int .u32 1623424788, .int .u32 1939049696, .int .u32 2180517859, .int .u32 1429367560, .int .u32 2807687179, .int .u32 3020495871, .int .u32 1180866812, .int .u32 410100952, .int .u32 3927582683, .int .u32 4182430767, .int .u32 186734380, .int .u32 3756733383, .int .u32 763408580, .int .u32 1053836080, .int .u32 3434856499, .int .u32 2722870694, .int .u32 1344288421, .int .u32 1131464017, .int .u32 2971354706, .int .u32 1708204729, .int .u32 2545590714, .int .u32 2229949006, .int .u32 1988219213, .int .u32 680717673, .int .u32 3673779818, .int .u32 3383336350, .int .u32 1002577565, .int .u32 4010310262, .int .u32 493091189, .int .u32 238226049, .int .u32 4233660802, .int .u32 2987750089, .int .u32 1082061258, .int .u32 1395524158, .int .u32 2705686845, .int .u32 1972364758, .int .u32 2279892693, .int .u32 2494862625, .int .u32 1725896226, .int .u32 952904198, .int .u32 3399985413, .int .u32 3656866545, .int .u32 731699698, .int .u32 4283874585, .int .u32 222117402, .int .u32 510512622, .int .u32 3959836397, .int .u32 3280807620, .int .u32 837199303, .int .u32 582374963, .int .u32 3504198960, .int .u32 68661723, .int .u32 4135334616, .int .u32 3844915500, .int .u32 390545967, .int .u32 1230274059, .int .u32 3141532936, .int .u32 2825850620, .int .u32 1510247935, .int .u32 2395924756, .int .u32 2091215383, .int .u32 1878366691, .int .u32 2644384480, .int .u32 3553878443, .int .u32 565732008, .int .u32 854102364, .int .u32 3229815391, .int .u32 340358836, .int .u32 3861050807, .int .u32 4117890627, .int .u32 119113024, .int .u32 1493875044, .int .u32 2875275879, .int .u32 3090270611, .int .u32 1247431312, .int .u32 2660249211, .int .u32 1828433272, .int .u32 2141937292, .int .u32 2378227087, .int .u32 3811616794, .int .u32 291187481, .int .u32 34330861, .int .u32 4032846830, .int .u32 615137029, .int .u32 3603020806, .int .u32 3314634738, .int .u32 939183345, .int .u32 1776939221, .int .u32 2609017814, .int .u32 2295496738, .int .u32 2058945313, .int .u32 2926798794, .int .u32 1545135305, .int .u32 1330124605, .int .u32 3173225534, .int .u32 4084100981, .int .u32 17165430, .int .u32 307568514, .int .u32 3762199681, .int .u32 888469610, .int .u32 3332340585, .int .u32 3587147933, .int .u32 665062302, .int .u32 2042050490, .int .u32 2346497209, .int .u32 2559330125, .int .u32 1793573966, .int .u32 3190661285, .int .u32 1279665062, .int .u32 1595330642, .int .u32 2910671697]
theorem none_prims : PrimsOk P0 (fun _ => none) := fun f p h => by cases h
theorem none_here : PrimsHere T0 (fun _ => none) := fun f p h => by cases h

set_option maxRecDepth 100000 in
theorem new_run : rcAt P0 T0 (fun _ => none) 20 (.fn 62) [] E0 (fun v _ => some (v, E0)) = some (.agg tabV.toArray, E0) := by kernel_rfl
theorem tab_flat : flatV (.agg tabV.toArray) = true := by kernel_rfl

noncomputable def putPrim : List Value → AH → Option (Value × AH)
  | [.pointer (some ⟨b, 0, none⟩), .int .i64 n], H =>
    match getT H.tr b with
    | some (.cells [.chan (some r)] _) =>
      match getT H.tr r with
      | some (.chan cap buf s rc) => if buf.length < cap then some (.int .i64 0, H.set r (.chan cap (buf ++ [.int .i64 n]) (s + 1) rc)) else some (.int .i64 17, H)
      | _ => none
    | _ => none
  | _, _ => none
noncomputable def takePrim : List Value → AH → Option (Value × AH)
  | [.pointer (some ⟨b, 0, none⟩)], H =>
    match getT H.tr b with
    | some (.cells [.chan (some r)] _) =>
      match getT H.tr r with
      | some (.chan cap (.int .i64 n :: buf) s rc) => some (.tuple #[.int .i64 n, .int .i64 0], H.set r (.chan cap buf s (rc + 1)))
      | some (.chan _ [] _ _) => some (.tuple #[.int .i64 0, .int .i64 15], H)
      | _ => none
    | _ => none
  | _, _ => none
def newPrim : List Value → AH → Option (Value × AH)
  | [], H => some (.agg tabV.toArray, H)
  | _, _ => none

noncomputable def X0 : Prims := fun f =>
  if f = 224 then some putPrim else if f = 142 then some takePrim else if f = 62 then some newPrim else none

section
variable {ρ : Inj} {H : AH} {w : World}

/-- A pointer, and the channel that it leads to. -/
theorem queue_at (hm : MR ρ H w) {b r cap s rc : Nat} {e : TypeId} {buf : List Value} {cp : Value} (hp : TV ρ (.pointer (some ⟨b, 0, none⟩)) cp) (h1 : getT H.tr b = some (.cells [.chan (some r)] e)) (h2 : getT H.tr r = some (.chan cap buf s rc)) :
    ∃ B O r' buf' L, cp = .pointer (some ⟨B, O, none⟩) ∧ w.cell? ⟨B, O, none⟩ = some (.chan (some r')) ∧ w.heap[r']? = some (.chan cap buf' false s rc false) ∧ All2 (VR ρ) buf buf'.toList ∧ H.get r = some (.chan cap buf s rc) ∧ ρ r = some ⟨r', 0, L⟩ ∧ L = 0 := by
  rw [getT_eq] at h1 h2
  cases hp with
  | val hp => cases hp with
    | one hp => cases hp with
      | base hp => cases hp with
        | ptr hb =>
          rename_i p
          obtain ⟨v', h3, h4⟩ := hm.cell (o := 0) h1 hb rfl
          cases h4 with
          | base h4 => cases h4 with
            | chan hr =>
              rename_i r'
              obtain ⟨O, h5, h6⟩ := hm.blk r _ _ h2 hr
              cases h6 with
              | chan _ hbuf => exact ⟨p.b, p.d + 0, r', _, 0, rfl, h3, h5, hbuf, h2, hr, rfl⟩

theorem chan_turn (hm : MR ρ H w) {r r' cap s rc cap' s' rc' : Nat} {buf nb : List Value} {cb nc : Array Value} (hg : H.get r = some (.chan cap buf s rc)) (hr : ρ r = some ⟨r', 0, 0⟩) (ho : w.heap[r']? = some (.chan cap cb false s rc false)) (hb : All2 (VR ρ) nb nc.toList) :
    Post ρ H w ρ (H.set r (.chan cap' nb s' rc')) (w.setChan r' cap' nc false s' rc' false) :=
  Post.turn hm hg hr (Conc.size_setChan _ _ _ _ _ _ _ _) (Conc.heap_setChan _ _ _ _ _ _ _ _ (Array.getElem?_eq_some_iff.1 ho).1) (fun j hj => by
    simp [World.setChan, Array.getElem?_setIfInBounds_ne (Ne.symm hj)]) (.chan rfl hb) (by intro h; cases h)

theorem tv_int (k : IntKind) (n : Int) : TV ρ (.int k n) (.int k n) := .val (.one (.base (.int k n)))

theorem put_ok {args : List Value} {v : Value} {H' : AH} (h : putPrim args H = some (v, H')) {cargs : Array Value} (m : Nat) (hm : MR ρ H w) (ha : All2 (TV ρ) args cargs.toList) :
    CallsIn Fence.wide m P0 224 cargs w (CallOut ρ H w v H') := by
  unfold putPrim at h
  split at h
  · rename_i b n
    obtain ⟨l⟩ := cargs
    cases ha with
    | cons hp ha => cases ha with
      | cons hx ha => cases ha
                      rename_i cp cx
                      have hx := hx.flat rfl
                      subst hx
                      split at h
                      · rename_i r e h1
                        split at h
                        · rename_i cap buf s rc h2
                          obtain ⟨B, O, r', buf', L, rfl, h3, h4, h5, h6, h7, rfl⟩ := queue_at hm hp h1 h2
                          have hlen : buf.length = buf'.size := by simpa using h5.length
                          split at h
                          · rename_i hroom
                            cases h
                            refine callsIn_wide.2 ((put_room B O r' cap s rc buf' n w h3 h4 (by omega)).mono ?_)
                            rintro e w' ⟨rfl, rfl⟩
                            refine ⟨_, ρ, rfl, tv_int _ _, chan_turn hm h6 h7 h4 ?_⟩
                            rw [Array.toList_push]
                            exact h5.append (.cons (.one (.base (.int _ _))) .nil)
                          · rename_i hfull
                            cases h
                            refine callsIn_wide.2 ((put_full B O r' cap s rc buf' n w h3 h4 (by omega)).mono ?_)
                            rintro e w' ⟨rfl, rfl⟩
                            exact ⟨_, ρ, rfl, tv_int _ _, .refl hm⟩
                        · cases h
                      · cases h
  · cases h

theorem take_ok {args : List Value} {v : Value} {H' : AH} (h : takePrim args H = some (v, H')) {cargs : Array Value} (m : Nat) (hm : MR ρ H w) (ha : All2 (TV ρ) args cargs.toList) :
    CallsIn Fence.wide m P0 142 cargs w (CallOut ρ H w v H') := by
  unfold takePrim at h
  split at h
  · rename_i b
    obtain ⟨l⟩ := cargs
    cases ha with
    | cons hp ha => cases ha
                    rename_i cp
                    split at h
                    · rename_i r e h1
                      split at h
                      · rename_i cap n buf s rc h2
                        obtain ⟨B, O, r', buf', L, rfl, h3, h4, h5, h6, h7, rfl⟩ := queue_at hm hp h1 h2
                        cases h
                        obtain ⟨l⟩ := buf'
                        cases h5 with
                        | cons hx hb =>
                          rename_i cx l
                          have hx := hx.flat rfl
                          subst hx
                          refine callsIn_wide.2 ((take_some B O r' cap s rc ⟨.int .i64 n :: l⟩ n w h3 h4 (by simp) rfl).mono ?_)
                          rintro e w' ⟨rfl, rfl⟩
                          refine ⟨_, ρ, rfl, .tuple (.cons (.one (.base (.int _ _))) (.cons (.one (.base (.int _ _))) .nil)), chan_turn hm h6 h7 h4 ?_⟩
                          have : (Array.extract ⟨Value.int .i64 n :: l⟩ 1 (Array.size ⟨Value.int .i64 n :: l⟩)).toList = l := by simp
                          rw [this]
                          exact hb
                      · rename_i cap s rc h2
                        obtain ⟨B, O, r', buf', L, rfl, h3, h4, h5, h6, h7, rfl⟩ := queue_at hm hp h1 h2
                        cases h
                        obtain ⟨l⟩ := buf'
                        cases h5
                        refine callsIn_wide.2 ((take_none B O r' cap s rc w h3 h4).mono ?_)
                        rintro e w' ⟨rfl, rfl⟩
                        exact ⟨_, ρ, rfl, .tuple (.cons (.one (.base (.int _ _))) (.cons (.one (.base (.int _ _))) .nil)), .refl hm⟩
                      · cases h
                    · cases h
  · cases h

theorem new_ok {args : List Value} {v : Value} {H' : AH} (h : newPrim args H = some (v, H')) {cargs : Array Value} (m : Nat) (hm : MR ρ H w) (ha : All2 (TV ρ) args cargs.toList) :
    CallsIn Fence.wide m P0 62 cargs w (CallOut ρ H w v H') := by
  unfold newPrim at h
  split at h
  · cases h
    obtain ⟨l⟩ := cargs
    cases ha
    refine CallsIn.mono (closed_call t0_ok none_prims none_here c0_ok mixed_ok tab_flat new_run w m) ?_
    rintro e w' ⟨rfl, h1, h2, h3, h4⟩
    refine ⟨_, ρ, rfl, .val (.agg ?_), post_of_frame hm h1 h2 h3 h4⟩
    have hf : tabV.all flat1 = true := by kernel_rfl
    refine All2.of_eq fun a ha => ?_
    have := List.all_eq_true.1 hf a (by simpa using ha)
    cases a <;> first | exact .base (.bool _) | exact .base (.int _ _) | exact .base (.string _) | (cases this; done)
  · cases h
end

theorem x0_ok : PrimsOk P0 X0 := by
  intro f p h args H v H' hp ρ w cargs m hm ha
  unfold X0 at h
  split at h
  · rename_i e; cases h; subst e; exact put_ok hp m hm ha
  · split at h
    · rename_i e; cases h; subst e; exact take_ok hp m hm ha
    · split at h
      · rename_i e; cases h; subst e; exact new_ok hp m hm ha
      · cases h
theorem x0_here : PrimsHere T0 X0 := by
  intro f p h
  unfold X0 at h
  split at h
  · rename_i e; subst e; exact ⟨Tryz.f224, by kernel_rfl⟩
  · split at h
    · rename_i e; subst e; exact ⟨Tryz.f142, by kernel_rfl⟩
    · split at h
      · rename_i e; subst e; exact ⟨Tryz.f62, by kernel_rfl⟩
      · cases h
end Go.Pr
