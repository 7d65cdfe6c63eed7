/-
  Layer 16: a vault as a chunk of memory; what may be put, what may be dropped.
-/
import Derived.Test.YthljpljbpbkkcaaDoorVaultSpecA
import Derived.Test.YthljpljbpbkkcaaDoorSlRows
set_option linter.unusedVariables false
set_option linter.unusedSimpArgs false
set_option maxRecDepth 4000
namespace Go.Proofs.YthljpljbpbkkcaaDoor
open Go.Sl Go.RowKit Go.Pack Go.Vault

structure VI where
  mp : Nat
  mf : Nat
  l : List (PK × Sla UInt8)
  fl : List (ByteArray × Int)
def lookP : List (PK × Sla UInt8) → PK → Option (List UInt8)
  | [], _ => none
  | x :: l, k => if x.1 = k then some x.2.xs else lookP l k
def lookF : List (ByteArray × Int) → ByteArray → Int
  | [], _ => 0
  | x :: l, k => if x.1 = k then x.2 else lookF l k
structure VRep (d : VD) (i : VI) : Prop where
  nd : (i.l.map Prod.fst).Nodup
  look : ∀ k, lookP i.l k = d.parts k
  ok : ∀ x ∈ i.l, PkOk x.1 ∧ (x.2.xs.length ≤ x.2.cap ∧ x.2.xs.length ≤ 1048576)
  ndf : (i.fl.map Prod.fst).Nodup
  floor : ∀ f, lookF i.fl f = d.floors f
def pents (l : List (PK × Sla UInt8)) : List (Value × Value) := l.map fun x => (pkv x.1, .slice x.2.base x.2.xs.length x.2.cap)
def fents (l : List (ByteArray × Int)) : List (Value × Value) := l.map fun x => (.string x.1, .int .i64 x.2)
abbrev vcl (i : VI) (j : Nat) (down : Bool) : List Value := [.map (some i.mp), .map (some i.mf), .pointer (some ⟨j, 0, none⟩), .bool down]
def pv (v j : Nat) (down : Bool) (d : VD) : HProp := fun h => ∃ i : VI, VRep d i ∧ star (cel v (vcl i j down) 56) (star (mpk KP i.mp (pents i.l)) (star (mp .string i.mf (fents i.fl)) (rows 5 (i.l.map Prod.snd)))) h
theorem pv_open {w0 w : World} {A : List HProp} {v j : Nat} {down : Bool} {d : VD} (H : Own w0 (pv v j down d :: A) w) :
    ∃ i : VI, VRep d i ∧ Own w0 (cel v (vcl i j down) 56 :: mpk KP i.mp (pents i.l) :: mp .string i.mf (fents i.fl) :: rows 5 (i.l.map Prod.snd) :: A) w := by
  obtain ⟨hb, h, ⟨h1, h2, ⟨i, hi, a⟩, a2, dd, y⟩, hw⟩ := H
  have h3 : Own w0 (star (cel v (vcl i j down) 56) (star (mpk KP i.mp (pents i.l)) (star (mp .string i.mf (fents i.fl)) (rows 5 (i.l.map Prod.snd)))) :: A) w := ⟨hb, h, ⟨h1, h2, a, a2, dd, y⟩, hw⟩
  have h4 := h3.star.pk1.star.pk1.star
  exact ⟨i, hi, h4.ix [3, 2, 0, 1]⟩
theorem pv_mk {w0 w : World} {A : List HProp} {v j : Nat} {down : Bool} {d : VD} {i : VI} (hi : VRep d i) (H : Own w0 (cel v (vcl i j down) 56 :: mpk KP i.mp (pents i.l) :: mp .string i.mf (fents i.fl) :: rows 5 (i.l.map Prod.snd) :: A) w) : Own w0 (pv v j down d :: A) w := by
  have h1 := (H.ix [2, 3, 0, 1]).intro_star
  have h2 := (h1.ix [2, 0, 1]).intro_star
  have h3 := (h2.ix [1, 0]).intro_star
  exact h3.head fun _ h => ⟨i, hi, h⟩
theorem pents_at {l : List (PK × Sla UInt8)} {j : Nat} {x : PK × Sla UInt8} (h : l[j]? = some x) : (pents l)[j]? = some (pkv x.1, .slice x.2.base x.2.xs.length x.2.cap) := by simp [pents, h]
theorem pents_none {l : List (PK × Sla UInt8)} {k : PK} (h : lookP l k = none) : ∀ p ∈ pents l, p.1 ≠ pkv k := by
  induction l with
  | nil => intro p hp; simp [pents] at hp
  | cons x l ih =>
    unfold lookP at h
    split at h
    · cases h
    · rename_i hne
      intro p hp e
      simp only [pents, List.map_cons, List.mem_cons] at hp
      rcases hp with rfl | hp
      · exact hne (pkv_inj e)
      · exact ih h p hp e
theorem lookP_some {l : List (PK × Sla UInt8)} {k : PK} {b : List UInt8} (h : lookP l k = some b) : ∃ (j : Nat) (x : PK × Sla UInt8), l[j]? = some x ∧ x.1 = k ∧ x.2.xs = b := by
  induction l with
  | nil => cases h
  | cons x l ih =>
    unfold lookP at h
    split at h
    · rename_i he; cases h; exact ⟨0, x, rfl, he, rfl⟩
    · obtain ⟨j, y, h1, h2⟩ := ih h
      exact ⟨j + 1, y, by simpa using h1, h2⟩
theorem lookP_mem {l : List (PK × Sla UInt8)} (hn : (l.map Prod.fst).Nodup) {x : PK × Sla UInt8} (hx : x ∈ l) : lookP l x.1 = some x.2.xs := by
  induction l with
  | nil => cases hx
  | cons y l ih =>
    simp only [List.map_cons, List.nodup_cons] at hn
    unfold lookP
    rcases List.mem_cons.1 hx with rfl | hx
    · rw [if_pos rfl]
    · rw [if_neg (fun e => hn.1 (List.mem_map.2 ⟨x, hx, e.symm⟩)), ih hn.2 hx]
theorem VRep.get {d : VD} {i : VI} (h : VRep d i) (k : PK) : ∃ (b : Option Addr) (n c : Nat), GetE (pents i.l) (pkv k) (.slice none 0 0) (.slice b n c) (d.parts k).isSome := by
  cases hk : d.parts k with
  | none => exact ⟨_, _, _, .new (pents_none (by rw [h.look]; exact hk))⟩
  | some b =>
    obtain ⟨j, x, h1, rfl, _⟩ := lookP_some ((h.look k).trans hk)
    exact ⟨_, _, _, .old j _ (pents_at h1)⟩
theorem fents_cases : ∀ (l : List (ByteArray × Int)) (f : ByteArray), (∃ j : Nat, (fents l)[j]? = some (.string f, .int .i64 (lookF l f))) ∨ ((∀ p ∈ fents l, p.1 ≠ .string f) ∧ lookF l f = 0)
  | [], f => .inr ⟨fun p hp => by simp [fents] at hp, rfl⟩
  | x :: l, f => by
    unfold lookF
    by_cases he : x.1 = f
    · rw [if_pos he]
      exact .inl ⟨0, by simp [fents, he]⟩
    · rw [if_neg he]
      rcases fents_cases l f with ⟨j, h⟩ | ⟨h, h0⟩
      · exact .inl ⟨j + 1, by simpa [fents] using h⟩
      · refine .inr ⟨fun p hp => ?_, h0⟩
        simp only [fents, List.map_cons, List.mem_cons] at hp
        rcases hp with rfl | hp
        · intro e; cases e; exact he rfl
        · exact h p hp
theorem fents_get (l : List (ByteArray × Int)) (f : ByteArray) : ∃ b, GetE (fents l) (.string f) (.int .i64 0) (.int .i64 (lookF l f)) b := by
  rcases fents_cases l f with ⟨j, h⟩ | ⟨h, h0⟩
  · exact ⟨_, .old j _ h⟩
  · rw [h0]; exact ⟨_, .new h⟩
theorem v_puts {w0 : World} {A : List HProp} {v j : Nat} {down : Bool} {d : VD} {k : PK} (hk : PkOk k) : Fun Tryd.prog w0 19 [.pointer (some ⟨v, 0, none⟩), .agg (pkl k).toArray] (pv v j down d :: A) (Ret w0 (fun _ : Unit => True) (fun _ => .tuple #[.int .i64 (whyPut d k).1, .bool (whyPut d k).2]) (fun _ => pv v j down d :: A)) := by
  refine Fun.ex (fun w h => pv_open h) ?_
  rintro ⟨mp, mf, l, fl⟩ hi
  obtain ⟨gb, gn, gc, hgv⟩ := hi.get k
  obtain ⟨fb, hfb⟩ := fents_get fl k.flow
  rw [hi.floor] at hfb
  have hfl := hk.flow
  have hfold : ∀ {w : World} {B : List HProp}, Own w0 (cel v (vcl ⟨mp, mf, l, fl⟩ j down) 56 :: mpk KP mp (pents l) :: Sl.mp .string mf (fents fl) :: rows 5 (l.map Prod.snd) :: B) w → Own w0 (pv v j down d :: B) w := fun h => pv_mk hi h
  dsimp only [vcl] at hgv hfold ⊢
  refine Fun.enter Tryd.func19 rfl Tryd.ntmps19 rfl ?_
  refine WC.seq <| WC.region <| bxc (v := .agg _) (cs := [.string _, .int _ _, .int _ _, .int _ _]) rfl rfl fun b1 => sv (vaI rfl) <| sv (vaB rfl) <| WL.nil <| WX.thenN <| WC.seq <| WC.block <| WC.seq <| WC.region <| sv (vfldpz fl62f0 rfl) <| sv (vldc pl9 rfl) <| clx (by repeat' (first | with_reducible exact Sb.all | exact Sb.nil | (apply Sb.cons; focus (first | ((repeat (first | with_reducible exact Tk.here | with_reducible apply Tk.there)); done) | ((repeat (first | exact Tk.here | apply Tk.there)); done))) | apply Sb.drop)) (v_named hfl) ct40 rfl fun r3 hr3 => ?_
  refine sv (vnot rfl) <| sv (vaB rfl) <| WL.nil <| WX.thenN <| ?_
  refine WC.iteb rfl (fun h1 => ?_) (fun h1 => ?_)
  · -- then
    have e : whyPut d k = (51, false) := by unfold whyPut; rw [if_pos (by simpa using h1)]
    rw [e]
    exact WC.seq <| WC.region <| sv (vaI rfl) <| sv (vaB rfl) <| WL.nil <| WX.thenN <| WC.ret <| WX.blockR <| WX.thenR <| WX.ret2 rfl (()) (trivial) rfl (fun w h => by have h2 := hfold (Own.sp4 (by repeat' (first | exact Spl.nil | (apply Spl.cons; focus (first | ((repeat (first | with_reducible exact Tk.here | with_reducible apply Tk.there)); done) | ((repeat (first | exact Tk.here | apply Tk.there)); done))))) h); exact Sb.own (by repeat' (first | with_reducible exact Sb.all | exact Sb.nil | (apply Sb.cons; focus (first | ((repeat (first | with_reducible exact Tk.here | with_reducible apply Tk.there)); done) | ((repeat (first | exact Tk.here | apply Tk.there)); done))) | apply Sb.drop)) h2)
  · -- else
    have hnm : vName k.flow := by simpa using h1
    refine WC.cutS [(13, .bool (decide (¬ (cntP k.num ∧ mayP k.kind k.n))))] [(0, .pointer _), (3, _)] ⟨rfl, rfl, trivial⟩ ?_ fun ρh => ?_
    · -- vault.go:44
      refine WC.region <| sv (vfldp fl62f1 rfl) <| sv (vldc pl3 rfl) <| clx (by repeat' (first | with_reducible exact Sb.all | exact Sb.nil | (apply Sb.cons; focus (first | ((repeat (first | with_reducible exact Tk.here | with_reducible apply Tk.there)); done) | ((repeat (first | exact Tk.here | apply Tk.there)); done))) | apply Sb.drop)) (v_counts) ct41 rfl fun r5 hr5 => ?_
      refine svb (vnot rfl) (fun q1 => ?_) (fun q1 => ?_)
      ·
        exact sv (vmB rfl) <| sng rfl <| sng rfl <| sng rfl <| sng rfl <| sv (vpkt rfl) <| sv (vaB rfl) <| WL.nil <| WX.mid () trivial ⟨bT (fun h => by simp [h.1] at q1), trivial⟩ ⟨rfl, rfl, trivial⟩ (fun _ h => Sb.own (by repeat' (first | with_reducible exact Sb.all | exact Sb.nil | (apply Sb.cons; focus (first | ((repeat (first | with_reducible exact Tk.here | with_reducible apply Tk.there)); done) | ((repeat (first | exact Tk.here | apply Tk.there)); done))) | apply Sb.drop)) h)
      ·
        refine sv (vmB rfl) <| svg rfl (vfldp fl62f2 rfl) <| svg rfl (vldap (i := 2) (cs := [.int .i64 k.kind, .int .i64 k.n]) ag24 sz24 rfl rfl rfl (by decide)) <| gy rfl <| clx (by repeat' (first | with_reducible exact Sb.all | exact Sb.nil | (apply Sb.cons; focus (first | ((repeat (first | with_reducible exact Tk.here | with_reducible apply Tk.there)); done) | ((repeat (first | exact Tk.here | apply Tk.there)); done))) | apply Sb.drop)) (v_may) ct42 rfl fun r7 hr7 => ?_
        exact svg rfl (vnot rfl) <| sv (vpkf rfl) <| sv (vaB rfl) <| WL.nil <| WX.mid () trivial ⟨bB (by have hc : cntP k.num := by { simpa using q1 }; simp [hc]), trivial⟩ ⟨rfl, rfl, trivial⟩ (fun _ h => Sb.own (by repeat' (first | with_reducible exact Sb.all | exact Sb.nil | (apply Sb.cons; focus (first | ((repeat (first | with_reducible exact Tk.here | with_reducible apply Tk.there)); done) | ((repeat (first | exact Tk.here | apply Tk.there)); done))) | apply Sb.drop)) h)
    refine WC.ite rfl (fun h2 => ?_) (fun h2 => ?_)
    · -- then
      have e : whyPut d k = (1, false) := by unfold whyPut; rw [if_neg (fun h => h hnm), if_pos h2]
      rw [e]
      exact WC.seq <| WC.region <| sv (vaI rfl) <| sv (vaB rfl) <| WL.nil <| WX.thenN <| WC.ret <| WX.blockR <| WX.thenR <| WX.ret2 rfl (()) (trivial) rfl (fun w h => by have h2 := hfold (Own.sp4 (by repeat' (first | exact Spl.nil | (apply Spl.cons; focus (first | ((repeat (first | with_reducible exact Tk.here | with_reducible apply Tk.there)); done) | ((repeat (first | exact Tk.here | apply Tk.there)); done))))) h); exact Sb.own (by repeat' (first | with_reducible exact Sb.all | exact Sb.nil | (apply Sb.cons; focus (first | ((repeat (first | with_reducible exact Tk.here | with_reducible apply Tk.there)); done) | ((repeat (first | exact Tk.here | apply Tk.there)); done))) | apply Sb.drop)) h2)
    · -- else
      refine WC.seq <| WC.draws rfl (by kernel_rfl) <| qv (vfldp fl62f1 rfl) <| qv (vldc pl3 rfl) <| qv (vmP rfl) <| qv (vnil rfl) <| qv (vfldp fl56f1 rfl) <| qv (vldc pl54 rfl) <| qv (vfldpz fl62f0 rfl) <| qv (vldc pl9 rfl) <| qv (vlk1S Tryd.underlying54 Tryd.underlying9 zt3 rfl rfl trivial hfb) <| qv (vlt rfl rfl) <| qv (vaB rfl) <| WQ.nil <| WX.thenN <| ?_
      refine WC.ite rfl (fun h3 => ?_) (fun h3 => ?_)
      · -- then
        have e : whyPut d k = (7, false) := by unfold whyPut; rw [if_neg (fun h => h hnm), if_neg h2, if_pos h3]
        rw [e]
        exact WC.seq <| WC.region <| sv (vaI rfl) <| sv (vaB rfl) <| WL.nil <| WX.thenN <| WC.ret <| WX.blockR <| WX.thenR <| WX.ret2 rfl (()) (trivial) rfl (fun w h => by have h2 := hfold (Own.sp4 (by repeat' (first | exact Spl.nil | (apply Spl.cons; focus (first | ((repeat (first | with_reducible exact Tk.here | with_reducible apply Tk.there)); done) | ((repeat (first | exact Tk.here | apply Tk.there)); done))))) h); exact Sb.own (by repeat' (first | with_reducible exact Sb.all | exact Sb.nil | (apply Sb.cons; focus (first | ((repeat (first | with_reducible exact Tk.here | with_reducible apply Tk.there)); done) | ((repeat (first | exact Tk.here | apply Tk.there)); done))) | apply Sb.drop)) h2)
      · -- else
        have e : whyPut d k = (0, (d.parts k).isNone) := by unfold whyPut; rw [if_neg (fun h => h hnm), if_neg h2, if_neg h3]
        rw [e]
        exact WC.skip <| WX.blockN <| WX.thenN <| WC.seq <| WC.draws rfl (by kernel_rfl) <| qv (vmP rfl) <| qv (vnil rfl) <| qv (vfldpz fl56f0 rfl) <| qv (vldc pl53 rfl) <| qv (vldac ag62 sz62 rfl rfl (by decide)) <| qv (vlk2K Tryd.underlying53 place_law zt25 rfl rfl (kp_ok hk) hgv) <| qv vmv <| qv (vex rfl rfl) <| qv (vex rfl rfl) <| qv (vaS rfl) <| qv (vaB rfl) <| WQ.nil <| WX.thenN <| WC.seq <| WC.region <| sv (vmB rfl) <| sv (vnot rfl) <| sv (vaI rfl) <| sv (vaB rfl) <| WL.nil <| WX.thenN <| WC.ret <| WX.ret2 rfl (()) (trivial) (by show Value.tuple #[.int .i64 0, .bool (!(d.parts k).isSome)] = _; cases d.parts k <;> rfl) (fun w h => by have h2 := hfold (Own.sp4 (by repeat' (first | exact Spl.nil | (apply Spl.cons; focus (first | ((repeat (first | with_reducible exact Tk.here | with_reducible apply Tk.there)); done) | ((repeat (first | exact Tk.here | apply Tk.there)); done))))) h); exact Sb.own (by repeat' (first | with_reducible exact Sb.all | exact Sb.nil | (apply Sb.cons; focus (first | ((repeat (first | with_reducible exact Tk.here | with_reducible apply Tk.there)); done) | ((repeat (first | exact Tk.here | apply Tk.there)); done))) | apply Sb.drop)) h2)
theorem v_drops {w0 : World} {A : List HProp} {v j : Nat} {down : Bool} {d : VD} {f : ByteArray} {n : Int} (hf : f.size ≤ 140737488351232) : Fun Tryd.prog w0 26 [.pointer (some ⟨v, 0, none⟩), .string f, .int .i64 n] (pv v j down d :: A) (Ret w0 (fun _ : Unit => True) (fun _ => .tuple #[.int .i64 (whyDrop d f n).1, .bool (whyDrop d f n).2]) (fun _ => pv v j down d :: A)) := by
  refine Fun.ex (fun w h => pv_open h) ?_
  rintro ⟨mp, mf, l, fl⟩ hi
  obtain ⟨fb, hfb⟩ := fents_get fl f
  rw [hi.floor] at hfb
  have hfold : ∀ {w : World} {B : List HProp}, Own w0 (cel v (vcl ⟨mp, mf, l, fl⟩ j down) 56 :: mpk KP mp (pents l) :: Sl.mp .string mf (fents fl) :: rows 5 (l.map Prod.snd) :: B) w → Own w0 (pv v j down d :: B) w := fun h => pv_mk hi h
  dsimp only [vcl] at hfold ⊢
  refine Fun.enter Tryd.func26 rfl Tryd.ntmps26 rfl ?_
  refine WC.seq <| WC.region <| sv (vaI rfl) <| sv (vaB rfl) <| WL.nil <| WX.thenN <| WC.seq <| WC.block <| WC.seq <| WC.region <| sv (vmT rfl) <| clx (by repeat' (first | with_reducible exact Sb.all | exact Sb.nil | (apply Sb.cons; focus (first | ((repeat (first | with_reducible exact Tk.here | with_reducible apply Tk.there)); done) | ((repeat (first | exact Tk.here | apply Tk.there)); done))) | apply Sb.drop)) (v_named hf) ct40 rfl fun r1 hr1 => ?_
  refine sv (vnot rfl) <| sv (vaB rfl) <| WL.nil <| WX.thenN <| ?_
  refine WC.iteb rfl (fun h1 => ?_) (fun h1 => ?_)
  · -- then
    have e : whyDrop d f n = (51, false) := by unfold whyDrop; rw [if_pos (by simpa using h1)]
    rw [e]
    exact WC.seq <| WC.region <| sv (vaI rfl) <| sv (vaB rfl) <| WL.nil <| WX.thenN <| WC.ret <| WX.blockR <| WX.thenR <| WX.ret2 rfl (()) (trivial) rfl (fun w h => by have h2 := hfold (Own.sp4 (by repeat' (first | exact Spl.nil | (apply Spl.cons; focus (first | ((repeat (first | with_reducible exact Tk.here | with_reducible apply Tk.there)); done) | ((repeat (first | exact Tk.here | apply Tk.there)); done))))) h); exact Sb.own (by repeat' (first | with_reducible exact Sb.all | exact Sb.nil | (apply Sb.cons; focus (first | ((repeat (first | with_reducible exact Tk.here | with_reducible apply Tk.there)); done) | ((repeat (first | exact Tk.here | apply Tk.there)); done))) | apply Sb.drop)) h2)
  · -- else
    have hnm : vName f := by simpa using h1
    refine WC.seq <| WC.region <| sv (vmI rfl) <| clx (by repeat' (first | with_reducible exact Sb.all | exact Sb.nil | (apply Sb.cons; focus (first | ((repeat (first | with_reducible exact Tk.here | with_reducible apply Tk.there)); done) | ((repeat (first | exact Tk.here | apply Tk.there)); done))) | apply Sb.drop)) (v_counts) ct41 rfl fun r2 hr2 => ?_
    refine sv (vnot rfl) <| sv (vaB rfl) <| WL.nil <| WX.thenN <| ?_
    refine WC.iteb rfl (fun h2 => ?_) (fun h2 => ?_)
    · -- then
      have e : whyDrop d f n = (1, false) := by unfold whyDrop; rw [if_neg (fun h => h hnm), if_pos (by simpa using h2)]
      rw [e]
      exact WC.seq <| WC.region <| sv (vaI rfl) <| sv (vaB rfl) <| WL.nil <| WX.thenN <| WC.ret <| WX.blockR <| WX.thenR <| WX.ret2 rfl (()) (trivial) rfl (fun w h => by have h2 := hfold (Own.sp4 (by repeat' (first | exact Spl.nil | (apply Spl.cons; focus (first | ((repeat (first | with_reducible exact Tk.here | with_reducible apply Tk.there)); done) | ((repeat (first | exact Tk.here | apply Tk.there)); done))))) h); exact Sb.own (by repeat' (first | with_reducible exact Sb.all | exact Sb.nil | (apply Sb.cons; focus (first | ((repeat (first | with_reducible exact Tk.here | with_reducible apply Tk.there)); done) | ((repeat (first | exact Tk.here | apply Tk.there)); done))) | apply Sb.drop)) h2)
    · -- else
      have e : whyDrop d f n = (0, decide (d.floors f < n)) := by unfold whyDrop; rw [if_neg (fun h => h hnm), if_neg (by simpa using h2)]
      rw [e]
      exact WC.skip <| WX.blockN <| WX.thenN <| WC.seq <| WC.draws rfl (by kernel_rfl) <| qv (vmI rfl) <| qv (vmP rfl) <| qv (vnil rfl) <| qv (vfldp fl56f1 rfl) <| qv (vldc pl54 rfl) <| qv (vmT rfl) <| qv (vlk1S Tryd.underlying54 Tryd.underlying9 zt3 rfl rfl trivial hfb) <| qv (vgt rfl rfl) <| qv (vaI rfl) <| qv (vaB rfl) <| WQ.nil <| WX.thenN <| WC.ret <| WX.ret2 rfl (()) (trivial) rfl (fun w h => by have h2 := hfold (Own.sp4 (by repeat' (first | exact Spl.nil | (apply Spl.cons; focus (first | ((repeat (first | with_reducible exact Tk.here | with_reducible apply Tk.there)); done) | ((repeat (first | exact Tk.here | apply Tk.there)); done))))) h); exact Sb.own (by repeat' (first | with_reducible exact Sb.all | exact Sb.nil | (apply Sb.cons; focus (first | ((repeat (first | with_reducible exact Tk.here | with_reducible apply Tk.there)); done) | ((repeat (first | exact Tk.here | apply Tk.there)); done))) | apply Sb.drop)) h2)
end Go.Proofs.YthljpljbpbkkcaaDoor
