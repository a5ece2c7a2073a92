/- Part of the proofs of the statements of this seat. -/
import Derived.Test.YthfdbepkalpplaaUnF4G
import Derived.Test.YthfdbepkalpplaaUnU2G
import Derived.Test.YthfdbepkalpplaaUnT5G
import Derived.Test.YthfdbepkalpplaaUnE1G
set_option maxRecDepth 10000
set_option linter.unusedVariables false
set_option linter.unusedSimpArgs false
namespace Go.Fr.Try
open Go Go.RowKit Go.Proofs Go.Fr Go.Fr.T Go.Fr.Api
theorem enterT {Lin:List TO} {Li:List Own} {F:Frz} {args:List C} {vs:List Value} {w:World} (m:Nat) (hl:Li.length = Lin.length) (htl:RelTL F (inp Li) (tinp Lin)) (ha:Rels F (inp Li) args vs) (hs:St F (inp Li) w) :
  ∃ (G:Nat → Option (Nat × TypeId)) (ρ0:Env),EnvOk (inp Li) ρ0 { tmps:=vs.toArray ++ Array.replicate m undef,defers:=[] } ∧ TS G F (inp Li) ρ0 (tinp Lin) (argT 0 args) ∧ (∀ k g t cs,(inp Li).get k = some (.box g t cs) → G k = some (g,t)):=by
 have hla:=ha.len
 have key:∀ j,∃ sv,RelV F (inp Li) (argT 0 args j) sv ∧ conc (inp Li) sv = (vs.toArray ++ Array.replicate m undef).getD j undef ∧ (∀ k off,sv = .own k off → ∃ g t cs,(inp Li).get k = some (.box g t cs)) ∧ (∀ ad i,sv = .el ad i → ad ≠ none):=by
  intro j
  rw [argT_get]
  simp only [Nat.zero_le,if_true,Nat.sub_zero,Array.getD_eq_getD_getElem?]
  cases e:args[j]? with
  | some c =>
   have hlt:j < vs.length:=by rw [hla]; exact (List.getElem?_eq_some_iff.1 e).1
   obtain ⟨s1,s2,s3,s4⟩:=svOf_ok (ha.at e (List.getElem?_eq_getElem hlt))
   refine ⟨_,s1,?_,s3,fun ad i e => absurd e (s4 ad i)⟩
   rw [s2,Array.getElem?_append_left (by simpa using hlt)]
   simp [hlt]
  | none =>
   have hge:vs.length ≤ j:=by rw [hla]; exact List.getElem?_eq_none_iff.1 e
   refine ⟨.v undef,relV_und,?_,fun _ _ e => (by cases e),fun _ _ e => (by cases e)⟩
   rw [Array.getElem?_append_right (by simpa using hge)]
   simp only [Array.getElem?_replicate,conc]
   split <;> rfl
 let ρ0:Env:=fun j => (key j).choose
 have he:EnvOk (inp Li) ρ0 { tmps:=vs.toArray ++ Array.replicate m undef,defers:=[] } :=
  ⟨fun t => (key t).choose_spec.2.1.symm,fun t k off e => (key t).choose_spec.2.2.1 k off e,fun t ad j e => (key t).choose_spec.2.2.2 ad j e⟩
 let G:Nat → Option (Nat × TypeId):=fun k => match (inp Li).get k with | some (.box g t _) => some (g,t) | _ => none
 have hG1:∀ k g t cs,(inp Li).get k = some (.box g t cs) → G k = some (g,t):=fun k g t cs e => by simp only [G,e]
 have hkp:Kp G (inp Li):=by
  intro k g t e
  simp only [G] at e
  split at e
  ·rename_i g' t' cs h
   injection e with e
   injection e with e1 e2
   subst e1 e2
   exact ⟨cs,h⟩
  ·cases e
 exact ⟨G,ρ0,he,⟨htl,fun j => (key j).choose_spec.1,hkp,hs.glob⟩,hG1⟩
structure FV (s:List Ty) (Lin:List TO) (Mh:DM → OM → TL) (Sd:DM → OM → List TO):Prop where
 len:∀ (F:Frz) (L:Loc),RelTL F L (tinp Lin) → s.length ≤ 9223372036854775807
 pre:s.length ≤ 9223372036854775807 → ∀ (e:Int) (PS:Value → Prop),(s.all (elemOk s.length) = false → PS (failV 1)) →
  evalTC P ⟨PS,[]⟩ (.seq z0 (.seq z1 z8)) (fun _ _ _ => False) (fun _ _ => False) (fun M τ => s.all (elemOk s.length) = true ∧ HS (Mh [] []) e s.length 0 M τ) (tinp Lin) (argT 0 [.own 1000 0,IC e])
 it:∀ (n:Nat) (PS:Value → Prop) (e:Int) (i:Nat) (d:DM) (o:OM) (r1:Option (Int × DM × OM)),deepF s n (vr i) d o = some r1 → (r1 = none → PS (failV 1)) →
  evalTC P ⟨PS,[]⟩ (.seq z10 z11) (fun _ _ _ => False) (fun _ _ => False) (fun M τ => ∃ k d' o',r1 = some (k,d',o') ∧ HS (Mh d' o') e s.length i M τ ∧ τ 67 = .bool (decide (k > 8))) (Mh d o) (hE e s.length i)
 ret:∀ (d:DM) (o:OM) (R:List TO → C → Prop),R (Sd d o) (.tup []) → RetT Lin (Mh d o) (.tup []) R
theorem chn_go {v:Value} {ch:List PanicEntry} (h:Chn v ch):∀ e ∈ ch,e.goexit = false:=by
 obtain ⟨older,rfl,h⟩:=h
 intro e he
 rcases List.mem_cons.1 he with rfl | he
 ·rfl
 ·exact h e he
theorem formR_last {s:List Ty} {n:Nat} {r:Option (DM × OM)} (hr:formR s n = some r) (ha:s.all (elemOk s.length) = true) :
  ∃ y,formL s n s.length = some y ∧ (y = none → r = none) ∧ (∀ d o,y = some (true,d,o) → r = none) ∧ ∀ d o,y = some (false,d,o) → r = some (d,o):=by
 unfold formR at hr
 rw [if_pos ha] at hr
 cases hf:formL s n s.length with
 | none => simp only [hf] at hr; cases hr
 | some y =>
  refine ⟨y,rfl,?_,?_,?_⟩
  ·rintro rfl
   simp only [hf] at hr; injection hr with hr; exact hr.symm
  ·rintro d o rfl
   simp only [hf,if_true] at hr; injection hr with hr; exact hr.symm
  ·rintro d o rfl
   simp only [hf] at hr
   rw [if_neg (by decide)] at hr
   injection hr with hr; exact hr.symm
theorem formR_all {s:List Ty} {n:Nat} {r:Option (DM × OM)} (hr:formR s n = some r) (ha:s.all (elemOk s.length) = false):r = none:=by
 unfold formR at hr
 rw [if_neg (by rw [ha]; exact Bool.false_ne_true)] at hr
 injection hr with hr; exact hr.symm
theorem formed_all {s:List Ty} {Lin:List TO} {Mh:DM → OM → TL} {Sd:DM → OM → List TO} (V:FV s Lin Mh Sd) (e:Int) (n:Nat) (r:Option (DM × OM)) (hr:formR s n = some r) :
  CallsTX P 58 [.own 1000 0,IC e] Lin (fun Mo v => ∃ d o,r = some (d,o) ∧ Mo = Sd d o ∧ v = .tup []) (PF e r):=by
 refine ⟨fun F Li vs hl htl ha => ⟨⟨Try.f58,Try.func58,by rw [kBody_eq]; rfl,by kernel_rfl⟩,ResA.mono',fun w hs => ?_⟩⟩
 have hlen:=V.len F _ htl
 have hnt:Try.f58.ntmps = 72:=by kernel_rfl
 have hvl:vs.length = 2:=by have:=ha.len; simpa using this
 obtain ⟨G,ρ0,he,ht,hG1⟩:=enterT (72 - vs.toArray.size) hl htl ha hs
 refine calls_of_wp_pan (t:=98) (x:=.agg #[.int .i64 e]) Try.func58 kBody_eq ?_
 rw [hnt]
 generalize hR:(fun (en:Ending) (w':World) => (∃ v F' Lo,en = .returned v ∧ St F' (inp Lo) w' ∧ Step F (inp Li) w F' (inp Lo) w' ∧ ResA Li (fun Mo v => ∃ d o,r = some (d,o) ∧ Mo = Sd d o ∧ v = .tup []) F' Lo v) ∨
  ∃ v ch F' Lo,en = .panicked ch ∧ Chn v ch ∧ St F' (inp Lo) w' ∧ Step F (inp Li) w F' (inp Lo) w' ∧ Lo.length = Li.length ∧ (∀ (i:Nat) g t cs,Li[i]? = some (.box g t cs) → ∃ cs',Lo[i]? = some (.box g t cs')) ∧ PF e r v) = RR
 have Rp:∀ v ch w',Chn v ch → PF e r v → (∃ F' L',St F' L' w' ∧ Step F (inp Li) w F' L' w' ∧ Kp G L') → RR (.panicked ch) w':=by
  rintro v ch w' hc hp ⟨F',L',g1,g2,kp⟩
  obtain ⟨Lo,q1,q2,q3,q4⟩:=panic_back g1 g2 (fun i g t cs hi => kp (1000 + i) g t (hG1 _ g t cs (by rw [inp_get,if_pos (by omega),show 1000 + i - 1000 = i by omega]; exact hi)))
  rw [← hR]
  exact .inr ⟨v,ch,F',Lo,rfl,hc,q1,q2,q3,q4,hp⟩
 have pf1:r = none → PF e r (failV 1):=fun h => ⟨h,1,.inl rfl,rfl⟩
 have pfe:r = none → PF e r (failV e):=fun h => ⟨h,e,.inr rfl,rfl⟩
 have M0:MS G F Li w (fun M τ => M = tinp Lin ∧ τ = argT 0 [.own 1000 0,IC e]) { tmps:=vs.toArray ++ Array.replicate (72 - vs.toArray.size) undef,defers:=[] } w :=
  ⟨F,inp Li,ρ0,_,_,hs,he,ht,by simp [hvl],Step.refl _ _ _,rfl,rfl⟩
 generalize ha0:({ tmps:=vs.toArray ++ Array.replicate (72 - vs.toArray.size) undef,defers:=[] }:Act) = a0 at M0
 have hd0:a0.defers = []:=by rw [← ha0]
 -- what a panic of a piece means
 have pan:∀ (v:Value) (ch:List PanicEntry) (a':Act) (w':World),Chn v ch → (r = none ∧ v = failV 1) → (∀ dd ∈ a'.defers,dd = dpan (failV e)) → (∃ F' L',St F' L' w' ∧ Step F (inp Li) w F' L' w' ∧ Kp G L') → bodyPostP P Try.f58 (failV e) RR (.panic ch) a' w':=by
  rintro v ch a' w' hc ⟨hrn,rfl⟩ hdd hst
  exact ⟨hdd,fun _ => Rp _ _ _ hc (pf1 hrn) hst,fun _ => ⟨chn_go hc,fun ch' hc' => Rp _ _ _ hc' (pfe hrn) hst⟩⟩
 have dd0:∀ {a':Act},a'.defers = [] → ∀ dd ∈ a'.defers,dd = dpan (failV e):=fun h dd hd => by rw [h] at hd; cases hd
 have hpre:=V.pre hlen e (fun v => r = none ∧ v = failV 1) fun h => ⟨formR_all hr h,rfl⟩
 refine wp_seq (MS.piece low0 rfl M0 (PS:=⟨fun v => r = none ∧ v = failV 1,[]⟩) (E:=fun _ _ _ => False) (N:=fun M τ => evalTC P ⟨fun v => r = none ∧ v = failV 1,[]⟩ (.seq z1 z8) (fun _ _ _ => False) (fun _ _ => False) (fun M τ => s.all (elemOk s.length) = true ∧ HS (Mh [] []) e s.length 0 M τ) M τ)
  (fun M τ q => by rw [q.1,q.2]; exact hpre) (fun a1 w1 hd1 M1 => ?_) (fun j a' w' _ h => (by obtain ⟨_,_,_,_,_,_,_,_,_,_,h⟩:=h; exact h.elim)) (fun v ch a' w' hc hd hp hst => pan v ch a' w' hc hp (dd0 (hd.trans hd0)) hst))
 have hd1:=hd1.trans hd0
 refine wp_seq (MS.piece low1 rfl M1 (PS:=⟨fun v => r = none ∧ v = failV 1,[]⟩) (E:=fun _ _ _ => False) (N:=fun M τ => evalTC P ⟨fun v => r = none ∧ v = failV 1,[]⟩ z8 (fun _ _ _ => False) (fun _ _ => False) (fun M τ => s.all (elemOk s.length) = true ∧ HS (Mh [] []) e s.length 0 M τ) M τ)
  (fun M τ q => q) (fun a2 w2 hd2 M2 => ?_) (fun j a' w' _ h => (by obtain ⟨_,_,_,_,_,_,_,_,_,_,h⟩:=h; exact h.elim)) (fun v ch a' w' hc hd hp hst => pan v ch a' w' hc hp (dd0 (hd.trans hd1)) hst))
 have hd2:=hd2.trans hd1
 refine wp_seq (MS.piece low8 rfl M2 (PS:=⟨fun v => r = none ∧ v = failV 1,[]⟩) (E:=fun _ _ _ => False) (N:=fun M τ => s.all (elemOk s.length) = true ∧ HS (Mh [] []) e s.length 0 M τ)
  (fun M τ q => q) (fun a3 w3 hd3 M3 => ?_) (fun j a' w' _ h => (by obtain ⟨_,_,_,_,_,_,_,_,_,_,h⟩:=h; exact h.elim)) (fun v ch a' w' hc hd hp hst => pan v ch a' w' hc hp (dd0 (hd.trans hd2)) hst))
 have hd3:=hd3.trans hd2
 have hall:s.all (elemOk s.length) = true:=by obtain ⟨_,_,_,_,_,_,_,_,_,_,h⟩:=M3; exact h.1
 obtain ⟨y,hy,yn,yb,yo⟩:=formR_last hr hall
 have M3:=M3.weak fun M τ q => q.2
 refine wp_block (wp_loop_n (fun m a1 w1 => ∃ (i:Nat) (b:Bool) (d:DM) (o:OM),m = s.length - i ∧ i ≤ s.length ∧ formL s n i = some (some (b,d,o)) ∧ MS G F Li w (fun M τ => M = Mh d o ∧ τ = hE e s.length i) a1 w1 ∧ (∀ dd ∈ a1.defers,dd = dpan (failV e)) ∧ (b = true → a1.defers ≠ []) ∧ (b = false → a1.defers = [])) ?_ ?_)
 ·exact ⟨_,0,false,[],[],rfl,Nat.zero_le _,rfl,M3,dd0 hd3,(fun h => by cases h),fun _ => hd3⟩
 rintro m a4 w4 ⟨i,b,d,o,rfl,hi,hf,M4,dd4,hb1,hb2⟩
 have hhd:=fhead (fun v => r = none ∧ v = failV 1) (Mh d o) e s.length i
 have done:∀ (j:Nat) (a':Act) (w':World),a'.defers = a4.defers → MS G F Li w (fun M τ => j = 2 ∧ ¬ i < s.length ∧ HS (Mh d o) e s.length i M τ) a' w' → Exit.inBlock 2 (bodyPostP P Try.f58 (failV e) RR) (.exit j) a' w':=by
  rintro j a' w' hd ⟨F',L',ρ',M',τ',g1,g2,g3,g4,g5,rfl,hlt,hM,_⟩
  have hil:i = s.length:=by omega
  rw [hil,hy] at hf
  injection hf with hf
  simp only [Exit.inBlock,if_true]
  refine ⟨hd ▸ dd4,fun hnil => ?_,fun hne ch hc => ?_⟩
  ·have hb:b = false:=by
    cases b with
    | false => rfl
    | true => exact absurd (hd ▸ hnil) (hb1 rfl)
   subst hb
   have hrs:=yo d o hf
   have hq:=fin_T (P:=P) (fn:=Try.f58) (rs:=[]) (n:=72) (asg:=[]) (a0:=a') (a':=a') (w':=w') (R:=fun Mo v => ∃ d o,r = some (d,o) ∧ Mo = Sd d o ∧ v = .tup []) (by kernel_rfl) hl htl hG1
    ⟨F',L',ρ',g1,g2,g4,rfl,g5,fun _ _ => rfl,M',τ',g3,by rw [hM]; exact V.ret d o _ ⟨d,o,hrs,rfl,rfl⟩⟩
   obtain ⟨_,v,k2,F2,Lo,k3,k4,k5⟩:=hq
   exact ⟨v,k2,by rw [← hR]; exact .inl ⟨v,F2,Lo,rfl,k3,k4,k5⟩⟩
  ·have hb:b = true:=by
    cases b with
    | true => rfl
    | false => exact absurd (hd.trans (hb2 rfl)) hne
   subst hb
   exact Rp _ _ _ hc (pfe (yb d o hf)) ⟨F',L',g1,g5,g3.kp⟩
 refine wp_seq (MS.piece low9 rfl M4 (PS:=⟨fun v => r = none ∧ v = failV 1,[]⟩) (E:=fun j M τ => j = 2 ∧ ¬ i < s.length ∧ HS (Mh d o) e s.length i M τ) (N:=fun M τ => evalTC P ⟨fun v => r = none ∧ v = failV 1,[]⟩ zc (fun j M τ => j = 2 ∧ ¬ i < s.length ∧ HS (Mh d o) e s.length i M τ) (fun _ _ => False) (fun M τ => i < s.length ∧ HS (Mh d o) e s.length i M τ) M τ)
  (fun M τ q => by rw [q.1,q.2]; exact hhd) (fun a5 w5 hd5 M5 => ?_) (fun j a' w' hd h => done j a' w' hd h) (fun v ch a' w' hc hd hp hst => pan v ch a' w' hc hp (hd ▸ dd4) hst))
 refine wp_seq (MS.piece lowc rfl M5 (PS:=⟨fun v => r = none ∧ v = failV 1,[]⟩) (E:=fun j M τ => j = 2 ∧ ¬ i < s.length ∧ HS (Mh d o) e s.length i M τ) (N:=fun M τ => i < s.length ∧ HS (Mh d o) e s.length i M τ)
  (fun M τ q => q) (fun a6 w6 hd6 M6 => ?_) (fun j a' w' hd h => ?_) (fun v ch a' w' hc hd hp hst => pan v ch a' w' hc hp (hd.trans hd5 ▸ dd4) hst))
 ·-- a variable more
  have hd6:=hd6.trans hd5
  have hlt:i < s.length:=by obtain ⟨_,_,_,_,_,_,_,_,_,_,h⟩:=M6; exact h.1
  have M6:=M6.weak fun M τ q => q.2
  obtain ⟨y1,hy1⟩:=formL_some hy (i + 1) hlt
  obtain ⟨r1,hr1,hn1,hs1⟩:=formL_step hf hy1
  have hit:=V.it n (fun v => r = none ∧ v = failV 1) e i d o r1 hr1 (fun h => by
   have h1:=formL_none (hy1.trans (congrArg some (hn1 h))) (s.length - (i + 1))
   rw [show i + 1 + (s.length - (i + 1)) = s.length by omega,hy] at h1
   injection h1 with h1
   exact ⟨yn h1,rfl⟩)
  refine wp_seq (wp_block (wp_seq (MS.piece low10 rfl M6 (PS:=⟨fun v => r = none ∧ v = failV 1,[]⟩) (E:=fun _ _ _ => False) (N:=fun M τ => evalTC P ⟨fun v => r = none ∧ v = failV 1,[]⟩ z11 (fun _ _ _ => False) (fun _ _ => False) (fun M τ => ∃ k d' o',r1 = some (k,d',o') ∧ HS (Mh d' o') e s.length i M τ ∧ τ 67 = .bool (decide (k > 8))) M τ)
   (fun M τ q => by rw [q.1,q.2]; exact hit) (fun a7 w7 hd7 M7 => ?_) (fun j a' w' _ h => (by obtain ⟨_,_,_,_,_,_,_,_,_,_,h⟩:=h; exact h.elim)) (fun v ch a' w' hc hd hp hst => pan v ch a' w' hc hp (hd.trans hd6 ▸ dd4) hst))))
  have hd7:=hd7.trans hd6
  refine wp_seq (MS.piece low11 rfl M7 (PS:=⟨fun v => r = none ∧ v = failV 1,[]⟩) (E:=fun _ _ _ => False) (N:=fun M τ => ∃ k d' o',r1 = some (k,d',o') ∧ HS (Mh d' o') e s.length i M τ ∧ τ 67 = .bool (decide (k > 8)))
   (fun M τ q => q) (fun a8 w8 hd8 M8 => ?_) (fun j a' w' _ h => (by obtain ⟨_,_,_,_,_,_,_,_,_,_,h⟩:=h; exact h.elim)) (fun v ch a' w' hc hd hp hst => pan v ch a' w' hc hp (hd.trans hd7 ▸ dd4) hst))
  have hd8:=hd8.trans hd7
  have hk:∃ k d' o',r1 = some (k,d',o'):=by
   obtain ⟨_,_,_,_,_,_,_,_,_,_,k,d',o',h,_⟩:=M8
   exact ⟨k,d',o',h⟩
  obtain ⟨k,d',o',rfl⟩:=hk
  have M8:MS G F Li w (fun M τ => HS (Mh d' o') e s.length i M τ ∧ τ 67 = .bool (decide (k > 8))) a8 w8:=M8.mono fun M τ ⟨k1,d1,o1,h,q⟩ => by
   injection h with h
   injection h with h1 h2
   injection h2 with h2 h3
   subst h1 h2 h3
   exact q
  have h67:=M8.bool (j:=67) fun M τ q => q.2
  have h1e:=M8.int (j:=1) fun M τ q => q.1.2.2.1
  have hsz8:a8.tmps.size = 72:=by obtain ⟨_,_,_,_,_,_,_,_,h,_⟩:=M8; exact h
  have M8:=M8.weak fun M τ q => q.1
  -- the end of a round
  have fin:∀ (a9:Act),MS G F Li w (fun M τ => M = Mh d' o' ∧ τ = hE e s.length i) a9 w8 → (∀ dd ∈ a9.defers,dd = dpan (failV e)) → ((b || decide (k > 8)) = true → a9.defers ≠ []) → ((b || decide (k > 8)) = false → a9.defers = []) →
    k13.wp P (Exit.then (fun a' w' => ∃ m,m < s.length - i ∧ ∃ (i:Nat) (b:Bool) (d:DM) (o:OM),m = s.length - i ∧ i ≤ s.length ∧ formL s n i = some (some (b,d,o)) ∧ MS G F Li w (fun M τ => M = Mh d o ∧ τ = hE e s.length i) a' w' ∧ (∀ dd ∈ a'.defers,dd = dpan (failV e)) ∧ (b = true → a'.defers ≠ []) ∧ (b = false → a'.defers = [])) (Exit.inBlock 2 (bodyPostP P Try.f58 (failV e) RR))) a9 w8:=by
   intro a9 M9 dd9 hb1 hb2
   have hnx:=fnext (fun v => r = none ∧ v = failV 1) (Mh d' o') e s.length i (by omega)
   refine MS.piece low13 rfl M9 (PS:=⟨fun v => r = none ∧ v = failV 1,[]⟩) (E:=fun _ _ _ => False) (N:=fun M τ => HS (Mh d' o') e s.length (i + 1) M τ)
    (fun M τ q => by rw [q.1,q.2]; exact hnx) (fun a10 w10 hd10 M10 => ?_) (fun j a' w' _ h => (by obtain ⟨_,_,_,_,_,_,_,_,_,_,h⟩:=h; exact h.elim)) (fun v ch a' w' hc hd hp hst => pan v ch a' w' hc hp (hd ▸ dd9) hst)
   refine ⟨s.length - (i + 1),by omega,i + 1,b || decide (k > 8),d',o',rfl,hlt,hy1.trans (congrArg some (hs1 k d' o' rfl)),M10.weak fun M τ q => q,hd10 ▸ dd9,hd10 ▸ hb1,hd10 ▸ hb2⟩
  refine wp_cond_split (t:=decide (k > 8)) h67 (fun hk => ?_) (fun hk => ?_)
  ·refine wp12 hsz8 h1e fun x y z => ?_
   refine fin _ (((M8.wr (by omega) (by omega) (by omega) (by omega) (by omega)).wr (by omega) (by omega) (by omega) (by omega) (by omega)).wr (by omega) (by omega) (by omega) (by omega) (by omega)).defers ?_ (fun _ h => by cases h) (fun h => by rw [hk,Bool.or_true] at h; cases h)
   intro dd hdd
   rcases List.mem_cons.1 hdd with rfl | hdd
   ·rfl
   ·rw [hd8] at hdd; exact dd4 dd hdd
  ·refine wp_skip ?_
   refine fin _ M8 (hd8 ▸ dd4) (fun h => ?_) (fun h => ?_)
   ·rw [hd8]; exact hb1 (by rw [hk,Bool.or_false] at h; exact h)
   ·rw [hd8]; exact hb2 (by rw [hk,Bool.or_false] at h; exact h)
 ·exact done j a' w' (hd.trans hd5) h
theorem lenU {s:List Ty} {F:Frz} {L:Loc} (h:RelTL F L (tinp (SU0 s))):s.length ≤ 9223372036854775807:=by
 have q:=h 1001
 have q:RelK F L (some (.row 32 3 (s.map tyC))) (L.get 1001):=q
 cases e:L.get 1001 with
 | none => rw [e] at q; exact q.elim
 | some o =>
  rw [e] at q
  cases o with
  | box => exact q.elim
  | row v t sz n xs =>
   obtain ⟨_,_,hn,⟨hm,_⟩,_⟩:=q
   rw [List.length_map] at hn
   simp only [maxLen] at hm
   omega
theorem lenF {s:List Ty} {F:Frz} {L:Loc} (h:RelTL F L (tinp (SF0 s))):s.length ≤ 9223372036854775807:=by
 have q:=h 1000
 have q:RelK F L (some (.box 93 [.sl (s.map tyC),.any,.any])) (L.get 1000):=q
 cases e:L.get 1000 with
 | none => rw [e] at q; exact q.elim
 | some o =>
  rw [e] at q
  cases o with
  | row => exact q.elim
  | box g t cs =>
   have q:=q.2
   simp only [Rels,Rel] at q
   obtain ⟨v,_,_,⟨a,c,_,_,hm,_⟩,_⟩:=q
   rw [List.length_map] at hm
   simp only [maxLen] at hm
   omega
theorem fvU (s:List Ty):FV s (SU0 s) (MhU s) (SUd s) :=
 ⟨fun F L h => lenU h,fun hlen e PS h => fpreU s e PS h hlen,fun n PS e i d o r1 h hp => fitU s PS e s.length i d o r1 (t64_U s n (vr i) d o r1 h) hp,fun d o R h => fretU s d o R h⟩
theorem fvF (s:List Ty):FV s (SF0 s) (MhF s) (SFd s) :=
 ⟨fun F L h => lenF h,fun hlen e PS h => fpreF s e PS h hlen,fun n PS e i d o r1 h hp => fitF s PS e s.length i d o r1 (t64_F s n (vr i) d o r1 h) hp,fun d o R h => fretF s d o R h⟩
theorem t58U (s:List Ty) (e:Int) {n:Nat} {r:Option (DM × OM)} (hr:formR s n = some r):Fm58 s e r:=formed_all (fvU s) e n r hr
theorem t58F (s:List Ty) (e:Int) {n:Nat} {r:Option (DM × OM)} (hr:formR s n = some r):Fm58f s e r:=formed_all (fvF s) e n r hr
theorem unify (n:Nat) (s:List Ty) (a b:Ty) (hl:s.length ≤ 2 ^ 30) (F:Fuel n s a b) (hda:dpt a ≤ 2 ^ 40) (hdb:dpt b ≤ 2 ^ 40)
  (hc:∀ s',U1G n s a b s' → s'.length ≤ 2 ^ 30 ∧ (∀ x ∈ s',TyB x) ∧ ∃ r,canonF s' n = some r):CallsT P 23 [.sl (s.map tyC),tyA a,tyA b] [] (RN n s a b) :=
 t23 n s a b hl F (fun s e r h => t58U s e h) hda hdb hc
theorem apply (s:List Ty) (n:Nat) (t r:Ty) (d:DM) (o:OM) (h:formR s n = some (some (d,o))) (hs:∀ x ∈ s,TyB x) (hb:TyB t) (hr:aplF s n t = some r):CallsT P 22 [.sl (s.map tyC),tyA t] [] (Ret [] (tyA r)) :=
 t22 s n t r d o (t58F s 1 h) hs hb hr
mutual
def gs (u:List Ty):Ty → Ty
 | .mk k i l => if k = 9 then (u[i.toNat]?).getD (.mk 0 0 []) else .mk k i (gsL u l)
def gsL (u:List Ty):List Ty → List Ty
 | [] => []
 | t :: l => gs u t :: gsL u l
end
theorem gsL_map (u:List Ty):∀ l:List Ty,gsL u l = l.map (gs u)
 | [] => rfl
 | t :: l => by rw [gsL,gsL_map u l]; rfl
theorem gs_eq (u:List Ty) (t:Ty):gs u t = if t.kind = 9 then (u[t.id.toNat]?).getD (.mk 0 0 []) else .mk t.kind t.id (t.args.map (gs u)):=by
 cases t
 rw [gs,gsL_map]
 rfl
theorem gs_var {u:List Ty} {t:Ty} (h:t.kind = 9):gs u t = (u[t.id.toNat]?).getD (.mk 0 0 []):=by rw [gs_eq,if_pos h]
theorem gs_arg {u:List Ty} {t:Ty} (h:¬ t.kind = 9):gs u t = .mk t.kind t.id (t.args.map (gs u)):=by rw [gs_eq,if_neg h]
theorem gs_same {u:List Ty} {t r:Ty} (h:t.kind = 9) (k:r.kind = 9) (e:t.id = r.id):gs u t = gs u r:=by rw [gs_var h,gs_var k,e]
structure Sat (u s:List Ty):Prop where
 len:u.length = s.length
 eq:∀ (i:Nat) (x:Ty),s[i]? = some x → ¬ x.kind = 0 → u[i]? = some (gs u x)
theorem Sat.elem {u s:List Ty} (h:Sat u s) {t x:Ty} (h9:t.kind = 9) (he:elemT s t = some x) (hk:¬ x.kind = 0):gs u x = gs u t:=by
 obtain ⟨_,e,_⟩:=elemT_some he
 rw [gs_var h9,h.eq _ x e hk]; rfl
theorem Sat.front {u s:List Ty} (h:Sat u s):∀ {n:Nat} {t r:Ty},frontF s n t = some r → gs u r = gs u t
 | 0,t,r,q => by cases q
 | n + 1,t,r,q => by
  rw [frontF] at q
  by_cases ht:t.kind = 9
  ·rw [if_pos ht] at q
   cases he:elemT s t with
   | none => rw [he] at q; cases q
   | some x =>
    rw [he] at q
    simp only at q
    by_cases hk:x.kind = 0
    ·rw [if_pos hk] at q; injection q with q; rw [q]
    ·rw [if_neg hk] at q; rw [h.front q,h.elem ht he hk]
  ·rw [if_neg ht] at q; injection q with q; rw [q]
theorem gs_lt {u:List Ty} {t y:Ty} (h9:¬ t.kind = 9) (hy:y ∈ t.args):SizeOf.sizeOf (gs u y) < SizeOf.sizeOf (gs u t):=by
 rw [gs_arg h9]
 exact ty_lt (x:=gs u y) (t:=.mk t.kind t.id (t.args.map (gs u))) (List.mem_map.2 ⟨y,hy,rfl⟩)
theorem Sat.occ {u s:List Ty} (h:Sat u s) {v:Int}:∀ {n:Nat} {t:Ty},occF s v n t = some true → SizeOf.sizeOf (gs u (.mk 9 v [])) ≤ SizeOf.sizeOf (gs u t) ∧ (¬ t.kind = 9 → SizeOf.sizeOf (gs u (.mk 9 v [])) < SizeOf.sizeOf (gs u t))
 | 0,t,q => by cases q
 | n + 1,t,q => by
  rw [occF] at q
  cases hf:frontF s n t with
  | none => rw [hf] at q; cases q
  | some r =>
   rw [hf] at q
   have e:=h.front hf
   simp only at q
   by_cases h9:r.kind = 9
   ·rw [if_pos h9] at q
    injection q with q
    have q:=of_decide_eq_true q
    refine ⟨?_,fun ht => ?_⟩
    ·rw [← e,gs_same (u:=u) h9 (r:=.mk 9 v []) rfl q]; exact Nat.le_refl _
    ·cases n with
     | zero => cases hf
     | succ n => rw [front_arg ht n] at hf; injection hf with hf; exact absurd (hf ▸ h9) ht
   ·rw [if_neg h9] at q
    obtain ⟨h1,h2⟩:=anyO_some q
    obtain ⟨y,hy,hyt⟩:=List.any_eq_true.1 h2
    have hyo:occF s v n y = some true:=by rw [h1 y hy,hyt]
    have:=(h.occ hyo).1
    have hl:=gs_lt (u:=u) h9 hy
    rw [e] at hl
    exact ⟨by omega,fun _ => by omega⟩
theorem Sat.set {u s:List Ty} (h:Sat u s) {v:Int} {b:Ty} (h0:0 ≤ v) (hb:gs u (.mk 9 v []) = gs u b):Sat u (s.set v.toNat b):=by
 refine ⟨by rw [List.length_set]; exact h.len,fun i x hx hk => ?_⟩
 by_cases e:v.toNat = i
 ·have hlt:i < s.length:=by have:=(List.getElem?_eq_some_iff.1 hx).1; rwa [List.length_set] at this
  rw [e,List.getElem?_set_self hlt] at hx
  injection hx with hx
  subst hx
  rw [← hb,gs_var rfl]
  show _ = some ((u[v.toNat]?).getD _)
  rw [e,List.getElem?_eq_getElem (by rw [h.len]; exact hlt)]
  rfl
 ·rw [List.getElem?_set_ne e] at hx
  exact h.eq i x hx hk
theorem Sat.ap {u s:List Ty} (h:Sat u s):∀ {n:Nat} {t r:Ty},apF s n t = some r → gs u r = gs u t
 | 0,t,r,q => by cases q
 | n + 1,t,r,q => by
  rw [apF] at q
  cases he:(if t.kind = 9 then elemT s t else some (.mk 0 0 [])) with
  | none => simp only [he] at q; cases q
  | some x =>
   simp only [he] at q
   by_cases hk:x.kind = 0
   ·rw [if_neg (fun p => p hk)] at q
    cases hl:mapO (apF s n) t.args with
    | none => simp only [hl] at q; cases q
    | some l =>
     simp only [hl] at q
     injection q with q
     obtain ⟨h1,h2⟩:=mapO_some hl
     subst q
     by_cases h9:t.kind = 9
     ·exact gs_same (by exact h9) h9 rfl
     ·rw [gs_arg h9,gs_arg (t:=.mk t.kind t.id l) h9]
      show Ty.mk t.kind t.id (l.map (gs u)) = _
      rw [h2,List.map_map]
      exact congrArg _ (List.map_congr_left fun y hy => h.ap (h1 y hy))
   ·rw [if_pos hk] at q
    have h9:t.kind = 9:=by
     by_cases h9:t.kind = 9
     ·exact h9
     ·rw [if_neg h9] at he
      injection he with he
      exact absurd (by rw [← he]; rfl) hk
    rw [if_pos h9] at he
    rw [h.ap q,h.elem h9 he hk]
inductive Res (s:List Ty):Ty → Prop
 | var {t x:Ty} (h9:t.kind = 9) (he:elemT s t = some x) (hk:x.kind = 0):Res s t
 | arg {t:Ty} (h9:¬ t.kind = 9) (h:∀ y ∈ t.args,Res s y):Res s t
structure LOk (u s:List Ty) (m:DM):Prop where
 ok:∀ j k,mget m j = some k → 0 ≤ k ∧ k < s.length ∧ gs u (.mk 9 k []) = gs u (.mk 9 j [])
theorem fmB_par {ds:List Api.Data} {pa:Int} {t:Ty} (h:fmB ds pa t = true) (h5:t.kind = 5):0 ≤ t.id ∧ t.id < pa ∧ t.args = []:=by
 rw [fmB_eq,if_pos h5] at h
 simp only [Bool.and_eq_true,decide_eq_true_eq] at h
 exact ⟨h.1.1,h.1.2,List.eq_nil_of_length_eq_zero h.2⟩
theorem fmB_arg {ds:List Api.Data} {pa:Int} {t:Ty} (h:fmB ds pa t = true) (h5:¬ t.kind = 5):∃ n,arN ds t.kind t.id = some n ∧ ¬ ((t.kind ≠ 2 ∧ t.id ≠ 0) ∨ (t.args.length:Int) ≠ n) ∧ ∀ x ∈ t.args,(stoB x = true ∨ (t.kind = 7 ∧ x.kind = 6)) ∧ fmB ds pa x = true:=by
 rw [fmB_eq,if_neg h5] at h
 cases ha:arN ds t.kind t.id with
 | none => simp only [ha] at h; cases h
 | some n =>
  simp only [ha] at h
  split at h
  ·cases h
  ·rename_i hc
   refine ⟨n,rfl,hc,fun x hx => ?_⟩
   rw [Bool.not_eq_true'] at h
   have hb:=(List.any_eq_false.1 h) x hx
   simp only [badB,Bool.or_eq_true,Bool.and_eq_true,Bool.not_eq_true',Bool.not_eq_false',Bool.and_eq_false_iff,decide_eq_true_eq,decide_eq_false_iff_not,not_or,not_and,Bool.not_eq_true] at hb
   refine ⟨?_,?_⟩
   ·cases hs:stoB x with
    | true => exact .inl rfl
    | false =>
     refine .inr ?_
     have h1:=hb.1 hs
     simpa using h1
   ·cases hf:fmB ds pa x with
    | true => rfl
    | false => exact absurd hf (by simpa using hb.2)
theorem fmB_of {ds:List Api.Data} {pa:Int} {t:Ty} (h5:¬ t.kind = 5) {n:Int} (ha:arN ds t.kind t.id = some n) (hc:¬ ((t.kind ≠ 2 ∧ t.id ≠ 0) ∨ (t.args.length:Int) ≠ n)) (h:∀ x ∈ t.args,(stoB x = true ∨ (t.kind = 7 ∧ x.kind = 6)) ∧ fmB ds pa x = true):fmB ds pa t = true:=by
 rw [fmB_eq,if_neg h5,ha]
 simp only
 rw [if_neg hc,Bool.not_eq_true']
 refine List.any_eq_false.2 fun x hx => ?_
 obtain ⟨h1,h2⟩:=h x hx
 rw [badB,h2]
 rcases h1 with h1 | ⟨h1,h3⟩
 ·rw [h1]; simp
 ·rw [h1,h3]; simp
theorem subst_self (ds:List Api.Data):∀ t:Ty,fmB ds 4 t = true → subst [.mk 5 0 [],.mk 5 1 [],.mk 5 2 [],.mk 5 3 []] t = t:=tyInd fun t ih h => by
 rw [subst_eq]
 by_cases h5:t.kind = 5
 ·obtain ⟨h1,h2,h3⟩:=fmB_par h h5
  rw [if_pos ⟨h5,h1,by simpa using h2⟩]
  have e:t = .mk 5 t.id []:=ty_eq h5 rfl h3
  have:t.id = 0 ∨ t.id = 1 ∨ t.id = 2 ∨ t.id = 3:=by omega
  rcases this with q | q | q | q <;> rw [e,q] <;> rfl
 ·rw [if_neg fun q => h5 q.1]
  obtain ⟨n,_,_,ha⟩:=fmB_arg h h5
  refine ty_eq rfl rfl ?_
  show t.args.map _ = t.args
  exact (List.map_congr_left fun x hx => ih x hx (ha x hx).2).trans (List.map_id _)
theorem subst_subst (ds:List Api.Data) (one two:List Ty):∀ t:Ty,fmB ds one.length t = true → subst two (subst one t) = subst (one.map (subst two)) t:=tyInd fun t ih h => by
 rw [subst_eq one t,subst_eq (one.map (subst two)) t]
 by_cases h5:t.kind = 5
 ·obtain ⟨h1,h2,h3⟩:=fmB_par h h5
  rw [if_pos ⟨h5,h1,h2⟩,if_pos ⟨h5,h1,by rw [List.length_map]; exact h2⟩]
  obtain ⟨x,hx⟩:=get_of (l:=one) (k:=t.id.toNat) (by omega)
  rw [hx,List.getElem?_map,hx]
  rfl
 ·rw [if_neg fun q => h5 q.1,if_neg fun q => h5 q.1]
  obtain ⟨n,_,_,ha⟩:=fmB_arg h h5
  rw [subst_eq]
  rw [if_neg fun q => h5 q.1]
  refine ty_eq rfl rfl ?_
  show (t.args.map (subst one)).map (subst two) = t.args.map _
  rw [List.map_map]
  exact List.map_congr_left fun x hx => ih x hx (ha x hx).2
theorem fm_subst (ds:List Api.Data) (pa:Int) (one:List Ty) (ho:∀ x ∈ one,stoB x = true ∧ fmB ds pa x = true):∀ t:Ty,fmB ds one.length t = true → fmB ds pa (subst one t) = true ∧ (stoB t = true → stoB (subst one t) = true) ∧ (¬ t.kind = 5 → (subst one t).kind = t.kind):=tyInd fun t ih h => by
 rw [subst_eq]
 by_cases h5:t.kind = 5
 ·obtain ⟨h1,h2,h3⟩:=fmB_par h h5
  rw [if_pos ⟨h5,h1,h2⟩]
  obtain ⟨x,hx⟩:=get_of (l:=one) (k:=t.id.toNat) (by omega)
  rw [hx]
  have:=ho x (List.mem_of_getElem? hx)
  exact ⟨this.2,fun _ => this.1,fun q => absurd h5 q⟩
 ·rw [if_neg fun q => h5 q.1]
  obtain ⟨n,hn,hc,ha⟩:=fmB_arg h h5
  refine ⟨fmB_of (t:=.mk t.kind t.id (t.args.map (subst one))) h5 hn (by show ¬ ((t.kind ≠ 2 ∧ t.id ≠ 0) ∨ ((t.args.map (subst one)).length:Int) ≠ n); rw [List.length_map]; exact hc) ?_,fun q => q,fun _ => rfl⟩
  intro y hy
  have hy:y ∈ t.args.map (subst one):=hy
  obtain ⟨x,hx,rfl⟩:=List.mem_map.1 hy
  obtain ⟨i1,i2,i3⟩:=ih x hx (ha x hx).2
  refine ⟨?_,i1⟩
  rcases (ha x hx).1 with q | ⟨q1,q2⟩
  ·exact .inl (i2 q)
  ·exact .inr ⟨q1,by rw [i3 (by omega)]; exact q2⟩
def KeysIn (n:Int) (m:TM):Prop:=(∀ p ∈ m,0 ≤ p.1 ∧ p.1 < n) ∧ (m.map (·.1)).Nodup
theorem mget_mem {α:Type} {m:List (Int × α)} {i:Int} {x:α} (h:mget m i = some x):(i,x) ∈ m:=by
 induction m with
 | nil => cases h
 | cons p m ih =>
  obtain ⟨k,v⟩:=p
  simp only [mget] at h
  by_cases e:i = k
  ·rw [if_pos e] at h; injection h with h; subst e h; simp
  ·rw [if_neg e] at h; exact List.mem_cons_of_mem _ (ih h)
theorem mset_keys {α:Type} (m:List (Int × α)) (i:Int) (x:α) (h:mget m i = none):mset m i x = m ++ [(i,x)]:=by
 induction m with
 | nil => rfl
 | cons p m ih =>
  obtain ⟨k,v⟩:=p
  simp only [mget] at h
  by_cases e:i = k
  ·rw [if_pos e] at h; cases h
  ·rw [if_neg e] at h
   simp only [mset,if_neg e,ih h,List.cons_append]
theorem mget_none {α:Type} {m:List (Int × α)} {i:Int} (h:mget m i = none):i ∉ m.map (·.1):=by
 induction m with
 | nil => simp
 | cons p m ih =>
  obtain ⟨k,v⟩:=p
  simp only [mget] at h
  by_cases e:i = k
  ·rw [if_pos e] at h; cases h
  ·rw [if_neg e] at h
   simp only [List.map_cons,List.mem_cons,not_or]
   exact ⟨e,ih h⟩
theorem mget_of {α:Type} {m:List (Int × α)} {i:Int} {x:α} (hn:(m.map (·.1)).Nodup) (h:(i,x) ∈ m):mget m i = some x:=by
 induction m with
 | nil => cases h
 | cons p m ih =>
  obtain ⟨k,v⟩:=p
  simp only [List.map_cons,List.nodup_cons] at hn
  simp only [mget]
  rcases List.mem_cons.1 h with e | h
  ·injection e with e1 e2; rw [if_pos e1,e2]
  ·have:i ≠ k:=fun e => hn.1 (by rw [← e]; exact List.mem_map.2 ⟨_,h,rfl⟩)
   rw [if_neg this]
   exact ih hn.2 h
theorem KeysIn.set {n:Int} {m:TM} {i:Int} {x:Ty} (h:KeysIn n m) (h0:0 ≤ i) (h1:i < n) (hm:mget m i = none):KeysIn n (mset m i x):=by
 rw [mset_keys m i x hm]
 refine ⟨fun p hp => ?_,?_⟩
 ·rcases List.mem_append.1 hp with hp | hp
  ·exact h.1 p hp
  ·rw [List.mem_singleton.1 hp]; exact ⟨h0,h1⟩
 ·rw [List.map_append]
  exact List.nodup_append.2 ⟨h.2,by simp,fun a ha b hb => by
   rw [List.mem_singleton.1 (by simpa using hb:b ∈ [i])]
   exact fun e => mget_none hm (e ▸ ha)⟩
theorem fit_keys (n:Int):∀ (p t:Ty) (m:TM),KeysIn n m → KeysIn n (fitM n p t m).1:=fun p => tyInd (p:=fun p => ∀ (t:Ty) (m:TM),KeysIn n m → KeysIn n (fitM n p t m).1) (fun p ih t m h => by
 have hz:∀ (l:List Ty),(∀ x ∈ l,∀ (t:Ty) (m:TM),KeysIn n m → KeysIn n (fitM n x t m).1) → ∀ (l':List Ty) (m:TM),KeysIn n m → KeysIn n (fitZ n l l' m).1:=by
  intro l
  induction l with
  | nil => intro _ l' m h; rw [fitZ]; exact h
  | cons x l ihl =>
   intro hx l' m h
   rw [fitZ.eq_def]
   cases l' with
   | nil => exact h
   | cons y l' =>
    have h1:=hx x (by simp) y m h
    simp only
    cases hf:fitM n x y m with
    | mk m' b =>
     rw [hf] at h1
     cases b
     ·exact h1
     ·exact ihl (fun z hz => hx z (by simp [hz])) l' m' h1
 rw [fitM_eq,fitP]
 split
 ·split
  ·exact h
  ·rename_i hr
   split
   ·exact h
   ·rename_i hm
    exact h.set (by omega) (by omega) hm
 ·split
  ·split
   ·exact hz p.args ih t.args m h
   ·exact h
  ·exact h) p
noncomputable def mBody:Code:=Try.f24.body.getD .skip
noncomputable def m0:Code:=sq1 mBody
noncomputable def m1:Code:=sq1 (sq2 mBody)
noncomputable def m2:Code:=sq1 (sq2 (sq2 mBody))
noncomputable def m3:Code:=sq1 (sq2 (sq2 (sq2 mBody)))
noncomputable def m4:Code:=sq1 (sq2 (sq2 (sq2 (sq2 mBody))))
noncomputable def m5:Code:=sq1 (sq2 (sq2 (sq2 (sq2 (sq2 mBody)))))
noncomputable def m6:Code:=sq1 (sq2 (sq2 (sq2 (sq2 (sq2 (sq2 mBody))))))
noncomputable def m7:Code:=sq1 (sq2 (sq2 (sq2 (sq2 (sq2 (sq2 (sq2 mBody)))))))
noncomputable def m8:Code:=sq1 (sq2 (sq2 (sq2 (sq2 (sq2 (sq2 (sq2 (sq2 mBody))))))))
theorem mBody_eq:Try.f24.body = some (m0.seq (m1.seq (m2.seq (m3.seq (m4.seq (m5.seq (m6.seq (m7.seq (m8.seq .ret))))))))):=by kernel_rfl
def y0:SCode:=(.reg [.op (some 3) (.boxF 32 (.t 0)) none,
  .op (some 4) (.boxF 32 (.t 1)) none,
  .op (some 5) (.boxF 3 (.t 2)) none,
  .op (some 6) (.mov (.c (.slice none 0 0))) none,
  .op (some 7) (.mov (.c (.bool false))) none])
theorem lowm0:low Try.prog A24 m0 = some y0:=by kernel_rfl
def y1:SCode:=(.seq (.reg [.op (some 13) (.load false 1 (.t 5)) none,
  .op (some 14) (.bin .lss (.t 13) (.c (.int .i64 0))) none,
  .op (some 15) (.mov (.t 14)) none,
  .op (some 16) (.load false 1 (.t 5)) (some (15,false)),
  .op (some 17) (.bin .gtr (.t 16) (.c (.int .i64 4))) (some (15,false)),
  .op (some 18) (.pick (.t 15) (.c (.bool true)) (.t 17)) none])
 (.cond (.t 18)
 (.seq (.reg [.op (some 6) (.mov (.c (.slice none 0 0))) none,
   .op (some 7) (.mov (.c (.bool false))) none])
  .ret)
 .skip))
theorem lowm1:low Try.prog A24 m1 = some y1:=by kernel_rfl
def y2:SCode:=(.reg [.op (some 19) (.mkmap) none,
  .op (some 8) (.alloc 101 [(.map none)]) none,
  .op none (.store 1 (.t 8) (.t 19)) none])
theorem lowm2:low Try.prog A24 m2 = some y2:=by kernel_rfl
def y3:SCode:=(.reg [.op (some 9) (.alloc 37 [.nilFunc]) none])
theorem lowm3:low Try.prog A24 m3 = some y3:=by kernel_rfl
def y4:SCode:=(.reg [.op (some 20) (.mkfn 66 [] [(.t 9),(.t 5),(.t 8)]) none,
  .op none (.store 1 (.t 9) (.t 20)) none])
theorem lowm4:low Try.prog A24 m4 = some y4:=by kernel_rfl
def y5:SCode:=(.seq (.reg [.op (some 21) (.load false 1 (.t 9)) none,
  .op (some 22) (.load true 3 (.t 3)) none,
  .op (some 23) (.load true 3 (.t 4)) none,
  .op (some 24) (.callV (.t 21) [(.t 22),(.t 23)]) none,
  .op (some 25) (.un .not (.t 24)) none])
 (.cond (.t 25)
 (.seq (.reg [.op (some 6) (.mov (.c (.slice none 0 0))) none,
   .op (some 7) (.mov (.c (.bool false))) none])
  .ret)
 .skip))
theorem lowm5:low Try.prog A24 m5 = some y5:=by kernel_rfl
def y6:SCode:=(.reg [.op (some 26) (.load false 1 (.t 5)) none,
  .op (some 27) (.makeS 32 3 40 [(.int .i64 0),(.int .i64 0),(.slice none 0 0)] (.t 26) (.t 26)) none,
  .op (some 10) (.mov (.t 27)) none])
theorem lowm6:low Try.prog A24 m6 = some y6:=by kernel_rfl
def y7:SCode:=(.seq (.reg [.op (some 28) (.load false 1 (.t 8)) none,
  .op (some 29) (.mrange (.t 28)) none])
 (.block 0
 (.loop [30,31,32,33,34,12,11,35,36,37,38]
  (.seq (.reg [.op (some 30) (.mnext (.t 29)) none,
    .op (some 31) (.extr (.t 30) 0) none])
   (.seq (.cond (.t 31)
   .skip
   (.exit 0))
   (.block 1
   (.seq (.reg [.op (some 32) (.mentry (.t 29)) none,
     .op (some 33) (.extr (.t 32) 0) none,
     .op (some 34) (.extr (.t 32) 1) none,
     .op (some 12) (.alloc 32 [(.int .i64 0),(.int .i64 0),(.slice none 0 0)]) none,
     .op (some 11) (.mov (.t 33)) none,
     .op none (.store 3 (.t 12) (.t 34)) none])
    (.reg [.op (some 35) (.mov (.t 10)) none,
     .op (some 36) (.mov (.t 11)) none,
     .op (some 37) (.load true 3 (.t 12)) none,
     .op (some 38) (.idxA 3 (.t 35) (.t 36)) none,
     .op none (.store 3 (.t 38) (.t 37)) none]))))))))
theorem lowm7:low Try.prog A24 m7 = some y7:=by kernel_rfl
def y8:SCode:=(.reg [.op (some 39) (.mov (.t 10)) none,
  .op (some 6) (.mov (.t 39)) none,
  .op (some 7) (.mov (.c (.bool true))) none])
abbrev ML (n:Nat) (m:TM) (out:List Ty):TL:=[(8,.box 101 [.mpr 19]),(9,.box 37 [.fn 66 [] [.own 9 0,.pt [IC n] 0,.own 8 0]]),(19,.map (mcs tyA m)),(27,.row 32 3 (out.map tyC))]
theorem mpre (p t:Ty) (n:Nat) (hn:n ≤ 4) (m:TM) (hm:fitM n p t [] = (m,true)):evalTC P ⟨fun _ => False,[]⟩ (.seq y0 (.seq y1 (.seq y2 (.seq y3 (.seq y4 (.seq y5 y6)))))) (fun _ _ _ => False) (fun _ _ => False)
  (fun M τ => M = ML n m (List.replicate n (.mk 0 0 [])) ∧ τ 8 = .own 8 0 ∧ τ 10 = .rw 27) [] (argT 0 [tyA p,tyA t,IC n]):=by
 have h66:=t66 n p t []
 rw [hm] at h66
 have hz:List.replicate n ([C.int .i64 0,C.int .i64 0,C.sl []]:List C) = (List.replicate n (Ty.mk 0 0 [])).map tyC:=by rw [List.map_replicate]; rfl
 refine brn_p (fun h => absurd h (by omega)) (fun _ => ?_)
 refine callO [9,8,19] [9,8,19] h66 rfl rfl rfl rfl rfl fun _ _ => ?_
 refine MakePt.mk (by omega) (Int.le_refl _) (by omega) (by simp only [maxLen]; omega) ?_
 exact ⟨congrArg (fun q => [(8,TO.box 101 [.mpr 19]),(9,.box 37 [.fn 66 [] [.own 9 0,.pt [IC n] 0,.own 8 0]]),(19,.map (mcs tyA m)),(27,.row 32 3 q)]) hz,rfl,rfl⟩
def zTy:Ty:=.mk 0 0 []
def outM (n:Nat) (m:TM):List Ty:=(List.range n).map fun (i:Nat) => (mget m (i:Int)).getD zTy
theorem relE_at {F:Frz}:∀ {m:TM} {cs:List Value} {j:Nat} {e:Value},RelE F (mcs tyA m) cs → cs[j]? = some e → ∃ k t v,m[j]? = some (k,t) ∧ e = .agg #[.int .i64 k,v] ∧ Rel F [] (tyA t) v ∧ (Lit.int .i64 k).wf = true
 | [],cs,j,e,h,hj => by
  simp only [mcs,List.map_nil,RelE] at h
  subst h; simp at hj
 | (k,t) :: m,cs,j,e,h,hj => by
  simp only [mcs,List.map_cons,RelE] at h
  obtain ⟨kv,v,vs',rfl,h1,h2,h3⟩:=h
  rw [Rel] at h1
  obtain ⟨rfl,hw⟩:=h1
  cases j with
  | zero =>
   rw [List.getElem?_cons_zero] at hj
   injection hj with hj
   exact ⟨k,t,v,rfl,hj.symm,h2,hw⟩
  | succ j =>
   rw [List.getElem?_cons_succ] at hj
   exact relE_at (m:=m) h3 hj
theorem relE_len {F:Frz}:∀ {m:TM} {cs:List Value},RelE F (mcs tyA m) cs → cs.length = m.length
 | [],cs,h => by simp only [mcs,List.map_nil,RelE] at h; subst h; rfl
 | (k,t) :: m,cs,h => by
  simp only [mcs,List.map_cons,RelE] at h
  obtain ⟨kv,v,vs',rfl,h1,h2,h3⟩:=h
  rw [List.length_cons,List.length_cons,relE_len (m:=m) h3]
theorem relE_map {F:Frz} {m:TM} {cs:List Value} (h:RelE F (mcs tyA m) cs):isMapCs cs = true:=by
 cases m with
 | nil => simp only [mcs,List.map_nil,RelE] at h; subst h; rfl
 | cons p m =>
  simp only [mcs,List.map_cons,RelE] at h
  obtain ⟨kv,v,vs',rfl,_⟩:=h
  rfl
abbrev RL (g8 g19 gi:Nat) (cs:List Value) (v:Value) (n:Nat) (seen:List Nat) (xs:List Value):Loc :=
 [(8,.box g8 101 [.map (some g19)]),(19,.box g19 0 cs),(27,.row v 32 3 n xs),(29,.box gi 0 (.tuple #[.map (some g19),.int .i64 cs.length] :: seen.map fun (j:Nat) => .int .i64 (j:Int)))]
def RInv (n:Nat) (m:TM) (seen:List Nat) (out:List Ty):Prop :=
 out.length = n ∧ seen.Nodup ∧ (∀ j ∈ seen,j < m.length) ∧ ∀ i < n,out[i]? = some (if ∃ j ∈ seen,(m[j]?).map (·.1) = some (i:Int) then (mget m i).getD zTy else zTy)
theorem nodup_le:∀ (N:Nat) (l:List Nat),l.Nodup → (∀ x ∈ l,x < N) → l.length ≤ N
 | 0,l,_,h => by
  cases l with
  | nil => exact Nat.le_refl _
  | cons x l => exact absurd (h x (by simp)) (Nat.not_lt_zero _)
 | N + 1,l,hn,h => by
  by_cases hN:N ∈ l
  ·have h1:=nodup_le N (l.erase N) (hn.erase N) fun x hx => by
    have hx':=(hn.mem_erase_iff).1 hx
    have:=h x hx'.2
    omega
   rw [List.length_erase_of_mem hN] at h1
   omega
  ·have:=nodup_le N l hn fun x hx => by
    have h1:=h x hx
    have:x ≠ N:=fun e => hN (e ▸ hx)
    omega
   omega
theorem seen_map (seen:List Nat):(seen.map fun (j:Nat) => Value.int .i64 (j:Int)).map seenOf = seen:=by
 rw [List.map_map]
 exact (List.map_congr_left fun j _ => (by show (j:Int).toNat = j; omega)).trans (List.map_id _)
theorem RInv.all {n:Nat} {m:TM} {seen:List Nat} {out:List Ty} (h:RInv n m seen out) (hk:KeysIn n m) (ha:∀ j < m.length,j ∈ seen):out = outM n m:=by
 obtain ⟨h1,h2,h3,h4⟩:=h
 refine lists_eq h1 (by simp [outM]) fun i hi => ?_
 rw [h4 i hi,outM,List.getElem?_map,List.getElem?_range hi]
 simp only [Option.map_some,Option.some.injEq]
 split
 ·rfl
 ·rename_i hno
  cases hg:mget m (i:Int) with
  | none => rfl
  | some x =>
   obtain ⟨j,hj,he⟩:=List.mem_iff_getElem.1 (mget_mem hg)
   exact absurd ⟨j,ha j hj,by rw [List.getElem?_eq_getElem hj,he]; rfl⟩ hno
theorem RInv.next {n:Nat} {m:TM} {seen:List Nat} {out:List Ty} {j:Nat} {k:Int} {t:Ty} (h:RInv n m seen out) (hk:KeysIn n m) (hj:m[j]? = some (k,t)) (hn:j ∉ seen):RInv n m (seen ++ [j]) (out.set k.toNat t):=by
 obtain ⟨h1,h2,h3,h4⟩:=h
 have hmem:=List.mem_of_getElem? hj
 have hkk:=hk.1 _ hmem
 have hg:=mget_of hk.2 hmem
 refine ⟨by rw [List.length_set]; exact h1,List.nodup_append.2 ⟨h2,by simp,fun a ha b hb => by rw [List.mem_singleton.1 hb]; exact fun e => hn (e ▸ ha)⟩,fun i hi => ?_,fun i hi => ?_⟩
 ·rcases List.mem_append.1 hi with hi | hi
  ·exact h3 i hi
  ·rw [List.mem_singleton.1 hi]; exact (List.getElem?_eq_some_iff.1 hj).1
 ·rw [List.getElem?_set]
  by_cases e:k.toNat = i
  ·have hki:k = (i:Int):=by omega
   rw [if_pos e,if_pos (by omega),if_pos ⟨j,by simp,by rw [hj,hki]; rfl⟩,← hki,hg]
   rfl
  ·rw [if_neg e,h4 i hi]
   have hiff:(∃ j' ∈ seen ++ [j],(m[j']?).map (·.1) = some (i:Int)) ↔ ∃ j' ∈ seen,(m[j']?).map (·.1) = some (i:Int):=by
    refine ⟨fun ⟨j',hj',hq⟩ => ?_,fun ⟨j',hj',hq⟩ => ⟨j',List.mem_append_left _ hj',hq⟩⟩
    rcases List.mem_append.1 hj' with hj' | hj'
    ·exact ⟨j',hj',hq⟩
    ·rw [List.mem_singleton.1 hj',hj] at hq
     injection hq with hq
     exact absurd (by have:k = (i:Int):=hq; omega) e
   by_cases hq:∃ j' ∈ seen,(m[j']?).map (·.1) = some (i:Int)
   ·rw [if_pos hq,if_pos (hiff.2 hq)]
   ·rw [if_neg hq,if_neg (fun q => hq (hiff.1 q))]
theorem range7 (F:Frz) (g8 g19:Nat) (cs:List Value) (v:Value) (n:Nat) (m:TM) (xs:List Value) (jk:Nat → Value) (ad:Option Addr) (c:Nat) (hv:v = .slice ad n c) (hm:RelE F (mcs tyA m) cs) (hk:KeysIn n m) (hx:RelRow F 3 ((List.replicate n zTy).map tyC) xs) (had:0 < n → ad ≠ none)
  (N:Kont) (hN:∀ F' gi seen xs' ρ',F.le F' → RelRow F' 3 ((outM n m).map tyC) xs' → ρ' 10 = .v v → N F' (RL g8 g19 gi cs v n seen xs') ρ') :
  evalC P y7 (fun _ _ _ _ => False) (fun _ _ _ => False) N F [(8,.box g8 101 [.map (some g19)]),(19,.box g19 0 cs),(27,.row v 32 3 n xs)] (Fr.put (some 8) (.own 8 0) (Fr.put (some 10) (.v v) fun j => .v (jk j))):=by
 refine MapPt.mk ⟨19,cs,rfl,relE_map hm,?_⟩
 intro gi
 refine LoopPt.mk ⟨List Nat × List Value,([],xs),fun x F' => F.le F' ∧ ∃ out,RelRow F' 3 (out.map tyC) x.2 ∧ RInv n m x.1 out,[],fun _ => [],fun x => RL g8 g19 gi cs v n x.1 x.2,fun x => m.length - x.1.length,?_,trivial,?_,fun x => ?_,?_⟩
 ·refine ⟨Frz.le_refl F,List.replicate n zTy,hx,List.length_replicate,List.nodup_nil,(fun j h => by cases h),fun i hi => ?_⟩
  rw [if_neg (fun ⟨j,hj,_⟩ => by cases hj),List.getElem?_replicate,if_pos hi]
 ·exact ⟨.inl rfl,.inl rfl,.inl rfl,.inl rfl,trivial⟩
 ·exact ⟨⟨_,rfl⟩,⟨_,rfl⟩,⟨_,rfl⟩,trivial⟩
 rintro ⟨seen,xs⟩ F' jk' hle ⟨hle',out,hr,hi1,hi2,hi3,hi4⟩
 refine NextPt.mk ⟨19,cs,rfl,relE_map hm,rfl,fun j en hj hns => ?_,fun hall => ?_⟩
 ·obtain ⟨k,t,v',e1,rfl,e3,e4⟩:=relE_at hm hj
  have hkk:=hk.1 _ (List.mem_of_getElem? e1)
  simp only [Rels,Rel] at e3
  obtain ⟨w3,rfl,w1,_,rfl,⟨rfl,hw1⟩,w2,_,rfl,⟨rfl,hw2⟩,w3,_,rfl,⟨a3,c3,rfl,hs1,hs2,hs3,hs4⟩,rfl⟩:=e3
  rw [seen_map] at hns
  refine EntryPt.mk ⟨19,cs,j,_,rfl,relE_map hm,rfl,List.getLast?_concat,hj,?_⟩
  intro g12
  subst hv
  have hn0:0 < n:=by omega
  obtain ⟨a0,ha0⟩:=Option.ne_none_iff_exists'.1 (had hn0)
  have hxl:xs.length = n * 3:=by
   have:=RelRow_len hr
   rwa [List.length_map,hi1] at this
  refine IdxPt.mk (had hn0) hkk.1 hkk.2 ?_
  refine StorePt.mk ⟨27,_,_,_,_,_,a0,c,rfl,ha0,by rw [ha0],?_,?_,?_⟩
  ·show k.toNat * 3 + 0 + 3 ≤ xs.length
   rw [hxl]; omega
  ·intro u hu
   rcases List.mem_cons.1 hu with rfl | hu
   ·rfl
   rcases List.mem_cons.1 hu with rfl | hu
   ·rfl
   rcases List.mem_cons.1 hu with rfl | hu
   ·rfl
   cases hu
  ·refine ⟨(seen ++ [j],splice xs (k.toNat * 3 + 0) [.int .i64 t.kind,.int .i64 t.id,.slice a3 (t.args.map tyC).length c3]),⟨hle',out.set k.toNat t,?_,RInv.next ⟨hi1,hi2,hi3,hi4⟩ hk e1 hns⟩,trivial,⟨.inl rfl,.inl rfl,.inl rfl,.inl ?_,trivial⟩,?_⟩
   ·obtain ⟨o,ho⟩:=get_of (l:=out) (k:=k.toNat) (by omega)
    have hset:=hr.set (j:=k.toNat) (es:=tyC o) (ds:=[IC t.kind,IC t.id,.sl (t.args.map tyC)]) (us:=[.int .i64 t.kind,.int .i64 t.id,.slice a3 (t.args.map tyC).length c3]) (off:=0) (by rw [List.getElem?_map,ho]; rfl) (by simp) (by
     simp only [Rels,Rel]
     refine ⟨_,_,rfl,⟨rfl,hw1⟩,_,_,rfl,⟨rfl,hw2⟩,_,_,rfl,⟨a3,c3,rfl,hs1,hs2,hs3,?_⟩,rfl⟩
     obtain ⟨sz,hs4⟩:=hs4
     exact ⟨sz,RelS.mono hle' hs4⟩) rfl
    have e:spliceC (tyC o) 0 [IC t.kind,IC t.id,.sl (t.args.map tyC)] = tyC t:=by
     rw [tyC_eq o,tyC_eq t]; rfl
    rw [e,← List.map_set] at hset
    exact hset
   ·rw [List.map_append]; rfl
   ·show m.length - (seen ++ [j]).length < m.length - seen.length
    have h1:=(List.getElem?_eq_some_iff.1 e1).1
    have hnx:=RInv.next ⟨hi1,hi2,hi3,hi4⟩ hk e1 hns
    have h2:(seen ++ [j]).length ≤ m.length:=nodup_le _ _ hnx.2.1 hnx.2.2.1
    rw [List.length_append] at h2 ⊢
    simp only [List.length_cons,List.length_nil] at h2 ⊢
    omega
 ·have ha:∀ j < m.length,j ∈ seen:=fun j hj => by
   have:=hall j (by rw [relE_len hm]; exact hj)
   rwa [seen_map] at this
  have e:=RInv.all ⟨hi1,hi2,hi3,hi4⟩ hk ha
  rw [e] at hr
  exact hN F' gi seen xs _ hle' hr rfl
def MQ (nn:Nat) (G:Nat → Option (Nat × TypeId)) (F0:Frz) (Li:List Own) (w0:World) (K:TK) (a:Act) (w:World):Prop :=
 ∃ F L ρ M τ,St F L w ∧ EnvOk L ρ a ∧ TS G F L ρ M τ ∧ a.tmps.size = nn ∧ Step F0 (inp Li) w0 F L w ∧ K M τ
section
variable {G:Nat → Option (Nat × TypeId)} {F0:Frz} {Li:List Own} {w0:World}
theorem MQ.seq {A:Ann} {c rest:Code} {sc sc2:SCode} (hl:low Try.prog A c = some sc) (hfz:frzKeys sc = []) {N K:TK} {a:Act} {w:World} (h:MQ A.n G F0 Li w0 K a w)
  (hK:∀ M τ,K M τ → evalTC P ⟨fun _ => False,[]⟩ (.seq sc sc2) (fun _ _ _ => False) (fun _ _ => False) N M τ) {Q:Exit → Act → World → Prop}
  (hN:∀ a' w',a'.defers = a.defers → MQ A.n G F0 Li w0 (fun M τ => evalTC P ⟨fun _ => False,[]⟩ sc2 (fun _ _ _ => False) (fun _ _ => False) N M τ) a' w' → rest.wp P Q a' w'):(c.seq rest).wp P Q a w:=by
 obtain ⟨F,L,ρ,M,τ,g1,g2,g3,g4,g5,hk⟩:=h
 refine wp_seq (wp_mono (evalTC_sound c hl (fun k hk => by rw [hfz] at hk; cases hk) g1 g2 g3 g4 (hK M τ hk)) ?_)
 intro e a' w' hq
 cases e with
 | normal =>
  obtain ⟨F',L',ρ',k1,k2,k3,k4,k5,k6,M',τ',k7,k8⟩:=hq
  exact hN a' w' k4 ⟨F',L',ρ',M',τ',k1,k2,k7,k3,g5.trans k5,k8⟩
 | exit j => obtain ⟨F',L',ρ',_,_,_,_,_,_,M',τ',_,h⟩:=hq; exact h.elim
 | ret => obtain ⟨F',L',ρ',_,_,_,_,_,_,M',τ',_,h⟩:=hq; exact h.elim
 | goto l => exact hq.elim
 | panic ch => obtain ⟨v,hch,F',L',k1,k2,k3,k4,k5,kp,hp,_⟩:=hq; exact hp.elim
 | outgrown => exact hq.elim
theorem MQ.one {A:Ann} {c rest:Code} {sc:SCode} (hl:low Try.prog A c = some sc) (hfz:frzKeys sc = []) {N K:TK} {a:Act} {w:World} (h:MQ A.n G F0 Li w0 K a w)
  (hK:∀ M τ,K M τ → evalTC P ⟨fun _ => False,[]⟩ sc (fun _ _ _ => False) (fun _ _ => False) N M τ) {Q:Exit → Act → World → Prop}
  (hN:∀ a' w',a'.defers = a.defers → MQ A.n G F0 Li w0 N a' w' → rest.wp P Q a' w'):(c.seq rest).wp P Q a w :=
 MQ.seq (sc2:=.skip) hl hfz h (fun M τ q => hK M τ q) fun a' w' hd hm => hN a' w' hd hm
theorem Step.cut {F F':Frz} {L L' L2:Loc} {w w':World} (h:Step F L w F' L' w') (hp:L'.part L2):Step F L w F' L2 w' :=
 ⟨h.le,h.os,h.tape,h.output,h.size,h.same,h.frz,fun b ⟨k,o,e,hb⟩ => h.own b ⟨k,o,hp k o e,hb⟩⟩
theorem part_of {L L2:Loc} (h:∀ p ∈ L2,L.get p.1 = some p.2):L.part L2:=by
 intro k o e
 induction L2 with
 | nil => cases e
 | cons p L2 ih =>
  obtain ⟨j,q⟩:=p
  simp only [Loc.get] at e
  cases hb:Nat.beq j k with
  | true =>
   rw [hb] at e
   injection e with e
   have:=h (j,q) (by simp)
   rw [← e,← Nat.eq_of_beq_eq_true hb]
   exact this
  | false =>
   rw [hb] at e
   exact ih (fun p hp => h p (by simp [hp])) e
theorem m7_wp (hG:∀ k,G k = none) {n:Nat} {m:TM} {K:TK} {a:Act} {w:World} (hk:KeysIn n m) (h:MQ 40 G F0 Li w0 K a w) (hK:∀ M τ,K M τ → M = ML n m (List.replicate n (.mk 0 0 [])) ∧ τ 8 = .own 8 0 ∧ τ 10 = .rw 27) {Q:Exit → Act → World → Prop}
  (hN:∀ a' w',a'.defers = a.defers → MQ 40 G F0 Li w0 (fun M τ => M = [(27,.row 32 3 ((outM n m).map tyC))] ∧ τ = tput (some 10) (.rw 27) fun _ => .any) a' w' → Q .normal a' w'):m7.wp P Q a w:=by
 obtain ⟨F,L,ρ,M,τ,g1,g2,g3,g4,g5,hk0⟩:=h
 obtain ⟨rfl,h8,h10⟩:=hK M τ hk0
 have q8:=g3.tl 8
 have q19:=g3.tl 19
 have q27:=g3.tl 27
 have q8:RelK F L (some (.box 101 [.mpr 19])) (L.get 8):=q8
 have q19:RelK F L (some (.map (mcs tyA m))) (L.get 19):=q19
 have q27:RelK F L (some (.row 32 3 ((List.replicate n (Ty.mk 0 0 [])).map tyC))) (L.get 27):=q27
 have s8:=g3.env 8
 have s10:=g3.env 10
 rw [h8] at s8
 rw [h10] at s10
 cases e8:L.get 8 with
 | none => rw [e8] at q8; exact q8.elim
 | some o8 =>
 cases e19:L.get 19 with
 | none => rw [e19] at q19; exact q19.elim
 | some o19 =>
 cases e27:L.get 27 with
 | none => rw [e27] at q27; exact q27.elim
 | some o27 =>
 rw [e8] at q8
 rw [e19] at q19
 rw [e27] at q27
 cases o8 with
 | row => exact q8.elim
 | box g8 t8 c8 =>
 cases o19 with
 | row => exact q19.elim
 | box g19 t19 cs =>
 cases o27 with
 | box => exact q27.elim
 | row v t27 z27 n27 xs =>
 obtain ⟨hty,hcs⟩:=q8
 obtain ⟨rfl,hE⟩:=q19
 obtain ⟨rfl,rfl,hn27,⟨hmx,av,cv,hv,hav⟩,hrow⟩:=q27
 have hn27:n27 = n:=by rw [hn27,List.length_map,List.length_replicate]
 subst hn27
 simp only [Rels,Rel] at hcs
 obtain ⟨w0,_,rfl,⟨gm,cm,e19',rfl⟩,rfl⟩:=hcs
 rw [e19] at e19'
 injection e19' with e19'
 injection e19' with i1 _ i2
 subst i1 i2
 have ht8:t8 = 101:=by
  rcases hty.2.1 with q | q
  ·exact q.symm
  ·have q':(101:Nat) = (g8 + 1) * 1048576 + (t8:Nat):=q
   omega
 subst ht8
 have hρ8:ρ 8 = .own 8 0:=s8.1
 have hρ10:ρ 10 = .v v:=by
  obtain ⟨u,q1,q2⟩:=s10
  rw [q1]
  rw [Rel] at q2
  obtain ⟨_,_,_,_,_,_,_,q3⟩:=q2
  rw [e27] at q3
  injection q3 with q3
  injection q3 with q3
  rw [q3]
 have hpart:L.part [(8,.box g8 101 [.map (some g19)]),(19,.box g19 0 cs),(27,.row v 32 3 n27 xs)]:=part_of fun p hp => by
  rcases List.mem_cons.1 hp with rfl | hp
  ·exact e8
  rcases List.mem_cons.1 hp with rfl | hp
  ·exact e19
  rcases List.mem_cons.1 hp with rfl | hp
  ·exact e27
  cases hp
 have st0:=g1.part hpart
 have a8:a.tmps.getD 8 undef = .pointer (some ⟨g8,0,none⟩):=by rw [g2.eq 8,hρ8]; simp only [conc,e8]
 have a10:a.tmps.getD 10 undef = v:=by rw [g2.eq 10,hρ10]; rfl
 have env0:EnvOk [(8,.box g8 101 [.map (some g19)]),(19,.box g19 0 cs),(27,.row v 32 3 n27 xs)] (Fr.put (some 8) (.own 8 0) (Fr.put (some 10) (.v v) fun j => .v (a.tmps.getD j undef))) a:=by
  refine ⟨fun t => ?_,fun t k off e => ?_,fun t ad j e => ?_⟩
  ·by_cases h1:t = 8
   ·subst h1; exact a8
   by_cases h2:t = 10
   ·subst h2; exact a10
   have b1:Nat.beq t 8 = false:=beqF h1
   have b2:Nat.beq t 10 = false:=beqF h2
   simp only [Fr.put,b1,b2,conc]
  ·by_cases h1:t = 8
   ·subst h1
    have e:SV.own 8 0 = SV.own k off:=e
    injection e with e1 e2
    subst e1
    exact ⟨_,_,_,rfl⟩
   ·have b1:Nat.beq t 8 = false:=beqF h1
    simp only [Fr.put,b1] at e
    split at e <;> cases e
  ·by_cases h1:t = 8
   ·subst h1; cases e
   ·have b1:Nat.beq t 8 = false:=beqF h1
    simp only [Fr.put,b1] at e
    split at e <;> cases e
 refine wp_mono (evalC_sound m7 lowm7 st0 env0 g4 (range7 F g8 g19 cs v n27 m xs _ av cv hv hE hk hrow (fun h0 e => by have:=hav e; omega) (fun F' L' ρ' => ∃ gi seen xs',L' = RL g8 g19 gi cs v n27 seen xs' ∧ RelRow F' 3 ((outM n27 m).map tyC) xs' ∧ ρ' 10 = .v v) (fun F' gi seen xs' ρ' _ hx h10 => ⟨gi,seen,xs',rfl,hx,h10⟩))) ?_
 intro e a' w' hq
 cases e with
 | normal =>
  obtain ⟨F',L',ρ',k1,k2,k3,k4,k5,k6,gi,seen,xs',rfl,hx,hr10⟩:=hq
  have hpart':(RL g8 g19 gi cs v n27 seen xs').part [(27,.row v 32 3 n27 xs')]:=part_of fun p hp => by
   rcases List.mem_cons.1 hp with rfl | hp
   ·rfl
   cases hp
  have hlen:n27 = ((outM n27 m).map tyC).length:=by simp [outM]
  have a10':a'.tmps.getD 10 undef = v:=by rw [k2.eq 10,hr10]; rfl
  refine hN a' w' k4 ⟨F',[(27,.row v 32 3 n27 xs')],fun j => .v (a'.tmps.getD j undef),_,_,k1.part hpart',⟨fun t => rfl,(fun t k off e => by cases e),(fun t ad j e => by cases e)⟩,⟨fun k => ?_,fun j => ?_,(fun k g t e => by rw [hG k] at e; cases e),k1.glob⟩,k3,?_,rfl,rfl⟩
  ·by_cases hkk:k = 27
   ·subst hkk; exact ⟨rfl,rfl,hlen,⟨hmx,av,cv,hv,hav⟩,hx⟩
   ·have b:Nat.beq 27 k = false:=beqF fun e => hkk e.symm
    simp only [TL.get,Loc.get,b]
    trivial
  ·by_cases hj:j = 10
   ·subst hj
    show RelV F' _ (.rw 27) (.v (a'.tmps.getD 10 undef))
    rw [a10',hv]
    exact relV_rw (by rw [← hv]; rfl)
   ·have b:Nat.beq j 10 = false:=beqF hj
    simp only [tput,b]
    trivial
  ·exact Step.cut ((Step.cut g5 hpart).trans k5) hpart'
 | exit j => obtain ⟨F',L',ρ',_,_,_,_,_,_,h⟩:=hq; exact h.elim
 | ret => obtain ⟨F',L',ρ',_,_,_,_,_,_,h⟩:=hq; exact h.elim
 | goto l => exact hq.elim
 | panic ch => obtain ⟨v,hch,F',L',_,_,_,_,_,hp⟩:=hq; exact hp.elim
 | outgrown => exact hq.elim
end
theorem low8r:low Try.prog A24 (m8.seq .ret) = some (.seq y8 .ret):=by kernel_rfl
theorem mend (n:Nat) (m:TM) (R:List TO → C → Prop) (h:R [] (.tup [.sl ((outM n m).map tyC),.bool true])) :
  evalTC P ⟨fun _ => False,[]⟩ (.seq y8 .ret) (fun _ _ _ => False) (fun L ρ => retT L ρ [(6,none),(7,none)] fun vs => RetT [] L (resT vs) R) (fun _ _ => False) [(27,.row 32 3 ((outM n m).map tyC))] (tput (some 10) (.rw 27) fun _ => .any):=by
 have hr:RetT [] [(27,.row 32 3 ((outM n m).map tyC))] (.tup [.rw 27,.bool true]) (Ret [] (.tup [.sl ((outM n m).map tyC),.bool true])):=retF [27] [] ⟨_,[],rfl,rfl,rfl,rfl,rfl⟩
 obtain ⟨fz,ko,hr⟩:=hr.out
 refine RetT.mk ⟨fz,ko,callF.frzK_imp hr ?_⟩
 rintro L ρ vs ⟨L1,c,c1,Mo,h1,h2,h3,h4,h5,h6⟩
 exact ⟨L1,c,c1,Mo,h1,h2,h3,h4,h5,fun hw => by rw [(h6 hw).1,(h6 hw).2]; exact h⟩
theorem t24ok (p t:Ty) (n:Nat) (hn:n ≤ 4) (m:TM) (hm:fitM n p t [] = (m,true)):CallsT P 24 [tyA p,tyA t,IC n] [] (Ret [] (.tup [.sl ((outM n m).map tyC),.bool true])):=by
 have hk:KeysIn n m:=by
  have:=fit_keys n p t [] ⟨by simp,by simp⟩
  rwa [hm] at this
 refine CallsTX.noPan ⟨fun F Li vs hl htl ha => ⟨⟨Try.f24,Try.func24,by rw [mBody_eq]; rfl,by kernel_rfl⟩,ResA.mono',fun w hs => ?_⟩⟩
 have hLi:Li = []:=List.length_eq_zero_iff.1 hl
 subst hLi
 have hnt:Try.f24.ntmps = 40:=by kernel_rfl
 have hvl:vs.length = 3:=by have:=ha.len; simpa using this
 obtain ⟨G0,ρ0,he,ht,_⟩:=enterT (40 - vs.toArray.size) hl htl ha hs
 let G:Nat → Option (Nat × TypeId):=fun _ => none
 refine calls_of_wp Try.func24 mBody_eq ?_
 rw [hnt]
 have M0:MQ A24.n G F [] w (fun M τ => M = [] ∧ τ = argT 0 [tyA p,tyA t,IC n]) { tmps:=vs.toArray ++ Array.replicate (40 - vs.toArray.size) undef,defers:=[] } w :=
  ⟨F,inp [],ρ0,_,_,hs,he,⟨ht.tl,ht.env,(fun k g t e => by cases e),ht.glob⟩,by simp [hvl,A24],Step.refl _ _ _,rfl,rfl⟩
 generalize ha0:({ tmps:=vs.toArray ++ Array.replicate (40 - vs.toArray.size) undef,defers:=[] }:Act) = a0 at M0
 have hd0:a0.defers = []:=by rw [← ha0]
 have hpre:=mpre p t n hn m hm
 refine MQ.seq lowm0 rfl M0 (sc2:=.seq y1 (.seq y2 (.seq y3 (.seq y4 (.seq y5 y6))))) (fun M τ q => by rw [q.1,q.2]; exact hpre) fun a1 w1 hd1 M1 => ?_
 refine MQ.seq lowm1 rfl M1 (sc2:=.seq y2 (.seq y3 (.seq y4 (.seq y5 y6)))) (fun M τ q => q) fun a2 w2 hd2 M2 => ?_
 refine MQ.seq lowm2 rfl M2 (sc2:=.seq y3 (.seq y4 (.seq y5 y6))) (fun M τ q => q) fun a3 w3 hd3 M3 => ?_
 refine MQ.seq lowm3 rfl M3 (sc2:=.seq y4 (.seq y5 y6)) (fun M τ q => q) fun a4 w4 hd4 M4 => ?_
 refine MQ.seq lowm4 rfl M4 (sc2:=.seq y5 y6) (fun M τ q => q) fun a5 w5 hd5 M5 => ?_
 refine MQ.seq lowm5 rfl M5 (sc2:=y6) (fun M τ q => q) fun a6 w6 hd6 M6 => ?_
 refine MQ.one lowm6 rfl M6 (fun M τ q => q) fun a7 w7 hd7 M7 => ?_
 have hd7:a7.defers = []:=by rw [hd7,hd6,hd5,hd4,hd3,hd2,hd1,hd0]
 refine wp_seq (m7_wp (fun _ => rfl) hk M7 (fun M τ q => q) fun a8 w8 hd8 M8 => ?_)
 obtain ⟨F8,L8,ρ8,M,τ,g1,g2,g3,g4,g5,rfl,rfl⟩:=M8
 show (m8.seq .ret).wp P _ a8 w8
 refine wp_mono (evalTC_sound (m8.seq .ret) low8r (fun k _ hne => absurd rfl hne) g1 g2 g3 g4 (mend n m (Ret [] (.tup [.sl ((outM n m).map tyC),.bool true])) ⟨rfl,rfl⟩)) ?_
 intro e a' w' hq
 cases e with
 | normal => obtain ⟨F',L',ρ',_,_,_,_,_,_,M',τ',_,h⟩:=hq; exact h.elim
 | exit j => obtain ⟨F',L',ρ',_,_,_,_,_,_,M',τ',_,h⟩:=hq; exact h.elim
 | ret =>
  obtain ⟨F',L',ρ',k1,k2,k3,k4,k5,k6,M',τ',k7,k8⟩:=hq
  have hf:=fin_T (P:=P) (fn:=Try.f24) (rs:=[(6,none),(7,none)]) (n:=40) (asg:=[]) (a0:=a') (a':=a') (w':=w') (Li:=[]) (Lin:=[]) (w:=w) (F:=F) (G:=G) (R:=Ret [] (.tup [.sl ((outM n m).map tyC),.bool true])) (by kernel_rfl) rfl htl (fun k g t cs e => by cases e)
   ⟨F',L',ρ',k1,k2,k3,rfl,g5.trans k5,fun _ _ => rfl,M',τ',k7,k8⟩
  obtain ⟨_,v,q2,F2,Lo,q3,q4,q5⟩:=hf
  exact ⟨by rw [k4,hd8,hd7],v,q2,.inl ⟨v,F2,Lo,rfl,q3,q4,q5⟩⟩
 | goto l => exact hq.elim
 | panic ch => obtain ⟨v,hch,F',L',k1,k2,k3,k4,k5,kp,hp,_⟩:=hq; exact hp.elim
 | outgrown => exact hq.elim
end Go.Fr.Try
