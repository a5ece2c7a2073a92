/- Part of the proofs of the statements of this seat. -/
import Derived.Test.YtfkgdgfmkocloaaGreatDoorImT2G
set_option maxRecDepth 10000
set_option linter.unusedVariables false
set_option linter.unusedSimpArgs false
namespace Go.Fr.Tryz
open Go Go.RowKit Go.Proofs Go.Fr Go.Fr.T
def c124a:SCode:=.reg [.op (some 8) (.mov (.t 0)) none,
  .op (some 9) (.len (.t 8)) none,
  .op (some 10) (.mov (.t 1)) none,
  .op (some 11) (.bin .add (.t 9) (.t 10)) none,
  .op (some 5) (.mov (.t 11)) none]
def c124b:SCode:=.seq (.reg [.op (some 12) (.mov (.t 5)) none,
  .op (some 13) (.mov (.t 0)) none,
  .op (some 14) (.capa (.t 13)) none,
  .op (some 15) (.bin .mul (.c (.int .i64 2)) (.t 14)) none,
  .op (some 16) (.bin .lss (.t 12) (.t 15)) none])
 (.cond (.t 16)
 (.reg [.op (some 17) (.mov (.t 0)) none,
   .op (some 18) (.capa (.t 17)) none,
   .op (some 19) (.bin .mul (.c (.int .i64 2)) (.t 18)) none,
   .op (some 5) (.mov (.t 19)) none])
 .skip)
def c124c:SCode:=.reg [.op (some 20) (.mov (.t 5)) none,
  .op (some 21) (.appZ 5 1 .u8 (.c (.slice none 0 0)) (.t 20)) none,
  .op (some 6) (.mov (.t 21)) none]
def c124d:SCode:=.seq (.reg [.op (some 22) (.mov (.t 6)) none,
  .op (some 23) (.mov (.t 0)) none,
  .op (some 24) (.copy 5 1 (.t 22) (.t 23)) none,
  .op (some 7) (.mov (.t 24)) none])
 (.seq (.reg [.op (some 25) (.mov (.t 6)) none,
  .op (some 26) (.mov (.t 7)) none,
  .op (some 27) (.slc 1 (.t 25) none (some (.t 26))) none,
  .op (some 4) (.mov (.t 27)) none])
 .ret)
theorem piece {P:Program} {A:Ann} {c:Code} {sc:SCode} (hl:low P A c = some sc) {N:Kont} {F:Frz} {L:Loc} {ρ:Env} {a:Act} {w:World} (hs:St F L w) (he:EnvOk L ρ a) (hn:a.tmps.size = A.n)
  (hK:evalC2 P sc (fun _ _ _ _ => False) (fun _ _ _ => False) N F L ρ) {Q:Exit → Act → World → Prop}
  (k:∀ a' w' F' L' ρ',St F' L' w' → EnvOk L' ρ' a' → a'.tmps.size = A.n → a'.defers = a.defers → Step F L w F' L' w' → N F' L' ρ' → Q .normal a' w'):c.wp P Q a w:=by
 refine wp_mono (evalC2_sound c hl hs he hn hK) ?_
 intro e a' w' h
 cases e with
 | normal => obtain ⟨F',L',ρ',h1,h2,h3,h4,h5,h6,h7⟩:=h; exact k _ _ _ _ _ h1 h2 h3 h4 h5 h7
 | exit j => obtain ⟨F',L',ρ',h1,h2,h3,h4,h5,h6,h7⟩:=h; exact h7.elim
 | ret => obtain ⟨F',L',ρ',h1,h2,h3,h4,h5,h6,h7⟩:=h; exact h7.elim
 | panic ch =>
  obtain ⟨v,_,F',L',q1,q2,q3,q4,q5,q6⟩:=h
  exact q6.elim
 | _ => exact h.elim
theorem put_self {ρ:Env} {k:Nat} {x:SV} (h:ρ k = x):put (some k) x ρ = ρ:=by
 funext j
 rw [put_eq]
 simp only []
 split
 ·rename_i e; rw [e,h]
 ·rfl
def A124r:Ann:={ n:=28 }
theorem catch_idle150 (w:World) :
  CallsD Tryz.prog 150 #[] .returning w fun e u' w' => e = .returned (.tuple #[]) ∧ u' = .returning ∧ w' = w:=by
 have hn:Tryz.f150.ntmps = 3:=by kernel_rfl
 have hr:Tryz.f150.results = #[]:=by kernel_rfl
 refine callsD_of_wpS Tryz.func150 rfl fun c₀ cs hu => ?_
 apply wpS_seq
 apply wpS_region
 simp [wpOpsS,go_sem,recoverD,hu,hn,Exit.thenS]
 refine wpS_cond (t:=false) (by simp [Act.eval,Array.replicate]) ?_
 simp only [Bool.false_eq_true,if_false]
 refine wpS_of_wp (wp_skip ?_)
 cases c₀
 simp_all [bodyPostS,results]
theorem t124A (F:Frz) (a:Option Addr) (n c m:Nat) (xs:List Value) (hn:n ≤ c) (hc:c < n + m) (hm:n + m ≤ 70368744177664) (hx:xs.length = n) (hsrc:FCells F a 0 xs ∨ (n = 0 ∧ xs = [])) (h1:∀ u ∈ xs,u.oneCell' = true) :
  CallsA PZ 124 #[.slice a n c,.int .i64 m] F [] (fun _ Lo v => ∃ c2,RowV v n c2 ∧ n + m ≤ c2 ∧ Lo = [.row v 5 1 n xs]):=by
 have hnt:Tryz.f124.ntmps = 28:=by kernel_rfl
 refine ⟨⟨_,Tryz.func124,by kernel_rfl,by kernel_rfl⟩,fun _ _ _ _ _ h => h,fun w hs => ?_⟩
 suffices hall:∀ RR:Ending → World → Prop,(∀ v F' Lo w',St F' (inp Lo) w' → Step F (inp []) w F' (inp Lo) w' → (∃ c2,RowV v n c2 ∧ n + m ≤ c2 ∧ Lo = [.row v 5 1 n xs]) → RR (.returned v) w') → Calls Tryz.prog 124 #[.slice a n c,.int .i64 m] w RR from
  hall _ fun v F' Lo w' h1 h2 h3 => ⟨v,F',Lo,rfl,h1,h2,h3⟩
 intro RR hRR
 refine calls_of_wp_defers Tryz.func124 rfl ?_
 rw [hnt]
 have he0:=env_args (Lin:=[]) [.v (.slice a n c),.v (.int .i64 m)] 28 (vals_own [.slice a n c,.int .i64 m])
 refine wp_seq (wp_region (evalOps_sound (A:=A124r) (r:=0) (List.range 1) (ss:=[.op (some 4) (.mov (.c (.slice none 0 0))) none]) (by kernel_rfl) hs he0 (by simp [A124r])
  (K:=fun F' L' ρ' => F' = F ∧ L' = inp [] ∧ ρ' = put (some 4) (.v (.slice none 0 0)) (argE 0 [.v (.slice a n c),.v (.int .i64 m)])) ⟨rfl,rfl,rfl⟩ ?_))
 rintro a1 w1 ⟨F1,L1,ρ1,hs1,he1,hn1,hd1,hst1,_,rfl,rfl,rfl⟩
 simp only [Exit.then]
 refine wp_seq (wp_region ?_)
 obtain ⟨tm,df⟩:=a1
 simp only at hn1 hd1
 subst hd1
 have hmk:∀ w:World,(Instr.makeFunc (.func 150) #[] #[]).run Tryz.prog w = .ok (.func (.func 150) #[] #[]) w:=fun _ => rfl
 simp [wpOps,go_sem,Exit.then,Act.eval]
 refine .inl ?_
 have he2:EnvOk (inp []) (put (some 4) (.v (.slice none 0 0)) (argE 0 [.v (.slice a n c),.v (.int .i64 m)])) { tmps:=tm,defers:=[{ target:=.fn (.func 150) #[],args:=#[] }] }:=⟨he1.eq,he1.own,he1.el⟩
 refine wp_seq (piece (A:=A124r) (sc:=c124a) (by kernel_rfl) hs1 he2 hn1 (N:=fun F' L' ρ' => F' = F1 ∧ L' = inp [] ∧ ρ' 5 = .v (.int .i64 (n + m:Nat)) ∧ ρ' 0 = .v (.slice a n c)) ?_ ?_)
 ·refine Fit.to (m:=((n + m:Nat):Int)) (by rw [wrap64_id (by omega) (by omega)]; omega) ?_
  exact ⟨rfl,rfl,rfl,rfl⟩
 rintro a2 w2 F2 L2 ρ2 hs2 he2 hn2 hd2 hst2 ⟨rfl,rfl,h25,h20⟩
 simp only [Exit.then]
 rw [← put_self h25,← put_self (ρ:=put _ _ ρ2) (k:=0) (x:=.v (.slice a n c)) (by rw [put_eq]; simpa using h20)] at he2
 generalize hMd:(if n + m < 2 * c then 2 * c else n + m) = M
 have hMn:n + m ≤ M ∧ M ≤ 140737488355328:=by subst hMd; split <;> omega
 refine wp_seq (piece (A:=A124r) (sc:=c124b) (by kernel_rfl) hs2 he2 hn2 (N:=fun F' L' ρ' => F' = F2 ∧ L' = inp [] ∧ ρ' 5 = .v (.int .i64 M) ∧ ρ' 0 = .v (.slice a n c)) ?_ ?_)
 ·refine Fit.to (m:=((2 * c:Nat):Int)) (by rw [wrap64_id (by omega) (by omega)]; omega) ?_
  refine brn_p (fun h => ?_) (fun h => ?_)
  ·refine Fit.to (m:=((2 * c:Nat):Int)) (by rw [wrap64_id (by omega) (by omega)]; omega) ?_
   exact ⟨rfl,rfl,(by rw [← hMd,if_pos (by omega)]; rfl),rfl⟩
  ·exact ⟨rfl,rfl,(by rw [← hMd,if_neg (by omega)]; rfl),rfl⟩
 clear h25 h20
 rintro a3 w3 F3 L3 ρ3 hs3 he3 hn3 hd3 hst3 ⟨rfl,rfl,h25,h20⟩
 simp only [Exit.then]
 rw [← put_self h25,← put_self (ρ:=put _ _ ρ3) (k:=0) (x:=.v (.slice a n c)) (by rw [put_eq]; simpa using h20)] at he3
 refine wp_seq (piece (A:=A124r) (sc:=c124c) (by kernel_rfl) hs3 he3 hn3 (N:=fun F' L' ρ' => F' = F3 ∧ ∃ ad c2,L' = [(21,.row (.slice (some ad) M c2) 5 1 M (List.replicate M (.int .u8 0)))] ∧ ρ' 6 = .v (.slice (some ad) M c2) ∧ ρ' 0 = .v (.slice a n c)) ?_ ?_)
 ·refine AppZPt.mk ⟨21,0,[],.inr ⟨rfl,rfl,rfl,rfl⟩,by unfold maxLen; omega,by omega,fun v hv => ?_⟩
  obtain ⟨a',c',rfl,hne⟩:=hv
  cases a' with
  | none => exact absurd (hne rfl) (by omega)
  | some ad =>
   rw [Nat.zero_add]
   exact ⟨rfl,ad,c',rfl,rfl,rfl⟩
 clear h25 h20
 rintro a4 w4 F4 L4 ρ4 hs4 he4 hn4 hd4 hst4 ⟨rfl,ad,c2,rfl,h25,h20⟩
 simp only [Exit.then]
 obtain ⟨c2',hrv⟩:=rowV_of hs4 (k:=21) rfl
 rcases hrv with ⟨e,_⟩ | ⟨g,e,hc2,hc2m⟩
 ·cases e
 injection e with e1 e2 e3
 injection e1 with e1
 subst e1 e3
 rw [← put_self h25,← put_self (ρ:=put _ _ ρ4) (k:=0) (x:=.v (.slice a n c)) (by rw [put_eq]; simpa using h20)] at he4
 have hsp:splice (List.replicate M (Value.int .u8 0)) (0 * 1) xs = xs ++ List.replicate (M - n) (.int .u8 0):=by
  simp [splice,hx]
 refine wp_mono (evalC2_sound (A:=A124r) _ (sc:=c124d) (by kernel_rfl) hs4 he4 hn4 (E:=fun _ _ _ _ => False) (N:=fun _ _ _ => False)
  (R:=fun F' L' ρ' => F' = F4 ∧ L' = [(21,.row (.slice (some ⟨g,0,none⟩) M c2) 5 1 M (xs ++ List.replicate (M - n) (.int .u8 0)))] ∧ ρ' 4 = .v (.slice (some ⟨g,0,none⟩) n c2)) ?_) ?_
 ·refine CopyPt.mk ⟨21,M,_,_,_,⟨g,0,none⟩,c2,c2,0,n,a,c,xs,rfl,rfl,rfl,by omega,rfl,by rw [Nat.min_eq_left (by omega),hx,Nat.mul_one],?_,h1,?_⟩
  ·rw [Nat.min_eq_left (by omega)]; exact hsrc
  rw [Nat.min_eq_left (by omega),hsp]
  refine SlcPt.mk (by omega) (by omega) (by omega) ?_
  exact ⟨rfl,rfl,congrArg SV.v (slc0 (n:=M) (.inr ⟨g,rfl,by omega,hc2m⟩) rfl)⟩
 intro e a5 w5 h
 cases e with
 | normal => obtain ⟨F',L',ρ',h1,h2,h3,h4,h5,h6,h7⟩:=h; exact h7.elim
 | exit j => obtain ⟨F',L',ρ',h1,h2,h3,h4,h5,h6,h7⟩:=h; exact h7.elim
 | panic ch =>
  obtain ⟨v,_,F',L',q1,q2,q3,q4,q5,q6⟩:=h
  exact q6.elim
 | ret =>
  obtain ⟨F',L',ρ',hs5,he5,hn5,hd5,hst5,_,rfl,rfl,h4⟩:=h
  rw [hd4,hd3,hd2] at hd5
  show Leaves Tryz.prog Tryz.f124 a5.tmps RR a5.defers .returning w5
  rw [hd5]
  refine leaves_cons (f:=150) (args:=#[]) (by simp) (by simp [invoke]) ?_
  refine (catch_idle150 _).mono ?_
  rintro e u' w6 ⟨rfl,rfl,rfl⟩
  obtain ⟨vs,h5,rfl⟩:=results_run (P:=Tryz.prog) (fn:=Tryz.f124) (rs:=[(4,none)]) (K:=fun vs => vs = [.slice (some ⟨g,0,none⟩) n c2]) hs5 he5 (by kernel_rfl) (by
   simp only [retV,h4]
   rfl)
  obtain ⟨ys,y1,y2,y3⟩:=St.reslice (n':=n) hs5 (k:=21) rfl (by omega)
  have hys:ys = xs:=by
   apply List.ext_getElem?
   intro i
   by_cases hi:i < n
   ·rw [y2 i (by omega) (by omega),List.getElem?_append_left (by omega)]
   ·rw [List.getElem?_eq_none (by omega),List.getElem?_eq_none (by omega)]
  subst hys
  refine ⟨_,h5,hRR _ F' [.row (.slice (some ⟨g,0,none⟩) n c2) 5 1 n ys] w6 ?_ ?_ ⟨c2,.inr ⟨g,rfl,by omega,hc2m⟩,by omega,rfl⟩⟩
  ·exact y3.handed (ks:=[21]) rfl (by simp)
  ·have hst:=(((hst1.trans hst2).trans hst3).trans hst4).trans hst5
   refine ⟨hst.le,hst.os,hst.tape,hst.output,hst.size,hst.same,hst.frz,fun b hb => ?_⟩
   refine hst.own b ?_
   obtain ⟨k,o,e,hb⟩:=hb
   rw [inp_get] at e
   split at e
   case isFalse => cases e
   rename_i hk
   have hmem:=List.mem_of_getElem? e
   simp only [List.mem_singleton] at hmem
   subst hmem
   exact ⟨21,_,rfl,hb⟩
 | _ => exact h.elim
theorem CallsA.ofFrz {P:Program} {f:FuncId} {args:Array Value} {F:Frz} {v:Value} {t sz n:Nat} {xs:List Value} {R:Frz → List Own → Value → Prop} (hent:∃ fn,P.funcs[f]? = some fn ∧ fn.body.isSome = true ∧ (fn.name == "runtime.NumGoroutine") = false)
  (hmono:∀ F G L v,F.le G → R F L v → R G L v) (h:∀ F',F.le F' → FRow F' v sz n xs → CallsA P f args F' [] R):CallsA P f args F [.row v t sz n xs] R:=by
 refine ⟨hent,hmono,fun w hs => ?_⟩
 have he:EnvOk (inp [.row v t sz n xs]) (fun _ => .v undef) { tmps:=#[],defers:=[] }:=⟨fun t => by simp [conc],fun _ _ _ e => (by cases e),fun _ _ _ e => (by cases e)⟩
 obtain ⟨F',L',k1,k2,k3,k4,k5⟩:=frz_sound (k:=1000) hs he (KK:=fun F' L' => L' = inp [] ∧ F.le F' ∧ FRow F' v sz n xs) ⟨v,t,sz,n,xs,rfl,fun F' h1 h2 => ⟨rfl,h1,h2⟩⟩
 obtain ⟨rfl,k5,k6⟩:=(⟨k4,k5⟩:_ ∧ _)
 refine Calls.mono ((h F' k5 k6).run w k1) ?_
 rintro e w' ⟨v,F2,Lo,rfl,h1,h2,h3⟩
 exact ⟨v,F2,Lo,rfl,h1,k3.trans h2,h3⟩
theorem ent124:∃ fn,Tryz.prog.funcs[124]? = some fn ∧ fn.body.isSome = true ∧ (fn.name == "runtime.NumGoroutine") = false:=⟨_,Tryz.func124,by kernel_rfl,by kernel_rfl⟩
theorem t124R (F:Frz) (a:Option Addr) (n c m:Nat) (xs:List Value) (hn:n ≤ c) (hc:c < n + m) (hm:n + m ≤ 70368744177664) (hx:xs.length = n) (h1:∀ u ∈ xs,u.oneCell' = true) :
  CallsA PZ 124 #[.slice a n c,.int .i64 m] F [.row (.slice a n c) 5 1 n xs] (fun _ Lo v => ∃ c2,RowV v n c2 ∧ n + m ≤ c2 ∧ Lo = [.row v 5 1 n xs]):=by
 refine CallsA.ofFrz ent124 (fun _ _ _ _ _ h => h) fun F' _ hF => t124A F' a n c m xs hn hc hm hx ?_ h1
 rcases hF with ⟨e,rfl,rfl⟩ | ⟨a',c',e,h,_⟩
 ·exact .inr ⟨rfl,rfl⟩
 ·injection e with e1 _ _
  subst e1
  exact .inl h
theorem t122A (F:Frz) (gb tb:Nat) (s:Value) (lr:Int) (n c:Nat) (xs:List Value) (hs:RowV s n c) :
  CallsA PZ 122 #[.pointer (some ⟨gb,0,none⟩)] F (BO gb tb s lr n xs) (fun _ Lo v => Lo = BO gb tb s lr n xs ∧ v = .int .i64 n):=by
 obtain ⟨a,rfl,hnc,hcm,ha⟩:=hs.form
 unfold maxLen at hcm
 refine callsA2_facts (svs:=[.own 1000 0]) rfl facts122 rfl rfl (buf_own (svs:=[])) (fun _ _ _ _ _ h => h) ?_
 refine Fit.to (m:=(n:Int)) (by rw [wrap64_id (by omega) (by omega)]; omega) ?_
 exact ⟨[1000,1001],_,rfl,by decide,rfl,rfl⟩
theorem callBO {f:Nat} {vs:List Value} {F:Frz} {L:Loc} {K:Frz → Loc → Value → Prop} {gb tb n:Nat} {s:Value} {lr:Int} {xs:List Value} {R:Frz → List Own → Value → Prop} (hL:L = inp (BO gb tb s lr n xs)) (h:CallsA PZ f vs.toArray F (BO gb tb s lr n xs) R)
  (kk:∀ v F' Lo,F.le F' → R F' Lo v → ∃ s' lr' n' xs',Lo = BO gb tb s' lr' n' xs' ∧ K F' (inp (BO gb tb s' lr' n' xs')) v):CallPt PZ f vs F L K:=by
 subst hL
 refine ⟨[1000,1001],[1000,1001],_,_,rfl,by decide,by decide,fun k hk => .inl hk,h,fun v F' Lo hle hR => ?_⟩
 obtain ⟨s',lr',n',xs',rfl,hK⟩:=kk v F' Lo hle hR
 refine ⟨rfl,fun k g t cs hk e => ?_,hK⟩
 simp only [List.mem_cons,List.not_mem_nil,or_false] at hk
 rcases hk with rfl | rfl
 ·have e':(some (Own.box gb tb [s,.int .i64 0,.int .i8 lr])) = some (.box g t cs):=e
  injection e' with e'
  injection e' with e1 e2 e3
  subst e1 e2
  exact ⟨_,rfl⟩
 ·have e':(some (Own.row s 5 1 n xs)) = some (.box g t cs):=e
  injection e' with e'
  cases e'
theorem call122 {F:Frz} {L:Loc} {K:Frz → Loc → Value → Prop} {gb tb n c:Nat} {s:Value} {lr:Int} {xs:List Value} (hL:L = inp (BO gb tb s lr n xs)) (hs:RowV s n c)
  (kk:∀ F',F.le F' → K F' (inp (BO gb tb s lr n xs)) (.int .i64 n)):CallPt PZ 122 [.pointer (some ⟨gb,0,none⟩)] F L K :=
 callBO hL (t122A F gb tb s lr n c xs hs) fun v F' Lo hle hR => ⟨s,lr,n,xs,hR.1,hR.2 ▸ kk F' hle⟩
theorem call79 {F:Frz} {L:Loc} {K:Frz → Loc → Value → Prop} {gb tb n c m:Nat} {s:Value} {lr:Int} {xs:List Value} (hL:L = inp (BO gb tb s lr n xs)) (hs:RowV s n c) (hm:n + m ≤ 140737488355328)
  (k1:∀ F' s' ys,F.le F' → ys.length = m → RowV s' (n + m) c → K F' (inp (BO gb tb s' lr (n + m) (xs ++ ys))) (.tuple #[.int .i64 n,.bool true]))
  (k2:∀ F',F.le F' → c < n + m → K F' (inp (BO gb tb s lr n xs)) (.tuple #[.int .i64 0,.bool false])):CallPt PZ 79 [.pointer (some ⟨gb,0,none⟩),.int .i64 m] F L K :=
 callBO hL (t79A F gb tb s lr n c m xs hs hm) fun v F' Lo hle hR => by
  rcases hR with ⟨s',ys,h1,h2,rfl,rfl⟩ | ⟨h1,rfl,rfl⟩
  ·exact ⟨_,_,_,_,rfl,k1 F' s' ys hle h1 h2⟩
  ·exact ⟨_,_,_,_,rfl,k2 F' hle h1⟩
theorem call124X {F:Frz} {L:Loc} {K:Frz → Loc → Value → Prop} {n c m:Nat} {a:Option Addr} {s:Value} {xs:List Value} (hs:RowV s n c) (hk:L.get 1001 = some (.row s 5 1 n xs)) (hc:c < n + m) (hm:n + m ≤ 70368744177664) (hx:xs.length = n) (h1:∀ u ∈ xs,u.oneCell' = true) (ha:s = .slice a n c)
  (kk:∀ b F' c2,F.le F' → RowV (.slice b n c2) n c2 → n + m ≤ c2 → K F' (L.set 1001 (.row (.slice b n c2) 5 1 n xs)) (.slice b n c2)):CallXDPt PZ (fun _ _ => False) [] 124 [slcVal a c 0 n 1,.int .i64 m] F L K:=by
 subst ha
 obtain ⟨_,_,hnc,_⟩:=hs.form
 rw [slc0 hs rfl]
 refine ⟨[1001],[.row (.slice a n c) 5 1 n xs],_,fun _ => False,by simp only [Loc.sub,hk],by simp,by simp,(t124R F a n c m xs (by omega) hc hm hx h1).toX,fun v L' _ h => h.elim,fun v F' Lo hF hR => ?_⟩
 obtain ⟨c2,q1,q2,rfl⟩:=hR
 obtain ⟨b,rfl,_⟩:=q1.form
 refine ⟨rfl,fun i g t cs e => ?_,fun _ => kk b F' c2 hF q1 q2⟩
 cases i with
 | zero => injection e with e; cases e
 | succ i => cases e
theorem noNew {L:Loc} {ss:List SStep} (h:(ss.all fun s => (newK s).isNone) = true):∀ s ∈ ss,∀ k,newK s = some k → L.get k = none:=by
 intro s hs k e
 have:=List.all_eq_true.1 h s hs
 rw [e] at this
 cases this
def R80 (gb tb:Nat) (lr:Int) (n m:Nat) (xs:List Value):Frz → List Own → Value → Prop:=fun _ Lo v =>
 ∃ s' c' ys,ys.length = m ∧ RowV s' (n + m) c' ∧ Lo = BO gb tb s' lr (n + m) (xs ++ ys) ∧ v = .int .i64 n
def Raw (gb tb:Nat) (lr:Int) (n m:Nat) (xs:List Value) (Lo:List Own):Prop :=
 ∃ a c,RowV (.slice a n c) n c ∧ n + m ≤ c ∧ Lo = [.box gb tb [slcVal a c 0 (n + m) 1,.int .i64 0,.int .i8 lr],.row (.slice a n c) 5 1 n xs]
theorem raw_relo {gb tb n m:Nat} {lr:Int} {xs:List Value} {Lo:List Own} {F:Frz} {w:World} (h:Raw gb tb lr n m xs Lo) (hst:St F (inp Lo) w) :
  ∃ Lo',St F (inp Lo') w ∧ (∀ b,(inp Lo').owns b → (inp Lo).owns b) ∧ ∃ s' c' ys,ys.length = m ∧ RowV s' (n + m) c' ∧ Lo' = BO gb tb s' lr (n + m) (xs ++ ys):=by
 obtain ⟨a,c,hs,hle,rfl⟩:=h
 rw [slc0 hs rfl] at hst ⊢
 rcases hs with ⟨e,rfl,rfl⟩ | ⟨g,e,h1,h2⟩
 ·injection e with e1 _ _
  subst e1
  have:m = 0:=by omega
  subst this
  exact ⟨_,hst,fun b h => h,.slice none 0 0,0,[],rfl,.inl ⟨rfl,rfl,rfl⟩,by simp [BO]⟩
 ·injection e with e1 _ _
  subst e1
  have hk:(inp [.box gb tb [.slice (some ⟨g,0,none⟩) (n + m) c,.int .i64 0,.int .i8 lr],.row (.slice (some ⟨g,0,none⟩) n c) 5 1 n xs]).get 1001 = some (.row (.slice (some ⟨g,0,none⟩) n c) 5 1 n xs):=rfl
  have hxl:xs.length = n:=by
   have:=(hst.own _ _ hk).1
   simpa using this
  obtain ⟨ys,y1,y2,y3⟩:=St.reslice hst hk hle
  have hys:ys = xs ++ ys.drop n:=by
   apply List.ext_getElem?
   intro i
   by_cases hi:i < n
   ·rw [y2 i (by omega) (by omega),List.getElem?_append_left (by omega)]
   ·rw [List.getElem?_append_right (by omega),List.getElem?_drop,hxl]
    congr 1
    omega
  refine ⟨BO gb tb (.slice (some ⟨g,0,none⟩) (n + m) c) lr (n + m) ys,y3,fun b hb => ?_,_,c,ys.drop n,by rw [List.length_drop,y1]; omega,.inr ⟨g,rfl,hle,h2⟩,by rw [← hys]⟩
  obtain ⟨k,o,e,hb⟩:=hb
  rw [inp_BO] at e
  simp only [Loc.get] at e
  split at e
  ·rename_i hk1
   injection e with e; subst e
   exact ⟨1000,_,rfl,hb⟩
  ·split at e
   ·injection e with e; subst e
    exact ⟨1001,_,rfl,hb⟩
   ·cases e
theorem R80.relo {f gb tb n m:Nat} {lr:Int} {xs:List Value} {args:Array Value} {F:Frz} {Lin:List Own} (h:CallsA PZ f args F Lin (fun F' Lo v => R80 gb tb lr n m xs F' Lo v ∨ (Raw gb tb lr n m xs Lo ∧ v = .int .i64 n))):CallsA PZ f args F Lin (R80 gb tb lr n m xs):=by
 refine CallsA.relo h (fun _ _ _ _ _ h => h) ?_
 rintro F' Lo v w' hst (h | ⟨h,rfl⟩)
 ·exact ⟨Lo,hst,fun b h => h,h⟩
 ·obtain ⟨Lo',k1,k2,s',c',ys,k3,k4,rfl⟩:=raw_relo h hst
  exact ⟨_,k1,k2,s',c',ys,k3,k4,rfl,rfl⟩
set_option maxHeartbeats 1000000 in
theorem t80n (F:Frz) (gb tb:Nat) (lr:Int) (m:Nat) (hm:m ≤ 70368744177664) :
  CallsA PZ 80 #[.pointer (some ⟨gb,0,none⟩),.int .i64 m] F (BO gb tb (.slice none 0 0) lr 0 []) (R80 gb tb lr 0 m []):=by
 have hs:RowV (.slice none 0 0) 0 0:=.inl ⟨rfl,rfl,rfl⟩
 refine R80.relo ?_
 refine callsA2_facts (svs:=[.own 1000 0,.v (.int .i64 m)]) rfl facts80 rfl rfl (buf_own (svs:=[.int .i64 m])) (fun _ _ _ _ _ h => h) ?_
 refine call122 rfl hs fun F1 hF1 => ?_
 refine call79 rfl hs (by omega) (fun F2 s' ys hF2 h1 h2 => ?_) (fun F2 hF2 hc => ?_)
 ·exact ⟨[1000,1001],_,rfl,by decide,.inl ⟨s',0,ys,h1,h2,rfl,rfl⟩⟩
 refine brn_p (fun h => ?_) (fun h => ?_)
 ·refine MakePt.mk (by omega) (by omega) (by decide) (by decide) fun g => ?_
  exact ⟨[1000,41],_,rfl,by decide,.inl ⟨.slice (some ⟨g,0,none⟩) m 64,64,(List.replicate m [Value.int .u8 0]).flatten,by simp,.inr ⟨g,by rw [Nat.zero_add m],by omega,by decide⟩,by rw [Nat.zero_add m]; rfl,rfl⟩⟩
 refine NonZ.mk (by omega) ?_
 refine Fit.to (m:=0) (by decide) ?_
 refine Fit.to (m:=0) (by decide) ?_
 refine brn_p (fun h2 => ?_) (fun h2 => ?_)
 ·omega
 refine Fit.to (m:=9223372036854775807) (by decide) ?_
 refine Fit.to (m:=9223372036854775807 - m) (by rw [wrap64_id (by omega) (by omega)]) ?_
 refine brn_p (fun h3 => ?_) (fun h3 => ?_)
 ·omega
 refine ⟨noNew (by kernel_rfl),?_⟩
 refine ⟨_,rfl,⟨_,rfl,⟨_,rfl,⟨_,rfl,⟨_,rfl,⟨_,rfl,⟨_,rfl,⟨_,rfl,⟨_,rfl,⟨_,rfl,?_⟩⟩⟩⟩⟩⟩⟩⟩⟩⟩
 refine SlcPt.mk (by omega) (by omega) (by omega) ?_
 refine ⟨_,rfl,⟨_,rfl,⟨_,rfl,⟨_,rfl,⟨_,rfl,⟨_,rfl,?_⟩⟩⟩⟩⟩⟩
 refine Fit.to (m:=(m:Int)) (by rw [wrap64_id (by omega) (by omega)]; omega) ?_
 refine call124X hs rfl (by omega) (by omega) rfl (by simp) rfl fun b F3 c2 hF3 hv hc2 => ?_
 refine ⟨_,rfl,⟨_,rfl,⟨_,rfl,?_⟩⟩⟩
 refine Fit.to (m:=((0 + m:Nat):Int)) (by rw [wrap64_id (by omega) (by omega)]; omega) ?_
 refine SlcPt.mk (by omega) (by omega) (by omega) ?_
 exact ⟨[1000,1001],_,rfl,by decide,.inr ⟨⟨b,c2,hv,by omega,rfl⟩,rfl⟩⟩
theorem t80r (F:Frz) (gb tb g:Nat) (lr:Int) (n c m:Nat) (xs:List Value) (hn:n ≤ c) (hcm:c ≤ maxLen) (hm:n + m ≤ 70368744177664) (hx:xs.length = n) (h1:∀ u ∈ xs,u.oneCell' = true) :
  CallsA PZ 80 #[.pointer (some ⟨gb,0,none⟩),.int .i64 m] F (BO gb tb (.slice (some ⟨g,0,none⟩) n c) lr n xs) (R80 gb tb lr n m xs):=by
 have hs:RowV (.slice (some ⟨g,0,none⟩) n c) n c:=.inr ⟨g,rfl,hn,hcm⟩
 refine R80.relo ?_
 refine callsA2_facts (svs:=[.own 1000 0,.v (.int .i64 m)]) rfl facts80 rfl rfl (buf_own (svs:=[.int .i64 m])) (fun _ _ _ _ _ h => h) ?_
 refine call122 rfl hs fun F1 hF1 => ?_
 refine brn_p (fun h0 => ?_) (fun h0 => ?_) <;>
 ·refine call79 rfl hs (by omega) (fun F2 s' ys hF2 h1 h2 => ?_) (fun F2 hF2 hc => ?_)
  ·exact ⟨[1000,1001],_,rfl,by decide,.inl ⟨s',c,ys,h1,h2,rfl,rfl⟩⟩
  have hcm':c ≤ 9223372036854775807:=hcm
  refine NonZ.mk (by omega) ?_
  refine Fit.to (m:=((c / 2:Nat):Int)) (by rw [show ((c:Int).tdiv 2) = ((c / 2:Nat):Int) from rfl,wrap64_id (by omega) (by omega)]) ?_
  refine Fit.to (m:=((c / 2:Nat):Int) - n) (by rw [wrap64_id (by omega) (by omega)]) ?_
  refine brn_p (fun h2 => ?_) (fun h2 => ?_)
  ·omega
  refine Fit.to (m:=9223372036854775807 - c) (by rw [wrap64_id (by omega) (by omega)]) ?_
  refine Fit.to (m:=9223372036854775807 - c - m) (by rw [wrap64_id (by omega) (by omega)]) ?_
  refine brn_p (fun h3 => ?_) (fun h3 => ?_)
  ·omega
  refine ⟨noNew (by kernel_rfl),?_⟩
  refine ⟨_,rfl,⟨_,rfl,⟨_,rfl,⟨_,rfl,⟨_,rfl,⟨_,rfl,⟨_,rfl,⟨_,rfl,⟨_,rfl,⟨_,rfl,?_⟩⟩⟩⟩⟩⟩⟩⟩⟩⟩
  refine SlcPt.mk (by omega) (by omega) (by omega) ?_
  refine ⟨_,rfl,⟨_,rfl,⟨_,rfl,⟨_,rfl,⟨_,rfl,⟨_,rfl,?_⟩⟩⟩⟩⟩⟩
  refine Fit.to (m:=(m:Int)) (by rw [wrap64_id (by omega) (by omega)]; omega) ?_
  refine call124X hs rfl (by omega) (by omega) hx h1 rfl fun b F3 c2 hF3 hv hc2 => ?_
  refine ⟨_,rfl,⟨_,rfl,⟨_,rfl,?_⟩⟩⟩
  refine Fit.to (m:=((n + m:Nat):Int)) (by rw [wrap64_id (by omega) (by omega)]; omega) ?_
  refine SlcPt.mk (by omega) (by omega) (by omega) ?_
  exact ⟨[1000,1001],_,rfl,by decide,.inr ⟨⟨b,c2,hv,by omega,rfl⟩,rfl⟩⟩
theorem t80A (F:Frz) (gb tb:Nat) (s:Value) (lr:Int) (n c m:Nat) (xs:List Value) (hs:RowV s n c) (hm:n + m ≤ 70368744177664) (hx:xs.length = n) (h1:∀ u ∈ xs,u.oneCell' = true) :
  CallsA PZ 80 #[.pointer (some ⟨gb,0,none⟩),.int .i64 m] F (BO gb tb s lr n xs) (R80 gb tb lr n m xs):=by
 rcases hs with ⟨rfl,rfl,rfl⟩ | ⟨g,rfl,h2,h3⟩
 ·obtain rfl:xs = []:=List.eq_nil_of_length_eq_zero hx
  exact t80n F gb tb lr m (by omega)
 ·exact t80r F gb tb g lr n c m xs h2 h3 hm hx h1
theorem RowV.some {a:Option Addr} {n c:Nat} (h:RowV (.slice a n c) n c) (hn:0 < n):∃ g,a = .some ⟨g,0,none⟩:=by
 rcases h with ⟨_,rfl,_⟩ | ⟨g,e,_⟩
 ·omega
 ·injection e with e
  exact ⟨g,e⟩
theorem call79s {F:Frz} {L:Loc} {K:Frz → Loc → Value → Prop} {gb tb n c m:Nat} {s:Value} {lr:Int} {xs:List Value} (hL:L = inp (BO gb tb s lr n xs)) (hs:RowV s n c) (hm:n + m ≤ 140737488355328) (hp:0 < n + m)
  (k1:∀ F' g c' ys,F.le F' → ys.length = m → n + m ≤ c' → c' ≤ maxLen → K F' (inp (BO gb tb (.slice (some ⟨g,0,none⟩) (n + m) c') lr (n + m) (xs ++ ys))) (.tuple #[.int .i64 n,.bool true]))
  (k2:∀ F',F.le F' → c < n + m → K F' (inp (BO gb tb s lr n xs)) (.tuple #[.int .i64 0,.bool false])):CallPt PZ 79 [.pointer (some ⟨gb,0,none⟩),.int .i64 m] F L K :=
 call79 hL hs hm (fun F' s' ys hF h1 h2 => by
  obtain ⟨a,rfl,q1,q2,_⟩:=h2.form
  obtain ⟨g,rfl⟩:=h2.some hp
  exact k1 F' g c ys hF h1 q1 q2) k2
theorem call80s {F:Frz} {L:Loc} {K:Frz → Loc → Value → Prop} {gb tb n c m:Nat} {s:Value} {lr:Int} {xs:List Value} (hL:L = inp (BO gb tb s lr n xs)) (hs:RowV s n c) (hm:n + m ≤ 70368744177664) (hx:xs.length = n) (h1:∀ u ∈ xs,u.oneCell' = true) (hp:0 < n + m)
  (k1:∀ F' g c' ys,F.le F' → ys.length = m → n + m ≤ c' → c' ≤ maxLen → K F' (inp (BO gb tb (.slice (some ⟨g,0,none⟩) (n + m) c') lr (n + m) (xs ++ ys))) (.int .i64 n)):CallPt PZ 80 [.pointer (some ⟨gb,0,none⟩),.int .i64 m] F L K :=
 callBO hL (t80A F gb tb s lr n c m xs hs hm hx h1) fun v F' Lo hF hR => by
  obtain ⟨s',c',ys,q1,q2,rfl,rfl⟩:=hR
  obtain ⟨a,rfl,q3,q4,_⟩:=q2.form
  obtain ⟨g,rfl⟩:=q2.some hp
  exact ⟨_,_,_,_,rfl,k1 F' g c' ys hF q1 q3 q4⟩
def RW (gb tb n m:Nat) (ys:List Value) (r:Value):Frz → List Own → Value → Prop:=fun _ Lo v => ∃ s' c',RowV s' (n + m) c' ∧ Lo = BO gb tb s' 0 (n + m) ys ∧ v = r
theorem splice_end {xs ys zs:List Value} {n:Nat} (hx:xs.length = n) (hy:ys.length = zs.length):splice (xs ++ ys) n zs = xs ++ zs:=by
 subst hx
 simp [splice,hy]
theorem stByte {L:Loc} {j k:Nat} {K:Loc → Prop} {v:Value} {t m c:Nat} {xs:List Value} {ad:Addr} (b:Int) (hk:L.get k = some (.row v t 1 m xs)) (hv:v = .slice (some ad) m c) (hj:j + 1 ≤ xs.length) (kk:K (L.set k (.row v t 1 m (splice xs j [.int .u8 b])))):StorePt L (some ad) j [.int .u8 b] K :=
 ⟨k,v,t,1,m,xs,ad,c,hk,rfl,hv,hj,fun u hu => by rw [List.mem_singleton.1 hu]; rfl,kk⟩
theorem t91A (F:Frz) (gb tb:Nat) (s:Value) (lr:Int) (n c:Nat) (x:Int) (xs:List Value) (hs:RowV s n c) (hm:n + 1 ≤ 70368744177664) (hx:xs.length = n) (h1:∀ u ∈ xs,u.oneCell' = true) :
  CallsA PZ 91 #[.pointer (some ⟨gb,0,none⟩),.int .u8 x] F (BO gb tb s lr n xs) (RW gb tb n 1 (xs ++ [.int .u8 x]) .nilIface):=by
 refine callsA2_facts (svs:=[.own 1000 0,.v (.int .u8 x)]) rfl facts91 rfl rfl (buf_own (svs:=[.int .u8 x])) (fun _ _ _ _ _ h => h) ?_
 have tail:∀ (g c':Nat) (ys:List Value),ys.length = 1 → splice (xs ++ ys) (((n:Int).toNat) * 1) [.int .u8 x] = xs ++ [.int .u8 x]:=fun g c' ys hy => by
  rw [Nat.mul_one]; exact splice_end hx hy
 refine call79s (s:=s) (lr:=0) (m:=1) rfl hs (by omega) (by omega) (fun F1 g c' ys hF hy q1 q2 => ?_) (fun F1 hF hc => ?_)
 ·refine IdxPt.mk (fun e => by cases e) (by omega) (by omega) ?_
  refine stByte (k:=1001) x rfl rfl (by rw [List.length_append,hx,hy]; omega) ?_
  exact ⟨[1000,1001],_,rfl,by decide,_,c',.inr ⟨g,rfl,q1,q2⟩,congrArg (fun q => BO gb tb (.slice (some ⟨g,0,none⟩) (n + 1) c') 0 (n + 1) q) (tail g c' ys hy),rfl⟩
 ·refine call80s (s:=s) (lr:=0) (m:=1) rfl hs (by omega) hx h1 (by omega) fun F2 g c' ys hF2 hy q1 q2 => ?_
  refine IdxPt.mk (fun e => by cases e) (by omega) (by omega) ?_
  refine stByte (k:=1001) x rfl rfl (by rw [List.length_append,hx,hy]; omega) ?_
  exact ⟨[1000,1001],_,rfl,by decide,_,c',.inr ⟨g,rfl,q1,q2⟩,congrArg (fun q => BO gb tb (.slice (some ⟨g,0,none⟩) (n + 1) c') 0 (n + 1) q) (tail g c' ys hy),rfl⟩
theorem cut_row {g c n p:Nat} (h:n + p ≤ c):∃ j,j + p ≤ n + p ∧ (p ≠ 0 → j = n) ∧ slcVal (some ⟨g,0,none⟩) c n (n + p) 1 = .slice (some ((⟨g,0,none⟩:Addr).add (j * 1))) p (c - n):=by
 by_cases e:c = n
 ·refine ⟨0,by omega,fun hp => absurd (by omega) hp,?_⟩
  simp only [slcVal,if_pos e,Nat.add_sub_cancel_left]
  rfl
 ·refine ⟨n,Nat.le_refl _,fun _ => rfl,?_⟩
  simp only [slcVal,if_neg e,Nat.add_sub_cancel_left,Option.map]
theorem cpBytes {F:Frz} {L:Loc} {K:Loc → Nat → Prop} {g c' n p cp:Nat} {l h:Nat} {pa:Option Addr} {xs ys news:List Value} (hk:L.get 1001 = some (.row (.slice (some ⟨g,0,none⟩) (n + p) c') 5 1 (n + p) (xs ++ ys))) (hl':l = n) (hh:h = n + p) (hc:n + p ≤ c')
  (hx:xs.length = n) (hy:ys.length = p) (hl:news.length = p) (hsrc:FCells F pa 0 news ∨ (p = 0 ∧ news = [])) (h2:∀ u ∈ news,u.oneCell' = true)
  (kk:K (L.set 1001 (.row (.slice (some ⟨g,0,none⟩) (n + p) c') 5 1 (n + p) (xs ++ news))) p):CopyPt F L 5 1 (slcVal (some ⟨g,0,none⟩) c' l h 1) (.slice pa p cp) K:=by
 subst hl' hh
 obtain ⟨j,j1,j2,j3⟩:=cut_row (g:=g) hc
 refine ⟨1001,p,_,_,_,⟨g,0,none⟩,c',c' - l,j,p,pa,cp,news,hk,rfl,j3,j1,rfl,by rw [Nat.min_self,hl,Nat.mul_one],by rw [Nat.min_self]; exact hsrc,h2,?_⟩
 rw [Nat.min_self]
 have e:splice (xs ++ ys) (j * 1) news = xs ++ news:=by
  rw [Nat.mul_one]
  by_cases hp:p = 0
  ·obtain rfl:news = []:=List.eq_nil_of_length_eq_zero (by omega)
   obtain rfl:ys = []:=List.eq_nil_of_length_eq_zero (by omega)
   simp [splice]
  ·rw [j2 hp]; exact splice_end hx (by omega)
 rw [e]
 exact kk
theorem cpStr {L:Loc} {K:Loc → Nat → Prop} {g c' n:Nat} {l h:Nat} {t:ByteArray} {xs ys:List Value} (hk:L.get 1001 = some (.row (.slice (some ⟨g,0,none⟩) (n + t.size) c') 5 1 (n + t.size) (xs ++ ys))) (hl':l = n) (hh:h = n + t.size) (hc:n + t.size ≤ c')
  (hx:xs.length = n) (hy:ys.length = t.size)
  (kk:K (L.set 1001 (.row (.slice (some ⟨g,0,none⟩) (n + t.size) c') 5 1 (n + t.size) (xs ++ t.data.toList.map fun b => Value.int .u8 b.toNat))) t.size):CopySPt L 5 (slcVal (some ⟨g,0,none⟩) c' l h 1) t K:=by
 subst hl' hh
 obtain ⟨j,j1,j2,j3⟩:=cut_row (g:=g) hc
 rw [Nat.mul_one] at j3
 have hln:t.data.toList.length = t.size:=by simp
 refine ⟨1001,t.size,_,_,_,⟨g,0,none⟩,c',c' - l,j,hk,rfl,j3,j1,?_⟩
 rw [Nat.min_self,List.take_of_length_le (by omega)]
 have e:splice (xs ++ ys) j (t.data.toList.map fun b => Value.int .u8 b.toNat) = xs ++ t.data.toList.map fun b => Value.int .u8 b.toNat:=by
  by_cases hp:t.size = 0
  ·have h0:t.data.toList = []:=List.eq_nil_of_length_eq_zero (by omega)
   obtain rfl:ys = []:=List.eq_nil_of_length_eq_zero (by omega)
   simp [splice,h0]
  ·rw [j2 hp]; exact splice_end hx (by rw [List.length_map]; omega)
 rw [e]
 exact kk
theorem t38A (F:Frz) (gb tb:Nat) (s:Value) (lr:Int) (n c p cp:Nat) (pa:Option Addr) (xs news:List Value) (hs:RowV s n c) (hm:n + p ≤ 70368744177664) (hp:0 < n + p) (hx:xs.length = n) (h1:∀ u ∈ xs,u.oneCell' = true)
  (hl:news.length = p) (hsrc:FCells F pa 0 news ∨ (p = 0 ∧ news = [])) (h2:∀ u ∈ news,u.oneCell' = true) :
  CallsA PZ 38 #[.pointer (some ⟨gb,0,none⟩),.slice pa p cp] F (BO gb tb s lr n xs) (RW gb tb n p (xs ++ news) (.tuple #[.int .i64 p,.nilIface])):=by
 refine callsA2_facts (svs:=[.own 1000 0,.v (.slice pa p cp)]) rfl facts38 rfl rfl (buf_own (svs:=[.slice pa p cp])) (fun _ _ _ _ _ h => h) ?_
 refine call79s (s:=s) (lr:=0) rfl hs (by omega) hp (fun F1 g c' ys hF hy q1 q2 => ?_) (fun F1 hF hc => ?_)
 ·refine SlcPt.mk (by omega) (by omega) (by omega) ?_
  refine cpBytes rfl (by omega) (by omega) q1 hx hy hl (hsrc.imp (fun h => h.mono hF) id) h2 ?_
  exact ⟨[1000,1001],_,rfl,by decide,_,c',.inr ⟨g,rfl,q1,q2⟩,rfl,rfl⟩
 ·refine call80s (s:=s) (lr:=0) rfl hs (by omega) hx h1 hp fun F2 g c' ys hF2 hy q1 q2 => ?_
  refine SlcPt.mk (by omega) (by omega) (by omega) ?_
  refine cpBytes rfl (by omega) (by omega) q1 hx hy hl (hsrc.imp (fun h => (h.mono hF).mono hF2) id) h2 ?_
  exact ⟨[1000,1001],_,rfl,by decide,_,c',.inr ⟨g,rfl,q1,q2⟩,rfl,rfl⟩
theorem t125A (F:Frz) (gb tb:Nat) (s:Value) (lr:Int) (n c:Nat) (t:ByteArray) (xs:List Value) (hs:RowV s n c) (hm:n + t.size ≤ 70368744177664) (hp:0 < n + t.size) (hx:xs.length = n) (h1:∀ u ∈ xs,u.oneCell' = true) :
  CallsA PZ 125 #[.pointer (some ⟨gb,0,none⟩),.string t] F (BO gb tb s lr n xs) (RW gb tb n t.size (xs ++ t.data.toList.map fun b => Value.int .u8 b.toNat) (.tuple #[.int .i64 t.size,.nilIface])):=by
 refine callsA2_facts (svs:=[.own 1000 0,.v (.string t)]) rfl facts125 rfl rfl (buf_own (svs:=[.string t])) (fun _ _ _ _ _ h => h) ?_
 refine call79s (s:=s) (lr:=0) rfl hs (by omega) hp (fun F1 g c' ys hF hy q1 q2 => ?_) (fun F1 hF hc => ?_)
 ·refine SlcPt.mk (by omega) (by omega) (by omega) ?_
  refine cpStr rfl (by omega) (by omega) q1 hx hy ?_
  exact ⟨[1000,1001],_,rfl,by decide,_,c',.inr ⟨g,rfl,q1,q2⟩,rfl,rfl⟩
 ·refine call80s (s:=s) (lr:=0) rfl hs (by omega) hx h1 hp fun F2 g c' ys hF2 hy q1 q2 => ?_
  refine SlcPt.mk (by omega) (by omega) (by omega) ?_
  refine cpStr rfl (by omega) (by omega) q1 hx hy ?_
  exact ⟨[1000,1001],_,rfl,by decide,_,c',.inr ⟨g,rfl,q1,q2⟩,rfl,rfl⟩
def WB (t:Nat) (bs:List UInt8):List TO:=[.box t [.rw 1001,IC 0,.int .i8 0],.row 5 1 (bcells bs)]
theorem wb_of {F:Frz} {Li:List Own} {t:Nat} {bs:List UInt8} (hl:Li.length = (WB t bs).length) (h:RelTL F (inp Li) (tinp (WB t bs))) :
  ∃ gb tb s,Li = BO gb tb s 0 bs.length (bvals bs) ∧ tyOk t gb tb ∧ bs.length ≤ maxLen:=by
 match Li,hl with
 | [o1,o2],_ =>
  have h1:RelO F (inp [o1,o2]) (.box t [.rw 1001,IC 0,.int .i8 0]) o1:=h 1000
  have h2:RelO F (inp [o1,o2]) (.row 5 1 (bcells bs)) o2:=h 1001
  cases o1 with
  | row => exact h1.elim
  | box gb tb us =>
   cases o2 with
   | box => exact h2.elim
   | row v t' sz' n xs =>
    obtain ⟨rfl,rfl,hn,⟨hm,a,c,rfl,hc⟩,hr⟩:=h2
    have hx:=RelRow_bvals hr
    subst hx
    have hn2:n = bs.length:=by rw [hn]; simp [bcells]
    subst hn2
    obtain ⟨ht,hu⟩:=h1
    simp only [Rels,Rel] at hu
    obtain ⟨v1,_,rfl,hv1,v2,_,rfl,hv2,v3,_,rfl,hv3,rfl⟩:=hu
    obtain ⟨a',c',t',sz',n',xs',_,hg⟩:=hv1
    have e:some (Own.row (.slice a bs.length c) 5 1 bs.length (bvals bs)) = some (.row v1 t' sz' n' xs'):=hg
    injection e with e
    injection e with e1
    subst e1
    obtain ⟨rfl,_⟩:=hv2
    obtain ⟨rfl,_⟩:=hv3
    exact ⟨gb,tb,_,rfl,ht,hm⟩
theorem wb_to {F:Frz} {t gb tb c:Nat} {s:Value} {bs:List UInt8} (ht:tyOk t gb tb) (hs:RowV s bs.length c) (hm:bs.length ≤ maxLen):RelTL F (inp (BO gb tb s 0 bs.length (bvals bs))) (tinp (WB t bs)):=by
 obtain ⟨a,rfl,h1,h2,h3⟩:=hs.form
 intro k
 rw [tinp_get,inp_get]
 split
 case isFalse => trivial
 rename_i hk
 match hj:k - 1000 with
 | 0 =>
  refine ⟨ht,?_⟩
  simp only [Rels,Rel]
  exact ⟨_,_,rfl,⟨a,c,5,1,bs.length,bvals bs,rfl,rfl⟩,_,_,rfl,⟨rfl,by decide⟩,_,_,rfl,⟨rfl,by decide⟩,rfl⟩
 | 1 => exact ⟨rfl,rfl,by simp [bcells],⟨hm,a,c,rfl,fun e => (h3 e).1⟩,RelRow_of_bvals bs⟩
 | j + 2 => trivial
theorem CallsA.ofSt {P:Program} {f:FuncId} {args:Array Value} {F:Frz} {Lin:List Own} {R:Frz → List Own → Value → Prop} (hent:∃ fn,P.funcs[f]? = some fn ∧ fn.body.isSome = true ∧ (fn.name == "runtime.NumGoroutine") = false)
  (hmono:∀ F G L v,F.le G → R F L v → R G L v) (h:∀ w,St F (inp Lin) w → CallsA P f args F Lin R):CallsA P f args F Lin R:=⟨hent,hmono,fun w hs => (h w hs).run w hs⟩
theorem CallsA.to {P:Program} {f:FuncId} {args:Array Value} {F:Frz} {Lin:List Own} {R R':Frz → List Own → Value → Prop} (h:CallsA P f args F Lin R)
  (hmono:∀ F G L v,F.le G → R' F L v → R' G L v) (hk:∀ F L v,R F L v → R' F L v):CallsA P f args F Lin R':=⟨h.ent,hmono,fun w hs => (h.run w hs).mono fun e w' ⟨v,F',Lo,h1,h2,h3,h4⟩ => ⟨v,F',Lo,h1,h2,h3,hk _ _ _ h4⟩⟩
theorem wrT {f t:Nat} {args:List C} {bs:List UInt8} {ys:List UInt8} {r:C} (hent:∃ fn,Tryz.prog.funcs[f]? = some fn ∧ fn.body.isSome = true ∧ (fn.name == "runtime.NumGoroutine") = false)
  (hm:bs.length + ys.length ≤ 70368744177664) (rv:Value) (hr:∀ F L,Rel F L r rv)
  (h:∀ F gb tb s c vs,RowV s bs.length c → Rels F (inp (BO gb tb s 0 bs.length (bvals bs))) args vs → CallsA PZ f vs.toArray F (BO gb tb s 0 bs.length (bvals bs)) (RW gb tb bs.length ys.length (bvals bs ++ bvals ys) rv)) :
  CallsT PZ f args (WB t bs) (fun Mo c => Mo = WB t (bs ++ ys) ∧ c = r):=by
 refine ⟨fun F Li vs h1 h2 h3 => ?_⟩
 obtain ⟨gb,tb,s,rfl,ht,hm0⟩:=wb_of h1 h2
 refine CallsA.ofSt hent ResA.mono' fun w hs => ?_
 obtain ⟨c,hrv⟩:=rowV_of hs (k:=1001) rfl
 refine CallsA.to (h F gb tb s c vs hrv h3) ResA.mono' ?_
 rintro F' Lo v ⟨s',c',hs',rfl,rfl⟩
 have hl:(bs ++ ys).length = bs.length + ys.length:=List.length_append
 rw [← bvals_app,← hl]
 rw [← hl] at hs'
 refine ⟨WB t (bs ++ ys),r,rfl,wb_to ht hs' (by rw [hl]; simp only [maxLen]; omega),hr _ _,fun i g t0 cs e => ?_,rfl,rfl⟩
 match i with
 | 0 =>
  injection e with e
  injection e with e1 e2 e3
  subst e1 e2
  exact ⟨_,rfl⟩
 | 1 => injection e with e; cases e
 | i + 2 => cases e
theorem ent91:∃ fn,Tryz.prog.funcs[91]? = some fn ∧ fn.body.isSome = true ∧ (fn.name == "runtime.NumGoroutine") = false:=⟨_,Tryz.func91,by kernel_rfl,by kernel_rfl⟩
theorem ent125:∃ fn,Tryz.prog.funcs[125]? = some fn ∧ fn.body.isSome = true ∧ (fn.name == "runtime.NumGoroutine") = false:=⟨_,Tryz.func125,by kernel_rfl,by kernel_rfl⟩
theorem own_arg {F:Frz} {gb tb:Nat} {s:Value} {n:Nat} {xs:List Value} {v:Value} (h:Rel F (inp (BO gb tb s 0 n xs)) (.own 1000 0) v):v = .pointer (some ⟨gb,0,none⟩):=by
 simp only [Rel] at h
 obtain ⟨g,t,cs,e,rfl⟩:=h
 have e':some (Own.box gb tb [s,.int .i64 0,.int .i8 0]) = some (.box g t cs):=e
 injection e' with e'
 injection e' with e1
 rw [e1]
theorem t91T (t:Nat) (bs:List UInt8) (x:UInt8) (hm:bs.length + 1 ≤ 70368744177664) :
  CallsT PZ 91 [.own 1000 0,.int .u8 x.toNat] (WB t bs) (fun Mo c => Mo = WB t (bs ++ [x]) ∧ c = .opq 0):=by
 refine wrT (ys:=[x]) ent91 hm .nilIface (fun _ _ => opq_nil) fun F gb tb s c vs hs hr => ?_
 simp only [Rels] at hr
 obtain ⟨v1,_,rfl,h1,v2,_,rfl,h2,rfl⟩:=hr
 rw [own_arg h1]
 simp only [Rel] at h2
 rw [h2.1]
 exact t91A F gb tb s 0 bs.length c x.toNat (bvals bs) hs hm (bvals_len bs) (bvals_ones bs)
theorem t125T (t:Nat) (bs:List UInt8) (s:ByteArray) (hm:bs.length + s.data.toList.length ≤ 70368744177664) (hp:0 < bs.length) :
  CallsT PZ 125 [.own 1000 0,.str s] (WB t bs) (fun Mo c => Mo = WB t (bs ++ s.data.toList) ∧ c = .tup [IC s.size,.opq 0]):=by
 have hsz:s.data.toList.length = s.size:=by simp
 refine wrT ent125 hm (.tuple #[.int .i64 s.size,.nilIface]) (fun F L => ?_) fun F gb tb s' c vs hs hr => ?_
 ·simp only [Rel,Rels]
  exact ⟨[_,_],rfl,_,_,rfl,⟨rfl,by simp [Lit.wf,IntKind.min,IntKind.max,IntKind.signed,IntKind.bits]; omega⟩,_,_,rfl,opq_nil,rfl⟩
 simp only [Rels] at hr
 obtain ⟨v1,_,rfl,h1,v2,_,rfl,h2,rfl⟩:=hr
 rw [own_arg h1]
 simp only [Rel] at h2
 obtain ⟨rfl,_⟩:=h2
 have:=t125A F gb tb s' 0 bs.length c s (bvals bs) hs (by omega) (by omega) (bvals_len bs) (bvals_ones bs)
 rw [← hsz] at this
 exact this
end Go.Fr.Tryz
namespace Go.Fr.Tryz
open Go Go.RowKit Go.Proofs Go.Fr Go.Fr.T Go.Fr.Api
theorem t62 (g:Nat) (bs:List UInt8):RdOk 62 [adr g 0] (pin g 61) bs (nameD bs) C.str:=by
 refine callsTX_facts Tryz.func62 facts62 rfl fun hw ho => ?_
 refine rdN (t32 g bs) rfl rfl (fun h => ⟨rfl,by simp only [nameD,h]⟩) fun n r e _ => ?_
 refine chk (t33 (decide (n ≤ 200))) rfl (fun h => ⟨rfl,?_⟩) fun h => ?_
 ·have h:=of_decide_eq_false h
  simp only [nameD,e]
  rw [if_neg h]
 have h:=of_decide_eq_true h
 refine rdN (t72 g n r) rfl rfl (fun h2 => ⟨rfl,?_⟩) fun b r2 e2 _ => ?_
 ·simp only [nameD,e]
  rw [if_pos h,h2]
 refine BytesT.mk ⟨b,rfl,?_⟩
 refine retR [1000] rfl rfl rfl rfl ⟨_,r2,?_,rfl,rfl⟩
 simp only [nameD,e]
 rw [if_pos h,e2]
theorem t121 (g:Nat) (bs:List UInt8):RdOk 121 [adr g 0] (pin g 61) bs (bitD bs) C.bool:=by
 refine callsTX_facts Tryz.func121 facts121 rfl fun hw ho => ?_
 refine rdN (t32 g bs) rfl rfl (fun h => ⟨rfl,by simp only [bitD,h]⟩) fun n r e _ => ?_
 refine brn_p (fun h0 => ?_) (fun h0 => ?_)
 ·refine chk (t33 true) rfl (fun h => by cases h) fun _ => ?_
  refine retR [1000] rfl rfl rfl rfl ⟨_,r,?_,rfl,rfl⟩
  simp only [bitD,e]
  rw [if_pos (.inl h0)]
 ·refine chk (t33 (decide (n = 1))) rfl (fun h => ⟨rfl,?_⟩) fun h => ?_
  ·have h:=of_decide_eq_false h
   simp only [bitD,e]
   rw [if_neg (fun q => q.elim h0 h)]
  ·have h:=of_decide_eq_true h
   refine retR [1000] rfl rfl rfl rfl ⟨_,r,?_,rfl,rfl⟩
   simp only [bitD,e]
   rw [if_pos (.inr h)]
theorem app1r {els:List (List C)} {c:List C} {sz by':Nat} {K:Prop} (n:Nat) (hc:c.length = sz) (hn:els.length = n) (hb:by' ≤ 1024) (h:n ≤ 2 ^ 30) (k:K):AppT els [c] sz by' K :=
 ⟨fun es he => (by rcases List.mem_cons.1 he with rfl | he; exact hc; cases he),by rw [hn]; simp only [List.length_cons,List.length_nil,maxLen]; omega,by
  rw [hn]
  simp only [List.length_cons,List.length_nil]
  calc (n + (0 + 1)) * by' ≤ (n + 1) * 1024:=Nat.mul_le_mul_left _ hb
   _ ≤ 140737488355328:=by omega,k⟩
theorem nil_rw {L L1:TL} {k t sz:Nat} (h:L.get k = none) (h1:L1.get k = some (.row t sz [])):leC L L1 .nils (.rw k):=.inr (.inr (.inr (.inl ⟨rfl,k,t,sz,rfl,h,h1⟩)))
def repO {α:Type} (a:List α):Option (List α × List UInt8) → Option (List α × List UInt8)
 | some (xs,r) => some (a ++ xs,r)
 | none => none
theorem repO_step {α:Type} {f:Dec α} {a:List α} {n:Nat} {l r:List UInt8} {x:α} (h:f l = some (x,r)):repO a (repD f (n + 1) l) = repO (a ++ [x]) (repD f n r):=by
 simp only [repD,h]
 cases repD f n r with
 | none => rfl
 | some p => simp [repO]
theorem repO_none {α:Type} {f:Dec α} {a:List α} {n:Nat} {l:List UInt8} (h:f l = none):repO a (repD f (n + 1) l) = none:=by simp only [repD,h]; rfl
theorem repO_nil {α:Type} (o:Option (List α × List UInt8)):repO [] o = o:=by cases o <;> simp [repO]
def RdR {α:Type} (key t sz:Nat) (cell:α → List C) (g:Nat) (s:List α × List UInt8):TL:=[(key,.row t sz (s.1.map cell)),(1000,.box (pin g 61) [.sl (bcells s.2)])]
theorem t67 (g:Nat) (bs:List UInt8):RdOk 67 [adr g 0,.fn 32 [adr g 0] []] (pin g 61) bs (listD numD bs) (fun l => .sl (ics l)):=by
 refine callsTX_facts Tryz.func67 facts67 rfl fun hw ho => ?_
 refine rdN (t32 g bs) rfl rfl (fun h => ⟨rfl,by simp only [listD,h]⟩) fun n r e _ => ?_
 refine brn_p (fun h0 => ?_) (fun h0 => ?_)
 ·refine chk (t33 (decide (n ≤ 400))) rfl (fun h => ⟨rfl,?_⟩) fun h => ?_
  ·have h:=of_decide_eq_false h
   simp only [listD,e]
   rw [if_neg (fun q => h q.2)]
  have h:=of_decide_eq_true h
  have hl:listD numD bs = repO [] (repD numD n.toNat r):=by
   simp only [listD,e]
   rw [if_pos ⟨h0,h⟩,repO_nil]
  refine loopN n.toNat 17 [6] (([],r):List Int × List UInt8) (fun _ => [.rw 23]) (fun s => RdR 23 3 1 (fun n => [IC n]) g s) (fun k s => s.1.length = k ∧ repO s.1 (repD numD (n.toNat - k) s.2) = listD numD bs) ⟨rfl,hl.symm⟩ (same_keys rfl) ⟨nil_rw rfl rfl,trivial⟩
   ⟨.inr ⟨rfl,3,1,rfl⟩,.inl ⟨_,rfl,.inl ⟨rfl,rfl⟩⟩,trivial⟩ (fun _ => rfl) (fun _ => rfl) ?_
  rintro k ⟨a,l⟩ hk ⟨hak,hinv⟩ _ _ _
  refine brn_p (fun hlt => ?_) (fun hge => ?_)
  ·have hlt:k < n.toNat:=by omega
   have h6:n.toNat - k = (n.toNat - (k + 1)) + 1:=by omega
   refine rdN (t32 g l) rfl rfl (fun h => ⟨rfl,?_⟩) fun x r2 e2 _ => ?_
   ·rw [← hinv,h6,repO_none h]
   refine app1r k rfl (by simpa using hak) (by omega) (by omega) ?_
   refine Fit.in64 (by omega) (by omega) ?_
   refine ⟨(k + 1,(a ++ [x],r2)),⟨by omega,by simp [hak],?_⟩,⟨nextI,⟨same_keys rfl,trivial⟩⟩,⟨.inl ⟨_,rfl,.inl ⟨?_,rfl⟩⟩,.inl ⟨_,rfl,.inl ⟨rfl,rfl⟩⟩,trivial⟩,nextM hlt⟩
   ·rw [← hinv,h6,repO_step e2]
   ·exact congrArg (TO.row 3 1) (List.map_append (f:=fun n => [IC n]) (l₁:=a) (l₂:=[x])).symm
  ·have:n.toNat - k = 0:=by omega
   rw [this] at hinv
   refine retRF [23] [1000] ⟨_,_,rfl,rfl,rfl,?_⟩
   exact ⟨a,l,by rw [← hinv]; simp [repD,repO],rfl,rfl⟩
 ·refine chk (t33 false) rfl (fun h => ⟨rfl,?_⟩) fun h => by cases h
  simp only [listD,e]
  rw [if_neg (fun q => h0 q.1)]
abbrev Enc:=List UInt8 × Bool
def okE:Enc:=([],true)
def chkE (b:Bool):Enc:=([],b)
def andE (a b:Enc):Enc:=(match a.2 with | true => a.1 ++ b.1 | false => a.1,a.2 && b.2)
def vint (z:Nat):List UInt8:=if h:z < 128 then [UInt8.ofNat z] else UInt8.ofNat (128 + z % 128) :: vint (z / 128)
termination_by z
decreasing_by omega
def zz (n:Int):Nat:=if n < 0 then (-2 * n - 1).toNat else (2 * n).toNat
def numE (n:Int):Enc:=if -1099511627776 ≤ n ∧ n ≤ 1099511627776 then (vint (zz n),true) else ([],false)
def eachE {α:Type} (f:α → Enc):List α → Enc
 | [] => okE
 | x :: l => andE (f x) (eachE f l)
abbrev numsE (l:List Int):Enc:=eachE numE l
def preE (p:List UInt8) (e:Enc):Enc:=(p ++ e.1,e.2)
theorem andE_ok {a b:Enc} (h:a.2 = true):andE a b = preE a.1 b:=by simp [andE,preE,h]
theorem andE_no {a b:Enc} (h:a.2 = false):andE a b = a:=by
 obtain ⟨p,q⟩:=a
 simp only at h
 subst h
 rfl
theorem pre_pre (p q:List UInt8) (e:Enc):preE p (preE q e) = preE (p ++ q) e:=by simp [preE]
theorem pre_nil (e:Enc):preE [] e = e:=by simp [preE]
theorem andE_assoc (a b c:Enc):andE (andE a b) c = andE a (andE b c):=by
 obtain ⟨p,x⟩:=a
 obtain ⟨q,y⟩:=b
 cases x <;> cases y <;> simp [andE]
theorem andE_le1 (a b:Enc):a.1.length ≤ (andE a b).1.length:=by
 obtain ⟨p,x⟩:=a
 cases x <;> simp [andE]
def WrOk (f:Nat) (args:List C) (t:Nat) (bs:List UInt8) (e:Enc):Prop :=
 CallsTX PZ f args (WB t bs) (fun Mo c => e.2 = true ∧ Mo = WB t (bs ++ e.1) ∧ c = .tup []) (fun v => v = failV ∧ e.2 = false)
def WBL (t:Nat) (bs:List UInt8):TL:=[(1000,.box t [.rw 1001,IC 0,.int .i8 0]),(1001,.row 5 1 (bcells bs))]
theorem vint_len (z:Nat):1 ≤ (vint z).length:=by
 rw [vint]
 split <;> simp
theorem u8_hi' (m:Nat):IntKind.wrap .u8 (128 + (m:Int).tmod 128) = ((UInt8.ofNat (128 + m % 128)).toNat:Int):=by
 rw [show (128 + (m:Int).tmod 128) = ((128 + m % 128:Nat):Int) from rfl,UInt8.toNat_ofNat']
 simp only [IntKind.wrap,IntKind.bits,IntKind.signed,Bool.false_and,Nat.reducePow,Int.reducePow]
 simp
theorem u8_lo' (m:Nat):IntKind.wrap .u8 (m:Int) = ((UInt8.ofNat m).toNat:Int):=by
 rw [UInt8.toNat_ofNat']
 simp only [IntKind.wrap,IntKind.bits,IntKind.signed,Bool.false_and,Nat.reducePow,Int.reducePow]
 simp
section
variable {L:TL} {ρ:TEnv}
theorem wrN {PS:Value → Prop} {f:Nat} {args args':List C} {t:Nat} {bs:List UInt8} {e:Enc} {K:TL → TEnv → C → Prop} (h:WrOk f args' t bs e)
  (hs:L.sub [1000,1001] = some (WB t bs)) (ha:(args.map fun c => c.canA.ren (toIn [1000,1001] 1000)) = args') (hp:e.2 = false → PS failV)
  (k:e.2 = true → K (((L.dels [1000,1001]).kills (rowsOf L [1000,1001])).puts [1000,1001] (WB t (bs ++ e.1))) (killsE (rowsOf L [1000,1001]) ρ) (.tup [])):CallXT PZ PS f args L ρ K:=by
 subst ha
 refine ⟨[],[1000,1001],[1000,1001],L,_,_,_,.inl rfl,hs,rfl,rfl,rfl,rfl,h,fun v ⟨e,h⟩ => e ▸ hp h,?_⟩
 rintro v Mo ⟨e1,rfl,rfl⟩ hw hwo
 exact ⟨rfl,k e1⟩
end
theorem t44o (t:Nat) (bs:List UInt8) (ns:List Int) (hb:bs.length + (numsE ns).1.length ≤ 70368744177664):WrOk 44 [.own 1000 0,.sl (ics ns)] t bs (numsE ns):=by
 refine callsTX_facts Tryz.func44 facts44 rfl fun hw ho => ?_
 have hln:(ics ns).length = ns.length:=by simp [ics]
 have hnm:ns.length ≤ 9223372036854775807:=by have:=wf_len hw.2.1; rwa [hln] at this
 refine loopN ns.length 9 [] bs (fun _ => []) (fun s => WBL t s) (fun k s => ∃ p,s = bs ++ p ∧ numsE ns = preE p (numsE (ns.drop k))) ⟨[],by simp,by simp [pre_nil]⟩ (same_keys rfl) trivial
  ⟨.inl ⟨_,rfl,.inl ⟨rfl,rfl⟩⟩,.inl ⟨_,rfl,.inl ⟨rfl,rfl⟩⟩,trivial⟩ (fun _ => rfl) (fun _ => rfl) ?_
 rintro k s hk ⟨p,hs,hinv⟩ _ _ _
 refine brn_p (fun hlt => ?_) (fun hge => ?_)
 ·have hlt:k < ns.length:=by rw [hln] at hlt; omega
  obtain ⟨x,hx,hd⟩:=drop_cons hlt
  rw [hd] at hinv
  have hcons:numsE (x :: ns.drop (k + 1)) = andE (numE x) (numsE (ns.drop (k + 1))):=rfl
  have hno:¬ (-1099511627776 ≤ x ∧ x ≤ 1099511627776) → (numsE ns).2 = false:=fun h => by
   rw [hinv,hcons,numE,if_neg h]; rfl
  refine idxI hx ?_
  refine brn_p (fun h1 => ?_) (fun h1 => ?_)
  ·refine chk (t33 (decide (x ≤ 1099511627776))) rfl (fun h => ⟨rfl,hno fun q => of_decide_eq_false h q.2⟩) fun h2 => ?_
   have h2:=of_decide_eq_true h2
   have hx2:numE x = (vint (zz x),true):=by rw [numE,if_pos ⟨h1,h2⟩]
   have hz:zz x ≤ 2199023255552:=by unfold zz; split <;> omega
   have hnx:numsE ns = preE (p ++ vint (zz x)) (numsE (ns.drop (k + 1))):=by
    rw [hinv,hcons,hx2,andE_ok rfl,pre_pre]
   have hlen:s.length + (vint (zz x)).length ≤ 70368744177664:=by
    rw [hnx] at hb
    rw [hs]
    simp only [preE,List.length_append] at hb ⊢
    omega
   refine Fit.in64 (by omega) (by omega) ?_
   refine brn_p (fun hneg => ?_) (fun hpos => ?_)
   ·refine Fit.in64 (by omega) (by omega) ?_
    refine Fit.in64 (by omega) (by omega) ?_
    refine LoopT.mk ⟨Nat × List UInt8,(zz x,s),fun y => y.1 ≤ 2199023255552 ∧ y.2 ++ vint y.1 = s ++ vint (zz x),[6],fun y => [.int .i64 y.1],fun y => WBL t y.2,fun y => y.1,⟨hz,rfl⟩,⟨.inr (.inl ⟨?_,rfl⟩),trivial⟩,
     ⟨.inl ⟨_,rfl,.inl ⟨rfl,rfl⟩⟩,.inl ⟨_,rfl,.inl ⟨rfl,rfl⟩⟩,trivial⟩,fun _ => rfl,fun _ => rfl,?_⟩
    ·exact congrArg (C.int .i64) (by unfold zz; rw [if_pos hneg]; omega)
    rintro ⟨m,done⟩ ⟨hm64,hmi⟩ _ _
    simp only at hmi hm64
    have hdl:done.length + (vint m).length ≤ 70368744177664:=by
     have:=congrArg List.length hmi
     simp only [List.length_append] at this
     omega
    have h1:=vint_len m
    refine brn_p (fun hm => ?_) (fun hm => ?_)
    ·have hm:128 ≤ m:=by have:(128:Int) ≤ (m:Int):=hm; omega
     have hde:vint m = UInt8.ofNat (128 + m % 128) :: vint (m / 128):=by rw [vint,dif_neg (by omega)]
     refine NonZ.mk (by omega) ?_
     refine Fit.to (m:=128 + (m:Int).tmod 128) (wrap64_id (by rw [show (m:Int).tmod 128 = ((m % 128:Nat):Int) from rfl]; omega) (by rw [show (m:Int).tmod 128 = ((m % 128:Nat):Int) from rfl]; omega)) ?_
     refine Fit.to (u8_hi' m) ?_
     refine callO [1000,1001] [1000,1001] (t91T t done (UInt8.ofNat (128 + m % 128)) (by omega)) rfl rfl rfl rfl rfl fun _ _ => ?_
     refine NonZ.mk (by omega) ?_
     refine Fit.to (m:=((m / 128:Nat):Int)) (by show IntKind.wrap .i64 ((m / 128:Nat):Int) = _; exact wrap64_id (by omega) (by omega)) ?_
     refine ⟨(m / 128,done ++ [UInt8.ofNat (128 + m % 128)]),⟨?_,?_⟩,⟨.inr (.inl ⟨rfl,rfl⟩),trivial⟩,⟨.inl ⟨_,rfl,.inl ⟨rfl,rfl⟩⟩,.inl ⟨_,rfl,.inl ⟨rfl,rfl⟩⟩,trivial⟩,?_⟩
     ·show m / 128 ≤ _; omega
     ·show done ++ [UInt8.ofNat (128 + m % 128)] ++ vint (m / 128) = s ++ vint (zz x)
      rw [← hmi,hde]; simp
     ·show m / 128 < m; omega
    ·have hm:m < 128:=by have:¬ (128:Int) ≤ (m:Int):=hm; omega
     have hde:vint m = [UInt8.ofNat m]:=by rw [vint,dif_pos hm]
     refine Fit.to (u8_lo' m) ?_
     refine callO [1000,1001] [1000,1001] (t91T t done (UInt8.ofNat m) (by omega)) rfl rfl rfl rfl rfl fun _ _ => ?_
     refine Fit.in64 (by omega) (by omega) ?_
     refine ⟨(k + 1,done ++ [UInt8.ofNat m]),⟨hlt,p ++ vint (zz x),?_,hnx⟩,⟨nextI,trivial⟩,⟨.inl ⟨_,rfl,.inl ⟨rfl,rfl⟩⟩,.inl ⟨_,rfl,.inl ⟨rfl,rfl⟩⟩,trivial⟩,nextM hlt⟩
     rw [← hde,hmi,hs,List.append_assoc]
   ·refine LoopT.mk ⟨Nat × List UInt8,(zz x,s),fun y => y.1 ≤ 2199023255552 ∧ y.2 ++ vint y.1 = s ++ vint (zz x),[6],fun y => [.int .i64 y.1],fun y => WBL t y.2,fun y => y.1,⟨hz,rfl⟩,⟨.inr (.inl ⟨?_,rfl⟩),trivial⟩,
     ⟨.inl ⟨_,rfl,.inl ⟨rfl,rfl⟩⟩,.inl ⟨_,rfl,.inl ⟨rfl,rfl⟩⟩,trivial⟩,fun _ => rfl,fun _ => rfl,?_⟩
    ·exact congrArg (C.int .i64) (by unfold zz; rw [if_neg hpos]; omega)
    rintro ⟨m,done⟩ ⟨hm64,hmi⟩ _ _
    simp only at hmi hm64
    have hdl:done.length + (vint m).length ≤ 70368744177664:=by
     have:=congrArg List.length hmi
     simp only [List.length_append] at this
     omega
    have h1:=vint_len m
    refine brn_p (fun hm => ?_) (fun hm => ?_)
    ·have hm:128 ≤ m:=by have:(128:Int) ≤ (m:Int):=hm; omega
     have hde:vint m = UInt8.ofNat (128 + m % 128) :: vint (m / 128):=by rw [vint,dif_neg (by omega)]
     refine NonZ.mk (by omega) ?_
     refine Fit.to (m:=128 + (m:Int).tmod 128) (wrap64_id (by rw [show (m:Int).tmod 128 = ((m % 128:Nat):Int) from rfl]; omega) (by rw [show (m:Int).tmod 128 = ((m % 128:Nat):Int) from rfl]; omega)) ?_
     refine Fit.to (u8_hi' m) ?_
     refine callO [1000,1001] [1000,1001] (t91T t done (UInt8.ofNat (128 + m % 128)) (by omega)) rfl rfl rfl rfl rfl fun _ _ => ?_
     refine NonZ.mk (by omega) ?_
     refine Fit.to (m:=((m / 128:Nat):Int)) (by show IntKind.wrap .i64 ((m / 128:Nat):Int) = _; exact wrap64_id (by omega) (by omega)) ?_
     refine ⟨(m / 128,done ++ [UInt8.ofNat (128 + m % 128)]),⟨?_,?_⟩,⟨.inr (.inl ⟨rfl,rfl⟩),trivial⟩,⟨.inl ⟨_,rfl,.inl ⟨rfl,rfl⟩⟩,.inl ⟨_,rfl,.inl ⟨rfl,rfl⟩⟩,trivial⟩,?_⟩
     ·show m / 128 ≤ _; omega
     ·show done ++ [UInt8.ofNat (128 + m % 128)] ++ vint (m / 128) = s ++ vint (zz x)
      rw [← hmi,hde]; simp
     ·show m / 128 < m; omega
    ·have hm:m < 128:=by have:¬ (128:Int) ≤ (m:Int):=hm; omega
     have hde:vint m = [UInt8.ofNat m]:=by rw [vint,dif_pos hm]
     refine Fit.to (u8_lo' m) ?_
     refine callO [1000,1001] [1000,1001] (t91T t done (UInt8.ofNat m) (by omega)) rfl rfl rfl rfl rfl fun _ _ => ?_
     refine Fit.in64 (by omega) (by omega) ?_
     refine ⟨(k + 1,done ++ [UInt8.ofNat m]),⟨hlt,p ++ vint (zz x),?_,hnx⟩,⟨nextI,trivial⟩,⟨.inl ⟨_,rfl,.inl ⟨rfl,rfl⟩⟩,.inl ⟨_,rfl,.inl ⟨rfl,rfl⟩⟩,trivial⟩,nextM hlt⟩
     rw [← hde,hmi,hs,List.append_assoc]
  ·refine chk (t33 false) rfl (fun h => ⟨rfl,hno fun q => h1 q.1⟩) fun h => by cases h
 ·have hge:¬ k < ns.length:=by rw [hln] at hge; omega
  rw [drop_end hge] at hinv
  refine retR [1000,1001] rfl rfl rfl rfl ⟨?_,?_,rfl⟩
  ·rw [hinv]; rfl
  ·rw [hs,hinv]; simp only [preE,eachE,okE,List.append_nil]; rfl
theorem andE_bd1 {bs:List UInt8} {a b:Enc} {B:Nat} (h:bs.length + (andE a b).1.length ≤ B):bs.length + a.1.length ≤ B:=by
 have:=andE_le1 a b
 omega
theorem andE_bd {bs:List UInt8} {a b:Enc} {B:Nat} (h:bs.length + (andE a b).1.length ≤ B) (ha:a.2 = true):(bs ++ a.1).length + b.1.length ≤ B:=by
 rw [andE_ok ha] at h
 simp only [preE,List.length_append] at h ⊢
 omega
theorem pos_app {bs:List UInt8} {a:List UInt8} (h:0 < bs.length):0 < (bs ++ a).length:=by
 rw [List.length_append]; omega
def WrB (f:Nat) (args:List C) (t:Nat) (bs:List UInt8) (e:Enc):Prop:=bs.length + e.1.length ≤ 70368744177664 → 0 < bs.length → WrOk f args t bs e
theorem WrOk.pin {f:Nat} {args:List C} {bs:List UInt8} {e:Enc} (g:Nat) (h:WrOk f (args.map (C.toOwn1 g)) 79 bs e):WrOk f args (pin g 79) bs e:=by
 refine (CallsTX.pinned g (by omega) h).imp ?_ fun _ h => h
 rintro Mo c ⟨Mo0,⟨h1,rfl,h2⟩,rfl⟩
 exact ⟨h1,rfl,h2⟩
theorem t44 (g:Nat) (bs:List UInt8) (ns:List Int):WrB 44 [adr g 0,.sl (ics ns)] (pin g 79) bs (numsE ns):=fun hb _ => by
 refine WrOk.pin g ?_
 have e:([adr g 0,.sl (ics ns)]:List C).map (C.toOwn1 g) = [.own 1000 0,.sl (ics ns)]:=by
  simp only [List.map_cons,List.map_nil,toOwn1_adr g 0 (by omega)]
  rfl
 rw [e]
 exact t44o 79 bs ns hb
def nameE (s:ByteArray):Enc:=andE (chkE (decide (s.size ≤ 200))) (andE (numsE [(s.size:Int)]) (s.data.toList,true))
def listE {α:Type} (f:α → Enc) (l:List α):Enc:=andE (chkE (decide (l.length ≤ 400))) (andE (numsE [(l.length:Int)]) (eachE f l))
theorem t81o (bs:List UInt8) (s:ByteArray) (hb:bs.length + (nameE s).1.length ≤ 70368744177664) (h0:0 < bs.length):WrOk 81 [.own 1000 0,.str s] 79 bs (nameE s):=by
 refine callsTX_facts Tryz.func81 facts81 rfl fun hw ho => ?_
 refine chk (t33 (decide ((s.size:Int) ≤ 200))) rfl (fun h => ⟨rfl,?_⟩) fun h => ?_
 ·have h:=of_decide_eq_false h
  rw [nameE,andE_no]
  all_goals exact decide_eq_false (by omega)
 have h:=of_decide_eq_true h
 have e1:(chkE (decide (s.size ≤ 200))).2 = true:=decide_eq_true (by omega)
 have hb2:bs.length + (andE (numsE [(s.size:Int)]) (s.data.toList,true)).1.length ≤ 70368744177664:=by
  have:=andE_bd hb e1
  simpa [chkE] using this
 refine wrN (t44o 79 bs [(s.size:Int)] (andE_bd1 hb2)) rfl rfl (fun h2 => ⟨rfl,?_⟩) fun e2 => ?_
 ·rw [nameE,andE_ok e1,andE_no h2]; exact h2
 have hb3:=andE_bd hb2 e2
 refine callO [1000,1001] [1000,1001] (t125T 79 (bs ++ (numsE [(s.size:Int)]).1) s hb3 (pos_app h0)) rfl rfl rfl rfl rfl fun _ _ => ?_
 refine retR [1000,1001] rfl rfl rfl rfl ⟨?_,?_,rfl⟩
 ·rw [nameE,andE_ok e1,andE_ok e2]; rfl
 ·refine congrArg (WB 79) ?_
  rw [nameE,andE_ok e1,andE_ok e2]; simp [preE,chkE]
theorem t81 (g:Nat) (bs:List UInt8) (s:ByteArray):WrB 81 [adr g 0,.str s] (pin g 79) bs (nameE s):=fun hb h0 => by
 refine WrOk.pin g ?_
 have e:([adr g 0,.str s]:List C).map (C.toOwn1 g) = [.own 1000 0,.str s]:=by
  simp only [List.map_cons,List.map_nil,toOwn1_adr g 0 (by omega)]
  rfl
 rw [e]
 exact t81o bs s hb h0
end Go.Fr.Tryz
