/- Part of the proofs of the statements of this seat. -/
import Derived.Test.YthfdbepkalpplaaUnU2G
import Derived.Defers
set_option maxRecDepth 10000
set_option linter.unusedVariables false
set_option linter.unusedSimpArgs false
namespace Go.Fr.Try
open Go Go.RowKit Go.Proofs Go.Fr Go.Fr.T Go.Fr.Api
theorem fT_i {L:TL} {K:TL → Prop} (h:K L):fT L K:=by rw [fT_eq]; exact h
theorem t23 (n:Nat) (s:List Ty) (a b:Ty) (hl:s.length ≤ 2 ^ 30) (F:Fuel n s a b) (hf:∀ s e r,formR s n = some r → Fm58 s e r) (hda:dpt a ≤ 2 ^ 40) (hdb:dpt b ≤ 2 ^ 40)
  (hc:∀ s',U1G n s a b s' → s'.length ≤ 2 ^ 30 ∧ (∀ x ∈ s',TyB x) ∧ ∃ r,canonF s' n = some r):CallsT P 23 [.sl (s.map tyC),tyA a,tyA b] [] (RN n s a b):=by
 have h56:=t56u n s a b (t62 n s a b F hf hda hdb)
 have h61:=t61 s hl
 refine callsT_facts Try.func23 facts23 rfl fun hw _ => ?_
 refine callO [] [11] h61 rfl rfl rfl rfl rfl fun _ _ => ?_
 refine callRG [8,13,11] h56 rfl rfl rfl rfl (fun s' hs' => ?_) fun e he Lx hLx => ?_
 ·skip
  refine exE (hc s' hs').2.2 fun r hr => ?_
  refine callF [11] [13] [13] (t65 s' n r (hc s' hs').1 (hc s' hs').2.1 hr) ⟨_,rfl,rfl,rfl,rfl,rfl,fun _ _ => ?_⟩
  exact retR [] rfl rfl rfl rfl ⟨rfl,r,0,.inl ⟨s',hs',hr,rfl⟩,rfl⟩
 ·refine fT_i ?_
  have h0:¬ e = 0:=by have:=he.three; omega
  refine brn_n (fun _ => ?_) (fun q => absurd q h0)
  exact retR [] rfl rfl rfl rfl ⟨rfl,[],e,.inr ⟨he,rfl⟩,rfl⟩
def RFf (s:List Ty) (r:Option (DM × OM)):List TO → C → Prop:=fun Mo v => ∃ d o,r = some (d,o) ∧ Mo = SFd s d o ∧ v = .tup []
def Fm58f (s:List Ty) (e:Int) (r:Option (DM × OM)):Prop:=CallsTX P 58 [.own 1000 0,IC e] (SF0 s) (RFf s r) (PF e r)
section
variable {L:TL} {ρ:TEnv}
theorem callFmF (ks ko:List Nat) {PS:Pan} {args:List C} {K:TL → TEnv → C → Prop} {s:List Ty} {e:Int} {r:Option (DM × OM)} {Lin:List TO} (h:Fm58f s e r) (hs:L.sub ks = some Lin)
  (hc:(T.nodup? ks && T.nodup? ko && T.koOk L ks ko && boxesAt Lin ks ko && hbOk L ks PS.hb) = true) (ha:(args.map fun c => c.canA.ren (toIn ks 1000)) = [.own 1000 0,IC e]) (hl:Lin.map (TO.mapC (C.ren (toIn ks 1000))) = SF0 s) (hn:ko.length = 3) (hp:∀ v,PF e r v → PS.ps v)
  (k:∀ d o,r = some (d,o) → K (((L.dels ks).kills (rowsOf L ks)).puts ko ((SFd s d o).map (TO.mapC (C.ren (fromIn ko))))) (killsE (rowsOf L ks) ρ) (.tup [])):CallXT P PS 58 args L ρ K:=by
 simp only [Bool.and_eq_true] at hc
 obtain ⟨⟨⟨⟨c1,c2⟩,c3⟩,c4⟩,c5⟩:=hc
 refine ⟨[],ks,ko,L,Lin,_,_,.inl rfl,hs,c1,c2,c3,c4,c5,by rw [hl,ha]; exact h,hp,?_⟩
 rintro v Mo ⟨d,o,e1,rfl,rfl⟩ hw hwo
 exact ⟨hn,k d o e1⟩
end
theorem t57i (s:List Ty) (t:Ty) (d:DM) (o:OM) (h:Fm58f s 1 (some (d,o))) (r:Ty) (hi:ins s.length t = true) (h60:CallsT P 60 [.own 1000 0,tyA t] (SF0 s) (Ret (SF0 s) (tyA r))):CallsTX P 57 [.own 1000 0,.pt (tyB' t) 0,.own 1002 0] [.box 89 [.own 1001 0],.box 93 [.sl (s.map tyC),.any,.any],.box 32 [IC 0,IC 0,.nils]] (Ret [.box 89 [.own 1001 0],.box 93 [.sl (s.map tyC),.any,.any],.box 32 (tyB' r)] (.tup [])) (fun _ => False):=by
 have h59:=fun D O => t59_F s D O t
 refine callsTX_facts Try.func57 facts57 rfl fun hw _ => ?_
 refine callFmF [1001] [1001,2003,2004] h rfl rfl rfl rfl rfl (fun v q => by cases q.1) fun d o e => ?_
 refine callO [1001,2003,2004] [1001,2003,2004] (h59 _ _) rfl rfl rfl rfl rfl fun _ _ => ?_
 refine brn_split (fun _ => ?_) (fun h => absurd (show ins s.length t = false from h) (by rw [hi]; exact Bool.noConfusion))
 refine callO [1001] [1001] h60 rfl rfl rfl rfl rfl fun _ _ => ?_
 exact retO [1000,1001,1002] rfl rfl rfl rfl
theorem t56i (s:List Ty) (t:Ty) (d:DM) (o:OM) (h:Fm58f s 1 (some (d,o))) (r:Ty) (hi:ins s.length t = true) (h60:CallsT P 60 [.own 1000 0,tyA t] (SF0 s) (Ret (SF0 s) (tyA r))):CallsT P 56 [.fn 57 [] [.own 1000 0,.pt (tyB' t) 0,.own 1002 0]] [.box 89 [.own 1001 0],.box 93 [.sl (s.map tyC),.any,.any],.box 32 [IC 0,IC 0,.nils]] (Ret [.box 89 [.own 1001 0],.box 93 [.sl (s.map tyC),.any,.any],.box 32 (tyB' r)] (IC 0)):=by
 have h57:=t57i s t d o h r hi h60
 refine callsT_facts_catch (PS:=fun _ => False) (ns:=[1]) (out:=outI) Try.func56 facts56 (Catch.mono catch93 fun v h => h.elim) (fun v h => h.elim) rfl rfl (fun v h => h.elim) fun hw ho => ?_
 refine ⟨rfl,?_⟩
 refine callXO [1000,1001,1002] [1000,1001,1002] h57 rfl rfl rfl rfl rfl (fun v q => q) fun _ _ => ?_
 exact retO [1000,1001,1002] rfl rfl rfl rfl
theorem t22i (s:List Ty) (t:Ty) (d:DM) (o:OM) (h:Fm58f s 1 (some (d,o))) (r:Ty) (hi:ins s.length t = true) (h60:CallsT P 60 [.own 1000 0,tyA t] (SF0 s) (Ret (SF0 s) (tyA r))):CallsT P 22 [.sl (s.map tyC),tyA t] [] (Ret [] (tyA r)):=by
 have h56:=t56i s t d o h r hi h60
 refine callsT_facts Try.func22 facts22 rfl fun hw _ => ?_
 refine callO [5,9,6] [5,9,6] h56 rfl rfl rfl rfl rfl fun _ _ => ?_
 exact retP rfl rfl
theorem t57o (s:List Ty) (t:Ty) (d:DM) (o:OM) (h:Fm58f s 1 (some (d,o))) (hi:ins s.length t = false):CallsTX P 57 [.own 1000 0,.pt (tyB' t) 0,.own 1002 0] [.box 89 [.own 1001 0],.box 93 [.sl (s.map tyC),.any,.any],.box 32 [IC 0,IC 0,.nils]] (Ret [.box 89 [.own 1001 0],.box 93 [.sl (s.map tyC),.any,.any],.box 32 ([IC 0,IC 0,.nils])] (.tup [])) (fun _ => False):=by
 have h59:=fun D O => t59_F s D O t
 refine callsTX_facts Try.func57 facts57 rfl fun hw _ => ?_
 refine callFmF [1001] [1001,2003,2004] h rfl rfl rfl rfl rfl (fun v q => by cases q.1) fun d o e => ?_
 refine callO [1001,2003,2004] [1001,2003,2004] (h59 _ _) rfl rfl rfl rfl rfl fun _ _ => ?_
 refine brn_split (fun h => absurd (show ins s.length t = true from h) (by rw [hi]; exact Bool.noConfusion)) (fun _ => ?_)
 exact retO [1000,1001,1002] rfl rfl rfl rfl
theorem t56o (s:List Ty) (t:Ty) (d:DM) (o:OM) (h:Fm58f s 1 (some (d,o))) (hi:ins s.length t = false):CallsT P 56 [.fn 57 [] [.own 1000 0,.pt (tyB' t) 0,.own 1002 0]] [.box 89 [.own 1001 0],.box 93 [.sl (s.map tyC),.any,.any],.box 32 [IC 0,IC 0,.nils]] (Ret [.box 89 [.own 1001 0],.box 93 [.sl (s.map tyC),.any,.any],.box 32 ([IC 0,IC 0,.nils])] (IC 0)):=by
 have h57:=t57o s t d o h hi
 refine callsT_facts_catch (PS:=fun _ => False) (ns:=[1]) (out:=outI) Try.func56 facts56 (Catch.mono catch93 fun v h => h.elim) (fun v h => h.elim) rfl rfl (fun v h => h.elim) fun hw ho => ?_
 refine ⟨rfl,?_⟩
 refine callXO [1000,1001,1002] [1000,1001,1002] h57 rfl rfl rfl rfl rfl (fun v q => q) fun _ _ => ?_
 exact retO [1000,1001,1002] rfl rfl rfl rfl
theorem t22o (s:List Ty) (t:Ty) (d:DM) (o:OM) (h:Fm58f s 1 (some (d,o))) (hi:ins s.length t = false):CallsT P 22 [.sl (s.map tyC),tyA t] [] (Ret [] (tyA (.mk 0 0 []))):=by
 have h56:=t56o s t d o h hi
 refine callsT_facts Try.func22 facts22 rfl fun hw _ => ?_
 refine callO [5,9,6] [5,9,6] h56 rfl rfl rfl rfl rfl fun _ _ => ?_
 exact retP rfl rfl
def aplF (s:List Ty) (n:Nat) (t:Ty):Option Ty:=if ins s.length t then apF s n t else some (.mk 0 0 [])
theorem t22 (s:List Ty) (n:Nat) (t r:Ty) (d:DM) (o:OM) (h:Fm58f s 1 (some (d,o))) (hs:∀ x ∈ s,TyB x) (hb:TyB t) (hr:aplF s n t = some r):CallsT P 22 [.sl (s.map tyC),tyA t] [] (Ret [] (tyA r)):=by
 unfold aplF at hr
 cases hi:ins s.length t with
 | true =>
  rw [if_pos hi] at hr
  exact t22i s t d o h r hi (t60 s hs n t r hb hr)
 | false =>
  rw [if_neg (by rw [hi]; exact Bool.false_ne_true)] at hr
  injection hr with hr
  rw [← hr]
  exact t22o s t d o h hi
section
variable {P:Program}
def dpan (v:Value):Deferred:={ target:=.builtin .panic #[20] 0 #[false],args:=#[v] }
theorem step_dpan {fr:Frame} {cs:List Frame} {w:World} {t:TypeId} {x:Value} {ds:List Deferred} (hm:fr.mode ≠ .run) (hd:fr.defers = dpan (.iface t x) :: ds) :
  step P (lone fr cs w) = .next (lone { fr with defers:=ds,mode:=raised fr.mode [{ v:=.iface t x,recovered:=false }] } cs w):=by
 have e:∀ u,({ fr with defers:=ds }:Frame).raise u = { fr with defers:=ds,mode:=raised fr.mode u }:=fun u => by rw [Frame.raise_mode]
 have hp:(invoke (dpan (.iface t x)).target (dpan (.iface t x)).args).run P w = .halt (.panic (.iface t x)) w:=by
  simp [dpan,invoke,builtin,go_sem,Instr.panic]
 simp only [dpan] at hd hp
 refine step_lone_go ?_
 cases hmode:fr.mode with
 | run => exact absurd hmode hm
 | returning =>
  rw [hmode] at e
  simp [stepG,unwind,callDeferred,hmode,hd,hp,e,raised]
 | panicking chain =>
  rw [hmode] at e
  simp [stepG,unwind,callDeferred,hmode,hd,hp,e,raised]
theorem dpan_steps {t:TypeId} {x:Value}:∀ (ds:List Deferred) (fr:Frame) (cs:List Frame) (w:World),(∀ d ∈ ds,d = dpan (.iface t x)) → fr.mode ≠ .run → fr.defers = ds → ds ≠ [] → (∀ ch,fr.mode = .panicking ch → ∀ e ∈ ch,e.goexit = false) →
  ∃ ch,Chn (.iface t x) ch ∧ Steps P (lone fr cs w) (lone { fr with defers:=[],mode:=.panicking ch } cs w)
 | [],fr,cs,w,h,hm,hd,hne,hg => absurd rfl hne
 | d :: ds,fr,cs,w,h,hm,hd,hne,hg => by
  have e:=h d (by simp)
  subst e
  have h1:=step_dpan (P:=P) (cs:=cs) (w:=w) hm hd
  have hr:∃ older,raised fr.mode [{ v:=.iface t x,recovered:=false }] = .panicking ({ v:=.iface t x,recovered:=false } :: older) ∧ ∀ e ∈ older,e.goexit = false:=by
   cases hmode:fr.mode with
   | run => exact absurd hmode hm
   | returning => exact ⟨[],rfl,fun e h => by cases h⟩
   | panicking ch => exact ⟨ch,rfl,hg ch hmode⟩
  obtain ⟨older,hr1,hr2⟩:=hr
  by_cases hds:ds = []
  ·subst hds
   refine ⟨_,⟨older,rfl,hr2⟩,?_⟩
   rw [← hr1]
   exact .one h1
  ·obtain ⟨ch,q1,q2⟩:=dpan_steps ds { fr with defers:=ds,mode:=raised fr.mode [{ v:=.iface t x,recovered:=false }] } cs w (fun d hd => h d (by simp [hd])) (by rw [hr1]; exact fun h => by cases h) rfl hds (fun ch hch e he => by
    have hch:raised fr.mode [{ v:=.iface t x,recovered:=false }] = .panicking ch:=hch
    rw [hr1] at hch
    injection hch with hch
    subst hch
    rcases List.mem_cons.1 he with rfl | he
    ·rfl
    ·exact hr2 e he)
   exact ⟨ch,q1,.head h1 q2⟩
def bodyPostP (P:Program) (fn:Func) (v:Value) (R:Ending → World → Prop):Exit → Act → World → Prop
 | .normal,a,w | .ret,a,w => (∀ d ∈ a.defers,d = dpan v) ∧ (a.defers = [] → ∃ x,(results fn a.tmps).run P w = .ok x w ∧ R (.returned x) w) ∧ (a.defers ≠ [] → ∀ ch,Chn v ch → R (.panicked ch) w)
 | .panic chain,a,w => (∀ d ∈ a.defers,d = dpan v) ∧ (a.defers = [] → R (.panicked chain) w) ∧ (a.defers ≠ [] → (∀ e ∈ chain,e.goexit = false) ∧ ∀ ch,Chn v ch → R (.panicked ch) w)
 | .outgrown,_,w => R .outgrown w
 | _,_,_ => False
theorem calls_of_wp_pan {f:FuncId} {fn:Func} {c:Code} {args:Array Value} {w:World} {t:TypeId} {x:Value} {R:Ending → World → Prop}
  (hf:P.funcs[f]? = some fn) (hb:fn.body = some c)
  (h:c.wp P (bodyPostP P fn (.iface t x) R) { tmps:=args ++ Array.replicate (fn.ntmps - args.size) undef,defers:=[] } w):Calls P f args w R:=by
 intro cs
 let b:Frame:={ (default:Frame) with fn:=f,kind:=.normal }
 have henter:Frame.enter P f args .normal =
   b.at { tmps:=args ++ Array.replicate (fn.ntmps - args.size) undef,defers:=[] } [.code c]:=by
  simp [Frame.enter,Frame.at,hf,hb,b]
 obtain ⟨e,a',w',hq,harr⟩:=h b [] cs
 rw [← henter] at harr
 have ends:∀ todo,((∀ d ∈ a'.defers,d = dpan (.iface t x)) ∧ (a'.defers = [] → ∃ x,(results fn a'.tmps).run P w' = .ok x w' ∧ R (.returned x) w') ∧ (a'.defers ≠ [] → ∀ ch,Chn (.iface t x) ch → R (.panicked ch) w')) →
   ∃ e w'' fr',R e w'' ∧ Comes P (lone { b.at a' todo with mode:=.returning } cs w') (lone fr' cs w'') e ∧ fr'.fn = f ∧ fr'.leaving P w'' e:=by
  rintro todo ⟨q1,q2,q3⟩
  by_cases hds:a'.defers = []
  ·obtain ⟨v,hr,hR⟩:=q2 hds
   exact ⟨.returned v,w',_,hR,Steps.refl P _,rfl,rfl,hds,rfl,fn,hf,hr⟩
  ·obtain ⟨ch,k1,k2⟩:=dpan_steps (P:=P) a'.defers { b.at a' todo with mode:=.returning } cs w' q1 (fun h => by cases h) rfl hds (fun ch h => by cases h)
   exact ⟨.panicked ch,w',_,q3 hds ch k1,k2,rfl,rfl,rfl,fn,hf⟩
 cases e with
 | normal =>
  obtain ⟨e',w'',fr',hR,hs,hfn,hl⟩:=ends [] hq
  exact ⟨e',w'',fr',hR,Comes.of_steps (Steps.trans harr (.one step_end)) hs,hfn,hl⟩
 | ret =>
  obtain ⟨todo,hs₀⟩:=harr
  obtain ⟨e',w'',fr',hR,hs,hfn,hl⟩:=ends todo hq
  exact ⟨e',w'',fr',hR,Comes.of_steps hs₀ hs,hfn,hl⟩
 | panic chain =>
  obtain ⟨todo,hs₀⟩:=harr
  obtain ⟨q1,q2,q3⟩:=hq
  by_cases hds:a'.defers = []
  ·exact ⟨.panicked chain,w',{ b.at a' todo with mode:=.panicking chain },q2 hds,Comes.of_steps hs₀ (Steps.refl P _),rfl,rfl,hds,fn,hf⟩
  ·obtain ⟨ch,k1,k2⟩:=dpan_steps (P:=P) a'.defers { b.at a' todo with mode:=.panicking chain } cs w' q1 (fun h => by cases h) rfl hds (fun ch h => by
    have h:FrameMode.panicking chain = .panicking ch:=h
    injection h with h
    subst h
    exact (q3 hds).1)
   exact ⟨.panicked ch,w',_,(q3 hds).2 ch k1,Comes.of_steps hs₀ k2,rfl,rfl,rfl,fn,hf⟩
 | exit id => exact hq.elim
 | goto l => exact hq.elim
 | outgrown => exact ⟨.outgrown,w',b,hq,harr.resolve_left (by simp [b]),rfl,trivial⟩
end
theorem enc2 {B g n c:Nat} (hn:n < B) (hc:c < B):(c + (g * B + n) * B) / B % B = n ∧ (c + (g * B + n) * B) % B = c ∧ (c + (g * B + n) * B) / (B * B) = g:=by
 have hB:0 < B:=by omega
 have h1:(c + (g * B + n) * B) / B = g * B + n:=by rw [Nat.add_mul_div_right _ _ hB,Nat.div_eq_of_lt hc,Nat.zero_add]
 refine ⟨?_,?_,?_⟩
 ·rw [h1,Nat.add_comm,Nat.add_mul_mod_self_right,Nat.mod_eq_of_lt hn]
 ·rw [Nat.add_mul_mod_self_right,Nat.mod_eq_of_lt hc]
 ·rw [← Nat.div_div_eq_div_mul,h1,Nat.add_comm,Nat.add_mul_div_right _ _ hB,Nat.div_eq_of_lt hn,Nat.zero_add]
theorem opqLen_s (m:Nat):opqLen (m + 2) = some (m / opqBase % opqBase):=rfl
theorem opqDec_s (m:Nat):opqDec (m + 1) = .slice (some ⟨m / (opqBase * opqBase),0,none⟩) (m / opqBase % opqBase) (m % opqBase):=rfl
theorem max_base {n:Nat} (h:n ≤ maxLen):n < opqBase:=Nat.lt_of_le_of_lt h (by decide)
theorem opq_enc (g n c:Nat) (hn:n ≤ maxLen) (hc:c ≤ maxLen):∃ k,opqLen k = some n ∧ ∀ F,OpqRel k F (.slice (some ⟨g,0,none⟩) n c):=by
 have hn:=max_base hn
 have hc:=max_base hc
 generalize hB:opqBase = B at hn hc
 obtain ⟨h1,h2,h3⟩:=enc2 (g:=g) hn hc
 generalize c + (g * B + n) * B = m at h1 h2 h3
 refine ⟨m + 2,?_,fun F => .inr ⟨m + 1,rfl,?_⟩⟩
 ·rw [opqLen_s,hB,h1]
 ·rw [opqDec_s,hB,h1,h2,h3]
theorem rel_tyA {F:Frz} {L L':Loc} {t:Ty} {v:Value} (h:Rel F L (tyA t) v):Rel F L' (tyA t) v:=by
 simp only [Rel,Rels] at h ⊢
 exact h
theorem opqDec_inj {F:Frz} {k:Nat} {v u:Value} (h:OpqRel k F v) (h':OpqRel k F u):v = u:=by
 rcases h with ⟨rfl,rfl⟩ | ⟨m,rfl,rfl⟩
 ·rcases h' with ⟨_,rfl⟩ | ⟨m,h,_⟩
  ·rfl
  ·cases h
 ·rcases h' with ⟨h,_⟩ | ⟨m',h,rfl⟩
  ·cases h
  ·injection h with h; rw [h]
theorem get3 {o0 o1 o2:Own} {j:Nat}:(inp [o0,o1,o2]).get j = if j = 1000 then some o0 else if j = 1001 then some o1 else if j = 1002 then some o2 else none:=by
 rw [inp_get]
 by_cases h:1000 ≤ j
 ·rw [if_pos h]
  by_cases h0:j = 1000
  ·rw [if_pos h0,h0]; rfl
  rw [if_neg h0]
  by_cases h1:j = 1001
  ·rw [if_pos h1,h1]; rfl
  rw [if_neg h1]
  by_cases h2:j = 1002
  ·rw [if_pos h2,h2]; rfl
  rw [if_neg h2]
  exact List.getElem?_eq_none (by simp; omega)
 ·rw [if_neg h,if_neg (by omega),if_neg (by omega),if_neg (by omega)]
theorem tget3 {o0 o1 o2:TO} {j:Nat}:(tinp [o0,o1,o2]).get j = if j = 1000 then some o0 else if j = 1001 then some o1 else if j = 1002 then some o2 else none:=by
 rw [tinp_get]
 by_cases h:1000 ≤ j
 ·rw [if_pos h]
  by_cases h0:j = 1000
  ·rw [if_pos h0,h0]; rfl
  rw [if_neg h0]
  by_cases h1:j = 1001
  ·rw [if_pos h1,h1]; rfl
  rw [if_neg h1]
  by_cases h2:j = 1002
  ·rw [if_pos h2,h2]; rfl
  rw [if_neg h2]
  exact List.getElem?_eq_none (by simp; omega)
 ·rw [if_neg h,if_neg (by omega),if_neg (by omega),if_neg (by omega)]
theorem relTL3 {F:Frz} {o0 o1 o2:Own} {q0 q1 q2:TO} (h0:RelO F (inp [o0,o1,o2]) q0 o0) (h1:RelO F (inp [o0,o1,o2]) q1 o1) (h2:RelO F (inp [o0,o1,o2]) q2 o2):RelTL F (inp [o0,o1,o2]) (tinp [q0,q1,q2]):=by
 intro j
 rw [get3,tget3]
 by_cases e0:j = 1000
 ·rw [if_pos e0,if_pos e0]; exact h0
 rw [if_neg e0,if_neg e0]
 by_cases e1:j = 1001
 ·rw [if_pos e1,if_pos e1]; exact h1
 rw [if_neg e1,if_neg e1]
 by_cases e2:j = 1002
 ·rw [if_pos e2,if_pos e2]; exact h2
 rw [if_neg e2,if_neg e2]
 trivial
theorem get4 {o0 o1 o2 o3:Own} {j:Nat}:(inp [o0,o1,o2,o3]).get j = if j = 1000 then some o0 else if j = 1001 then some o1 else if j = 1002 then some o2 else if j = 1003 then some o3 else none:=by
 rw [inp_get]
 by_cases h:1000 ≤ j
 ·rw [if_pos h]
  by_cases h0:j = 1000
  ·rw [if_pos h0,h0]; rfl
  rw [if_neg h0]
  by_cases h1:j = 1001
  ·rw [if_pos h1,h1]; rfl
  rw [if_neg h1]
  by_cases h2:j = 1002
  ·rw [if_pos h2,h2]; rfl
  rw [if_neg h2]
  by_cases h3:j = 1003
  ·rw [if_pos h3,h3]; rfl
  rw [if_neg h3]
  exact List.getElem?_eq_none (by simp; omega)
 ·rw [if_neg h,if_neg (by omega),if_neg (by omega),if_neg (by omega),if_neg (by omega)]
theorem tget4 {o0 o1 o2 o3:TO} {j:Nat}:(tinp [o0,o1,o2,o3]).get j = if j = 1000 then some o0 else if j = 1001 then some o1 else if j = 1002 then some o2 else if j = 1003 then some o3 else none:=by
 rw [tinp_get]
 by_cases h:1000 ≤ j
 ·rw [if_pos h]
  by_cases h0:j = 1000
  ·rw [if_pos h0,h0]; rfl
  rw [if_neg h0]
  by_cases h1:j = 1001
  ·rw [if_pos h1,h1]; rfl
  rw [if_neg h1]
  by_cases h2:j = 1002
  ·rw [if_pos h2,h2]; rfl
  rw [if_neg h2]
  by_cases h3:j = 1003
  ·rw [if_pos h3,h3]; rfl
  rw [if_neg h3]
  exact List.getElem?_eq_none (by simp; omega)
 ·rw [if_neg h,if_neg (by omega),if_neg (by omega),if_neg (by omega),if_neg (by omega)]
theorem relTL4 {F:Frz} {o0 o1 o2 o3:Own} {q0 q1 q2 q3:TO} (h0:RelO F (inp [o0,o1,o2,o3]) q0 o0) (h1:RelO F (inp [o0,o1,o2,o3]) q1 o1) (h2:RelO F (inp [o0,o1,o2,o3]) q2 o2) (h3:RelO F (inp [o0,o1,o2,o3]) q3 o3):RelTL F (inp [o0,o1,o2,o3]) (tinp [q0,q1,q2,q3]):=by
 intro j
 rw [get4,tget4]
 by_cases e0:j = 1000
 ·rw [if_pos e0,if_pos e0]; exact h0
 rw [if_neg e0,if_neg e0]
 by_cases e1:j = 1001
 ·rw [if_pos e1,if_pos e1]; exact h1
 rw [if_neg e1,if_neg e1]
 by_cases e2:j = 1002
 ·rw [if_pos e2,if_pos e2]; exact h2
 rw [if_neg e2,if_neg e2]
 by_cases e3:j = 1003
 ·rw [if_pos e3,if_pos e3]; exact h3
 rw [if_neg e3,if_neg e3]
 trivial
theorem smallR {F:Frz} {k b0 t0 b2 b3:Nat} {v:Value} {c2 c3:List Value} {D O:List (C × C)} (hty:tyOk 93 b0 t0) (hk:OpqRel k F v) (q2:RelE F D c2) (q3:RelE F O c3) :
  RelTL F (inp [.box b0 t0 [v,.map (some b2),.map (some b3)],.box b2 0 c2,.box b3 0 c3]) (tinp (SO k D O)):=by
 refine relTL3 ⟨hty,?_⟩ ⟨rfl,q2⟩ ⟨rfl,q3⟩
 simp only [Rels,Rel]
 exact ⟨_,_,rfl,hk,_,_,rfl,⟨_,_,rfl,rfl⟩,_,_,rfl,⟨_,_,rfl,rfl⟩,rfl⟩
theorem lendRow {P:Program} {f:Nat} {tx:Ty} {b:Bool} {sz t:Nat} {els:List (List C)} {D O:List (C × C)}
  (h:∀ k,opqLen k = some els.length → CallsT P f [.own 1000 0,tyA tx] (SO k D O) (Ret (SO k D O) (.bool b))) :
  CallsTI P f [.own 1000 0,tyA tx] [.box 93 [.rw 1001,.mpr 1002,.mpr 1003],.row t sz els,.map D,.map O] (Ret [.box 93 [.rw 1001,.mpr 1002,.mpr 1003],.row t sz els,.map D,.map O] (.bool b)):=by
 refine ⟨fun F Li vs hl htl hr => ?_⟩
 match Li,hl with
 | [o0,o1,o2,o3],_ =>
  have q0:=htl 1000
  have q1:=htl 1001
  have q2:=htl 1002
  have q3:=htl 1003
  have g0:(inp [o0,o1,o2,o3]).get 1000 = some o0:=rfl
  have g1:(inp [o0,o1,o2,o3]).get 1001 = some o1:=rfl
  have g2:(inp [o0,o1,o2,o3]).get 1002 = some o2:=rfl
  have g3:(inp [o0,o1,o2,o3]).get 1003 = some o3:=rfl
  rw [g0] at q0
  rw [g1] at q1
  rw [g2] at q2
  rw [g3] at q3
  have q0:RelO F (inp [o0,o1,o2,o3]) (.box 93 [.rw 1001,.mpr 1002,.mpr 1003]) o0:=q0
  have q1:RelO F (inp [o0,o1,o2,o3]) (.row t sz els) o1:=q1
  have q2:RelO F (inp [o0,o1,o2,o3]) (.map D) o2:=q2
  have q3:RelO F (inp [o0,o1,o2,o3]) (.map O) o3:=q3
  cases o0 with
  | row => exact q0.elim
  | box b0 t0 c0 =>
  cases o1 with
  | box => exact q1.elim
  | row v1 t1 s1 n1 x1 =>
  cases o2 with
  | row => exact q2.elim
  | box b2 t2 c2 =>
  cases o3 with
  | row => exact q3.elim
  | box b3 t3 c3 =>
  obtain ⟨ht0,hc0⟩:=q0
  simp only [Rels,Rel] at hc0
  obtain ⟨w0,_,rfl,⟨a,c,t',sz',n,xs,rfl,e1⟩,m1,_,rfl,⟨y1,z1,e2,rfl⟩,m2,_,rfl,⟨y2,z2,e3,rfl⟩,rfl⟩:=hc0
  rw [g1] at e1
  rw [g2] at e2
  rw [g3] at e3
  injection e1 with e1
  injection e1 with e11 e12 e13 e14 e15
  subst e11 e12 e13 e14 e15
  injection e2 with e2
  injection e2 with e21 e22 e23
  subst e21 e22 e23
  injection e3 with e3
  injection e3 with e31 e32 e33
  subst e31 e32 e33
  obtain ⟨rfl,rfl,hn,⟨hm,hv⟩,hrow⟩:=q1
  obtain ⟨_,q2⟩:=q2
  obtain ⟨_,q3⟩:=q3
  rw [Rels] at hr
  obtain ⟨u1,us,rfl,r1,r2⟩:=hr
  rw [Rel] at r1
  obtain ⟨gg,tt,cc,r3,rfl⟩:=r1
  rw [g0] at r3
  injection r3 with r3
  injection r3 with r31 r32 r33
  subst r31 r32 r33
  rw [Rels] at r2
  obtain ⟨u2,us',rfl,r4,r5⟩:=r2
  rw [Rels] at r5
  subst r5
  -- the arguments,in a smaller world
  have hr':∀ (L':Loc) (b':Nat) (ty:TypeId) (cs:List Value),L'.get 1000 = some (.box b' ty cs) → Rels F L' [.own 1000 0,tyA tx] [.pointer (some ⟨b',0,none⟩),u2]:=by
   intro L' b' ty cs hL
   rw [Rels]
   refine ⟨_,_,rfl,by rw [Rel]; exact ⟨_,_,_,hL,rfl⟩,?_⟩
   rw [Rels]
   exact ⟨u2,[],rfl,rel_tyA r4,by rw [Rels]⟩
  obtain ⟨k0,hk0,hk1⟩:=opq_enc 0 n1 n1 hm hm
  have ent:=((h k0 (by rw [← hn]; exact hk0)).out F [.box 0 93 [.slice (some ⟨0,0,none⟩) n1 n1,.map (some b2),.map (some b3)],.box b2 0 c2,.box b3 0 c3] [.pointer (some ⟨0,0,none⟩),u2] rfl
   (smallR ⟨by decide,.inl rfl,by decide⟩ (hk1 F) q2 q3) (hr' _ 0 93 _ rfl)).ent
  refine ⟨ent,fun F G L v hle ⟨r,q⟩ => ⟨ResA.mono' _ _ _ _ hle r,q⟩,fun w hs => ?_⟩
  have hown:=hs.own 1001 _ g1
  simp only [Own.ok] at hown
  have hk:∃ k,opqLen k = some n1 ∧ ∀ F,OpqRel k F (.slice a n1 c):=by
   rcases hown.2 with ⟨e,_⟩ | ⟨g,cap,cur,e,_,_,k1,k2,_⟩
   ·injection e with e1 e2 e3
    subst e1 e2 e3
    exact ⟨1,rfl,fun F => .inr ⟨0,rfl,rfl⟩⟩
   ·injection e with e1 e2 e3
    subst e1 e3
    exact opq_enc g n1 c hm k2
  obtain ⟨k,hk2,hk3⟩:=hk
  have hsub:(inp [.box b0 t0 [.slice a n1 c,.map (some b2),.map (some b3)],.row (.slice a n1 c) t sz n1 x1,.box b2 0 c2,.box b3 0 c3]).sub [1000,1002,1003] = some [.box b0 t0 [.slice a n1 c,.map (some b2),.map (some b3)],.box b2 0 c2,.box b3 0 c3]:=rfl
  have hnd:[1000,1002,1003].Nodup:=by decide
  refine (((h k (by rw [← hn]; exact hk2)).out F _ _ rfl (smallR ht0 (hk3 F) q2 q3) (hr' _ b0 t0 _ rfl)).run w (hs.handed hsub hnd)).mono ?_
  rintro e w' ⟨v,F',Lo,rfl,hs',hst,Mo,cc,l1,l2,l3,l4,rfl,rfl⟩
  match Lo,l1 with
  | [p0,p1,p2],_ =>
   obtain ⟨d0,i0⟩:=l4 0 _ _ _ rfl
   obtain ⟨d1,i1⟩:=l4 1 _ _ _ rfl
   obtain ⟨d2,i2⟩:=l4 2 _ _ _ rfl
   injection i0 with i0
   injection i1 with i1
   injection i2 with i2
   subst i0 i1 i2
   obtain ⟨s1',s2'⟩:=call_back hs hsub hnd hnd (fun k hk => .inl hk) hs' hst rfl
   have j0:=l2 1000
   have j1:=l2 1001
   have j2:=l2 1002
   have j0:RelO F' (inp [.box b0 t0 d0,.box b2 0 d1,.box b3 0 d2]) (.box 93 [.opq k,.mpr 1001,.mpr 1002]) (.box b0 t0 d0):=j0
   have j1:RelO F' (inp [.box b0 t0 d0,.box b2 0 d1,.box b3 0 d2]) (.map D) (.box b2 0 d1):=j1
   have j2:RelO F' (inp [.box b0 t0 d0,.box b2 0 d1,.box b3 0 d2]) (.map O) (.box b3 0 d2):=j2
   obtain ⟨ht0',hc0'⟩:=j0
   simp only [Rels,Rel] at hc0'
   obtain ⟨w0,_,rfl,hw0,m1,_,rfl,⟨y1,z1,e2,rfl⟩,m2,_,rfl,⟨y2,z2,e3,rfl⟩,rfl⟩:=hc0'
   have e2:some (Own.box b2 0 d1) = some (.box y1 0 z1):=e2
   have e3:some (Own.box b3 0 d2) = some (.box y2 0 z2):=e3
   injection e2 with e2
   injection e2 with e21 _ e23
   injection e3 with e3
   injection e3 with e31 _ e33
   subst e21 e23 e31 e33
   have hwv:=opqDec_inj (hk3 F') hw0
   subst hwv
   refine ⟨v,F',[.box b0 t0 [.slice a n1 c,.map (some b2),.map (some b3)],.row (.slice a n1 c) t sz n1 x1,.box b2 0 d1,.box b3 0 d2],rfl,s1',s2',⟨[.box 93 [.rw 1001,.mpr 1002,.mpr 1003],.row t sz els,.map D,.map O],.bool b,rfl,relTL4 ⟨ht0,?_⟩ ⟨rfl,rfl,hn,⟨hm,hv⟩,hrow.mono hst.le⟩ ⟨rfl,j1.2⟩ ⟨rfl,j2.2⟩,?_,?_,rfl,rfl⟩,rfl,?_⟩
   ·simp only [Rels,Rel]
    exact ⟨_,_,rfl,⟨a,c,_,_,n1,_,rfl,rfl⟩,_,_,rfl,⟨_,_,rfl,rfl⟩,_,_,rfl,⟨_,_,rfl,rfl⟩,rfl⟩
   ·rw [Rel] at l3 ⊢; exact l3
   ·intro i g ty cs hi
    match i,hi with
    | 0,hi => injection hi with hi; injection hi with h1 h2 h3; subst h1 h2; exact ⟨_,rfl⟩
    | 1,hi => cases hi
    | 2,hi => injection hi with hi; injection hi with h1 h2 h3; subst h1 h2; exact ⟨_,rfl⟩
    | 3,hi => injection hi with hi; injection hi with h1 h2 h3; subst h1 h2; exact ⟨_,rfl⟩
    | i + 4,hi => cases hi
   ·intro i o hi
    match i,hi with
    | 0,hi => injection hi with hi; subst hi; exact ⟨_,rfl,rfl,rfl⟩
    | 1,hi => injection hi with hi; subst hi; exact ⟨_,rfl,rfl,rfl,rfl⟩
    | 2,hi => injection hi with hi; subst hi; exact ⟨_,rfl,rfl,rfl⟩
    | 3,hi => injection hi with hi; subst hi; exact ⟨_,rfl,rfl,rfl⟩
    | i + 4,hi => cases hi
def sq1:Code → Code
 | .seq a _ => a
 | _ => .skip
def sq2:Code → Code
 | .seq _ a => a
 | _ => .skip
def bk1:Code → Code
 | .block _ a => a
 | .loop a => a
 | _ => .skip
def cd1:Code → Code
 | .cond _ a _ => a
 | _ => .skip
noncomputable def kBody:Code:=Try.f58.body.getD .skip
noncomputable def k0:Code:=sq1 kBody
noncomputable def k1:Code:=sq1 (sq2 kBody)
noncomputable def k8:Code:=sq1 (sq2 (sq2 kBody))
noncomputable def kLp:Code:=bk1 (bk1 (sq2 (sq2 (sq2 kBody))))
noncomputable def k9:Code:=sq1 kLp
noncomputable def kc:Code:=sq1 (sq2 kLp)
noncomputable def kB3:Code:=bk1 (sq1 (sq2 (sq2 kLp)))
noncomputable def k10:Code:=sq1 kB3
noncomputable def k11:Code:=sq1 (sq2 kB3)
noncomputable def k12:Code:=cd1 (sq2 (sq2 kB3))
noncomputable def k13:Code:=sq2 (sq2 (sq2 kLp))
theorem kBody_eq:Try.f58.body = some (k0.seq (k1.seq (k8.seq (.block 2 (.loop (k9.seq (kc.seq ((Code.block 3 (k10.seq (k11.seq (.cond (.tmp 67) k12 .skip)))).seq k13)))))))):=by kernel_rfl
def A58:Ann:={ n:=72,own:=[],frz:=[],ord:=[],pan:=[(6,2),(11,3)] }
def z0:SCode:=(.reg [.op (some 8) (.mov (.t 0)) none,
  .op (some 9) (.mov (.t 0)) none,
  .op (some 10) (.mkmap) none,
  .op (some 11) (.mkmap) none,
  .op (some 12) (.nilck (.t 8)) none,
  .op (some 13) (.fieldA 1 (.t 12)) none,
  .op none (.store 1 (.t 13) (.t 10)) none,
  .op (some 14) (.nilck (.t 9)) none,
  .op (some 15) (.fieldA 2 (.t 14)) none,
  .op none (.store 1 (.t 15) (.t 11)) none])
theorem low0:low Try.prog A58 k0 = some z0:=by kernel_rfl
def z1:SCode:=(.seq (.reg [.op (some 16) (.mov (.t 0)) none,
  .op (some 17) (.nilck (.t 16)) none,
  .op (some 18) (.fieldA 0 (.t 17)) none,
  .op (some 19) (.load false 1 (.t 18)) none,
  .op (some 20) (.len (.t 19)) none,
  .op (some 21) (.mov (.c (.int .i64 0))) none])
 (.block 0
 (.loop [22,23,24,5,25,26,27,28,29,30,31,32,33,6,34,35,36,37,38,39,40,41,42,43,44,45,46,47,48,49,50,51,52,53,54,21]
  (.seq (.reg [.op (some 22) (.bin .lss (.t 21) (.t 20)) none])
   (.seq (.cond (.t 22)
   .skip
   (.exit 0))
   (.seq (.block 1
   (.seq (.reg [.op (some 23) (.idxA 3 (.t 19) (.t 21)) none,
     .op (some 24) (.load true 3 (.t 23)) none,
     .op (some 5) (.alloc 32 [(.int .i64 0),(.int .i64 0),(.slice none 0 0)]) none,
     .op none (.store 3 (.t 5) (.t 24)) none])
    (.seq (.reg [.op (some 25) (.fieldA 1 (.t 5)) none,
     .op (some 26) (.load false 1 (.t 25)) none,
     .op (some 27) (.bin .eql (.t 26) (.c (.int .i64 0))) none,
     .op (some 28) (.mov (.t 27)) none,
     .op (some 29) (.fieldA 2 (.t 5)) (some (28,true)),
     .op (some 30) (.load false 1 (.t 29)) (some (28,true)),
     .op (some 31) (.len (.t 30)) (some (28,true)),
     .op (some 32) (.bin .eql (.t 31) (.c (.int .i64 0))) (some (28,true)),
     .op (some 33) (.pick (.t 28) (.t 32) (.c (.bool false))) none,
     .op (some 6) (.mov (.t 33)) none])
    (.seq (.reg [.op (some 34) (.fieldA 0 (.t 5)) none,
     .op (some 35) (.load false 1 (.t 34)) none,
     .op (some 36) (.bin .eql (.t 35) (.c (.int .i64 0))) none,
     .op (some 37) (.mov (.t 36)) none,
     .op (some 38) (.mov (.t 6)) (some (37,true)),
     .op (some 39) (.un .not (.t 38)) (some (37,true)),
     .op (some 40) (.pick (.t 37) (.t 39) (.c (.bool false))) none,
     .op (some 41) (.mov (.t 40)) none,
     .op (some 42) (.fieldA 0 (.t 5)) (some (41,false)),
     .op (some 43) (.load false 1 (.t 42)) (some (41,false)),
     .op (some 44) (.bin .neq (.t 43) (.c (.int .i64 0))) (some (41,false)),
     .op (some 45) (.mov (.t 44)) (some (41,false)),
     .op (some 46) (.mov (.t 0)) (some (45,true)),
     .op (some 47) (.load true 3 (.t 5)) (some (45,true)),
     .op (some 48) (.call 59 [(.t 46),(.t 47)]) (some (45,true)),
     .op (some 49) (.un .not (.t 48)) (some (45,true)),
     .op (some 50) (.pick (.t 45) (.t 49) (.c (.bool false))) (some (41,false)),
     .op (some 51) (.pick (.t 41) (.c (.bool true)) (.t 50)) none])
    (.cond (.t 51)
    (.reg [.op (some 52) (.build [(.int .i64 0)] [(0,1,(.c (.int .i64 1)))]) none,
      .op (some 53) (.mkif 98 (.t 52)) none,
      .pc none (.pan (.t 53)) none])
    .skip)))))
   (.reg [.op (some 54) (.bin .add (.t 21) (.c (.int .i64 1))) none,
    .op (some 21) (.mov (.t 54)) none])))))))
theorem low1:low Try.prog A58 k1 = some z1:=by kernel_rfl
def z8:SCode:=(.reg [.op (some 55) (.mov (.t 0)) none,
  .op (some 56) (.nilck (.t 55)) none,
  .op (some 57) (.fieldA 0 (.t 56)) none,
  .op (some 58) (.load false 1 (.t 57)) none,
  .op (some 59) (.len (.t 58)) none,
  .op (some 60) (.mov (.c (.int .i64 0))) none])
theorem low8:low Try.prog A58 k8 = some z8:=by kernel_rfl
def z9:SCode:=(.reg [.op (some 61) (.bin .lss (.t 60) (.t 59)) none])
theorem low9:low Try.prog A58 k9 = some z9:=by kernel_rfl
def zc:SCode:=(.cond (.t 61)
 .skip
 (.exit 2))
theorem lowc:low Try.prog A58 kc = some zc:=by kernel_rfl
def z10:SCode:=(.reg [.op (some 62) (.mov (.t 60)) none,
  .op (some 7) (.mov (.t 62)) none])
theorem low10:low Try.prog A58 k10 = some z10:=by kernel_rfl
def z11:SCode:=(.reg [.op (some 63) (.mov (.t 0)) none,
  .op (some 64) (.mov (.t 7)) none,
  .op (some 65) (.build [(.int .i64 0),(.int .i64 0),(.slice none 0 0)] [(0,1,(.c (.int .i64 9))),(1,1,(.t 64))]) none,
  .pc (some 66) (.call 64 [(.t 63),(.t 65)]) none,
  .op (some 67) (.bin .gtr (.t 66) (.c (.int .i64 8))) none])
theorem low11:low Try.prog A58 k11 = some z11:=by kernel_rfl
def z13:SCode:=(.reg [.op (some 71) (.bin .add (.t 60) (.c (.int .i64 1))) none,
  .op (some 60) (.mov (.t 71)) none])
theorem low13:low Try.prog A58 k13 = some z13:=by kernel_rfl
section
variable {L:TL} {ρ:TEnv}
theorem callI (ks:List Nat) {f:Nat} {args args':List C} {K:TL → TEnv → C → Prop} {x:C} {Lin Lin' Lo:List TO} (h:CallsTI P f args' Lin' (Ret Lo x)) (hs:L.sub ks = some Lin) (hn:T.nodup? ks = true)
  (ha:(args.map fun c => c.canA.ren (toIn ks 1000)) = args') (hl:Lin.map (TO.mapC (C.ren (toIn ks 1000))) = Lin') (hlen:ks.length = Lo.length)
  (k:K ((L.dels ks).puts ks (Lo.map (TO.mapC (C.ren (fromIn ks))))) ρ (x.ren (fromIn ks)).slt):CallT P f args L ρ K:=by
 subst ha hl
 exact .inpl ks Lin _ hs hn h fun v Mo ⟨e1,e2⟩ _ _ => by subst e1 e2; exact ⟨hlen,k⟩
end
def HS (M0:TL) (e:Int) (len i:Nat):TK:=fun M τ => M = M0 ∧ τ 0 = .own 1000 0 ∧ τ 1 = IC e ∧ τ 59 = IC len ∧ τ 60 = IC i
theorem elemOk_z {n:Int} {t:Ty} (h:t.kind = 0):elemOk n t = (decide (t.id = 0) && decide (t.args.length = 0)):=if_pos h
theorem elemOk_n {n:Int} {t:Ty} (h:¬ t.kind = 0):elemOk n t = ins n t:=if_neg h
def MhU (s:List Ty) (d:DM) (o:OM):TL:=[(10,.map (mcs IC d)),(11,.map (mcs C.bool o)),(1000,.box 93 [.rw 1001,.mpr 10,.mpr 11]),(1001,.row 32 3 (s.map tyC))]
theorem fpreU (s:List Ty) (e:Int) (PS:Value → Prop) (hp:s.all (elemOk s.length) = false → PS (failV 1)) (hlen:s.length ≤ 9223372036854775807) :
  evalTC P ⟨PS,[]⟩ (.seq z0 (.seq z1 z8)) (fun _ _ _ => False) (fun _ _ => False) (fun M τ => s.all (elemOk s.length) = true ∧ HS (MhU s [] []) e s.length 0 M τ) (tinp (SU0 s)) (argT 0 [.own 1000 0,IC e]):=by
 have h59:∀ t:Ty,CallsTI P 59 [.own 1000 0,tyA t] [.box 93 [.rw 1001,.mpr 1002,.mpr 1003],.row 32 3 (s.map tyC),.map [],.map []] (Ret [.box 93 [.rw 1001,.mpr 1002,.mpr 1003],.row 32 3 (s.map tyC),.map [],.map []] (.bool (ins s.length t))):=fun t => lendRow fun k hk => t59_O k s.length [] [] (by rw [hk,List.length_map]) hlen t
 have hsm:(s.map tyC).length = s.length:=List.length_map _
 have hz:=fun t => @elemOk_z s.length t
 have hn:=fun t => @elemOk_n s.length t
 generalize elemOk (s.length:Int) = f at hp hz hn ⊢
 refine loopN s.length 21 [19] () (fun _ => [.rw 1001]) (fun _ => [(10,.map []),(11,.map []),(1000,.box 93 [.rw 1001,.mpr 10,.mpr 11]),(1001,.row 32 3 (s.map tyC))]) (fun k _ => (s.drop k).all f = s.all f) rfl (same_keys rfl) ⟨same_keys rfl,trivial⟩ ⟨.inl ⟨_,rfl,.inl ⟨rfl,rfl⟩⟩,.inl ⟨_,rfl,.inl ⟨rfl,rfl⟩⟩,.inl ⟨_,rfl,.inl ⟨rfl,rfl⟩⟩,.inl ⟨_,rfl,.inl ⟨rfl,rfl⟩⟩,trivial⟩ (fun _ => rfl) (fun _ => rfl) ?_
 rintro k _ hk hinv _ _ _
 refine brn_p (fun hlt => ?_) (fun hge => ?_)
 ·have hlt:k < s.length:=by rw [hsm] at hlt; omega
  refine withDrop hlt fun x hx hxm hdr => ?_
  have hlm:(x.args.map tyC).length = x.args.length:=List.length_map _
  have hbad:f x = false → PS (failV 1):=fun q => hp (all_no hdr hinv q).symm
  refine InB.mk (by omega) (by rw [hsm]; omega) ?_
  refine rowA hx ?_
  refine brn_p (fun h1 => brn_p (fun h2 => ?_) (fun h2 => ?_)) (fun h1 => brn_p (fun h2 => ?_) (fun h2 => ?_))
  ·have hq:f x = decide (x.args.length = 0):=by rw [hz x h2,decide_eq_true h1,Bool.true_and]
   refine brn_n (fun h3 => ?_) (fun h3 => ?_)
   ·exact panT rfl (hbad (by rw [hq]; exact decide_eq_false (by rw [hlm] at h3; omega)))
   refine brn_n (fun q => absurd h2 q) (fun _ => ?_)
   refine Fit.in64 (by omega) (by omega) ?_
   exact ⟨(k + 1,()),⟨hlt,all_drop hdr hinv (by rw [hq]; exact decide_eq_true (by rw [hlm] at h3; omega))⟩,⟨nextI,same_keys rfl,trivial⟩,⟨.inl ⟨_,rfl,.inl ⟨rfl,rfl⟩⟩,.inl ⟨_,rfl,.inl ⟨rfl,rfl⟩⟩,.inl ⟨_,rfl,.inl ⟨rfl,rfl⟩⟩,.inl ⟨_,rfl,.inl ⟨rfl,rfl⟩⟩,trivial⟩,nextM hlt⟩
  ·refine brn_n (fun _ => ?_) (fun q => absurd q h2)
   refine callI [1000,1001,10,11] (h59 x) rfl rfl rfl rfl rfl ?_
   refine brn_split (fun h4 => ?_) (fun h4 => ?_)
   ·exact panT rfl (hbad (by rw [hn x h2]; simpa using h4))
   refine Fit.in64 (by omega) (by omega) ?_
   exact ⟨(k + 1,()),⟨hlt,all_drop hdr hinv (by rw [hn x h2]; simpa using h4)⟩,⟨nextI,same_keys rfl,trivial⟩,⟨.inl ⟨_,rfl,.inl ⟨rfl,rfl⟩⟩,.inl ⟨_,rfl,.inl ⟨rfl,rfl⟩⟩,.inl ⟨_,rfl,.inl ⟨rfl,rfl⟩⟩,.inl ⟨_,rfl,.inl ⟨rfl,rfl⟩⟩,trivial⟩,nextM hlt⟩
  ·exact panT rfl (hbad (by rw [hz x h2,decide_eq_false h1,Bool.false_and]))
  ·refine brn_n (fun _ => ?_) (fun q => absurd q h2)
   refine callI [1000,1001,10,11] (h59 x) rfl rfl rfl rfl rfl ?_
   refine brn_split (fun h4 => ?_) (fun h4 => ?_)
   ·exact panT rfl (hbad (by rw [hn x h2]; simpa using h4))
   refine Fit.in64 (by omega) (by omega) ?_
   exact ⟨(k + 1,()),⟨hlt,all_drop hdr hinv (by rw [hn x h2]; simpa using h4)⟩,⟨nextI,same_keys rfl,trivial⟩,⟨.inl ⟨_,rfl,.inl ⟨rfl,rfl⟩⟩,.inl ⟨_,rfl,.inl ⟨rfl,rfl⟩⟩,.inl ⟨_,rfl,.inl ⟨rfl,rfl⟩⟩,.inl ⟨_,rfl,.inl ⟨rfl,rfl⟩⟩,trivial⟩,nextM hlt⟩
 ·have hge:¬ k < s.length:=by rw [hsm] at hge; omega
  exact ⟨(all_end hge hinv).symm,rfl,rfl,rfl,congrArg IC (by rw [hsm]),rfl⟩
def MhF (s:List Ty) (d:DM) (o:OM):TL:=[(10,.map (mcs IC d)),(11,.map (mcs C.bool o)),(1000,.box 93 [.sl (s.map tyC),.mpr 10,.mpr 11])]
theorem fpreF (s:List Ty) (e:Int) (PS:Value → Prop) (hp:s.all (elemOk s.length) = false → PS (failV 1)) (hlen:s.length ≤ 9223372036854775807) :
  evalTC P ⟨PS,[]⟩ (.seq z0 (.seq z1 z8)) (fun _ _ _ => False) (fun _ _ => False) (fun M τ => s.all (elemOk s.length) = true ∧ HS (MhF s [] []) e s.length 0 M τ) (tinp (SF0 s)) (argT 0 [.own 1000 0,IC e]):=by
 have h59:=fun t => t59_F s [] [] t
 have hsm:(s.map tyC).length = s.length:=List.length_map _
 have hz:=fun t => @elemOk_z s.length t
 have hn:=fun t => @elemOk_n s.length t
 generalize elemOk (s.length:Int) = f at hp hz hn ⊢
 refine loopN s.length 21 [] () (fun _ => []) (fun _ => [(10,.map []),(11,.map []),(1000,.box 93 [.sl (s.map tyC),.mpr 10,.mpr 11])]) (fun k _ => (s.drop k).all f = s.all f) rfl (same_keys rfl) trivial ⟨.inl ⟨_,rfl,.inl ⟨rfl,rfl⟩⟩,.inl ⟨_,rfl,.inl ⟨rfl,rfl⟩⟩,.inl ⟨_,rfl,.inl ⟨rfl,rfl⟩⟩,trivial⟩ (fun _ => rfl) (fun _ => rfl) ?_
 rintro k _ hk hinv _ _ _
 refine brn_p (fun hlt => ?_) (fun hge => ?_)
 ·have hlt:k < s.length:=by rw [hsm] at hlt; omega
  refine withDrop hlt fun x hx hxm hdr => ?_
  have hlm:(x.args.map tyC).length = x.args.length:=List.length_map _
  have hbad:f x = false → PS (failV 1):=fun q => hp (all_no hdr hinv q).symm
  refine idxTy hx ?_
  refine brn_p (fun h1 => brn_p (fun h2 => ?_) (fun h2 => ?_)) (fun h1 => brn_p (fun h2 => ?_) (fun h2 => ?_))
  ·have hq:f x = decide (x.args.length = 0):=by rw [hz x h2,decide_eq_true h1,Bool.true_and]
   refine brn_n (fun h3 => ?_) (fun h3 => ?_)
   ·exact panT rfl (hbad (by rw [hq]; exact decide_eq_false (by rw [hlm] at h3; omega)))
   refine brn_n (fun q => absurd h2 q) (fun _ => ?_)
   refine Fit.in64 (by omega) (by omega) ?_
   exact ⟨(k + 1,()),⟨hlt,all_drop hdr hinv (by rw [hq]; exact decide_eq_true (by rw [hlm] at h3; omega))⟩,⟨nextI,trivial⟩,⟨.inl ⟨_,rfl,.inl ⟨rfl,rfl⟩⟩,.inl ⟨_,rfl,.inl ⟨rfl,rfl⟩⟩,.inl ⟨_,rfl,.inl ⟨rfl,rfl⟩⟩,trivial⟩,nextM hlt⟩
  ·refine brn_n (fun _ => ?_) (fun q => absurd q h2)
   refine callO [1000,10,11] [1000,10,11] (h59 x) rfl rfl rfl rfl rfl fun _ _ => ?_
   refine brn_split (fun h4 => ?_) (fun h4 => ?_)
   ·exact panT rfl (hbad (by rw [hn x h2]; simpa using h4))
   refine Fit.in64 (by omega) (by omega) ?_
   exact ⟨(k + 1,()),⟨hlt,all_drop hdr hinv (by rw [hn x h2]; simpa using h4)⟩,⟨nextI,trivial⟩,⟨.inl ⟨_,rfl,.inl ⟨rfl,rfl⟩⟩,.inl ⟨_,rfl,.inl ⟨rfl,rfl⟩⟩,.inl ⟨_,rfl,.inl ⟨rfl,rfl⟩⟩,trivial⟩,nextM hlt⟩
  ·exact panT rfl (hbad (by rw [hz x h2,decide_eq_false h1,Bool.false_and]))
  ·refine brn_n (fun _ => ?_) (fun q => absurd q h2)
   refine callO [1000,10,11] [1000,10,11] (h59 x) rfl rfl rfl rfl rfl fun _ _ => ?_
   refine brn_split (fun h4 => ?_) (fun h4 => ?_)
   ·exact panT rfl (hbad (by rw [hn x h2]; simpa using h4))
   refine Fit.in64 (by omega) (by omega) ?_
   exact ⟨(k + 1,()),⟨hlt,all_drop hdr hinv (by rw [hn x h2]; simpa using h4)⟩,⟨nextI,trivial⟩,⟨.inl ⟨_,rfl,.inl ⟨rfl,rfl⟩⟩,.inl ⟨_,rfl,.inl ⟨rfl,rfl⟩⟩,.inl ⟨_,rfl,.inl ⟨rfl,rfl⟩⟩,trivial⟩,nextM hlt⟩
 ·have hge:¬ k < s.length:=by rw [hsm] at hge; omega
  exact ⟨(all_end hge hinv).symm,rfl,rfl,rfl,congrArg IC (by rw [hsm]),rfl⟩
theorem beqF {a b:Nat} (h:¬ a = b):Nat.beq a b = false:=by
 cases h2:Nat.beq a b with
 | true => exact absurd (Nat.eq_of_beq_eq_true h2) h
 | false => rfl
def MS (G:Nat → Option (Nat × TypeId)) (F0:Frz) (Li:List Own) (w0:World) (K:TK) (a:Act) (w:World):Prop :=
 ∃ F L ρ M τ,St F L w ∧ EnvOk L ρ a ∧ TS G F L ρ M τ ∧ a.tmps.size = 72 ∧ Step F0 (inp Li) w0 F L w ∧ K M τ
section
variable {G:Nat → Option (Nat × TypeId)} {F0:Frz} {Li:List Own} {w0:World}
theorem MS.piece {c:Code} {sc:SCode} (hl:low Try.prog A58 c = some sc) (hfz:frzKeys sc = []) {PS:Pan} {E:Nat → TK} {N K:TK} {a:Act} {w:World} (h:MS G F0 Li w0 K a w)
  (hK:∀ M τ,K M τ → evalTC P PS sc E (fun _ _ => False) N M τ) {Q:Exit → Act → World → Prop}
  (hN:∀ a' w',a'.defers = a.defers → MS G F0 Li w0 N a' w' → Q .normal a' w')
  (hE:∀ j a' w',a'.defers = a.defers → MS G F0 Li w0 (E j) a' w' → Q (.exit j) a' w')
  (hP:∀ v ch a' w',Chn v ch → a'.defers = a.defers → PS.ps v → (∃ F' L',St F' L' w' ∧ Step F0 (inp Li) w0 F' L' w' ∧ Kp G L') → Q (.panic ch) a' w'):c.wp P Q a w:=by
 obtain ⟨F,L,ρ,M,τ,g1,g2,g3,g4,g5,hk⟩:=h
 refine wp_mono (evalTC_sound c hl (fun k hk => by rw [hfz] at hk; cases hk) g1 g2 g3 g4 (hK M τ hk)) ?_
 intro e a' w' hq
 cases e with
 | normal =>
  obtain ⟨F',L',ρ',k1,k2,k3,k4,k5,k6,M',τ',k7,k8⟩:=hq
  exact hN a' w' k4 ⟨F',L',ρ',M',τ',k1,k2,k7,k3,g5.trans k5,k8⟩
 | exit j =>
  obtain ⟨F',L',ρ',k1,k2,k3,k4,k5,k6,M',τ',k7,k8⟩:=hq
  exact hE j a' w' k4 ⟨F',L',ρ',M',τ',k1,k2,k7,k3,g5.trans k5,k8⟩
 | ret => obtain ⟨F',L',ρ',_,_,_,_,_,_,M',τ',_,h⟩:=hq; exact h.elim
 | goto l => exact hq.elim
 | panic ch =>
  obtain ⟨v,hch,F',L',k1,k2,k3,k4,k5,kp,hp,_⟩:=hq
  exact hP v ch a' w' hch k4 hp ⟨F',L',k1,g5.trans k2,kp⟩
 | outgrown => exact hq.elim
def hE (e:Int) (len i:Nat):TEnv:=tput (some 0) (.own 1000 0) (tput (some 1) (IC e) (tput (some 59) (IC len) (tput (some 60) (IC i) fun _ => .any)))
theorem relV_hE {F:Frz} {L:Loc} {ρ:Env} {τ:TEnv} {e:Int} {len i:Nat} (h:∀ j,RelV F L (τ j) (ρ j)) (h0:τ 0 = .own 1000 0) (h1:τ 1 = IC e) (h59:τ 59 = IC len) (h60:τ 60 = IC i):∀ j,RelV F L (hE e len i j) (ρ j):=by
 intro j
 by_cases e0:j = 0
 ·subst e0; have:=h 0; rw [h0] at this; exact this
 by_cases e1:j = 1
 ·subst e1; have:=h 1; rw [h1] at this; exact this
 by_cases e2:j = 59
 ·subst e2; have:=h 59; rw [h59] at this; exact this
 by_cases e3:j = 60
 ·subst e3; have:=h 60; rw [h60] at this; exact this
 have b0:Nat.beq j 0 = false:=beqF e0
 have b1:Nat.beq j 1 = false:=beqF e1
 have b2:Nat.beq j 59 = false:=beqF e2
 have b3:Nat.beq j 60 = false:=beqF e3
 simp only [hE,tput,b0,b1,b2,b3]
 trivial
theorem MS.weak {K:TK} {a:Act} {w:World} {M0:TL} {e:Int} {len i:Nat} (h:MS G F0 Li w0 K a w) (hK:∀ M τ,K M τ → HS M0 e len i M τ):MS G F0 Li w0 (fun M τ => M = M0 ∧ τ = hE e len i) a w:=by
 obtain ⟨F,L,ρ,M,τ,g1,g2,g3,g4,g5,hk⟩:=h
 obtain ⟨h1,h2,h3,h4,h5⟩:=hK M τ hk
 exact ⟨F,L,ρ,M,hE e len i,g1,g2,⟨g3.tl,relV_hE g3.env h2 h3 h4 h5,g3.kp,g3.glob⟩,g4,g5,h1,rfl⟩
theorem MS.mono {K K':TK} {a:Act} {w:World} (h:MS G F0 Li w0 K a w) (hK:∀ M τ,K M τ → K' M τ):MS G F0 Li w0 K' a w:=by
 obtain ⟨F,L,ρ,M,τ,g1,g2,g3,g4,g5,hk⟩:=h
 exact ⟨F,L,ρ,M,τ,g1,g2,g3,g4,g5,hK M τ hk⟩
theorem MS.int {K:TK} {a:Act} {w:World} {j:Nat} {x:Int} (h:MS G F0 Li w0 K a w) (hK:∀ M τ,K M τ → τ j = IC x):a.tmps.getD j undef = .int .i64 x:=by
 obtain ⟨F,L,ρ,M,τ,g1,g2,g3,g4,g5,hk⟩:=h
 have:=g3.env j
 rw [hK M τ hk] at this
 simp only [RelV,Rel] at this
 obtain ⟨v,h1,rfl,_⟩:=this
 rw [g2.eq j,h1]; rfl
theorem MS.bool {K:TK} {a:Act} {w:World} {j:Nat} {x:Bool} (h:MS G F0 Li w0 K a w) (hK:∀ M τ,K M τ → τ j = .bool x):a.tmps.getD j undef = .bool x:=by
 obtain ⟨F,L,ρ,M,τ,g1,g2,g3,g4,g5,hk⟩:=h
 have:=g3.env j
 rw [hK M τ hk] at this
 simp only [RelV,Rel] at this
 obtain ⟨v,h1,rfl⟩:=this
 rw [g2.eq j,h1]; rfl
theorem MS.wr {M0:TL} {e:Int} {len i:Nat} {a:Act} {w:World} {d:Nat} {v:Value} (h:MS G F0 Li w0 (fun M τ => M = M0 ∧ τ = hE e len i) a w) (hd:d < 72) (h0:d ≠ 0) (h1:d ≠ 1) (h2:d ≠ 59) (h3:d ≠ 60) :
  MS G F0 Li w0 (fun M τ => M = M0 ∧ τ = hE e len i) (a.put (some d) v) w:=by
 obtain ⟨F,L,ρ,M,τ,g1,g2,g3,g4,g5,rfl,rfl⟩:=h
 refine ⟨F,L,Fr.put (some d) (.v v) ρ,M,_,g1,g2.put (d:=some d) (x:=.v v) (fun k hk => by injection hk with hk; subst hk; omega) rfl noOwn noEl (fun k g ty cs e => ⟨cs,e⟩),⟨g3.tl,fun j => ?_,g3.kp,g3.glob⟩,by rw [size_put]; exact g4,g5,rfl,rfl⟩
 by_cases hj:j = d
 ·subst hj
  have b0:Nat.beq j 0 = false:=beqF h0
  have b1:Nat.beq j 1 = false:=beqF h1
  have b2:Nat.beq j 59 = false:=beqF h2
  have b3:Nat.beq j 60 = false:=beqF h3
  simp only [hE,tput,b0,b1,b2,b3]
  trivial
 ·have:Fr.put (some d) (.v v) ρ j = ρ j:=by
   have b:Nat.beq j d = false:=beqF hj
   simp only [Fr.put,b]
  rw [this]
  exact g3.env j
theorem MS.defers {K:TK} {a:Act} {w:World} {ds:List Deferred} (h:MS G F0 Li w0 K a w):MS G F0 Li w0 K { a with defers:=ds } w:=by
 obtain ⟨F,L,ρ,M,τ,g1,g2,g3,g4,g5,hk⟩:=h
 exact ⟨F,L,ρ,M,τ,g1,⟨g2.eq,g2.own,g2.el⟩,g3,g4,g5,hk⟩
theorem k12_eq:k12 = .region 12 #[{ dst:=some 68,op:=.move (.tmp 1),type:=45,pos:="unify.go:115",after:=#[],guard:=none },
  { dst:=some 69,op:=.build 98 #[(0,.tmp 68)],type:=98,pos:="unify.go:115",after:=#[{ on:=0,ground:=Ground.data }],guard:=none },
  { dst:=some 70,op:=.makeInterface 98 (.tmp 69),type:=20,pos:="unify.go:115",after:=#[{ on:=1,ground:=Ground.data }],guard:=none },
  { dst:=none,op:=.defer { callee:=.builtin .panic,args:=#[.tmp 70],argTypes:=#[20] },type:=0,pos:="unify.go:115",after:=#[{ on:=2,ground:=Ground.data }],guard:=none }] false:=by kernel_rfl
theorem wp12 {a:Act} {w:World} {e:Int} {Q:Exit → Act → World → Prop} (hsz:a.tmps.size = 72) (h1:a.tmps.getD 1 undef = .int .i64 e)
  (h:∀ x y z,Q .normal { (((a.put (some 68) x).put (some 69) y).put (some 70) z) with defers:=dpan (failV e) :: a.defers } w):k12.wp P Q a w:=by
 rw [k12_eq]
 apply wp_region
 have h1':a.tmps[1]?.getD undef = .int .i64 e:=by rw [← Array.getD_eq_getD_getElem?]; exact h1
 have h1'':∀ q:1 < a.tmps.size,a.tmps[1]'q = .int .i64 e:=fun q => by rw [Array.getElem?_eq_getElem q] at h1'; exact h1'
 simp [wpOps,go_sem,Region.wanted,hsz,h1',h1'',Array.getElem?_setIfInBounds]
 exact .inl (.inl (.inl (.inl (h (.int .i64 e) (.agg #[.int .i64 e]) (.iface 98 (.agg #[.int .i64 e]))))))
end
theorem formL_some {s:List Ty} {n:Nat}:∀ {N:Nat} {y:Option (Bool × DM × OM)},formL s n N = some y → ∀ i ≤ N,∃ x,formL s n i = some x
 | 0,y,h,i,hi => ⟨y,by rw [show i = 0 by omega]; exact h⟩
 | N + 1,y,h,i,hi => by
  by_cases e:i = N + 1
  ·exact ⟨y,by rw [e]; exact h⟩
  ·rw [formL] at h
   cases h1:formL s n N with
   | none => simp only [h1] at h; cases h
   | some x => exact formL_some h1 i (by omega)
theorem formL_none {s:List Ty} {n i:Nat} (h:formL s n i = some none):∀ k,formL s n (i + k) = some none
 | 0 => h
 | k + 1 => by rw [← Nat.add_assoc,formL,formL_none h k]
theorem formL_step {s:List Ty} {n i:Nat} {b:Bool} {d:DM} {o:OM} {y:Option (Bool × DM × OM)} (h:formL s n i = some (some (b,d,o))) (hy:formL s n (i + 1) = some y) :
  ∃ r1,deepF s n (vr i) d o = some r1 ∧ (r1 = none → y = none) ∧ ∀ k d' o',r1 = some (k,d',o') → y = some (b || decide (k > 8),d',o'):=by
 rw [formL] at hy
 simp only [h] at hy
 cases h2:deepF s n (vr i) d o with
 | none => simp only [h2] at hy; cases hy
 | some r1 =>
  refine ⟨r1,rfl,?_,?_⟩
  ·rintro rfl
   simp only [h2] at hy
   injection hy with hy; exact hy.symm
  ·rintro k d' o' rfl
   simp only [h2] at hy
   injection hy with hy; exact hy.symm
theorem fhead (PS:Value → Prop) (M0:TL) (e:Int) (len i:Nat):evalTC P ⟨PS,[]⟩ (.seq z9 zc) (fun j M τ => j = 2 ∧ ¬ i < len ∧ HS M0 e len i M τ) (fun _ _ => False) (fun M τ => i < len ∧ HS M0 e len i M τ) M0 (hE e len i):=by
 refine brn_p (fun h => ?_) (fun h => ?_)
 ·exact ⟨by omega,rfl,rfl,rfl,rfl,rfl⟩
 ·exact ⟨rfl,by omega,rfl,rfl,rfl,rfl,rfl⟩
theorem fnext (PS:Value → Prop) (M0:TL) (e:Int) (len i:Nat) (h:i + 1 ≤ 9223372036854775807):evalTC P ⟨PS,[]⟩ z13 (fun _ _ _ => False) (fun _ _ => False) (fun M τ => HS M0 e len (i + 1) M τ) M0 (hE e len i):=by
 refine Fit.in64 (by omega) (by omega) ?_
 exact ⟨rfl,rfl,rfl,rfl,rfl⟩
theorem fitU (s:List Ty) (PS:Value → Prop) (e:Int) (len i:Nat) (d:DM) (o:OM) (r1:Option (Int × DM × OM)) (hd:DpU s (vr i) d o (RDU s r1) (PD r1)) (hp:r1 = none → PS (failV 1)) :
  evalTC P ⟨PS,[]⟩ (.seq z10 z11) (fun _ _ _ => False) (fun _ _ => False) (fun M τ => ∃ k d' o',r1 = some (k,d',o') ∧ HS (MhU s d' o') e len i M τ ∧ τ 67 = .bool (decide (k > 8))) (MhU s d o) (hE e len i):=by
 refine callDU [1000,1001,10,11] hd rfl rfl rfl rfl rfl (fun v q => q.2 ▸ hp q.1) fun k d' o' e1 _ => ?_
 exact ⟨k,d',o',e1,⟨rfl,rfl,rfl,rfl,rfl⟩,rfl⟩
theorem fretU (s:List Ty) (d:DM) (o:OM) (R:List TO → C → Prop) (h:R (SUd s d o) (.tup [])):RetT (SU0 s) (MhU s d o) (.tup []) R :=
 retR [1000,1001,10,11] rfl rfl rfl rfl h
theorem fitF (s:List Ty) (PS:Value → Prop) (e:Int) (len i:Nat) (d:DM) (o:OM) (r1:Option (Int × DM × OM)) (hd:DpF s (vr i) d o (RDF s r1) (PD r1)) (hp:r1 = none → PS (failV 1)) :
  evalTC P ⟨PS,[]⟩ (.seq z10 z11) (fun _ _ _ => False) (fun _ _ => False) (fun M τ => ∃ k d' o',r1 = some (k,d',o') ∧ HS (MhF s d' o') e len i M τ ∧ τ 67 = .bool (decide (k > 8))) (MhF s d o) (hE e len i):=by
 refine callDF [1000,10,11] hd rfl rfl rfl rfl rfl (fun v q => q.2 ▸ hp q.1) fun k d' o' e1 _ => ?_
 exact ⟨k,d',o',e1,⟨rfl,rfl,rfl,rfl,rfl⟩,rfl⟩
theorem fretF (s:List Ty) (d:DM) (o:OM) (R:List TO → C → Prop) (h:R (SFd s d o) (.tup [])):RetT (SF0 s) (MhF s d o) (.tup []) R :=
 retR [1000,10,11] rfl rfl rfl rfl h
end Go.Fr.Try
