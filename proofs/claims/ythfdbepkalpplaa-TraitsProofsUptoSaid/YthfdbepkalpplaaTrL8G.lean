/- Part of the proofs of the statements of this seat. -/
import Derived.Test.YthfdbepkalpplaaTrW8G
import Derived.Test.YthfdbepkalpplaaTrP6G
import Derived.Test.YthfdbepkalpplaaTrCode2
import Derived.Test.YthfdbepkalpplaaFW3
import Derived.Test.YthfdbepkalpplaaTrIds
set_option maxRecDepth 10000
set_option linter.unusedVariables false
set_option linter.unusedSimpArgs false
namespace Go.Fr.Try
open Go Go.RowKit Go.Proofs Go.Fr Go.Fr.T Go.Fr.Api
def Ma (h g:cn):Bool:=decide (h.tr=g.tr)&&eqB h.t g.t
theorem PG (h g:cn):iw h g=Ma h g:=by rw[iw,Ma,Cl]
def zp (p:Prog) (b:List aR):Nat->List cn->Int->cn->pE
 | 0,_,c,_=>(.error 2,c+1)
 | n+1,d,c,g=>if c+1>400 then(.error 2,c+1) else if(d.any fun h=>Ma h g)=true then(.error 15,c+1) else
  if br (lJ g) b 0>=0 then(.ok (.mk true (br (lJ g) b 0) [] []),c+1) else
  match qC g p.impls 0 with
  | none=>(.error 9,c+1)
  | some (k,x,ts)=>match fV (zp p b n (d++[g])) (x.bounds.map (mJ ts)) (c+1) [] with
   | (.ok ps,a)=>(.ok (.mk false k ts ps),a)
   | (.error e,a)=>(.error e,a)
theorem CD (p:Prog) (a:List aR):∀n,cQ p a n=zp p a n
 | 0=>rfl
 | n+1=>by
  funext ab c g
  rw[cQ,zp,CD p a n];simp only[PG];rfl
theorem Hl {p:Prog}{a:List aR}{tr:Int}{t:Ty}{r:gS}(h:(match(zp p a 401 [] 0 ⟨tr,t⟩).1 with | .ok r=>some r | .error _=>none)=some r):iy p a tr t=(r,0):=by
 unfold iy;rw[CD];cases b:(zp p a 401 [] 0 ⟨tr,t⟩).1 with
 | ok c=>rw[b] at h;injection h with h;subst h;rfl
 | error e=>rw[b] at h;cases h
theorem Mb {p:Prog}{a:List aR}{tr:Int}{t:Ty}{e:Int}(h:(match(zp p a 401 [] 0 ⟨tr,t⟩).1 with | .ok _=>none | .error e=>some e)=some e):iy p a tr t=(zU,e):=by
 unfold iy;rw[CD];cases b:(zp p a 401 [] 0 ⟨tr,t⟩).1 with
 | ok d=>rw[b] at h;cases h
 | error c=>rw[b] at h;injection h with h;subst h;rfl
def i0:Impl:=⟨0,0,0,[],iT,0⟩
def i1:Impl:=⟨0,0,1,[⟨0,0⟩],bx (.mk 5 0 []),0⟩
def i2:Impl:=⟨0,0,0,[],bx iT,0⟩
def i3:Impl:=⟨0,1,0,[],.mk 4 0 [iT],0⟩
def pu (l:List Impl):Prog:=⟨[⟨#[109]⟩],[],[],[⟨#[116]⟩],[0],l,[],0⟩
theorem s1:iy (pu [i0,i1]) [] 0 (bx (bx iT))=(.mk false 1 [bx iT] [.mk false 1 [iT] [.mk false 0 [] []]],0):=Hl rfl
theorem s2:iy (pu [i0,i1]) [] 0 (.mk 4 0 [iT])=(zU,9):=Mb rfl
theorem s3:iy (pu [i0,i1]) [⟨2,0⟩] 0 (bx (.mk 5 2 []))=(.mk false 1 [.mk 5 2 []] [.mk true 0 [] []],0):=Hl rfl
theorem v0 (l:List Impl):gN (pu l) i0=true:=rfl
theorem v1 (l:List Impl):gN (pu l) i1=true:=rfl
theorem v2 (l:List Impl):gN (pu l) i2=true:=rfl
theorem v3 (l:List Impl):gN (pu l) i3=true:=rfl
theorem U4:zP i0 i1=false:=by
 refine(gM fun h=>?_).symm;rw[CA (kh (v0 [])) (kh (v1 [])) (cE rfl) (cE rfl)] at h;obtain⟨_,b,a,_,_,h,_⟩:=h;have:=xo Ty.kind h;rw[subst_eq,subst_eq,q9 (by intro q;exact vv q.1 (by decide)),q9 (by intro q;exact vv q.1 (by decide))] at this;exact vv (show(1:Int)=3 from this) (by decide)
theorem o02:zP i0 i2=false:=by
 refine(gM fun h=>?_).symm;rw[CA (kh (v0 [])) (kh (v2 [])) (cE rfl) (cE rfl)] at h;obtain⟨_,b,a,_,_,h,_⟩:=h;have:=xo Ty.kind h;rw[subst_eq,subst_eq,q9 (by intro q;exact vv q.1 (by decide)),q9 (by intro q;exact vv q.1 (by decide))] at this;exact vv (show(1:Int)=3 from this) (by decide)
theorem Yg:zP i1 i2=true:=by
 refine(oN ?_).symm;rw[CA (kh (v1 [])) (kh (v2 [])) (cE rfl) (cE rfl)];exact⟨rfl,[iT],[],rfl,rfl,rfl,by decide,fun x a=>by rw[abI.1 a];decide,fun x a=>by cases a⟩
theorem c01:D9 (pu [i0,i1])=(0,0,0):=by
 have h1:br (fun y=>zP y i1) [i0] 0=-1:=by
  show(if zP i0 i1=true then(0:Int) else br _ [] _)=-1;rw[U4];rfl
 show pD (pu [i0,i1]) [i0,i1] 0=_;rw[pD,q9 (by rw[v0];simp),q9 (by decide),q9 (by decide),pD,q9 (by rw[v1];simp),q9 (by decide)];rw[show(pu [i0,i1]).impls.take (0+1)=[i0] from rfl,h1,q9 (by decide)];rfl
theorem XB:D9 (pu [i0,i1,i2])=(10,1,2):=by
 have h1:br (fun y=>zP y i1) [i0] 0=-1:=by
  show(if zP i0 i1=true then(0:Int) else br _ [] _)=-1;rw[U4];rfl
 have a:br (fun y=>zP y i2) [i0,i1] 0=1:=by
  show(if zP i0 i2=true then(0:Int) else(if zP i1 i2=true then _ else br _ [] _))=1;rw[o02,Yg];rfl
 show pD (pu [i0,i1,i2]) [i0,i1,i2] 0=_;rw[pD,q9 (by rw[v0];simp),q9 (by decide),q9 (by decide),pD,q9 (by rw[v1];simp),q9 (by decide)];rw[show(pu [i0,i1,i2]).impls.take (0+1)=[i0] from rfl,h1,q9 (by decide),pD,q9 (by rw[v2];simp),q9 (by decide)];rw[show(pu [i0,i1,i2]).impls.take (0+1+1)=[i0,i1] from rfl,a,o5 (by decide)];rfl
theorem XC:D9 (pu [i0,i1,i3])=(9,2,2):=by
 have h1:br (fun y=>zP y i1) [i0] 0=-1:=by
  show(if zP i0 i1=true then(0:Int) else br _ [] _)=-1;rw[U4];rfl
 show pD (pu [i0,i1,i3]) [i0,i1,i3] 0=_;rw[pD,q9 (by rw[v0];simp),q9 (by decide),q9 (by decide),pD,q9 (by rw[v1];simp),q9 (by decide)];rw[show(pu [i0,i1,i3]).impls.take (0+1)=[i0] from rfl,h1,q9 (by decide),pD,q9 (by rw[v3];simp),o5 (by decide)];rfl
theorem t70:CallsT P 70 [] [] (aU [] (pq (pu [i0,i1]))):=by
 refine af Try.func70 Og rfl fun a _=>?_;refine bh SB rfl fun _=>?_;refine bh (U0 0) rfl fun _=>?_;refine bh (Rv 3 (.mk 5 0 [])) rfl fun _=>?_;exact aC rfl rfl
theorem XD:CallsT P 70 [] [] (aU [.row 56 8 [dF i0,dF i1]] (.agg [.sl [[.str ⟨#[109]⟩]],.sl [],.sl [],.sl [[.str ⟨#[116]⟩]],.sl [[IC 0]],.rw 1000,.sl [],IC 0])):=by
 refine af Try.func70 L9 rfl fun a _=>?_;refine bh SB rfl fun _=>?_;refine bh (U0 0) rfl fun _=>?_;refine bh (Rv 3 (.mk 5 0 [])) rfl fun _=>?_;exact bB [11] rfl rfl rfl rfl
theorem XE:CallsT P 34 [pq (pu [i0,i1]),.sl [],IC 0,aT (bx (bx iT))] [] (aU [] (.tup [.agg [.bool false,IC 1,.sl [aM (bx iT)],.sl [iq (.mk false 1 [iT] [.mk false 0 [] []])]],IC 0])):=by
 have:=U3 (pu [i0,i1]) [] 0 (bx (bx iT)) (by decide);rw[s1] at this;exact this
theorem XF:CallsT P 34 [pq (pu [i0,i1]),.sl [],IC 0,aT (.mk 4 0 [iT])] [] (aU [] (.tup [.agg [.bool false,IC 0,.sl [],.sl []],IC 9])):=by
 have:=U3 (pu [i0,i1]) [] 0 (.mk 4 0 [iT]) (by decide);rw[s2] at this;exact this
theorem XG:CallsT P 34 [pq (pu [i0,i1]),.sl [[IC 2,IC 0]],IC 0,aT (bx (.mk 5 2 []))] [] (aU [] (.tup [.agg [.bool false,IC 1,.sl [aM (.mk 5 2 [])],.sl [iq (.mk true 0 [] [])]],IC 0])):=by
 have:=U3 (pu [i0,i1]) [⟨2,0⟩] 0 (bx (.mk 5 2 [])) (by decide);rw[s3] at this;exact this
theorem U5 {l:List Impl}(h:∀x∈l,x=i0\/x=i1\/x=i2\/x=i3):∀x∈l,jl x.type/\cK x.type<=2 ^ 40:=fun x a=>by
 rcases h x a with rfl | rfl | rfl | rfl<;>exact⟨cE rfl,gH rfl⟩
theorem XH:CallsT P 40 [pq (pu [i0,i1])] [] (aU [] (.tup [IC 0,IC 0,IC 0])):=by
 have:=Xe (pu [i0,i1]) (U5 (l:=[i0,i1]) fun x a=>by simp at a;rcases a with rfl | rfl<;>simp);rw[c01] at this;exact this
theorem XI:CallsT P 40 [pq (pu [i0,i1,i2])] [] (aU [] (.tup [IC 10,IC 1,IC 2])):=by
 have:=Xe (pu [i0,i1,i2]) (U5 (l:=[i0,i1,i2]) fun x a=>by simp at a;rcases a with rfl | rfl | rfl<;>simp);rw[XB] at this;exact this
theorem XJ:CallsT P 40 [pq (pu [i0,i1,i3])] [] (aU [] (.tup [IC 9,IC 2,IC 2])):=by
 have:=Xe (pu [i0,i1,i3]) (U5 (l:=[i0,i1,i3]) fun x a=>by simp at a;rcases a with rfl | rfl | rfl<;>simp);rw[XC] at this;exact this
theorem Qz:Da P 40:=⟨Try.f40,Try.func40,by kernel_rfl,by kernel_rfl⟩
theorem QA {a b c:Int}{F F':au}{L L':Loc}{v:Value}(h:Rel F L (.tup [IC a,IC b,IC c]) v):Rel F' L' (.tup [IC a,IC b,IC c]) v:=by
 simp only[Rel,ax] at h ⊢;exact h
abbrev Yh:C:=.agg [.sl [[.str ⟨#[109]⟩]],.sl [],.sl [],.sl [[.str ⟨#[116]⟩]],.sl [[IC 0]],.rw 1000,.sl [],IC 0]
theorem XK:iD P 40 [Yh] [.row 56 8 [dF i0,dF i1,dF i2]] (aU [.row 56 8 [dF i0,dF i1,dF i2]] (.tup [IC 10,IC 1,IC 2])):=CallsT.aaI XI Qz QA
theorem XL:iD P 40 [Yh] [.row 56 8 [dF i0,dF i1,dF i3]] (aU [.row 56 8 [dF i0,dF i1,dF i3]] (.tup [IC 9,IC 2,IC 2])):=CallsT.aaI XJ Qz QA
theorem h35 (a:gS):CallsT P 35 [ku a,ku a] [] (aU [] (.bool true)):=by
 have:=t35 a a;rw[<-oN rfl] at this;exact this
theorem XM:CallsT P 32 [GZ i1,GZ i2] [] (aU [] (.bool true)):=by
 have:=t32 i1 i2 (cE rfl) (cE rfl) (gH rfl) (gH rfl);rw[LF,show zw (R6 i1 i2)=zP i1 i2 from rfl,Yg] at this;exact this
theorem XO:CallsT P 32 [GZ i0,GZ i1] [] (aU [] (.bool false)):=by
 have:=t32 i0 i1 (cE rfl) (cE rfl) (gH rfl) (gH rfl);rw[LF,show zw (R6 i0 i1)=zP i0 i1 from rfl,U4] at this;exact this
theorem h37:CallsT P 37 [pq (pu [i0,i1]),.sl [],IC 0,aT (bx iT),ku (.mk false 1 [iT] [.mk false 0 [] []])] [] (aU [] (.bool true)) :=
 Xu (pu [i0,i1]) [] (fun x a=>(U5 (l:=[i0,i1]) (fun x a=>by simp at a;rcases a with rfl | rfl<;>simp) x a).1) (.mk false 1 [iT] [.mk false 0 [] []]) 0 (bx iT)
theorem U6:CallsT P 14 [pq (pu [i0,i1]),IC 1,aT (bx (.mk 5 0 []))] [] (aU [] (.bool true)):=XU 1 (pu [i0,i1]) (bx (.mk 5 0 [])) (gH rfl)
set_option maxRecDepth 100000 in
theorem t29:CallsT P 29 [] [] (aU [] (.bool true)):=by
 refine af Try.func29 L5 rfl fun a _=>?_;refine bh t70 rfl fun _=>?_;refine bh SB rfl fun _=>?_;refine bh (Rv 3 iT) rfl fun _=>?_;refine bL (Rv 3 (bx iT)) rfl fun _=>?_;refine bL XE rfl fun _=>?_;refine bL SB rfl fun _=>?_;refine bL (Rv 4 iT) rfl fun _=>?_;refine bL XF rfl fun _=>?_;refine bL (U0 2) rfl fun _=>?_;refine bL (Rv 3 (.mk 5 2 [])) rfl fun _=>?_;refine bL XG rfl fun _=>?_;refine bh XH rfl fun _=>?_;refine callO [] [5000] XD rfl rfl rfl rfl rfl fun _ _=>?_;refine rH 2 rfl rfl (by decide) (by decide) ?_;refine Cz [5000] XK rfl rfl rfl rfl rfl ?_;refine bL SB rfl fun _=>?_;refine bL (Rv 4 iT) rfl fun _=>?_;refine FH.mk (by decide) (by decide) ?_;refine⟨rfl,GF (show[dF i0,dF i1,dF i2][2]?=some (dF i2) from rfl) rfl ?_⟩;refine Cz [5000] XL rfl rfl rfl rfl rfl ?_;refine bh SB rfl fun _=>?_;refine bL (h35 (.mk false 1 [bx iT] [.mk false 1 [iT] [.mk false 0 [] []]])) rfl fun _=>?_;refine bL (U0 2) rfl fun _=>?_;refine bL (h35 (.mk false 1 [.mk 5 2 []] [.mk true 0 [] []])) rfl fun _=>?_;refine EW (show(pu [i0,i1]).impls[1]?=some i1 from rfl) rfl rfl ?_;refine bL XM rfl fun _=>?_;refine EW (show(pu [i0,i1]).impls[0]?=some i0 from rfl) rfl rfl ?_;refine EW (show(pu [i0,i1]).impls[1]?=some i1 from rfl) rfl rfl ?_;refine bL XO rfl fun _=>?_;refine bL h37 rfl fun _=>?_;refine EW (show(pu [i0,i1]).impls[1]?=some i1 from rfl) rfl rfl ?_;refine bL U6 rfl fun _=>?_;exact aC rfl rfl
end Go.Fr.Try

