/- Part of the proofs of the statements of this seat. -/
import Derived.Test.YtnlegbokpofcaaaGreatDoorSpR11G
import Derived.Test.YtnlegbokpofcaaaGreatDoorSpE8G
import Derived.Test.YtnlegbokpofcaaaGreatDoorSpR6G
set_option maxRecDepth 10000
set_option linter.unusedVariables false
set_option linter.unusedSimpArgs false
namespace Go.Fr.Tryz
open Go Go.Fr.T
theorem tC {s t:WS}{x:Int}(h:uT s x t):(-4398046511104<=x/\x<=4398046511104)/\t.1.length<=s.1.length:=by
 obtain⟨p,b⟩:=s;cases b with
 | true=>obtain⟨rfl,rfl⟩:=h.2 rfl;exact⟨by omega,ac4 _⟩
 | false =>
  rcases h.1 rfl with⟨r,d,rfl⟩ | ⟨_,rfl,_,e⟩
  ·obtain⟨c,a⟩:=j6 d;exact⟨c,Nat.le_of_lt a⟩
  ·exact⟨by omega,e⟩
theorem nV {r:List UInt8}{n x:Int}{t:WS}(h:uT (bN (zz n)++r,false) x t) (b:-1099511627776<=n) (c:n<=1099511627776):x=n/\t=(r,false):=by
 have a:=ju n r b c;rcases h.1 rfl with⟨d,e,rfl⟩ | ⟨e,_⟩
 ·rw[a] at e;injection e with e
  injection e with e1 e2
  exact⟨e1.symm,by rw[e2]⟩
 ·rw[a] at e;cases e
theorem Oj {s t:WS}{x:Int}(h:uT s x t) (hb:s.2=true):t.2=true:=by
 obtain⟨_,rfl⟩:=h.2 hb;exact hb
theorem aco {d:List UInt8}{k f:Int}{h a:WS}(l:uT (d,false) k h) (e:uT h f a):(a.2=true/\p8 d=none)\/(a.2=false/\p8 d=some ((k,f),a.1)):=by
 rcases l.1 rfl with⟨r,c,rfl⟩ | ⟨c,rfl,m,_⟩
 ·have j:p8 d=_:=aD c;rcases e.1 rfl with⟨o,b,rfl⟩ | ⟨b,_,n,_⟩
  ·exact .inr ⟨rfl,j.trans (aD b)⟩
  ·exact .inl ⟨n,j.trans (bn b)⟩
 ·exact .inl ⟨Oj e m,bn c⟩
theorem X9 {a o d:List UInt8}(ha:a.length<=268435456) (z:o.length<=268435456) (c:d=cI a o) {u s n x f:Int}{m j t3 h k:WS}(l:uT (d,false) u m) (q:uT m s j) (y:uT j n t3) (t:uT t3 x h) (w:uT h f k) :
  k=(ri o (-1) (gT a o),false)/\n=(o.length:Int)/\f=((gT a o).length:Int)/\(gT a o).length<=d.length:=by
 have e:cI a o=bN (zz (a.length:Int))++(bN (zz (jw a))++(bN (zz (o.length:Int))++(bN (zz (jw o))++(bN (zz ((gT a o).length:Int))++ri o (-1) (gT a o))))):=by
  simp only[cI,p7,lR,acM,acX]
 have p:(gT a o).length<=268435456:=by have:=yI a o;unfold dG at this;omega
 have r:=js a;have v:=js o;have hs:=DG o (-1) (gT a o);have b:d.length=(cI a o).length:=by rw[c]
 rw[e] at c;rw[e] at b;simp only[yo] at b;rw[c] at l;obtain⟨rfl,rfl⟩:=nV l (by omega) (by omega);obtain⟨rfl,rfl⟩:=nV q (by omega) (by omega);obtain⟨rfl,rfl⟩:=nV y (by omega) (by omega);obtain⟨rfl,rfl⟩:=nV t (by omega) (by omega);obtain⟨rfl,rfl⟩:=nV w (by omega) (by omega);exact⟨rfl,rfl,rfl,by omega⟩
def PI (o:List UInt8) (m:Nat) (p:Int) (t:WS) (out:List UInt8):Prop :=
 ∃l:List Nat,m=l.length/\t=(ri o p l,false)/\Up p l/\(∀i∈l,i<dG o.length)/\out.length=o.length/\∀i<dG o.length,i∉l->cJ out i=cJ o i
theorem R7 (a:List UInt8) (n:Nat):uR a n=a.take n++List.replicate (n-a.length) 0:=by
 unfold uR jM;have h:(a.take n).length=min n a.length:=ac2;simp only[List.take_zero,acX,Nat.zero_add,h,List.drop_replicate];rw[show n-min n a.length=n-a.length by omega]
theorem Ol (a o:List UInt8):PI o (gT a o).length (-1) (ri o (-1) (gT a o),false) (uR a o.length) :=
 ⟨gT a o,rfl,rfl,ND a o,fun i hi=>wM hi,p9 a o.length,fun i hi b=>by
  refine Cv a o i ?_;have:¬(nN a o i=true):=fun h=>b (by simp only[gT,List.mem_filter,List.mem_range];exact⟨hi,h⟩);simpa[nN] using this⟩
theorem V6 {o out:List UInt8}{p:Int}{t:WS}(h:PI o 0 p t out):out=o:=by
 obtain⟨l,e,_,_,_,a,h⟩:=h;have:l=[]:=ade e.symm;subst this;exact Cu a fun i hi=>h i hi (by simp)
theorem R8 {o out:List UInt8}{m:Nat}{p x:Int}{t a:WS}(h:PI o (m+1) p t out) (ho:o.length<=268435456) (v:-1<=p) (aa:p<=1073741824) (q:uT t x a) :
  a.2=false/\0<=p+x/\32*(p+x)<o.length/\min 32 (o.length-32*(p+x).toNat)<=a.1.length /\
   PI o m (p+x) (a.1.drop (min 32 (o.length-32*(p+x).toNat)),false) (jM out (32*(p+x).toNat) (a.1.take (min 32 (o.length-32*(p+x).toNat)))):=by
 obtain⟨l,e,rfl,n,k,f,h⟩:=h;cases l with
 | nil=>simp at e
 | cons i l =>
  have c:=k i (by simp);have hi:=yL c;have w:dG o.length<=268435456:=by unfold dG;omega
  have r:p<(i:Int):=n.1;have z:ri o p (i::l)=bN (zz ((i:Int)-p))++(cJ o i++ri o i l):=by simp only[ri,acM]
  rw[z] at q;obtain⟨rfl,rfl⟩:=nV q (by omega) (by omega);have y:p+((i:Int)-p)=i:=by omega
  rw[y,show((i:Int)).toNat=i from rfl];have s:min 32 (o.length-32*i)=(cJ o i).length:=(iH o i).symm;rw[s];simp only[List.take_left',List.drop_left'];refine⟨trivial,by omega,by omega,by rw[yo];omega,l,by simpa using e,rfl,n.2,fun j b=>k j (by simp[b]),?_,fun j b u=>?_⟩
  ·rw[mR (by have:=iH o i;omega),f]
  ·rw[FJ f hi];split
   ·rename_i e;rw[e]
   ·rename_i d;exact h j b (by simp[d,u])
theorem acp {a d r:List UInt8}{c b:Int}(f:p8 d=some ((c,b),r)) (j:c=a.length) (u:b=jw a) (l:∀o,o.length<=a.length+d.length->d=cI a o->False):oC a d=([],16):=by
 unfold oC;rw[f];simp only[];rw[s8 (fun k=>k.elim (fun k=>k j) (fun k=>k u))];split
 ·rename_i out z e;split
  ·rename_i m;have v:r.length<=d.length:=by
    obtain⟨q,x,n,h⟩:=lz f;obtain⟨s,p,t,h⟩:=lz h;have y:=(j6 n).2;have w:=(j6 t).2;have h:some ((q,s),p)=some ((c,b),r):=h;injection h with h;injection h with _ h
    rw[<-h];omega
   have:=FI e;exact(l out (by omega) m.symm).elim
  ·rfl
 ·rfl
end Go.Fr.Tryz
namespace Go.Fr.Tryz
open Go Go.RowKit Go.Proofs Go.Fr Go.Fr.T Go.Fr.Api Go.Fr.Dm
theorem Wl (a:Nat) {f:Nat}{args:List C}{L:TL}{ρ:bg}{K:TL->bg->C->Prop}(s:WS) (hb:s.1.length<=Bs) (l:f=39) (b:L.sub [a]=some (RR s))
  (j:(T.bR [a]&&T.lN L [a] [a]&&aY (RR s) [a] [a])=true) (e:(args.map fun c=>c.abk.ren (cn [a] 1000))=[.own 1000 0])
  (k:∀x t,uT s x t->K ((L.aa7 [a]).puts [a] (RR t)) ρ (IC x)):nA PZ f args L ρ K:=by
 subst l;refine cO [a] (X4 s hb) b j e rfl ?_;rintro v Mo ⟨x,t,rfl,rfl,h⟩ m d;refine⟨rfl,?_⟩;rw[show rowsOf L [a]=[] from Jm b];exact k x t h
theorem Ya {bs:List UInt8}{els news:List (List C)}{K:Prop}(n:Nat) (hb:news=ah bs) (a:els.length=n) (h:n+bs.length<=140737488355328) (k:K):uE els news 1 1 K:=by
 subst hb;exact m9 n a h k
theorem R9 (out:List UInt8) (off:Nat):jM out off []=out:=by simp[jM]
theorem Ks {l:List UInt8}{j:Nat}(h:j<l.length):∃c,(ah l)[j]?=some [iX c]:=⟨l[j],by simp[ah,h]⟩
theorem Sb {out b:List UInt8}{off j:Nat}{c:UInt8}(d:b[j]?=some c) (h:off+j<out.length):(ah (jM out off (b.take j))).set (off+j) [iX c]=ah (jM out off (b.take (j+1))):=by
 have m:j<b.length:=(acP.1 d).1;have a:(b.take j).length=j:=by rw[ac2];omega
 have l:(b.take (j+1)).length=j+1:=by rw[ac2];omega
 have k:b.take (j+1)=b.take j++[c]:=by rw[List.take_add_one,d];rfl
 have f:out.drop (off+j)=out[off+j]::out.drop (off+j+1):=adG h;have e:(out.take off).length=off:=by rw[ac2];omega
 unfold jM;rw[a,l,k,f,<-acM,acM (out.take off++b.take j)];simp only[ah,adm,acU,adA];rw[List.set_append,s8 (by simp only[yo,ac1,e,a];omega)];simp only[yo,ac1,e,a,Nat.sub_self,List.set_cons_zero,acM,acW,acX];rfl
set_option maxRecDepth 20000 in
theorem t13 (a d:List UInt8) (ha:a.length<=100000000) (hb:d.length<=100000000) :
  CallsT PZ 13 [.sl (ah a),.sl (ah d)] [] (gL [] (.tup [.sl (ah (oC a d).1),IC (oC a d).2])):=by
 have am:(ah a).length=a.length:=aG;have dl:(ah d).length=d.length:=aG;have q1:=@NI a d;have q2:=@NJ a d;have q3:=@acp a d;have q4:∀o,o.length<=268435456->d=cI a o->oC a d=(o,0):=fun o m f=>by rw[f];exact xJ a o (by omega) m
 have ce:=Yl a;generalize oC a d=pd at q1 q2 q3 q4 ⊢;refine au Tryz.func13 PF rfl fun hw dq=>?_;refine Wl 18 (d,false) (show d.length<=70368744177664 by omega) rfl rfl rfl rfl fun x1 t1 w=>?_;have l1:=(tC w).2;refine Wl 18 t1 (show t1.1.length<=70368744177664 by simp only at l1;omega) rfl rfl rfl rfl fun x2 t2 h2=>?_;have l2:=(tC h2).2;have hr:∀R:List UInt8×Int,pd=R->∀v:C,v.abF.ren (cn [] 1000)=.tup [.sl (ah R.1),IC R.2]->v.abF.ren (cn [] 1000)=.tup [.sl (ah pd.1),IC pd.2]:=fun R h v e=>by rw[h];exact e
 rcases aco w h2 with⟨z,e2⟩ | ⟨z,e2⟩
 ·obtain⟨p2,b2⟩:=t2;have z:b2=true:=z;subst z;exact aM rfl (hr _ (q1 e2) _ rfl)
 obtain⟨p2,b2⟩:=t2;have z:b2=false:=z;subst z;refine aj (fun b0=>?_) (fun b0=>?_)
 ·have b0:(!decide (x1=((ah a).length:Int)))=true:=b0;have b0:x1≠a.length:=by rw[am] at b0;simpa using b0
  exact aM rfl (hr _ (q2 e2 (.inl b0)) _ rfl)
 have b0:(!decide (x1=((ah a).length:Int)))=false:=b0;have b0:x1=a.length:=by rw[am] at b0;simpa using b0
 refine bM ce rfl fun _=>?_;refine aj (fun b1=>?_) (fun b1=>?_)
 ·have b1:(!decide (x2=jw a))=true:=b1;exact aM rfl (hr _ (q2 e2 (.inr (by simpa using b1))) _ rfl)
 have b1:(!decide (x2=jw a))=false:=b1;have b1:x2=jw a:=by simpa using b1
 simp only at l1 l2;have q3:=fun h=>q3 e2 b0 b1 h;refine Wl 18 (p2,false) (show p2.length<=70368744177664 by omega) rfl rfl rfl rfl fun x3 t3 h3=>?_;have l3:_/\t3.1.length<=p2.length:=tC h3;refine Wl 18 t3 (show t3.1.length<=70368744177664 by omega) rfl rfl rfl rfl fun x4 t4 h4=>?_;have l4:_/\t4.1.length<=t3.1.length:=tC h4;refine Wl 18 t4 (show t4.1.length<=70368744177664 by omega) rfl rfl rfl rfl fun x5 t5 h5=>?_;have l5:_/\t5.1.length<=t4.1.length:=tC h5;have hH:∀o,o.length<=a.length+d.length->d=cI a o->t5=(ri o (-1) (gT a o),false)/\x3=(o.length:Int)/\x5=((gT a o).length:Int)/\(gT a o).length<=d.length :=
  fun o m f=>X9 (by omega) (by omega) f w h2 h3 h4 h5
 obtain⟨p5,b5⟩:=t5;cases b5 with
 | true=>exact aM rfl (hr _ (q3 fun o m f=>by have:=(hH o m f).1;injection this with _ h;cases h) _ rfl)
 | false =>
 refine aF (fun g=>?_) (fun g=>?_)
 ·have g:x3<0:=g;exact aM rfl (hr _ (q3 fun o m f=>by have:=(hH o m f).2.1;omega) _ rfl)
 have g3:¬x3<0:=g;refine bf ?_;refine aF (fun g=>?_) (fun g=>?_)
 ·have g:x3>((ah a).length:Int)+((ah d).length:Int):=g;exact aM rfl (hr _ (q3 fun o m f=>by have:=(hH o m f).2.1;omega) _ rfl)
 have du:¬x3>((ah a).length:Int)+((ah d).length:Int):=g;refine aF (fun g=>?_) (fun g=>?_)
 ·have g:x5<0:=g;exact aM rfl (hr _ (q3 fun o m f=>by have:=(hH o m f).2.2.1;omega) _ rfl)
 have g5:¬x5<0:=g;refine aF (fun g=>?_) (fun g=>?_)
 ·have g:x5>((ah d).length:Int):=g;exact aM rfl (hr _ (q3 fun o m f=>by have:=(hH o m f).2.2;omega) _ rfl)
 have dj:¬x5>((ah d).length:Int):=g;obtain⟨sz,rfl⟩:∃n:Nat,x3=n:=Int.eq_ofNat_of_zero_le (by omega);obtain⟨n,rfl⟩:∃n:Nat,x5=n:=Int.eq_ofNat_of_zero_le (by omega);have eb:sz<=a.length+d.length:=by omega
 have hn:n<=d.length:=by omega
 have l5:p5.length<=d.length:=by have:=l5.2;simp only at this;omega
 have wf:∀k:Nat,k<=1073741824->(Lit.int .i64 (k:Int)).wf=true:=by
  intro k hk;simp[Lit.wf,IntKind.min,IntKind.max,IntKind.bits,IntKind.signed];omega
 have m1:(if((ah a).length:Int)<(sz:Int) then((ah a).length:Int) else(sz:Int))=((min sz a.length:Nat):Int):=by
  rw[am];split<;>omega
 have m2:(if((ah a).length:Int)<(sz:Int) then((ah a).length:Int) else(sz:Int))<=((ah a).length:Int):=by rw[m1,am];omega
 have m3:0<=(if((ah a).length:Int)<(sz:Int) then((ah a).length:Int) else(sz:Int)):=by rw[m1];omega
 have m4:((ah a).drop (0:Int).toNat).take ((if((ah a).length:Int)<(sz:Int) then((ah a).length:Int) else(sz:Int)).toNat-(0:Int).toNat)=ah (a.take sz):=by
  rw[m1,dI];congr 1;show(a.drop 0).take (min sz a.length-0)=a.take sz;rw[List.drop_zero,Nat.sub_zero,Nat.min_comm,List.take_eq_take_iff];omega
 have bz:(a.take sz).length=min sz a.length:=ac2;refine⟨(j3 (fun q=>(Lit.int .i64 q).wf) m1).trans (wf _ (by omega)),?_⟩;refine tF.mk (ac9 0) m3 m2 dM ?_;refine Ya (bs:=a.take sz) 0 m4 rfl (by omega) ?_;refine vv.mk ⟨Nat,0,fun y=>y<=sz-a.length,[11],fun _=>[.rw 70],fun y=>[(18,.box 95 [.sl (ah p5),.bool false]),(70,.row 5 1 (ah (a.take sz++List.replicate y 0)))],fun y=>sz-y,
  adg _,⟨af rfl,trivial⟩,⟨bJ,.inl ⟨_,rfl,.inl ⟨j3 (TO.row 5 1) ((j3 ([]++·) m4).trans (by simp)),rfl⟩⟩,trivial⟩,fun _=>rfl,fun _=>rfl,?_⟩
 intro y hy _ _;have hy:y<=sz-a.length:=hy;have bB:(ah (a.take sz++List.replicate y 0)).length=min sz a.length+y:=by rw[aG,yo,bz,adw]
 refine aF (fun g=>?_) (fun g=>?_)
 ·have g:((ah (a.take sz++List.replicate y 0)).length:Int)<sz:=g;have hz:ah (a.take sz++List.replicate y 0)++[[C.int .u8 0]]=ah (a.take sz++List.replicate (y+1) 0):=by
   rw[show([[C.int .u8 0]]:List (List C))=ah [0] from rfl,Hw,acM,<-List.replicate_succ']
  refine Ya (bs:=[0]) (min sz a.length+y) rfl bB (by simp;omega) ?_;refine⟨y+1,by show y+1<=sz-a.length;omega,⟨af rfl,trivial⟩,⟨bJ,.inl ⟨_,rfl,.inl ⟨j3 (TO.row 5 1) hz,rfl⟩⟩,trivial⟩,by show sz-(y+1)<sz-y;omega⟩
 have g:¬((ah (a.take sz++List.replicate y 0)).length:Int)<sz:=g;have ch:a.take sz++List.replicate y 0=uR a sz:=by rw[R7];congr 2;omega
 have ca:∀o,o.length<=a.length+d.length->d=cI a o->sz=o.length/\PI o n (-1) (p5,false) (uR a sz):=fun o m f=>by
  obtain⟨g1,g2,g3,_⟩:=hH o m f;have e1:sz=o.length:=by omega
  have e2:n=(gT a o).length:=by omega
  refine⟨e1,?_⟩;rw[g1,e1,e2];exact Ol a o
 refine aP n 13 [12,11] ((p5,(-1:Int),uR a sz):List UInt8×Int×List UInt8) (fun x=>[IC x.2.1,.rw 70]) (fun x=>[(18,.box 95 [.sl (ah x.1),.bool false]),(70,.row 5 1 (ah x.2.2))])
  (fun k x=>(-1<=x.2.1/\x.2.1<=1073741824)/\x.2.2.length=sz/\x.1.length<=d.length/\∀o,o.length<=a.length+d.length->d=cI a o->sz=o.length/\PI o (n-k) x.2.1 (x.1,false) x.2.2)
  ⟨⟨(by decide:(-1:Int)<=-1),(by decide:(-1:Int)<=1073741824)⟩,p9 a sz,l5,ca⟩ (af rfl) ⟨af rfl,af rfl,trivial⟩
  ⟨bJ,.inl ⟨_,rfl,.inl ⟨j3 (fun q=>TO.row 5 1 (ah q)) ch,rfl⟩⟩,trivial⟩ ?_
 rintro k ⟨r,p,out⟩ hk ⟨⟨ar,aE⟩,ap,bj,hP⟩ _ _ cz;have ar:-1<=p:=ar;have aE:p<=1073741824:=aE;have ap:out.length=sz:=ap;have bj:r.length<=d.length:=bj;have hP:∀o,o.length<=a.length+d.length->d=cI a o->sz=o.length/\PI o (n-k) p (r,false) out:=hP;refine aF (fun ay=>?_) (fun bo=>?_)
 ·have ay:k<n:=by omega
  refine Wl 18 (r,false) (show r.length<=70368744177664 by omega) rfl rfl rfl rfl fun x t hx=>?_;have lx:_/\t.1.length<=r.length:=tC hx;have hS:∀o,o.length<=a.length+d.length->d=cI a o->sz=o.length/\_:=fun o m f=>⟨(hP o m f).1,R8 (by have:=(hP o m f).2;rwa [show n-k=(n-(k+1))+1 by omega] at this) (by omega) ar aE hx⟩;refine bf ?_;obtain⟨b,bd⟩:=t;cases bd with
  | true=>exact aM rfl (hr _ (q3 fun o m f=>by have:=(hS o m f).2.1;cases this) _ rfl)
  | false =>
  have lx:_/\b.length<=r.length:=lx;refine aF (fun g=>?_) (fun g=>?_)
  ·have g:p+x<0:=g;exact aM rfl (hr _ (q3 fun o m f=>by have:=(hS o m f).2.2.1;omega) _ rfl)
  have g1:¬p+x<0:=g;obtain⟨q,hq⟩:∃q:Nat,p+x=q:=Int.eq_ofNat_of_zero_le (by omega);refine bf ?_;refine aF (fun g=>?_) (fun g=>?_)
  ·have g:32*(p+x)>=(sz:Int):=g;exact aM rfl (hr _ (q3 fun o m f=>by have:=(hS o m f).2.2.2.1;have:=(hS o m f).1;omega) _ rfl)
  have g2:¬32*(p+x)>=(sz:Int):=g;refine bf ?_;refine bf ?_;obtain⟨u,an⟩:∃u,min 32 (sz-32*q)=u:=⟨_,rfl⟩;have mm:(if(sz:Int)-32*(p+x)<32 then(sz:Int)-32*(p+x) else 32)=(u:Int):=by
   rw[<-an];split<;>omega
  refine⟨(j3 (fun q=>(Lit.int .i64 q).wf) mm).trans (wf _ (by omega)),?_⟩;have ag:(ah b).length=b.length:=aG;refine aF (fun g=>?_) (fun g=>?_)
  ·have g:((ah b).length:Int)<(if(sz:Int)-32*(p+x)<32 then(sz:Int)-32*(p+x) else 32):=g;rw[mm,ag] at g;exact aM rfl (hr _ (q3 fun o m f=>by
    have w:=(hS o m f).2.2.2.2.1;have h2:=(hS o m f).1;rw[hq,show((q:Int)).toNat=q from rfl,<-h2,an] at w;have w:u<=b.length:=w;omega) _ rfl)
  have g3:¬((ah b).length:Int)<(if(sz:Int)-32*(p+x)<32 then(sz:Int)-32*(p+x) else 32):=g;rw[mm,ag] at g3;have dx:u<=b.length:=by omega
  have dB:32*q+u<=sz:=by omega
  refine bf ?_;refine bf ?_;refine⟨(j3 (fun q=>(Lit.int .i64 q).wf) mm).trans (wf _ (by omega)),?_⟩;have bm:∀j,j<=u->(jM out (32*q) (b.take j)).length=sz:=fun j hj=>by
   rw[mR (by rw[ac2];omega),ap]
  refine aP u 15 [11] (0:Nat) (fun _=>[.rw 70]) (fun j=>[(18,.box 95 [.sl (ah b),.bool false]),(70,.row 5 1 (ah (jM out (32*q) (b.take j))))]) (fun j s=>s=j) rfl (af rfl) ⟨af rfl,trivial⟩
   ⟨bJ,.inl ⟨_,rfl,.inl ⟨j3 (fun q=>TO.row 5 1 (ah q)) (R9 out _).symm,rfl⟩⟩,trivial⟩ ?_
  rintro j s hj hs _ _ _;have hs:s=j:=hs;subst hs;refine aF (fun hl=>?_) (fun hl=>?_)
  ·have hl:(s:Int)<(if(sz:Int)-32*(p+x)<32 then(sz:Int)-32*(p+x) else 32):=hl;rw[mm] at hl;have az:s<u:=by omega
   obtain⟨c,hc⟩:∃c,b[s]?=some c:=⟨b[s]'(by omega),w8 _⟩;have be:=bm s (by omega);have cc:(ah (jM out (32*q) (b.take s))).length=sz:=aG.trans be;refine bf ?_;refine bf ?_;refine ER hc ?_;have dy:32*(p+x)+(s:Int)=((32*q+s:Nat):Int):=by omega
   obtain⟨c',bk⟩:=Ks (l:=jM out (32*q) (b.take s)) (j:=32*q+s) (by omega);have ad:(32*(p+x)+(s:Int)).toNat=32*q+s:=by omega
   have bi:=Sb (out:=out) (off:=32*q) hc (by omega);refine⟨by show 0<=32*(p+x)+(s:Int);omega,by show 32*(p+x)+(s:Int)<((ah (jM out (32*q) (b.take s))).length:Int);rw[cc];omega,?_⟩;refine⟨rfl,K7.mk ⟨[iX c'],(j3 (fun j=>(ah (jM out (32*q) (b.take s)))[j]?) ad).trans bk,rfl,?_⟩⟩;intro es aw;have aw:es=[iX c']:=by
    have w:=(j3 (fun j=>(ah (jM out (32*q) (b.take s)))[j]?) ad).symm.trans aw;rw[bk] at w;injection w with w
    exact w.symm
   subst aw;refine bf ?_;refine⟨(s+1,s+1),⟨by show s+1<=u;omega,rfl⟩,⟨aR,af rfl,trivial⟩,⟨bJ,.inl ⟨_,rfl,.inl ⟨j3 (TO.row 5 1) ?_,rfl⟩⟩,trivial⟩,aS az⟩;refine Eq.trans ?_ bi;rw[<-ad];rfl
  ·have hl:¬(s:Int)<(if(sz:Int)-32*(p+x)<32 then(sz:Int)-32*(p+x) else 32):=hl;rw[mm] at hl;have az:s=u:=by omega
   have n1:0<=(if(sz:Int)-32*(p+x)<32 then(sz:Int)-32*(p+x) else 32):=by rw[mm];omega
   have n2:(if(sz:Int)-32*(p+x)<32 then(sz:Int)-32*(p+x) else 32)<=((ah b).length:Int):=by rw[mm,ag];omega
   have n3:((ah b).drop (if(sz:Int)-32*(p+x)<32 then(sz:Int)-32*(p+x) else 32).toNat).take (((ah b).length:Int).toNat-(if(sz:Int)-32*(p+x)<32 then(sz:Int)-32*(p+x) else 32).toNat)=ah (b.drop u):=by
    rw[mm,dI,ag];congr 1;show(b.drop u).take (b.length-u)=b.drop u;rw[adv (by rw[ads];omega)]
   refine tF.mk n1 n2 (ac9 _) dM ?_;refine bf ?_;refine⟨(k+1,(b.drop u,p+x,jM out (32*q) (b.take u))),⟨ay,⟨by show -1<=p+x;omega,by show p+x<=1073741824;omega⟩,bm u (ac4 _),by show(b.drop u).length<=d.length;rw[ads];omega,fun o m f=>⟨(hS o m f).1,?_⟩⟩,
    ⟨aR,af rfl,af rfl,trivial⟩,⟨.inl ⟨_,rfl,.inl ⟨j3 (fun q=>TO.box 95 [.sl q,.bool false]) n3,rfl⟩⟩,.inl ⟨_,rfl,.inl ⟨j3 (fun s=>TO.row 5 1 (ah (jM out (32*q) (b.take s)))) az,rfl⟩⟩,trivial⟩,aS ay⟩
   have w:=(hS o m f).2.2.2.2.2;have h2:=(hS o m f).1;rw[hq,show((q:Int)).toNat=q from rfl,<-h2,an] at w;rw[hq];exact w
 ·have bo:k=n:=by omega
  subst bo;have hD:=(t19 a out (by omega) (by omega)).give;refine fP.mk ⟨d,rfl,?_⟩;refine cR hD rfl fun _=>?_;refine fP.mk ⟨cI a out,rfl,?_⟩;refine aj (fun h5=>?_) (fun h5=>?_)
  ·refine aM rfl (hr _ (q3 fun o m f=>?_) _ rfl);have w:=(hP o m f).2;rw[Nat.sub_self] at w;have:=V6 w;rw[fL] at h5;rw[this] at h5;simp[f] at h5
  ·exact aM rfl (hr _ (q4 out (by omega) (by rw[fL] at h5;exact(by simpa using h5:cI a out=d).symm)) _ rfl)
set_option maxRecDepth 20000 in
theorem t3a (i j k:uQ) (x y:Wd) (bs cs:List UInt8) (p q:List (List C)) (m:Int) (u:Wd) (e:Int) (s e2 z n l r:List UInt8) (pe:Int) (t b2:Bool)
  (v:CallsT PZ 10 [.agg (wN k),.sl (ah bs)] [] (gL [] (.tup [.agg (q9 p q m u),IC e]))) (f:CallsT PZ 11 [.agg (wN k),.sl (ah bs)] [] (gL [] (.tup [.agg (q9 p q m u),IC e])))
  (a:CallsT PZ 16 [.agg (q9 p q m u),.agg (q9 p q m u)] [] (gL [] (.bool true)))
  (ag:CallsT PZ 12 [.sl (ah bs),.sl (ah cs)] [] (gL [] (.tup [.sl (ah z),IC pe]))) (aa:CallsT PZ 13 [.sl (ah bs),.sl (ah cs)] [] (gL [] (.tup [.sl (ah n),IC pe])))
  (ae:CallsT PZ 14 [.agg (yK i x)] [] (gL [] (.sl (ah s)))) (w:CallsT PZ 15 [.agg (yK i x)] [] (gL [] (.sl (ah e2))))
  (ac:CallsT PZ 17 [.agg (yK i x),.agg (yK j y)] [] (gL [] (.bool t))) (c:CallsT PZ 16 [.agg (yK i x),.agg (yK j y)] [] (gL [] (.bool b2)))
  (h:CallsT PZ 18 [.sl (ah bs),.sl (ah cs)] [] (gL [] (.sl (ah l)))) (o:CallsT PZ 19 [.sl (ah bs),.sl (ah cs)] [] (gL [] (.sl (ah r))))
  (s1:pD ⟨s.toArray⟩ ⟨e2.toArray⟩=true) (s2:pD ⟨z.toArray⟩ ⟨n.toArray⟩=true) (s3:pD ⟨l.toArray⟩ ⟨r.toArray⟩=true) (hb:t=b2) :
  CallsT PZ 3 [.agg (yK i x),.agg (yK j y),.agg (wN k),.sl (ah bs),.sl (ah cs)] [] (gL [] (.bool true)):=by
 have no:∀{b:Bool}{P:Prop},b=true->b=false->P:=fun h1 h2=>by rw[h1] at h2;cases h2
 refine au Tryz.func3 UF rfl fun hw _=>?_;refine bM t7 rfl fun _=>?_;refine pW (t8 i x) rfl fun _ _=>?_;refine aj (fun _=>?_) (fun _=>?_)
 ·exact aM rfl rfl
 refine pW (t8 j y) rfl fun _ _=>?_;refine aj (fun _=>?_) (fun _=>?_)
 ·exact aM rfl rfl
 refine pW (t9 k) rfl fun _ _=>?_;refine aj (fun _=>?_) (fun _=>?_)
 ·exact aM rfl rfl
 refine aF (fun _=>?_) (fun _=>?_)
 ·exact aM rfl rfl
 refine aF (fun _=>?_) (fun _=>?_)
 ·exact aM rfl rfl
 refine bM v rfl fun _=>?_;refine bM f rfl fun _=>?_;refine bM ag rfl fun _=>?_;refine bM aa rfl fun _=>?_;refine cR ae rfl fun _=>?_;refine fP.mk ⟨s,rfl,?_⟩;refine cR w rfl fun _=>?_;refine fP.mk ⟨e2,rfl,?_⟩;refine aj (fun g=>?_) (fun g=>no s1 g);refine aF (fun _=>?_) (fun g=>s6 rfl g);refine cR a rfl fun _=>?_;refine cR ac rfl fun _=>?_;refine cR c rfl fun _=>?_;refine aj (fun d=>?_) (fun d=>?_)
 ·refine cR h rfl fun _=>?_;refine fP.mk ⟨l,rfl,?_⟩;refine cR o rfl fun _=>?_;refine fP.mk ⟨r,rfl,?_⟩;refine aj (fun g=>?_) (fun g=>no s3 g);refine aF (fun _=>?_) (fun g=>s6 rfl g);refine fP.mk ⟨z,rfl,?_⟩;refine fP.mk ⟨n,rfl,?_⟩;exact aM rfl (j3 C.bool s2)
 ·have d:decide (t=b2)=false:=d;exact s6 hb (adq d)
theorem uU (a b:List UInt8) (h:a=b):pD ⟨a.toArray⟩ ⟨b.toArray⟩=true:=by rw[fL,h];exact adE rfl
theorem V7 {i j:uQ}{x y:Wd}(d:Qg (yP i x)) (e:Qg (yP j y)):DF i j x y=Cr (i=j/\x=y):=by
 unfold DF
 by_cases h:i=j
 ·have c:Cr (i=j)=true:=(dJ h).symm
  by_cases b:x=y
  ·have a:Cr (i=j/\x=y)=true:=(dJ ⟨h,b⟩).symm;rw[c,a,b];simp
  ·have a:Cr (i=j/\x=y)=false:=(aH (fun q=>b q.2)).symm;rw[c,a,adD (fun q=>b (RZ d e q))];rfl
 ·have c:Cr (i=j)=false:=(aH h).symm;have a:Cr (i=j/\x=y)=false:=(aH (fun q=>h q.1)).symm;rw[c,a];rfl
theorem t3 (i j k:uQ) (x y:Wd) (bs cs:List UInt8) (h:Qg (yP i x)) (s:Qg (yP j y)) (d:Ga x) (z:Ga y) (ag:(yP i x).bulk<=1048576) (am:(yP j y).bulk<=1048576) (hk:(Br k).bulk<=1048576) (hb:bs.length<=1048576) (hc:cs.length<=1048576) :
  CallsT PZ 3 [.agg (yK i x),.agg (yK j y),.agg (wN k),.sl (ah bs),.sl (ah cs)] [] (gL [] (.bool true)):=by
 have q1:=VD ab4 i x h.1 h.2;have q2:=VD XY i x h.1 h.2;have q3:=VD XY j y s.1 s.2;have aa:=acd i x d (by omega);have v:=t15 i x (by omega);have f:=t17 i j x y d z (acO q2 (by omega)) (acO q3 (by omega));rw[V7 h s] at f;have t:CallsT PZ 16 [.agg (yK i x),.agg (yK j y)] [] (gL [] (.bool (Cr (i=j/\x=y)))):=t16 i j x y;have l:=t18 bs cs (by omega) (by omega);have n:=(t19 bs cs (by omega) (by omega)).give;have ab:=t12 bs cs (by omega) (by omega);have w:=t13 bs cs (by omega) (by omega);have c:=t10 (k.datas.map iC) (k.routs.map iJ) k.main bs (by omega);have a:=t11 k bs hb hk;have hd:∃p q m u e,Ry (k.datas.map iC) (k.routs.map iJ) k.main (l9 bs)=.tup [.agg (q9 p q m u),IC e]/\CallsT PZ 16 [.agg (q9 p q m u),.agg (q9 p q m u)] [] (gL [] (.bool true)):=by
  generalize l9 bs=r;obtain⟨o,e⟩:=r;cases o with
  | some u=>exact⟨_,_,_,u,e,rfl,N9 k u⟩
  | none=>exact⟨_,_,_,_,e,rfl,N9 ⟨[],[],0⟩ w0⟩
 obtain⟨p,q,m,u,e,e1,b⟩:=hd;rw[e1] at c a;exact t3a i j k x y bs cs p q m u e _ _ _ _ _ _ _ _ _ c a b ab w aa v f t l n (uU _ _ rfl) (uU _ _ rfl) (uU _ _ rfl) rfl
end Go.Fr.Tryz
