/-
  Parts of the proof: Pm46, Pm47, Pm48, Pm49: the framework (Fw), pure forms (Dn), plain laws (Pl, Th), calls of functions (Ok).
-/
import Derived.Test.YtkhcdgkdpjahpaaGreatDoorB5f7eeb3a

set_option linter.all false
noncomputable section
namespace Go.hT
variable{a d:Nat->Nat->Bool}{b c:Nat}{e:Nat->b3}
section
theorem abd {d:Type} (a:Nat->d) (b:Nat):bZ a b (a b)=a:=by
 funext e;unfold bZ;split
 ·rename_i c;rw[c]
 ·rfl
theorem Ng {d:Type} (b:Nat->d) (a:Nat) (e c:d):bZ (bZ b a e) a c=bZ b a c:=by funext f;unfold bZ;split<;>rfl
def fW (a:Nat->Nat->Bool) (b c:Nat):ab1:=((List.range c).filter (a b)).map λd:Nat=>(d:Int)
theorem Mn:fW a c (b+1)=if a c b=true then fW a c b++[(b:Int)] else fW a c b:=by unfold fW;rw[iZ,iX];cases d:a c b<;>simp[d]
theorem Mm {T:Nat->Nat->Bool} {f i:Nat}:(fW T f i).length<=i:=by unfold fW;rw[gw];exact dn (h6 _ _) ac
def nT (c:Nat->Nat) (F:Nat) (e:Nat->Nat->Bool) (b g:Nat) (h:Int):Prop:=
 (h=-1/\∀a,a<g->e b a=true->a<c (b+1))\/
 (∃a d:Nat,a<g/\e b a=true/\c (b+1)<=a/\(∀f,f<a->e b f=true->f<c (b+1))/\h=(d:Int)/\b<d/\d<F/\c d<=a/\a<c (d+1))
def jf (c:Nat->Nat) (b:Nat->Nat->Bool) (d f:Nat) (g:Int) (e a:Nat):Bool:=b e a||(decide (g=(e:Int))&&decide (c (d+1)<=a)&&decide (a<f)&&b d a)
structure lz (G:c7) (n F:Nat) (c:Nat->Nat) (RK:Nat->Nat->Bool) (f:Nat) (T:Nat->Nat->Bool) (g:Nat->b3):Prop where
 sub:∀m x,m<F->x<n->RK m x=true->T m x=true
 sup:∀m x,m<F->x<n->T m x=true->c m<=x
 rr:∀m,m<f->∃q,nT c F T m n q/\g m=((c m:Int),(c (m+1):Int),fW T m n,q,())/\∀p:Nat,q=(p:Int)->∀x,c (m+1)<=x->x<n->T m x=true->T p x=true
 new:∀m,f<=m->m<F->g m=j3 c m
section
variable {G:c7} {n F:Nat} {c:Nat->Nat} {H:Nat->Nat->Bool} (C:G.length=n) (B:b2 G) (D:n<=5) (A:mg G n n F c H)
include C B D A
theorem mg.vR:F<=n:=by have:=JV A.m F (aY _);have:=A.e;omega
theorem mg.le {a:Nat} (f:a<=b) (e:b<=F):c a<=c b:=by
 rcases bb a b with d|d
 ·exact o6 (We A.m a b d e)
 ·obtain rfl:a=b:=U;exact aY _
theorem mg.own (i:b<n):∃a,a<F/\c a<=b/\b<c (a+1):=by
 have k:∀d,d<=F->b<c d->∃a,a<d/\c a<=b/\b<c (a+1):=by
  intro d
  induction d with
  |zero=>intro _ f;rw[A.z] at f;omega
  |succ d j=>
   intro m f;by_cases g:c d<=b
   ·exact⟨d,U,g,f⟩
   ·obtain⟨a,l,h⟩:=j U U;exact⟨a,U,h⟩
 exact k F (aY _) (by rw[A.e];exact i)
theorem mg.sup {a:Nat} (f:b<F) (g:a<n) (d:H b a=true):c b<=a:=by obtain⟨m,h,i,e⟩:=(A.t b a f g).1 d;obtain⟨l,k,_,j⟩:=Do B e;omega
theorem mg.diag {a:Nat} (g:b<F) (d:c b<=a) (f:a<c (b+1)):H b a=true:=by have i:=A.le C B D (U:b+1<=F) (aY _);have j:=A.e;obtain⟨k,h,_⟩:=Il B (U:a<G.length);exact(A.t b a g U).2 ⟨a,d,f,by rw[h];exact iH⟩
theorem Y5 {T:Nat->Nat->Bool} {e:Nat} (t:b<F) (J:e<n) (an:c (b+1)<=e) {g:Nat->b3} {has:List gy} (I:∀a,a<F->(g a).1=(c a:Int)/\(g a).2.1=(c (a+1):Int)):ae (loop (σ:=(Int×gN×List gy×Unit)) (ρ:=iL) (λ(j,h,q,_)=>
 bif decide (j<ax h) then
 Option.bind (α:=iL) (
 Option.bind (α:=(Bool×gN×List gy×Unit)) (
 (bh h.length j).bind λK=>
 (a9 h K λz=>some z.1).bind λV=>
  bif decide ((e:Int)>=V)==true then(bh h.length j).bind λL=>
 (a9 h L λE=>some E.2.1).bind λW=>
 some (decide ((e:Int)<W),h,q,()) else some (false,h,q,())) λ(S,o,s,_)=>
  bif S then
 (bh o.length (b:Int)).bind λv=>
 (a9 o v λm=>some (o.set v (m.1,(m.2.1,(m.2.2.1,(j,m.2.2.2.2)))))).bind λX=>
 some (X,s,()) else
 some (o,s,())) λ(M,G,_)=>
 some (.inl (aZ j,M,G,())) else
 some (.inr (h,q,()))) (aZ (b:Int),aq F g,has,())) (λQ=>∃d:Nat,b<d/\d<F/\c d<=e/\e<c (d+1)/\Q=(aq F (bZ g b ((g b).1,(g b).2.1,(g b).2.2.1,(d:Int),())),has,())):=by
 have ab:=A.vR C B D;obtain⟨d,w,N,O⟩:=A.own C B D J;have H:b<d:=by
  rcases bb b d with f|f
  ·exact f
  ·have:=A.le C B D (U:d+1<=b+1) U;omega
 refine(ae.steps (F-(b+1)) (λl R=>R=(((b+1+l:Nat):Int),aq F (if d<b+1+l then bZ g b ((g b).1,(g b).2.1,(g b).2.2.1,(d:Int),()) else g),has,())) ?_ ?_ ?_)
 ·rw[bA U,if_neg U]
 ·rintro l _ ad rfl;dsimp only;generalize am:b+1+l=a;have k:a<F:=U;rw[a7,bi,bn (az (U:(a:Int)<(F:Int)))];generalize r:(if d<a then bZ g b ((g b).1,(g b).2.1,(g b).2.2.1,(d:Int),()) else g)=p;have u:(p a)=g a:=by
   rw[<-r];split
   ·rw[eG _ _ U]
   ·rfl
  obtain⟨x,y⟩:=I a k;refine ae.aW (P:=λf=>f=(aq F (if d<a+1 then bZ g b ((g b).1,(g b).2.1,(g b).2.2.1,(d:Int),()) else g),has,())) ?_ ?_
  ·refine ae.aW (P:=λf=>f=(decide (a=d),aq F p,has,())) ?_ ?_
   ·refine ae.bs (dy k) ?_;rw[dw k,u,x];refine ae.bs rfl ?_;by_cases Y:c a<=e
    ·rw[bn (by rw[az (U:(e:Int)>=(c a:Int))];rfl)];refine ae.bs (dy k) ?_;rw[dw k,u,y];refine ae.bs rfl (ae.af.2 ?_);by_cases i:a=d
     ·rw[az i,az (show(e:Int)<(c (a+1):Int) by rw[i];omega)]
     ·have:¬e<c (a+1):=λZ=>by
       rcases bb a d with f|f
       ·have:=A.le C B D (U:a+1<=d) U;omega
       ·have:=A.le C B D (U:d+1<=a) U;omega
      rw[ay i,ay (U:¬(e:Int)<(c (a+1):Int))]
    ·rw[bm (by rw[ay (U:¬(e:Int)>=(c a:Int))];rfl),ay (show¬a=d by rintro rfl;omega)];exact ae.af.2 rfl
   ·rintro _ rfl;dsimp only;by_cases i:a=d
    ·rw[bn (az i)];refine ae.bs (dy (by rw[bi];exact t)) ?_;have:p=g:=(by rw[<-r,if_neg U]);rw[this,dw t,fA,if_pos U,i];exact ae.bs rfl (ae.af.2 rfl)
    ·rw[bm (ay i)];refine ae.af.2 ?_;rw[<-r];congr 2;by_cases f:d<a
     ·rw[if_pos f,if_pos U]
     ·rw[if_neg f,if_neg U]
  ·rintro _ rfl;dsimp only;rw[bA U,(U:b+1+(l+1)=a+1)];exact ae.af.2 rfl
 ·rintro _ rfl;dsimp only;rw[a7,bi,(U:b+1+(F-(b+1))=F),bm (ay (U:¬((F:Int)<(F:Int)))),if_pos w];exact ae.af.2 ⟨d,H,w,N,O,rfl⟩
theorem ZZ {s:Nat->b3} (o:b<F) (Y:lz G n F c H b a s):ae (loop (σ:=(Int×gN×List gy×Unit)) (ρ:=iL) (λ(u,x,E,_)=>
 bif decide (u<ax (aq n (bk G))) then
 Option.bind (α:=iL) (
 (bh E.length (b:Int)).bind λdl=>
 ((a9 E dl λd6=>some d6).bind λd7=>bh d7.length u).bind λf9=>
 (a9 E dl λd8=>a9 d8 f9 λd9=>some d9).bind λid=>
  bif !id then
 some (x,E,()) else
 (bh x.length (b:Int)).bind λds=>
 (a9 x ds λed=>some ed.2.2.1).bind λhv=>
 (bS (hv.length+([u]).length)).bind λ_=>
 (bh x.length (b:Int)).bind λab=>
  bif Nat.beq ds ab&&true then
 (a9 x ab λek=>some ek.2.2.1).bind λhw=>
 (a9 x ab λan=>some (x.set ab (an.1,(an.2.1,((hw++[u]),an.2.2.2))))).bind λQ=>
 Option.bind (α:=iL) (
 Option.bind (α:=(Bool×gN×List gy×Unit)) (
 (bh Q.length (b:Int)).bind λgc=>
 (a9 Q gc λel=>some el.2.1).bind λii=>
  bif decide (u>=ii)==true then(bh Q.length (b:Int)).bind λge=>
 (a9 Q ge λem=>some em.2.2.2.1).bind λio=>
 some (decide (io<0),Q,E,()) else some (false,Q,E,())) λ(hr,d1,ci,_)=>
  bif hr then
 (loop (σ:=(Int×gN×List gy×Unit)) (ρ:=iL) (λ(R,z,av,_)=>
  bif decide (R<ax z) then
 Option.bind (α:=iL) (
 Option.bind (α:=(Bool×gN×List gy×Unit)) (
 (bh z.length R).bind λgf=>
 (a9 z gf λeq=>some eq.1).bind λis=>
  bif decide (u>=is)==true then(bh z.length R).bind λgi=>
 (a9 z gi λex=>some ex.2.1).bind λi0=>
 some (decide (u<i0),z,av,()) else some (false,z,av,())) λ(hs,ad,co,_)=>
  bif hs then
 (bh ad.length (b:Int)).bind λd0=>
 (a9 ad d0 λX=>some (ad.set d0 (X.1,(X.2.1,(X.2.2.1,(R,X.2.2.2.2)))))).bind λi3=>
 some (i3,co,()) else
 some (ad,co,())) λ(gs,f0,_)=>
 some (.inl (aZ R,gs,f0,())) else
 some (.inr (z,av,()))) (aZ (b:Int),d1,ci,())).bind λ(gl,fz,_)=>
 some (gl,fz,()) else
 some (d1,ci,())) λ(N,S,_)=>
 (bh N.length (b:Int)).bind λf7=>
 (a9 N f7 λd2=>some d2.2.1).bind λib=>
  bif decide (u>=ib) then
 (bh N.length (b:Int)).bind λf8=>
 (a9 N f8 λd3=>some d3.2.2.2.1).bind λic=>
 (bh S.length ic).bind λa4=>
 ((a9 S a4 λd4=>some d4).bind λd5=>bh d5.length u).bind λc2=>
 (a9 S a4 λbd=>(a9 bd c2 λ_=>some (bd.set c2 true)).map λi1=>S.set a4 i1).bind λi2=>
 some (N,i2,()) else
 some (N,S,()) else none) λ(go,fT,_)=>
 some (.inl (aZ u,go,fT,())) else
 some (.inr (x,E,()))) ((c b:Int),aq F s,aq F (λb=>aq n (a b)),())) (λJ=>∃k,nT c F a b n k/\J=(aq F (bZ s b ((c b:Int),(c (b+1):Int),fW a b n,k,())),aq F (λj=>aq n (jf c a b n k j)),())):=by
 have kd:=A.vR C B D;have k0:=A.le C B D (U:b+1<=F) (aY _);have kg:=A.e;have lk:=A.m b o;have f3:s b=j3 c b:=Y.new b (aY _) o;have f2:∀j,j<F->(s j).1=(c j:Int)/\(s j).2.1=(c (j+1):Int):=λj a3=>by
  rcases bb j b with l|l
  ·obtain⟨k,_,v,_⟩:=Y.rr j l;rw[v];exact⟨rfl,rfl⟩
  ·rw[Y.new j l a3];exact⟨rfl,rfl⟩
 refine ae.steps (n-c b) (λI hi=>∃k,nT c F a b (c b+I) k/\hi=(((c b+I:Nat):Int),aq F (bZ s b ((c b:Int),(c (b+1):Int),fW a b (c b+I),k,())),aq F (λj=>aq n (jf c a b (c b+I) k j)),())) ?_ ?_ ?_
 ·have aj:fW a b (c b)=[]:=by
   unfold fW;rw[vX.2 λh Z l=>?_]
   ·rfl
   have K:=fd.1 Z;have:=Y.sup b h o U l;omega
  refine⟨-1,.inl ⟨rfl,λh Z l=>?_⟩,?_⟩
  ·omega
  ·rw[jM,aj];congr 2
   ·have:bZ s b ((c b:Int),(c (b+1):Int),([]:ab1),(-1:Int),())=s:=by
     rw[show((c b:Int),(c (b+1):Int),([]:ab1),(-1:Int),())=s b from f3.symm,abd]
    rw[this]
   ·congr 1;refine bR λj _=>bR λh _=>?_;unfold jf;rw[ay (U:¬(-1:Int)=(j:Int))];simp
 ·rintro I _ lb ⟨k,M,rfl⟩;dsimp only;generalize la:c b+I=d at*;have V:d<n:=U;rw[a7,bi,bn (az (U:(d:Int)<(n:Int))),(U:c b+(I+1)=d+1)];have f4:jf c a b d k b d=a b d:=by
   unfold jf;rw[ay (U:¬d<d)];simp
  refine ae.aW (P:=λJ=>∃r,nT c F a b (d+1) r/\J=(aq F (bZ s b ((c b:Int),(c (b+1):Int),fW a b (d+1),r,())),aq F (λj=>aq n (jf c a b (d+1) r j)),())) ?_ ?_
  ·refine ae.bs (dy (by rw[bi];exact o)) ?_;rw[dw o];refine ae.bs (y:=d) (by rw[aG,bi];exact dy V) ?_;rw[dw o,dw V,f4];refine ae.bs rfl ?_;cases L:a b d with
   |false=>
    rw[bn (by rfl)];refine ae.af.2 ⟨k,?_,?_⟩
    ·rcases M with⟨ar,r⟩|⟨h,q,ar,r⟩
     ·refine .inl ⟨ar,λh Z l=>?_⟩;rcases bb h d with p|p
      ·exact r h p l
      ·obtain rfl:h=d:=U;rw[L] at l;cases l
     ·exact .inr ⟨h,q,U,r⟩
    ·rw[Mn,L,if_neg aa];congr 2;refine bR λj _=>bR λh _=>?_;unfold jf;congr 1;by_cases p:h=d
     ·rw[p,L];simp
     ·by_cases t:h<d
      ·rw[az t,az (U:h<d+1)]
      ·rw[ay t,ay (U:¬h<d+1)]
   |true=>
    rw[bm (by rfl)];refine ae.bs (dy (by rw[bi];exact o)) ?_;rw[dw o,ew];refine ae.bs rfl ?_;have lo:=Mm (T:=a) (f:=b) (i:=d);rw[dZ (by simp;omega),Option.bind_some];refine ae.bs (dy (by rw[bi];exact o)) ?_;rw[bn (by rw[Nat.beq_refl];rfl),dw o,ew];refine ae.bs rfl ?_;rw[dw o,ew,fA,Ng];refine ae.bs rfl ?_;have f6:fW a b d++[(d:Int)]=fW a b (d+1):=(by rw[Mn,if_pos L]);dsimp only;rw[f6];refine ae.aW (P:=λJ=>∃r,J=(aq F (bZ s b ((c b:Int),(c (b+1):Int),fW a b (d+1),r,())),aq F (λj=>aq n (jf c a b d k j)),())/\((d<c (b+1)/\r=k)\/(c (b+1)<=d/\∃q:Nat,r=(q:Int)/\q<F/\(k=r\/(k=-1/\∀h,h<d->a b h=true->h<c (b+1)))))/\nT c F a b (d+1) r) ?_ ?_
    ·refine ae.aW (P:=λJ=>∃W:Bool,J=(W,aq F (bZ s b ((c b:Int),(c (b+1):Int),fW a b (d+1),k,())),aq F (λj=>aq n (jf c a b d k j)),())/\(W=true↔c (b+1)<=d/\k<0)) ?_ ?_
     ·refine ae.bs (dy (by rw[bi];exact o)) ?_;rw[dw o,ew];refine ae.bs rfl ?_;dsimp only;by_cases p:c (b+1)<=d
      ·rw[bn (by rw[az (U:(d:Int)>=(c (b+1):Int))];rfl)];refine ae.bs (dy (by rw[bi];exact o)) ?_;rw[dw o,ew];refine ae.bs rfl (ae.af.2 ⟨_,rfl,?_⟩);rw[decide_eq_true_eq];exact⟨λl=>⟨p,l⟩,λl=>l.2⟩
      ·rw[bm (by rw[ay (U:¬(d:Int)>=(c (b+1):Int))];rfl)];exact ae.af.2 ⟨_,rfl,λl=>(by cases l),λl=>absurd l.1 p⟩
     ·rintro _ ⟨W,rfl,a0⟩;dsimp only;cases W with
      |true=>
       obtain⟨am,i8⟩:=a0.1 rfl;rw[cond_true];have cv:k=-1/\∀h,h<d->a b h=true->h<c (b+1):=by
        rcases M with l|⟨h,q,K,v,fp,fs,ce,_⟩
        ·exact l
        ·omega
       refine ae.aW (Y5 (T:=a) C B D A o V am (g:=bZ s b ((c b:Int),(c (b+1):Int),fW a b (d+1),k,())) (has:=aq F (λj=>aq n (jf c a b d k j))) (λj a3=>?_)) ?_
       ·by_cases t:j=b
        ·subst t;rw[ew];exact⟨rfl,rfl⟩
        ·rw[eG _ _ t];exact f2 j a3
       ·rintro _ ⟨q,gt,O,gv,hc,rfl⟩;dsimp only;refine ae.af.2 ⟨(q:Int),?_,.inr ⟨am,q,rfl,O,.inr cv⟩,.inr ⟨d,q,U,L,am,cv.2,rfl,gt,O,gv,hc⟩⟩;rw[ew,Ng]
      |false=>
       rw[cond_false];refine ae.af.2 ⟨k,rfl,?_,?_⟩
       ·rcases bb d (c (b+1)) with p|p
        ·exact .inl ⟨p,rfl⟩
        ·refine .inr ⟨p,?_⟩;rcases M with l|⟨h,q,K,v,fp,fs,ce,jp,ft,_⟩
         ·have:=a0.2 ⟨p,U⟩;cases this
         ·exact⟨q,ce,ft,.inl rfl⟩
       ·rcases M with⟨K,v⟩|⟨h,q,K,v⟩
        ·refine .inl ⟨K,λh Z ap=>?_⟩;rcases bb h d with t|t
         ·exact v h t ap
         ·obtain rfl:h=d:=U;rcases bb h (c (b+1)) with p|p
          ·exact p
          ·have:=a0.2 ⟨p,U⟩;cases this
        ·exact .inr ⟨h,q,U,v⟩
    ·rintro _ ⟨r,rfl,f1,cs⟩;dsimp only;refine ae.bs (dy (by rw[bi];exact o)) ?_;rw[dw o,ew];refine ae.bs rfl ?_;dsimp only;rcases f1 with⟨p,rfl⟩|⟨p,q,rfl,O,c1⟩
     ·rw[bm (ay (U:¬(d:Int)>=(c (b+1):Int)))];refine ae.af.2 ⟨r,cs,?_⟩;congr 2;refine bR λj _=>bR λh _=>?_;unfold jf;congr 1;by_cases t:c (b+1)<=h
      ·by_cases w:h<d
       ·rw[az w,az (U:h<d+1)]
       ·rw[ay w,ay (U:¬h<d+1)]
      ·rw[ay t];simp
     ·rw[bn (az (U:(d:Int)>=(c (b+1):Int)))];refine ae.bs (dy (by rw[bi];exact o)) ?_;rw[dw o,ew];refine ae.bs rfl ?_;dsimp only;refine ae.bs (dy (by rw[bi];exact O)) ?_;rw[dw O];refine ae.bs (y:=d) (by rw[Option.bind_some,bi];exact dy V) ?_;rw[dw O,dw V,fA,Option.map_some,fA,IT];refine ae.bs rfl (ae.af.2 ⟨(q:Int),cs,?_⟩);congr 2;refine bR λj _=>bR λh _=>?_;unfold yp jf;by_cases bl:j=q
      ·subst bl;by_cases bB:h=d
       ·subst bB;rw[L];simp[p]
       ·have fn:decide (h<d+1)=decide (h<d):=by
         by_cases w:h<d
         ·rw[az w,az (U:h<d+1)]
         ·rw[ay w,ay (U:¬h<d+1)]
        rw[fn,ay bB,az rfl,Bool.and_false,Bool.or_false,az rfl];rcases c1 with l|⟨K,v⟩
        ·rw[az l]
        ·rw[ay (U:¬k=(j:Int))];cases ap:a b h with
         |false=>simp
         |true=>
          by_cases w:h<d
          ·rw[ay (show¬c (b+1)<=h by have:=v h w ap;omega)];simp
          ·rw[ay w];simp
      ·rw[ay bl,ay (U:¬((q:Int)=(j:Int))),ay (show¬k=(j:Int) by rcases c1 with l|⟨l,_⟩<;>omega)];simp
  ·rintro _ ⟨r,f5,rfl⟩;dsimp only;rw[bA U];exact ae.af.2 ⟨r,f5,rfl⟩
 ·rintro _ ⟨k,M,rfl⟩;dsimp only;rw[(U:c b+(n-c b)=n)] at*;rw[a7,bi,bm (ay (U:¬((n:Int)<(n:Int))))];exact ae.af.2 ⟨k,M,rfl⟩
end
end
section
theorem nT.congr {c:Nat->Nat} {F e:Nat} {f:Int} (g:a b=d b) (h:nT c F a b e f):nT c F d b e f:=by unfold nT at*;rw[<-g];exact h
theorem Ml (e:a b=d b):fW a b c=fW d b c:=by unfold fW;rw[e]
section
variable {G:c7} {n F:Nat} {c:Nat->Nat} {A:Nat->Nat->Bool} (B:G.length=n) (C:b2 G) (D:n<=5) (H:mg G n n F c A)
include B C D H
theorem lz.next (N:b<F) (m:lz G n F c A b a e) {h:Int} (r:nT c F a b n h):lz G n F c A (b+1) (jf c a b n h) (bZ e b ((c b:Int),(c (b+1):Int),fW a b n,h,())):=by
 have j:∀d,d<=b->jf c a b n h d=a d:=λd i=>by
  funext g;unfold jf;have:¬h=(d:Int):=by rcases r with⟨f,_⟩|⟨g,l,_,_,_,_,f,p,_⟩<;>omega
  rw[ay this];simp
 have x:∀d g,a d g=true->jf c a b n h d g=true:=λd g f=>(by unfold jf;rw[f];rfl);refine⟨λd g i s f=>x _ _ (m.sub d g i s f),λd g i s f=>?_,λd i=>?_,λd i C=>?_⟩
 ·unfold jf at f;rw[fy] at f;rcases f with f|f
  ·exact m.sup d g i s f
  ·simp only[bg,decide_eq_true_eq] at f;obtain⟨⟨⟨v,p⟩,w⟩,B⟩:=f;rcases r with⟨ar,_⟩|⟨y,l,D,E,H,z,I,J,K,L,M⟩
   ·omega
   ·have:y<=g:=by
     rcases bb g y with o|o
     ·have:=z g o B;omega
     ·exact o
    have:d=l:=U;subst this;omega
 ·rcases bb d b with f|f
  ·obtain⟨ar,v,p,w⟩:=m.rr d f;refine⟨ar,v.congr (j d U).symm,?_,λl q g t u k=>?_⟩
   ·rw[eG _ _ U,p,Ml (j d U)]
   ·rw[j d U] at k;exact x _ _ (w l q g t u k)
  ·obtain rfl:d=b:=U;refine⟨h,r.congr (j d U).symm,?_,λl q g t u k=>?_⟩
   ·rw[ew,Ml (j d U)]
   ·rw[j d U] at k;unfold jf;rw[az q,az t,az u,k];simp
 ·rw[eG _ _ U];exact m.new d U C
end
theorem Eg {i:bP} {j l:ab1} {aU:bP} {m:Int} {k:c7} {o:Int} {G:c7} {p:Int} {n:Nat} (B:G.length=n) (C:b2 G) (D:n<=5) (t:l.length<=9223372036854775807) (q:sA (i,())=some (aU,m,())) (r:sB (aU,())=some ((k,()),o,())) (s:qJ ((k,()),j,())=some ((G,()),p,())):ae (wZ (i,j,l,())) (λh=>∃F c A b a,mg G n n F c A/\lz G n F c A F b a/\h=(aq F a,())):=by
 unfold wZ;refine ae.bs q (ae.bs r (ae.bs s ?_));refine ae.bs (ZH C U) ?_;dsimp only;rw[B];refine ae.aW (Tk B C D t) ?_;rintro _ ⟨F,c,A,H,rfl⟩;dsimp only;have z:=H.vR B C D;refine ae.aW (P:=λh=>∃b a,lz G n F c A F b a/\h=(aq F a,())) ?_ ?_
 ·refine ae.steps F (λd y=>∃b a,lz G n F c A d b a/\y=((d:Int),aq F a,aq F (λd=>aq n (b d)),())) ⟨A,j3 c,⟨λ_ _ _ _ f=>f,λx I u w f=>H.sup B C D u w f,λx f=>absurd f (tW _),λ_ _ _=>rfl⟩,rfl⟩ ?_ ?_
  ·rintro d _ g ⟨b,a,e,rfl⟩;dsimp only;rw[a7,bi F,bn (az (U:(d:Int)<(F:Int)))];refine ae.bs (dy g) ?_;rw[dw g,e.new d (Nat.le_refl _) g];refine ae.bs rfl ?_;refine ae.aW (ZZ B C D H g e) ?_;rintro _ ⟨E,v,rfl⟩;dsimp only;rw[bA U];exact ae.af.2 ⟨_,_,e.next B C D H g v,rfl⟩
  ·rintro _ ⟨b,a,e,rfl⟩;dsimp only;rw[a7,bi F,bm (ay (U:¬((F:Int)<(F:Int))))];exact ae.af.2 ⟨b,a,e,rfl⟩
 ·rintro _ ⟨b,a,e,rfl⟩;exact ae.af.2 ⟨F,c,A,b,a,H,e,rfl⟩
theorem Uq {P:Nat->Bool} {a b:Nat} (j:∀c,c<a->P c=false) (k:∀c,a<=c->c<b->P c=true) (l:a<=b):∀f,(List.range (b+f)).filter P=List.range' a (b-a)++(((List.range (b+f)).filter P).filter λc=>decide (b<=c)):=by
 have i:∀e,a+e<=b->(List.range (a+e)).filter P=List.range' a e:=by
  intro e
  induction e with
  |zero=>
   intro _;rw[vX.2]
   ·rfl
   intro c g d;rw[j c (by have:=fd.1 g;omega)] at d;cases d
  |succ e h=>
   intro d;rw[<-m9,iZ,iX,h U,oX (k _ U U),oY,List.range'_concat];simp
 intro f
 induction f with
 |zero=>
  have:=i (b-a) U;rw[(U:a+(b-a)=b)] at this;rw[jM,this,vX.2 (λc g d=>?_),mj];have:=List.mem_range'_1.1 g;rw[decide_eq_true_eq] at d;omega
 |succ f h=>
  rw[<-m9,iZ,iX,iX,<-oT,<-h];congr 1;cases d:P (b+f)<;>simp[d]
end
section
section
variable {G:c7} {n F:Nat} {c:Nat->Nat} {I T:Nat->Nat->Bool} {g:Nat->b3} (C:G.length=n) (D:b2 G) (H:n<=5) (A:mg G n n F c I) (B:lz G n F c I F T g)
include C D H A B
theorem lz.aK {a:Nat} (e:a<=F):aK (aq F g) a=c a:=by
 cases a with
 |zero=>exact A.z.symm
 |succ a=>
  obtain⟨f,_,b,_⟩:=B.rr a U;show(Option.map (λd:b3=>d.2.1.toNat) (aq F g)[a]?).getD 0=c (a+1);rw[qT U,b];rfl
theorem EU {k x:Nat}:(x:Int)∈fW T k n↔x<n/\T k x=true:=by
 unfold fW;rw[bT];constructor
 ·rintro⟨d,a,e⟩;obtain rfl:d=x:=U;rw[fc,fd] at a;exact a
 ·rintro⟨b,c⟩;exact⟨x,fc.2 ⟨fd.2 b,c⟩,rfl⟩
theorem Mk (a:Nat):(fW T a n).Pairwise (· < ·):=by unfold fW;rw[qh];exact(List.pairwise_lt_range.filter _).imp λb=>by omega
theorem lz.rows {f:Nat} (h:f<F):∃k:ab0,fW T f n=(List.range' (c f) (c (f+1)-c f)++k).map (λd:Nat=>(d:Int))/\∀d,d∈k↔c (f+1)<=d/\d<n/\T f d=true:=by
 have q:=A.le C D H (U:f+1<=F) (aY _);have r:=A.e;have s:=A.m f h;have:=Uq (P:=λd=>decide (d<n)&&T f d) (a:=c f) (b:=c (f+1)) (λd i=>by
  by_cases j:d<n
  ·cases g:T f d with
   |false=>simp
   |true=>have:=B.sup f d h j g;omega
  ·simp[j]) (λd o p=>by
   show(decide (d<n)&&T f d)=true;rw[az (U:d<n),B.sub f d h U (A.diag C D H h o p)];rfl) U (n-c (f+1))
 rw[(U:c (f+1)+(n-c (f+1))=n)] at this;have l:(List.range n).filter (λd=>decide (d<n)&&T f d)=(List.range n).filter (T f):=rT λd i=>(by rw[az (fd.1 i),Bool.true_and]);rw[l] at this;refine⟨((List.range n).filter (T f)).filter λd=>decide (c (f+1)<=d),?_,?_⟩
 ·unfold fW;rw[<-this]
 ·intro d;rw[fc,fc,fd,decide_eq_true_eq];exact⟨λg=>⟨g.2,g.1.1,g.1.2⟩,λg=>⟨⟨g.2.1,g.2.2⟩,g.1⟩⟩
theorem lz.Ux:ho G (aq F g):=by
 have d3:=A.vR C D H;have ci:=A.e;have v:∀a,a<=F->hT.aK (aq F g) a=c a:=λa d=>B.aK C D H A d;have ad:mf n (aq F g):=by
  refine⟨λa d=>?_,by rw[bi,v F (aY _),ci]⟩;rw[bi] at d;obtain⟨W,_,h,_⟩:=B.rr a d;have N:=A.m a d;have d2:=A.le C D H (U:a+1<=F) (aY _);refine⟨g a,qT d,?_,?_,?_⟩
  ·rw[h,v a U]
  ·rw[h,v a U];show(c a:Int)<(c (a+1):Int);omega
  ·rw[h];show(c (a+1):Int)<=_;omega
 have av:∀b,b<F->eh (aq F g) (b:Int)=fW T b n:=λb R=>(by obtain⟨W,_,h,_⟩:=B.rr b R;rw[rx (by rw[bi];exact R),gh,h]);have ap:∀{b i:Nat},b<F->c b<=i->i<c (b+1)->gS (hT.aK (aq F g)) i (aq F g).length=(b:Int):=λ{b i} R ce h=>(by have N:=bi F g;exact ze (m:=(aq F g).length) (λa d=>⟨d,ad.1 a d⟩) U (by rw[v b U];exact ce) (by rw[v (b+1) U];exact h) _ U (aY _));unfold ho;rw[C];refine⟨ad,λa d=>?_,λa d=>?_,λa0 f Q=>?_⟩
 ·rw[bi] at d;rw[gh];obtain⟨W,_,h,_⟩:=B.rr a d;obtain⟨j,p,q⟩:=B.rows C D H A d;have N:=A.m a d;have an:(fW T a n).length=(c (a+1)-c a)+j.length:=(by rw[p];simp);have O:=Mk C D H A B a;have z:((c (a+1):Int)-(c a:Int)).toNat=c (a+1)-c a:=U;rw[h];unfold kD;dsimp only;rw[z];refine⟨U,λf _ am o=>⟨λy=>?_,λw=>?_⟩⟩
  ·dsimp only at y o|-;rw[z] at y;simp only[p,List.map_append,List.getElem_map];rw[List.getElem_append_left (by simpa using y)];simp
  ·dsimp only at w o|-;rw[z] at w;have E:(fW T a n)[f]=((j[f-(c (a+1)-c a)]'(by omega):Nat):Int):=by
    simp only[p,fZ];rw[List.getElem_append_right (by simpa using w)];simp
   have J:=(q _).1 (bI (U:f-(c (a+1)-c a)<j.length));refine⟨by rw[E];omega,by rw[E];omega,?_⟩;exact(gx.1 O) (f-1) f U U U
 ·rw[bi] at d;rw[gh];obtain⟨W,cs,h,cv⟩:=B.rr a d;obtain⟨j,p,q⟩:=B.rows C D H A d;have N:=A.m a d;have an:(fW T a n).length=(c (a+1)-c a)+j.length:=(by rw[p];simp);have O:=Mk C D H A B a;have z:((c (a+1):Int)-(c a:Int)).toNat=c (a+1)-c a:=U;have E:∀f (o:f<(fW T a n).length),c (a+1)-c a<=f->∃i,i∈j/\(fW T a n)[f]=(i:Int):=λf o w=>by
   refine⟨j[f-(c (a+1)-c a)]'(by omega),bI _,?_⟩
   simp only[p,fZ];rw[List.getElem_append_right (by simpa using w)];simp
  rw[h];unfold lC;dsimp only;rw[z];rcases cs with⟨ar,d0⟩|⟨I,b,X,Y,bd,bl,rfl,d1,Z,bs,bB⟩
  ·refine .inl ⟨?_,ar⟩;have:j=[]:=List.eq_nil_iff_forall_not_mem.2 λi c2=>by
    obtain⟨M,r,s⟩:=(q i).1 c2;have:=d0 i r s;omega
   rw[an,this];rfl
  ·have dl:=(q I).2 ⟨bd,X,Y⟩;have d5:0<j.length:=List.length_pos_of_mem dl;refine .inr ⟨U,?_,λf am o=>?_⟩
   ·obtain⟨l,V,P⟩:=E (c (a+1)-c a) U (aY _);obtain⟨M,r,s⟩:=(q l).1 V;have d4:l<=I:=by
     obtain⟨L,c1,S⟩:=fH.1 ((EU (x:=I) C D H A B (k:=a)).2 ⟨X,Y⟩);rcases bb L (c (a+1)-c a) with u|u
     ·simp only[p,fZ] at S;rw[List.getElem_append_left (by simpa using u)] at S;simp at S;omega
     ·rcases bb (c (a+1)-c a) L with ab|ab
      ·have:=(gx.1 O) _ L U c1 ab;omega
      ·obtain rfl:L=c (a+1)-c a:=U;omega
    have ds:l=I:=by
     rcases bb l I with u|u
     ·have:=bl l u s;omega
     ·omega
    rw[P,ds,dc,ap Z bs bB]
   ·obtain⟨l,V,P⟩:=E f o am;obtain⟨M,r,s⟩:=(q l).1 V;rw[P,av b Z];exact(EU C D H A B).2 ⟨r,cv b rfl l M r s⟩
 ·intro y;have co:a0<n:=(by obtain⟨o,_⟩:=Q;omega);have J:f<n:=by
   have:=Q.lt D;omega
  obtain⟨b,K,a3,a4⟩:=A.own C D H co;rw[ap K a3 a4,av b K];refine(EU C D H A B).2 ⟨J,B.sub b f K J ((A.t b f K J).2 ⟨a0,a3,a4,mJ.2 ⟨U,.inr ⟨y,?_⟩⟩⟩)⟩;exact .one Q
end
end
theorem Zw {c a d:ab1} (f:hq b b c a d) (e:gq b b c a d≠0):sA (((b:Int),(b:Int),c,a,d,()),())=some ((0,0,[],[],[],()),gq b b c a d,()):=by unfold sA;refine au f.vt ?_;dsimp only;rw[bn (by rw[dr,ay e];rfl)]
theorem Zu:sB ((0,0,[],[],[],()),())=some (([],()),1,()):=by unfold sB;refine au (y:=((1:Int),())) rfl ?_;rfl
theorem yy:b2 []:=Bc []
theorem Zy (b:ab1):∃c,qJ (([],()),b,())=some (([],()),c,()):=by
 rw[FU (λf e=>by cases e)];by_cases a:kR [] b=0
 ·rw[if_pos a];refine⟨0,?_⟩;have:b=[]:=by
   unfold kR at a;rw[if_neg (not_not_intro (qy.2 ⟨bN _,yy⟩))] at a;split at a
   ·cases a
   ·rename_i d;exact k2 (Decidable.not_not.1 d)
  subst this;rfl
 ·rw[if_neg a];exact⟨_,rfl⟩
theorem lz.small {g:c7} {n:Nat->Nat} (p:g.length=b) (q:b2 g) (r:b<=5) (j:mg g b b c n d) (o:lz g b c n d c a e):(aq c e).length<=5/\∀l∈aq c e,0<l.2.2.1.length/\l.2.2.1.length<=5:=by have x:=j.vR p q r;refine⟨by rw[bi];omega,λl u=>?_⟩;obtain⟨k,h,rfl⟩:=List.mem_iff_getElem.1 u;rw[bi] at h;rw[gh];obtain⟨y,_,s,_⟩:=o.rr k h;obtain⟨z,t,_⟩:=o.rows p q r j h;have v:=j.m k h;have w:=Mm (T:=a) (f:=k) (i:=b);rw[s];dsimp only;refine⟨?_,U⟩;rw[t];simp;omega
theorem UG {c a d:ab1} (g:b<=5) (t:hq b b c a d) {f I:ab1} (r:I.length<=9223372036854775807):ae (wZ (((b:Int),(b:Int),c,a,d,()),f,I,())) (λP=>∃l:gN,P=(l,())/\l.length<=5/\(∀J∈l,0<J.2.2.1.length/\J.2.2.1.length<=5)/\(mU b b c a d f=0->ho (ig b (eg (bQ c a d b)) f) l)):=by
 classical
 by_cases j:gq b b c a d=0
 ·have s:=(jU.1 j).1;have K:=(jU.1 j).2;have C:=qQ s b (aY _);have D:=qP s;have Q:=By g (q8 C) (q7 D) Bx;have L:=sJ s t.hw;have M:=sJ s (D4 K);have H:=q8 C;have F:=q7 D;have O:=MG (rows:=b) (fR:=b) (E:=eg (bQ c a d b)) U U U (λx w=>L x (fc.1 w).1);have N:=H5 H F (λx w=>M x (fc.1 w).1);have v:=Zv O N;rw[IL H F] at v;by_cases k:eZ f b
  ·refine(Eg (uU k) (xC b (eg (bQ c a d b)) f) g r (LS g t j) v (Zx g k)).mono ?_;rintro _ ⟨y,B,A,z,p,h,i,rfl⟩;obtain⟨m,o⟩:=i.small (uU k) (xC b (eg (bQ c a d b)) f) g h;exact⟨_,rfl,m,o,λ_=>i.Ux (uU k) (xC b (eg (bQ c a d b)) f) g h⟩
  ·have q:∃u,qJ ((g4 b (g5 (eg (bQ c a d b))),()),f,())=some (([],()),u,()):=by
    rw[FU (λl r=>by have:=Eh b (g5 (eg (bQ c a d b))) l r;omega)];rw[if_neg (λe=>?_)]
    ·exact⟨_,rfl⟩
    ·unfold kR at e;split at e
     ·contradiction
     ·split at e
      ·cases e
      ·split at e
       ·rename_i p;rw[sR] at p;exact k p
       ·cases e
   obtain⟨u,q⟩:=q;refine(Eg (G:=[]) (n:=0) rfl yy (bN _) r (LS g t j) v q).mono ?_;rintro _ ⟨y,B,A,z,p,h,i,rfl⟩;obtain⟨m,o⟩:=i.small rfl yy (bN _) h;refine⟨_,rfl,m,o,λe=>absurd (Ga e).2.2 k⟩
 ·obtain⟨u,q⟩:=Zy f;refine(Eg (G:=[]) (n:=0) rfl yy (bN _) r (Zw t j) Zu q).mono ?_;rintro _ ⟨y,B,A,z,p,h,i,rfl⟩;obtain⟨m,o⟩:=i.small rfl yy (bN _) h;exact⟨_,rfl,m,o,λe=>absurd (Ga e).1 j⟩
theorem NC (s:ab1) (r t:Int) (n:Bool) (m:ab1) (x:s.length<=9223372036854775807) (w:m.length<=9223372036854775807):DI (s,r,t,n,m,())=some (true,()):=by
 unfold DI;refine ae.eq_iff.1 ?_;refine ae.aW (Zc x r t n) ?_;rintro⟨i,j,_⟩ ⟨b,a,p,y⟩;dsimp only at p y|-;obtain⟨k,h,l,rfl,ar,B,C⟩:=p.ex;have c:=p9.small a a ar B C;refine ae.aW (UG a c w) ?_;rintro _ ⟨q,rfl,E,F,A⟩;dsimp only;have z:∃d i g,yU d/\sk (((b:Int),(b:Int),k,h,l,()),j,q,())=some (d,i,g,())/\pn (((b:Int),(b:Int),k,h,l,()),j,())=some (d,i,g,()):=by
  by_cases e:mU b b k h l j=0
  ·obtain⟨o,_,f⟩:=Ga e;exact⟨_,_,_,Vv a (uU f) (by rw[f.1];omega),SB a c o f (A e),GU a c o f⟩
  ·exact⟨_,_,_,E9,Rs c U e q,Rv c U e⟩
 obtain⟨d,D,g,u,f2,v⟩:=z;refine ae.bs f2 (ae.bs v ?_);dsimp only;rw[bn ac,bn ac];refine ae.bs (aaf u) ?_;dsimp only;rw[bn ac];exact ae.bs Se (ae.af.2 rfl)
end Go.hT
end
