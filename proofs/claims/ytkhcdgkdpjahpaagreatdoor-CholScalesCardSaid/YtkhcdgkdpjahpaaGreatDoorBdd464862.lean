/-
  Parts of the proof: Fw21: the framework (Fw), pure forms (Dn), plain laws (Pl, Th), calls of functions (Ok).
-/
import Derived.Test.YtkhcdgkdpjahpaaGreatDoorB01cd341c

set_option linter.all false
set_option maxHeartbeats 1000000
noncomputable section
namespace Go.hX
section
def kw (d:Nat) (st:aA) (c:List ah) (b:List e5) (a:List ay):Bool:=
 gX (dZ c b)&&gX ((hp c b++gB d (gj a) 0 a).map (·.1))&&(gB d (gj a) 0 a).all λe=>(ai st.h e.1).isNone
section
variable {E:dA} {C:c8} {st:aA} {a:Act} {w w':World} {I I' B':Nat->Prop} {rt:Nat->cJ} {fp:Nat->cP}
def Fv {rt:Nat->cJ} {n:cP} {b:List (Nat×ay)}:∀{as:List ah} {bs:List e5} {gs:cE},lv b n as bs->gs.length=bs.length->∀id∈jC as bs,∃c∈eF rt as bs gs,c.1=id/\ai b id=some ⟨c.2.1.1,(match ai b id with|some k=>if f:k.1=c.2.1.1 then f▸k.2 else c.2.1.2|none=>c.2.1.2)⟩
 |[],bs,gs,_,_,id,b=>by cases bs<;>cases b
 |a::as,[],gs,g,_,id,b=>by cases a<;>exact g.elim
 |a::as,e::bs,[],_,h,id,b=>by cases h
 |a::as,e::bs,p::gs,g,h,id,b=>by
  have d:=Fv (rt:=rt) (as:=as) (bs:=bs) (gs:=gs) g.2 (by simpa using h) id;have l:=g.1;cases a with
  |ref o j=>cases j with
   |nil=>
    cases e with
    |m k u=>
     simp only[jC,dw] at b;simp only[eF];rcases b with rfl|b
     ·refine⟨_,lD ..,rfl,?_⟩;rw[l.1];simp
     obtain⟨c,i,f⟩:=d b;exact⟨c,eH _ i,f⟩
    |_=>exact d b
   |cons=>cases e<;>exact d b
  |view o j r f=>cases j with
   |nil=>
    cases e with
    |w x t s q v=>
     simp only[jC,dw] at b;simp only[eF];rcases b with rfl|b
     ·refine⟨_,lD ..,rfl,?_⟩;rw[l.1];simp
     obtain⟨c,i,f⟩:=d b;exact⟨c,eH _ i,f⟩
    |_=>exact d b
   |cons=>cases e<;>exact d b
  |_=>cases e<;>exact d b
def zV {e f g:Type} {h:e->f->g->Prop}:∀{as:List e} {c:List f} {d:List g},jq h as c d->c.length=as.length/\d.length=as.length
 |[],c,d,b=>by cases c<;>cases d<;>first|exact⟨rfl,rfl⟩|exact b.elim
 |a::as,[],d,b=>b.elim
 |a::as,i::c,[],b=>b.elim
 |a::as,i::c,l::d,b=>by obtain⟨j,k⟩:=zV b.2;simp[j,k]
def OQ {b:List (Nat×tO)} (j:((b.map λc=>c.2.2.2).flatten).Nodup):(∀c∈b,c.2.2.2.Nodup)/\∀e f g h,ai b e=some g->ai b f=some h->e≠f->∀a∈g.2.2,a∉h.2.2:=by
 induction b with
 |nil=>exact⟨ab,λe f g h j=>by cases j⟩
 |cons t b A=>
  obtain⟨B,t⟩:=t;simp only[eG,iB,hI] at j;obtain⟨v,w,q⟩:=j;obtain⟨i1,z⟩:=A w;refine⟨λc n=>?_,λe f g h i d r a l=>?_⟩
  ·rcases dw.1 n with rfl|n
   ·exact v
   exact i1 c n
  rw[bv] at i d;have s:∀o k,ai b o=some k->∀p∈k.2.2,p∈(b.map λc=>c.2.2.2).flatten:=λo k y p x=>hH.2 ⟨_,b0.2 ⟨(o,k),vb y,rfl⟩,x⟩;split at i
  ·rename_i aj;split at d
   ·rename_i u;exact absurd (aj.symm.trans u) r
   obtain rfl:=dF i;intro m;exact q a l a (s f h d a m) rfl
  split at d
  ·obtain rfl:=dF d;intro m;exact q a m a (s e g i a l) rfl
  exact z e f g h i d r a l
def yC {e:Type}:∀{c:List (Nat×e)},(c.map (·.1)).Nodup->∀{b:Nat×e},b∈c->ai c b.1=some b.2
 |[],_,b,a=>by cases a
 |(k,x)::c,d,b,a=>by
  simp only[eG,hZ] at d;rw[bv];rcases dw.1 a with rfl|a
  ·rw[ak rfl]
  rw[ag (λf=>d.1 (by rw[f];exact b0.2 ⟨b,a,rfl⟩))];exact yC d.2 a
def Hy {e:Nat} {g:Bool}:∀{j:Nat} {f:List ay} {a:Nat} {d:ah},(pI e g j f)[a]?=some d->∃c,f[a]?=some c/\d=(bif c.1.pure then .val c.1 c.2 else .ref (oh e g (j+a)) [])
 |j,[],a,d,b=>by simp[pI] at b
 |j,c::l,a,d,b=>by
  simp only[pI] at b;cases a with
  |zero=>simp only[iC,bw] at b;exact⟨c,rfl,b.symm⟩
  |succ a=>
   obtain⟨k,h,i⟩:=Hy (by simpa using b);exact⟨k,by simpa using h,by rw[i,(U:j+1+a=j+(a+1))]⟩
def Hz {b:Nat} {c:Bool}:∀{j:Nat} {a:List ay},(pI b c j a).length=a.length
 |j,[]=>rfl
 |j,e::d=>by simp[pI,Hz]
def HE {d:Nat} {s:Bool}:∀{j:Nat} {res:List ay} {cs:cA} {hs:cE},cs.length=res.length->hs.length=res.length->∀(a:Nat) b c e,res[a]?=some b->cs[a]?=some c->hs[a]?=some e->b.1.pure=false->(oh d s (j+a),(b,c,e))∈it d s j res cs hs
 |j,[],cs,hs,_,_,a,b,c,e,aj,_,_,_=>by simp at aj
 |j,b::k,[],hs,h,_,_,_,_,_,_,_,_,_=>by cases h
 |j,b::k,c::cs,[],_,i,_,_,_,_,_,_,_,_=>by cases i
 |j,b::k,c::cs,e::hs,h,i,a,o,m,n,aj,f,g,l=>by
  simp only[it];cases a with
  |zero=>
   simp only[iC,bw] at aj f g;subst aj;subst f;subst g;rw[l];exact lD ..
  |succ a=>
   have:=HE (d:=d) (s:=s) (j:=j+1) (res:=k) (cs:=cs) (hs:=hs) (by simpa using h) (by simpa using i) a o m n (by simpa using aj) (by simpa using f) (by simpa using g) l;rw[(U:j+1+a=j+(a+1))] at this;cases b.1.pure
   ·exact eH _ this
   exact this
end
section
variable {E:dA} {C:c8} {st:aA} {A:Array Oper} {Q:aA->Prop}
def Iu {i:List (Nat×ay)} {j:cP}:∀{as:List ah} {bs:List e5},lv i j as bs->∀id∈dZ as bs,∃h,ai i id=some h
 |[],bs,_,id,b=>by cases bs<;>cases b
 |a::as,[],e,id,b=>by cases a<;>exact e.elim
 |a::as,d::bs,e,id,b=>by
  have c:=Iu (as:=as) (bs:=bs) e.2 id;have f:=e.1;cases a with
  |ref k g=>cases g with
   |nil=>
    cases d with
    |m h s=>
     simp only[dZ,dw] at b;rcases b with rfl|b
     ·exact⟨_,f.1⟩
     exact c b
    |o h=>
     simp only[dZ,dw] at b;rcases b with rfl|b
     ·exact⟨_,f⟩
     exact c b
    |_=>exact c b
   |cons=>cases d<;>exact c b
  |view k g p l=>cases g with
   |nil=>
    cases d with
    |w u r q n t=>
     simp only[dZ,dw] at b;rcases b with rfl|b
     ·exact⟨_,f.1⟩
     exact c b
    |_=>exact c b
   |cons=>cases d<;>exact c b
  |_=>cases d<;>exact c b
def BL {t:cH} {w:World} {I:Nat->Prop} {rt:Nat->cJ} {fp:Nat->cP} (e:bg C st t w I rt fp):∀{a:cP},(∀id∈a,∃b,ai st.h id=some b)->a.Nodup->((a.map fp).flatten).Nodup
 |[],_,_=>by simp
 |id::a,d,f=>by rw[hZ] at f;simp only[eG,iB,hI];obtain⟨b,i⟩:=d id ab;refine⟨(e.tree id b i).2.1,BL e (λr p=>d r (by simp[p])) f.2,λk n u o c=>?_⟩;subst c;obtain⟨v,l,m⟩:=hH.1 o;obtain⟨j,g,rfl⟩:=b0.1 l;obtain⟨s,q⟩:=d j (by simp[g]);exact e.dis id j b s i q (λc=>f.1 (c▸g)) k n m
def Jx (e:bI->Nat->Prop) (w:World) (c:Nat) (b:List ay) (f:Nat->cJ) (g:Value):Prop:=
 ∀(d:List (Nat×ay)) (rt:Nat->cJ) (fp:Nat->cP),(∀a∈gB c (gj b) 0 b,ai d a.1=some a.2/\rt a.1=f a.1)->bk e w d rt fp (ri c b) g
def bg.glob {E:dA} {C:c8} {st:aA} {f:cH} {w:World} {I:Nat->Prop} {rt:Nat->cJ} {fp:Nat->cP} (b:bg C st f w I rt fp) (d:∀a,C.I0 a\/C.B a->a<C.w0.heap.size/\¬C.F0 a) (e:iw E C.I0 C.w0):iw E I w:=
 e.mono b.i0 λa c=>b.frame a (d a (.inl c)).1 (d a (.inl c)).2
def bg.call {C:c8} {st:aA} {kg:cH} {w:World} {I:Nat->Prop} {rt:Nat->cJ} {fp:Nat->cP} (J:bg C st kg w I rt fp) {o d2:Nat} {q:List ah} {ap:cJ} (d8:gd (bk (aY I C.B) w st.h rt fp) q ap) {m:List e5} {k:List ay} (gl:oB E d2 m k) (av:lv st.h (dZ q m) q m) (W:kw o st q m k=true) (i0:∀N:cE,(∀e∈N.flatten,∃id c,ai st.h id=some c/\e∈fp id)->Df w ap N (mf 0 m)) (f6:iw E I w):Calls E.P d2 ap.toArray w (λQ w'=>∃I' H G v,Q=.returned (m6 v)/\kr C st w w' I I' rt fp (dZ q m) (sE (jC q m)) (hp q m++gB o (gj k) 0 k) H G/\Jx (aY I' C.B) w' o k H (m6 v)):=by
 simp only[kw,a2,et] at W;obtain⟨⟨cs,cv⟩,hw⟩:=W;have cs:=gX.ok cs;have cv:=gX.ok cv
 let D:=dZ q m
 let B':Nat->Prop:=λe=>C.B e\/∃id c,ai st.h id=some c/\bU id D=false/\e∈fp id
 have f4:∀e,C.B e->B' e:=λe f=>.inl f;have f5:∀id c,ai st.h id=some c->bU id D=false->∀e∈fp id,B' e:=λid c r l e f=>.inr ⟨id,c,r,l,f⟩;obtain⟨N,hi,el⟩:=DS J (B':=B') (S:=D) f4 f5 (args:=m) d8 av;have fs:∀id∈D,∃c,ai st.h id=some c:=λid p=>Iu av id p;have V:∀e∈N.flatten,∃id∈D,∃c,ai st.h id=some c/\e∈fp id:=(by intro e f;rw[el] at f;obtain⟨la,F,y⟩:=hH.1 f;obtain⟨id,p,rfl⟩:=b0.1 F;obtain⟨c,r⟩:=fs id p;exact⟨id,p,c,r,y⟩);have hr:N.flatten.Nodup:=(by rw[el];exact BL J fs cs);have go:=gl w I B' ap N (λe f=>by
  rcases f with f|f|⟨id,c,r,_,f⟩
  ·exact J.ib e (.inl f)
  ·exact J.ib e (.inr f)
  ·exact((J.tree id c r).2.2 e f).2.2.1) hi hr (λe f=>by
  obtain⟨id,p,c,r,T⟩:=V e f;obtain⟨ao,a0,an,fT⟩:=(J.tree id c r).2.2 e T;refine⟨ao,?_,an⟩;rintro(x|⟨ft,a3,i1,l,gf⟩)
  ·exact a0 x
  ·have io:id≠ft:=λQ=>(by rw[<-Q,eN.2 p] at l;cases l);exact J.dis id ft c a3 r i1 io e T gf) (i0 N λe f=>by
  obtain⟨id,_,c,r,T⟩:=V e f;exact⟨id,c,r,T⟩) f6
 refine go.mono ?_;rintro Q w' ⟨I',M,L,v,rfl,u⟩;obtain⟨O,Z,ad,am,fn⟩:=HB u.res;have em:=(zV u.args).2;have d7:lv st.h D q m:=av
 let n:List (Nat×tO):=eF rt q m M++it o (gj k) 0 k O L
 have d6:n.map (λb=>(b.1,b.2.1))=hp q m++gB o (gj k) 0 k:=(by simp only[n,hf];rw[Hd em,zb Z ad]);have d5:(n.map (·.1)).Nodup:=(by have:n.map (·.1)=(n.map (λb=>(b.1,b.2.1))).map (·.1):=(by simp[nB]);rw[this,d6];exact cv);have gt:((eF rt q m M).map (λb=>b.2.2.2)).flatten=M.flatten:=Hc d7 u.args;have hc:((it o (gj k) 0 k O L).map (λb=>b.2.2.2)).flatten.Sublist L.flatten:=HC;have d4:((n.map λb=>b.2.2.2).flatten).Sublist (M.flatten++L.flatten):=(by simp only[n,hf,oI];rw[gt];exact List.Sublist.append (List.Sublist.refl _) hc);obtain⟨f9,f8⟩:=OQ (u.sU.sublist d4);have fa:∀b∈eF rt q m M,aD (aY I' C.B) w' b.2.1.1 b.2.2.1 b.2.1.2 b.2.2.2/\b.2.2.1=rt b.1/\b.1∈D/\∃c,ai st.h b.1=some c/\b.2.1.1=c.1:=(by exact He J (S:=D) (args:=m) (gs:=M) d8 av u.args);have gc:∀b∈n,aD (aY I' C.B) w' b.2.1.1 b.2.2.1 b.2.1.2 b.2.2.2/\(b.1∈D\/ai st.h b.1=none):=by
  intro b z;rcases eR.1 z with z|z
  ·obtain⟨ao,_,an,_⟩:=fa b z;exact⟨ao,.inl an⟩
  obtain⟨g,aj,U,a4⟩:=HD Z ad b z;have ic:g<v.length:=(by rw[am];exact(ej.1 aj).1);obtain⟨_,X⟩:=fn g _ _ _ v[g] aj U a4 ab;refine⟨X.mono (λds e l=>⟨?_,br.refl _ _⟩) (λe _=>br.refl _ _),.inr ?_⟩
  ·cases ds
   ·exact l
   exact l.elim .inl (λx=>x.elim)
  have l:(b.1,b.2.1)∈gB o (gj k) 0 k:=(by rw[<-zb (d:=o) (s:=gj k) (j:=0) Z ad];exact b0.2 ⟨b,z,rfl⟩);exact Option.isNone_iff_eq_none.1 (hw _ l)
 have f7:∀b∈n,∀e∈b.2.2.2,e∈M.flatten++L.flatten:=λb z e f=>d4.subset (hH.2 ⟨_,b0.2 ⟨b,z,rfl⟩,f⟩);have dl:∀g,ai (hp q m++gB o (gj k) 0 k) g=(ai n g).map (·.1):=λg=>by rw[<-d6];exact FL (λb:tO=>b.1) n g
 let H:Nat->cJ:=λg=>match ai n g with|some b=>b.2.1|none=>[]
 let G:Nat->cP:=λg=>match ai n g with|some b=>b.2.2|none=>[]
 have i3:kr C st w w' I I' rt fp D (sE (jC q m)) (hp q m++gB o (gj k) 0 k) H G:=
  ⟨u.size,u.os,u.tape,u.output,λe f ge=>u.heap e f (λgr=>by obtain⟨id,p,c,r,T⟩:=V e gr;exact ge id p c r T),u.evo,u.i,(λe f=>by
    rcases u.i2 e f with x|⟨F,y|y⟩
    ·exact .inl x
    ·exact .inr ⟨F,.inl y⟩
    exact .inr ⟨F,.inr (V e y)⟩),
   (λid c p=>by
    rw[dl] at p;cases R:ai n id with
    |none=>rw[R] at p;cases p
    |some b=>
     rw[R] at p;obtain rfl:b.1=c:=dF p;have l:=vb R;obtain⟨F,y⟩:=gc _ l;refine⟨y,by simp only[H,G,R];exact F,by simp only[G,R];exact f9 _ l,λe f=>?_⟩;simp only[G,R] at f;obtain⟨ao,a0,an,fT⟩:=u.D4 e (f7 _ l e f);exact⟨ao,an,fT.imp (λx=>x) (V e)⟩),
   (λY d1 c le ci co hv e f=>by
    rw[dl] at ci co;cases bl:ai n Y with
    |none=>rw[bl] at ci;cases ci
    |some i8=>
     cases bs:ai n d1 with
     |none=>rw[bs] at co;cases co
     |some jn=>
      simp only[G,bl] at f;simp only[G,bs];exact f8 Y d1 i8 jn bl bs hv e f),
   (λf0 ce c r=>by
    obtain⟨id,p,rfl⟩:=b0.1 ce;obtain⟨b,z,Q,_⟩:=Fv (rt:=rt) d7 em id p;subst Q;have l:b∈n:=lC _ z;have eq:=yC d5 l;obtain⟨_,y,_,a3,d3,f3⟩:=fa b z;rw[r] at d3;obtain rfl:=dF d3;exact⟨b.2.1,by rw[dl,eq];rfl,f3,by simp only[H,eq];exact y,⟨c.1,by cases c.1<;>rfl⟩,λb _ _ _ W=>by rw[yv] at W;cases W⟩),
   (λf0 ce c r b _ _ _ _ _ d9=>by
    obtain⟨id,p,rfl⟩:=b0.1 ce;rw[qH] at d9;cases d9)⟩
 refine⟨I',H,G,v,rfl,i3,λF jp f2 hs=>?_⟩;have fz:∀(g:Nat) (c:ay) (A:Value),k[g]?=some c->v[g]?=some A->bk (aY I' C.B) w' F jp f2 (bif c.1.pure then .val c.1 c.2 else .ref (oh o (gj k) (0+g)) []) A:=by
  intro g c A aj U;have ic:g<k.length:=(ej.1 aj).1;obtain⟨a4,X⟩:=fn g c O[g] L[g] A aj ab ab U;subst a4;cases fb:c.1.pure with
  |true=>
   simp only[cond_true];have:=X.pure fb;rw[this] at X;refine .val (X.mono (λds e l=>⟨?_,br.refl _ _⟩) ab);cases ds
   ·exact l
   exact l.elim .inl (λx=>x.elim)
  |false=>
   simp only[cond_false];have ex:=HE (d:=o) (s:=gj k) (j:=0) Z ad g c O[g] L[g] aj ab ab fb;have l:(oh o (gj k) (0+g),(c,O[g],L[g]))∈n:=kl _ ex;have ii:(oh o (gj k) (0+g),c)∈gB o (gj k) 0 k:=(by rw[<-zb (d:=o) (s:=gj k) (j:=0) Z ad];exact b0.2 ⟨_,ex,rfl⟩);obtain⟨ao,a0⟩:=hs _ ii;refine .ref (t:=c) (loc:=none) ao ?_;have f1:H (oh o (gj k) (0+g))=O[g]:=(by simp only[H,yC d5 l]);rw[a0,f1];exact aF.here
 cases K:k with
 |nil=>
  have:v=[]:=kU (by rw[am,K];rfl);subst this;exact .dh (vs:=#[]) rfl (λY a A x=>by simp[pI] at x)
 |cons c d0=>
  cases d0 with
  |nil=>
   obtain⟨A,rfl⟩:∃A,v=[A]:=rL.1 (by rw[am,K];rfl);have:=fz 0 c A (by rw[K];rfl) rfl;rw[K] at this;exact this
  |cons kd d0=>
   have is:m6 v=.tuple v.toArray:=by
    have:v.length=(c::kd::d0).length:=by rw[am,K]
    match v,this with
    |v1::dz::lb,_=>rfl
   rw[is];refine .dh (by simp[Hz,am,K]) (λY k0 A F y=>?_);obtain⟨a3,aj,U⟩:=Hy F;have:=fz Y a3 A (by rw[K];exact aj) (by simpa using y);rw[K] at this;rw[U];exact this
def HF {a:Nat} {d:Bool} {c:List ay} {e:List (Nat×ay)} (f:((e++gB a d 0 c).map (·.1)).Nodup):∀b∈gB a d 0 c,ai (e++gB a d 0 c) b.1=some b.2:=
 λb g=>yC f (kl _ g)
def c5.call {Q:aA->Prop} {k d:Nat} {m:Oper} {f:Operand} {c:List ah} {b s:Array _} (S:m.op=.call {callee:=.value f,args:=b,argTypes:=s}) (Z:aE st.g f=.bY d c) (K:m.dst=some k) (L:C.ok k) (H:∀(r:cH) (w:World),(callFunc d r).run E.P w=.ok (.enter d r) w) {i:List e5} {n:List ay} (G:oB E d i n) (W:mf 0 i=none) (z:∀j,C.I0 j\/C.B j->j<C.w0.heap.size/\¬C.F0 j) (A:iw E C.I0 C.w0) (D:lv st.h (dZ (b.toList.map (aE st.g)++c) i) (b.toList.map (aE st.g)++c) i) (p:kw k st (b.toList.map (aE st.g)++c) i n=true) (u:Q (KH k st (b.toList.map (aE st.g)++c) i n)):c5 E C m st Q:=by
 rintro a w ⟨I,rt,fp,l⟩ next ap R
 obtain⟨e,Y,y⟩:∃e:cH,a.eval f=.func (.func d) #[] e/\gd (bk (aY I C.B) w st.h rt fp) c e.toList:=by
  have o:=l.aE f;rw[Z] at o;generalize bs:a.eval f=ci at o;cases o with|bY N M=>
  exact⟨_,rfl,wy (by simpa using N) (λad a j v x=>M ad a j v (by simpa using x))⟩
 have F:gd (bk (aY I C.B) w st.h rt fp) (b.toList.map (aE st.g)++c) (b.toList.map a.eval++e.toList):=zT (zU (λf=>l.aE f) _) y;have J:=l.call F G D p (λ_ _=>by rw[W];trivial) (l.glob z A);generalize bl:b.toList.map (aE st.g)++c=a0 at*;have V:(execOp a.eval m).run E.P w=.ok (.enter d (b.toList.map a.eval++e.toList).toArray) w:=(by have aj:b.map a.eval=(b.toList.map a.eval).toArray:=(by rw[<-Array.toList_map]);have t:(b.toList.map a.eval++e.toList).toArray=(b.toList.map a.eval).toArray++e:=ab;rw[t];simp only[execOp,S,resolve,aj,Sem.run_bind,Y,Deferred.ofValue,Sem.run_pure,Result.andThen_ok,invoke,Array.empty_append,Array.append_empty];exact H _ _);unfold Oper.wp;rw[V];show Calls E.P d _ w _;refine J.mono ?_;rintro a3 w' ⟨I',ce,a4,an,rfl,X,U⟩;show next (a.put m.dst (m6 an)) w'
 rw[K];have q:=p;simp only[kw,a2] at q;have O:=gX.ok q.1.2;refine R _ _ _ u rfl ⟨I',_,_,(l.e0 X).put L (av:=ri k n) (U _ _ _ (λam T=>?_))⟩;have:=HF O am T;exact⟨by rw[hQ,this];rfl,by simp only[de,this]⟩
end
end
end Go.hX
end
