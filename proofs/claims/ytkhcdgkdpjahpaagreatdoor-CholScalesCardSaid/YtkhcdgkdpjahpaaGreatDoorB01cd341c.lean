/-
  Parts of the proof: Fw1, Fw2, Fw3, Fw4, Fw5, Fw6, Fw7, Fw8, Fw40, Fw41, Fw9, Fw10, Fw11, Fw12, Fw13, Fw14, Fw15, Fw16, Fw17, Fw18, Fw19, Fw20: the framework (Fw), pure forms (Dn), plain laws (Pl, Th), calls of functions (Ok).
-/
import Derived.Laws.AppendOwn
import Derived.ArgAppend
import Derived.Laws.IdiomCopy
import Derived.Laws.Cells
import Derived.Laws.MakeOwn
import Derived.Calls
import Derived.Orders
import Derived.Laws.Entries
import Derived.Maps.RangeRun

set_option linter.all false
set_option maxHeartbeats 1000000
theorem U{p:Prop}(h:p:=by omega):p:=h
theorem aa{p:Prop}(h:p:=by decide):p:=h
theorem ab{p:Prop}(h:p:=by simp):p:=h
abbrev ag:=@if_neg
abbrev ak:=@if_pos
abbrev aP:=@Option.bind_some
abbrev aZ:=@Nat.le_refl
abbrev a2:=@Bool.and_eq_true
abbrev bi:=@Nat.lt_or_ge
abbrev bj:=@Nat.le_trans
abbrev bw:=@Option.some.injEq
abbrev bB:=@List.getElem?_eq_getElem
abbrev bP:=@Option.bind_eq_some_iff
abbrev b0:=@List.mem_map
abbrev c4:=@Nat.pow_add
abbrev dk:=@Int.toNat_natCast
abbrev dm:=@List.getElem_mem
abbrev dw:=@List.mem_cons
abbrev dD:=@Nat.mul_le_mul_right
abbrev dE:=@Option.map_eq_some_iff
abbrev dF:=@Option.some.inj
abbrev dL:=@List.take_of_length_le
abbrev dU:=@Nat.eq_of_beq_eq_true
abbrev dX:=@Int.eq_ofNat_of_zero_le
abbrev ec:=@Int.le_of_lt
abbrev ej:=@List.getElem?_eq_some_iff
abbrev ek:=@Nat.le_of_ble_eq_true
abbrev et:=@List.all_eq_true
abbrev eB:=@List.length_take
abbrev eG:=@List.map_cons
abbrev eH:=@List.mem_cons_of_mem
abbrev eR:=@List.mem_append
abbrev eT:=@Nat.two_pow_pos
abbrev eU:=@Nat.zero_le
abbrev e1:=@Int.mul_assoc
abbrev e6:=@Prod.mk.injEq
abbrev fd:=@List.cons.injEq
abbrev fe:=@List.mem_singleton
abbrev fy:=@Nat.add_mul
abbrev fA:=@Nat.lt_of_lt_of_le
abbrev fI:=@Int.mul_comm
abbrev fQ:=@Nat.one_mul
abbrev ga:=@Nat.min_eq_left
abbrev gb:=@Nat.mul_assoc
abbrev gq:=@List.getElem?_map
abbrev gu:=@List.mem_filter
abbrev gE:=@Bool.or_eq_true
abbrev gG:=@Nat.eq_zero_or_pos
abbrev gN:=@List.length_map
abbrev gO:=@Nat.mul_le_mul
abbrev g2:=@List.length_cons
abbrev g3:=@List.mem_iff_getElem
abbrev g4:=@List.nil_append
abbrev he:=@Int.emod_add_mul_ediv
abbrev hf:=@List.map_append
abbrev hg:=@List.mem_range
abbrev hh:=@Option.bind_assoc
abbrev hj:=@Option.map_some
abbrev hq:=@Int.lt_or_le
abbrev ht:=@List.getD_eq_getElem?_getD
abbrev hu:=@List.map_congr_left
abbrev hx:=@List.pairwise_iff_getElem
abbrev hy:=@Nat.pow_succ
abbrev hG:=@List.getElem?_eq_none
abbrev hH:=@List.mem_flatten
abbrev hI:=@List.nodup_append
abbrev hL:=@Nat.mul_comm
abbrev hY:=@List.ext_getElem?
abbrev hZ:=@List.nodup_cons
abbrev h0:=@Nat.mul_le_mul_left
abbrev h1:=@Nat.zero_add
abbrev iy:=@Int.pow_add
abbrev iA:=@List.cons_append
abbrev iB:=@List.flatten_cons
abbrev iC:=@List.getElem?_cons_zero
abbrev iW:=@Int.mul_le_mul_of_nonneg_left
abbrev iX:=@Int.zero_mul
abbrev jk:=@List.length_filter_le
abbrev jN:=@Int.mul_le_mul_of_nonneg_right
abbrev jO:=@Int.natAbs_mul
abbrev jP:=@Int.natAbs_natCast
abbrev jQ:=@Int.pow_pos
abbrev jS:=@List.getElem?_drop
abbrev jT:=@List.getElem?_set_self
abbrev jU:=@List.mem_of_getElem?
abbrev jV:=@List.take_add_one
abbrev kf:=@Bool.not_true
abbrev kh:=@Int.mul_nonneg
abbrev ki:=@List.getElem?_set_ne
abbrev kj:=@List.getElem?_take_of_lt
abbrev kk:=@List.length_drop
abbrev kl:=@List.mem_append_right
abbrev km:=@List.take_append_drop
abbrev kT:=@Int.ediv_nonneg
abbrev kU:=@List.eq_nil_of_length_eq_zero
abbrev kV:=@List.filter_cons
abbrev lw:=@Array.getElem?_eq_some_iff
abbrev ly:=@Bool.not_false
abbrev lA:=@List.filter_eq_self
abbrev lB:=@List.getElem?_replicate
abbrev lC:=@List.mem_append_left
abbrev lD:=@List.mem_cons_self
abbrev lE:=@Nat.add_zero
abbrev mw:=@Int.le_refl
abbrev mx:=@Int.natCast_mul
abbrev mA:=@List.any_eq_true
abbrev mB:=@List.drop_zero
abbrev mC:=@List.getElem?_append_left
abbrev mD:=@List.length_append
abbrev nl:=@Array.mem_append_right
abbrev nm:=@Bool.eq_iff_iff
abbrev nq:=@Int.ediv_eq_zero_of_lt
abbrev nr:=@Int.emod_eq_of_lt
abbrev ns:=@Int.emod_nonneg
abbrev nt:=@Int.mul_left_comm
abbrev nu:=@Int.mul_pos
abbrev nv:=@Int.neg_mul
abbrev nw:=@List.drop_eq_nil_of_le
abbrev nx:=@List.filter_append
abbrev ny:=@List.getElem?_append_right
abbrev nz:=@List.getElem?_cons_succ
abbrev nA:=@List.length_replicate
abbrev nB:=@List.map_map
abbrev nC:=@Nat.add_sub_cancel_left
abbrev nD:=@Nat.pow_le_pow_right
abbrev oE:=@Int.emod_lt_of_pos
abbrev oF:=@Int.natAbs_neg
abbrev oG:=@List.append_assoc
abbrev oH:=@List.drop_drop
abbrev oI:=@List.flatten_append
abbrev oJ:=@List.length_nil
abbrev oK:=@List.pairwise_cons
abbrev oL:=@List.size_toArray
abbrev oM:=@Nat.beq_refl
abbrev pY:=@Int.ediv_ediv_of_nonneg
abbrev pZ:=@Int.ediv_lt_of_lt_mul
abbrev p0:=@List.all_cons
abbrev p1:=@List.append_nil
abbrev p2:=@List.count_append
abbrev p3:=@List.drop_append_of_le_length
abbrev p4:=@List.drop_of_length_le
abbrev p5:=@List.perm_iff_count
abbrev p6:=@List.range_succ
abbrev p7:=@List.take_append_of_le_length
abbrev p8:=@Nat.div_add_mod
abbrev p9:=@Nat.le_div_iff_mul_le
abbrev qa:=@Nat.lt_of_le_of_lt
abbrev qb:=@Nat.lt_trichotomy
abbrev rA:=@Array.replicate_succ
abbrev rB:=@Array.replicate_zero
abbrev rE:=@Int.add_mul_ediv_left
abbrev rF:=@Int.ediv_le_self
abbrev rG:=@List.any_eq_false
abbrev rH:=@List.append_toArray
abbrev rI:=@List.getElem?_take
abbrev rJ:=@List.getElem_map
abbrev rK:=@List.getElem_set_ne
abbrev rL:=@List.length_eq_one_iff
abbrev rM:=@List.push_toArray
abbrev rN:=@Nat.div_le_self
abbrev rP:=@Option.getD_some
abbrev tq:=@Array.getElem?_eq_getElem
abbrev tr:=@Array.getElem?_modify
abbrev ts:=@Array.getElem?_toList
abbrev tz:=@Int.add_mul_emod_self_left
abbrev tA:=@Int.mul_lt_mul_of_pos_right
abbrev tB:=@Int.mul_ne_zero
abbrev tC:=@Int.natCast_ediv
abbrev tD:=@List.append_of_mem
abbrev tE:=@List.filter_cons_of_neg
abbrev tF:=@List.map_toArray
abbrev tG:=@List.mem_toArray
abbrev tH:=@List.pairwise_map
abbrev tI:=@List.take_length
abbrev tK:=@Nat.add_sub_cancel
abbrev tL:=@Nat.le_add_right
abbrev tM:=@Nat.mul_left_comm
abbrev tN:=@Nat.mul_lt_mul_of_pos_right
abbrev vZ:=@Array.getD_eq_getD_getElem?
abbrev v9:=@Int.fdiv_eq_ediv_of_nonneg
abbrev wa:=@Int.mul_eq_mul_right_iff
abbrev wb:=@Int.tdiv_eq_ediv_of_nonneg
abbrev wc:=@Int.tmod_eq_emod_of_nonneg
abbrev wd:=@List.filter_cons_of_pos
abbrev we:=@List.getElem?_range
abbrev wg:=@Nat.div_lt_iff_lt_mul
abbrev wh:=@Nat.le_mul_of_pos_left
abbrev wi:=@Nat.testBit_two_pow
abbrev wk:=@Option.isSome_some
abbrev zz:=@Array.getElem?_setIfInBounds_ne
abbrev zH:=@Option.isSome_iff_exists
abbrev b1:=List Int×(Option (List (List Int)×Unit)×Unit)×Unit
abbrev b2:=Int×(List (List Int)×Unit)×List (List Bool)×Unit
abbrev b3:=(List (List Int)×Unit)×List (List Bool)×Unit
abbrev b4:=(Int×List Bool×Unit)⊕(List Bool×Unit)
abbrev b5:=(List (List Int)×Unit)×List Int×Unit
abbrev b6:=Int×(List Int×(List Int×Unit))×Unit
abbrev b8:=(Int×Int×Unit)⊕(Unit⊕(Bool×Unit))
abbrev b9:=(List Int×(List Int×Unit))×Unit
abbrev ca:=(List (List Int)×Unit)×Int×Unit
abbrev cb:=(Int×Unit)⊕(Unit⊕(Int×Unit))
abbrev cc:=(List (List Int)×Unit)×Unit
abbrev cd:=List Int×(List Int×Unit)
abbrev cf:=List (List Bool)×Unit
abbrev cg:=List (List Int)×Unit
abbrev ch:=Int×List Bool×Unit
abbrev cj:=List Int×Int×Unit
abbrev ck:=Int×List Int×Unit
abbrev cl:=Nat×Nat×List Nat
abbrev cm:=Unit⊕(Bool×Unit)
abbrev cn:=Int×Int×Int×Unit
abbrev cp:=Unit⊕(Int×Unit)
abbrev cq:=List Bool×Unit
abbrev cr:=Int×Bool×Unit
abbrev ct:=List Int×Unit
abbrev cu:=Bool×Int×Unit
abbrev cw:=Int×Int×Unit
abbrev cx:=Bool×Unit
abbrev cy:=Int×Unit
abbrev cz:=Nat×Nat
abbrev cA:=List (List Go.Value)
abbrev cB:=Option (List Int)
abbrev cC:=List (Option Int)
abbrev cD:=List (List Bool)
abbrev cE:=List (List Nat)
abbrev cF:=List (List Int)
abbrev cG:=Option Go.Operand
abbrev cH:=Array Go.Value
abbrev cI:=List Go.TypeId
abbrev cJ:=List Go.Value
abbrev cK:=Option Int
abbrev cL:=Option Nat
abbrev cM:=List Bool
abbrev cN:=Option cx
abbrev cO:=Option cy
abbrev cP:=List Nat
abbrev cQ:=List Int
abbrev cR:=List cz
noncomputable section
namespace Go.hX
variable{a w H:TypeId}{b h:Operand}{c g N P:Nat}{e k:World}{i A:cJ}{l F V:Nat->Prop}{n:cP}{p:Nat->cJ}{q:Nat->cP}{r T:Option Addr}{s:Exit->Act->World->Prop}{t:Array MapEntry}{u:IntKind}{y G:Type}{B:cH}{D:Array (Nat×Operand)}{E:Value}{O:Program}{S:Int}
inductive bI where
 |bm
 |dO
 deriving DecidableEq
variable{f:bI->Nat->Prop}{Q:bI}
inductive ae where
 |int (k:IntKind)
 |bool
 |str
 |aU (m:bI) (t:ae)
 |ptr (m:bI) (t:ae)
 |osl (t:ae)
 |optr (t:ae)
 |st (t:ae)
 |pr (a b:ae)
 |nil
 |bJ
 |mp (t:ae)
 |di (m:bI) (t:ae)
 deriving DecidableEq
variable{d o R:ae}{j:List (Nat×ae)}
def ae.size:ae->Nat
 |.pr a b=>a.size+b.size
 |.st c=>c.size
 |.nil|.bJ=>0
 |_=>1
@[reducible] def ae.den:ae->Type
 |.int _=>Int
 |.bool=>Bool
 |.str=>ByteArray
 |.aU _ a=>List a.den
 |.ptr _ a=>Option a.den
 |.osl a=>List a.den
 |.optr a=>a.den
 |.st a=>a.den
 |.pr b c=>b.den×c.den
 |.nil=>Unit
 |.bJ=>Unit
 |.mp a=>Option (List (Int×a.den)×Nat)
 |.di _ a=>Option (List (Int×a.den)×Nat)
def hJ {d:Type} (b:List (Int×Nat×d)) (c:List (Int×d)) (g:Nat):Prop:=
 c.Pairwise (λe f=>e.1<f.1)/\(b.map λa=>(a.1,a.2.2)).Perm c/\(b.map λa=>a.2.1).Nodup/\∀a∈b,a.2.1<g
def bn:ae->cJ->Value
 |.st _,a=>.agg a.toArray
 |_,a=>a.headD undef
def du (f:World) (c e:Nat) (d:cJ):Prop:=∀a b,d[a]?=some b->f.cell? ⟨c,e+a,none⟩=some b
def gM (c:World) (b e d:Nat):Prop:=∀a,e<=a->a<d->(c.cell? ⟨b,a,none⟩).isSome=true/\c.frozen? ⟨b,a,none⟩=false
def gz (d:World) (a:Nat):Option (Array MapEntry×Nat):=match d.heap[a]? with
 |some (.map c b)=>some (c,b)
 |_=>none
def br (c d:World) (a:Nat):Prop:=(∀b,d.cell? ⟨a,b,none⟩=c.cell? ⟨a,b,none⟩/\d.frozen? ⟨a,b,none⟩=c.frozen? ⟨a,b,none⟩)/\gz d a=gz c a
def br.refl (a:World) (b:Nat):br a a b:=⟨λ_=>⟨rfl,rfl⟩,rfl⟩
theorem br.of_heap (b:k.heap[c]?=e.heap[c]?):br e k c:=
 ⟨λd=>⟨World.cell?_of_block (a:=⟨c,d,none⟩) b,World.frozen?_of_block (a:=⟨c,d,none⟩) b⟩,by grind [gz]⟩
def hU (j k:World) (d:Nat):Prop:=∀f b,gz j d=some (f,b)->∃g e,gz k d=some (g,e)/\b<=e/\∀(h:Nat) (a:MapEntry),g[h]?=some a->a.born<b->∃(i:Nat) (c:MapEntry),f[i]?=some c/\c.key=a.key/\c.born=a.born
def hU.of_eq (f:gz k c=gz e c):hU e k c:=
 λd a h=>⟨d,a,f.trans h,aZ _,λi b g _=>⟨i,b,g,rfl,rfl⟩⟩
def hU.refl (a:World) (b:Nat):hU a a b:=.of_eq rfl
def hU.of_heap {b c:World} {a:Nat} (d:c.heap[a]?=b.heap[a]?):hU b c a:=.of_eq (br.of_heap d).2
theorem hU.trans {a:World} (h:hU e k c) (i:hU k a c):hU e a c:=λf b l=>by obtain⟨g,d,j,o,p⟩:=h f b l;obtain⟨n,m,q,r,s⟩:=i g d j;grind
def du.dT (a:du e c g i) (d:br e k c):du k c g i:=
 λf h b=>by rw[(d.1 _).1];exact a f h b
def gM.dT (b:gM e c N g) (a:br e k c):gM k c N g:=
 λh d f=>by rw[(a.1 _).1,(a.1 _).2];exact b h d f
def aD (i:bI->Nat->Prop) (f:World):(A:ae)->cJ->A.den->cP->Prop
 |.int x,b,y,d=>d=[]/\b=[.int x y]
 |.bool,b,a,d=>d=[]/\b=[.bool a]
 |.str,b,z,d=>d=[]/\b=[.string z]
 |.aU s c,b,l,d=>d=[]/\∃k n,b=[.slice k l.length n]/\l.length<=n/\(k=none->n=0)/\(l=[]\/∃a h,k=some ⟨a,h,none⟩/\i s a/\∀j g,l[j]?=some g->∃e,e.length=c.size/\du f a (h+j*c.size) e/\aD i f c e g [])
 |.ptr s c,b,g,d=>d=[]/\match g with
  |none=>b=[.pointer none]
  |some v=>∃a h e,b=[.pointer (some ⟨a,h,none⟩)]/\i s a/\e.length=c.size/\du f a h e/\aD i f c e v []
 |.osl c,b,l,d=>∃k n,b=[.slice k l.length n]/\((
   k=none/\l=[]/\n=0/\d=[])\/∃(a h:Nat) (t:cE),k=some ⟨a,h,none⟩/\d=a::t.flatten/\t.length=l.length/\l.length<=n/\
   gM f a h (h+n*c.size)/\∀j g r,l[j]?=some g->t[j]?=some r->∃e,e.length=c.size/\du f a (h+j*c.size) e/\aD i f c e g r)
 |.optr c,b,v,d=>∃a h r e,b=[.pointer (some ⟨a,h,none⟩)]/\d=a::r/\e.length=c.size/\du f a h e/\gM f a h (h+c.size)/\aD i f c e v r
 |.st c,b,g,d=>aD i f c b g d
 |.pr k a,b,g,d=>∃w f2,d=w++f2/\aD i f k (b.take k.size) g.1 w/\aD i f a (b.drop k.size) g.2 f2
 |.nil,b,_,d=>d=[]/\b=[]
 |.bJ,b,_,_=>b=[]
 |.mp c,b,g,d=>match g with
  |none=>d=[]/\b=[.map none]
  |some (u,q)=>∃(a:Nat) (p:Array MapEntry) (o:List (Int×Nat×c.den)),b=[.map (some a)]/\d=[a]/\hJ o u q/\gz f a=some (p,q)/\p.size=o.length/\∀(j:Nat) (m:Int×Nat×c.den),o[j]?=some m->∃e:cJ,e.length=c.size/\p[j]?=some (MapEntry.mk (.int .i64 m.1) (bn c e) m.2.1)/\aD i f c e m.2.2 []
 |.di s c,b,g,d=>match g with
  |none=>d=[]/\b=[.map none]
  |some (u,q)=>∃(a:Nat) (p:Array MapEntry) (o:List (Int×Nat×c.den)),b=[.map (some a)]/\d=[]/\hJ o u q/\i s a/\gz f a=some (p,q)/\p.size=o.length/\∀(j:Nat) (m:Int×Nat×c.den),o[j]?=some m->∃e:cJ,e.length=c.size/\p[j]?=some (MapEntry.mk (.int .i64 m.1) (bn c e) m.2.1)/\aD i f c e m.2.2 []
theorem aD.len {i:bI->Nat->Prop} {r:World}:∀{τ:ae} {e:cJ} {b:τ.den} {l:cP},aD i r τ e b l->e.length=τ.size
 |.int _,_,_,_,a=>by rw[a.2];rfl
 |.bool,_,_,_,a=>by rw[a.2];rfl
 |.str,_,_,_,a=>by rw[a.2];rfl
 |.aU _ _,_,_,_,a=>by obtain⟨_,c,g,a,_⟩:=a;rw[a];rfl
 |.ptr _ _,_,b,_,a=>by
  obtain⟨_,a⟩:=a;cases b with
  |none=>simp only at a;rw[a];rfl
  |some w=>obtain⟨d,v,j,a,_⟩:=a;rw[a];rfl
 |.osl _,_,_,_,a=>by obtain⟨c,g,a,_⟩:=a;rw[a];rfl
 |.optr _,_,_,_,a=>by obtain⟨c,g,s,j,a,_⟩:=a;rw[a];rfl
 |.st f,_,_,_,a=>aD.len (τ:=f) a
 |.pr c d,e,_,_,a=>by obtain⟨t,f2,_,m,n⟩:=a;have o:=aD.len (τ:=c) m;have p:=aD.len (τ:=d) n;simp only[eB,kk] at o p;show e.length=c.size+d.size;omega
 |.nil,_,_,_,a=>by rw[a.2];rfl
 |.bJ,_,_,_,a=>by rw[show _=[] from a];rfl
 |.mp f,_,b,_,a=>by
  cases b with
  |none=>rw[a.2];rfl
  |some q=>obtain⟨d,k,h,a,_⟩:=a;rw[a];rfl
 |.di u f,_,b,_,a=>by
  cases b with
  |none=>rw[a.2];rfl
  |some q=>obtain⟨d,k,h,a,_⟩:=a;rw[a];rfl
theorem aD.one {j:bI->Nat->Prop} {r:World}:∀{τ:ae} {cs:cJ} {c:τ.den} {l:cP},aD j r τ cs c l->∀e∈cs,e.oneCell'=true
 |.int _,_,_,_,a=>by rw[a.2];simp[Value.oneCell']
 |.bool,_,_,_,a=>by rw[a.2];simp[Value.oneCell']
 |.str,_,_,_,a=>by rw[a.2];simp[Value.oneCell']
 |.aU _ _,_,_,_,a=>by obtain⟨_,d,h,a,_⟩:=a;grind [Value.oneCell']
 |.ptr _ _,_,c,_,a=>by obtain⟨_,a⟩:=a;grind [Value.oneCell']
 |.osl _,_,_,_,a=>by obtain⟨d,h,a,_⟩:=a;grind [Value.oneCell']
 |.optr _,_,_,_,a=>by obtain⟨d,h,f,s,a,_⟩:=a;grind [Value.oneCell']
 |.st t,_,_,_,a=>aD.one (τ:=t) a
 |.pr d g,cs,_,_,a=>by
  obtain⟨u,f2,_,m,n⟩:=a;have o:=aD.one (τ:=d) m;have p:=aD.one (τ:=g) n;intro e b;rw[<-km d.size cs] at b;rcases eR.1 b with b|b
  ·exact o e b
  exact p e b
 |.nil,_,_,_,a=>by rw[a.2];simp
 |.bJ,_,_,_,a=>by rw[show _=[] from a];simp
 |.mp t,_,c,_,a=>by
  cases c with
  |none=>rw[a.2];simp[Value.oneCell']
  |some q=>obtain⟨g,k,i,a,_⟩:=a;grind [Value.oneCell']
 |.di v t,_,c,_,a=>by
  cases c with
  |none=>rw[a.2];simp[Value.oneCell']
  |some q=>obtain⟨g,k,i,a,_⟩:=a;grind [Value.oneCell']
theorem aD.mono {L M:bI->Nat->Prop} {A B:World} (d:∀j a,L j a->M j a/\br A B a):∀{τ:ae} {E:cJ} {g:τ.den} {w:cP},aD L A τ E g w->(∀a∈w,br A B a)->aD M B τ E g w
 |.int _,_,_,_,b,_=>b
 |.bool,_,_,_,b,_=>b
 |.str,_,_,_,b,_=>b
 |.aU j v,_,T,_,b,_=>by obtain⟨H,x,D,e,c,k,l⟩:=b;refine⟨H,x,D,e,c,k,l.imp id ?_⟩;rintro⟨a,u,J,i,K⟩;refine⟨a,u,J,(d j a i).1,λt g s=>?_⟩;obtain⟨h,n,o,p⟩:=K t g s;exact⟨h,n,o.dT (d j a i).2,aD.mono d p ab⟩
 |.ptr j v,_,g,_,b,_=>by
  obtain⟨H,b⟩:=b;refine⟨H,?_⟩;cases g with
  |none=>exact b
  |some U=>
   obtain⟨a,u,h,e,c,k,l,q⟩:=b;exact⟨a,u,h,e,(d j a c).1,k,l.dT (d j a c).2,aD.mono d q ab⟩
 |.osl v,_,T,w,b,f=>by obtain⟨x,D,e,c⟩:=b;refine⟨x,D,e,c.imp id ?_⟩;rintro⟨a,u,O,J,y,S,r,R,K⟩;have i:br A B a:=f a (by grind);refine⟨a,u,O,J,y,S,r,R.dT i,λt g G s Q=>?_⟩;obtain⟨h,n,o,p⟩:=K t g G s Q;refine⟨h,n,o.dT i,aD.mono d p (λm r=>f m ?_)⟩;grind [List.mem_cons_of_mem,List.mem_flatten,List.mem_of_getElem?]
 |.optr v,_,_,_,b,f=>by obtain⟨a,u,G,h,e,c,k,l,q,P⟩:=b;have i:br A B a:=f a (by grind);exact⟨a,u,G,h,e,c,k,l.dT i,q.dT i,aD.mono d P (λm r=>f m (by grind))⟩
 |.st v,_,_,_,b,f=>aD.mono (τ:=v) d b f
 |.pr x a,E,_,_,b,f=>by obtain⟨N,f2,y,e,c⟩:=b;exact⟨N,f2,y,aD.mono (τ:=x) d e (λm r=>f m (by rw[y];exact lC _ r)),aD.mono (τ:=a) d c (λm r=>f m (by rw[y];exact kl _ r))⟩
 |.nil,_,_,_,b,_=>b
 |.bJ,_,_,_,b,_=>b
 |.mp v,_,g,w,b,f=>by
  cases g with
  |none=>exact b
  |some z=>
   obtain⟨a,F,C,e,c,I,k,l,q⟩:=b;refine⟨a,F,C,e,c,I,(f a (by rw[c];simp)).2.trans k,l,λt z s=>?_⟩;obtain⟨h,n,o,p⟩:=q t z s;exact⟨h,n,o,aD.mono d p ab⟩
 |.di j v,_,g,w,b,f=>by
  cases g with
  |none=>exact b
  |some z=>
   obtain⟨a,F,C,e,c,I,i,k,l,q⟩:=b;refine⟨a,F,C,e,c,I,(d j a i).1,(d j a i).2.2.trans k,l,λt z s=>?_⟩;obtain⟨h,n,o,p⟩:=q t z s;exact⟨h,n,o,aD.mono d p ab⟩
def ae.hR:ae->Bool
 |.bJ=>false
 |.aU _ a|.ptr _ a|.osl a|.optr a|.st a|.mp a|.di _ a=>a.hR
 |.pr b c=>b.hR&&c.hR
 |_=>true
theorem aD.uniq {r:bI->Nat->Prop} {x:World}:∀{τ:ae} {p:cJ} {e k:τ.den} {h u:cP},τ.hR=true->aD r x τ p e h->aD r x τ p k u->h=u
 |.int _,_,_,_,_,_,_,a,b=>a.1.trans b.1.symm
 |.bool,_,_,_,_,_,_,a,b=>a.1.trans b.1.symm
 |.str,_,_,_,_,_,_,a,b=>a.1.trans b.1.symm
 |.aU _ _,_,_,_,_,_,_,a,b=>a.1.trans b.1.symm
 |.ptr _ _,_,_,_,_,_,_,a,b=>a.1.trans b.1.symm
 |.nil,_,_,_,_,_,_,a,b=>a.1.trans b.1.symm
 |.bJ,_,_,_,_,_,d,_,_=>by cases d
 |.di F g,p,e,k,h,u,_,a,b=>by
  have an:∀{e:(ae.di F g).den} {h:cP},aD r x (.di F g) p e h->h=[]:=λ{e h} a=>by
   cases e with
   |none=>exact a.1
   |some Q=>obtain⟨l,C,y,_,m,_⟩:=a;exact m
  grind
 |.mp g,_,e,k,_,_,_,a,b=>by
  cases e with
  |none=>
   cases k with
   |none=>exact a.1.trans b.1.symm
   |some R=>
    obtain⟨l,C,y,f,_⟩:=b;have:=a.2.symm.trans f;grind
  |some Q=>
   obtain⟨l,C,y,f,m,_⟩:=a;cases k with
   |none=>
    have:=f.symm.trans b.2;grind
   |some R=>
    obtain⟨A,ap,W,i,D,_⟩:=b;grind
 |.st g,_,_,_,_,_,d,a,b=>aD.uniq (τ:=g) d a b
 |.pr z l,_,_,_,_,_,d,a,b=>by simp only[ae.hR,a2] at d;obtain⟨a0,f2,rfl,f,m⟩:=a;obtain⟨a3,a4,rfl,E,v⟩:=b;rw[aD.uniq (τ:=z) d.1 f E,aD.uniq (τ:=l) d.2 m v]
 |.optr g,_,_,_,_,_,d,a,b=>by
  obtain⟨l,O,h,j,f,rfl,E,v,_,L⟩:=a;obtain⟨A,P,av,n,i,rfl,bl,K,_,M⟩:=b;rw[f] at i;simp only[fd,Value.pointer.injEq,bw,Addr.mk.injEq,and_true] at i;obtain⟨rfl,rfl⟩:=i;obtain rfl:j=n:=by
   apply hY;intro c;rcases bi c j.length with w|w
   ·have ao:=v c j[c] (by grind);have S:=K c (n[c]'(by omega)) ab
    grind
   grind
  rw[aD.uniq (τ:=g) d L M]
 |.osl g,_,e,k,_,_,d,a,b=>by
  obtain⟨z,Y,f,m⟩:=a;obtain⟨X,Z,i,D⟩:=b;rw[f] at i;simp only[fd,Value.slice.injEq,and_true] at i;obtain⟨rfl,bs,rfl⟩:=i;rcases m with⟨rfl,rfl,rfl,rfl⟩|⟨l,O,s,rfl,rfl,ao,S,co,T⟩
  ·grind
  rcases D with⟨q,_⟩|⟨A,P,t,q,rfl,ce,ci,cs,V⟩
  ·cases q
  simp only[bw,Addr.mk.injEq,and_true] at q;obtain⟨rfl,rfl⟩:=q;have:s=t:=by
   apply hY;intro c;rcases bi c e.length with w|w
   ·have aj:s[c]?=some (s[c]'(by omega)):=bB U
    have B:t[c]?=some (t[c]'(by omega)):=bB U
    obtain⟨j,ad,G,I⟩:=T c e[c] _ (by grind) aj;obtain⟨n,am,H,J⟩:=V c (k[c]'(by omega)) _ ab B
    obtain rfl:j=n:=by
     apply hY;intro o;rcases bi o j.length with N|N
     ·have cv:=G o j[o] (by grind);have dl:=H o (n[o]'(by omega)) ab
      grind
     grind
    rw[aj,B,aD.uniq (τ:=g) d I J]
   grind
  grind
inductive aM where
 |idx (i:Nat)
 |deref
 |unst
 |fst
 |snd
 deriving DecidableEq
variable{m:List aM}
def bH:(τ:ae)->τ.den->List aM->(a:ae)->a.den->Prop
 |τ,d,[],a,b=>∃i:τ=a,i▸d=b
 |.osl e,k,.idx j::c,a,b=>∃f,k[j]?=some f/\bH e f c a b
 |.optr e,d,.deref::c,a,b=>bH e d c a b
 |.st e,d,.unst::c,a,b=>bH e d c a b
 |.pr g _,d,.fst::c,a,b=>bH g d.1 c a b
 |.pr _ h,d,.snd::c,a,b=>bH h d.2 c a b
 |_,_,_,_,_=>False
def dg:(τ:ae)->τ.den->List aM->(a:ae)->a.den->τ.den->Prop
 |τ,_,[],a,b,e=>∃m:τ=a,m▸e=b
 |.osl g,j,.idx i::c,a,b,n=>∃h f,j[i]?=some h/\dg g h c a b f/\n=j.set i f
 |.optr g,d,.deref::c,a,b,e=>dg g d c a b e
 |.st g,d,.unst::c,a,b,e=>dg g d c a b e
 |.pr k _,d,.fst::c,a,b,e=>∃f,dg k d.1 c a b f/\e=(f,d.2)
 |.pr _ l,d,.snd::c,a,b,e=>∃f,dg l d.2 c a b f/\e=(d.1,f)
 |_,_,_,_,_,_=>False
theorem bH.ei {a:d.den} {b:o.den}:bH d a [] o b↔∃c:d=o,c▸a=b:=by cases d<;>exact Iff.rfl
theorem dg.ei {e a:d.den} {b:o.den}:dg d e [] o b a↔∃c:d=o,c▸a=b:=by cases d<;>exact Iff.rfl
abbrev Loc:=Option cz
variable{v:Loc}
def aF (k:World):(τ:ae)->Loc->cJ->List aM->(a:ae)->Loc->cJ->Prop
 |τ,i,b,[],a,d,c=>τ=a/\i=d/\b=c
 |.osl g,_,b,.idx m::f,a,d,c=>∃e j n p h,b=[.slice (some ⟨e,j,none⟩) n p]/\m<n/\h.length=g.size/\du k e (j+m*g.size) h/\aF k g (some (e,j+m*g.size)) h f a d c
 |.optr g,_,b,.deref::f,a,d,c=>∃e j h,b=[.pointer (some ⟨e,j,none⟩)]/\h.length=g.size/\du k e j h/\aF k g (some (e,j)) h f a d c
 |.st g,i,b,.unst::f,a,d,c=>aF k g i b f a d c
 |.pr l _,i,b,.fst::f,a,d,c=>aF k l i (b.take l.size) f a d c
 |.pr l e,i,b,.snd::f,a,d,c=>aF k e (i.map λo=>(o.1,o.2+l.size)) (b.drop l.size) f a d c
 |_,_,_,_,_,_,_=>False
theorem du.eq (b:du e c g i) (d:du e c g A) (k:i.length=A.length):i=A:=by
 apply hY;intro a;rcases bi a i.length with f|f
 ·have h:=b a i[a] (by grind);have j:=d a (A[a]'(by omega)) ab
  grind
 grind
theorem aF.hl {w:World}:∀{p:List aM} {e:ae} {j:Loc} {f:cJ} {u v:ae} {g h:Loc} {q r:cJ},aF w e j f p u g q->aF w e j f p v h r->u=v/\g=h/\q=r
 |[],e,j,f,_,_,_,_,_,_,c,d=>by grind [aF]
 |s::p,e,j,f,_,_,_,_,_,_,c,d=>by
  cases e<;>cases s<;>simp only[aF] at c d
  case osl.idx t i=>
   obtain⟨m,A,E,C,y,aj,_,g,k,n⟩:=c;obtain⟨x,B,F,D,z,b,_,h,l,o⟩:=d;rw[aj] at b;simp only[fd,Value.slice.injEq,bw,Addr.mk.injEq,and_true] at b;obtain⟨⟨rfl,rfl⟩,rfl,rfl⟩:=b;obtain rfl:=k.eq l U;exact aF.hl n o
  case optr.deref t=>
   obtain⟨m,A,y,aj,g,k,n⟩:=c;obtain⟨x,B,z,b,h,l,o⟩:=d;rw[aj] at b;simp only[fd,Value.pointer.injEq,bw,Addr.mk.injEq,and_true] at b;obtain⟨rfl,rfl⟩:=b;obtain rfl:=k.eq l U;exact aF.hl n o
  case st.unst t=>exact aF.hl c d
  case pr.fst a m=>exact aF.hl c d
  case pr.snd a m=>exact aF.hl c d
def oC (c d:World) (f:Loc) (g:Nat) (b:Nat):Prop:=
 (∀a,(∀e,f=some (b,e)->a<e\/e+g<=a)->d.cell? ⟨b,a,none⟩=c.cell? ⟨b,a,none⟩)/\
 (∀a,d.frozen? ⟨b,a,none⟩=c.frozen? ⟨b,a,none⟩)/\(∀a,(d.cell? ⟨b,a,none⟩).isSome=(c.cell? ⟨b,a,none⟩).isSome)/\gz d b=gz c b
def oC.dT (a:oC e k v g c) (f:∀b,v≠some (c,b)):br e k c:=
 ⟨λd=>⟨a.1 d (λb h=>absurd h (f b)),a.2.1 d⟩,a.2.2.2⟩
def oC.E1 (a:oC e k v P c) (f:gM e c N g):gM k c N g:=
 λh b d=>by rw[a.2.1,a.2.2.1];exact f h b d
def mE (c:World) (e:Loc) (d:cJ) (f:Nat):Prop:=∀b a,e=some (b,a)->du c b a d/\gM c b a (a+f)
theorem du.take {e:World} {b d h:Nat} {c:cJ} (f:du e b d c):du e b d (c.take h):=λg i a=>by
 rw[rI] at a;split at a
 ·exact f g i a
 grind
theorem du.drop {f:World} {b e a:Nat} {c:cJ} (g:du f b e c):du f b (e+a) (c.drop a):=λh i d=>by rw[jS] at d;have:=g (a+h) i d;grind
theorem du.append (d:du e c g i) (f:du e c (g+i.length) A):du e c g (i++A):=λh b a=>by
 rw[List.getElem?_append] at a;split at a
 ·exact d h b a
 have:=f _ b a;grind
theorem SA {a:List y} {d:y} (e:a[c]?=some d):∃b f,a=b++d::f/\b.length=c:=by obtain⟨g,rfl⟩:=ej.1 e;exact⟨a.take c,a.drop (c+1),by rw[List.getElem_cons_drop,km],by grind⟩
theorem aF.dT {D:bI->Nat->Prop} {y C:World}:∀{x:List aM} {τ:ae} {u:Loc} {h:cJ} {z:τ.den} {p:cP} {A:ae} {v:Loc} {n:cJ},aD D y τ h z p->(∀a∈p,br y C a)->aF y τ u h x A v n->aF C τ u h x A v n
 |[],τ,_,_,_,_,_,_,_,_,_,b=>by cases τ<;>exact b
 |s::x,τ,u,h,z,p,A,v,n,g,d,b=>by
  cases τ<;>cases s<;>simp only[aF] at b
  case osl.idx t i=>
   obtain⟨a,w,V,F,o,rfl,N,q,f,r⟩:=b;obtain⟨m,Q,e,k⟩:=g;simp only[fd,Value.slice.injEq,and_true] at e;obtain⟨rfl,rfl,rfl⟩:=e;rcases k with⟨j,_⟩|⟨E,O,K,j,rfl,ao,W,X,P⟩
   ·cases j
   simp only[bw,Addr.mk.injEq,and_true] at j;obtain⟨rfl,rfl⟩:=j;obtain⟨I,R,G,H⟩:=P i z[i] (K[i]'(by omega)) (by grind) ab
   obtain rfl:=f.eq G U;exact⟨a,w,_,F,o,rfl,N,q,f.dT (d a ab),aF.dT H (λc l=>d c (eH _ (hH.2 ⟨_,dm U,l⟩))) r⟩
  case optr.deref t=>
   obtain⟨a,w,o,rfl,q,f,r⟩:=b;obtain⟨E,O,S,I,B,rfl,T,L,_,M⟩:=g;simp only[fd,Value.pointer.injEq,bw,Addr.mk.injEq,and_true] at B;obtain⟨rfl,rfl⟩:=B;obtain rfl:=f.eq L U;exact⟨a,w,o,rfl,q,f.dT (d a ab),aF.dT M (λc l=>d c (by grind)) r⟩
  case st.unst t=>exact aF.dT (τ:=t) g d b
  case pr.fst m a=>
   obtain⟨J,f2,rfl,e,k⟩:=g;exact aF.dT (τ:=m) e (λc l=>d c (by grind)) b
  case pr.snd m a=>
   obtain⟨J,f2,rfl,e,k⟩:=g;exact aF.dT (τ:=a) k (λc l=>d c (by grind)) b
def l3:List aM->Bool
 |[]=>false
 |.idx _::_=>true
 |.deref::_=>true
 |_::a=>l3 a
def eM:List aM->List aM->Bool
 |p,[]=>l3 p
 |.idx _::p,.idx _::a=>eM p a
 |.deref::p,.deref::a=>eM p a
 |.unst::p,.unst::a=>eM p a
 |.fst::p,.fst::a=>eM p a
 |.snd::p,.snd::a=>eM p a
 |.fst::_,.snd::_=>true
 |.snd::_,.fst::_=>true
 |_,_=>false
theorem aF.kN {a:Loc}:aF e d v i [] o a A↔d=o/\v=a/\i=A:=by cases d<;>exact Iff.rfl
def h5:List aM->List aM->Bool
 |.deref::a,.deref::b=>h5 a b
 |.unst::a,.unst::b=>h5 a b
 |.fst::a,.fst::b=>h5 a b
 |.snd::a,.snd::b=>h5 a b
 |.fst::_,.snd::_=>true
 |.snd::_,.fst::_=>true
 |_,_=>false
theorem qH (a:List aM):h5 [] a=false:=by cases a<;>rfl
theorem x2:∀{p q:List aM},h5 p q=true->eM p q=true
 |[],q,a=>by grind [qH]
 |s::p,[],a=>by cases s<;>cases a
 |s::p,b::q,a=>by cases s<;>cases b<;>first|(cases a;done)|exact x2 (p:=p) (q:=q) a|rfl
theorem qI:∀{p q:List aM} {τ:ae} {h j:τ.den} {k f:ae} {l:k.den} {i:f.den},h5 p q=true->dg τ h p k l j->bH τ h q f i->bH τ j q f i
 |[],q,_,_,_,_,_,_,_,d,_,_=>by grind [qH]
 |s::p,[],_,_,_,_,_,_,_,d,_,_=>by cases s<;>cases d
 |s::p,m::q,τ,h,j,k,f,l,i,d,c,e=>by
  cases τ<;>cases s<;>simp only[dg] at c<;>cases m<;>first|(cases d;done)|(simp only[bH] at e;done)|skip
  case optr.deref.deref t=>exact qI (p:=p) (q:=q) (τ:=t) d c e
  case st.unst.unst t=>exact qI (p:=p) (q:=q) (τ:=t) d c e
  case pr.fst.fst a b=>
   obtain⟨g,c,rfl⟩:=c;exact qI (p:=p) (q:=q) (τ:=a) d c e
  case pr.snd.snd a b=>
   obtain⟨g,c,rfl⟩:=c;exact qI (p:=p) (q:=q) (τ:=b) d c e
  case pr.fst.snd a b=>
   obtain⟨g,c,rfl⟩:=c;exact e
  case pr.snd.fst a b=>
   obtain⟨g,c,rfl⟩:=c;exact e
theorem aD.sub {B:bI->Nat->Prop} {A:World}:∀{p:List aM} {τ:ae} {z:Loc} {o:cJ} {m:τ.den} {q:cP} {l:ae} {r:l.den} {y:Loc} {n:cJ},aD B A τ o m q->bH τ m p l r->aF A τ z o p l y n->∃d,aD B A l n r d/\∀b∈d,b∈q
 |[],τ,z,o,m,q,l,r,y,n,f,c,a=>by grind [aF.kN,bH.ei]
 |s::p,τ,z,o,m,q,l,r,y,n,f,c,a=>by
  cases τ<;>cases s<;>simp only[bH] at c<;>simp only[aF] at a
  case osl.idx t i=>
   obtain⟨J,D,c⟩:=c;obtain⟨G,Q,ad,W,I,e,u,L,v,a⟩:=a;obtain⟨T,V,rfl,f⟩:=f;rcases f with⟨_,rfl,_⟩|⟨F,P,C,rfl,rfl,Z,X,N,O⟩
   ·grind
   have Y:i<m.length:=(ej.1 D).1;obtain⟨d,E⟩:∃d,C[i]?=some d:=⟨C[i],bB U⟩;obtain⟨H,M,w,x⟩:=O i J d D E;simp only[fd,Value.slice.injEq,bw,Addr.mk.injEq,and_true] at e;obtain⟨⟨rfl,rfl⟩,rfl,rfl⟩:=e;obtain rfl:=v.eq w U;obtain⟨g,j,k⟩:=aD.sub (p:=p) x c a;exact⟨g,j,λb h=>eH _ (hH.2 ⟨d,jU E,k b h⟩)⟩
  case optr.deref t=>
   obtain⟨G,Q,I,e,L,v,a⟩:=a;obtain⟨F,P,d,H,rfl,rfl,M,w,N,x⟩:=f;simp only[fd,Value.pointer.injEq,bw,Addr.mk.injEq,and_true] at e;obtain⟨rfl,rfl⟩:=e;obtain rfl:=v.eq w U;obtain⟨g,j,k⟩:=aD.sub (p:=p) x c a;exact⟨g,j,λb h=>eH _ (k b h)⟩
  case st.unst t=>exact aD.sub (p:=p) (τ:=t) f c a
  case pr.fst R S=>
   obtain⟨K,f2,rfl,e,u⟩:=f;obtain⟨g,j,k⟩:=aD.sub (p:=p) e c a;exact⟨g,j,λb h=>lC _ (k b h)⟩
  case pr.snd R S=>
   obtain⟨K,f2,rfl,e,u⟩:=f;obtain⟨g,j,k⟩:=aD.sub (p:=p) u c a;exact⟨g,j,λb h=>kl _ (k b h)⟩
theorem u2:∀(Y:List aM) {τ:ae} {loc:Loc} {u:cJ} {an:τ.den} {fb:cP} {F:ae} {i2:F.den},aD f e τ u an fb->mE e loc u τ.size->fb.Nodup->(∀g d,loc=some (g,d)->g∉fb/\∀q,¬f q g)->(∀g∈fb,∀q,¬f q g)->bH τ an Y F i2->∃y S a0 V,aF e τ loc u Y F y S/\aD f e F S i2 a0/\mE e y S F.size/\fb.Perm (a0++V)/\(∀m h,y=some (m,h)->(∃d,loc=some (m,d)/\d<=h/\h+F.size<=d+τ.size)\/m∈V)/\(∀(
   s:World) (K:bI->Nat->Prop) (D:cJ) (z:F.den) (W:cP) (d1:τ.den),
   (∀q g,f q g->K q g)->(∀g,(∃q,f q g)\/g∈V\/(∃d,loc=some (g,d))->oC e s y F.size g)->
   aD K s F D z W->(y=none->Y≠[]->D=S)->(∀g d,y=some (g,d)->du s g d D)->dg τ an Y F z d1->
   ∃n N,aD K s τ n d1 N/\(Y=[]->n=D)/\(loc=none->(y≠none\/D=S)->n=u)/\(∀g d,loc=some (g,d)->du s g d n)/\N.Perm (W++V)/\aF s τ loc n Y F y D/\∀(c:List aM) (Q:ae) (P:Loc) (M:cJ),eM Y c=true->aF e τ loc u c Q P M->aF s τ loc n c Q P M)/\
  (∀(c:List aM) (ap:ae) (z:ap.den) (ad:Loc) (dl:cJ) (f2:cP),h5 Y c=true->ap.hR=true->bH τ an c ap z->aF e τ loc u c ap ad dl->aD f e ap dl z f2->∀b∈f2,b∈V/\∀m h,y=some (m,h)->b≠m):=by
 intro Y
 induction Y with
 |nil=>
  intro τ loc u an fb F i2 em co d9 X cs H;obtain⟨rfl,rfl⟩:=bH.ei.1 H;refine⟨loc,u,fb,[],(by cases τ<;>exact⟨rfl,rfl,rfl⟩),em,co,ab,λm h a=>.inl ⟨h,a,U,U⟩,?_,λc _ _ _ _ _ a=>by grind [qH]⟩;intro s K D z W d1 _ _ A _ O B;obtain⟨_,rfl⟩:=dg.ei.1 B;exact⟨D,W,A,λ_=>rfl,λci a=>a.resolve_left (λc=>c ci),O,ab,(by cases τ<;>exact⟨rfl,rfl,rfl⟩),λc _ _ _ o=>by grind [eM,l3]⟩
 |cons rd Y hc=>
  intro τ loc u an fb F i2 em co d9 X cs H;cases τ<;>cases rd<;>simp only[bH] at H
  case osl.idx t i=>
   obtain⟨av,fs,H⟩:=H;obtain⟨rg,fa,rfl,em⟩:=em;rcases em with⟨_,rfl,_⟩|⟨g,d,f7,rfl,rfl,mp,or,io,lb⟩
   ·simp at fs
   have kg:i<an.length:=(ej.1 fs).1;obtain⟨gf,l2⟩:∃gf,f7[i]?=some gf:=⟨f7[i],bB U⟩;obtain⟨f9,jn,f5,jp⟩:=lb i av gf fs l2;obtain⟨d0,i1,ft,ps⟩:=SA l2;have ty:∀w,w<an.length->d+w*t.size+t.size<=d+fa*t.size:=λw o=>(by have:(w+1)*t.size<=fa*t.size:=dD _ U;grind);have f6:mE e (some (g,d+i*t.size)) f9 t.size:=(by rintro R r a;simp only[bw,e6] at a;obtain⟨rfl,rfl⟩:=a;exact⟨f5,λx l O=>io x U (by grind)⟩);have la:=d9;rw[ft] at la;simp only[oI,iB,hZ,hI,eR,not_or] at la;obtain⟨⟨on,f3,op⟩,k0,⟨fT,f8,os⟩,pl⟩:=la;obtain⟨y,S,a0,V,d3,d4,d5,G,T,d6,fn⟩:=hc (loc:=some (g,d+i*t.size)) jp f6 fT (by rintro R r a;simp only[bw,e6] at a;obtain⟨rfl,rfl⟩:=a;exact⟨f3,cs g ab⟩) (λb k=>cs b (by rw[ft];simp[k])) H;refine⟨y,S,a0,g::(d0.flatten++(V++i1.flatten)),⟨g,d,_,fa,f9,rfl,kg,jn,f5,d3⟩,d4,d5,?_,?_,?_,λc _ _ _ _ _ a=>by cases c with|nil=>cases a|cons I c=>cases I<;>cases a⟩
   ·rw[ft];simp only[oI,iB];rw[p5] at G|-;intro b;have:=G b;simp only[p2,List.count_cons] at this|-;omega
   ·intro m h a;right;rcases T m h a with⟨r,l,_⟩|l
    ·simp only[bw,e6] at l;rw[l.1];simp
    simp[l]
   intro s K D z W d1 a4 v A el d7 B;simp only[dg] at B;obtain⟨of,gc,lt,B,rfl⟩:=B;obtain rfl:of=av:=(by rw[fs] at lt;exact(dF lt).symm);obtain⟨n,N,C,_,_,L,Z,ex,ce⟩:=d6 s K D z W gc a4 (by
     rintro b (a|a|⟨r,a⟩)
     ·exact v b (.inl a)
     ·exact v b (.inr (.inl (by simp[a])))
     simp only[bw,e6] at a;exact v b (.inr (.inl (by rw[<-a.1];simp)))) A
    (by
     intro ci t2;exact el ci ab) d7 B
   have bl:∀m h,y=some (m,h)->(m=g/\d+i*t.size<=h/\h+F.size<=d+i*t.size+t.size)\/m∈gf:=by
    intro m h a;rcases T m h a with⟨r,l,O,ic⟩|l
    ·simp only[bw,e6] at l;omega
    exact .inr (G.mem_iff.2 (by simp[l]))
   have fp:=v g (.inr (.inl ab));have go:∀q b,f q b->K q b/\br e s b:=λq b k=>⟨a4 q b k,(v b (.inl ⟨q,k⟩)).dT (λr a=>by
    rcases bl b r a with⟨rfl,_⟩|l
    ·exact cs b ab q k
    exact cs b (by rw[ft];simp[l]) q k)⟩
   have mt:∀(w:Nat) (ib:t.den) (a3:cP),w≠i->an[w]?=some ib->f7[w]?=some a3->∀d2:cJ,d2.length=t.size->du e g (d+w*t.size) d2->du s g (d+w*t.size) d2/\∀b∈a3,br e s b:=by
    intro w ib a3 gs o ds d2 i0 hr;have t0:w<an.length:=(ej.1 o).1;have kd:∀b∈a3,b∈d0.flatten\/b∈i1.flatten:=by
     intro b k;rw[ft] at ds;rcases bi w d0.length with a|a
     ·rw[mC a] at ds;exact .inl (hH.2 ⟨a3,jU ds,k⟩)
     rw[ny a] at ds;obtain⟨c,E⟩:∃c,w-d0.length=c+1:=⟨w-d0.length-1,U⟩;rw[E] at ds;simp only[nz] at ds;exact .inr (hH.2 ⟨a3,jU ds,k⟩)
    refine⟨?_,?_⟩
    ·intro x hw fz;have is:x<d2.length:=(ej.1 fz).1;rw[fp.1]
     ·exact hr x hw fz
     intro h a;rcases bl g h a with⟨_,l,O⟩|l
     ·rcases Nat.lt_or_gt_of_ne gs with t1|tt
      ·left;have:(w+1)*t.size<=i*t.size:=dD _ U;rw[fy,fQ] at this;omega
      right;have:(i+1)*t.size<=w*t.size:=dD _ U;rw[fy,fQ] at this;omega
     exact absurd l f3
    intro b k;refine(v b (.inr (.inl ?_))).dT ?_
    ·rcases kd b k with a|a<;>simp[a]
    intro h a;rcases bl b h a with⟨rfl,_⟩|l
    ·rcases kd b k with a|a
     ·exact on a
     exact op a
    rcases kd b k with a|a
    ·exact pl b a b (.inl l) rfl
    exact os b l b a rfl
   refine⟨[.slice (some ⟨g,d,none⟩) an.length fa],g::(d0++N::i1).flatten,⟨some ⟨g,d,none⟩,fa,ab,.inr ⟨g,d,d0++N::i1,rfl,rfl,?_,by simpa using or,fp.E1 io,?_⟩⟩,ab,λ_ _=>rfl,?_,?_,⟨g,d,_,fa,n,rfl,kg,by rw[C.len],L g _ rfl,ex⟩,?_⟩
   ·rw[ft] at mp;simpa using mp
   ·intro w ib a3 o H;by_cases gs:w=i
    ·subst gs;rw[jT kg] at o;obtain rfl:=dF o;rw[ny U,ps,Nat.sub_self] at H;simp only[iC,bw] at H;subst H;exact⟨n,by rw[C.len],L g _ rfl,C⟩
    rw[ki (λa=>gs a.symm)] at o;have ds:f7[w]?=some a3:=by
     rw[ft];rcases bi w d0.length with a|a
     ·rw[mC a] at H|-;exact H
     rw[ny a] at H|-;obtain⟨c,E⟩:∃c,w-d0.length=c+1:=⟨w-d0.length-1,U⟩;rw[E] at H|-;simpa using H
    obtain⟨d2,i0,hr,lk⟩:=lb w ib a3 o ds;obtain⟨lo,lp⟩:=mt w ib a3 gs o ds d2 i0 hr;exact⟨d2,i0,lo,lk.mono go lp⟩
   ·intro R r a;have gr:=(X R r a).1;refine((co R r a).1).dT ((v R (.inr (.inr ⟨r,a⟩))).dT ?_);intro h f1;rcases bl R h f1 with⟨rfl,_⟩|l
    ·exact gr ab
    exact gr (by rw[ft];simp[l])
   ·rw[p5] at Z|-;intro b;have:=Z b;simp only[oI,iB,p2,List.count_cons] at this|-;omega
   intro c Q P M o E;cases c with
   |nil=>exact E
   |cons I c=>
    cases I<;>simp only[eM] at o<;>first|(cases o;done)|skip
    rename_i x;obtain⟨R,r,t4,rt,i3,l,O,ic,gl,ii⟩:=E;simp only[fd,Value.slice.injEq,bw,Addr.mk.injEq,and_true] at l;obtain⟨⟨rfl,rfl⟩,rfl,rfl⟩:=l;by_cases mo:x=i
    ·subst mo;obtain rfl:=gl.eq f5 U;exact⟨g,d,_,fa,n,rfl,O,C.len,L g _ rfl,ce c Q P M o ii⟩
    have nn:an[x]?=some an[x]:=bB O;have mc:f7[x]?=some (f7[x]'(by omega)):=bB _
    obtain⟨d2,i0,hr,lk⟩:=lb x _ _ nn mc;obtain rfl:=gl.eq hr U;obtain⟨lo,lp⟩:=mt x _ _ mo nn mc i3 ic gl;exact⟨g,d,_,fa,i3,rfl,O,ic,lo,aF.dT lk lp ii⟩
  case optr.deref t=>
   obtain⟨g,d,gf,f9,rfl,rfl,jn,f5,io,jp⟩:=em;simp only[hZ] at d9;obtain⟨to,pm⟩:=d9;have f6:mE e (some (g,d)) f9 t.size:=(by rintro R r a;grind);obtain⟨y,S,a0,V,d3,d4,d5,G,T,d6,fn⟩:=hc (loc:=some (g,d)) jp f6 pm (by grind) (λb k=>cs b (by grind)) H;refine⟨y,S,a0,g::V,⟨g,d,f9,rfl,jn,f5,d3⟩,d4,d5,?_,?_,?_,?_⟩
   rotate_left 3
   ·intro c ap z ad dl f2 a fT d8 bs A b k;cases c with
    |nil=>cases a
    |cons I c=>
     cases I<;>first|(cases a;done)|skip
     simp only[aF] at bs;obtain⟨R,r,sh,aj,tf,ok,bs⟩:=bs;simp only[fd,Value.pointer.injEq,bw,Addr.mk.injEq,and_true] at aj;obtain⟨rfl,rfl⟩:=aj;obtain rfl:=ok.eq f5 U;obtain⟨ao,J⟩:=fn c ap z ad dl f2 a fT d8 bs A b k;exact⟨by simp[ao],J⟩
   ·rw[p5] at G|-;intro b;have:=G b;simp only[p2,List.count_cons] at this|-;omega
   ·intro m h a;right;rcases T m h a with⟨r,l,_⟩|l
    ·simp only[bw,e6] at l;rw[l.1];simp
    simp[l]
   intro s K D z W d1 a4 v A el d7 B;simp only[dg] at B;obtain⟨n,N,C,_,_,L,Z,ex,ce⟩:=d6 s K D z W d1 a4 (by
     rintro b (a|a|⟨r,a⟩)
     ·exact v b (.inl a)
     ·exact v b (.inr (.inl (by simp[a])))
     simp only[bw,e6] at a;exact v b (.inr (.inl (by rw[<-a.1];simp)))) A
    (λci _=>el ci ab) d7 B
   have fp:=v g (.inr (.inl ab));refine⟨[.pointer (some ⟨g,d,none⟩)],g::N,⟨g,d,N,n,rfl,rfl,C.len,L g d rfl,fp.E1 io,C⟩,ab,λ_ _=>rfl,?_,?_,⟨g,d,n,rfl,C.len,L g d rfl,ex⟩,?_⟩
   ·intro R r a;have gr:=(X R r a).1;refine((co R r a).1).dT ((v R (.inr (.inr ⟨r,a⟩))).dT ?_);intro h f1;rcases T R h f1 with⟨n5,l,_⟩|l
    ·simp only[bw,e6] at l;exact gr (by rw[l.1];simp)
    exact gr (eH _ (G.mem_iff.2 (by simp[l])))
   ·rw[p5] at Z|-;intro b;have:=Z b;simp only[p2,List.count_cons] at this|-;omega
   intro c Q P M o E;cases c with
   |nil=>exact E
   |cons I c=>
    cases I<;>simp only[eM] at o<;>first|(cases o;done)|skip
    obtain⟨R,r,i3,l,ic,gl,ii⟩:=E;simp only[fd,Value.pointer.injEq,bw,Addr.mk.injEq,and_true] at l;obtain⟨rfl,rfl⟩:=l;obtain rfl:=gl.eq f5 U;exact⟨g,d,n,rfl,C.len,L g d rfl,ce c Q P M o ii⟩
  case st.unst t=>
   obtain⟨y,S,a0,V,d3,d4,d5,G,T,d6,fn⟩:=hc (loc:=loc) (τ:=t) em co d9 X cs H;refine⟨y,S,a0,V,d3,d4,d5,G,T,?_,?_⟩
   rotate_left 1
   ·intro c ap z ad dl f2 a fT d8 bs A b k;cases c with
    |nil=>cases a
    |cons I c=>
     cases I<;>first|(cases a;done)|skip
     exact fn c ap z ad dl f2 a fT d8 bs A b k
   intro s K D z W d1 a4 v A el d7 B;obtain⟨n,N,C,t3,hi,L,Z,ex,ce⟩:=d6 s K D z W d1 a4 v A (λci _=>el ci ab) d7 B;refine⟨n,N,C,ab,hi,L,Z,ex,?_⟩;intro c Q P M o E;cases c with
   |nil=>
    obtain⟨rfl,rfl,rfl⟩:=aF.kN.1 E;obtain⟨_,_,av⟩:=aF.kN.1 (ce [] t loc u (by simpa[eM,l3] using o) (aF.kN.2 ⟨rfl,rfl,rfl⟩));exact aF.kN.2 ⟨rfl,rfl,av⟩
   |cons I c=>
    cases I<;>simp only[eM] at o<;>first|(cases o;done)|skip
    exact ce c Q P M o E
  case pr.fst j cv=>
   obtain⟨f0,f2,rfl,l,O⟩:=em;have le:=l.len;have ad:=O.len;simp only[eB,kk] at le ad;have f6:mE e loc (u.take j.size) j.size:=λg d a=>⟨(co g d a).1.take,λx ao J=>(co g d a).2 x ao (by show x<d+(j.size+cv.size);omega)⟩;simp only[hI] at d9;obtain⟨k0,fT,f8⟩:=d9;obtain⟨y,S,a0,V,d3,d4,d5,G,T,d6,fn⟩:=hc (loc:=loc) l f6 k0 (λg d a=>⟨λc=>(X g d a).1 (by simp[c]),(X g d a).2⟩) (λb k=>cs b (by grind)) H;refine⟨y,S,a0,V++f2,d3,d4,d5,?_,?_,?_,?_⟩
   rotate_left 3
   ·intro c ap z ad dl i8 a gt d8 bs A b k;cases c with
    |nil=>cases a
    |cons I c=>
     cases I<;>first|(cases a;done)|skip
     ·obtain⟨ao,J⟩:=fn c ap z ad dl i8 a gt d8 bs A b k;exact⟨by simp[ao],J⟩
     obtain⟨a3,C,L⟩:=aD.sub (p:=c) O d8 bs;have f4:b∈f2:=L b (by rw[<-aD.uniq gt A C];exact k);refine⟨by simp[f4],λm h fs av=>?_⟩;subst av;rcases T b h fs with⟨r,aj,_⟩|aj
     ·exact(X b r aj).1 (by simp[f4])
     exact f8 b (G.mem_iff.2 (by simp[aj])) b f4 rfl
   ·rw[p5] at G|-;intro b;have:=G b;simp only[p2] at this|-;omega
   ·intro m h a;rcases T m h a with⟨r,ao,J,hs⟩|ao
    ·exact .inl ⟨r,ao,J,by show h+F.size<=r+(j.size+cv.size);omega⟩
    exact .inr (by simp[ao])
   intro s K D z W d1 a4 v A el d7 B;simp only[dg] at B;obtain⟨gc,B,rfl⟩:=B;obtain⟨n,N,C,_,hi,L,Z,ex,ce⟩:=d6 s K D z W gc a4 (by
     rintro b (a|a|a)
     ·exact v b (.inl a)
     ·exact v b (.inr (.inl (by simp[a])))
     exact v b (.inr (.inr a))) A (λci _=>el ci ab) d7 B
   have bl:∀m h,y=some (m,h)->(∃d,loc=some (m,d)/\d<=h/\h+F.size<=d+j.size)\/m∈f0:=λm h a=>(T m h a).imp id (λc=>G.mem_iff.2 (by simp[c]));have go:∀q b,f q b->K q b/\br e s b:=λq b k=>⟨a4 q b k,(v b (.inl ⟨q,k⟩)).dT (λr a=>by
    rcases bl b r a with⟨d,c,_⟩|c
    ·exact(X b d c).2 q k
    exact cs b (by simp[c]) q k)⟩
   have ne:∀b∈f2,br e s b:=λb k=>(v b (.inr (.inl (by simp[k])))).dT (λh a=>by
    rcases bl b h a with⟨d,c,_⟩|c
    ·exact(X b d c).1 (by simp[k])
    exact f8 b c b k rfl)
   have no:=C.len;refine⟨n++u.drop j.size,N++f2,⟨N,f2,rfl,?_,?_⟩,ab,?_,?_,?_,(by
    show aF s j loc ((n++u.drop j.size).take j.size) Y F y D;rw[p7 U,dL U];exact ex),?_⟩
   ·rw[p7 U,dL U];exact C
   ·rw[p3 U,p4 U,g4];exact O.mono go ne
   ·intro ao J;rw[hi ao J,km]
   ·intro g d a;refine(L g d a).append ?_;rw[no];intro x hw fz;have fp:=v g (.inr (.inr ⟨d,a⟩));have is:x<(u.drop j.size).length:=(ej.1 fz).1;simp only[kk] at is;rw[fp.1]
    ·exact((co g d a).1.drop) x hw fz
    intro h f1;rcases bl g h f1 with⟨n5,ao,J,hs⟩|c
    ·rw[a] at ao;simp only[bw,e6,true_and] at ao;omega
    exact absurd (by simp[c]) (X g d a).1
   ·rw[p5] at Z|-;intro b;have:=Z b;simp only[p2] at this|-;omega
   intro c Q P M o E;have aj:(n++u.drop j.size).take j.size=n:=(by rw[p7 U,dL U]);have ge:(n++u.drop j.size).drop j.size=u.drop j.size:=(by rw[p3 U,p4 U,g4]);cases c with
   |nil=>
    obtain⟨rfl,rfl,rfl⟩:=aF.kN.1 E;obtain⟨_,_,av⟩:=aF.kN.1 (ce [] j loc (u.take j.size) (by simpa[eM,l3] using o) (aF.kN.2 ⟨rfl,rfl,rfl⟩));exact aF.kN.2 ⟨rfl,rfl,by rw[av,km]⟩
   |cons I c=>
    cases I<;>simp only[eM] at o<;>first|(cases o;done)|skip
    ·show aF s j loc ((n++u.drop j.size).take j.size) c Q P M;rw[aj];exact ce c Q P M o E
    show aF s cv (loc.map λc=>(c.1,c.2+j.size)) ((n++u.drop j.size).drop j.size) c Q P M;rw[ge];exact aF.dT O ne E
  case pr.snd j cv=>
   obtain⟨f0,f2,rfl,l,O⟩:=em;have le:=l.len;have ad:=O.len;simp only[eB,kk] at le ad;have f6:mE e (loc.map λc=>(c.1,c.2+j.size)) (u.drop j.size) cv.size:=by
    intro g d a;cases loc with
    |none=>grind
    |some c=>
     obtain⟨rs,am⟩:=c;simp only[hj,bw,e6] at a;obtain⟨rfl,rfl⟩:=a;exact⟨(co _ _ rfl).1.drop,λx ao J=>(co _ _ rfl).2 x U (by show x<am+(j.size+cv.size);omega)⟩
   simp only[hI] at d9;obtain⟨k0,fT,f8⟩:=d9;have f3:∀g d,(loc.map λc=>(c.1,c.2+j.size))=some (g,d)->∃am,loc=some (g,am)/\d=am+j.size:=by
    intro g d a;cases loc with
    |none=>grind
    |some c=>
     grind
   obtain⟨y,S,a0,V,d3,d4,d5,G,T,d6,fn⟩:=hc (loc:=loc.map λc=>(c.1,c.2+j.size)) O f6 fT (λg d a=>by grind) (λb k=>cs b (by grind)) H;refine⟨y,S,a0,V++f0,d3,d4,d5,?_,?_,?_,?_⟩
   rotate_left 3
   ·intro c ap z ad dl i8 a gt d8 bs A b k;cases c with
    |nil=>cases a
    |cons I c=>
     cases I<;>first|(cases a;done)|skip
     ·obtain⟨a3,C,L⟩:=aD.sub (p:=c) l d8 bs;have f4:b∈f0:=L b (by rw[<-aD.uniq gt A C];exact k);refine⟨by simp[f4],λm h fs av=>?_⟩;subst av;rcases T b h fs with⟨r,aj,_⟩|aj
      ·obtain⟨am,ge,_⟩:=f3 _ _ aj;exact(X b am ge).1 (by simp[f4])
      exact f8 b f4 b (G.mem_iff.2 (by simp[aj])) rfl
     obtain⟨ao,J⟩:=fn c ap z ad dl i8 a gt d8 bs A b k;exact⟨by simp[ao],J⟩
   ·rw[p5] at G|-;intro b;have:=G b;simp only[p2] at this|-;omega
   ·intro m h a;rcases T m h a with⟨r,ao,J,hs⟩|ao
    ·obtain⟨am,hv,rfl⟩:=f3 _ _ ao;exact .inl ⟨am,hv,U,by show h+F.size<=am+(j.size+cv.size);omega⟩
    exact .inr (by simp[ao])
   intro s K D z W d1 a4 v A el d7 B;simp only[dg] at B;obtain⟨gc,B,rfl⟩:=B;obtain⟨n,N,C,_,hi,L,Z,ex,ce⟩:=d6 s K D z W gc a4 (by
     rintro b (a|a|⟨d,a⟩)
     ·exact v b (.inl a)
     ·exact v b (.inr (.inl (by simp[a])))
     obtain⟨am,hv,rfl⟩:=f3 _ _ a;exact v b (.inr (.inr ⟨am,hv⟩))) A (λci _=>el ci ab) d7 B
   have bl:∀m h,y=some (m,h)->(∃d,loc=some (m,d)/\d+j.size<=h/\h+F.size<=d+j.size+cv.size)\/m∈f2:=λm h a=>by
    rcases T m h a with⟨r,ao,J,hs⟩|c
    ·obtain⟨am,hv,rfl⟩:=f3 _ _ ao;exact .inl ⟨am,hv,J,hs⟩
    exact .inr (G.mem_iff.2 (by simp[c]))
   have go:∀q b,f q b->K q b/\br e s b:=λq b k=>⟨a4 q b k,(v b (.inl ⟨q,k⟩)).dT (λr a=>by
    rcases bl b r a with⟨d,c,_⟩|c
    ·exact(X b d c).2 q k
    exact cs b (by simp[c]) q k)⟩
   have nd:∀b∈f0,br e s b:=λb k=>(v b (.inr (.inl (by simp[k])))).dT (λh a=>by
    rcases bl b h a with⟨d,c,_⟩|c
    ·exact(X b d c).1 (by simp[k])
    exact f8 b k b c rfl)
   have no:=C.len;refine⟨u.take j.size++n,f0++N,⟨f0,N,rfl,?_,?_⟩,ab,?_,?_,?_,(by
    show aF s cv (loc.map λc=>(c.1,c.2+j.size)) ((u.take j.size++n).drop j.size) Y F y D;rw[p3 (by simp;omega),p4 (by simp;omega),g4];exact ex),?_⟩
   ·rw[p7 (by simp;omega),List.take_take,Nat.min_self];exact l.mono go nd
   ·rw[p3 (by simp;omega),p4 (by simp;omega),g4];exact C
   ·intro ao J;rw[hi (by rw[ao];rfl) J,km]
   ·intro g d a;have fp:=v g (.inr (.inr ⟨d,a⟩));have ol:du s g d (u.take j.size):=by
     intro x hw fz;have is:x<(u.take j.size).length:=(ej.1 fz).1;simp only[eB] at is;rw[fp.1]
     ·exact((co g d a).1.take) x hw fz
     intro h f1;rcases bl g h f1 with⟨n5,ao,J,hs⟩|c
     ·rw[a] at ao;simp only[bw,e6,true_and] at ao;omega
     exact absurd (by simp[c]) (X g d a).1
    refine ol.append ?_;have:=L g (d+j.size) (by rw[a];rfl);rwa[eB,ga U]
   ·rw[p5] at Z|-;intro b;have:=Z b;simp only[p2] at this|-;omega
   intro c Q P M o E;have aj:(u.take j.size++n).take j.size=u.take j.size:=(by rw[p7 (by simp;omega),List.take_take,Nat.min_self]);have ge:(u.take j.size++n).drop j.size=n:=(by rw[p3 (by simp;omega),p4 (by simp;omega),g4]);cases c with
   |nil=>
    obtain⟨rfl,rfl,rfl⟩:=aF.kN.1 E;obtain⟨_,_,av⟩:=aF.kN.1 (ce [] cv (loc.map λc=>(c.1,c.2+j.size)) (u.drop j.size) (by simpa[eM,l3] using o) (aF.kN.2 ⟨rfl,rfl,rfl⟩));exact aF.kN.2 ⟨rfl,rfl,by rw[av,km]⟩
   |cons I c=>
    cases I<;>simp only[eM] at o<;>first|(cases o;done)|skip
    ·show aF s j loc ((u.take j.size++n).take j.size) c Q P M;rw[aj];exact aF.dT l nd E
    show aF s cv (loc.map λc=>(c.1,c.2+j.size)) ((u.take j.size++n).drop j.size) c Q P M;rw[ge];exact ce c Q P M o E
theorem yl (h:List aM) {loc:Loc} {u:d.den} {τ':ae} {y:τ'.den} (D:aD f e d i u n) (E:mE e loc i d.size) (F:n.Nodup) (G:∀a b,loc=some (a,b)->a∉n/\∀g,¬f g a) (H:∀a∈n,∀g,¬f g a) (I:bH d u h τ' y):∃c k r o,aF e d loc i h τ' c k/\aD f e τ' k y r/\mE e c k τ'.size/\n.Perm (r++o)/\(∀q s,c=some (q,s)->(∃b,loc=some (q,b)/\b<=s/\s+τ'.size<=b+d.size)\/q∈o)/\(∀(
   j:World) (p:bI->Nat->Prop) (l:cJ) (B:τ'.den) (w:cP) (A:d.den),
   (∀g a,f g a->p g a)->(∀a,(∃g,f g a)\/a∈o\/(∃b,loc=some (a,b))->oC e j c τ'.size a)->
   aD p j τ' l B w->(c=none->h≠[]->l=k)->(∀a b,c=some (a,b)->du j a b l)->dg d u h τ' B A->
   ∃m x,aD p j d m A x/\(h=[]->m=l)/\(loc=none->(c≠none\/l=k)->m=i)/\(∀a b,loc=some (a,b)->du j a b m)/\x.Perm (w++o)/\aF j d loc m h τ' c l/\∀(t:List aM) (C:ae) (z:Loc) (v:cJ),eM h t=true->aF e d loc i t C z v->aF j d loc m t C z v):=by
 obtain⟨c,k,r,o,J,K,L,M,N,O,_⟩:=u2 h D E F G H I;grind
def aY (a c:Nat->Prop):bI->Nat->Prop
 |.bm=>a
 |.dO=>λb=>a b\/c b
theorem kF (a:aY F l Q c):F c\/l c:=by cases Q;exact .inl a;exact a
inductive ah where
 |dead
 |val (τ:ae) (x:τ.den)
 |ref (id:Nat) (p:List aM)
 |addr (id:Nat) (p:List aM)
 |view (id:Nat) (p:List aM) (lo hi:Nat)
 |app (id:Nat) (p:List aM) (τ:ae) (vX:List τ.den) (own:cP)
 |bu (v:Value)
 |dh (l:List ah)
 |agg (l:List ah)
 |bY (f:Nat) (l:List ah)
 |h8 (id:Nat) (p:List aM) (k:Int)
variable{L:ah}{M:List (Nat×ah)}
abbrev ay:=(a:ae)×a.den
variable{x:List (Nat×ay)}{C:ay}
structure aA where
 g:List (Nat×ah)
 h:List (Nat×ay)
variable{z:aA}
def ai {a:Type}:List (Nat×a)->Nat->Option a
 |[],_=>none
 |(k,v)::r,n=>bif Nat.beq k n then some v else ai r n
def bv (b:Nat) (e:y) (d:List (Nat×y)) (a:Nat):ai ((b,e)::d) a=if b=a then some e else ai d a:=by
 show(bif Nat.beq b a then some e else ai d a)=_;by_cases c:b=a
 ·rw[ak c,c];simp
 rw[ag c];have:Nat.beq b a=false:=by
  cases f:Nat.beq b a
  ·rfl
  exact absurd (dU f) c
 rw[this];rfl
def gt (a:List (Nat×ah)) (b:Nat):ah:=match ai a b with|some c=>c|none=>.dead
structure c8 where
 I0:Nat->Prop
 B:Nat->Prop
 F0:Nat->Prop
 w0:World
 n:Nat
 pin:cP
 vs:Nat->Value
variable{I:c8}
def c8.ok (a:c8) (d:Nat):Prop:=d<a.n/\d∉a.pin
inductive bk (M:bI->Nat->Prop) (w:World) (h:List (Nat×ay)) (rt:Nat->cJ) (fp:Nat->cP):ah->Value->Prop
 |dead (v:Value):bk M w h rt fp .dead v
 |bu (v:Value):bk M w h rt fp (.bu v) v
 |val {τ:ae} {x:τ.den} {cs:cJ} (r:aD M w τ cs x []):bk M w h rt fp (.val τ x) (bn τ cs)
 |ref {id:Nat} {p:List aM} {t:ay} {τ':ae} {loc:Loc} {cs:cJ} (qV:ai h id=some t) (yu:aF w t.1 none (rt id) p τ' loc cs):bk M w h rt fp (.ref id p) (bn τ' cs)
 |addr {id:Nat} {p:List aM} {t:ay} {τ':ae} {b o:Nat} {cs:cJ} (qV:ai h id=some t) (yu:aF w t.1 none (rt id) p τ' (some (b,o)) cs):bk M w h rt fp (.addr id p) (.pointer (some ⟨b,o,none⟩))
 |view {id:Nat} {p:List aM} {lo hi:Nat} {t:ay} {τ':ae} {loc:Loc} {b o len cap:Nat} (qV:ai h id=some t) (yu:aF w t.1 none (rt id) p (.osl τ') loc [.slice (some ⟨b,o,none⟩) len cap]) (MY:lo<=hi) (MZ:hi<=len) (TN:len<=cap):bk M w h rt fp (.view id p lo hi) (.slice (some ⟨b,if cap=lo then o else o+lo*τ'.size,none⟩) (hi-lo) (cap-lo))
 |jg (id:Nat) (p:List aM):bk M w h rt fp (.view id p 0 0) (.slice none 0 0)
 |app {id:Nat} {p:List aM} {τ:ae} {vX:List τ.den} {own:cP} {t:ay} {loc:Loc} {ub:cJ} {xs:List τ.den} {f1 f2:cP} {v:Value} (qV:ai h id=some t) (TS:τ.hR=true) (yu:aF w t.1 none (rt id) p (.osl τ) loc ub) (TQ:bH t.1 t.2 p (.osl τ) xs) (MY:aD M w (.osl τ) ub xs f1) (TP:∀b∈f1,b∈fp id) (MZ:aD M w (.osl τ) [v] (xs++vX) f2) (TU:∀i∈own,i≠id/\∃u,ai h i=some u) (TV:∀b∈f2,b∈f1\/∃i∈own,b∈fp i) (TT:f2.Nodup):bk M w h rt fp (.app id p τ vX own) v
 |dh {l:List ah} {vs:cH} (Fi:l.length=vs.size) (yt:∀(i:Nat) (a:ah) (v:Value),l[i]?=some a->vs[i]?=some v->bk M w h rt fp a v):bk M w h rt fp (.dh l) (.tuple vs)
 |agg {l:List ah} {vs:cJ} (Fi:l.length=vs.length) (yt:∀(i:Nat) (a:ah) (v:Value),l[i]?=some a->vs[i]?=some v->bk M w h rt fp a v):bk M w h rt fp (.agg l) (.agg (vs.map λv=>v.cells.toList).flatten.toArray)
 |h8 {id:Nat} {p:List aM} {k:Int} {t:ay} {τ':ae} {loc:Loc} {b c i:Nat} {c7:Array MapEntry} {e:MapEntry} (qV:ai h id=some t) (yu:aF w t.1 none (rt id) p (.mp τ') loc [.map (some b)]) (TO:b∈fp id) (Fj:gz w b=some (c7,c)) (hi:c7[i]?=some e) (TR:e.key=.int .i64 k):bk M w h rt fp (.h8 id p k) (.int .i64 (e.born:Int))
 |bY {f:Nat} {l:List ah} {vs:cH} (Fi:l.length=vs.size) (yt:∀(i:Nat) (a:ah) (v:Value),l[i]?=some a->vs[i]?=some v->bk M w h rt fp a v):bk M w h rt fp (.bY f l) (.func (.func f) #[] vs)
structure bg (C:c8) (st:aA) (nh:cH) (w:World) (I:Nat->Prop) (rt:Nat->cJ) (fp:Nat->cP):Prop where
 n:nh.size=C.n
 i0:∀b,C.I0 b->I b
 i1:∀b,I b->C.I0 b\/C.w0.heap.size<=b\/C.F0 b
 ib:∀b,I b\/C.B b->b<w.heap.size
 tree:∀id t,ai st.h id=some t->aD (aY I C.B) w t.1 (rt id) t.2 (fp id)/\(fp id).Nodup/\∀b∈fp id,¬I b/\¬C.B b/\b<w.heap.size/\(C.w0.heap.size<=b\/C.F0 b)
 dis:∀i j t u,ai st.h i=some t->ai st.h j=some u->i≠j->∀b∈fp i,b∉fp j
 tmp:∀k,bk (aY I C.B) w st.h rt fp (gt st.g k) (nh.getD k undef)
 frame:∀b,b<C.w0.heap.size->¬C.F0 b->w.heap[b]?=C.w0.heap[b]?
 evo:∀b,b<C.w0.heap.size->hU C.w0 w b
 size:C.w0.heap.size<=w.heap.size
 os:w.os=C.w0.os
 tape:w.tape=C.w0.tape
 output:w.output=C.w0.output
 pin:∀k∈C.pin,nh.getD k undef=C.vs k
def ev (a:c8) (e:aA) (f:cH) (g:World):Prop:=∃b d c,bg a e f g b d c
structure fw (w w':World):Prop where
 os:w'.os=w.os
 tape:w'.tape=w.tape
 output:w'.output=w.output
 size:w.heap.size<=w'.heap.size
 heap:∀b,b<w.heap.size->w'.heap[b]?=w.heap[b]?
def fw.refl (a:World):fw a a:=⟨rfl,rfl,rfl,aZ _,λ_ _=>rfl⟩
def fw.trans {c d e:World} (a:fw c d) (b:fw d e):fw c e:=
 ⟨b.os.trans a.os,b.tape.trans a.tape,b.output.trans a.output,bj a.size b.size,λg f=>(b.heap g (fA f a.size)).trans (a.heap g f)⟩
def fw.drew {b c:World} (a:fw b c):fw b c.drew:=⟨a.os,a.tape,a.output,a.size,a.heap⟩
def fw.alloc (a:World) (b:Obj):fw a (a.alloc b):=⟨rfl,rfl,rfl,ab,λc d=>by
 show(a.heap.push b)[c]?=_;rw[Array.getElem?_push,ag U]⟩
def bk.mono {w E:bI->Nat->Prop} {t v:World} {x G:List (Nat×ay)} {D K:Nat->cJ} {u F:Nat->cP} (y:∀I b,w I b->E I b/\br t v b) (f:∀id o,ai x id=some o->aD w t o.1 (D id) o.2 (u id)/\∀b∈u id,br t v b) {l:ah} {e:Value} (M:bk w t x D u l e) (n:∀id o,ai x id=some o->ai G id=some o/\K id=D id/\F id=u id):bk E v G K F l e:=by
 induction M with
 |dead e=>exact .dead e
 |bu e=>exact .bu e
 |val V=>exact .val (V.mono y ab)
 |ref a i=>
  obtain⟨j,k,_⟩:=n _ _ a;exact .ref j (by rw[k];exact i.dT (f _ _ a).1 (f _ _ a).2)
 |addr a i=>
  obtain⟨j,k,_⟩:=n _ _ a;exact .addr j (by rw[k];exact i.dT (f _ _ a).1 (f _ _ a).2)
 |jg id J=>exact .jg id J
 |view a i g h L=>
  obtain⟨j,k,_⟩:=n _ _ a;exact .view j (by rw[k];exact i.dT (f _ _ a).1 (f _ _ a).2) g h L
 |@app id J τ am Z o Y W ad X f2 e a R i O g z h A H S=>
  obtain⟨j,k,C⟩:=n _ _ a;obtain⟨T,B⟩:=f _ _ a;have N:∀b∈f2,br t v b:=λb c=>by
   rcases H b c with c|⟨d,m,c⟩
   ·exact B b (z b c)
   obtain⟨_,p,r⟩:=A d m;exact(f d p r).2 b c
  refine .app j R (by rw[k];exact i.dT T B) O (g.mono y (λb c=>B b (z b c))) (by rw[C];exact z) (h.mono y N) ?_ ?_ S
  ·intro d m;obtain⟨U,p,r⟩:=A d m;exact⟨U,p,(n d p r).1⟩
  intro b c;rcases H b c with c|⟨d,m,c⟩
  ·exact .inl c
  obtain⟨_,p,r⟩:=A d m;exact .inr ⟨d,m,by rw[(n d p r).2.2];exact c⟩
 |h8 a i c Q m P=>
  obtain⟨j,k,C⟩:=n _ _ a;exact .h8 j (by rw[k];exact i.dT (f _ _ a).1 (f _ _ a).2) (by rw[C];exact c) (by rw[((f _ _ a).2 _ c).2];exact Q) m P
 |dh q _ s=>exact .dh q (λd l e g h=>s d l e g h)
 |agg q _ s=>exact .agg q (λd l e g h=>s d l e g h)
 |bY q _ s=>exact .bY q (λd l e g h=>s d l e g h)
def aE (c:List (Nat×ah)):Operand->ah
 |.tmp g=>gt c g
 |.const (.int d e)=>.val (.int d) e
 |.const (.bool a)=>.val .bool a
 |.const (.string f)=>.val .str f
 |.const h=>.bu h
 |.func b=>.bY b []
 |.global _=>.dead
def bk.int {c:bI->Nat->Prop} {g:World} {e:List (Nat×ay)} {f:Nat->cJ} {d:Nat->cP} (a:IntKind) (b:Int):bk c g e f d (.val (.int a) b) (.int a b):=
 .val (τ:=.int a) (cs:=[.int a b]) ⟨rfl,rfl⟩
def bk.bool {b:bI->Nat->Prop} {f:World} {d:List (Nat×ay)} {e:Nat->cJ} {c:Nat->cP} (a:Bool):bk b f d e c (.val .bool a) (.bool a):=
 .val (τ:=.bool) (cs:=[.bool a]) ⟨rfl,rfl⟩
def bk.str {b:bI->Nat->Prop} {f:World} {d:List (Nat×ay)} {e:Nat->cJ} {c:Nat->cP} (a:ByteArray):bk b f d e c (.val .str a) (.string a):=
 .val (τ:=.str) (cs:=[.string a]) ⟨rfl,rfl⟩
def bg.aE {e:c8} {c:aA} {a:Act} {l:World} {f:Nat->Prop} {j:Nat->cJ} {i:Nat->cP} (m:bg e c a.tmps l f j i) (d:Operand):bk (aY f e.B) l c.h j i (aE c.g d) (a.eval d):=by
 cases d with
 |tmp o=>exact m.tmp o
 |const p=>
  cases p<;>simp only[hX.aE,Act.eval]
  case int k n=>exact .int k n
  case bool b=>exact .bool b
  case string s=>exact .str s
  all_goals exact .bu _
 |func q=>exact .bY (vs:=#[]) ab ab
 |global r=>exact .dead _
theorem hQ {d:Type}:∀(c b:List (Nat×d)) (a:Nat),ai (c++b) a=(ai c a).or (ai b a)
 |[],b,a=>by simp[ai]
 |(k,v)::c,b,a=>by rw[iA,bv,bv,hQ c b a];split<;>simp
theorem gy (b:Nat) (c:ah) (d:List (Nat×ah)) (a:Nat):gt ((b,c)::d) a=if b=a then c else gt d a:=by unfold gt;rw[bv];by_cases e:b=a<;>simp[e]
def bg.put {f:cH} (a:bg I z f e l p q) (i:I.ok c) {av:ah} {v:Value} (m:bk (aY l I.B) e z.h p q av v):bg I ⟨(c,av)::z.g,z.h⟩ (f.setIfInBounds c v) e l p q where
 n:=by simpa using a.n
 i0:=a.i0
 i1:=a.i1
 ib:=a.ib
 tree:=a.tree
 dis:=a.dis
 tmp:=λb=>by
  show bk _ _ _ _ _ (gt ((c,av)::z.g) b) _;unfold gt;rw[bv];have k:c<f.size:=(by rw[a.n];exact i.1);by_cases d:c=b
  ·subst d;rw[ak rfl];have:(f.setIfInBounds c v).getD c undef=v:=(by simp[Array.getD,k]);rw[this];exact m
  rw[ag d];have:(f.setIfInBounds c v).getD b undef=f.getD b undef:=(by simp only[vZ,zz d]);rw[this];exact a.tmp b
 frame:=a.frame
 evo:=a.evo
 size:=a.size
 os:=a.os
 tape:=a.tape
 output:=a.output
 pin:=λb d=>by have:c≠b:=λj=>i.2 (j▸d);rw[<-a.pin b d];simp only[vZ,zz this]
structure rO (C:c8) (st:aA) (w w':World) (I':Nat->Prop) (new:List (Nat×ay)) (rtn:Nat->cJ) (fpn:Nat->cP):Prop where
 tree:∀id t,ai new id=some t->ai st.h id=none/\aD (aY I' C.B) w' t.1 (rtn id) t.2 (fpn id)/\(fpn id).Nodup/\∀b∈fpn id,w.heap.size<=b/\b<w'.heap.size/\¬I' b
 dis:∀i j t u,ai new i=some t->ai new j=some u->i≠j->∀b∈fpn i,b∉fpn j
def rO.nil:rO I z e k l [] p q:=
 ⟨(λ_ _ a=>by cases a),(λ_ _ _ _ a=>by cases a)⟩
def rO.one {C:c8} {st:aA} {e w':World} {I':Nat->Prop} {id:Nat} {t:ay} {cs:cJ} {f:cP} (m:ai st.h id=none) (n:aD (aY I' C.B) w' t.1 cs t.2 f) (k:f.Nodup) (j:∀b∈f,e.heap.size<=b/\b<w'.heap.size/\¬I' b):rO C st e w' I' [(id,t)] (λ_=>cs) (λ_=>f) where
 tree:=λo p a=>by
  rw[bv] at a;split at a
  ·rename_i g;subst g;obtain rfl:=dF a;exact⟨m,n,k,j⟩
  cases a
 dis:=λo q r p c d l=>by
  rw[bv] at c d;split at c
  ·split at d
   ·rename_i aj i;exact absurd (aj.symm.trans i) l
   cases d
  cases c
def de (d:List (Nat×ay)) {a:Type} (b c:Nat->a):Nat->a:=λid=>match ai d id with|some _=>b id|none=>c id
def bg.ext {P:cH} {rtn:Nat->cJ} {fpn:Nat->cP} (d:bg I z P e F p q) (i:fw e k) (A:∀a,F a->l a) (C:∀a,l a->F a\/(e.heap.size<=a/\a<k.heap.size)) {new:List (Nat×ay)} (t:rO I z e k l new rtn fpn):bg I ⟨z.g,new++z.h⟩ P k l (de new rtn p) (de new fpn q):=by
 have L:∀x a,aY F I.B x a->aY l I.B x a/\br e k a:=λx a b=>by
  refine⟨?_,.of_heap (i.heap a (d.ib a (kF b)))⟩;cases x
  ·exact A a b
  exact b.imp (A a) id
 have U:∀id c,ai z.h id=some c->ai (new++z.h) id=some c/\de new rtn p id=p id/\de new fpn q id=q id:=λid c f=>by
  have:ai new id=none:=by
   cases m:ai new id with
   |none=>rfl
   |some o=>have:=(t.tree id o m).1;rw[f] at this;cases this
  refine⟨by rw[hQ,this,f];rfl,by simp[de,this],by simp[de,this]⟩
 have D:∀id c,ai (new++z.h) id=some c->(ai new id=some c/\de new rtn p id=rtn id/\de new fpn q id=fpn id)\/(ai z.h id=some c/\de new rtn p id=p id/\de new fpn q id=q id):=λid c f=>by
  rw[hQ] at f;cases m:ai new id with
  |none=>rw[m] at f;exact .inr ⟨by simpa using f,by simp[de,m],by simp[de,m]⟩
  |some o=>rw[m] at f;exact .inl ⟨by simpa using f,by simp[de,m],by simp[de,m]⟩
 have M:∀id c,ai z.h id=some c->∀a∈q id,br e k a:=λid c f a b=>.of_heap (i.heap a ((d.tree id c f).2.2 a b).2.2.1);refine{n:=d.n,i0:=λa b=>A a (d.i0 a b),i1:=?_,ib:=?_,tree:=?_,dis:=?_,tmp:=?_,frame:=?_,evo:=λa b=>(d.evo a b).trans (.of_heap (i.heap a (fA b d.size))),size:=bj d.size i.size,os:=i.os.trans d.os,tape:=i.tape.trans d.tape,output:=i.output.trans d.output,pin:=d.pin}
 ·intro a b;rcases C a b with b|⟨b,_⟩
  ·exact d.i1 a b
  exact .inr (.inl (bj d.size b))
 ·intro a b;rcases b with b|b
  ·rcases C a b with b|⟨_,b⟩
   ·exact fA (d.ib a (.inl b)) i.size
   exact b
  exact fA (d.ib a (.inr b)) i.size
 ·intro id c f;rcases D id c f with⟨j,y,r⟩|⟨j,y,r⟩
  ·obtain⟨_,ao,E,G⟩:=t.tree id c j;rw[y,r];refine⟨ao,E,λa b=>?_⟩;obtain⟨H,J,K⟩:=G a b;exact⟨K,λQ=>by have:=d.ib a (.inr Q);omega,J,.inl (bj d.size H)⟩
  obtain⟨ao,E,G⟩:=d.tree id c j;rw[y,r];refine⟨ao.mono L (M id c j),E,λa b=>?_⟩;obtain⟨H,J,K,aT⟩:=G a b;exact⟨λs=>(C a s).elim H (λW=>by omega),J,fA K i.size,aT⟩
 ·intro u v c o S T N a b;rcases D u c S with⟨j,_,r⟩|⟨j,_,r⟩<;>rcases D v o T with⟨w,_,O⟩|⟨w,_,O⟩<;>rw[r] at b<;>rw[O]
  ·exact t.dis u v c o j w N a b
  ·intro s;have:=((t.tree u c j).2.2.2 a b).1;have:=((d.tree v o w).2.2 a s).2.2.1;omega
  ·intro s;have:=((t.tree v o w).2.2.2 a s).1;have:=((d.tree u c j).2.2 a b).2.2.1;omega
  exact d.dis u v c o j w N a b
 ·intro V;exact(d.tmp V).mono L (λid c f=>⟨(d.tree id c f).1,M id c f⟩) U
 intro a b R;rw[i.heap a (fA b d.size)];exact d.frame a b R
def bg.MW (a:bg I z B e l p q) (b:fw e k):bg I z B k l p q:=by have:=a.ext (rtn:=p) (fpn:=q) b (λ_ a=>a) (λ_ a=>.inl a) (new:=[]) .nil;exact this
def lO:List (Nat×ah)->aA->Prop
 |[],_=>True
 |(k,a)::r,st=>gt st.g k=a/\lO r st
def lP:List (Nat×ay)->aA->Prop
 |[],_=>True
 |(k,t)::r,st=>ai st.h k=some t/\lP r st
def lO.get (b:lO M z):∀a,gt M a=.dead\/gt M a=gt z.g a:=by
 induction M with
 |nil=>exactλa=>.inl rfl
 |cons e M d=>
  obtain⟨h,f⟩:=e;intro a;rw[gy];split
  ·rename_i c;subst c;exact .inr b.1.symm
  exact d b.2 a
def lP.get (c:lP x z):∀a b,ai x a=some b->ai z.h a=some b:=by
 induction x with
 |nil=>intro a b c;cases c
 |cons g x f=>
  obtain⟨j,i⟩:=g;intro a b d;rw[bv] at d;split at d
  ·rename_i e;subst e;rw[<-d];exact c.1
  exact f c.2 a b d
mutual
def ah.ids:ah->cP
 |.dead|.val _ _|.bu _=>[]
 |.ref id _|.addr id _|.view id _ _ _|.h8 id _ _=>[id]
 |.app id _ _ _ b=>id::b
 |.dh a|.agg a|.bY _ a=>ah.k7 a
def ah.k7:List ah->cP
 |[]=>[]
 |a::b=>a.ids++ah.k7 b
end
def ah.vj {l:List ah} {i:Nat} (a:l[i]?=some L) {id:Nat} (b:id∈L.ids):id∈ah.k7 l:=by
 induction l generalizing i with
 |nil=>simp at a
 |cons e d c=>
  simp only[ah.k7,eR];cases i with
  |zero=>simp at a;subst a;exact .inl b
  |succ i=>simp at a;exact .inr (c a)
def bk.pB {F:bI->Nat->Prop} {H:List (Nat×ay)} {M:Nat->cJ} {G:Nat->cP} (z:∀J a,f J a->F J a/\br e k a) (O:bk f e x p q L E) (h:∀id∈L.ids,∀y,ai x id=some y->ai H id=some y/\M id=p id/\G id=q id/\aD f e y.1 (p id) y.2 (q id)/\∀a∈q id,br e k a):bk F k H M G L E:=by
 induction O with
 |dead E=>exact .dead E
 |bu E=>exact .bu E
 |val X=>exact .val (X.mono z ab)
 |ref l j=>
  obtain⟨m,n,_,r,o⟩:=h _ (by simp[ah.ids]) _ l;exact .ref m (by rw[n];exact j.dT r o)
 |addr l j=>
  obtain⟨m,n,_,r,o⟩:=h _ (by simp[ah.ids]) _ l;exact .addr m (by rw[n];exact j.dT r o)
 |jg id K=>exact .jg id K
 |view l j d i N=>
  obtain⟨m,n,_,r,o⟩:=h _ (by simp[ah.ids]) _ l;exact .view m (by rw[n];exact j.dT r o) d i N
 |@app id K av ap am y ad Y an Z f2 E l T j Q d A i B I U=>
  obtain⟨m,n,D,V,C⟩:=h _ (by simp[ah.ids]) _ l;have P:∀a∈f2,br e k a:=λa b=>by
   rcases I a b with b|⟨c,g,b⟩
   ·exact C a (A a b)
   obtain⟨_,s,v⟩:=B c g;exact(h c (by simp[ah.ids,g]) s v).2.2.2.2 a b
  refine .app m T (by rw[n];exact j.dT V C) Q (d.mono z (λa b=>C a (A a b))) (by rw[D];exact A) (i.mono z P) ?_ ?_ U
  ·intro c g;obtain⟨W,s,v⟩:=B c g;exact⟨W,s,(h c (by simp[ah.ids,g]) s v).1⟩
  intro a b;rcases I a b with b|⟨c,g,b⟩
  ·exact .inl b
  obtain⟨_,s,v⟩:=B c g;exact .inr ⟨c,g,by rw[(h c (by simp[ah.ids,g]) s v).2.2.1];exact b⟩
 |h8 l j b S g R=>
  obtain⟨m,n,D,r,o⟩:=h _ (by simp[ah.ids]) _ l;exact .h8 m (by rw[n];exact j.dT r o) (by rw[D];exact b) (by rw[(o _ b).2];exact S) g R
 |dh u _ w=>exact .dh u (λc L E d i=>w c L E d i (λid t=>h id (ah.vj d t)))
 |agg u _ w=>exact .agg u (λc L E d i=>w c L E d i (λid t=>h id (ah.vj d t)))
 |bY u _ w=>exact .bY u (λc L E d i=>w c L E d i (λid t=>h id (ah.vj d t)))
def bg.ue {o:aA} (a:bg I o B e l p q) (v:lO z.g o) (d:lP z.h o) (w:∀c,∀id∈(gt z.g c).ids,(ai z.h id).isSome=true):bg I z B e l p q where
 n:=a.n
 i0:=a.i0
 i1:=a.i1
 ib:=a.ib
 tree:=λid b f=>a.tree id b (d.get id b f)
 dis:=λs t b i m x=>a.dis s t b i (d.get s b m) (d.get t i x)
 tmp:=λc=>by
  rcases v.get c with k|k
  ·rw[k];exact .dead _
  have:=w c;rw[k] at this|-;refine(a.tmp c).pB (λy j u=>⟨u,br.refl e j⟩) (λid m b f=>?_);obtain⟨i,r⟩:=zH.1 (this id m);have:=d.get id i r;rw[f] at this;obtain rfl:=dF this;exact⟨r,rfl,rfl,(a.tree id b f).1,λj _=>br.refl e j⟩
 frame:=a.frame
 evo:=a.evo
 size:=a.size
 os:=a.os
 tape:=a.tape
 output:=a.output
 pin:=a.pin
def jA (a:List (Nat×ah)) (b:List (Nat×ay)):Bool:=a.all λc=>c.2.ids.all λid=>(ai b id).isSome
def jA.get (d:jA M x=true) (c:Nat):∀id∈(gt M c).ids,(ai x id).isSome=true:=by
 intro id b;unfold gt at b;cases a:ai M c with
 |none=>rw[a] at b;simp[ah.ids] at b
 |some e=>
  rw[a] at b;have g:(c,e)∈M:=by
   clear d b
   induction M with
   |nil=>cases a
   |cons i l h=>
    obtain⟨k,j⟩:=i;rw[bv] at a;split at a
    ·rename_i f;subst f;obtain rfl:=dF a;simp
    exact eH _ (h a)
  simp only[jA,et] at d;exact d (c,e) g id b
section
mutual
def dn (P:Program):ae->TypeId->Prop
 |.int f,T=>∃a,P.info? T=some a/\a.size=1/\a.bytes<=24/\a.zero=some (.int f 0)/\P.underlying T=some (.int f)
 |.bool,T=>∃a,P.info? T=some a/\a.size=1/\a.bytes<=24/\a.zero=some (.bool false)/\P.underlying T=some .bool
 |.str,T=>∃a,P.info? T=some a/\a.size=1/\a.bytes<=24/\a.zero=some (.string ByteArray.empty)/\P.underlying T=some .string
 |.aU _ b,T=>∃a E,P.info? T=some a/\a.size=1/\a.bytes<=24/\a.zero=some (.slice none 0 0)/\P.underlying T=some (.slice E)/\dn P b E
 |.osl b,T=>∃a E,P.info? T=some a/\a.size=1/\a.bytes<=24/\a.zero=some (.slice none 0 0)/\P.underlying T=some (.slice E)/\dn P b E
 |.ptr _ b,T=>∃a E,P.info? T=some a/\a.size=1/\a.bytes<=24/\a.zero=some (.pointer none)/\P.underlying T=some (.pointer E)/\dn P b E
 |.optr b,T=>∃a E,P.info? T=some a/\a.size=1/\a.bytes<=24/\a.zero=some (.pointer none)/\P.underlying T=some (.pointer E)/\dn P b E
 |.st b,T=>0<b.size/\∃a e d,P.info? T=some a/\a.size=b.size/\a.bytes<=24*b.size/\a.zero=some (.agg d)/\P.underlying T=some (.struct e)/\gp P b e.toList 0 d.toList/\d.size=b.size
 |.mp b,T=>∃a c E,P.info? T=some a/\a.size=1/\a.bytes<=24/\a.zero=some (.map none)/\P.underlying T=some (.map c E)/\P.underlying c=some (.int .i64)/\dn P b E
 |.di _ b,T=>∃a c E,P.info? T=some a/\a.size=1/\a.bytes<=24/\a.zero=some (.map none)/\P.underlying T=some (.map c E)/\P.underlying c=some (.int .i64)/\dn P b E
 |_,_=>False
def gp (P:Program):ae->List Field->Nat->cJ->Prop
 |.pr a g,c::h,e,b=>c.offset=e/\dn P a c.type/\0<a.size/\(∃d f,P.info? c.type=some d/\d.zero=some f/\b.take a.size=f.cells.toList)/\gp P g h (e+a.size) (b.drop a.size)
 |.nil,[],_,b=>b=[]
 |_,_,_,_=>False
end
def mZ:ae->Bool
 |.st _=>true
 |_=>false
structure JA (P:Program) (τ:ae) (T:TypeId) (i:TypeInfo):Prop where
 info:P.info? T=some i
 size:i.size=τ.size
 bytes:i.bytes<=24*τ.size
 pos:0<τ.size
def dn.info {P:Program}:∀{τ:ae} {T:TypeId},dn P τ T->∃a g,JA P τ T a/\P.underlying T=some g/\(match g with|.struct _|.array _ _=>true|_=>false)=mZ τ
 |.int _,_,⟨a,b,c,d,_,e⟩=>⟨a,_,⟨b,c,d,by simp[ae.size]⟩,e,rfl⟩
 |.bool,_,⟨a,b,c,d,_,e⟩=>⟨a,_,⟨b,c,d,by simp[ae.size]⟩,e,rfl⟩
 |.str,_,⟨a,b,c,d,_,e⟩=>⟨a,_,⟨b,c,d,by simp[ae.size]⟩,e,rfl⟩
 |.aU _ _,_,⟨a,_,b,c,d,_,e,_⟩=>⟨a,_,⟨b,c,d,by simp[ae.size]⟩,e,rfl⟩
 |.osl _,_,⟨a,_,b,c,d,_,e,_⟩=>⟨a,_,⟨b,c,d,by simp[ae.size]⟩,e,rfl⟩
 |.ptr _ _,_,⟨a,_,b,c,d,_,e,_⟩=>⟨a,_,⟨b,c,d,by simp[ae.size]⟩,e,rfl⟩
 |.optr _,_,⟨a,_,b,c,d,_,e,_⟩=>⟨a,_,⟨b,c,d,by simp[ae.size]⟩,e,rfl⟩
 |.st i,_,⟨h,a,_,_,b,c,d,_,e,_⟩=>⟨a,_,⟨b,c,d,h⟩,e,rfl⟩
 |.pr _ _,_,f=>f.elim
 |.nil,_,f=>f.elim
 |.bJ,_,f=>f.elim
 |.mp _,_,⟨a,_,_,b,c,d,_,e,_⟩=>⟨a,_,⟨b,c,d,by simp[ae.size]⟩,e,rfl⟩
 |.di _ _,_,⟨a,_,_,b,c,d,_,e,_⟩=>⟨a,_,⟨b,c,d,by simp[ae.size]⟩,e,rfl⟩
def dn.A3 {P:Program}:∀{τ:ae} {T:TypeId},dn P τ T->∃g,g.cells.size=τ.size/\∀d,P.info? T=some d->d.zero=some g
 |.int _,_,⟨d,a,_,_,b,_⟩|.bool,_,⟨d,a,_,_,b,_⟩|.str,_,⟨d,a,_,_,b,_⟩=>⟨_,rfl,λf c=>by rw[a] at c;cases c;exact b⟩
 |.aU _ _,_,⟨d,_,a,_,_,b,_⟩|.osl _,_,⟨d,_,a,_,_,b,_⟩|.ptr _ _,_,⟨d,_,a,_,_,b,_⟩|.optr _,_,⟨d,_,a,_,_,b,_⟩=>⟨_,rfl,λf c=>by rw[a] at c;cases c;exact b⟩
 |.st n,_,⟨j,d,_,i,a,k,l,b,m,_,h⟩=>⟨.agg i,h,λf c=>by rw[a] at c;cases c;exact b⟩
 |.pr _ _,_,e=>e.elim
 |.nil,_,e=>e.elim
 |.bJ,_,e=>e.elim
 |.mp _,_,⟨d,_,_,a,_,_,b,_⟩=>⟨_,rfl,λf c=>by rw[a] at c;cases c;exact b⟩
 |.di _ _,_,⟨d,_,_,a,_,_,b,_⟩=>⟨_,rfl,λf c=>by rw[a] at c;cases c;exact b⟩
section
variable {P:Program} {τ:ae} {T:TypeId}
def dn.sizeOf (c:dn P τ T) (b:World):(Go.sizeOf T).run P b=.ok τ.size b:=by obtain⟨e,d,a,_⟩:=c.info;simp[Go.sizeOf,typeInfo,a.info,a.size]
def dn.isAgg (c:dn P τ T) (a:World):(Go.isAgg T).run P a=.ok (mZ τ) a:=by obtain⟨g,b,f,e,d⟩:=c.info;simp only[Go.isAgg,Sem.run_bind,run_underlying e,Result.andThen_ok];rw[<-d];cases b<;>rfl
def dn.pos (a:dn P τ T):0<τ.size:=by obtain⟨d,c,b,_⟩:=a.info;exact b.pos
def B7:∀{τ:ae} {T:TypeId},dn P τ T->mZ τ=false->τ.size=1
 |.int _,_,_,_|.bool,_,_,_|.str,_,_,_|.aU _ _,_,_,_|.osl _,_,_,_|.ptr _ _,_,_,_|.optr _,_,_,_|.mp _,_,_,_|.di _ _,_,_,_=>rfl
 |.st _,_,_,a=>by cases a
 |.pr _ _,_,a,_=>a.elim
 |.nil,_,a,_=>a.elim
 |.bJ,_,a,_=>a.elim
def y6 (a:mZ τ=false):bn τ i=i.headD undef:=by cases τ<;>first|rfl|cases a
def y7 (a:mZ τ=true):bn τ i=.agg i.toArray:=by cases τ<;>first|rfl|cases a
def md (d:dn P τ T) (c:i.length=τ.size) (e:∀a∈i,a.oneCell'=true):(bn τ i).cells=i.toArray:=by
 cases b:mZ τ with
 |true=>rw[y7 b];rfl
 |false=>
  rw[y6 b];rw[B7 d b] at c;obtain⟨a,rfl⟩:=rL.1 c;have:=e a ab;cases a<;>first|rfl|(simp[Value.oneCell'] at this)
def H2 (a:dn P τ T) (h:du e c g i) (b:i.length=τ.size):(loadVar T ⟨c,g,none⟩).run P e=.ok (bn τ i) e:=by
 simp only[loadVar,Sem.run_bind,a.isAgg,Result.andThen_ok];cases d:mZ τ with
 |true=>
  simp only[if_true,Sem.run_bind,a.sizeOf,Result.andThen_ok];rw[<-b,run_loadCells_list e ⟨c,g,none⟩ i (λk f j=>by rw[Addr.add_lit];exact h k f j)];rw[y7 d];rfl
 |false=>
  rw[B7 a d] at b;obtain⟨f,rfl⟩:=rL.1 b;have:=h 0 f rfl;simp only[lE] at this;rw[y6 d];simp[this]
end
def jj:(τ:ae)->Option τ.den
 |.int _=>some (0:Int)
 |.bool=>some false
 |.str=>some ByteArray.empty
 |.aU _ _=>some []
 |.osl _=>some []
 |.ptr _ _=>some none
 |.optr _=>none
 |.st c=>jj c
 |.pr a b=>match jj a,jj b with|some d,some e=>some (d,e)|_,_=>none
 |.nil=>some ()
 |.bJ=>none
 |.mp _=>some none
 |.di _ _=>some none
mutual
theorem rz {P:Program}:∀{τ:ae} {T:TypeId} {g:τ.den},dn P τ T->jj τ=some g->∃a l,P.info? T=some a/\a.zero=some l/\l=bn τ l.cells.toList/\∀(e:bI->Nat->Prop) (f:World),aD e f τ l.cells.toList g []
 |.int p,_,g,⟨a,c,h,i,d,j⟩,b=>⟨a,_,c,d,rfl,λe f=>by cases b;exact⟨rfl,rfl⟩⟩
 |.bool,_,g,⟨a,c,h,i,d,j⟩,b=>⟨a,_,c,d,rfl,λe f=>by cases b;exact⟨rfl,rfl⟩⟩
 |.str,_,g,⟨a,c,h,i,d,j⟩,b=>⟨a,_,c,d,rfl,λe f=>by cases b;exact⟨rfl,rfl⟩⟩
 |.aU _ _,_,g,⟨a,_,c,h,i,d,j,_⟩,b=>⟨a,_,c,d,rfl,λe f=>by cases b;exact⟨rfl,none,0,rfl,aZ _,λ_=>rfl,.inl rfl⟩⟩
 |.osl _,_,g,⟨a,_,c,h,i,d,j,_⟩,b=>⟨a,_,c,d,rfl,λe f=>by cases b;exact⟨none,0,rfl,.inl ⟨rfl,rfl,rfl,rfl⟩⟩⟩
 |.ptr _ _,_,g,⟨a,_,c,h,i,d,j,_⟩,b=>⟨a,_,c,d,rfl,λe f=>by cases b;exact⟨rfl,rfl⟩⟩
 |.optr _,_,_,_,b=>by cases b
 |.st n,_,g,⟨_,a,o,q,c,h,i,d,j,m,_⟩,b=>⟨a,_,c,d,rfl,λe f=>I6 (τ:=n) m b e f⟩
 |.pr _ _,_,_,k,_=>k.elim
 |.nil,_,_,k,_=>k.elim
 |.bJ,_,_,k,_=>k.elim
 |.mp _,_,g,⟨a,_,_,c,h,i,d,j,_⟩,b=>⟨a,_,c,d,rfl,λe f=>by cases b;exact⟨rfl,rfl⟩⟩
 |.di _ _,_,g,⟨a,_,_,c,h,i,d,j,_⟩,b=>⟨a,_,c,d,rfl,λe f=>by cases b;exact⟨rfl,rfl⟩⟩
theorem I6 {P:Program}:∀{τ:ae} {l:List Field} {g:Nat} {f:cJ} {e:τ.den},gp P τ l g f->jj τ=some e->∀(b:bI->Nat->Prop) (d:World),aD b d τ f e []
 |.pr j k,t::y,g,f,e,a,c,b,d=>by
  obtain⟨u,m,v,⟨w,B,ao,q,r⟩,n⟩:=a;simp only[jj] at c;split at c
  ·rename_i z A o p;cases c;obtain⟨x,C,h,i,_,s⟩:=rz (τ:=j) m o;rw[ao] at h;obtain rfl:=dF h;rw[q] at i;obtain rfl:=dF i;exact⟨[],[],rfl,by rw[r];exact s b d,I6 (τ:=k) n p b d⟩
  cases c
 |.nil,[],_,f,e,a,c,b,d=>⟨rfl,a⟩
 |.pr _ _,[],_,_,_,a,_,_,_=>a.elim
 |.nil,_::_,_,_,_,a,_,_,_=>a.elim
 |.int _,_,_,_,_,a,_,_,_=>by cases a
 |.bool,_,_,_,_,a,_,_,_=>by cases a
 |.str,_,_,_,_,a,_,_,_=>by cases a
 |.aU _ _,_,_,_,_,a,_,_,_=>by cases a
 |.osl _,_,_,_,_,a,_,_,_=>by cases a
 |.ptr _ _,_,_,_,_,a,_,_,_=>by cases a
 |.optr _,_,_,_,_,a,_,_,_=>by cases a
 |.st _,_,_,_,_,a,_,_,_=>by cases a
 |.bJ,_,_,_,_,a,_,_,_=>by cases a
 |.mp _,_,_,_,_,a,_,_,_=>by cases a
 |.di _ _,_,_,_,_,a,_,_,_=>by cases a
end
def aS:ae->ae->Bool
 |.int g,.int h=>if g=h then true else false
 |.bool,.bool|.str,.str|.nil,.nil=>true
 |.aU _ a,.aU _ b|.aU _ a,.osl b|.osl a,.aU _ b|.osl a,.osl b=>aS a b
 |.ptr _ a,.ptr _ b|.ptr _ a,.optr b|.optr a,.ptr _ b|.optr a,.optr b=>aS a b
 |.st a,.st b=>aS a b
 |.mp a,.mp b|.mp a,.di _ b|.di _ a,.mp b|.di _ a,.di _ b=>aS a b
 |.pr c d,.pr e f=>aS c e&&aS d f
 |_,_=>false
theorem aS.size:∀{τ b:ae},aS τ b=true->τ.size=b.size:=by
 intro τ
 induction τ with
 |st h c=>intro b a;cases b<;>simp only[aS] at a<;>first|(simp only[ae.size];exact c a)|cases a
 |pr f g d e=>
  intro b a;cases b<;>simp only[aS] at a<;>try (cases a;done)
  simp only[a2] at a;simp only[ae.size];rw[d a.1,e a.2]
 |_=>intro b a;cases b<;>simp[aS] at a<;>simp[ae.size]
mutual
theorem dn.lay {P:Program}:∀{τ c:ae} {T:TypeId},aS τ c=true->dn P τ T->dn P c T
 |.int q,c,_,a,b=>by cases c<;>simp[aS] at a;subst a;exact b
 |.bool,c,_,a,b=>by cases c<;>simp[aS] at a;exact b
 |.str,c,_,a,b=>by cases c<;>simp[aS] at a;exact b
 |.aU _ k,c,_,a,b=>by obtain⟨h,E,d,i,j,e,f,g⟩:=b;cases c<;>simp only[aS] at a<;>first|exact⟨h,E,d,i,j,e,f,dn.lay a g⟩|cases a
 |.osl k,c,_,a,b=>by obtain⟨h,E,d,i,j,e,f,g⟩:=b;cases c<;>simp only[aS] at a<;>first|exact⟨h,E,d,i,j,e,f,dn.lay a g⟩|cases a
 |.ptr _ k,c,_,a,b=>by obtain⟨h,E,d,i,j,e,f,g⟩:=b;cases c<;>simp only[aS] at a<;>first|exact⟨h,E,d,i,j,e,f,dn.lay a g⟩|cases a
 |.optr k,c,_,a,b=>by obtain⟨h,E,d,i,j,e,f,g⟩:=b;cases c<;>simp only[aS] at a<;>first|exact⟨h,E,d,i,j,e,f,dn.lay a g⟩|cases a
 |.st k,c,_,a,b=>by
  obtain⟨p,h,n,o,d,i,j,e,f,g,l⟩:=b;cases c<;>simp only[aS] at a<;>try (cases a;done)
  have:=aS.size a;exact⟨U,h,n,o,d,U,U,e,f,gp.lay a g,U⟩
 |.pr _ _,_,_,_,b=>b.elim
 |.nil,_,_,_,b=>b.elim
 |.bJ,_,_,_,b=>b.elim
 |.mp k,c,_,a,b=>by obtain⟨h,m,E,d,i,j,e,f,g,l⟩:=b;cases c<;>simp only[aS] at a<;>first|exact⟨h,m,E,d,i,j,e,f,g,dn.lay a l⟩|cases a
 |.di _ k,c,_,a,b=>by obtain⟨h,m,E,d,i,j,e,f,g,l⟩:=b;cases c<;>simp only[aS] at a<;>first|exact⟨h,m,E,d,i,j,e,f,g,dn.lay a l⟩|cases a
theorem gp.lay {P:Program}:∀{τ c:ae} {f:List Field} {d:Nat} {e:cJ},aS τ c=true->gp P τ f d e->gp P c f d e
 |.pr k l,c,m::o,d,e,b,a=>by
  obtain⟨g,h,n,i,j⟩:=a;cases c<;>simp only[aS] at b<;>try (cases b;done)
  simp only[a2] at b;have:=aS.size b.1;exact⟨g,dn.lay b.1 h,U,by rw[<-this];exact i,by rw[<-this];exact gp.lay b.2 j⟩
 |.nil,c,[],_,_,b,a=>by cases c<;>simp[aS] at b;exact a
 |.pr _ _,_,[],_,_,_,a=>a.elim
 |.nil,_,_::_,_,_,_,a=>a.elim
 |.int _,_,_,_,_,_,a=>by cases a
 |.bool,_,_,_,_,_,a=>by cases a
 |.str,_,_,_,_,_,a=>by cases a
 |.aU _ _,_,_,_,_,_,a=>by cases a
 |.osl _,_,_,_,_,_,a=>by cases a
 |.ptr _ _,_,_,_,_,_,a=>by cases a
 |.optr _,_,_,_,_,_,a=>by cases a
 |.st _,_,_,_,_,_,a=>by cases a
 |.bJ,_,_,_,_,_,a=>by cases a
 |.mp _,_,_,_,_,_,a=>by cases a
end
structure qh where
 b:Nat
 T:TypeId
 k:IntKind
 xs:cQ
def Dg (P:Program) (a:qh):Prop:=∃b,P.underlying a.T=some (.array a.xs.length b)/\dn P (.int a.k) b
structure dA where
 P:Program
 tt:List (TypeId×ae)
 ok:∀T τ,ai tt T=some τ->dn P τ T
 mix:P.follows .mixedOrders=true
 glob:List qh:=[]
 gok:∀g∈glob,Dg P g:=by intro g h;cases h
end
section
def fi:Nat:=4294967296
def aQ {b:Type} (c:List b) (a:Int):Option b:=if 0<=a then c[a.toNat]? else none
def E9 {b:List y} {c:y} (a:aQ b S=some c):S=(S.toNat:Int)/\S.toNat<b.length/\b[S.toNat]?=some c:=by
 unfold aQ at a;split at a
 ·exact⟨U,(ej.1 a).1,a⟩
 cases a
inductive fB where
 |da (av:ah) (new:List (Nat×ay))
 |part (α:Type) (φ:α->Prop) (f:α->ah×List (Nat×ay))
 |bad
def fB.K (e:fB) (Q:ah->List (Nat×ay)->Prop):Prop:=
 match e with
 |.da c d=>Q c d
 |.part f g b=>∃a:f,g a/\Q (b a).1 (b a).2
 |.bad=>False
def ae.pure:ae->Bool
 |.osl _|.optr _|.bJ|.mp _=>false
 |.st c=>c.pure
 |.pr a b=>a.pure&&b.pure
 |_=>true
def dp:ae->List aM->Option ae
 |τ,[]=>some τ
 |.osl c,.idx _::b=>dp c b
 |.optr c,.deref::b=>dp c b
 |.mp c,.deref::b=>dp c b
 |.st c,.unst::b=>dp c b
 |.pr a _,.fst::b=>dp a b
 |.pr _ d,.snd::b=>dp d b
 |_,_=>none
def dy:ae->Nat->Option (List aM×ae)
 |.pr a _,0=>some ([.fst],a)
 |.pr _ c,d+1=>match dy c d with|some b=>some (.snd::b.1,b.2)|none=>none
 |_,_=>none
def c9:ae->Nat->Nat
 |.pr _ _,0=>0
 |.pr a b,c+1=>a.size+c9 b c
 |_,_=>0
def nV:(e:ae)->e.den->Nat->Option ay
 |.pr a _,b,0=>some ⟨a,b.1⟩
 |.pr _ c,b,d+1=>nV c b.2 d
 |_,_,_=>none
def AP {h:Program}:∀{τ:ae} {j:List Field} {f:Nat} {g:cJ} {e:Nat} {s:List aM} {τf:ae},gp h τ j f g->dy τ e=some (s,τf)->∃c,j[e]?=some c/\c.offset=f+c9 τ e/\dn h τf c.type
 |.pr a i,c::q,f,g,0,s,τf,d,b=>by simp only[dy,bw,e6] at b;obtain⟨rfl,rfl⟩:=b;exact⟨c,rfl,by rw[d.1];rfl,d.2.1⟩
 |.pr a i,c::q,f,g,e+1,s,τf,d,b=>by
  simp only[dy] at b;split at b
  ·rename_i k p;simp only[bw,e6] at b;obtain⟨rfl,rfl⟩:=b;obtain⟨l,m,n,o⟩:=AP (τ:=i) d.2.2.2.2 (s:=k.1) (τf:=k.2) p;exact⟨l,by simpa using m,by rw[n];simp only[c9];omega,o⟩
  cases b
 |.pr _ _,[],_,_,_,_,_,d,_=>d.elim
 |.int _,_,_,_,_,_,_,_,b=>by cases b
 |.bool,_,_,_,_,_,_,_,b=>by cases b
 |.str,_,_,_,_,_,_,_,b=>by cases b
 |.aU _ _,_,_,_,_,_,_,_,b=>by cases b
 |.osl _,_,_,_,_,_,_,_,b=>by cases b
 |.ptr _ _,_,_,_,_,_,_,_,b=>by cases b
 |.optr _,_,_,_,_,_,_,_,b=>by cases b
 |.st _,_,_,_,_,_,_,_,b=>by cases b
 |.nil,_,_,_,_,_,_,_,b=>by cases b
 |.bJ,_,_,_,_,_,_,_,b=>by cases b
def AS:∀{τ:ae} {f:τ.den} {d:Nat} {c:ay},nV τ f d=some c->∃e,dy τ d=some (e,c.1)
 |.pr a g,f,0,c,b=>by simp only[nV,bw] at b;subst b;exact⟨_,rfl⟩
 |.pr a g,f,d+1,c,b=>by obtain⟨e,h⟩:=AS (τ:=g) b;exact⟨.snd::e,by simp[dy,h]⟩
 |.int _,_,_,_,b=>by cases b
 |.bool,_,_,_,b=>by cases b
 |.str,_,_,_,b=>by cases b
 |.aU _ _,_,_,_,b=>by cases b
 |.osl _,_,_,_,b=>by cases b
 |.ptr _ _,_,_,_,b=>by cases b
 |.optr _,_,_,_,b=>by cases b
 |.st _,_,_,_,b=>by cases b
 |.nil,_,_,_,b=>by cases b
 |.bJ,_,_,_,b=>by cases b
def sz:∀{τ:ae} {c:Nat} {s:List aM} {tf:ae},dy τ c=some (s,tf)->c9 τ c+tf.size<=τ.size
 |.pr a d,0,s,tf,b=>by simp only[dy,bw,e6] at b;obtain⟨_,rfl⟩:=b;simp[c9,ae.size]
 |.pr a d,c+1,s,tf,b=>by
  simp only[dy] at b;split at b
  ·rename_i e f;simp only[bw,e6] at b;obtain⟨_,rfl⟩:=b;have:=sz (τ:=d) (s:=e.1) (tf:=e.2) f;simp only[c9,ae.size];omega
  cases b
 |.int _,_,_,_,b=>by cases b
 |.bool,_,_,_,b=>by cases b
 |.str,_,_,_,b=>by cases b
 |.aU _ _,_,_,_,b=>by cases b
 |.osl _,_,_,_,b=>by cases b
 |.ptr _ _,_,_,_,b=>by cases b
 |.optr _,_,_,_,b=>by cases b
 |.st _,_,_,_,b=>by cases b
 |.nil,_,_,_,b=>by cases b
 |.bJ,_,_,_,b=>by cases b
def AR {j:bI->Nat->Prop} {w:World}:∀{τ:ae} {f:τ.den} {e:Nat} {c:ay} {d:cJ},aD j w τ d f []->nV τ f e=some c->aD j w c.1 ((d.drop (c9 τ e)).take c.1.size) c.2 []/\c9 τ e+c.1.size<=τ.size
 |.pr a k,f,0,c,d,i,b=>by simp only[nV,bw] at b;subst b;obtain⟨g,f2,h,l,m⟩:=i;obtain⟨rfl,rfl⟩:g=[]/\f2=[]:=(by simpa[eq_comm] using h);exact⟨by simpa[c9] using l,by simp[c9,ae.size]⟩
 |.pr a k,f,e+1,c,d,i,b=>by obtain⟨g,f2,h,l,m⟩:=i;obtain⟨rfl,rfl⟩:g=[]/\f2=[]:=(by simpa[eq_comm] using h);obtain⟨n,o⟩:=AR (τ:=k) m b;refine⟨?_,by simp only[c9,ae.size];omega⟩;simp only[c9];rwa[oH] at n
 |.int _,_,_,_,_,_,b=>by cases b
 |.bool,_,_,_,_,_,b=>by cases b
 |.str,_,_,_,_,_,b=>by cases b
 |.aU _ _,_,_,_,_,_,b=>by cases b
 |.osl _,_,_,_,_,_,b=>by cases b
 |.ptr _ _,_,_,_,_,_,b=>by cases b
 |.optr _,_,_,_,_,_,b=>by cases b
 |.st _,_,_,_,_,_,b=>by cases b
 |.nil,_,_,_,_,_,b=>by cases b
 |.bJ,_,_,_,_,_,b=>by cases b
theorem aF.ei {w:World} {a:Loc}:aF w d v i [] o a A↔d=o/\v=a/\i=A:=by cases d<;>exact Iff.rfl
def aF.append {w:World}:∀{p c:List aM} {τ u v:ae} {n q r:Loc} {m k l:cJ},aF w τ n m p u q k->aF w u q k c v r l->aF w τ n m (p++c) v r l
 |[],c,τ,_,_,_,_,_,_,_,_,a,b=>by obtain⟨rfl,rfl,rfl⟩:=aF.ei.1 a;exact b
 |s::p,c,τ,_,_,_,_,_,_,_,_,a,b=>by
  cases τ<;>cases s<;>simp only[aF] at a
  case osl.idx t i=>
   obtain⟨d,o,z,x,e,f,g,h,j,y⟩:=a;exact⟨d,o,z,x,e,f,g,h,j,y.append b⟩
  case optr.deref t=>
   obtain⟨d,o,e,f,g,h,j⟩:=a;exact⟨d,o,e,f,g,h,j.append b⟩
  case st.unst t=>exact aF.append (p:=p) (τ:=t) a b
  case pr.fst t1 t2=>exact aF.append (p:=p) (τ:=t1) a b
  case pr.snd t1 t2=>exact aF.append (p:=p) (τ:=t2) a b
def aF.here {w:World}:aF w d v i [] d v i:=by cases d<;>exact⟨rfl,rfl,rfl⟩
def aF.ty {w:World}:∀{p:List aM} {τ c:ae} {m n:Loc} {e f:cJ},aF w τ m e p c n f->dp τ p=some c
 |[],τ,_,_,_,_,_,a=>by obtain⟨rfl,_⟩:=aF.ei.1 a;cases τ<;>rfl
 |s::p,τ,_,_,_,_,_,a=>by
  cases τ<;>cases s<;>simp only[aF] at a
  case osl.idx t i=>obtain⟨d,o,r,q,g,h,j,k,b,l⟩:=a;exact l.ty
  case optr.deref t=>obtain⟨d,o,g,h,j,k,b⟩:=a;exact b.ty
  case st.unst t=>exact aF.ty (p:=p) (τ:=t) a
  case pr.fst t1 t2=>exact aF.ty (p:=p) (τ:=t1) a
  case pr.snd t1 t2=>exact aF.ty (p:=p) (τ:=t2) a
def aF.at {w:World}:∀{q:List aM} {τ r:ae} {h p:Loc} {g j:cJ},aF w τ h g q r p j->g.length=τ.size->(∀b o,h=some (b,o)->du w b o g)->j.length=r.size/\∀b o,p=some (b,o)->du w b o j
 |[],τ,_,_,_,_,_,d,f,e=>by obtain⟨rfl,rfl,rfl⟩:=aF.ei.1 d;exact⟨f,e⟩
 |s::q,τ,_,h,_,g,_,d,f,e=>by
  cases τ<;>cases s<;>simp only[aF] at d
  case osl.idx t i=>
   obtain⟨b,o,A,z,u,v,n,k,l,x⟩:=d;exact x.at k (λm y c=>by simp only[bw,e6] at c;obtain⟨rfl,rfl⟩:=c;exact l)
  case optr.deref t=>
   obtain⟨b,o,u,v,n,k,l⟩:=d;exact l.at n (λm y c=>by simp only[bw,e6] at c;obtain⟨rfl,rfl⟩:=c;exact k)
  case st.unst t=>exact aF.at (τ:=t) d f e
  case pr.fst a b=>
   exact aF.at (τ:=a) d (by simp only[ae.size] at f;simp;omega) (λb o c=>(e b o c).take)
  case pr.snd a b=>
   refine aF.at (τ:=b) d (by simp only[ae.size] at f;simp;omega) (λm o c=>?_);cases h with
   |none=>simp at c
   |some B=>
    simp only[hj,bw,e6] at c;obtain⟨rfl,rfl⟩:=c;exact(e _ _ rfl).drop
def aF.qQ {w:World}:∀{τ:ae} {e:Nat} {s:List aM} {τf:ae} {l:Loc} {cs:cJ},dy τ e=some (s,τf)->aF w τ l cs s τf (l.map λc=>(c.1,c.2+c9 τ e)) ((cs.drop (c9 τ e)).take τf.size)
 |.pr a f,0,s,τf,l,cs,d=>by
  simp only[dy,bw,e6] at d;obtain⟨rfl,rfl⟩:=d;have:(l.map λc=>(c.1,c.2+c9 (.pr a f) 0))=l:=(by cases l<;>simp[c9]);rw[this];simp only[aF,c9,mB]
  first|exact aF.here|exact⟨rfl,rfl,rfl⟩|trivial|simp
 |.pr a f,e+1,s,τf,l,cs,d=>by
  simp only[dy] at d;split at d
  ·rename_i c g;simp only[bw,e6] at d;obtain⟨rfl,rfl⟩:=d;have:=aF.qQ (w:=w) (τ:=f) (s:=c.1) (τf:=c.2) (l:=l.map λc=>(c.1,c.2+a.size)) (cs:=cs.drop a.size) g;simp only[aF,c9];rw[oH] at this;cases l with
   |none=>exact this
   |some h=>simp only[hj,Nat.add_assoc] at this|-;exact this
  cases d
 |.int _,_,_,_,_,_,b=>by cases b
 |.bool,_,_,_,_,_,b=>by cases b
 |.str,_,_,_,_,_,b=>by cases b
 |.aU _ _,_,_,_,_,_,b=>by cases b
 |.osl _,_,_,_,_,_,b=>by cases b
 |.ptr _ _,_,_,_,_,_,b=>by cases b
 |.optr _,_,_,_,_,_,b=>by cases b
 |.st _,_,_,_,_,_,b=>by cases b
 |.nil,_,_,_,_,_,b=>by cases b
 |.bJ,_,_,_,_,_,b=>by cases b
def bH.uniq:∀{p:List aM} {τ:ae} {e:τ.den} {c:ae} {f g:c.den},bH τ e p c f->bH τ e p c g->f=g
 |[],τ,_,_,_,_,a,b=>by obtain⟨rfl,a⟩:=bH.ei.1 a;obtain⟨_,b⟩:=bH.ei.1 b;exact a.symm.trans b
 |s::p,τ,_,_,_,_,a,b=>by
  cases τ<;>cases s<;>simp only[bH] at a b
  case osl.idx=>
   obtain⟨i,h,a⟩:=a;obtain⟨j,d,b⟩:=b;rw[h] at d;obtain rfl:=dF d;exact a.uniq b
  case optr.deref=>exact bH.uniq (p:=p) a b
  case st.unst=>exact bH.uniq (p:=p) a b
  case pr.fst=>exact bH.uniq (p:=p) a b
  case pr.snd=>exact bH.uniq (p:=p) a b
def Yields (E:dA) (C:c8) (st:aA) (a:Act) (w:World) (I:Nat->Prop) (rt:Nat->cJ) (fp:Nat->cP) (o:Oper) (Q:ah->List (Nat×ay)->Prop):Prop:=
 ∃j d e i g f c,(execOp a.eval o).run E.P w=.ok (.value j) d/\fw w d/\(∀b,I b->e b)/\(∀b,e b->I b\/(w.heap.size<=b/\b<d.heap.size))/\rO C st w d e c i g/\bk (aY e C.B) d (c++st.h) (de c i rt) (de c g fp) f j/\Q f c
section
variable {E:dA} {C:c8} {st:aA} {a:Act} {w:World} {I:Nat->Prop} {rt:Nat->cJ} {fp:Nat->cP} {o:Oper} {Q:ah->List (Nat×ay)->Prop}
def Yields.pure {v:Value} (d:(execOp a.eval o).run E.P w=.ok (.value v) w) (e:bk (aY I C.B) w st.h rt fp L v) (c:Q L []):Yields E C st a w I rt fp o Q:=
 ⟨v,w,I,rt,fp,L,[],d,.refl w,λ_ b=>b,λ_ b=>.inl b,.nil,e,c⟩
def Yields.wp (t:bg C st a.tmps w I rt fp) (k:Yields E C st a w I rt fp o Q) {next:Act->World->Prop} {j:Exit->Act->World->Prop} {f:Nat} (u:o.dst=some f) (v:C.ok f) (x:∀b c e d,Q b c->e.defers=a.defers->ev C ⟨(f,b)::st.g,c++st.h⟩ e.tmps d->next e d):o.wp E.P a w next j:=by
 obtain⟨y,d,i,A,z,b,c,l,m,n,p,q,r,s⟩:=k;unfold Oper.wp;rw[l];show next (a.put o.dst y) d
 rw[u];exact x b c _ _ s rfl ⟨i,_,_,(t.ext m n p q).put v r⟩
def i6 (h:BinOp) (a:IntKind) (d:Int) (g:IntKind) (b:Int):fB:=
 let c (i:Prop) (f:Int):fB:=if a=g then .part Int (λc=>i/\f=c) (λc=>(.val (.int a) c,[])) else .bad
 let e (f:Bool):fB:=if a=g then .da (.val .bool f) [] else .bad
 match h with
 |.add=>c True (a.wrap (d+b))
 |.sub=>c True (a.wrap (d-b))
 |.mul=>c True (a.wrap (d*b))
 |.quo=>c (b≠0) (a.wrap (d.tdiv b))
 |.rem=>c (b≠0) (d.tmod b)
 |.and=>c True (a.wrap (BitVec.ofInt a.bits d&&&BitVec.ofInt a.bits b).toNat)
 |.or=>c True (a.wrap (BitVec.ofInt a.bits d|||BitVec.ofInt a.bits b).toNat)
 |.xor=>c True (a.wrap (BitVec.ofInt a.bits d^^^BitVec.ofInt a.bits b).toNat)
 |.andNot=>c True (a.wrap (BitVec.ofInt a.bits d&&&~~~BitVec.ofInt a.bits b).toNat)
 |.shl=>.part Int (λc=>0<=b/\a.wrap (d*2^min b.toNat a.bits)=c) (λc=>(.val (.int a) c,[]))
 |.shr=>.part Int (λc=>0<=b/\d.fdiv (2^min b.toNat a.bits)=c) (λc=>(.val (.int a) c,[]))
 |.eql=>e (d==b)
 |.neq=>e (d !=b)
 |.lss=>e (decide (d<b))
 |.leq=>e (decide (d<=b))
 |.gtr=>e (decide (d>b))
 |.geq=>e (decide (d>=b))
def z1 (c:BinOp) (a b:ah):fB:=
 match a,b with
 |.val (.int d) a,.val (.int e) b=>i6 c d a e b
 |.val .bool a,.val .bool b=>match c with
  |.eql=>.da (.val .bool (a==b)) []
  |.neq=>.da (.val .bool (!(a==b))) []
  |_=>.bad
 |_,_=>.bad
def Kq {d:BinOp} {r:TypeId} {j:IntKind} {m:Int} (f:o.op=.binOp d H b h r) (g:a.eval b=.int u m) (i:a.eval h=.int j S) (c:(i6 d u m j S).K Q):Yields E C st a w I rt fp o Q:=by
 have e:∀w,(eqGuard d H b h (.int u m) (.int j S)).run E.P w=.ok () w:=λw=>(by unfold eqGuard;cases d<;>simp);have n:d=.shl->Yields E C st a w I rt fp o Q:=(by rintro rfl;simp only[i6] at c;obtain⟨k,⟨l,rfl⟩,c⟩:=c;exact .pure (v:=.int u _) (by simp[execOp,f,g,i,e,binOp,Op.shift,(U:¬S<0)]) (.int u _) c);have p:d=.shr->Yields E C st a w I rt fp o Q:=(by rintro rfl;simp only[i6] at c;obtain⟨k,⟨l,rfl⟩,c⟩:=c;exact .pure (v:=.int u _) (by simp[execOp,f,g,i,e,binOp,Op.shift,(U:¬S<0)]) (.int u _) c);by_cases q:u=j
 case neg=>
  cases d<;>simp only[i6,q,if_false] at c
  case shl=>exact n rfl
  case shr=>exact p rfl
  all_goals exact c.elim
 subst q;cases d<;>simp only[i6,if_true] at c
 case shl=>exact n rfl
 case shr=>exact p rfl
 case quo|rem=>
  obtain⟨k,⟨l,rfl⟩,c⟩:=c;exact .pure (v:=.int u _) (by simp[execOp,f,g,i,e,binOp,Op.intDiv,l]) (.int u _) c
 case add|sub|mul=>
  obtain⟨k,⟨_,rfl⟩,c⟩:=c;exact .pure (v:=.int u _) (by simp[execOp,f,g,i,e,binOp,Op.intArith]) (.int u _) c
 case and|or|xor|andNot=>
  obtain⟨k,⟨_,rfl⟩,c⟩:=c;exact .pure (v:=.int u _) (by simp only[execOp,f,g,i,Sem.run_bind,e,binOp,Op.intBits];simp) (.int u _) c
 all_goals exact .pure (v:=.bool _) (by simp[execOp,f,g,i,e,binOp,Op.intCmp]) (.bool _) c
def run_equalIn_bool (w:World) (c:Nat) (a b:Bool) (d:O.underlying H=some .bool):(Op.equalIn (c+1) H (.bool a) (.bool b)).run O w=.ok (a==b) w:=by simp[Op.equalIn,run_underlying d]
def run_eql_bool (w:World) (a b:Bool) (c:O.underlying H=some .bool):(binOp .eql H (.bool a) (.bool b)).run O w=.ok (.bool (a==b)) w:=by simp only[binOp];simp[Op.equal,Op.maxDepth,run_equalIn_bool w 9999 a b c]
def run_neq_bool (w:World) (a b:Bool) (c:O.underlying H=some .bool):(binOp .neq H (.bool a) (.bool b)).run O w=.ok (.bool (!(a==b))) w:=by simp only[binOp];simp[Op.equal,Op.maxDepth,run_equalIn_bool w 9999 a b c]
def DY (t:bg C st a.tmps w I rt fp) {i:BinOp} {D:TypeId} (q:o.op=.binOp i H b h D) (B:∀j k:Bool,(i=.eql\/i=.neq)->(aE st.g b=.val .bool j/\aE st.g h=.val .bool k)->E.P.underlying H=some .bool) (d:(z1 i (aE st.g b) (aE st.g h)).K Q):Yields E C st a w I rt fp o Q:=by
 have e:=t.aE b;have f:=t.aE h;unfold z1 at d;split at d
 ·rename_i G L J M n p;rw[n] at e;rw[p] at f;obtain⟨c,m⟩:∃c,c=a.eval b:=⟨_,rfl⟩;obtain⟨F,l⟩:∃c,c=a.eval h:=⟨_,rfl⟩;rw[<-m] at e;rw[<-l] at f;cases e with|val r=>cases f with|val s=>
  obtain⟨_,rfl⟩:=r;obtain⟨_,rfl⟩:=s;exact Kq q m.symm l.symm d
 ·rename_i j k n p;have l:=B j k;have A:aE st.g b=.val .bool j/\aE st.g h=.val .bool k:=⟨n,p⟩;rw[n] at e;rw[p] at f;obtain⟨c,m⟩:∃c,c=a.eval b:=⟨_,rfl⟩;obtain⟨F,x⟩:∃c,c=a.eval h:=⟨_,rfl⟩;rw[<-m] at e;rw[<-x] at f;cases e with|val r=>cases f with|val s=>
  obtain⟨_,rfl⟩:=r;obtain⟨_,rfl⟩:=s;have z:a.eval b=.bool j:=m.symm;have y:a.eval h=.bool k:=x.symm;have u:∀w,(eqGuard i H b h (.bool j) (.bool k)).run E.P w=.ok () w:=λw=>(by unfold eqGuard;cases i<;>simp);split at d
  ·have:=l (.inl rfl) A;exact .pure (v:=.bool _) (by simp only[execOp,q,z,y,Sem.run_bind,u,Result.andThen_ok,run_eql_bool _ _ _ this];rfl) (.bool _) d
  ·have:=l (.inr rfl) A;exact .pure (v:=.bool _) (by simp only[execOp,q,z,y,Sem.run_bind,u,Result.andThen_ok,run_neq_bool _ _ _ this];rfl) (.bool _) d
  exact d.elim
 exact d.elim
end
end
section
section
variable {E:dA} {C:c8} {st:aA} {a:Act} {w:World} {I:Nat->Prop} {rt:Nat->cJ} {fp:Nat->cP} {o:Oper} {Q:ah->List (Nat×ay)->Prop}
theorem bg.notM {g:cH} (d:bg C st g w I rt fp) {id:Nat} {c:ay} (f:ai st.h id=some c):∀a∈fp id,∀b,¬aY I C.B b a:=λa e b i=>by have:=(d.tree id c f).2.2 a e;grind [kF]
theorem bg.ig {q:cH} (e:bg C st q w I rt fp) {id:Nat} {a:ay} (f:ai st.h id=some a) {p:List aM} {τ:ae} {g:τ.den} (l:bH a.1 a.2 p τ g) (m:aF w a.1 none (rt id) p d v i):∃_e:d=τ,∃b,aD (aY I C.B) w τ i g b/\mE w v i τ.size/\∀j∈b,j∈fp id:=by obtain⟨o,n,_⟩:=e.tree id a f;obtain⟨x,r,b,y,k,s,t,u,_⟩:=yl p (loc:=none) o (λ_ _ c=>by cases c) n (λ_ _ c=>by cases c) (e.notM f) l;obtain⟨rfl,rfl,rfl⟩:=m.hl k;grind
def bg.HS (e:bg C st B w I rt fp) {id:Nat} {a:ay} (g:ai st.h id=some a) (f:aF w a.1 none (rt id) m d v i):i.length=d.size/\∀b o,v=some (b,o)->du w b o i:=f.at (e.tree id a g).1.len (λ_ _ c=>by cases c)
theorem l6 {u:bI->Nat->Prop}:∀{p:List aM} {τ:ae} {E:Loc} {j:cJ} {m:τ.den} {g:cP} {c:ae} {F:Loc} {n:cJ},aD u w τ j m g->aF w τ E j p (.optr c) F n->∃d o e,n=[.pointer (some ⟨d,o,none⟩)]/\e.length=c.size/\du w d o e
 |[],τ,_,_,_,_,_,_,_,a,b=>by obtain⟨rfl,rfl,rfl⟩:=aF.ei.1 b;obtain⟨d,o,g,e,q,_,t,h,_⟩:=a;grind
 |s::p,τ,_,j,m,g,_,_,_,a,b=>by
  cases τ<;>cases s<;>simp only[aF] at b
  case osl.idx c i=>
   obtain⟨d,o,N,J,e,rfl,r,t,h,l⟩:=b;obtain⟨I,K,f,a⟩:=a;simp only[fd,Value.slice.injEq,and_true] at f;obtain⟨rfl,rfl,rfl⟩:=f;rcases a with⟨k,_⟩|⟨v,G,B,k,_,ao,O,P,H⟩
   ·cases k
   cases k;obtain⟨z,L,x,y⟩:=H i m[i] (B[i]'(by omega)) ab ab
   obtain rfl:=h.eq x U;exact l6 (p:=p) y l
  case optr.deref c=>
   obtain⟨d,o,e,rfl,t,h,l⟩:=b;obtain⟨v,G,g,z,f,_,M,C,_,D⟩:=a;simp only[fd,Value.pointer.injEq,bw,Addr.mk.injEq,and_true] at f;obtain⟨rfl,rfl⟩:=f;obtain rfl:=h.eq C U;exact l6 (p:=p) D l
  case st.unst c=>exact l6 (p:=p) (τ:=c) a b
  case pr.fst t1 t2=>obtain⟨A,f2,_,q,_⟩:=a;exact l6 (p:=p) (τ:=t1) q b
  case pr.snd t1 t2=>obtain⟨A,f2,_,_,r⟩:=a;exact l6 (p:=p) (τ:=t2) r b
def ey (tt:List (TypeId×ae)) (a:TypeId):Option ae:=match ai tt a with|some (.aU _ b)=>some b|_=>none
def iL (tt:List (TypeId×ae)) (a:TypeId):Option ae:=match ai tt a with|some (.st b)=>some b|_=>none
theorem ey.ok {a:TypeId} {e:ae} (c:ey E.tt a=some e):∃d b,E.P.info? a=some d/\E.P.underlying a=some (.slice b)/\dn E.P e b:=by
 unfold ey at c;split at c
 ·rename_i j k f;cases c;obtain⟨d,b,g,_,_,_,h,i⟩:=E.ok a _ f;grind
 grind
theorem iL.ok {a:TypeId} {d:ae} (c:iL E.tt a=some d):∃b e,E.P.underlying a=some (.struct b)/\gp E.P d b.toList 0 e:=by
 unfold iL at c;split at c
 ·rename_i k f;cases c;obtain⟨_,j,b,e,g,_,_,_,h,i,_⟩:=E.ok a _ f;grind
 grind
def q1 (tt:List (TypeId×ae)) (e:List (Nat×ay)) (g:TypeId) (b:ah):fB:=
 match ey tt g with
 |none=>.bad
 |some _=>match b with
  |.val (.aU _ _) a=>.da (.val (.int .i64) (a.length:Int)) []
  |.bu (.slice none 0 0)=>.da (.val (.int .i64) (0:Int)) []
  |.ref id d=>match ai e id with
   |some ⟨c,b⟩=>match dp c d with
    |some (.osl f)=>.part (List f.den) (λa=>bH c b d (.osl f) a) (λa=>(.val (.int .i64) (a.length:Int),[]))
    |_=>.bad
   |none=>.bad
  |.view _ _ i h=>.da (.val (.int .i64) ((h-i:Nat):Int)) []
  |.app id d c j _=>match ai e id with
   |some ⟨k,b⟩=>.part (List c.den) (λa=>bH k b d (.osl c) a) (λa=>(.val (.int .i64) ((a.length+j.length:Nat):Int),[]))
   |none=>.bad
  |_=>.bad
def sH (f:ey E.tt H=some d) (h:o.op=.call {callee:=.builtin .len,args:=#[b],argTypes:=#[H]}) (i:a.eval b=.slice r c g):(execOp a.eval o).run E.P w=.ok (.value (.int .i64 c)) w:=by obtain⟨k,j,_,e,_⟩:=ey.ok f;simp[execOp,h,resolve,invoke,builtin,i,Builtin.len_,run_underlying e,goInt]
def NP (s:bg C st a.tmps w I rt fp) (j:o.op=.call {callee:=.builtin .len,args:=#[b],argTypes:=#[H]}) (c:(q1 E.tt st.h H (aE st.g b)).K Q):Yields E C st a w I rt fp o Q:=by
 have d:=s.aE b;unfold q1 at c;split at c
 ·exact c.elim
 rename_i T i;generalize f:a.eval b=U at d;split at c
 ·rename_i R B u e;rw[e] at d;cases d with|val A=>
  obtain⟨_,p,q,rfl,_⟩:=A;exact .pure (sH i j f) (.int _ _) c
 ·rename_i e;rw[e] at d;cases d;exact .pure (sH i j f) (.int _ _) c
 ·rename_i id t e;rw[e] at d;split at c
  ·rename_i F D l;split at c
   ·rename_i B O;obtain⟨u,m,c⟩:=c;cases d with|ref k n=>
    rw[l] at k;cases k;obtain⟨rfl,G,z,_⟩:=s.ig l m n;obtain⟨p,q,rfl,_⟩:=z;exact .pure (sH i j f) (.int _ _) c
   exact c.elim
  exact c.elim
 ·rename_i id t P M e;rw[e] at d;cases d with
  |jg=>exact .pure (sH i j f) (.int _ _) c
  |view k n=>exact .pure (sH i j f) (.int _ _) c
 ·rename_i id t F V S e;rw[e] at d;split at c
  ·rename_i W D l;obtain⟨u,m,c⟩:=c;cases d with|app k N n x J L v=>
   rw[l] at k;cases k;obtain⟨p,q,r,_⟩:=v;simp only[fd,and_true] at r;have y:=bH.uniq m x;subst y;rw[r] at f;have:=sH (w:=w) i j f;rw[mD] at this;exact .pure this (.int _ _) c
  exact c.elim
 exact c.elim
def aF.Fo {o:Nat} (a:g<N) (b:i.length=d.size) (e:du w c (o+g*d.size) i):aF w (.osl d) v [.slice (some ⟨c,o,none⟩) N P] [.idx g] d (some (c,o+g*d.size)) i:=⟨c,o,N,P,i,rfl,a,b,e,aF.here⟩
def aF.Aw {o:Nat} (a:i.length=d.size) (b:du w c o i):aF w (.optr d) v [.pointer (some ⟨c,o,none⟩)] [.deref] d (some (c,o)) i:=⟨c,o,i,rfl,a,b,aF.here⟩
def qW (
 tt:List (TypeId×ae)) (i:List (Nat×ay)) (k:TypeId) (e d:ah):fB:=
 match ey tt k with
 |none=>.bad
 |some g=>match d with
  |.val (.int _) d=>match e with
   |.val (.aU m b) n=>bif aS g b then .part b.den (λh=>aQ n d=some h) (λh=>(.val (.ptr m b) (some h),[])) else .bad
   |.ref id c=>match ai i id with
    |some ⟨f,e⟩=>match dp f c with
     |some (.osl b)=>bif aS g b then .part (List b.den×Nat) (λa=>bH f e c (.osl b) a.1/\d=(a.2:Int)/\a.2<a.1.length) (λa=>(.addr id (c++[.idx a.2]),[])) else .bad
     |_=>.bad
    |none=>.bad
   |.view id c j l=>match ai i id with
    |some ⟨f,e⟩=>match dp f c with
     |some (.osl b)=>bif aS g b then .part (List b.den×Nat) (λa=>bH f e c (.osl b) a.1/\d=(a.2:Int)/\a.2<l-j) (λa=>(.addr id (c++[.idx (j+a.2)]),[])) else .bad
     |_=>.bad
    |none=>.bad
   |_=>.bad
  |_=>.bad
def A6 (k:ey E.tt H=some R) (m:aS R d=true) (n:o.op=.indexAddr H h b) {e f:Nat} (q:a.eval h=.slice (some ⟨N,e,none⟩) g f) (l:a.eval b=.int u c) (s:c<g):(execOp a.eval o).run E.P w=.ok (.value (.pointer (some ⟨N,e+c*d.size,none⟩))) w:=by obtain⟨t,r,_,i,j⟩:=ey.ok k;have p:=(j.lay m).sizeOf w;have:(0:Int)<=(c:Int)/\(c:Int)<(g:Int):=⟨U,U⟩;simp[execOp,n,q,l,Instr.indexAt,asIntOf,run_underlying i,this,p,Addr.add_lit];omega
theorem Nc (B:bg C st a.tmps w I rt fp) {z:Operand} (N:o.op=.indexAddr H z b) (c:(qW E.tt st.h H (aE st.g z) (aE st.g b)).K Q):Yields E C st a w I rt fp o Q:=by
 have k:=B.aE z;have M:=B.aE b;unfold qW at c;split at c
 ·exact c.elim
 rename_i V L;generalize O:a.eval z=d7 at k;generalize P:a.eval b=d8 at M;split at c
 case h_2=>exact c.elim
 rename_i ad R a3;rw[a3] at M;cases M with|val T=>
 obtain⟨_,rfl⟩:=T;split at c
 ·rename_i cv f y q;cases d:aS V f with
  |false=>rw[d] at c;exact c.elim
  |true=>
   rw[d] at c;obtain⟨W,co,c⟩:=c;rw[q] at k;cases k with|val T=>
   obtain⟨_,X,Y,rfl,ao,am,S⟩:=T;obtain⟨aj,av,a0⟩:=E9 co;rcases S with rfl|⟨A,u,rfl,bl,v⟩
   ·grind
   obtain⟨F,n,p,D⟩:=v _ _ a0;have ci:a.eval b=.int ad (R.toNat:Nat):=(by rw[P];show Value.int ad R=_;grind);exact .pure (A6 L d N O ci av) (.val (τ:=.ptr cv f) (x:=some W) (cs:=[.pointer (some ⟨A,u+R.toNat*f.size,none⟩)]) ⟨rfl,A,_,F,rfl,bl,n,p,D⟩) c
 ·rename_i id dl q;split at c
  case h_2=>exact c.elim
  rename_i an W j;split at c
  case h_2=>exact c.elim
  rename_i f ce;cases d:aS V f with
  |false=>rw[d] at c;exact c.elim
  |true=>
   rw[d] at c;obtain⟨⟨y,e⟩,⟨r,rfl,l⟩,c⟩:=c;simp only at r l c;rw[q] at k;cases k with|ref t s=>
   rw[j] at t;cases t;obtain⟨rfl,a4,i,_⟩:=B.ig j r s;obtain⟨X,Y,rfl,i⟩:=i;rcases i with⟨_,rfl,_⟩|⟨A,u,G,rfl,_,ao,am,S,v⟩
   ·grind
   obtain⟨F,n,p,D⟩:=v e y[e] (G[e]'(by omega)) ab ab
   exact .pure (A6 L d N O P l) (.addr j (s.append (aF.Fo l n p))) c
 ·rename_i id dl m d1 q;split at c
  case h_2=>exact c.elim
  rename_i an W j;split at c
  case h_2=>exact c.elim
  rename_i f ce;cases d:aS V f with
  |false=>rw[d] at c;exact c.elim
  |true=>
   rw[d] at c;obtain⟨⟨y,e⟩,⟨r,rfl,l⟩,c⟩:=c;simp only at r l c;rw[q] at k;cases k with|jg=>omega|view t s d2 d3 d4=>
   rename_i A u d5 Y;rw[j] at t;cases t;obtain⟨ap,a4,i,_⟩:=B.ig j r s;cases ap;obtain⟨X,d0,Z,i⟩:=i;simp only[fd,Value.slice.injEq,and_true] at Z;obtain⟨rfl,rfl,rfl⟩:=Z;rcases i with⟨J,_⟩|⟨ds,d6,G,J,_,ao,am,S,v⟩
   ·cases J
   cases J;have bs:m+e<y.length:=U;obtain⟨F,n,p,D⟩:=v (m+e) y[m+e] (G[m+e]'(by omega)) ab ab
   have:=A6 (w:=w) L d N O P l;rw[ag U,show u+m*f.size+e*f.size=u+(m+e)*f.size by grind] at this;exact .pure this (.addr j (s.append (aF.Fo bs n p))) c
 exact c.elim
def aD.pure {h:bI->Nat->Prop} {w:World}:∀{τ:ae} {i:cJ} {e:τ.den} {g:cP},τ.pure=true->aD h w τ i e g->g=[]
 |.int _,_,_,_,_,b=>b.1
 |.bool,_,_,_,_,b=>b.1
 |.str,_,_,_,_,b=>b.1
 |.aU _ _,_,_,_,_,b=>b.1
 |.ptr _ _,_,_,_,_,b=>b.1
 |.nil,_,_,_,_,b=>b.1
 |.st k,_,_,_,c,b=>aD.pure (τ:=k) c b
 |.pr a f,_,_,_,c,b=>by simp only[ae.pure,a2] at c;obtain⟨n,f2,rfl,j,d⟩:=b;rw[aD.pure (τ:=a) c.1 j,aD.pure (τ:=f) c.2 d];rfl
 |.osl _,_,_,_,c,_=>by cases c
 |.optr _,_,_,_,c,_=>by cases c
 |.di _ _,_,e,_,_,b=>by
  cases e with
  |none=>exact b.1
  |some o=>obtain⟨f,m,l,_,d,_⟩:=b;exact d
 |.bJ,_,_,_,c,_=>by cases c
def rf (d:ae) (e:d.den) (id:Nat) (c:List aM) (a:ae):fB:=
 bif a.pure then .part a.den (λb=>bH d e c a b) (λb=>(.val a b,[])) else .da (.ref id c) []
def q2 (tt:List (TypeId×ae)) (f:List (Nat×ay)) (g:TypeId) (c:ah):fB:=
 match ai tt g with
 |none=>.bad
 |some e=>match c with
  |.val (.ptr _ a) (some h)=>bif aS e a then .da (.val a h) [] else .bad
  |.addr id b=>match ai f id with
   |some ⟨d,c⟩=>match dp d b with
    |some a=>bif aS e a then rf d c id b a else .bad
    |none=>.bad
   |none=>.bad
  |.ref id b=>match ai f id with
   |some ⟨d,c⟩=>match dp d b with
    |some (.optr a)=>bif aS e a then rf d c id (b++[.deref]) a else .bad
    |_=>.bad
   |none=>.bad
  |_=>.bad
theorem Bs (e:ai E.tt H=some R) (j:aS R d=true) (k:o.op=.load H b) (l:a.eval b=.pointer (some ⟨c,g,none⟩)) (f:du w c g i) (h:i.length=d.size):(execOp a.eval o).run E.P w=.ok (.value (bn d i)) w:=by have:=H2 ((E.ok H R e).lay j) f h;simp_all [execOp,Instr.loadAt,Instr.sureAddr]
theorem Cq (l:bg C st a.tmps w I rt fp) {id:Nat} {k:R.den} (j:ai st.h id=some ⟨R,k⟩) (e:aF w R none (rt id) m d v i) (f:(execOp a.eval o).run E.P w=.ok (.value (bn d i)) w) (b:(rf R k id m d).K Q):Yields E C st a w I rt fp o Q:=by
 unfold rf at b;cases c:d.pure with
 |true=>
  rw[c] at b;obtain⟨q,n,b⟩:=b;obtain⟨_,p,g,_⟩:=l.ig j n e;have:=g.pure c;subst this;exact .pure f (.val g) b
 |false=>
  rw[c] at b;exact .pure f (.ref j e) b
theorem NV (m:bg C st a.tmps w I rt fp) (t:o.op=.load H b) (c:(q2 E.tt st.h H (aE st.g b)).K Q):Yields E C st a w I rt fp o Q:=by
 have e:=m.aE b;unfold q2 at c;split at c
 ·exact c.elim
 rename_i p s;generalize u:a.eval b=O at e;split at c
 ·rename_i N l x j;cases d:aS p l with
  |false=>rw[d] at c;exact c.elim
  |true=>
   rw[d] at c;rw[j] at e;cases e with|val G=>
   obtain⟨_,y,A,z,rfl,ao,v,D,F⟩:=G;exact .pure (Bs s d t u D v) (.val F) c
 ·rename_i id B j;split at c
  case h_2=>exact c.elim
  rename_i J x i;split at c
  case h_2=>exact c.elim
  rename_i l n;cases d:aS p l with
  |false=>rw[d] at c;exact c.elim
  |true=>
   rw[d] at c;rw[j] at e;cases e with|addr k f=>
   rw[i] at k;cases k;have:=f.ty;rw[n] at this;cases this;obtain⟨ao,v⟩:=m.HS i f;grind [Cq,Bs]
 ·rename_i id B j;split at c
  case h_2=>exact c.elim
  rename_i J x i;split at c
  case h_2=>exact c.elim
  rename_i l n;cases d:aS p l with
  |false=>rw[d] at c;exact c.elim
  |true=>
   rw[d] at c;rw[j] at e;cases e with|ref k f=>
   rename_i P M L;rw[i] at k;cases k;have:=f.ty;rw[n] at this;cases this;obtain⟨y,A,z,rfl,q,r⟩:=l6 (m.tree id _ i).1 f;exact Cq m i (f.append (aF.Aw q r)) (Bs s d t u r q) c
 exact c.elim
def qR (tt:List (TypeId×ae)) (g:List (Nat×ay)) (h:TypeId) (k:ah) (c:Nat):fB:=
 match iL tt h with
 |none=>.bad
 |some e=>match k with
  |.val (.ptr i (.st a)) (some l)=>bif aS e a then match nV a l c with
   |some ⟨j,m⟩=>.da (.val (.ptr i j) (some m)) []
   |none=>.bad
   else .bad
  |.ref id b=>match ai g id with
   |some ⟨f,_⟩=>match dp f b with
    |some (.optr (.st a))=>bif aS e a then match dy a c with
     |some (d,_)=>.da (.addr id (b++(.deref::.unst::d))) []
     |none=>.bad
     else .bad
    |_=>.bad
   |none=>.bad
  |.addr id b=>match ai g id with
   |some ⟨f,_⟩=>match dp f b with
    |some (.st a)=>bif aS e a then match dy a c with
     |some (d,_)=>.da (.addr id (b++(.unst::d))) []
     |none=>.bad
     else .bad
    |_=>.bad
   |none=>.bad
  |_=>.bad
theorem AO {f:ae} (l:iL E.tt H=some f) (p:aS f d=true) (s:dy d c=some (m,R)) (q:o.op=.fieldAddr H b c) (t:a.eval b=.pointer (some ⟨g,N,none⟩)):(execOp a.eval o).run E.P w=.ok (.value (.pointer (some ⟨g,N+c9 d c,none⟩))) w:=by obtain⟨i,x,j,k⟩:=iL.ok l;obtain⟨h,v,r,e⟩:=AP (gp.lay p k) s;have u:R.size≠0:=(by have:=e.pos;omega);have n:i[c]?=some h:=(by grind);simp[execOp,q,t,Instr.fieldAt,run_underlying j,n,Instr.sureAddr,fieldPlace,e.sizeOf,u,Addr.add_lit,r]
theorem Mx (G:bg C st a.tmps w I rt fp) (y:o.op=.fieldAddr H b c) (d:(qR E.tt st.h H (aE st.g b) c).K Q):Yields E C st a w I rt fp o Q:=by
 have m:=G.aE b;unfold qR at d;split at d
 ·exact d.elim
 rename_i D v;generalize A:a.eval b=am at m;split at d
 ·rename_i U e N r;cases i:aS D e with
  |false=>rw[i] at d;exact d.elim
  |true=>
   rw[i] at d;simp only[cond_true] at d;split at d
   case h_2=>exact d.elim
   rename_i n Z J;rw[r] at m;cases m with|val X=>
   obtain⟨_,f,j,u,rfl,ao,ad,W,L⟩:=X;obtain⟨t,k⟩:=AS J;obtain⟨M,Y⟩:=AR (τ:=e) L J;have S:=L.len;simp only[ae.size] at S M Y;exact .pure (AO v i k y A) (.val (τ:=.ptr U n) (x:=some Z) (cs:=[.pointer (some ⟨f,j+c9 e c,none⟩)]) ⟨rfl,f,_,_,rfl,ao,by grind,W.drop.take,M⟩) d
 ·rename_i id V r;split at d
  case h_2=>exact d.elim
  rename_i O N q;split at d
  case h_2=>exact d.elim
  rename_i e z;cases i:aS D e with
  |false=>rw[i] at d;exact d.elim
  |true=>
   rw[i] at d;simp only[cond_true] at d;split at d
   case h_2=>exact d.elim
   rename_i t n k;rw[r] at m;cases m with|ref s p=>
   rw[q] at s;cases s;have:=p.ty;rw[z] at this;cases this;obtain⟨f,j,u,rfl,P,R⟩:=l6 (G.tree id _ q).1 p;rename_i T;have B:aF w (.optr (.st e)) T [.pointer (some ⟨f,j,none⟩)] (.deref::.unst::t) n (some (f,j+c9 e c)) ((u.drop (c9 e c)).take n.size):=⟨f,j,u,rfl,P,R,aF.qQ (l:=some (f,j)) k⟩;exact .pure (AO v i k y A) (.addr q (p.append B)) d
 ·rename_i id V r;split at d
  case h_2=>exact d.elim
  rename_i O N q;split at d
  case h_2=>exact d.elim
  rename_i e z;cases i:aS D e with
  |false=>rw[i] at d;exact d.elim
  |true=>
   rw[i] at d;simp only[cond_true] at d;split at d
   case h_2=>exact d.elim
   rename_i t n k;rw[r] at m;cases m with|addr s p=>
   rw[q] at s;cases s;have:=p.ty;rw[z] at this;cases this;rename_i f j F;have B:aF w (.st e) (some (f,j)) F (.unst::t) n (some (f,j+c9 e c)) ((F.drop (c9 e c)).take n.size):=aF.qQ (l:=some (f,j)) k;exact .pure (AO v i k y A) (.addr q (p.append B)) d
 exact d.elim
def sy (
 tt:List (TypeId×ae)) (i:List (Nat×ay)) (h:TypeId) (c:ah) (d:Nat):fB:=
 match iL tt h with
 |none=>.bad
 |some f=>match c with
  |.val (.st a) k=>bif aS f a then match nV a k d with
   |some ⟨b,l⟩=>.da (.val b l) []
   |none=>.bad
   else .bad
  |.ref id e=>match ai i id with
   |some ⟨g,c⟩=>match dp g e with
    |some (.st a)=>bif aS f a then match dy a d with
     |some (j,b)=>rf g c id (e++(.unst::j)) b
     |none=>.bad
     else .bad
    |_=>.bad
   |none=>.bad
  |_=>.bad
theorem EW {j:ae} (q:iL E.tt H=some j) (s:aS j d=true) (u:dy d c=some (m,R)) (t:o.op=.field H b c) (v:a.eval b=bn (.st d) i) (z:c9 d c+R.size<=i.length):(execOp a.eval o).run E.P w=.ok (.value (bn R ((i.drop (c9 d c)).take R.size))) w:=by
 obtain⟨k,D,n,p⟩:=iL.ok q;obtain⟨f,A,h,e⟩:=AP (gp.lay s p) u;have C:=e.pos;have r:k[c]?=some f:=(by grind);simp only[h1] at h;have x:a.eval b=.agg i.toArray:=v;have y:(part f.type i.toArray f.offset).run E.P w=.ok (bn R ((i.drop (c9 d c)).take R.size)) w:=by
  simp only[part,Sem.run_bind,e.isAgg,Result.andThen_ok,h];cases g:mZ R with
  |true=>
   rw[y7 g];simp only[if_true,Sem.run_bind,e.sizeOf,Result.andThen_ok,Sem.run_pure];grind
  |false=>
   have l:=B7 e g;rw[y6 g,l];have B:c9 d c<i.length:=U;have:(i.drop (c9 d c)).take 1=[i[c9 d c]]:=(by grind [List.drop_eq_getElem_cons]);simp_all
 simp[execOp,t,x,Instr.field,run_underlying n,r,asAgg,y]
def Mz (m:bg C st a.tmps w I rt fp) (u:o.op=.field H b c) (d:(sy E.tt st.h H (aE st.g b) c).K Q):Yields E C st a w I rt fp o Q:=by
 have j:=m.aE b;unfold sy at d;split at d
 ·exact d.elim
 rename_i B s;generalize x:a.eval b=P at j;split at d
 ·rename_i f J l;cases e:aS B f with
  |false=>rw[e] at d;exact d.elim
  |true=>
   rw[e] at d;simp only[cond_true] at d;split at d
   case h_2=>exact d.elim
   rename_i q R t;rw[l] at j;cases j with|val z=>
   obtain⟨A,i⟩:=AS t;obtain⟨G,O⟩:=AR (τ:=f) z t;have F:=z.len;simp only[ae.size] at F;exact .pure (EW s e i u x U) (.val G) d
 ·rename_i id M l;split at d
  case h_2=>exact d.elim
  rename_i L J p;split at d
  case h_2=>exact d.elim
  rename_i f D;cases e:aS B f with
  |false=>rw[e] at d;exact d.elim
  |true=>
   rw[e] at d;simp only[cond_true] at d;split at d
   case h_2=>exact d.elim
   rename_i A q i;rw[l] at j;cases j with|ref v n=>
   rename_i S y r;rw[p] at v;cases v;have:=n.ty;rw[D] at this;cases this;obtain⟨ao,N⟩:=m.HS p n;have k:aF w (.st f) y r (.unst::A) q (y.map λk=>(k.1,k.2+c9 f c)) ((r.drop (c9 f c)).take q.size):=aF.qQ i;exact Cq m p (n.append k) (EW s e i u x (by rw[ao];exact sz i)) d
 exact d.elim
def ra (f:List (Nat×ay)) (b:ah):fB:=
 match b with
 |.val (.ptr h d) b=>.part d.den (λc=>b=some c) (λc=>(.val (.ptr h d) (some c),[]))
 |.ref id a=>match ai f id with
  |some ⟨i,_⟩=>match dp i a with
   |some (.optr _)=>.da (.ref id a) []
   |_=>.bad
  |none=>.bad
 |.addr id a=>.da (.addr id a) []
 |.bY e g=>.da (.bY e g) []
 |_=>.bad
theorem OM (p:bg C st a.tmps w I rt fp) (M:o.op=.nilCheck b) (c:(ra st.h (aE st.g b)).K Q):Yields E C st a w I rt fp o Q:=by
 have d:=p.aE b;unfold ra at c;generalize N:a.eval b=F at d;split at c
 ·rename_i u l m e;obtain⟨m,rfl,c⟩:=c;rw[e] at d;cases d with|val D=>
  obtain⟨_,f,k,n,rfl,ao,z,A,B⟩:=D;exact .pure (v:=.pointer (some ⟨f,k,none⟩)) (by simp_all [execOp,bn]) (.val (τ:=.ptr u l) (x:=some m) (cs:=[.pointer (some ⟨f,k,none⟩)]) ⟨rfl,f,k,n,rfl,ao,z,A,B⟩) c
 ·rename_i id y e;split at c
  case h_2=>exact c.elim
  rename_i G m j;split at c
  case h_2=>exact c.elim
  rename_i l t;rw[e] at d;cases d with|ref q i=>
  rw[j] at q;cases q;have:=i.ty;rw[t] at this;cases this;obtain⟨f,k,n,rfl,H,J⟩:=l6 (p.tree id _ j).1 i;exact .pure (v:=.pointer (some ⟨f,k,none⟩)) (by simp_all [execOp,bn]) (.ref (τ':=.optr l) j i) c
 ·rename_i id y e;rw[e] at d;cases d with|addr j i=>
  exact .pure (by simp_all [execOp]) (.addr j i) c
 ·rename_i L O e;rw[e] at d;cases d with|bY s r=>
  exact .pure (by simp_all [execOp]) (.bY s r) c
 exact c.elim
def o1 (d:Option ah) (b a:Nat):Prop:=
 match d with
 |none=>a=b
 |some (.val (.int _) c)=>c=(a:Int)
 |some _=>False
def rm (tt:List (TypeId×ae)) (k:List (Nat×ay)) (j:TypeId) (d:ah) (g f:Option ah):fB:=
 match ey tt j with
 |none=>.bad
 |some h=>match d with
  |.val (.aU l b) e=>bif aS h b then
   .part cz (λa=>o1 g 0 a.1/\o1 f e.length a.2/\a.1<=a.2/\a.2<=e.length) (λa=>(.val (.aU l b) ((e.take a.2).drop a.1),[])) else .bad
  |.ref id c=>match ai k id with
   |some ⟨i,d⟩=>match dp i c with
    |some (.osl b)=>bif aS h b then
     .part (List b.den×Nat×Nat) (λa=>bH i d c (.osl b) a.1/\o1 g 0 a.2.1/\o1 f a.1.length a.2.2/\a.2.1<=a.2.2/\a.2.2<=a.1.length) (λa=>(.view id c a.2.1 a.2.2,[])) else .bad
    |_=>.bad
   |none=>.bad
  |_=>.bad
def z7 (a:Act) (e:cG) (c b:Nat):Prop:=
 match e with
 |none=>b=c
 |some f=>∃d,a.eval f=.int d b
theorem CD (n:ey E.tt H=some R) (q:aS R d=true) {i e:cG} (s:o.op=.slice H b i e none) {f:Nat} (u:a.eval b=.slice r f N) (j:z7 a i 0 g) (h:z7 a e f c) (A:g<=c) (B:c<=N):(execOp a.eval o).run E.P w=.ok (.value (.slice (if N=g then r else r.map (·.add (g*d.size))) (c-g) (N-g))) w:=by
 obtain⟨D,y,_,l,m⟩:=ey.ok n;have t:=(m.lay q).sizeOf w;have aj:(0:Int)<=(c:Int)/\(c:Int)<=(N:Int):=⟨U,U⟩;have z:(0:Int)<=(g:Int)/\(g:Int)<=(c:Int):=⟨U,U⟩;have k:(Instr.sliceBounds true f N (i.map a.eval) (e.map a.eval) none).run E.P w=.ok (g,c,N) w:=by
  cases i with
  |none=>
   obtain rfl:g=0:=j;cases e with
   |none=>obtain rfl:c=f:=h;simp[Instr.sliceBounds]
   |some x=>obtain⟨v,p⟩:=h;simp_all [Instr.sliceBounds,Instr.sliceBound,asIntOf]
  |some G=>
   obtain⟨F,C⟩:=j;cases e with
   |none=>obtain rfl:c=f:=h;simp_all [Instr.sliceBounds,Instr.sliceBound,asIntOf]
   |some x=>
    obtain⟨v,p⟩:=h;simp_all [Instr.sliceBounds,Instr.sliceBound,asIntOf]
 simp[execOp,s,u,Instr.sliceAt,Instr.slice,run_underlying l,k,t]
theorem r0 (h:bg C st a.tmps w I rt fp) {d:cG} (b:o1 (d.map (aE st.g)) c N):z7 a d c N:=by
 cases d with
 |none=>exact b
 |some f=>
  have:=h.aE f;simp only[hj,o1] at b;split at b
  ·grind
  ·rename_i j l e;simp only[bw] at e;rw[e] at this;subst b;generalize i:a.eval f=m at this;cases this with|val k=>obtain⟨_,rfl⟩:=k;exact⟨j,i⟩
  grind
theorem Sq (e:bg C st a.tmps w I rt fp) {M y:cG} (z:o.op=.slice H b M y none) (c:(rm E.tt st.h H (aE st.g b) (M.map (aE st.g)) (y.map (aE st.g))).K Q):Yields E C st a w I rt fp o Q:=by
 have r:=e.aE b;unfold rm at c;split at c
 ·exact c.elim
 rename_i P v;generalize D:a.eval b=ce at r;split at c
 ·rename_i X i F u;cases f:aS P i with
  |false=>rw[f] at c;exact c.elim
  |true=>
   rw[f] at c;obtain⟨⟨d,m⟩,⟨j,k,l,s⟩,c⟩:=c;simp only at j k l s c;rw[u] at r;cases r with|val ad=>
   obtain⟨_,R,q,rfl,ao,N,O⟩:=ad;have t:=CD (w:=w) v f z D (r0 e j) (r0 e k) l U;have W:((F.take m).drop d).length=m-d:=(by grind);refine .pure t (.val (τ:=.aU X i) (x:=(F.take m).drop d) (cs:=[_]) ⟨rfl,_,q-d,by rw[W],U,?_,?_⟩) c
   ·intro a0;by_cases a3:q=d
    ·omega
    simp_all
   by_cases a4:m=d
   ·grind
   right;rcases O with rfl|⟨p,n,rfl,S,Z⟩
   ·grind
   refine⟨p,n+d*i.size,by rw[ag U];simp[Addr.add_lit],S,λbs am y=>?_⟩;grind
 ·rename_i id Y u;split at c
  case h_2=>exact c.elim
  rename_i an am B;split at c
  case h_2=>exact c.elim
  rename_i i bl;cases f:aS P i with
  |false=>rw[f] at c;exact c.elim
  |true=>
   rw[f] at c;obtain⟨⟨F,d,m⟩,⟨G,j,k,l,s⟩,c⟩:=c;simp only at G j k l s c;rw[u] at r;cases r with|ref L J=>
   rw[B] at L;cases L;obtain⟨rfl,ap,A,_⟩:=e.ig B G J;obtain⟨R,q,rfl,A⟩:=A;rcases A with⟨rfl,rfl,rfl,_⟩|⟨p,n,av,rfl,_,ao,N,O,Z⟩
   ·have T:m=0:=(by grind);subst T;have V:d=0:=U;subst V;exact .pure (CD (w:=w) v f z D (r0 e j) (r0 e k) (aZ _) (aZ _)) (.jg id Y) c
   have t:=CD (w:=w) v f z D (r0 e j) (r0 e k) l U;have:(if q=d then some (⟨p,n,none⟩:Addr) else(some (⟨p,n,none⟩:Addr)).map (·.add (d*i.size)))=some ⟨p,if q=d then n else n+d*i.size,none⟩:=(by grind [Addr.add_lit]);rw[this] at t;exact .pure t (.view B J l s N) c
 exact c.elim
end
end
section
def gw:(i:ae)->cJ->Option i.den
 |.int d,b=>match b with
  |[.int e n]=>if d=e then some n else none
  |_=>none
 |.bool,b=>match b with
  |[.bool c]=>some c
  |_=>none
 |.str,b=>match b with
  |[.string s]=>some s
  |_=>none
 |.aU _ _,b=>match b with
  |[.slice none 0 0]=>some []
  |_=>none
 |.osl _,b=>match b with
  |[.slice none 0 0]=>some []
  |_=>none
 |.ptr _ _,b=>match b with
  |[.pointer none]=>some none
  |_=>none
 |.st f,b=>gw f b
 |.pr a c,b=>match gw a (b.take a.size),gw c (b.drop a.size) with
  |some g,some h=>some (g,h)
  |_,_=>none
 |.nil,b=>match b with
  |[]=>some ()
  |_=>none
 |.optr _,_=>none
 |.bJ,_=>none
 |.mp _,_=>none
 |.di _ _,_=>none
theorem mP {M:bI->Nat->Prop} {w:World}:∀{τ:ae} {d:cJ} {c:τ.den},gw τ d=some c->aD M w τ d c []
 |.int j,d,c,b=>by
  simp only[gw] at b;split at b
  ·split at b
   ·rename_i f;cases b;subst f;exact⟨rfl,rfl⟩
   cases b
  cases b
 |.bool,d,c,b=>by simp only[gw] at b;split at b<;>cases b;exact⟨rfl,rfl⟩
 |.str,d,c,b=>by simp only[gw] at b;split at b<;>cases b;exact⟨rfl,rfl⟩
 |.aU _ _,d,c,b=>by simp only[gw] at b;split at b<;>cases b;exact⟨rfl,none,0,rfl,aZ _,λ_=>rfl,.inl rfl⟩
 |.osl _,d,c,b=>by simp only[gw] at b;split at b<;>cases b;exact⟨none,0,rfl,.inl ⟨rfl,rfl,rfl,rfl⟩⟩
 |.ptr _ _,d,c,b=>by simp only[gw] at b;split at b<;>cases b;exact⟨rfl,rfl⟩
 |.st i,d,c,b=>mP (τ:=i) (by simp only[gw] at b;exact b)
 |.pr a e,d,c,b=>by
  simp only[gw] at b;split at b
  ·rename_i c k g h;cases b;exact⟨[],[],rfl,mP (τ:=a) g,mP (τ:=e) h⟩
  cases b
 |.nil,d,c,b=>by simp only[gw] at b;split at b<;>cases b;exact⟨rfl,rfl⟩
 |.optr _,d,c,b=>by simp only[gw] at b;cases b
 |.bJ,d,c,b=>by simp only[gw] at b;cases b
 |.mp _,d,c,b=>by simp only[gw] at b;cases b
 |.di _ _,d,c,b=>by simp only[gw] at b;cases b
def E0 (d:Nat):∀(e:cJ) (b:Nat) (c:cH),let h:=(e.zipIdx b).foldl (λc (j:Value×Nat)=>c.setIfInBounds (d+j.2) j.1) c
 h.size=c.size/\(∀a,a<d+b\/d+b+e.length<=a->h[a]?=c[a]?)/\(d+b+e.length<=c.size->∀a f,e[a]?=some f->h[d+b+a]?=some f)
 |[],b,c=>⟨rfl,λ_ _=>rfl,λ_ a f k=>by simp at k⟩
 |x::e,b,c=>by
  obtain⟨l,i,m⟩:=E0 d e (b+1) (c.setIfInBounds (d+b) x);simp only[List.zipIdx_cons,List.foldl_cons];refine⟨by rw[l];simp,λa n=>?_,λo a f g=>?_⟩
  ·simp only[g2] at n;rw[i a U,zz U]
  simp only[g2] at o;cases a with
  |zero=>
   simp only[iC,bw] at g;subst g;rw[lE,i _ U];have:d+b<c.size:=U;simp[this]
  |succ a=>
   simp only[nz] at g;have:=m (by simp;omega) a f g;rwa[(U:d+(b+1)+a=d+b+(a+1))] at this
def uZ (n:Nat->Option cz):∀(m:List (Nat×Value)) (d:cH),(∀a∈m,∃f c,n a.1=some (f,c)/\a.2.cells.size=c/\f+c<=d.size)->(m.Pairwise λa j=>∀o c h k,n a.1=some (o,c)->n j.1=some (h,k)->o+c<=h\/h+k<=o)->∃j,Instr.fill n d m=some j/\j.size=d.size/\(∀b,(∀a∈m,∀o c,n a.1=some (o,c)->b<o\/o+c<=b)->j[b]?=d[b]?)/\(∀a∈m,∀o c,n a.1=some (o,c)->∀b e,a.2.cells[b]?=some e->j[o+b]?=some e)
 |[],d,_,_=>⟨d,rfl,rfl,λ_ _=>rfl,λa g=>by cases g⟩
 |(i,e)::m,d,w,u=>by
  obtain⟨f,c,p,I,N⟩:=w (i,e) ab;simp only at p I;rw[oK] at u;have H:e.cells.zipIdx.foldl (λl (a:Value×Nat)=>l.setIfInBounds (f+a.2) a.1) d=(e.cells.toList.zipIdx 0).foldl (λl (a:Value×Nat)=>l.setIfInBounds (f+a.2) a.1) d:=(by rw[<-Array.foldl_toList,Array.toList_zipIdx]);obtain⟨q,f2,r⟩:=E0 f e.cells.toList 0 d;rw[<-H] at q f2 r;simp only[Array.length_toList] at f2 r;generalize F:e.cells.zipIdx.foldl (λl (a:Value×Nat)=>l.setIfInBounds (f+a.2) a.1) d=v at q f2 r;obtain⟨j,J,K,y,aT⟩:=uZ n m v (λa g=>by
   obtain⟨h,k,B,C,D⟩:=w a (eH _ g);exact⟨h,k,B,C,by rw[q];exact D⟩) u.2
  refine⟨j,?_,by rw[K,q],λb x=>?_,λa g h k s b z t=>?_⟩
  ·have E:(decide (e.cells.size≠c)||decide (f+e.cells.size>d.size))=false:=(by simp;omega);simp only[Instr.fill,p,E];rw[show(e.cells.zipIdx.foldl (λl L=>match L with|(A,b)=>l.setIfInBounds (f+b) A) d)=v from F];simpa using J
  ·rw[y b (λa g=>x a (eH _ g)),f2 b (by have:=x (i,e) ab f c p;omega)]
  rcases dw.1 g with rfl|g
  ·simp only at s t;rw[p] at s;cases s;have M:b<e.cells.size:=(lw.1 t).1;rw[y (f+b) (λa g h k G=>by
    have:=u.1 a g f c h k p G;omega)]
   exact r U b z (by simpa using t)
  exact aT a g h k s b z t
section
variable {E:dA} {C:c8} {st:aA} {a:Act} {w:World} {I:Nat->Prop} {rt:Nat->cJ} {fp:Nat->cP} {o:Oper} {Q:ah->List (Nat×ay)->Prop}
def du.alloc {w:World} {c:cH} {e:TypeId} {o:Nat} {d:cJ} (f:∀a b,d[a]?=some b->c[o+a]?=some b):du (w.alloc (.cells c e)) w.heap.size o d:=λa b g=>by rw[World.cell?_alloc_new];exact f a b g
def gM.alloc {w:World} {a:cH} {c:TypeId} {d b:Nat} (e:b<=a.size):gM (w.alloc (.cells a c)) w.heap.size d b:=λg _ f=>by rw[World.cell?_alloc_new,World.frozen?_alloc_new];exact⟨by simp;omega,rfl⟩
def Yields.new {d:Nat} {t:ay} {e:Value} {cs:cJ} {f:cP} {cells:cH} {T:TypeId} (l:ai st.h d=none) (g:bg C st a.tmps w I rt fp) (p:(execOp a.eval o).run E.P w=.ok (.value e) (w.alloc (.cells cells T))) (r:e=bn t.1 cs) (q:aD (aY I C.B) (w.alloc (.cells cells T)) t.1 cs t.2 f) (j:∀c∈f,c=w.heap.size) (m:f.Nodup) (n:Q (.ref d []) [(d,t)]):Yields E C st a w I rt fp o Q:=by
 refine⟨e,_,I,λ_=>cs,λ_=>f,.ref d [],[(d,t)],p,.alloc w _,λ_ b=>b,λ_ b=>.inl b,.one l q m (λc i=>?_),?_,n⟩
 ·rw[j c i];exact⟨aZ _,ab,λb=>by have:=g.ib _ (.inl b);omega⟩
 rw[r];have k:ai ([(d,t)]++st.h) d=some t:=(by rw[List.singleton_append,bv,ak rfl]);refine .ref (t:=t) (τ':=t.1) (loc:=none) k ?_;have:de [(d,t)] (λ_=>cs) rt d=cs:=(by simp[de,bv]);rw[this];exact aF.here
def q5 (tt:List (TypeId×ae)) (g:List (Nat×ae)) (h:List (Nat×ay)) (b:Nat) (f:TypeId) (e d:ah):fB:=
 match ey tt f,ai g b,ai h b with
 |some i,some (.osl c),none=>match jj c,e,d with
  |some j,.val (.int _) e,.val (.int _) d=>bif aS i c&&Nat.ble c.size 2000 then
   .part cz (λa=>e=(a.1:Int)/\d=(a.2:Int)/\a.1<=a.2/\a.2<=fi) (λa=>(.ref b [],[(b,⟨.osl c,List.replicate a.1 j⟩)])) else .bad
  |_,_,_=>.bad
 |_,_,_=>.bad
def N8 (a:cH) (e c b:Nat) (g:Value) (_hz:0<a.size) (f:a[b]?=some g) (j:c<e):(madeCells a (e*a.size))[c*a.size+b]?=some g:=by have d:b<a.size:=(lw.1 f).1;have h:(c+1)*a.size<=e*a.size:=dD _ j;rw[fy,fQ] at h;have i:(c*a.size+b) %a.size=b:=(by rw[Nat.add_comm,Nat.add_mul_mod_self_right,Nat.mod_eq_of_lt d]);simp only[madeCells,Array.getElem?_map,Array.getElem?_range];rw[ak U];simp only[hj,i];rw[<-f,getElem!_pos a b d,tq d]
def Oa (t:bg C st a.tmps w I rt fp) {p:Operand} (am:o.op=.makeSlice H p b) (e:(q5 E.tt j st.h c H (aE st.g p) (aE st.g b)).K Q):Yields E C st a w I rt fp o Q:=by
 have v:=t.aE p;have u:=t.aE b;unfold q5 at e;split at e
 case h_2=>exact e.elim
 rename_i co A X ds Z;split at e
 case h_2=>exact e.elim
 rename_i dl bl d3 a4 d2 av O N;cases k:(aS co A&&Nat.ble A.size 2000) with
 |false=>rw[k] at e;exact e.elim
 |true=>
  rw[k] at e;simp only[a2] at k;obtain⟨⟨q,i⟩,⟨rfl,rfl,G,r⟩,e⟩:=e;simp only at G r e;have d0:=ek k.2;rw[O] at v;rw[N] at u;generalize ap:a.eval p=d7 at v;generalize an:a.eval b=d6 at u;cases v with|val ce=>cases u with|val ci=>
  obtain⟨_,rfl⟩:=ce;obtain⟨_,rfl⟩:=ci;obtain⟨a0,D,_,V,W⟩:=ey.ok X;have s:=W.lay k.1;obtain⟨n,m,ao,bs,d4,M⟩:=rz s av;obtain⟨d1,_,z,_⟩:=s.info;have F:=z.info;rw[ao] at F;cases F;have l:m.cells.size=A.size:=(by have:=(M (aY I C.B) w).len;simpa using this);have Y:(n.bytes:Int)*(i:Int)<=281474976710656:=(by have:n.bytes*i<=48000*fi:=gO (by have:=z.bytes;omega) r;have S:((n.bytes*i:Nat):Int)<=281474976710656:=(by unfold fi at this;omega);rwa[mx] at S);have x:=run_make (P:=E.P) w H D n m V ao bs bl a4 (q:Int) (i:Int) U U Y (by unfold fi at r;omega);simp only[dk,z.size] at x;rw[<-l] at x;refine .new (d:=c) (cells:=madeCells m.cells (i*m.cells.size)) (T:=D) (cs:=[.slice (some ⟨w.heap.size,0,none⟩) q i]) (f:=[w.heap.size]) Z t ?_ rfl ?_ ab ab e
  ·simp[execOp,am,ap,an,bn,x]
  refine⟨some ⟨w.heap.size,0,none⟩,i,ab,.inr ⟨w.heap.size,0,List.replicate q [],rfl,ab,ab,by simpa using G,gM.alloc (by rw[size_madeCells,l];omega),λa3 cv R y J=>?_⟩⟩;have L:a3<q:=(by have:=(ej.1 y).1;simpa using this);obtain rfl:dl=cv:=(by rw[lB,ak L] at y;exact dF y);obtain rfl:[]=R:=(by rw[lB,ak L] at J;exact dF J);refine⟨m.cells.toList,by simpa using l,du.alloc (λa0 d5 ad=>?_),M _ _⟩;rw[h1,<-l];exact N8 _ _ _ _ _ (by rw[l];exact s.pos) (by simpa using ad) U
def rT (tt:List (TypeId×ae)) (d:List (Nat×ae)) (e:List (Nat×ay)) (a:Nat) (c:TypeId):fB:=
 match ai tt c,ai d a,ai e a with
 |some f,some b,none=>match jj b with
  |some g=>bif aS f b then .da (.ref a []) [(a,⟨.optr b,g⟩)] else .bad
  |none=>.bad
 |_,_,_=>.bad
def Yields.box {g:R.den} {cs:cJ} (q:ai st.h c=none) (i:bg C st a.tmps w I rt fp) (_hT:dn E.P R H) (s:(execOp a.eval o).run E.P w=.ok (.value (.pointer (some ⟨w.heap.size,0,none⟩))) (w.alloc (.cells cs.toArray H))) (u:∀l,(∀e b,aY I C.B e b->br w l b)->aD (aY I C.B) l R cs g []) (r:Q (.ref c []) [(c,⟨.optr R,g⟩)]):Yields E C st a w I rt fp o Q:=by have m:∀e b,aY I C.B e b->br w (w.alloc (.cells cs.toArray H)) b:=λe b n=>.of_heap ((fw.alloc w _).heap b (i.ib b (kF n)));have k:=u _ m;have j:=k.len;refine .new (d:=c) (t:=⟨.optr R,g⟩) (cs:=[.pointer (some ⟨w.heap.size,0,none⟩)]) (f:=[w.heap.size]) q i s rfl ⟨w.heap.size,0,[],cs,rfl,rfl,j,du.alloc (λv x p=>by simpa using p),gM.alloc (by simp[j]),k⟩ ab ab r
def J0 (g:bg C st a.tmps w I rt fp) (l:o.op=.alloc H) (b:(rT E.tt j st.h c H).K Q):Yields E C st a w I rt fp o Q:=by
 unfold rT at b;split at b
 case h_2=>exact b.elim
 rename_i f q i s k;split at b
 case h_2=>exact b.elim
 rename_i x m;cases d:aS f q with
 |false=>rw[d] at b;exact b.elim
 |true=>
  rw[d] at b;have e:=(E.ok H f i).lay d;obtain⟨t,r,ao,n,u,p⟩:=rz e m;refine .box (cs:=r.cells.toList) k g e ?_ (λv _=>p _ _) b;simp[execOp,l,Instr.alloc,zeroValue,typeInfo,ao,n,newVar,newRow]
def ua (tt:List (TypeId×ae)) (e:List (Nat×ay)) (a:Nat) (d:TypeId) (b:ah):fB:=
 match ai tt d,ai e a with
 |some f,none=>match b with
  |.val c b=>bif aS f c then .da (.ref a []) [(a,⟨.optr c,b⟩)] else .bad
  |_=>.bad
 |_,_=>.bad
def KA (j:bg C st a.tmps w I rt fp) (t:o.op=.box H b) (d:(ua E.tt st.h c H (aE st.g b)).K Q):Yields E C st a w I rt fp o Q:=by
 have f:=j.aE b;unfold ua at d;split at d
 case h_2=>exact d.elim
 rename_i l r s;split at d
 case h_2=>exact d.elim
 rename_i x A p;cases e:aS l x with
 |false=>rw[e] at d;exact d.elim
 |true=>
  rw[e] at d;rw[p] at f;generalize u:a.eval b=y at f;cases f with|val i=>
  rename_i m;have k:=(E.ok H l r).lay e;refine .box (cs:=m) s j k ?_ (λz q=>i.mono (λv n e=>⟨e,q v n e⟩) ab) d;simp[execOp,t,u,Instr.box,newVar,newRow,md k i.len i.one]
def coe (a:ae) (b:ah):Option a.den:=
 match b with
 |.val d b=>if h:d=a then some (h▸b) else none
 |.bu c=>gw a c.cells.toList
 |_=>none
def ud (a:ae):List ah->Option (List a.den)
 |[]=>some []
 |x::c=>match coe a x,ud a c with
  |some d,some b=>some (d::b)
  |_,_=>none
theorem Ae (i:dn E.P d H) {e:Value} (c:bk f w x rt fp L e) {g:d.den} (a:coe d L=some g):aD f w d e.cells.toList g []:=by
 unfold coe at a;split at a
 ·rename_i k j;split at a
  ·rename_i h;subst h;cases a;cases c with|val b=>
   rw[md i b.len b.one];exact b
  cases a
 ·cases c;exact mP a
 cases a
def rj:List (Nat×Operand)->Nat->Bool
 |[],_=>true
 |q::b,a=>Nat.beq q.1 a&&rj b (a+1)
def r1 (tt:List (TypeId×ae)) (g:List (Nat×ae)) (i:List (Nat×ay)) (h:Operand->ah) (b:Nat) (f:TypeId) (d:Nat) (c:List (Nat×Operand)):fB:=
 match ey tt f,ai i b with
 |some e,none=>
  let a:=match ai g b with|some (.osl a)=>a|_=>e
  bif aS e a&&Nat.ble a.size 2000&&Nat.ble d 1000&&rj c 0&&Nat.beq c.length d then
   match ud a (c.map λj=>h j.2) with
   |some k=>.da (.ref b []) [(b,⟨.osl a,k⟩)]
   |none=>.bad
  else .bad
 |_,_=>.bad
def Eg {f:ae}:∀{e:List ah} {d:List f.den},ud f e=some d->d.length=e.length/\∀(b:Nat) (c:f.den),d[b]?=some c->∃y:ah,e[b]?=some y/\coe f y=some c
 |[],d,a=>by cases a;exact⟨rfl,λb c a=>by simp at a⟩
 |y::e,d,a=>by
  simp only[ud] at a;split at a
  ·rename_i m l k j;cases a;obtain⟨h,i⟩:=Eg j;refine⟨by simp[h],λb c g=>?_⟩;cases b with
   |zero=>simp only[iC,bw] at g;subst g;exact⟨y,rfl,k⟩
   |succ b=>simpa using i b c (by simpa using g)
  cases a
def oi:∀{f:List (Nat×Operand)} {e:Nat},rj f e=true->∀(a:Nat) (c:Nat×Operand),f[a]?=some c->c.1=e+a
 |[],_,_,a,c,b=>by simp at b
 |x::f,e,b,a,c,d=>by
  simp only[rj,a2] at b;cases a with
  |zero=>simp only[iC,bw] at d;subst d;exact dU b.1
  |succ a=>have:=oi b.2 a c (by simpa using d);omega
def KE (G:bg C st a.tmps w I rt fp) (d5:o.op=.buildSlice H c D) (i:(r1 E.tt j st.h (aE st.g) N H c D.toList).K Q):Yields E C st a w I rt fp o Q:=by
 unfold r1 at i;split at i
 case h_2=>exact i.elim
 rename_i a0 dl ds;generalize fz:(match ai j N with|some (.osl e)=>e|_=>a0)=e at i;simp only at i;cases n:(aS a0 e&&Nat.ble e.size 2000&&Nat.ble c 1000&&rj D.toList 0&&Nat.beq D.toList.length c) with
 |false=>rw[n] at i;exact i.elim
 |true=>
  rw[n] at i;simp only[a2] at n;obtain⟨⟨⟨⟨a4,z⟩,A⟩,v⟩,R⟩:=n;have z:=ek z;have A:=ek A;have R:D.toList.length=c:=dU R;simp only[cond_true] at i;split at i
  case h_2=>exact i.elim
  rename_i l el;obtain⟨am,M,_,co,cv⟩:=ey.ok dl;have s:=cv.lay a4;obtain⟨J,fb,an,_⟩:=s.info;have ft:=s.pos;obtain⟨bl,bs⟩:=Eg el;simp only[gN] at bl;have Z:l.length=c:=U;have fn:c*e.size<=16777216:=(by have:c*e.size<=1000*2000:=gO A z;omega);have S:∀(b:Nat) (k:Nat×Operand),D.toList[b]?=some k->∃q:e.den,l[b]?=some q/\aD (aY I C.B) w e (a.eval k.2).cells.toList q []:=(by intro b k p;have d3:b<l.length:=(by have:=(ej.1 p).1;omega);obtain⟨f8,aj,x⟩:=bs b l[b] ab;rw[gq,p] at aj;simp only[hj,bw] at aj;subst aj;exact⟨l[b],ab,Ae s (G.aE k.2) x⟩);obtain⟨ad,d0,d1⟩:∃a3:cH,(c*e.size=0->a3=#[])/\(c*e.size≠0->∃r,(zeroValue M).run E.P w=.ok r w/\a3=r.cells):=by
   by_cases m:c*e.size=0
   ·exact⟨#[],λ_=>rfl,λi=>absurd m i⟩
   obtain⟨r,_,eq⟩:=dn.A3 s;exact⟨r.cells,λi=>absurd i m,λ_=>⟨r,by simp[zeroValue,typeInfo,an.info,eq J an.info],rfl⟩⟩
  obtain⟨ap,av,ex,f4,aT⟩:=uZ (λJ=>some (J*e.size,e.size)) (D.toList.map λk=>(k.1,a.eval k.2)) ((Array.range (c*e.size)).map (ad[· %ad.size]!)) (by
   intro k d7;obtain⟨f3,d6,rfl⟩:=b0.1 d7;obtain⟨b,p,rfl⟩:=g3.1 d6;have u:D.toList[b]?=some D.toList[b]:=ab;obtain⟨q,_,y⟩:=S b _ u;have F:=oi v b _ u;have:(b+1)*e.size<=c*e.size:=dD _ U;rw[fy,fQ] at this;refine⟨_,_,rfl,by have:=y.len;simpa using this,?_⟩;simp only[Array.size_map,Array.size_range];rw[F,h1];exact this) (by
   rw[hx];intro b L p d4 d3 f0 f5 f1 f6 aj x;simp only[rJ,bw,e6] at aj x;simp only[gN] at p d4;have ce:=oi v b D.toList[b] ab;have f2:=oi v L D.toList[L] ab;obtain⟨rfl,rfl⟩:=aj;obtain⟨rfl,rfl⟩:=x;left;rw[ce,f2];have:(0+b+1)*e.size<=(0+L)*e.size:=dD _ U;rw[fy,fQ] at this;exact this)
  have d8:ap.size=c*e.size:=(by rw[ex];simp);refine .new (d:=N) (t:=⟨.osl e,l⟩) (cells:=ap) (T:=M) (cs:=[.slice (some ⟨w.heap.size,0,none⟩) c c]) (f:=[w.heap.size]) ds G ?_ rfl ?_ ab ab i
  ·have d9:=s.sizeOf w;have fs:¬(16777216<c*e.size):=U;have W:(Array.map (λq=>(q.fst,a.eval q.snd)) D).toList=D.toList.map λk=>(k.1,a.eval k.2):=ab;simp only[execOp,d5,Instr.buildSlice,Sem.run_bind,run_underlying co,Result.andThen_ok,d9];rw[ag U];by_cases m:c*e.size=0
   ·rw[ak m];obtain rfl:=d0 m;rw[W];simp only[Sem.run_bind,Sem.run_pure,Result.andThen_ok,av,newRow,newObj];rfl
   rw[ag m];obtain⟨r,em,rfl⟩:=d1 m;rw[W];simp only[Sem.run_bind,Sem.run_pure,Result.andThen_ok,em,av,newRow,newObj];rfl
  refine⟨some ⟨w.heap.size,0,none⟩,c,by rw[Z],.inr ⟨w.heap.size,0,List.replicate c [],rfl,ab,by simp[Z],(by show l.length<=c;omega),gM.alloc (by rw[d8];omega),λb q ci y V=>?_⟩⟩;have p:b<c:=(by have:b<l.length:=(ej.1 y).1;omega);obtain rfl:[]=ci:=(by rw[lB,ak p] at V;exact dF V);have u:D.toList[b]?=some (D.toList[b]'(by omega)):=by simp
  obtain⟨f7,Y,X⟩:=S b _ u;rw[y] at Y;obtain rfl:=dF Y;refine⟨_,X.len,du.alloc (λam fa d2=>?_),X.mono (λfT O n=>⟨n,.of_heap ((fw.alloc w _).heap O (G.ib O (kF n)))⟩) ab⟩;have:=aT (D.toList[b].1,a.eval D.toList[b].2) (b0.2 ⟨D.toList[b],dm _,rfl⟩) _ _ rfl am fa (by simpa using d2);have F:=oi v b _ u;rw[F,h1] at this;simpa using this
end
end
section
def jb (a:List (Nat×Operand)) (b:Nat):cG:=ai a b
def m2 (
 g:Operand->ah) (e:List (Nat×Operand)):ae->Nat->Option ay
 |.pr a h,d=>
  match(match jb e d with
   |none=>match jj a with
    |some j=>some (⟨a,j⟩:ay)
    |none=>none
   |some c=>match g c with
    |.val f b=>bif aS a f then some ⟨f,b⟩ else none
    |.bu i=>match gw a i.cells.toList with
     |some b=>some ⟨a,b⟩
     |none=>none
    |_=>none),m2 g e h (d+1) with
  |some c,some b=>some ⟨.pr c.1 b.1,(c.2,b.2)⟩
  |_,_=>none
 |.nil,_=>some ⟨.nil,()⟩
 |_,_=>none
def jB:List (Nat×Operand)->Nat->Bool
 |[],_=>true
 |q::b,a=>Nat.ble a q.1&&jB b (q.1+1)
def eh:ae->Nat
 |.pr _ a=>eh a+1
 |_=>0
def A7:∀{e:List (Nat×Operand)} {d:Nat},jB e d=true->∀b∈e,d<=b.1
 |[],_,_,b,a=>by cases a
 |x::e,d,a,b,c=>by
  simp only[jB,a2] at a;rcases dw.1 c with rfl|c
  ·exact ek a.1
  have:=A7 a.2 b c;have:=ek a.1;omega
def A9:∀{b:List (Nat×Operand)} {d:Nat},jB b d=true->b.Pairwise λc f=>c.1<f.1
 |[],_,_=>List.Pairwise.nil
 |x::b,d,a=>by simp only[jB,a2] at a;exact List.Pairwise.cons (λc e=>by have:=A7 a.2 c e;omega) (A9 a.2)
def vb {e:Type}:∀{d:List (Nat×e)} {b:Nat} {c:e},ai d b=some c->(b,c)∈d
 |[],_,_,a=>by cases a
 |(g,v0)::r,b,c,a=>by
  rw[bv] at a;split at a
  ·rename_i f;subst f;cases a;simp
  exact eH _ (vb a)
def Br {g:Type}:∀{e:List (Nat×g)} {d:Nat},ai e d=none->∀c∈e,c.1≠d
 |[],_,_,c,a=>by cases a
 |(h,v0)::r,d,b,c,a=>by
  rw[bv] at b;split at b
  ·cases b
  rename_i f;rcases dw.1 a with rfl|a
  ·exact f
  exact Br b c a
def oa {j:Program}:∀{u:ae} {l:List Field} {e:Nat} {h:cJ},gp j u l e h->∀d,d<eh u->∃f g,dy u d=some (f,g)
 |.pr a i,k::n,e,h,c,0,_=>⟨_,_,rfl⟩
 |.pr a i,k::n,e,h,c,d+1,b=>by obtain⟨f,g,m⟩:=oa (u:=i) c.2.2.2.2 d (by simp only[eh] at b;omega);exact⟨.snd::f,g,by simp[dy,m]⟩
 |.pr _ _,[],_,_,c,_,_=>c.elim
 |.int _,_,_,_,_,_,b=>by simp[eh] at b
 |.bool,_,_,_,_,_,b=>by simp[eh] at b
 |.str,_,_,_,_,_,b=>by simp[eh] at b
 |.aU _ _,_,_,_,_,_,b=>by simp[eh] at b
 |.osl _,_,_,_,_,_,b=>by simp[eh] at b
 |.ptr _ _,_,_,_,_,_,b=>by simp[eh] at b
 |.optr _,_,_,_,_,_,b=>by simp[eh] at b
 |.st _,_,_,_,_,_,b=>by simp[eh] at b
 |.nil,_,_,_,_,_,b=>by simp[eh] at b
 |.bJ,_,_,_,_,_,b=>by simp[eh] at b
def qS:∀{u:ae} {e d:Nat} {s s':List aM} {t t':ae},dy u e=some (s,t)->dy u d=some (s',t')->e<d->c9 u e+t.size<=c9 u d
 |.pr a f,0,d+1,s,s',t,t',b,c,_=>by simp only[dy,bw,e6] at b;obtain⟨_,rfl⟩:=b;simp[c9]
 |.pr a f,e+1,d+1,s,s',t,t',b,c,k=>by
  simp only[dy] at b c;cases g:dy f e with
  |none=>rw[g] at b;cases b
  |some i=>
   cases h:dy f d with
   |none=>rw[h] at c;cases c
   |some j=>
    rw[g] at b;rw[h] at c;simp only[bw,e6] at b c;obtain⟨_,rfl⟩:=b;obtain⟨_,rfl⟩:=c;have:=qS (u:=f) (s:=i.1) (t:=i.2) (s':=j.1) (t':=j.2) g h U;simp only[c9];omega
 |.int _,_,_,_,_,_,_,b,_,_=>by cases b
 |.bool,_,_,_,_,_,_,b,_,_=>by cases b
 |.str,_,_,_,_,_,_,b,_,_=>by cases b
 |.aU _ _,_,_,_,_,_,_,b,_,_=>by cases b
 |.osl _,_,_,_,_,_,_,b,_,_=>by cases b
 |.ptr _ _,_,_,_,_,_,_,b,_,_=>by cases b
 |.optr _,_,_,_,_,_,_,b,_,_=>by cases b
 |.st _,_,_,_,_,_,_,b,_,_=>by cases b
 |.nil,_,_,_,_,_,_,b,_,_=>by cases b
 |.bJ,_,_,_,_,_,_,b,_,_=>by cases b
def AQ:∀{u:ae} {c:Nat} {s:List aM} {t:ae},dy u c=some (s,t)->c<eh u
 |.pr a d,0,_,_,_=>by simp[eh]
 |.pr a d,c+1,s,t,b=>by
  simp only[dy] at b;split at b
  ·rename_i e f;have:=AQ (u:=d) (s:=e.1) (t:=e.2) f;simp only[eh];omega
  cases b
 |.int _,_,_,_,b=>by cases b
 |.bool,_,_,_,b=>by cases b
 |.str,_,_,_,b=>by cases b
 |.aU _ _,_,_,_,b=>by cases b
 |.osl _,_,_,_,b=>by cases b
 |.ptr _ _,_,_,_,b=>by cases b
 |.optr _,_,_,_,b=>by cases b
 |.st _,_,_,_,b=>by cases b
 |.nil,_,_,_,b=>by cases b
 |.bJ,_,_,_,b=>by cases b
theorem A8:∀{d:List (Nat×Operand)} {e:Nat} {b:Nat×Operand},jB d e=true->b∈d->jb d b.1=some b.2
 |[],_,_,_,a=>by cases a
 |x::d,e,b,a,c=>by
  simp only[jB,a2] at a;obtain⟨f,g⟩:=x;unfold jb;rw[bv];rcases dw.1 c with rfl|c
  ·rw[ak rfl]
  have:=A7 a.2 b c;simp only at this;rw[ag U];exact A8 a.2 c
section
variable {E:dA} {C:c8} {st:aA} {a:Act} {w:World} {I:Nat->Prop} {rt:Nat->cJ} {fp:Nat->cP} {o:Oper} {Q:ah->List (Nat×ay)->Prop}
def tZ (tt:List (TypeId×ae)) (e:Operand->ah) (d:TypeId) (a:List (Nat×Operand)):fB:=
 match iL tt d with
 |none=>.bad
 |some c=>bif jB a 0&&a.all (λf=>Nat.blt f.1 (eh c)) then match m2 e a c 0 with
  |some b=>.da (.val (.st b.1) b.2) []
  |none=>.bad
  else .bad
def F6 {G:Program} {k:bI->Nat->Prop} {b:List (Nat×ay)} {z:Operand->ah} {j:Operand->Value} (C:∀e,bk k w b rt fp (z e) (j e)) {parts:List (Nat×Operand)} {cells:cJ}:∀{u:ae} {n:Nat} {H:List Field} {off:Nat} {zs:cJ} {i:ay},gp G u H off zs->m2 z parts u n=some i->cells.length=off+u.size->(∀d y f,dy u d=some (y,f)->(∀e,jb parts (n+d)=some e->(j e).cells.size=f.size/\(cells.drop (off+c9 u d)).take f.size=(j e).cells.toList)/\(jb parts (n+d)=none->(cells.drop (off+c9 u d)).take f.size=(zs.drop (c9 u d)).take f.size))->aD k w i.1 (cells.drop off) i.2 []/\i.1.size=u.size
 |.pr a o,n,T::ad,off,zs,i,B,h,t,r=>by
  simp only[m2] at h;split at h
  case h_2=>cases h
  rename_i e an c M;cases h;obtain⟨V,A,W,⟨X,ap,ao,P,Q⟩,I⟩:=B;have s:=r 0 _ a rfl;simp only[lE,c9,mB] at s;have q:aD k w e.1 ((cells.drop off).take a.size) e.2 []/\e.1.size=a.size:=by
   split at c
   ·rename_i v;split at c
    ·rename_i av O;cases c;obtain⟨Y,a0,E,F,_,aT⟩:=rz A O;rw[ao] at E;cases E;rw[P] at F;cases F;rw[s.2 v,Q];exact⟨aT k w,rfl⟩
    cases c
   rename_i m v;have g:=C m;obtain⟨Z,D⟩:=s.1 m v;split at c
   ·rename_i f S p;cases l:aS a f with
    |false=>rw[l] at c;cases c
    |true=>
     rw[l] at c;cases c;rw[p] at g;rw[D];generalize L:j m=R at g;cases g with|val x=>
     rw[md (A.lay l) x.len x.one];exact⟨x,(aS.size l).symm⟩
   ·rename_i R p;split at c
    ·rename_i S N;cases c;rw[p] at g;rw[D];generalize L:j m=am at g;cases g;exact⟨mP N,rfl⟩
    cases c
   cases c
  have J:=F6 C (parts:=parts) (cells:=cells) (u:=o) (n:=n+1) (off:=off+a.size) (zs:=zs.drop a.size) I M (by rw[t];simp only[ae.size];omega) (by
   intro d y f K;have:=r (d+1) (.snd::y) f (by simp[dy,K]);simp only[c9] at this;rw[(U:n+(d+1)=n+1+d),(U:off+(a.size+c9 o d)=off+a.size+c9 o d)] at this;rw[oH];exact this)
  refine⟨⟨[],[],rfl,?_,?_⟩,by simp only[ae.size];omega⟩
  ·rw[q.2];exact q.1
  rw[q.2,oH];exact J.1
 |.nil,n,[],off,zs,i,B,h,t,r=>by cases h;exact⟨⟨rfl,by rw[List.drop_eq_nil_iff];simp only[ae.size] at t;omega⟩,rfl⟩
 |.pr _ _,_,[],_,_,_,b,_,_,_=>b.elim
 |.nil,_,_::_,_,_,_,b,_,_,_=>b.elim
 |.int _,_,_,_,_,_,b,_,_,_=>by cases b
 |.bool,_,_,_,_,_,b,_,_,_=>by cases b
 |.str,_,_,_,_,_,b,_,_,_=>by cases b
 |.aU _ _,_,_,_,_,_,b,_,_,_=>by cases b
 |.osl _,_,_,_,_,_,b,_,_,_=>by cases b
 |.ptr _ _,_,_,_,_,_,b,_,_,_=>by cases b
 |.optr _,_,_,_,_,_,b,_,_,_=>by cases b
 |.st _,_,_,_,_,_,b,_,_,_=>by cases b
 |.bJ,_,_,_,_,_,b,_,_,_=>by cases b
def F7 {A:Program} {o:bI->Nat->Prop} {b:List (Nat×ay)} {p:Operand->ah} {i:Operand->Value} (q:∀c,bk o w b rt fp (p c) (i c)) {t:List (Nat×Operand)}:∀{u:ae} {n:Nat} {C:List Field} {s:Nat} {z:cJ} {y:ay},gp A u C s z->m2 p t u n=some y->∀f x h,dy u f=some (x,h)->∀c,jb t (n+f)=some c->(i c).cells.size=h.size
 |.pr a B,n,N::T,s,z,y,F,l,f,x,h,d,c,r=>by
  simp only[m2] at l;split at l
  case h_2=>cases l
  rename_i W X e I;obtain⟨O,D,P,⟨Q,Y,ao,R,S⟩,E⟩:=F;cases f with
  |zero=>
   simp only[dy,bw,e6] at d;obtain⟨_,rfl⟩:=d;rw[lE] at r;rw[r] at e;have g:=q c;simp only at e;split at e
   ·rename_i h L j;cases k:aS a h with
    |false=>rw[k] at e;cases e
    |true=>
     rw[j] at g;generalize H:i c=K at g;cases g with|val m=>
     rw[md (D.lay k) m.len m.one];have:=m.len;have:=aS.size k;simp;omega
   ·rename_i K j;split at e
    ·rename_i L J;rw[j] at g;generalize H:i c=V at g;cases g;have:=(mP (M:=o) (w:=w) J).len;simpa using this
    cases e
   cases e
  |succ f=>
   simp only[dy] at d;split at d
   ·rename_i v G;simp only[bw,e6] at d;obtain⟨_,rfl⟩:=d;exact F7 q (u:=B) (n:=n+1) E I f v.1 v.2 G c (by rwa[(U:n+1+f=n+(f+1))])
   cases d
 |.pr _ _,_,[],_,_,_,b,_,_,_,_,_,_,_=>b.elim
 |.nil,_,_,_,_,_,_,_,_,_,_,d,_,_=>by cases d
 |.int _,_,_,_,_,_,b,_,_,_,_,_,_,_=>by cases b
 |.bool,_,_,_,_,_,b,_,_,_,_,_,_,_=>by cases b
 |.str,_,_,_,_,_,b,_,_,_,_,_,_,_=>by cases b
 |.aU _ _,_,_,_,_,_,b,_,_,_,_,_,_,_=>by cases b
 |.osl _,_,_,_,_,_,b,_,_,_,_,_,_,_=>by cases b
 |.ptr _ _,_,_,_,_,_,b,_,_,_,_,_,_,_=>by cases b
 |.optr _,_,_,_,_,_,b,_,_,_,_,_,_,_=>by cases b
 |.st _,_,_,_,_,_,b,_,_,_,_,_,_,_=>by cases b
 |.bJ,_,_,_,_,_,b,_,_,_,_,_,_,_=>by cases b
def run_places {P:Program} (w:World):∀(e:ae) (i:List Field) (d:Nat) (g:cJ),gp P e i d g->(i.mapM λf=>do Pure.pure (f.offset,<-sizeOf f.type):Sem cR).run P w=.ok ((List.range (eh e)).map λc=>(d+c9 e c,match dy e c with|some k=>k.2.size|none=>0)) w
 |.pr a h,f::l,d,g,b=>by have j:=run_places w h l (d+a.size) (g.drop a.size) b.2.2.2.2;simp only[List.mapM_cons,Sem.run_bind,b.2.1.sizeOf,Result.andThen_ok,Sem.run_pure,j];simp only[eh,List.range_succ_eq_map,eG,nB,b.1,c9,lE,dy];congr 2;apply hu;intro c _;simp only[Function.comp,c9,dy];rw[Nat.add_assoc];cases dy h c<;>rfl
 |.nil,[],_,_,_=>rfl
 |.pr _ _,[],_,_,b=>b.elim
 |.nil,_::_,_,_,b=>b.elim
 |.int _,_,_,_,b=>by cases b
 |.bool,_,_,_,b=>by cases b
 |.str,_,_,_,b=>by cases b
 |.aU _ _,_,_,_,b=>by cases b
 |.osl _,_,_,_,b=>by cases b
 |.ptr _ _,_,_,_,b=>by cases b
 |.optr _,_,_,_,b=>by cases b
 |.st _,_,_,_,b=>by cases b
 |.bJ,_,_,_,b=>by cases b
def Kx (an:bg C st a.tmps w I rt fp) (ds:o.op=.build H D) (f:(tZ E.tt (aE st.g) H D.toList).K Q):Yields E C st a w I rt fp o Q:=by
 unfold tZ at f;split at f
 ·exact f.elim
 rename_i b J;cases q:(jB D.toList 0&&D.toList.all (λc=>Nat.blt c.1 (eh b))) with
 |false=>rw[q] at f;exact f.elim
 |true=>
  rw[q] at f;simp only[a2,et] at q;obtain⟨X,G⟩:=q;simp only[cond_true] at f;split at f
  case h_2=>exact f.elim
  rename_i fb ap;obtain⟨l,m,i,a3,ft,a4,bl,p,am⟩:∃l m i,E.P.info? H=some l/\l.size=b.size/\l.zero=some (.agg i)/\E.P.underlying H=some (.struct m)/\gp E.P b m.toList 0 i.toList/\i.size=b.size:=by
   unfold iL at J;split at J
   ·rename_i f4 ce;cases J;obtain⟨_,l,m,i,ao,d5,_,d6,d7,d8,d9⟩:=E.ok H _ ce;exact⟨l,m,i,ao,d5,d6,d7,d8,d9⟩
   cases J
  have S:=F7 (λe=>an.aE e) p ap;have R:=run_places (P:=E.P) w b m.toList 0 i.toList p;simp only[h1] at R S;generalize d1:((List.range (eh b)).map λj=>(c9 b j,match dy b j with|some c=>c.2.size|none=>0))=V at R;have y:∀j F k,dy b j=some (F,k)->j<eh b->V.toArray[j]?=some (c9 b j,k.size):=(by intro j F k d cv;rw[<-d1];simp[cv,d]);obtain⟨N,el,em,eq,aT⟩:=uZ (λl=>V.toArray[l]?) (D.toList.map λc=>(c.1,a.eval c.2)) i (by
   intro c z;obtain⟨h,x,rfl⟩:=b0.1 z;have t:h.1<eh b:=ek (G h x);obtain⟨F,k,d⟩:=oa p h.1 t;refine⟨_,_,y _ _ _ d t,S _ _ _ d h.2 ?_,by rw[am];exact sz d⟩;exact A8 X x) (by
   rw[tH];refine(A9 X).imp_of_mem ?_;intro c W z d3 t d4 ex f0 f1 aj Y;have B:c.1<eh b:=ek (G c z);have a0:W.1<eh b:=ek (G W d3);obtain⟨fa,fn,r⟩:=oa p c.1 B;obtain⟨f2,f3,q⟩:=oa p W.1 a0;rw[y _ _ _ r B] at aj;rw[y _ _ _ q a0] at Y;cases aj;cases Y;exact .inl (qS r q t))
  have fT:N.toList.length=b.size:=(by simp[em,am]);obtain⟨ad,fs⟩:=F6 (w:=w) (λe=>an.aE e) (parts:=D.toList) (cells:=N.toList) (u:=b) (n:=0) (off:=0) p ap U (by
   intro M F k d;have ci:M<eh b:=AQ d;simp only[h1];have fz:=sz d;refine⟨λe L=>?_,λL=>?_⟩
   ·have co:=vb L;have T:=S M F k d e L;refine⟨T,?_⟩;apply hY;intro A;rcases bi A k.size with s|s
    ·obtain⟨O,av⟩:∃O,(a.eval e).cells[A]?=some O:=⟨_,tq U⟩;have:=aT (M,a.eval e) (b0.2 ⟨(M,e),co,rfl⟩) _ _ (y _ _ _ d ci) A O av;rw[kj s,jS];simp only[ts];rw[this,av]
    rw[hG (by simp;omega),hG (by simp;omega)]
   apply hY;intro A;rcases bi A k.size with s|s
   ·rw[kj s,kj s,jS,jS];simp only[ts];refine eq _ ?_;intro c z d4 ex aj;obtain⟨h,x,rfl⟩:=b0.1 z;have dl:=Br L h x;have B:h.1<eh b:=ek (G h x);obtain⟨fa,fn,r⟩:=oa p h.1 B;rw[y _ _ _ r B] at aj;cases aj;rcases Nat.lt_or_gt_of_ne dl with t|bs
    ·have:=qS r d t;omega
    have:=qS d r bs;omega
   rw[hG (by simp;omega),hG (by simp;omega)])
  rw[mB] at ad;refine .pure (v:=.agg N) ?_ (.val (τ:=.st fb.1) (cs:=N.toList) ad) f;have d2:(Array.map (λe=>(e.fst,a.eval e.snd)) D).toList=D.toList.map λc=>(c.1,a.eval c.2):=ab;have d0:(m.mapM λZ=>do Pure.pure (Z.offset,<-sizeOf Z.type):Sem (Array cz)).run E.P w=.ok V.toArray w:=(by rw[Array.mapM_eq_mapM_toList,Sem.run_map,R];rfl);have T:(zeroValue H).run E.P w=.ok (.agg i) w:=(by simp[zeroValue,typeInfo,a3,a4]);simp only[execOp,ds,Instr.build,Sem.run_bind,T,run_underlying bl,Result.andThen_ok,d0,d2,Value.cells,el];rfl
end
end
section
def dJ {α:Type}:List (Int×α)->Int->Option α
 |[],_=>none
 |(a,v)::r,k=>if a=k then some v else dJ r k
def gk {α:Type}:List (Int×α)->Int->α->List (Int×α)
 |[],k,v=>[(k,v)]
 |(a,u)::r,k,v=>if k<a then(k,v)::(a,u)::r else if k=a then(k,v)::r else(a,u)::gk r k v
def gK {α:Type} (l:List (Int×α)) (a:Int):List (Int×α):=l.filter λb=>decide (b.1≠a)
def hE {α:Type} (b:Option (List (Int×α)×Nat)) (a:Int):Option α:=b.bind λc=>dJ c.1 a
def sL {α:Type} (a:Option (List (Int×α)×Nat)):Int:=match a with|some b=>(b.1.length:Int)|none=>0
section
variable {α:Type}
theorem yH:∀{l:List (Int×α)} {c:Int} {d:α},dJ l c=some d->(c,d)∈l
 |[],_,_,b=>by cases b
 |(a,u)::r,c,d,b=>by
  simp only[dJ] at b;split at b
  ·grind
  exact eH _ (yH b)
theorem FT:∀{l:List (Int×α)} {c:Int},dJ l c=none->∀d,(c,d)∉l
 |[],_,_,_=>by simp
 |(a,u)::r,c,b,d=>by
  simp only[dJ] at b;split at b
  ·cases b
  rename_i g;intro f;rcases dw.1 f with e|e
  ·grind
  exact FT b d e
theorem Ij {l:List (Int×α)} (c:l.Pairwise (λa b=>a.1<b.1)):(l.map (·.1)).Nodup:=by grind
theorem N7 {l:List (Int×α)} (b:(l.map (·.1)).Nodup) {a:α}:dJ l S=some a↔(S,a)∈l:=by
 constructor
 ·exact yH
 intro c
 induction l with
 |nil=>cases c
 |cons d g f=>
  obtain⟨e,h⟩:=d;simp only[eG,hZ] at b;simp only[dJ];grind
theorem FU:∀{l:List (Int×α)} {d:Int} {e:α} {c:Int×α},c∈gk l d e->c=(d,e)\/c∈l
 |[],d,e,c,b=>by grind [gk]
 |(a,u)::r,d,e,c,b=>by
  simp only[gk] at b;split at b
  ·grind
  split at b
  ·grind
  rcases dw.1 b with b|b
  ·grind
  exact(FU b).imp id (eH _)
theorem Bw:∀{l:List (Int×α)} {c:Int} {d:α},l.Pairwise (λa b=>a.1<b.1)->(gk l c d).Pairwise (λa b=>a.1<b.1)
 |[],c,d,_=>by simp[gk]
 |(a,u)::r,c,d,h=>by
  rw[oK] at h;simp only[gk];split
  ·grind [List.pairwise_cons]
  rename_i g;split
  ·grind [List.pairwise_cons]
  rename_i f;rw[oK];refine⟨λi e=>?_,Bw h.2⟩;rcases FU e with rfl|e
  ·omega
  grind
def N5 {l:List (Int×α)} (c:l.Pairwise (λa b=>a.1<b.1)):(gK l S).Pairwise (λa b=>a.1<b.1):=c.filter _
theorem Bv:∀{l:List (Int×α)} {k:Int} {v:α},l.Pairwise (λa b=>a.1<b.1)->(gk l k v).Perm ((k,v)::gK l k)
 |[],k,v,_=>by simp[gk,gK]
 |(a,u)::r,k,v,h=>by
  rw[oK] at h;simp only[gk];split
  ·rename_i d;have:gK ((a,u)::r) k=(a,u)::r:=by
    unfold gK;grind [List.filter_eq_self]
   rw[this]
  rename_i d;split
  ·rename_i c;subst c;have:gK ((k,u)::r) k=r:=by
    unfold gK;rw[kV,ag ab,lA];grind
   rw[this]
  rename_i c;have:gK ((a,u)::r) k=(a,u)::gK r k:=(by unfold gK;grind);rw[this];exact((Bv h.2).cons _).trans (.swap _ _ _)
end
section
variable {P:Program} {w:World} {b:Nat} {c7:Array MapEntry} {c:Nat}
theorem kE:gz w b=some (c7,c)↔w.heap[b]?=some (.map c7 c):=by grind [gz]
def m9 (a:w.heap[b]?=some (.map c7 c)):(setObj b (.map t g)).run P w=.ok () {w with heap:=w.heap.setIfInBounds b (.map t g)}:=by simp[setObj,Sem.run,a]
def run_getObj_map (a:w.heap[b]?=some (.map c7 c)):(getObj b).run P w=.ok (.map c7 c) w:=by simp[getObj,Sem.run,a]
theorem ET {j:IntKind} (b:Int):∀(c7:List MapEntry) (c:cQ) (d:Nat),c7.map (·.key)=c.map (Value.int .i64)->b∉c->Instr.findNow (.int j) (.int .i64 b) c7 d=some none
 |[],_,_,_,_=>rfl
 |e::c7,[],_,a,_=>by cases a
 |e::c7,f::c,d,a,h=>by simp only[eG,fd] at a;have i:(b==f)=false:=(by grind);simp only[Instr.findNow,a.1,Instr.sameNow,if_true,i];exact ET b c7 c (d+1) a.2 (λg=>h (eH _ g))
theorem EU {kd:IntKind} (b:Int):∀(c7:List MapEntry) (d:cQ) (f:Nat),c7.map (·.key)=d.map (Value.int .i64)->b∈d->∃c e,d[c]?=some b/\c7[c]?=some e/\Instr.findNow (.int kd) (.int .i64 b) c7 f=some (some (f+c,e.val))
 |[],[],_,_,a=>by cases a
 |[],_::_,_,a,_=>by cases a
 |e::c7,[],_,a,_=>by cases a
 |e::c7,g::d,f,a,m=>by
  simp only[eG,fd] at a;by_cases h:b=g
  ·subst h;refine⟨0,e,rfl,rfl,?_⟩;simp_all [if_true,beq_self_eq_true,Instr.findNow,Instr.sameNow]
  have n:(b==g)=false:=(by grind);obtain⟨c,i,j,k,l⟩:=EU b c7 d (f+1) a.2 ((dw.1 m).resolve_left h);refine⟨c+1,i,by simpa using j,by simpa using k,?_⟩;simp only[Instr.findNow,a.1,Instr.sameNow,if_true,n];rw[l];grind
structure eS (M:bI->Nat->Prop) (w:World) (t:ae) (b:Nat) (l:List (Int×t.den)) (c:Nat) (c7:Array MapEntry) (L:List (Int×Nat×t.den)):Prop where
 l4:hJ L l c
 h:w.heap[b]?=some (.map c7 c)
 n:c7.size=L.length
 e:∀(i:Nat) (q:Int×Nat×t.den),L[i]?=some q->∃ds:cJ,ds.length=t.size/\c7[i]?=some (MapEntry.mk (.int .i64 q.1) (bn t ds) q.2.1)/\aD M w t ds q.2.2 []
variable {M:bI->Nat->Prop} {t:ae} {l:List (Int×t.den)} {L:List (Int×Nat×t.den)}
theorem eS.keys (f:eS M w t b l c c7 L):c7.toList.map (·.key)=(L.map (·.1)).map (Value.int .i64):=by
 apply hY;intro d;simp only[gq,ts];rcases bi d L.length with a|a
 ·obtain⟨g,_,h,_⟩:=f.e d L[d] (bB a);grind
 rw[hG a,Array.getElem?_eq_none (by rw[f.n];exact a)];rfl
def hJ.keys {α:Type} {L:List (Int×Nat×α)} {l:List (Int×α)} {c:Nat} (a:hJ L l c):(L.map (·.1)).Perm (l.map (·.1)):=by have:=a.2.1.map (·.1);rwa[nB] at this
def hJ.sU {α:Type} {L:List (Int×Nat×α)} {l:List (Int×α)} {c:Nat} (a:hJ L l c):(L.map (·.1)).Nodup:=a.keys.nodup_iff.2 (Ij a.1)
def hJ.mem {α:Type} {L:List (Int×Nat×α)} {l:List (Int×α)} {c:Nat} (b:hJ L l c) {a:Int×Nat×α} (d:a∈L):dJ l a.1=some a.2.2:=
 (N7 (Ij b.1)).2 (b.2.1.mem_iff.1 (b0.2 ⟨a,d,rfl⟩))
theorem hJ.len {α:Type} {L:List (Int×Nat×α)} {l:List (Int×α)} {c:Nat} (a:hJ L l c):L.length=l.length:=by have:=a.2.1.length_eq;grind
theorem Cx {P:Program} {w:World} (d:P.underlying a=some (.int u)) {c7:List MapEntry} {b:Option (Nat×Value)} (c:Instr.findNow (.int u) (.int .i64 S) c7 0=some b):(Instr.findKey a (.int .i64 S) c7).run P w=.ok b w:=by simp_all [Sem.run_bind,run_underlying,Result.andThen_ok,Instr.findKey]
def li {P:Program} {w:World} (c:P.underlying a=some (.int u)) (b:Bool) (e:Nat) (d:Int):(Instr.checkKey b (e+1) a (.int .i64 d)).run P w=.ok () w:=by simp[Instr.checkKey,Sem.run_bind,run_underlying c]
theorem eS.find (j:eS M w t b l c c7 L) (v:P.underlying a=some (.int u)) (d:Int):(dJ l d=none/\(∀o∈L,o.1≠d)/\∀f,(Instr.findKey a (.int .i64 d) c7.toList).run P f=.ok none f)\/∃h m i g,dJ l d=some i/\L[h]?=some (d,m,i)/\g.length=t.size/\c7[h]?=some ⟨.int .i64 d,bn t g,m⟩/\aD M w t g i []/\∀f,(Instr.findKey a (.int .i64 d) c7.toList).run P f=.ok (some (h,bn t g)) f:=by
 by_cases k:d∈L.map (·.1)
 ·obtain⟨h,q,r,s,B⟩:=EU (kd:=u) d c7.toList _ 0 j.keys k;rw[gq] at r;obtain⟨⟨C,m,i⟩,n,rfl⟩:=dE.1 r;obtain⟨g,x,p,y⟩:=j.e h _ n;rw[ts,p] at s;cases s;refine .inr ⟨h,m,i,g,j.l4.mem (jU n),n,x,p,y,λf=>Cx v ?_⟩;grind
 refine .inl ⟨?_,λo A q=>k (b0.2 ⟨o,A,q⟩),λf=>Cx v (ET d _ _ 0 j.keys k)⟩;cases z:dJ l d with
 |none=>rfl
 |some i=>exact absurd (j.l4.keys.mem_iff.2 (b0.2 ⟨_,yH z,rfl⟩)) k
def eS.empty (M:bI->Nat->Prop) (t:ae) (a:w.heap[b]?=some (.map #[] 0)):eS M w t b [] 0 #[] []:=
 ⟨⟨.nil,.refl _,.nil,ab⟩,a,rfl,ab⟩
def q9 {α:Type} (L:List (Int×Nat×α)) (a:Int) (d:α) (c:Nat):List (Int×Nat×α)×Nat:=
 if a∈L.map (·.1) then(L.map λb=>if b.1=a then(a,b.2.1,d) else b,c) else(L++[(a,c,d)],c+1)
theorem Hm {α:Type} {c:Int} {g:α}:∀{b:List (Int×α)},(b.map (·.1)).Nodup->c∈b.map (·.1)->(b.map λd=>if d.1=c then(c,g) else d).Perm ((c,g)::gK b c)
 |[],_,e=>by cases e
 |(a,u)::b,e,j=>by
  simp only[eG,hZ] at e;simp only[eG];by_cases h:a=c
  ·subst h;rw[ak rfl];have i:(b.map λd=>if d.1=a then(a,g) else d)=b:=by
    conv=>rhs;rw[<-List.map_id b]
    refine hu λd k=>?_;grind
   have f:gK ((a,u)::b) a=b:=(by unfold gK;rw[kV,ag ab,lA];grind);rw[i,f]
  rw[ag h];have f:gK ((a,u)::b) c=(a,u)::gK b c:=(by simp_all [kV,ak,gK]);rw[f];refine((Hm e.2 ?_).cons _).trans (.swap _ _ _);grind
theorem hJ.put {α:Type} {L:List (Int×Nat×α)} {l:List (Int×α)} {c:Nat} (e:hJ L l c) (d:Int) (g:α):hJ (q9 L d g c).1 (gk l d g) (bif (dJ l d).isSome then c else c+1)/\(q9 L d g c).2=(bif (dJ l d).isSome then c else c+1):=by
 have i:(dJ l d).isSome=decide (d∈L.map (·.1)):=by
  by_cases h:d∈L.map (·.1)
  ·obtain⟨a,f,rfl⟩:=b0.1 h;rw[e.mem f,decide_eq_true h];rfl
  rw[decide_eq_false h];cases i:dJ l d with
  |none=>rfl
  |some v=>exact absurd (e.keys.mem_iff.2 (b0.2 ⟨_,yH i,rfl⟩)) h
 rw[i];unfold q9;have n:((L.map λa=>(a.1,a.2.2)).filter λa=>decide (a.1≠d)).Perm (gK l d):=e.2.1.filter _;by_cases h:d∈L.map (·.1)
 ·rw[ak h,decide_eq_true h];refine⟨⟨Bw e.1,?_,?_,?_⟩,rfl⟩
  ·have aj:((L.map λa=>if a.1=d then(d,a.2.1,g) else a).map λa=>(a.1,a.2.2))=(L.map λa=>(a.1,a.2.2)).map λa=>if a.1=d then(d,g) else a:=by
    simp only[nB];refine hu λa _=>?_;grind
   show((L.map λa=>if a.1=d then(d,a.2.1,g) else a).map λa=>(a.1,a.2.2)).Perm _;rw[aj];refine(Hm ?_ ?_).trans ((n.cons _).trans (Bv e.1).symm)
   ·rw[nB];exact e.sU
   grind
  ·have aj:((L.map λa=>if a.1=d then(d,a.2.1,g) else a).map λa=>a.2.1)=L.map λa=>a.2.1:=by
    grind [List.map_congr_left,List.map_map]
   show((L.map λa=>if a.1=d then(d,a.2.1,g) else a).map λa=>a.2.1).Nodup;rw[aj];exact e.2.2.1
  intro a f;obtain⟨p,o,rfl⟩:=b0.1 f;have:=e.2.2.2 p o;grind
 rw[ag h,decide_eq_false h];refine⟨⟨Bw e.1,?_,?_,?_⟩,rfl⟩
 ·have j:gK l d=l:=by
   unfold gK;rw[lA];intro a f;simp only[decide_eq_true_eq];rintro rfl;exact h (e.keys.mem_iff.2 (b0.2 ⟨a,f,rfl⟩))
  have:=Bv (k:=d) (v:=g) e.1;rw[j] at this;refine List.Perm.trans ?_ this.symm;show((L++[(d,c,g)]).map λa=>(a.1,a.2.2)).Perm _;rw[hf];exact List.perm_append_comm.trans ((e.2.1).cons _)
 ·show((L++[(d,c,g)]).map λa=>a.2.1).Nodup;rw[hf,hI];refine⟨e.2.2.1,ab,λq m b s r=>?_⟩;obtain⟨a,f,rfl⟩:=b0.1 m;have:=e.2.2.2 a f;grind
 intro a f;rcases eR.1 f with f|f
 ·have:=e.2.2.2 a f;grind
 grind
theorem EQ {α:Type} {h:Int}:∀{b:List α} (a:α->Int) {f:Nat} {d:α},(b.map a).Nodup->b[f]?=some d->a d=h->b.eraseIdx f=b.filter λi=>decide (a i≠h)
 |[],a,f,d,_,c,_=>by grind
 |x::b,a,0,d,e,c,g=>by simp only[iC,bw] at c;subst c;simp only[eG,hZ] at e;rw[List.eraseIdx_cons_zero,kV,ag (by grind),lA.2];grind
 |x::b,a,f+1,d,e,c,g=>by simp only[nz] at c;simp only[eG,hZ] at e;rw[List.eraseIdx_cons_succ,kV,ak,EQ a e.2 c g];grind
def hJ.del {α:Type} {L:List (Int×Nat×α)} {l:List (Int×α)} {c:Nat} (b:hJ L l c) (d:Int):hJ (L.filter λa=>decide (a.1≠d)) (gK l d) c:=by
 refine⟨N5 b.1,?_,?_,λa e=>b.2.2.2 a (gu.1 e).1⟩
 ·have:=b.2.1.filter (λa=>decide (a.1≠d));rw[List.filter_map] at this;exact this
 exact b.2.2.1.sublist (List.filter_sublist.map _)
def aD.Gc (a:eS M w t b l c c7 L):aD M w (.mp t) [.map (some b)] (some (l,c)) [b]:=⟨b,c7,L,rfl,rfl,a.l4,kE.2 a.h,a.n,a.e⟩
def aD.kG (a:aD M w (.mp t) i (some (l,c)) n):∃b c7 L,i=[.map (some b)]/\n=[b]/\eS M w t b l c c7 L:=by obtain⟨b,c7,L,d,e,f,g,h,j⟩:=a;exact⟨b,c7,L,d,e,f,kE.1 g,h,j⟩
def aD.Tt (a:aD M w (.di Q t) i (some (l,c)) n):∃b c7 L,i=[.map (some b)]/\n=[]/\M Q b/\eS M w t b l c c7 L:=by obtain⟨b,c7,L,d,e,f,k,g,h,j⟩:=a;exact⟨b,c7,L,d,e,k,f,kE.1 g,h,j⟩
def er (w:World) (b:Nat) (c7:Array MapEntry) (c:Nat):World:={w with heap:=w.heap.setIfInBounds b (.map c7 c)}
theorem kQ {es':Array MapEntry} {c':Nat} (a:w.heap[b]?=some (.map c7 c)):(er w b es' c').heap[b]?=some (.map es' c'):=by grind [Array.getElem?_eq_some_iff,er]
theorem vL {a:Array MapEntry} (c:g≠b):(er w b a N).heap[g]?=w.heap[g]?:=by grind [Array.getElem?_setIfInBounds_ne,er]
def H9 {a:Array MapEntry}:(er w b a g).heap.size=w.heap.size:=by simp[er]
theorem Sg {es':Array MapEntry} {c':Nat} (d:w.heap[b]?=some (.map c7 c)) (a:Addr):(er w b es' c').cell? a=w.cell? a:=by grind [World.cell?_of_block,vL,kQ,World.cell?]
theorem Sh {es':Array MapEntry} {c':Nat} (d:w.heap[b]?=some (.map c7 c)) (a:Addr):(er w b es' c').frozen? a=w.frozen? a:=by grind [World.frozen?_of_block,vL,kQ,World.frozen?]
def zh {a:Array MapEntry} (c:g≠b):br w (er w b a N) g:=.of_heap (vL c)
theorem eS.update (f:eS M w t b l c c7 L) {K:TypeId} (I:P.underlying H=some (.map a K)) (D:P.underlying a=some (.int u)) (d:Int) {m:t.den} (Z:A.length=t.size) (bl:aD M w t A m []):∃s N,(Instr.mapUpdate H (.map (some b)) (.int .i64 d) (bn t A)).run P w=.ok () (er w b s (bif (dJ l d).isSome then c else c+1))/\(∀{v:bI->Nat->Prop},(∀q d,M q d->v q d/\d≠b)->eS v (er w b s (bif (dJ l d).isSome then c else c+1)) t b (gk l d m) (bif (dJ l d).isSome then c else c+1) s N)/\hU w (er w b s (bif (dJ l d).isSome then c else c+1)) b:=by
 have av:∀{v:bI->Nat->Prop} {s:Array MapEntry} {O:Nat},(∀q d,M q d->v q d/\d≠b)->∀{A:cJ} {m:t.den},aD M w t A m []->aD v (er w b s O) t A m []:=
  λx _ _ a4=>a4.mono (λq d B=>⟨(x q d B).1,zh (x q d B).2⟩) ab
 obtain⟨p,ci⟩:=f.l4.put d m;rcases f.find (P:=P) D d with⟨C,F,G⟩|⟨z,cv,dl,bs,C,F,G,W,ce,X⟩
 ·rw[C] at p|-;have B:d∉L.map (·.1):=λco=>(by grind);simp only[Option.isSome_none,cond_false] at p|-;have aj:(q9 L d m c).1=L++[(d,c,m)]:=(by simp_all [ag,q9]);rw[aj] at p;refine⟨c7.push ⟨.int .i64 d,bn t A,c⟩,L++[(d,c,m)],?_,λx=>⟨p,kQ f.h,by simp[f.n],λk g o=>?_⟩,?_⟩
  ·simp only[Instr.mapUpdate,Sem.run_bind,run_underlying I,Result.andThen_ok,run_getObj_map f.h,li D,G];exact m9 f.h
  ·rcases bi k L.length with E|E
   ·rw[mC E] at o;obtain⟨U,R,S,T⟩:=f.e k g o;grind
   rw[ny E] at o;have am:k-L.length=0:=(by grind);rw[am] at o;simp only[iC,bw] at o;subst o;exact⟨A,Z,by rw[Array.getElem?_push,ak (by rw[f.n];omega)],av x bl⟩
  intro V Q y;rw[kE.2 f.h] at y;cases y;refine⟨_,_,kE.2 (kQ f.h),Nat.le_succ _,λk r ad Y=>?_⟩;grind
 rw[C] at p|-;have B:d∈L.map (·.1):=b0.2 ⟨_,jU F,rfl⟩;simp only[wk,cond_true] at p|-;have aj:(q9 L d m c).1=L.map λg=>if g.1=d then(d,g.2.1,m) else g:=by simp_all [ak,q9]
 rw[aj] at p;have cs:∀(k:Nat) (g:Int×Nat×t.den),L[k]?=some g->g.1=d->k=z:=λk g o r=>(by have a0:=f.l4.sU;have an:k<(L.map (·.1)).length:=(by grind);have:=List.getElem?_inj an a0 (i:=k) (j:=z);grind);refine⟨c7.modify z λr=>{r with key:=.int .i64 d,val:=bn t A},L.map λg=>if g.1=d then(d,g.2.1,m) else g,?_,λx=>⟨p,kQ f.h,by simp[f.n],λk g o=>?_⟩,?_⟩
 ·have ap:(Instr.keyThatStays (((c7[z]?).map (·.key)).getD (.int .i64 d)) (.int .i64 d)).run P w=.ok (.int .i64 d) w:=by
   rw[W];simp[Instr.keyThatStays,Instr.sameBits]
  simp only[Instr.mapUpdate,Sem.run_bind,run_underlying I,Result.andThen_ok,run_getObj_map f.h,li D,X,ap];exact m9 f.h
 ·rw[gq] at o;obtain⟨J,a3,rfl⟩:=dE.1 o;by_cases r:J.1=d
  ·grind
  rw[ag r];obtain⟨U,R,S,T⟩:=f.e k J a3;grind
 intro V Q y;rw[kE.2 f.h] at y;cases y;refine⟨_,_,kE.2 (kQ f.h),aZ _,λk r ad Y=>?_⟩;grind
theorem eS.delete (d:eS M w t b l c c7 L) {N:TypeId} (G:P.underlying H=some (.map a N)) (v:P.underlying a=some (.int u)) (f:Int) (ad:TypeId) (Q:TypeId):∃k O,(Builtin.delete_ #[H,Q] ad #[.map (some b),.int .i64 f]).run P w=.ok (.tuple #[]) (er w b k c)/\(∀{p:bI->Nat->Prop},(∀g f,M g f->p g f/\f≠b)->eS p (er w b k c) t b (gK l f) c k O)/\hU w (er w b k c) b:=by
 have ap:∀{p:bI->Nat->Prop} {k:Array MapEntry} {R:Nat},(∀g f,M g f->p g f/\f≠b)->∀{B:cJ} {K:t.den},aD M w t B K []->aD p (er w b k R) t B K []:=
  λr _ _ Z=>Z.mono (λg f J=>⟨(r g f J).1,zh (r g f J).2⟩) ab
 rcases d.find (P:=P) v f with⟨V,s,E⟩|⟨o,a0,a3,am,V,s,E,F,an,W⟩
 ·have aj:gK l f=l:=by
   unfold gK;rw[lA];intro j av;simp only[decide_eq_true_eq];grind [FT]
  refine⟨c7,L,?_,λr=>⟨by rw[aj];exact d.l4,kQ d.h,d.n,λi j m=>?_⟩,?_⟩
  ·simp only[Builtin.delete_,Sem.run_bind,run_underlying G,Result.andThen_ok,run_getObj_map d.h,li v,E,List.getElem?_toArray,iC,nz];rw[m9 d.h];rfl
  ·obtain⟨C,y,z,A⟩:=d.e i j m;grind
  intro U S q;rw[kE.2 d.h] at q;cases q;exact⟨_,_,kE.2 (kQ d.h),aZ _,λi D I _=>⟨i,D,I,rfl,rfl⟩⟩
 have T:L.eraseIdx o=L.filter λj=>decide (j.1≠f):=EQ (·.1) d.l4.sU s rfl;refine⟨c7.eraseIdxIfInBounds o,L.eraseIdx o,?_,λr=>⟨by rw[T];exact d.l4.del f,kQ d.h,?_,λi j m=>?_⟩,?_⟩
 ·simp only[Builtin.delete_,Sem.run_bind,run_underlying G,Result.andThen_ok,run_getObj_map d.h,li v,W,List.getElem?_toArray,iC,nz];rw[m9 d.h];rfl
 ·have x:o<c7.size:=(lw.1 F).1;have X:o<L.length:=(ej.1 s).1;rw[Array.eraseIdxIfInBounds,dif_pos x,Array.size_eraseIdx,List.length_eraseIdx,ak X,d.n]
 ·have x:o<c7.size:=(lw.1 F).1;rw[List.getElem?_eraseIdx] at m;rw[Array.eraseIdxIfInBounds,dif_pos x];split at m
  ·rename_i Y;obtain⟨C,y,z,A⟩:=d.e i j m;grind
  rename_i Y;obtain⟨C,y,z,A⟩:=d.e (i+1) j m;grind
 intro U S q;rw[kE.2 d.h] at q;cases q;refine⟨_,_,kE.2 (kQ d.h),aZ _,λi D I _=>?_⟩;grind
end
end
section
section
variable {E:dA} {C:c8} {st:aA} {a:Act} {w:World} {I:Nat->Prop} {rt:Nat->cJ} {fp:Nat->cP} {o:Oper} {Q:ah->List (Nat×ay)->Prop}
def im (tt:List (TypeId×ae)) (b:TypeId):Option ae:=match ai tt b with|some (.mp a)=>some a|some (.di _ a)=>some a|_=>none
theorem im.ok {d:TypeId} {i:ae} (c:im E.tt d=some i):∃a b,E.P.underlying d=some (.map a b)/\E.P.underlying a=some (.int .i64)/\dn E.P i b:=by
 unfold im at c;split at c
 ·rename_i k h;cases c;obtain⟨j,a,b,_,_,_,_,e,f,g⟩:=E.ok d _ h;exact⟨a,b,e,f,g⟩
 ·rename_i l k h;cases c;obtain⟨j,a,b,_,_,_,_,e,f,g⟩:=E.ok d _ h;exact⟨a,b,e,f,g⟩
 cases c
def sP (tt:List (TypeId×ae)) (d:List (Nat×ae)) (e:List (Nat×ay)) (a:Nat) (c:TypeId):fB:=
 match im tt c,ai d a,ai e a with
 |some f,some (.mp b),none=>bif aS f b then .da (.ref a []) [(a,⟨.mp b,some ([],0)⟩)] else .bad
 |_,_,_=>.bad
def Ou (f:bg C st a.tmps w I rt fp) (l:o.op=.makeMap H none) (b:(sP E.tt j st.h c H).K Q):Yields E C st a w I rt fp o Q:=by
 unfold sP at b;split at b
 case h_2=>exact b.elim
 rename_i m d p q g;cases e:aS m d with
 |false=>rw[e] at b;exact b.elim
 |true=>
 rw[e] at b;have i:(w.alloc (.map #[] 0)).heap[w.heap.size]?=some (.map #[] 0):=(by show(w.heap.push _)[w.heap.size]?=_;rw[Array.getElem?_push,ak rfl]);refine⟨.map (some w.heap.size),w.alloc (.map #[] 0),I,λ_=>[.map (some w.heap.size)],λ_=>[w.heap.size],.ref c [],[(c,⟨.mp d,some ([],0)⟩)],?_,.alloc w _,λ_ b=>b,λ_ b=>.inl b,.one g (aD.Gc (eS.empty _ _ i)) ab (λn e=>?_),?_,b⟩
 ·simp[execOp,l,Instr.makeMap,newObj,Sem.run]
 ·simp only[fe] at e;subst e;exact⟨aZ _,ab,λb=>by have:=f.ib _ (.inl b);omega⟩
 have k:ai ([(c,(⟨.mp d,some ([],0)⟩:ay))]++st.h) c=some ⟨.mp d,some ([],0)⟩:=(by rw[List.singleton_append,bv,ak rfl]);refine .ref (t:=⟨.mp d,some ([],0)⟩) (τ':=.mp d) (loc:=none) (cs:=[.map (some w.heap.size)]) k ?_;have:de [(c,(⟨.mp d,some ([],0)⟩:ay))] (λ_=>[Value.map (some w.heap.size)]) rt c=[.map (some w.heap.size)]:=(by simp[de,bv]);rw[this];exact aF.here
def yD (a:ae) (c:Option (List (Int×a.den)×Nat)) (d:a.den) (b:Int):Bool->ah
 |true=>.dh [.val a ((hE c b).getD d),.val .bool (hE c b).isSome]
 |false=>.val a ((hE c b).getD d)
def q3 (tt:List (TypeId×ae)) (j:List (Nat×ay)) (i:TypeId) (k c:ah) (f:Bool):fB:=
 match im tt i,c with
 |some h,.val (.int .i64) c=>match k with
  |.val (.di l a) b=>match jj a with
   |some d=>bif aS h a then .da (yD a b d c f) [] else .bad
   |none=>.bad
  |.ref id g=>match ai j id with
   |some e=>match dp e.1 g with
    |some (.mp a)=>match jj a with
     |some d=>bif aS h a then .part (Option (List (Int×a.den)×Nat)) (λb=>bH e.1 e.2 g (.mp a) b) (λb=>(yD a b d c f,[])) else .bad
     |none=>.bad
    |_=>.bad
   |none=>.bad
  |_=>.bad
 |_,_=>.bad
def FM {l k:TypeId} (s:E.P.underlying l=some (.map H k)) (f:E.P.underlying H=some (.int .i64)) (R:dn E.P d k) {J:Operand} {e:Bool} (U:o.op=.lookup l b J e) {n:Int} (T:a.eval J=.int .i64 n) {v:d.den} (W:jj d=some v) {m:Option (List (Int×d.den)×Nat)} (g:(m=none/\a.eval b=.map none)\/∃p t q z y,m=some (t,q)/\a.eval b=.map (some p)/\eS (aY I C.B) w d p t q z y):∃u,(execOp a.eval o).run E.P w=.ok (.value u) w/\∀A:List (Nat×ay),bk (aY I C.B) w A rt fp (yD d m v n e) u:=by
 obtain⟨G,x,ao,Y,K,L⟩:=rz R W;have F:(zeroValue k).run E.P w=.ok x w:=(by simp[zeroValue,typeInfo,ao,Y]);have X:∃i,aD (aY I C.B) w d i ((hE m n).getD v) []/\(Instr.lookup l (a.eval b) (.int .i64 n) e).run E.P w=.ok (if e then .tuple #[bn d i,.bool (hE m n).isSome] else bn d i) w:=by
  rcases g with⟨rfl,g⟩|⟨p,t,q,z,y,rfl,g,r⟩
  ·refine⟨x.cells.toList,by simpa[hE] using L _ _,?_⟩;rw[g];have S:(Instr.findKey H (.int .i64 n) []).run E.P w=.ok none w:=Cx f rfl;simp only[Instr.lookup,Sem.run_bind,run_underlying s,Result.andThen_ok,Sem.run_pure,li f,S,F];rw[<-K];cases e<;>rfl
  rw[g];rcases r.find (P:=E.P) f n with⟨c,_,N⟩|⟨an,ap,av,M,c,_,ad,am,O,Q⟩
  ·refine⟨x.cells.toList,by simpa[hE,c] using L _ _,?_⟩;simp only[Instr.lookup,Sem.run_bind,run_underlying s,Result.andThen_ok,Sem.run_pure,run_getObj_map r.h,li f,N,F];rw[<-K];simp only[hE,aP,c,Option.isSome_none]
  refine⟨M,by simpa[hE,c] using O,?_⟩;simp only[Instr.lookup,Sem.run_bind,run_underlying s,Result.andThen_ok,Sem.run_pure,run_getObj_map r.h,li f,Q];simp only[hE,aP,c,wk]
 obtain⟨i,D,V⟩:=X;refine⟨_,by simp only[execOp,U,T,Sem.run_bind,V];rfl,λA=>?_⟩;cases e with
 |false=>exact .val D
 |true=>
  refine .dh ab (λG Z u c j=>?_)
  match G with
  |0=>simp at c j;subst c;subst j;exact .val D
  |1=>simp at c j;subst c;subst j;exact .bool _
  |n+2=>simp at c
def aD.BF {e:Option (List (Int×d.den)×Nat)} (j:aD f w (.mp d) i e n):(e=none/\i=[.map none]/\n=[])\/∃a c b h g,e=some (c,b)/\i=[.map (some a)]/\n=[a]/\eS f w d a c b h g:=by
 cases e with
 |none=>exact .inl ⟨rfl,j.2,j.1⟩
 |some o=>
  obtain⟨c,b⟩:=o;obtain⟨a,h,g,k,l,m⟩:=j.kG;exact .inr ⟨a,c,b,h,g,rfl,k,l,m⟩
def aD.IX {m:bI} {e:Option (List (Int×d.den)×Nat)} (j:aD f w (.di m d) i e n):(e=none/\i=[.map none])\/∃a c b h g,e=some (c,b)/\i=[.map (some a)]/\eS f w d a c b h g:=by
 cases e with
 |none=>exact .inl ⟨rfl,j.2⟩
 |some o=>
  obtain⟨c,b⟩:=o;obtain⟨a,h,g,k,_,_,l⟩:=j.Tt;exact .inr ⟨a,c,b,h,g,rfl,k,l⟩
def NY (s:bg C st a.tmps w I rt fp) {j:Operand} {J:Bool} (D:o.op=.lookup H b j J) (c:(q3 E.tt st.h H (aE st.g b) (aE st.g j) J).K Q):Yields E C st a w I rt fp o Q:=by
 have f:=s.aE b;have t:=s.aE j;unfold q3 at c;split at c
 case h_2=>exact c.elim
 rename_i O a3 R P;obtain⟨am,an,L,M,N⟩:=im.ok R;rw[P] at t;generalize B:a.eval j=a0 at t;cases t with|val W=>
 obtain⟨_,rfl⟩:=W;split at c
 ·rename_i ad A x r;split at c
  case h_2=>exact c.elim
  rename_i Z u;cases e:aS O A with
  |false=>rw[e] at c;exact c.elim
  |true=>
  rw[e] at c;rw[r] at f;generalize i:a.eval b=Y at f;cases f with|val V=>
  obtain⟨X,y,z⟩:=FM (rt:=rt) (fp:=fp) (I:=I) (C:=C) (E:=E) (w:=w) (a:=a) (m:=x) L M (N.lay e) D B u (by
   rcases V.IX with⟨aj,d⟩|⟨l,v,n,q,k,aj,d,p⟩
   ·exact .inl ⟨aj,by rw[i,d];rfl⟩
   exact .inr ⟨l,v,n,q,k,aj,by rw[i,d];rfl,p⟩)
  exact .pure y (z _) c
 ·rename_i id a4 r;split at c
  case h_2=>exact c.elim
  rename_i bl F;split at c
  case h_2=>exact c.elim
  rename_i A av;split at c
  case h_2=>exact c.elim
  rename_i Z u;cases e:aS O A with
  |false=>rw[e] at c;exact c.elim
  |true=>
  rw[e] at c;obtain⟨x,S,c⟩:=c;rw[r] at f;generalize i:a.eval b=Y at f;cases f with|ref G T=>
  rw[F] at G;cases G;obtain⟨rfl,ap,U,_⟩:=s.ig F S T;obtain⟨X,y,z⟩:=FM (rt:=rt) (fp:=fp) (I:=I) (C:=C) (E:=E) (w:=w) (a:=a) (m:=x) L M (N.lay e) D B u (by
   rcases U.BF with⟨aj,d,_⟩|⟨l,v,n,q,k,aj,d,_,p⟩
   ·exact .inl ⟨aj,by rw[i,d];rfl⟩
   exact .inr ⟨l,v,n,q,k,aj,by rw[i,d];rfl,p⟩)
  exact .pure y (z _) c
 exact c.elim
def q7 (tt:List (TypeId×ae)) (f:List (Nat×ay)) (e:TypeId) (g:ah):fB:=
 match im tt e with
 |none=>.bad
 |some _=>match g with
  |.val (.di _ b) a=>.da (.val (.int .i64) (sL (α:=b.den) a)) []
  |.ref id d=>match ai f id with
   |some c=>match dp c.1 d with
    |some (.mp b)=>.part (Option (List (Int×b.den)×Nat)) (λa=>bH c.1 c.2 d (.mp b) a) (λa=>(.val (.int .i64) (sL a),[]))
    |_=>.bad
   |none=>.bad
  |_=>.bad
def F8 {q r:TypeId} (l:E.P.underlying H=some (.map q r)) (p:o.op=.call {callee:=.builtin .len,args:=#[b],argTypes:=#[H]}) {m:Option (List (Int×d.den)×Nat)} (c:(m=none/\a.eval b=.map none)\/∃f e g i k,m=some (e,g)/\a.eval b=.map (some f)/\eS (aY I C.B) w d f e g i k):(execOp a.eval o).run E.P w=.ok (.value (.int .i64 (sL m))) w:=by
 rcases c with⟨rfl,c⟩|⟨f,e,g,i,k,rfl,c,j⟩
 ·simp[execOp,p,resolve,invoke,builtin,c,Builtin.len_,run_underlying l,goInt,sL]
 have s:i.size=e.length:=(by rw[j.n,j.l4.len]);simp only[execOp,p,resolve,invoke,builtin,Sem.run_bind,Sem.run_pure,Result.andThen_ok,tF,eG,List.map_nil,c,Builtin.len_,List.getElem?_toArray,iC,run_underlying l,run_getObj_map j.h,goInt,sL,s]
def Ow (s:bg C st a.tmps w I rt fp) (t:o.op=.call {callee:=.builtin .len,args:=#[b],argTypes:=#[H]}) (c:(q7 E.tt st.h H (aE st.g b)).K Q):Yields E C st a w I rt fp o Q:=by
 have e:=s.aE b;unfold q7 at c;split at c
 ·exact c.elim
 rename_i S y;obtain⟨J,L,x,P,R⟩:=im.ok y;generalize f:a.eval b=T at e;split at c
 ·rename_i G F r p;rw[p] at e;cases e with|val D=>
  refine .pure (F8 (I:=I) (C:=C) (m:=r) x t ?_) (.int _ _) c;rcases D.IX with⟨aj,d⟩|⟨j,q,k,n,i,aj,d,l⟩
  ·exact .inl ⟨aj,by rw[f,d];rfl⟩
  exact .inr ⟨j,q,k,n,i,aj,by rw[f,d];rfl,l⟩
 ·rename_i id O p;split at c
  case h_2=>exact c.elim
  rename_i U u;split at c
  case h_2=>exact c.elim
  rename_i F N;obtain⟨r,z,c⟩:=c;rw[p] at e;cases e with|ref v A=>
  rw[u] at v;cases v;obtain⟨rfl,M,B,_⟩:=s.ig u z A;refine .pure (F8 (I:=I) (C:=C) (m:=r) x t ?_) (.int _ _) c;rcases B.BF with⟨aj,d,_⟩|⟨j,q,k,n,i,aj,d,_,l⟩
  ·exact .inl ⟨aj,by rw[f,d];rfl⟩
  exact .inr ⟨j,q,k,n,i,aj,by rw[f,d];rfl,l⟩
 exact c.elim
end
end
section
section
variable {E:dA} {C:c8} {st:aA} {a:Act} {w:World} {I:Nat->Prop} {rt:Nat->cJ} {fp:Nat->cP} {o:Oper} {Q:ah->List (Nat×ay)->Prop}
def y0 (b c d:ah):fB:=
 match b with
 |.val .bool b=>.part Bool (λa=>b=a) (λa=>(match a with|true=>c|false=>d,[]))
 |_=>.bad
def Q5 (e:bg C st a.tmps w I rt fp) {d:Operand} (j:o.op=.pick b h d) (c:(y0 (aE st.g b) (aE st.g h) (aE st.g d)).K Q):Yields E C st a w I rt fp o Q:=by
 have f:=e.aE b;unfold y0 at c;split at c
 case h_2=>exact c.elim
 rename_i i l;obtain⟨i,rfl,c⟩:=c;rw[l] at f;generalize k:a.eval b=n at f;cases f with|val m=>
 obtain⟨_,rfl⟩:=m;cases i
 ·exact .pure (v:=a.eval d) (by simp[execOp,j,k,bn,asBool]) (e.aE d) c
 exact .pure (v:=a.eval h) (by simp[execOp,j,k,bn,asBool]) (e.aE h) c
def CP (e:UnOp) (c:ah):fB:=
 match e,c with
 |.neg,.val (.int a) c=>.part Int (λb=>a.wrap (0-c)=b) (λb=>(.val (.int a) b,[]))
 |.xor,.val (.int a) c=>.part Int (λb=>a.wrap (BitVec.ofInt a.bits (if a.signed then-1 else a.max)^^^BitVec.ofInt a.bits c).toNat=b) (λb=>(.val (.int a) b,[]))
 |.not,.val .bool d=>.da (.val .bool (!d)) []
 |_,_=>.bad
def Tb (l:bg C st a.tmps w I rt fp) {k:UnOp} (i:o.op=.unOp k H b) (c:(CP k (aE st.g b)).K Q):Yields E C st a w I rt fp o Q:=by
 have d:=l.aE b;unfold CP at c;generalize j:a.eval b=p at d;split at c
 ·rename_i f m e;obtain⟨n,rfl,c⟩:=c;rw[e] at d;cases d with|val h=>
  obtain⟨_,rfl⟩:=h;exact .pure (v:=.int f _) (by simp only[execOp,i,j,bn,Op.unary,Op.intArith];rfl) (.int f _) c
 ·rename_i f m e;obtain⟨n,rfl,c⟩:=c;rw[e] at d;cases d with|val h=>
  obtain⟨_,rfl⟩:=h;exact .pure (v:=.int f _) (by simp only[execOp,i,j,bn,Op.unary,Op.intBits];rfl) (.int f _) c
 ·rename_i q e;rw[e] at d;cases d with|val h=>
  obtain⟨_,rfl⟩:=h;exact .pure (v:=.bool _) (by simp only[execOp,i,j,bn,Op.unary];rfl) (.bool _) c
 exact c.elim
def wL (tt:List (TypeId×ae)) (e d:TypeId) (a:ah):fB:=
 match ai tt e,ai tt d,a with
 |some (.int _),some (.int c),.val (.int _) a=>.part Int (λb=>c.wrap a=b) (λb=>(.val (.int c) b,[]))
 |_,_,_=>.bad
def Lb (k:bg C st a.tmps w I rt fp) {e:TypeId} (l:o.op=.convert e H b) (c:(wL E.tt e H (aE st.g b)).K Q):Yields E C st a w I rt fp o Q:=by
 have d:=k.aE b;unfold wL at c;split at c
 case h_2=>exact c.elim
 rename_i s f t u i j h;obtain⟨x,rfl,c⟩:=c;generalize m:a.eval b=r at d;rw[h] at d;cases d with|val n=>
 obtain⟨_,rfl⟩:=n;obtain⟨_,_,_,_,_,p⟩:=E.ok e _ i;obtain⟨_,_,_,_,_,q⟩:=E.ok H _ j;exact .pure (v:=.int f _) (by simp[execOp,l,m,bn,convert,run_underlying p,run_underlying q,Conv.intToInt]) (.int f _) c
def ng (c:ByteArray) (a:Int):cK:=if 0<=a then(c[a.toNat]?).map λb=>(b.toNat:Int) else none
def yB:ByteArray:=⟨#[0,1,2,2,3,3,3,3,4,4,4,4,4,4,4,4,5,5,5,5,5,5,5,5,5,5,5,5,5,5,5,5,6,6,6,6,6,6,6,6,6,6,6,6,6,6,6,6,6,6,6,6,6,6,6,6,6,6,6,6,6,6,6,6,7,7,7,7,7,7,7,7,7,7,7,7,7,7,7,7,7,7,7,7,7,7,7,7,7,7,7,7,7,7,7,7,7,7,7,7,7,7,7,7,7,7,7,7,7,7,7,7,7,7,7,7,7,7,7,7,7,7,7,7,7,7,7,7,8,8,8,8,8,8,8,8,8,8,8,8,8,8,8,8,8,8,8,8,8,8,8,8,8,8,8,8,8,8,8,8,8,8,8,8,8,8,8,8,8,8,8,8,8,8,8,8,8,8,8,8,8,8,8,8,8,8,8,8,8,8,8,8,8,8,8,8,8,8,8,8,8,8,8,8,8,8,8,8,8,8,8,8,8,8,8,8,8,8,8,8,8,8,8,8,8,8,8,8,8,8,8,8,8,8,8,8,8,8,8,8,8,8,8,8,8,8,8,8,8,8,8,8,8,8,8,8]⟩
def zn (tt:List (TypeId×ae)) (d:TypeId) (f e:ah):fB:=
 match ai tt d,f,e with
 |some .str,.bu (.string c),.val (.int _) b=>.part Int (λa=>ng c b=some a) (λa=>(.val (.int .u8) a,[]))
 |some .str,.val .str c,.val (.int _) b=>.part Int (λa=>ng c b=some a) (λa=>(.val (.int .u8) a,[]))
 |_,_,_=>.bad
def SL (y:bg C st a.tmps w I rt fp) (D:o.op=.index H h b) (n:(zn E.tt H (aE st.g h) (aE st.g b)).K Q):Yields E C st a w I rt fp o Q:=by
 have j:=y.aE h;have i:=y.aE b;have x:∀(f:ByteArray) (k:IntKind) (e c:Int),ai E.tt H=some .str->a.eval h=.string f->a.eval b=.int k e->ng f e=some c->Q (.val (.int .u8) c) []->Yields E C st a w I rt fp o Q:=by
  intro f k e c p m l d q;obtain⟨_,_,_,_,_,u⟩:=E.ok H _ p;refine .pure (v:=.int .u8 c) ?_ (.int .u8 c) q;unfold ng at d;split at d
  case isFalse=>cases d
  rename_i A;obtain⟨G,B,rfl⟩:=dE.1 d;simp[execOp,D,Instr.index,m,l,asIntOf,run_underlying u,A,B]
 unfold zn at n;split at n
 ·rename_i f k e p m l;obtain⟨c,d,q⟩:=n;rw[m] at j;rw[l] at i;generalize s:a.eval h=z at j;generalize r:a.eval b=u at i;cases j;cases i with|val t=>
  obtain⟨_,rfl⟩:=t;exact x f k e c p s r d q
 ·rename_i f k e p m l;obtain⟨c,d,q⟩:=n;rw[m] at j;rw[l] at i;generalize s:a.eval h=z at j;generalize r:a.eval b=u at i;cases j with|val F=>
  obtain⟨_,rfl⟩:=F;cases i with|val t=>
  obtain⟨_,rfl⟩:=t;exact x f k e c p s r d q
 exact n.elim
def yh (d:ah) (c:Nat):fB:=
 match d with
 |.dh b=>match b[c]? with
  |some a=>.da a []
  |none=>.bad
 |_=>.bad
def Mm (k:bg C st a.tmps w I rt fp) (n:o.op=.extract b c) (d:(yh (aE st.g b) c).K Q):Yields E C st a w I rt fp o Q:=by
 have f:=k.aE b;unfold yh at d;generalize p:a.eval b=q at f;split at d
 case h_2=>exact d.elim
 rename_i s j;split at d
 case h_2=>exact d.elim
 rename_i i h;rw[j] at f;cases f with|dh r l=>
 rename_i e;have m:c<e.size:=(by have:=(ej.1 h).1;omega);have:e[c]?=some e[c]:=tq m;exact .pure (v:=e[c]) (by simp[execOp,n,p,Instr.extract,this]) (l c i _ h this) d
def sQ (c:Bool) (a:ah):List ah->fB
 |[]=>.da a []
 |y::d=>match a,y with
  |.val (.int b) a,.val (.int e) y=>if b=e then(match c with|true=>sQ c (.val (.int b) (if y>a then y else a)) d|false=>sQ c (.val (.int b) (if y<a then y else a)) d) else .bad
  |_,_=>.bad
def yL (j:bg C st a.tmps w I rt fp) (m:Bool):∀(e:List Operand) (i:ah) (f:Value),bk (aY I C.B) w st.h rt fp i f->(sQ m i (e.map (aE st.g))).K Q->∃d c,((e.map a.eval).foldlM (match m with|true=>Builtin.max2|false=>Builtin.min2) f).run E.P w=.ok d w/\bk (aY I C.B) w st.h rt fp c d/\Q c []
 |[],i,f,k,b=>⟨f,i,rfl,k,b⟩
 |y::e,i,f,k,b=>by
  have l:=j.aE y;simp only[eG,sQ] at b;generalize p:a.eval y=A at l;split at b
  case h_2=>exact b.elim
  rename_i q x v z r;split at b
  case isFalse=>exact b.elim
  rename_i s;subst s;rw[r] at l;cases k with|val t=>cases l with|val u=>
  obtain⟨_,rfl⟩:=t;obtain⟨_,rfl⟩:=u;cases m
  ·obtain⟨d,c,ao,n,o⟩:=yL j false e _ _ (.int q _) b;refine⟨d,c,?_,n,o⟩;simp only[eG,List.foldlM_cons,p,Sem.run_bind];exact ao
  obtain⟨d,c,ao,n,o⟩:=yL j true e _ _ (.int q _) b;refine⟨d,c,?_,n,o⟩;simp only[eG,List.foldlM_cons,p,Sem.run_bind];exact ao
def Bc:ah->Bool
 |.val _ _|.bu _|.bY _ _=>true
 |_=>false
def eD (tt:List (TypeId×ae)) (i:List (Nat×ae)) (d:List (Nat×ay)) (b:Operand->ah) (g:Nat) (h:Op):fB:=
 match h with
 |.move a=>.da (b a) []
 |.assign a=>bif Bc (b a) then .da (b a) [] else .bad
 |.pick f a n=>y0 (b f) (b a) (b n)
 |.alloc c=>rT tt i d g c
 |.box c a=>ua tt d g c (b a)
 |.build c l=>tZ tt b c l.toList
 |.buildSlice c e l=>r1 tt i d b g c e l.toList
 |.load c a=>q2 tt d c (b a)
 |.nilCheck a=>ra d (b a)
 |.binOp h c a n _=>match b a,b n with
  |.val .bool x,.val .bool y=>match ai tt c with
   |some .bool=>z1 h (.val .bool x) (.val .bool y)
   |_=>.bad
  |.val (.int k) v,.val (.int s) e=>i6 h k v s e
  |_,_=>.bad
 |.unOp h _ a=>CP h (b a)
 |.convert z g a=>wL tt z g (b a)
 |.makeSlice c t f=>q5 tt i d g c (b t) (b f)
 |.slice c a u r none=>rm tt d c (b a) (u.map b) (r.map b)
 |.fieldAddr c a e=>qR tt d c (b a) e
 |.field c a e=>sy tt d c (b a) e
 |.indexAddr c a j=>qW tt d c (b a) (b j)
 |.index c a j=>zn tt c (b a) (b j)
 |.extract a e=>yh (b a) e
 |.call f=>match f.callee,f.args.toList,f.argTypes.toList with
  |.builtin .len,[a],[c]=>match ey tt c with
   |some _=>q1 tt d c (b a)
   |none=>q7 tt d c (b a)
  |.builtin .max,a::m,_=>sQ true (b a) (m.map b)
  |.builtin .min,a::m,_=>sQ false (b a) (m.map b)
  |_,_,_=>.bad
 |.makeMap c none=>sP tt i d g c
 |.lookup c a k w=>q3 tt d c (b a) (b k) w
 |.makeFunc (.func p) q o=>bif q.isEmpty then .da (.bY p (o.toList.map b)) [] else .bad
 |_=>.bad
theorem LY (e:bg C st a.tmps w I rt fp) (d:(eD E.tt j st.h (aE st.g) c o.op).K Q):Yields E C st a w I rt fp o Q:=by
 unfold eD at d;split at d
 ·rename_i f b;exact .pure (v:=a.eval f) (by simp[execOp,b]) (e.aE f) d
 ·rename_i f b;cases B:Bc (aE st.g f) with
  |false=>rw[B] at d;exact d.elim
  |true=>rw[B] at d;exact .pure (v:=a.eval f) (by simp[execOp,b]) (e.aE f) d
 ·rename_i b;exact Q5 e b d
 ·rename_i b;exact J0 e b d
 ·rename_i b;exact KA e b d
 ·rename_i b;exact Kx e b d
 ·rename_i b;exact KE e b d
 ·rename_i b;exact NV e b d
 ·rename_i b;exact OM e b d
 ·rename_i X n f u Y b;split at d
  ·rename_i P R m p;split at d
   ·rename_i M;refine DY e b (λ_ _ _ _=>?_) (by rw[m,p];exact d);exact(E.ok n _ M).choose_spec.2.2.2.2
   exact d.elim
  ·rename_i m p;refine DY e b (λP R _ D=>?_) (by rw[m,p];exact d);rw[m] at D;cases D.1
  exact d.elim
 ·rename_i b;exact Tb e b d
 ·rename_i b;exact Lb e b d
 ·rename_i b;exact Oa e b d
 ·rename_i b;exact Sq e b d
 ·rename_i b;exact Mx e b d
 ·rename_i b;exact Mz e b d
 ·rename_i b;exact Nc e b d
 ·rename_i b;exact SL e b d
 ·rename_i b;exact Mm e b d
 ·rename_i G b;obtain⟨U,i,x⟩:=G;simp only at d;split at d
  ·rename_i f n aj V;have k:i=#[f]:=(by cases i;simp_all);have J:x=#[n]:=(by cases x;simp_all);subst k;subst J;split at d
   ·exact NP e b d
   exact Ow e b d
  ·rename_i f l aj;have k:i=(f::l).toArray:=(by cases i;simp_all);obtain⟨t,F,ao,r,s⟩:=yL (E:=E) e true l _ _ (e.aE f) d;refine .pure (v:=t) ?_ r s;simp only[execOp,b,resolve,invoke,builtin,Sem.run_bind,Sem.run_pure,Result.andThen_ok,k,Builtin.max_];simp only[tF,eG,ao];rfl
  ·rename_i f l aj;have k:i=(f::l).toArray:=(by cases i;simp_all);obtain⟨t,F,ao,r,s⟩:=yL (E:=E) e false l _ _ (e.aE f) d;refine .pure (v:=t) ?_ r s;simp only[execOp,b,resolve,invoke,builtin,Sem.run_bind,Sem.run_pure,Result.andThen_ok,k,Builtin.min_];simp only[tF,eG,ao];rfl
  exact d.elim
 ·rename_i b;exact Ou e b d
 ·rename_i b;exact NY e b d
 ·rename_i L y H b;cases q:y.isEmpty with
  |false=>rw[q] at d;exact d.elim
  |true=>
   rw[q] at d;obtain rfl:y=#[]:=(by simpa using q);refine .pure (v:=.func (.func L) #[] (H.map a.eval)) (by simp[execOp,b,Instr.makeFunc]) (.bY ab (λW f T z A=>?_)) d;rw[gq] at z;rw[Array.getElem?_map] at A;obtain⟨u,N,rfl⟩:=dE.1 z;obtain⟨S,O,rfl⟩:=dE.1 A;obtain rfl:u=S:=(by simpa[O] using N.symm);exact e.aE u
 exact d.elim
end
end
def bU (b:Nat) (a:cP):Bool:=a.any λc=>Nat.beq c b
theorem eN:bU c n=true↔c∈n:=by
 simp only[bU,mA];constructor
 ·rintro⟨d,b,a⟩;rw[<-dU a];exact b
 exactλa=>⟨c,a,oM c⟩
def ah.dB (a:cP) (b:ah):Bool:=b.ids.any λc=>bU c a
def rl:List aM->Option (List aM)
 |.unst::a=>(rl a).map λb=>.unst::b
 |.fst::_=>some [.snd]
 |.snd::_=>some [.fst]
 |_=>none
def oo:List aM->List aM->Option (List aM)
 |p,[]=>rl p
 |.idx _::p,.idx _::a=>oo p a
 |.deref::p,.deref::a=>oo p a
 |.unst::p,.unst::a=>oo p a
 |.fst::p,.fst::a=>oo p a
 |.snd::p,.snd::a=>oo p a
 |_,_=>none
def Bf (a b:List aM):Bool:=eM a b||(oo a b).isSome
def Ih:∀{p b:List aM},rl p=some b->eM p b=true
 |.unst::p,b,a=>by obtain⟨d,c,rfl⟩:=dE.1 a;exact Ih (p:=p) c
 |.fst::_,_,a=>by cases a;rfl
 |.snd::_,_,a=>by cases a;rfl
 |[],_,a=>by cases a
 |.idx _::_,_,a=>by cases a
 |.deref::_,_,a=>by cases a
def Ig:∀{q p b:List aM},oo p q=some b->eM p (q++b)=true
 |[],p,b,a=>by have c:rl p=some b:=(by cases p<;>exact a);exact Ih c
 |s::q,p,b,a=>by
  cases p with
  |nil=>cases s<;>cases a
  |cons d p=>cases s<;>cases d<;>first|(cases a;done)|exact Ig (q:=q) (p:=p) a
def Ii:∀{p e:List aM} {τ h:ae},dp τ p=some h->rl p=some e->∃(o:ae) (m:Nat),∀(i:World) (b:Loc) (g:cJ),∃k,aF i τ b g e o (b.map λd=>(d.1,d.2+m)) k
 |.unst::p,e,τ,h,c,a=>by
  obtain⟨q,l,rfl⟩:=dE.1 a;cases τ with
  |st n=>exact Ii (p:=p) (τ:=n) c l
  |_=>cases c
 |.fst::p,e,τ,h,c,a=>by
  cases a;cases τ with
  |pr f j=>exact⟨j,f.size,λi b g=>⟨_,aF.here⟩⟩
  |_=>cases c
 |.snd::p,e,τ,h,c,a=>by
  cases a;cases τ with
  |pr f j=>
   refine⟨f,0,λi b g=>⟨g.take f.size,?_⟩⟩;have:(b.map λd=>(d.1,d.2+0))=b:=(by cases b<;>rfl);rw[this];exact aF.here
  |_=>cases c
 |[],_,_,_,_,a=>by cases a
 |.idx _::_,_,_,_,_,a=>by cases a
 |.deref::_,_,_,_,_,a=>by cases a
def te {o:World}:∀{q p d:List aM} {e f:ae} {j:Loc} {i:cJ} {g:ae} {k:Loc} {h:cJ},dp e p=some f->oo p q=some d->aF o e j i q g k h->∃l,dp g l=some f/\rl l=some d
 |[],p,d,e,f,j,i,g,k,h,c,b,a=>by obtain⟨rfl,_,_⟩:=aF.ei.1 a;have m:rl p=some d:=(by cases p<;>exact b);exact⟨p,c,m⟩
 |s::q,p,d,e,f,j,i,g,k,h,c,b,a=>by
  cases p with
  |nil=>cases s<;>cases b
  |cons n p=>
   cases e<;>cases s<;>simp only[aF] at a<;>cases n<;>first|(cases b;done)|skip
   case osl.idx.idx=>obtain⟨_,_,_,_,_,_,_,_,_,a⟩:=a;exact te (q:=q) (p:=p) c b a
   case optr.deref.deref=>obtain⟨_,_,_,_,_,_,a⟩:=a;exact te (q:=q) (p:=p) c b a
   case st.unst.unst=>exact te (q:=q) (p:=p) c b a
   case pr.fst.fst=>exact te (q:=q) (p:=p) c b a
   case pr.snd.snd=>exact te (q:=q) (p:=p) c b a
def aF.split {u:World}:∀{q j:List aM} {d k:ae} {g i:Loc} {f h:cJ},aF u d g f (q++j) k i h->∃e c b,aF u d g f q e c b/\aF u e c b j k i h
 |[],j,d,k,g,i,f,h,a=>⟨d,g,f,aF.here,a⟩
 |s::q,j,d,k,g,i,f,h,a=>by
  rw[iA] at a;cases d<;>cases s<;>simp only[aF] at a
  case osl.idx=>
   obtain⟨l,t,x,v,m,aj,n,o,w,a⟩:=a;obtain⟨e,c,b,p,r⟩:=aF.split (q:=q) a;exact⟨e,c,b,⟨l,t,x,v,m,aj,n,o,w,p⟩,r⟩
  case optr.deref=>
   obtain⟨l,t,m,aj,n,o,a⟩:=a;obtain⟨e,c,b,p,r⟩:=aF.split (q:=q) a;exact⟨e,c,b,⟨l,t,m,aj,n,o,p⟩,r⟩
  case st.unst=>exact aF.split (q:=q) a
  case pr.fst=>exact aF.split (q:=q) a
  case pr.snd=>exact aF.split (q:=q) a
def aF.upper {f D:List aM} (B:dp d f=some R) (n:oo f m=some D) (b:aF e d none A m o (some (c,g)) i) (z:∀(m:List aM) (o:ae) (q:Loc) (i:cJ),eM f m=true->aF e d none A m o q i->aF k d none A m o q i):∃s,aF k d none A m o (some (c,g)) s:=by
 obtain⟨J,u,v⟩:=te B n b;obtain⟨L,I,l⟩:=Ii u v;obtain⟨F,w⟩:=l e (some (c,g)) i;obtain⟨K,p,h,j,x⟩:=aF.split (z _ _ _ _ (Ig n) (b.append w));have aj:=j.ty;rw[b.ty] at aj;obtain rfl:=dF aj;obtain⟨G,y⟩:=l k p h;obtain⟨_,a,_⟩:=x.hl y;cases p with
 |none=>cases a
 |some E=>
  obtain⟨r,C⟩:=E;simp only[hj,bw,e6] at a;obtain⟨t,H⟩:=a;obtain rfl:c=r:=t;obtain rfl:g=C:=U;exact⟨h,j⟩
def iK (c:List (Nat×List aM)):ah->Bool
 |.ref id []=>c.any λa=>Nat.beq a.1 id
 |.ref id b=>c.any λa=>Nat.beq a.1 id&&eM a.2 b
 |.addr id b=>c.any λa=>Nat.beq a.1 id&&Bf a.2 b
 |.view id b _ _=>c.any λa=>Nat.beq a.1 id&&eM a.2 b
 |_=>false
def hn (c:cP) (b:List (Nat×List aM)):ah->Bool
 |.bY _ f=>f.all λa=>!(a.dB c)||iK b a
 |.app id h _ _ g=>(g.all λe=>!(bU e c))&&b.any λd=>Nat.beq d.1 id&&h5 d.2 h
 |a=>iK b a
def dj (b:cP) (c:List (Nat×List aM)) (a:ah):ah:=bif a.dB b&&!(hn b c a) then .dead else a
def dI (b:cP) (c:List (Nat×List aM)):ah->ah
 |.dh d=>.dh (d.map (dj b c))
 |a=>dj b c a
def kill (b:cP) (d:List (Nat×List aM)) (c:List (Nat×ah)):List (Nat×ah):=c.map λa=>(a.1,dI b d a.2)
def del (a:cP) (b:List (Nat×ay)):List (Nat×ay):=b.filter λc=>!(bU c.1 a)
def yv (a:List aM):eM [] a=false:=by cases a<;>simp[eM,l3]
def sE (b:cP):List (Nat×List aM):=b.map λa=>(a,[])
theorem n1 (c:cP) (e:List (Nat×List aM)):∀(d:List (Nat×ah)) (b:Nat),gt (kill c e d) b=dI c e (gt d b)
 |[],b=>by simp[kill,gt,ai,dI,dj,ah.dB,ah.ids]
 |(f,a)::d,b=>by
  show gt ((f,dI c e a)::kill c e d) b=_;rw[gy,gy];split
  ·rfl
  exact n1 c e d b
theorem j3 (b:cP):∀(d:List (Nat×ay)) (a:Nat),ai (del b d) a=if a∈b then none else ai d a
 |[],a=>by simp[del,ai]
 |(e,t)::d,a=>by
  have g:=j3 b d a;simp only[del] at g|-;rw[kV];cases f:bU e b with
  |true=>
   have:e∈b:=eN.1 f;simp only[kf,Bool.false_eq_true,if_false];rw[g,bv];by_cases c:e=a
   ·subst c;rw[ak this,ak this]
   rw[ag c]
  |false=>
   have:e∉b:=λd=>(by rw[eN.2 d] at f;cases f);simp only[ly,if_true];rw[bv,bv,g];by_cases c:e=a
   ·subst c;rw[ak rfl,ak rfl,ag this]
   rw[ag c,ag c]
def CR (a:L.dB n=false):∀id∈L.ids,id∉n:=λid c b=>by have:L.dB n=true:=(by simp only[ah.dB,mA];exact⟨id,c,eN.2 b⟩);rw[a] at this;cases this
structure kr (C:c8) (st:aA) (w w':World) (I I':Nat->Prop) (rt:Nat->cJ) (fp:Nat->cP) (S:cP) (FB:List (Nat×List aM)) (new:List (Nat×ay)) (rtn:Nat->cJ) (fpn:Nat->cP):Prop where
 size:w.heap.size<=w'.heap.size
 os:w'.os=w.os
 tape:w'.tape=w.tape
 output:w'.output=w.output
 heap:∀b,b<w.heap.size->(∀id∈S,∀t,ai st.h id=some t->b∉fp id)->w'.heap[b]?=w.heap[b]?
 evo:∀b,b<w.heap.size->hU w w' b
 i:∀b,I b->I' b
 i2:∀b,I' b->I b\/(b<w'.heap.size/\(w.heap.size<=b\/∃id∈S,∃t,ai st.h id=some t/\b∈fp id))
 tree:∀id t,ai new id=some t->(id∈S\/ai st.h id=none)/\aD (aY I' C.B) w' t.1 (rtn id) t.2 (fpn id)/\(fpn id).Nodup/\∀b∈fpn id,¬I' b/\b<w'.heap.size/\(w.heap.size<=b\/∃Fl∈S,∃t',ai st.h Fl=some t'/\b∈fp Fl)
 dis:∀i j t u,ai new i=some t->ai new j=some u->i≠j->∀b∈fpn i,b∉fpn j
 keep:∀e∈FB,∀t,ai st.h e.1=some t->∃t',ai new e.1=some t'/\t'.1=t.1/\rtn e.1=rt e.1/\(∃TK,dp t.1 e.2=some TK)/\∀(q:List aM) (I7:ae) (FSq:Loc) (Em:cJ),eM e.2 q=true->aF w t.1 none (rt e.1) q I7 FSq Em->aF w' t.1 none (rt e.1) q I7 FSq Em
 app:∀e∈FB,∀t,ai st.h e.1=some t->∀(q:List aM) (τ:ae) (xs:List τ.den) (loc:Loc) (ub:cJ) (f1:cP),h5 e.2 q=true->τ.hR=true->aF w t.1 none (rt e.1) q (.osl τ) loc ub->bH t.1 t.2 q (.osl τ) xs->aD (aY I C.B) w (.osl τ) ub xs f1->∃t',ai new e.1=some t'/\bH t'.1 t'.2 q (.osl τ) xs/\∀b∈f1,b∈fpn e.1/\br w w' b
def bg.e0 {d3:cH} {w':World} {I':Nat->Prop} {rtn:Nat->cJ} {fpn:Nat->cP} {S:cP} {keep:List (Nat×List aM)} {new:List (Nat×ay)} (j:bg I z d3 e l p q) (r:kr I z e w' l I' p q S keep new rtn fpn):bg I ⟨kill S keep z.g,new++del S z.h⟩ d3 w' I' (de new rtn p) (de new fpn q):=by
 have a0:∀ap a,aY l I.B ap a->aY I' I.B ap a/\br e w' a:=λap a b=>by
  refine⟨?_,.of_heap (r.heap a (j.ib a (kF b)) (λid _ d f f0=>j.notM f a f0 ap b))⟩;cases ap
  ·exact r.i a b
  exact b.imp (r.i a) id
 have cv:∀id d,ai (new++del S z.h) id=some d->(ai new id=some d/\de new rtn p id=rtn id/\de new fpn q id=fpn id)\/(ai new id=none/\id∉S/\ai z.h id=some d/\de new rtn p id=p id/\de new fpn q id=q id):=λid d f=>by
  rw[hQ,j3] at f;cases A:ai new id with
  |none=>
   rw[A] at f;simp only[Option.none_or] at f;split at f
   ·cases f
   rename_i E;exact .inr ⟨rfl,E,f,by simp[de,A],by simp[de,A]⟩
  |some r=>rw[A] at f;exact .inl ⟨by simpa using f,by simp[de,A],by simp[de,A]⟩
 have cs:∀id d,ai z.h id=some d->id∉S->∀a∈q id,br e w' a:=λid d f E a b=>.of_heap (r.heap a ((j.tree id d f).2.2 a b).2.2.1 (λM O u L F=>
  j.dis id M d u f L (λc=>E (by rw[c];exact O)) a b F))
 have fz:∀id d,ai z.h id=some d->id∉S->∀a∈q id,¬I' a:=λid d f E a b s=>by
  have m:=(j.tree id d f).2.2 a b;rcases r.i2 a s with s|⟨_,s|⟨M,O,u,L,F⟩⟩
  ·exact m.1 s
  ·omega
  exact j.dis id M d u f L (λc=>E (by rw[c];exact O)) a b F
 refine{n:=j.n,i0:=λa b=>r.i a (j.i0 a b),i1:=?_,ib:=?_,tree:=?_,dis:=?_,tmp:=?_,frame:=?_,evo:=λa b=>(j.evo a b).trans (r.evo a (fA b j.size)),size:=bj j.size r.size,os:=r.os.trans j.os,tape:=r.tape.trans j.tape,output:=r.output.trans j.output,pin:=j.pin}
 ·intro a b;rcases r.i2 a b with b|⟨_,b|⟨M,O,u,L,F⟩⟩
  ·exact j.i1 a b
  ·exact .inr (.inl (bj j.size b))
  exact .inr ((j.tree M u L).2.2 a F).2.2.2
 ·intro a b;rcases b with b|b
  ·rcases r.i2 a b with b|⟨b,_⟩
   ·exact fA (j.ib a (.inl b)) r.size
   exact b
  exact fA (j.ib a (.inr b)) r.size
 ·intro id d f;rcases cv id d f with⟨v,o,x⟩|⟨fp,E,v,o,x⟩
  ·obtain⟨_,ao,D,y⟩:=r.tree id d v;rw[o,x];refine⟨ao,D,λa b=>?_⟩;obtain⟨Z,ad,V⟩:=y a b;rcases V with V|⟨M,O,u,L,F⟩
   ·exact⟨Z,λft=>by have:=j.ib a (.inr ft);omega,ad,.inl (bj j.size V)⟩
   have m:=(j.tree M u L).2.2 a F;exact⟨Z,m.2.1,ad,m.2.2.2⟩
  obtain⟨ao,D,y⟩:=j.tree id d v;rw[o,x];refine⟨ao.mono a0 (cs id d v E),D,λa b=>?_⟩;obtain⟨Z,ad,V,aT⟩:=y a b;exact⟨fz id d v E a b,ad,fA V r.size,aT⟩
 ·intro k X d H s f2 el a b;rcases cv k d s with⟨v,_,x⟩|⟨fp,E,v,_,x⟩<;>rcases cv X H f2 with⟨Y,_,fa⟩|⟨gs,f5,Y,_,fa⟩<;>rw[x] at b<;>rw[fa]
  ·exact r.dis k X d H v Y el a b
  ·intro F;rcases((r.tree k d v).2.2.2 a b).2.2 with m|⟨M,O,u,L,co⟩
   ·have:=((j.tree X H Y).2.2 a F).2.2.1;omega
   exact j.dis X M H u Y L (λc=>f5 (by rw[c];exact O)) a F co
  ·intro F;rcases((r.tree X H Y).2.2.2 a F).2.2 with m|⟨M,O,u,L,co⟩
   ·have:=((j.tree k d v).2.2 a b).2.2.1;omega
   exact j.dis k M d u v L (λc=>E (by rw[c];exact O)) a b co
  exact j.dis k X d H v Y el a b
 ·intro a4;show bk _ _ _ _ _ (gt (kill S keep z.g) a4) _;rw[n1];have C:=j.tmp a4;generalize gt z.g a4=w at C;generalize d3.getD a4 undef=N at C;suffices d6:∀(w:ah) (N:Value),bk (aY l I.B) e z.h p q w N->bk (aY I' I.B) w' (new++del S z.h) (de new rtn p) (de new fpn q) (dj S keep w) N by
   cases w with
   |dh f6=>
    cases C with|dh ds A=>
    refine .dh (by simp[ds]) (λk av H v o=>?_);rw[gq] at v;obtain⟨d5,x,rfl⟩:=dE.1 v;exact d6 d5 H (A k d5 H x o)
   |_=>exact d6 _ _ C
  clear C;have ce:∀(w:ah) (N:Value),bk (aY l I.B) e z.h p q w N->w.dB S=false\/iK keep w=true->bk (aY I' I.B) w' (new++del S z.h) (de new rtn p) (de new fpn q) w N:=by
   intro w N C f4;cases a3:w.dB S with
   |false=>
    refine C.pB a0 (λid dl d f=>?_);have E:=CR a3 id dl;have W:ai new id=none:=by
     cases A:ai new id with
     |none=>rfl
     |some d4=>
      rcases(r.tree id d4 A).1 with m|m
      ·exact absurd m E
      rw[f] at m;cases m
    refine⟨by rw[hQ,W,j3,ag E];simpa using f,by simp[de,W],by simp[de,W],(j.tree id d f).1,cs id d f E⟩
   |true=>
    have P:iK keep w=true:=f4.resolve_left (by rw[a3];exactλj=>by cases j);have bl:∀(id:Nat) (d:ay),ai z.h id=some d->∀c∈keep,c.1=id->∃u,ai (new++del S z.h) id=some u/\u.1=d.1/\de new rtn p id=p id/\(∃gl,dp d.1 c.2=some gl)/\
     ∀(m:List aM) (fn:ae) (fb:Loc) (ci:cJ),eM c.2 m=true->aF e d.1 none (p id) m fn fb ci->aF w' d.1 none (p id) m fn fb ci:=by
     intro id d f c G dl;subst dl;obtain⟨u,ao,D,y,U,R⟩:=r.keep c G _ f;exact⟨u,by rw[hQ,ao];rfl,D,by simp[de,ao,y],U,R⟩
    have d7:∀(id:Nat) (m:List aM),(keep.any λc=>Nat.beq c.1 id&&eM c.2 m)=true->∃c∈keep,c.1=id/\eM c.2 m=true:=(by intro id m A;obtain⟨c,G,o⟩:=mA.1 A;simp only[a2] at o;exact⟨c,G,dU o.1,o.2⟩);cases w with
    |ref id T=>
     cases T with
     |nil=>
      obtain⟨c,G,o⟩:=mA.1 (show(keep.any λc=>Nat.beq c.1 id)=true from P);have o:=dU o;cases C with|ref f J=>
      obtain⟨rfl,rfl,rfl⟩:=aF.ei.1 J;obtain⟨u,ao,D,y,_⟩:=bl id _ f c G o;rw[<-D];refine .ref (loc:=none) ao ?_;rw[y];exact aF.here
     |cons ge T=>
      obtain⟨c,G,o,x⟩:=d7 id (ge::T) P;cases C with|ref f J=>
      obtain⟨u,ao,D,y,U,R⟩:=bl id _ f c G o;have K:=R _ _ _ _ x J;rw[<-y,<-D] at K;exact .ref ao K
    |addr id T=>
     obtain⟨c,G,o⟩:=mA.1 (show(keep.any λc=>Nat.beq c.1 id&&Bf c.2 T)=true from P);simp only[a2] at o;obtain⟨o,x⟩:=o;have o:=dU o;cases C with|addr f J=>
     obtain⟨u,ao,D,y,U,R⟩:=bl id _ f c G o;rcases Bool.or_eq_true_iff.1 x with x|x
     ·have K:=R _ _ _ _ x J;rw[<-y,<-D] at K;exact .addr ao K
     obtain⟨hi,Q⟩:=zH.1 x;obtain⟨_,U⟩:=U;obtain⟨ci,K⟩:=aF.upper U Q J R;rw[<-y,<-D] at K;exact .addr ao K
    |view id T hc s=>
     obtain⟨c,G,o,x⟩:=d7 id T P;cases C with|jg=>(exact .jg _ _)|view f J f7 f8 f9=>
     obtain⟨u,ao,D,y,U,R⟩:=bl id _ f c G o;have K:=R _ _ _ _ x J;rw[<-y,<-D] at K;exact .view ao K f7 f8 f9
    |_=>cases P
  intro w N C;unfold dj;cases a3:w.dB S with
  |false=>simp only[Bool.false_and,cond_false];exact ce w N C (.inl a3)
  |true=>
   cases P:hn S keep w with
   |false=>simp only[ly,Bool.and_self,cond_true];exact .dead _
   |true=>
    simp only[kf,Bool.and_false,cond_false];cases w with
    |bY go f6=>
     cases C with|bY ds A=>
     refine .bY ds (λk av H v o=>ce av H (A k av H v o) ?_);have:=et.1 P av (jU v);simpa using this
    |app id m gf hs d2=>
     cases C with|app f eq J f1 v gr o d1 ex f3=>
     have Q:((d2.all λk=>!(bU k S))&&keep.any λc=>Nat.beq c.1 id&&h5 c.2 m)=true:=P;rw[a2] at Q;obtain⟨am,Q⟩:=Q;have am:∀k∈d2,k∉S:=λk s d0=>(by have:=et.1 am k s;rw[eN.2 d0] at this;cases this);obtain⟨c,G,Q⟩:=mA.1 Q;simp only[a2] at Q;obtain⟨fT,d9⟩:=Q;obtain rfl:=dU fT;obtain⟨u,ao,D,y⟩:=r.app c G _ f m gf _ _ _ _ d9 eq J f1 v;obtain⟨hr,Z,ad,V,_,gc⟩:=r.keep c G _ f;rw[ao] at Z;obtain rfl:=dF Z;have W:∀k∈d2,ai new k=none:=λk s=>by
      cases A:ai new k with
      |none=>rfl
      |some d4=>
       obtain⟨_,bs,an⟩:=d1 k s;rcases(r.tree k d4 A).1 with m|m
       ·exact absurd m (am k s)
       rw[an] at m;cases m
     have d0:de new rtn p c.1=p c.1:=(by simp only[de,ao,V]);have em:=gc m _ _ _ (x2 d9) J;rw[<-ad,<-d0] at em;refine .app (t:=u) (by rw[hQ,ao];rfl) eq em D (v.mono a0 (λa b=>(y a b).2)) (λa b=>by simp only[de,ao];exact(y a b).1) (o.mono a0 (λa b=>?_)) (λk s=>?_) (λa b=>?_) f3
     ·rcases ex a b with b|⟨k,s,b⟩
      ·exact(y a b).2
      obtain⟨_,bs,an⟩:=d1 k s;exact cs k bs an (am k s) a b
     ·obtain⟨fs,bs,an⟩:=d1 k s;exact⟨fs,bs,by rw[hQ,W k s,j3,ag (am k s)];simpa using an⟩
     rcases ex a b with b|⟨k,s,b⟩
     ·exact .inl b
     exact .inr ⟨k,s,by simp only[de,W k s];exact b⟩
    |_=>exact ce _ N C (.inr P)
 intro a b d8;rw[r.heap a (fA b j.size)]
 ·exact j.frame a b d8
 intro id _ d f F;have:=((j.tree id d f).2.2 a F).2.2.2;rcases this with m|m
 ·omega
 exact d8 m
section
def hF (k:bI->Nat->Prop) (i:World) (a:ae) (l:Option Addr) (d:List a.den) (g:cE):Prop:=
 g.length=d.length/\(d=[]\/∃e h,l=some ⟨e,h,none⟩/\∀(c:Nat) (j:a.den) (f:cP),d[c]?=some j->g[c]?=some f->∃b,b.length=a.size/\du i e (h+c*a.size) b/\aD k i a b j f)
def hF.aU {a:List d.den} (b:aD f e (.aU Q d) [.slice r c g] a []):c=a.length/\hF f e d r a (List.replicate a.length []):=by obtain⟨_,q,s,h,_,_,b⟩:=b;simp only[fd,Value.slice.injEq,and_true] at h;obtain⟨rfl,rfl,rfl⟩:=h;refine⟨rfl,ab,b.imp id ?_⟩;rintro⟨l,o,m,_,n⟩;refine⟨l,o,m,λk p t j i=>?_⟩;have:k<a.length:=(ej.1 j).1;rw[lB,ak this] at i;obtain rfl:=dF i;exact n k p j
def hF.osl {k:List d.den} (h:aD f e (.osl d) [.slice r g c] k n):g=k.length/\g<=c/\∃i,hF f e d r k i/\(∀j∈i.flatten,j∈n)/\(n.Nodup->i.flatten.Nodup)/\((r=none/\c=0/\n=[])\/∃a b,r=some ⟨a,b,none⟩/\n=a::i.flatten/\gM e a b (b+c*d.size)):=by
 obtain⟨t,j,l,h⟩:=h;simp only[fd,Value.slice.injEq,and_true] at l;obtain⟨rfl,rfl,rfl⟩:=l;rcases h with⟨rfl,rfl,rfl,rfl⟩|⟨a,b,m,rfl,rfl,ao,p,q,s⟩
 ·exact⟨rfl,aZ _,[],⟨rfl,.inl rfl⟩,ab,ab,.inl ⟨rfl,rfl,rfl⟩⟩
 refine⟨rfl,p,m,⟨ao,.inr ⟨a,b,rfl,s⟩⟩,λj o=>eH _ o,λh=>(hZ.1 h).2,.inr ⟨a,b,rfl,rfl,q⟩⟩
def hF.cells {b:List d.den} {u:cE} (h:hF f e d r b u) (A:0<d.size):∃p:cJ,p.length=b.length*d.size/\(∀c∈p,c.oneCell'=true)/\(∀g,r=some g->b≠[]->∀(m:Nat) c,p[m]?=some c->e.cell? (g.add m)=some c)/\∀(j:Nat) (q:d.den) (o:cP),b[j]?=some q->u[j]?=some o->aD f e d ((p.drop (j*d.size)).take d.size) q o:=by
 obtain⟨H,h⟩:=h;rcases h with rfl|⟨g,n,rfl,h⟩
 ·exact⟨[],ab,ab,λ_ _ h=>absurd rfl h,ab⟩
 have x:∀a,a<b.length*d.size->∃c,e.cell? ⟨g,n+a,none⟩=some c/\c.oneCell'=true:=by
  intro a i;have z:a/d.size<b.length:=(wg A).2 i;obtain⟨k,C,s,t⟩:=h (a/d.size) b[a/d.size] (u[a/d.size]'(by omega)) ab ab
  have I:=Nat.mod_lt a A;have:k[a %d.size]?=some (k[a %d.size]'(by omega)):=bB _
  refine⟨_,?_,t.one _ (dm (by omega:a %d.size<k.length))⟩;have:=s _ _ this;rwa[show n+a/d.size*d.size+a %d.size=n+a by have:=p8 a d.size;rw[hL] at this;omega] at this
 have y:∀a,((List.range (b.length*d.size)).map λa=>(e.cell? ⟨g,n+a,none⟩).getD undef)[a]?=if a<b.length*d.size then e.cell? ⟨g,n+a,none⟩ else none:=by
  intro a;rw[gq];by_cases i:a<b.length*d.size
  ·rw[ak i,we i];obtain⟨c,w,_⟩:=x a i;simp[w]
  rw[ag i,hG (by simp;omega)];rfl
 refine⟨(List.range (b.length*d.size)).map λa=>(e.cell? ⟨g,n+a,none⟩).getD undef,ab,?_,?_,?_⟩
 ·intro c w;obtain⟨a,i,rfl⟩:=b0.1 w;obtain⟨J,F,v⟩:=x a (hg.1 i);simpa[F] using v
 ·intro G D _ m c l;cases D;rw[y] at l;split at l
  ·rw[Addr.add_lit];exact l
  cases l
 intro j q o B E;obtain⟨k,C,s,t⟩:=h j q o B E;have z:j<b.length:=(ej.1 B).1;have:(((List.range (b.length*d.size)).map λa=>(e.cell? ⟨g,n+a,none⟩).getD undef).drop (j*d.size)).take d.size=k:=by
  apply hY;intro m;rcases bi m d.size with l|l
  ·rw[kj l,jS,y];have v:(j+1)*d.size<=b.length*d.size:=dD _ z;rw[fy,fQ] at v;rw[ak U];have:k[m]?=some (k[m]'(by omega)):=bB _
   rw[this,<-Nat.add_assoc];exact s _ _ this
  rw[hG (by simp;omega),hG U]
 rw[this];exact t
section
variable {P:Program}
def Ke {w:World} {ty:TypeId} {j:TypeInfo} (r:P.underlying H=some (.slice a)) (C:dn P d a) (i:P.info? a=some j) (a3:d.size<=1300) {ad yd:Option Addr} {n cap m c:Nat} {olds news:cJ} (F:olds.length=n*d.size) (an:∀b,ad=some b->∀(e:Nat) (f:Value),olds[e]?=some f->w.cell? (b.add e)=some f) (ap:∀b,ad=some b->b.spot=none) (L:n<=cap) (Q:ad=none->cap=0) (s:news.length=m*d.size) (B:∀f∈news,f.oneCell'=true) (E:∀b,yd=some b->0<m->∀(e:Nat) (f:Value),news[e]?=some f->w.cell? (b.add e)=some f) (R:yd=none->m=0) (N:∀b,ad=some b->gM w b.block b.off (b.off+cap*d.size)) (O:n+m<=fi):∃I q,(Builtin.append_ #[H,H] ty #[.slice ad n cap,.slice yd m c]).run P w=.ok I q/\((
   n+m<=cap/\I=.slice ad (n+m) cap/\((ad=none/\q=w)\/∃b,ad=some b/\q=w.setCells b.block (b.off+n*d.size) news))\/
   ∃(g:Nat) (z:cH),cap<n+m/\n+m<=g/\I=.slice (some ⟨w.heap.size,0,none⟩) (n+m) g/\fw w q/\q.heap[w.heap.size]?=some (.cells z a (0,0))/\q.heap.size=w.heap.size+1/\g*d.size<=z.size/\∀(e:Nat) (f:Value),(olds++news)[e]?=some f->z[e]?=some f):=by
 obtain⟨a4,_,h,_⟩:=C.info;have J:=h.info;rw[i] at J;cases J;have a0:=C.pos;by_cases x:n+m<=cap
 ·by_cases o:m=0
  ·subst o;obtain rfl:news=[]:=kU (by simpa using s);have M:(Builtin.firstCells d.size 0 (.slice yd 0 c)).run P w=.ok #[] w:=by
    cases yd with
    |none=>rfl
    |some b=>simp[Builtin.firstCells,loadCells,loadCellsFrom]
   refine⟨.slice ad n cap,w,?_,.inl ⟨x,rfl,?_⟩⟩
   ·cases ad with
    |none=>simp[Builtin.append_,run_underlying r,sizeOf,typeInfo,i,Builtin.lenOf,h.size,L,M]
    |some b=>simp[Builtin.append_,run_underlying r,sizeOf,typeInfo,i,Builtin.lenOf,h.size,L,M,storeCells]
   cases ad with
   |none=>exact .inl ⟨rfl,rfl⟩
   |some b=>exact .inr ⟨b,rfl,rfl⟩
  cases ad with
  |none=>have:=Q rfl;omega
  |some b=>
   cases yd with
   |none=>exact absurd (R rfl) o
   |some k=>
    obtain⟨S,T,V⟩:=b;obtain rfl:V=none:=ap _ rfl;have Z:(n+m)*d.size<=cap*d.size:=dD _ x;rw[fy] at Z;have p:=run_append_room_cells (P:=P) w H ty a j r i S T n cap k m c news (by rw[h.size];exact s) (E k rfl U) B x (λe v=>(N _ rfl _ (by rw[h.size];simp only;omega) (by rw[h.size];simp only;omega)).1) (λe v=>(N _ rfl _ (by rw[h.size];simp only;omega) (by rw[h.size];simp only;omega)).2);rw[h.size] at p;exact⟨_,_,p,.inl ⟨x,rfl,.inr ⟨_,rfl,rfl⟩⟩⟩
 obtain⟨l,av,y⟩:=C.A3;have y:=y j i;have o:0<m:=U;cases yd with
 |none=>have:=R rfl;omega
 |some k=>
  have K:(n+m)*j.bytes<=140737488355328:=(by have B:(n+m)*j.bytes<=fi*31200:=gO O (by have:=h.bytes;omega);unfold fi at B;omega);have D:((n+m:Nat):Int)<=9223372036854775807:=(by unfold fi at O;omega);have A:∀(G:Nat),let g:=grownCap w (n+m) G a
   n+m<=g/\fw w (w.drew.alloc (.cells (olds.toArray++news.toArray++Builtin.zeroCells l.cells (g-(n+m))) a))/\
   (w.drew.alloc (.cells (olds.toArray++news.toArray++Builtin.zeroCells l.cells (g-(n+m))) a)).heap[w.heap.size]?=some (.cells (olds.toArray++news.toArray++Builtin.zeroCells l.cells (g-(n+m))) a (0,0))/\
   g*d.size<=(olds.toArray++news.toArray++Builtin.zeroCells l.cells (g-(n+m))).size/\
   ∀(e:Nat) (f:Value),(olds++news)[e]?=some f->(olds.toArray++news.toArray++Builtin.zeroCells l.cells (g-(n+m)))[e]?=some f:=by
   intro G g;have X:n+m<=g:=grownCap_ge w (n+m) G a;refine⟨X,(fw.refl w).drew.trans (fw.alloc _ _),heap_alloc_new w.drew _,?_,?_⟩
   ·simp only[Array.size_append,oL,size_zeroCells,av,F,s,<-fy];refine dD _ ?_;omega
   intro e f v;have Y:e<(olds++news).length:=(ej.1 v).1;rw[Array.getElem?_append,ak (by simpa using Y)];simpa using v
  cases ad with
  |some b=>
   have p:=run_append_grow (P:=P) w H ty a j l r i y b n cap olds (by rw[h.size];exact F) (an b rfl) k m c news (by rw[h.size];exact s) (E k rfl o) U D (growslice_fits U K);obtain⟨t,f2,u,f4,f5⟩:=A cap;exact⟨_,_,p,.inr ⟨_,_,U,t,rfl,f2,u,ab,f4,f5⟩⟩
  |none=>
   have W:=Q rfl;have am:n=0:=U;subst W;subst am;obtain rfl:olds=[]:=kU (by simpa using F);simp only[h1] at D K A;have p:=run_append_nil (P:=P) w H ty a j l r i y k m c news (by rw[h.size];exact s) (E k rfl o) o D U;obtain⟨t,f2,u,f4,f5⟩:=A 0;simp only[g4,Array.empty_append] at t f2 u f4 f5;refine⟨_,_,p,.inr ⟨_,_,U,by rw[h1];exact t,by rw[h1],f2,u,ab,f4,f5⟩⟩
end
end
def vK (b:Nat):∀(h:cJ) (e:Nat) (c:World) (a:Nat),a≠b->(c.setCells b e h).heap[a]?=c.heap[a]?
 |[],_,_,_,_=>rfl
 |v::g,e,c,a,d=>by rw[World.setCells,vK b g _ _ a d];simp only[World.setCell,tr];rw[ag (λf=>d f.symm)]
def tc (b:Nat):∀(e:cJ) (c:Nat) (a:World),(a.setCells b c e).heap.size=a.heap.size
 |[],_,_=>rfl
 |v::d,c,a=>by rw[World.setCells,tc b d];simp
def na (b:Nat):∀(d:cJ) (c:Nat) (a:World),(a.setCells b c d).os=a.os/\(a.setCells b c d).tape=a.tape/\(a.setCells b c d).output=a.output
 |[],_,_=>⟨rfl,rfl,rfl⟩
 |v::e,c,a=>by rw[World.setCells];exact na b e _ _
def CA (c:Nat) (e:cJ) (a:Nat) (f:World) (g:∀b,b<e.length->(f.cell? ⟨c,a+b,none⟩).isSome=true) (d:Nat):((f.setCells c a e).cell? ⟨c,d,none⟩).isSome=(f.cell? ⟨c,d,none⟩).isSome:=by
 by_cases h:a<=d/\d<a+e.length
 ·obtain⟨b,rfl⟩:∃b,d=a+b:=⟨d-a,U⟩;rw[World.cell?_setCells_in c e a f g b U,g b U];rfl
 rw[World.cell?_setCells_out c e a f _ (λ_ _=>by simp only;omega)]
def Ob (c:World) (a:Addr) (f:Value) (b:Nat):gz (c.setCell a f) b=gz c b:=by
 unfold gz World.setCell;simp only[tr];by_cases d:a.block=b
 ·subst d;simp only[if_true];cases c.heap[a.block]? with
  |none=>rfl
  |some e=>cases e<;>rfl
 simp only[ag d]
def vh (d:Nat):∀(f:cJ) (b:Nat) (c:World) (a:Nat),gz (c.setCells d b f) a=gz c a
 |[],_,_,_=>rfl
 |v::e,b,c,a=>by rw[World.setCells,vh d e (b+1),Ob]
def oj {vs:cJ} {o:Nat} {w:World} (a:g≠c):br w (w.setCells c o vs) g:=.of_heap (vK c vs o w g a)
def DI {P:Program} {ty:TypeId} {f7:TypeInfo} (ex:P.underlying H=some (.slice a)) (cs:dn P d a) (fz:P.info? a=some f7) (f5:d.size<=1300) {c:Nat} {s M:List d.den} {K:cP} {u:cE} (am:aD f e (.osl d) [.slice r N g] s K) (bs:hF f e d T M u) (a3:K.Nodup) (em:∀i∈K,∀p,¬f p i) (f4:u.flatten.Nodup) (ds:∀i∈K,i∉u.flatten) (eq:∀p i,f p i->i<e.heap.size) (a0:∀i∈K,i<e.heap.size) (ce:∀i∈u.flatten,i<e.heap.size) (f0:s.length+M.length<=fi):∃ci q f2,(Builtin.append_ #[H,H] ty #[.slice r N g,.slice T M.length c]).run P e=.ok ci q/\aD f q (.osl d) [ci] (s++M) f2/\aD f q (.osl d) [.slice r N g] s K/\f2.Nodup/\(∀i∈f2,i∈K\/i∈u.flatten\/(e.heap.size<=i/\i<q.heap.size))/\e.heap.size<=q.heap.size/\q.os=e.os/\q.tape=e.tape/\q.output=e.output/\(∀i,i<e.heap.size->i∉K->q.heap[i]?=e.heap[i]?)/\(∀p i,f p i->br e q i)/\(∀i∈u.flatten,br e q i)/\(∀i,i<e.heap.size->gz q i=gz e i):=by
 obtain⟨rfl,dl,F,d6,Y,fp,W⟩:=hF.osl am;have d3:=cs.pos;obtain⟨J,R,hc,d7,gf⟩:=d6.cells d3;obtain⟨z,f8,f9,gc,ge⟩:=bs.cells d3;have Z:=d6.1;have d1:=bs.1;obtain⟨ci,q,bl,fb⟩:=Ke (P:=P) (w:=e) (ty:=ty) ex cs fz f5 (ad:=r) (yd:=T) (n:=s.length) (cap:=g) (m:=M.length) (c:=c) (olds:=J) (news:=z) R (λi v k A l=>d7 i v (by rintro rfl;simp at R;subst R;simp at l) k A l) (λi v=>by rcases W with⟨t,_⟩|⟨o,x,t,_⟩<;>rw[v] at t<;>cases t;rfl) dl (λt=>by rcases W with⟨_,h,_⟩|⟨o,x,h,_⟩;exact h;rw[t] at h;cases h) f8 f9 (λi v f1 k A l=>gc i v (by rintro rfl;simp at f1) k A l) (λt=>by rcases bs.2 with rfl|⟨i,gt,h,_⟩;rfl;rw[t] at h;cases h) (λi v=>by
   rcases W with⟨t,_⟩|⟨o,x,t,_,X⟩
   ·rw[v] at t;cases t
   rw[v] at t;cases t;exact X) f0
 have S:(F++u).flatten=F.flatten++u.flatten:=ab;have d2:(F++u).flatten.Nodup:=(by rw[S,hI];exact⟨fp a3,f4,λco fa i v E=>ds co (Y co fa) (E▸v)⟩);have av:∀(b:Nat) (G:d.den) (y:cP),(s++M)[b]?=some G->(F++u)[b]?=some y->aD f e d (((J++z).drop (b*d.size)).take d.size) G y/\∀i∈y,i∈F.flatten\/i∈u.flatten:=by
  intro b G y j C;rcases bi b s.length with h|h
  ·rw[mC h] at j;rw[mC U] at C;have B:(b+1)*d.size<=s.length*d.size:=dD _ h;rw[fy,fQ] at B;rw[p3 U,p7 (by simp;omega)];exact⟨gf b G y j C,λi v=>.inl (hH.2 ⟨y,jU C,v⟩)⟩
  rw[ny h] at j;rw[ny U,Z] at C;have B:s.length*d.size<=b*d.size:=dD _ h;rw[List.drop_append,p4 U,g4,R,show b*d.size-s.length*d.size=(b-s.length)*d.size by rw[Nat.sub_mul]];exact⟨ge _ G y j C,λi v=>.inr (hH.2 ⟨y,jU C,v⟩)⟩
 rcases fb with⟨d4,rfl,f6⟩|⟨d8,d9,gr,fs,rfl,I,ft,gs,go,fn⟩
 ·rcases f6 with⟨rfl,rfl⟩|⟨i,rfl,rfl⟩
  ·have gl:g=0:=by rcases W with⟨_,h,_⟩|⟨o,x,h,_⟩;exact h;cases h
   obtain rfl:s=[]:=kU U;obtain rfl:M=[]:=kU U;exact⟨_,q,K,bl,by simpa using am,am,a3,λi v=>.inl v,aZ _,rfl,rfl,rfl,λ_ _ _=>rfl,λ_ _ _=>br.refl _ _,λ_ _=>br.refl _ _,λ_ _=>rfl⟩
  rcases W with⟨t,_⟩|⟨o,x,t,rfl,X⟩
  ·cases t
  cases t;have an:o∉F.flatten:=(hZ.1 a3).1;have ap:o∉u.flatten:=ds o ab;have f3:(s.length+M.length)*d.size<=g*d.size:=dD _ d4;rw[fy] at f3;have d5:∀k,k<z.length->(e.cell? ⟨o,x+s.length*d.size+k,none⟩).isSome=true:=λk l=>(X _ U U).1;have Q:∀p b,f p b->f p b/\br e (e.setCells o (x+s.length*d.size) z) b:=λp b j=>⟨j,oj (λE=>em o ab p (E▸j))⟩;have d0:gM (e.setCells o (x+s.length*d.size) z) o x (x+g*d.size):=λk B O=>(by rw[CA o z _ e d5,World.frozen?_setCells];exact X k B O);have cv:∀k A,(J++z)[k]?=some A->(e.setCells o (x+s.length*d.size) z).cell? ⟨o,x+k,none⟩=some A:=by
   intro k A l;rcases bi k J.length with h|h
   ·rw[mC h] at l;rw[World.cell?_setCells_out o z _ e _ (λ_ _=>by simp only;omega)];have:=d7 ⟨o,x,none⟩ rfl (by rintro rfl;simp at R;subst R;simp at h) k A l;rwa[Addr.add_lit] at this
   rw[ny h] at l;obtain⟨D,rfl⟩:∃D,k=J.length+D:=⟨k-J.length,U⟩;rw[nC] at l;have L:D<z.length:=(ej.1 l).1;rw[R,<-Nat.add_assoc,World.cell?_setCells_in o z _ e d5 D L];rw[bB L] at l;exact l
  refine⟨_,_,o::(F++u).flatten,bl,?_,?_,?_,?_,by rw[tc];exact aZ _,(na _ _ _ _).1,(na _ _ _ _).2.1,(na _ _ _ _).2.2,?_,λp b j=>(Q p b j).2,λb j=>oj (λE=>ap (by have el:b=o:=E;rw[<-el];exact j)),λb _=>vh _ _ _ _ _⟩
  ·refine⟨some ⟨o,x,none⟩,g,ab,.inr ⟨o,x,F++u,rfl,rfl,by simp[Z,d1],by simpa using d4,d0,λb G y j C=>?_⟩⟩;obtain⟨B,O⟩:=av b G y j C;refine⟨_,B.len,λk A l=>?_,B.mono Q (λD L=>oj (λE=>?_))⟩
   ·have V:(J++z)[b*d.size+k]?=some A:=by
     rw[rI] at l;split at l
     ·rwa[jS] at l
     cases l
    rw[Nat.add_assoc];exact cv _ _ V
   subst E;rcases O D L with h|h
   ·exact an h
   exact ap h
  ·refine⟨some ⟨o,x,none⟩,g,rfl,.inr ⟨o,x,F,rfl,rfl,Z,dl,d0,λb G y j C=>?_⟩⟩;have fT:b<s.length:=(ej.1 j).1;obtain⟨B,O⟩:=av b G y (by rw[mC fT];exact j) (by rw[mC U];exact C);refine⟨_,B.len,λk A l=>?_,B.mono Q (λD L=>oj (λE=>?_))⟩
   ·have V:(J++z)[b*d.size+k]?=some A:=by
     rw[rI] at l;split at l
     ·rwa[jS] at l
     cases l
    rw[Nat.add_assoc];exact cv _ _ V
   subst E;exact an (hH.2 ⟨y,jU C,L⟩)
  ·rw[hZ,S];exact⟨by simp[an,ap],S▸d2⟩
  ·intro b j;rcases dw.1 j with rfl|j
   ·exact .inl ab
   rw[S] at j;rcases eR.1 j with h|h
   ·exact .inl (eH _ h)
   exact .inr (.inl h)
  intro b _ j;exact vK o _ _ _ b (λE=>j (E▸by simp))
 have Q:∀p b,f p b->f p b/\br e q b:=λp b j=>⟨j,.of_heap (I.heap b (eq p b j))⟩;have a4:∀k,q.cell? ⟨e.heap.size,k,none⟩=d9[k]?/\q.frozen? ⟨e.heap.size,k,none⟩=false:=λk=>(by simp[World.cell?,World.frozen?,ft]);refine⟨_,q,e.heap.size::(F++u).flatten,bl,?_,am.mono Q (λb j=>.of_heap (I.heap b (a0 b j))),?_,?_,I.size,I.os,I.tape,I.output,λb j _=>I.heap b j,λp b j=>(Q p b j).2,λb j=>.of_heap (I.heap b (ce b j)),λb j=>(br.of_heap (I.heap b j)).2⟩
 ·refine⟨some ⟨e.heap.size,0,none⟩,d8,ab,.inr ⟨e.heap.size,0,F++u,rfl,rfl,by simp[Z,d1],by simpa using fs,λk _ O=>?_,λb G y j C=>?_⟩⟩
  ·rw[(a4 k).1,(a4 k).2];exact⟨by simp;omega,rfl⟩
  obtain⟨B,O⟩:=av b G y j C;refine⟨_,B.len,λk A l=>?_,B.mono Q (λD L=>.of_heap (I.heap D ?_))⟩
  ·rw[(a4 _).1];have V:(J++z)[b*d.size+k]?=some A:=by
    rw[rI] at l;split at l
    ·rwa[jS] at l
    cases l
   rw[h1];exact fn _ _ V
  rcases O D L with h|h
  ·exact a0 D (Y D h)
  exact ce D h
 ·rw[hZ];refine⟨λh=>?_,d2⟩;rw[S] at h;rcases eR.1 h with h|h
  ·have:=a0 _ (Y _ h);omega
  have:=ce _ h;omega
 intro b j;rcases dw.1 j with rfl|j
 ·exact .inr (.inr ⟨aZ _,U⟩)
 rw[S] at j;rcases eR.1 j with h|h
 ·exact .inl (Y b h)
 exact .inr (.inl h)
section
def dg.get:∀{p:List aM} {b:ae} {c j:b.den} {e:ae} {k:e.den},dg b c p e k j->∃d,bH b c p e d
 |[],b,c,_,_,_,a=>by obtain⟨rfl,_⟩:=dg.ei.1 a;exact⟨c,bH.ei.2 ⟨rfl,rfl⟩⟩
 |s::p,b,_,_,_,_,a=>by
  cases b<;>cases s<;>simp only[dg] at a
  case osl.idx=>obtain⟨g,f,i,a,_⟩:=a;obtain⟨d,h⟩:=dg.get (p:=p) a;exact⟨d,g,i,h⟩
  case optr.deref=>exact dg.get (p:=p) a
  case st.unst=>exact dg.get (p:=p) a
  case pr.fst=>obtain⟨f,a,_⟩:=a;exact dg.get (p:=p) a
  case pr.snd=>obtain⟨f,a,_⟩:=a;exact dg.get (p:=p) a
def dg.same:∀{p:List aM} {c:ae} {b:c.den} {d:ae} {g:d.den},bH c b p d g->dg c b p d g b
 |[],c,b,_,_,a=>by obtain⟨rfl,rfl⟩:=bH.ei.1 a;exact dg.ei.2 ⟨rfl,rfl⟩
 |s::p,c,b,_,_,a=>by
  cases c<;>cases s<;>simp only[bH] at a
  case osl.idx i=>
   obtain⟨e,f,a⟩:=a;refine⟨e,e,f,dg.same (p:=p) a,?_⟩;obtain⟨h,rfl⟩:=ej.1 f;exact(List.set_getElem_self h).symm
  case optr.deref=>exact dg.same (p:=p) a
  case st.unst=>exact dg.same (p:=p) a
  case pr.fst=>exact⟨b.1,dg.same (p:=p) a,rfl⟩
  case pr.snd=>exact⟨b.2,dg.same (p:=p) a,rfl⟩
def yK {a:y} {b:Nat->y}:de [(c,C)] (λ_=>a) b c=a:=by simp[de,bv]
section
variable {E:dA} {C:c8} {st:aA} {a:Act} {A:cH} {w:World} {I:Nat->Prop} {rt:Nat->cJ} {fp:Nat->cP} {o:Oper}
def Se (j:i.length=N) (f:gM w g c (c+N)) (d:Nat):oC w (w.setCells g c i) (some (g,c)) N d:=by
 have h:∀a,a<i.length->(w.cell? ⟨g,c+a,none⟩).isSome=true:=λa e=>(f _ U U).1;refine⟨λa e=>World.cell?_setCells_out g i c w _ (λb _=>?_),λa=>World.frozen?_setCells _ _ _ _ _,λa=>?_,vh _ _ _ _ _⟩
 ·have b:d=g:=b;have:=e c (by rw[b]);simp only;omega
 by_cases b:d=g
 ·subst b;exact CA d i c w h a
 rw[((oj (w:=w) (o:=c) (vs:=i) b).1 a).1]
def bg.SK (u:bg C st A w I rt fp) {id:Nat} {p:ay} (r:ai st.h id=some p) {P:cJ} (ad:aF w p.1 none (rt id) m d (some (c,N)) P) {D:d.den} {v:p.1.den} (J:dg p.1 p.2 m d D v) {s:cP} (K:aD (aY I C.B) w d i D s) (d9:s.Nodup) (cv:id∉n) (d4:∀a∈s,(∃F,∃a0:d.den,d.hR=true/\aD (aY I C.B) w d P a0 F/\a∈F)\/∃e∈n,∃j,ai st.h e=some j/\a∈fp e):gM w c N (N+d.size)/\∃rtn fpn,bg C ⟨kill (id::n) [(id,m)] st.g,(id,⟨p.1,v⟩)::del (id::n) st.h⟩ A (w.setCells c N i) I rtn fpn/\rtn id=rt id/\aF (w.setCells c N i) p.1 none (rt id) m d (some (c,N)) i:=by
 obtain⟨em,an,d1⟩:=u.tree id p r;obtain⟨a0,d5⟩:=J.get;obtain⟨ge,f7,a3,av,a4,bl,bs,x,ce,ci,co⟩:=u2 m (loc:=none) em (λ_ _ b=>by cases b) an (λ_ _ b=>by cases b) (u.notM r) d5;obtain⟨_,aj,E⟩:=ad.hl a4;subst aj;subst E;obtain⟨_,G⟩:=bs c N rfl;have T:c∈av:=by
  rcases ce c N rfl with⟨ap,b,_⟩|b
  ·cases b
  exact b
 have R:c∈fp id:=x.mem_iff.2 (by simp[T]);have am:=x.nodup_iff.1 an;rw[hI] at am;obtain⟨f9,H,d7⟩:=am;have V:∀a∈s,a∈a3\/∃e∈n,∃j,ai st.h e=some j/\a∈fp e:=λa f=>by
  rcases d4 a f with⟨F,go,d0,eq,b⟩|b
  ·rw[<-aD.uniq d0 bl eq] at b;exact .inl b
  exact .inr b
 have el:∀e∈n,∀j,ai st.h e=some j->∀a∈fp e,a∉fp id:=λe l j k a f z=>u.dis e id j p k r (λo=>cv (o▸l)) a f z;have X:∀a∈s,a∉av:=λa f z=>by
  rcases V a f with b|⟨e,l,j,k,b⟩
  ·exact d7 a b a z rfl
  exact el e l j k a b (x.mem_iff.2 (by simp[z]))
 have cs:∀y a,aY I C.B y a->a≠c:=λy a f o=>u.notM r c R y (o▸f);have d2:=Se (w:=w) K.len G;have fn:aD (aY I C.B) (w.setCells c N i) d i D s:=K.mono (λy a f=>⟨f,oj (cs y a f)⟩) (λa f=>oj (λo=>X a f (by rw[o];exact T)));have fa:∀t,t<i.length->(w.cell? ⟨c,N+t,none⟩).isSome=true:=λt q=>(G _ U (by have:=K.len;omega)).1;have ds:du (w.setCells c N i) c N i:=λt f3 q=>(by have Z:t<i.length:=(ej.1 q).1;rw[World.cell?_setCells_in c i N w fa t Z];rw[bB Z] at q;exact q);obtain⟨f8,Q,ft,_,fT,_,L,f0,fz⟩:=ci (w.setCells c N i) (aY I C.B) i D s v (λ_ _ b=>b) (λa _=>d2 a) fn (λb=>by cases b) (λf5 gf o=>by simp only[bw,e6] at o;obtain⟨rfl,rfl⟩:=o;exact ds) J;obtain rfl:=fT rfl (.inl ab);have d3:∀a∈Q,a∈fp id\/∃e∈n,∃j,ai st.h e=some j/\a∈fp e:=λa f=>by
  rcases eR.1 (L.mem_iff.1 f) with b|b
  ·rcases V a b with b|b
   ·exact .inl (x.mem_iff.2 (by simp[b]))
   exact .inr b
  exact .inl (x.mem_iff.2 (by simp[b]))
 have dl:=u.e0 (S:=id::n) (keep:=[(id,m)]) (new:=[(id,⟨p.1,v⟩)]) (rtn:=λ_=>rt id) (fpn:=λ_=>Q) (w':=w.setCells c N i) (I':=I) ⟨?_,(na _ _ _ _).1,(na _ _ _ _).2.1,(na _ _ _ _).2.2,?_,λa _=>.of_eq (vh _ _ _ _ _),λ_ b=>b,λ_ b=>.inl b,?_,?_,?_,?_⟩
 ·exact⟨G,_,_,dl,by rw[yK],f0⟩
 ·rw[tc];exact aZ _
 ·intro a _ f;exact vK c _ _ _ a (λo=>f id ab p r (o▸R))
 ·intro e j k;rw[bv] at k;split at k
  ·rename_i o;subst o;cases k;refine⟨.inl ab,ft,?_,λa f=>?_⟩
   ·rw[L.nodup_iff,hI];exact⟨d9,H,λf4 fb gr fs o=>X f4 fb (o▸fs)⟩
   rcases d3 a f with b|⟨e,l,j,k,b⟩
   ·obtain⟨ao,M,O,f1⟩:=d1 a b;exact⟨ao,by rw[tc];exact O,.inr ⟨id,ab,p,r,b⟩⟩
   obtain⟨ao,M,O,f1⟩:=(u.tree e j k).2.2 a b;exact⟨ao,by rw[tc];exact O,.inr ⟨e,by simp[l],j,k,b⟩⟩
  cases k
 ·intro e t j f3 l q d6;rw[bv] at l q;split at l
  ·split at q
   ·rename_i aj E;exact absurd (aj.symm.trans E) d6
   cases q
  cases l
 ·intro e l j k;simp only[fe] at l;subst l;rw[r] at k;obtain rfl:=dF k;refine⟨⟨p.1,v⟩,?_,rfl,rfl,⟨_,ad.ty⟩,fz⟩;rw[bv,ak rfl]
 intro e l j k ap gs gl gc f6 f2 W d8 H Y ex;simp only[fe] at l;subst l;rw[r] at k;obtain rfl:=dF k;refine⟨⟨p.1,v⟩,by rw[bv,ak rfl],qI W J Y,λa f=>?_⟩;obtain⟨ao,M⟩:=co ap _ _ _ _ _ W (by exact d8) Y H ex a f;exact⟨L.mem_iff.2 (kl _ ao),oj (M _ _ rfl)⟩
def bg.store (s:bg C st A w I rt fp) {id:Nat} {a:ay} (z:ai st.h id=some a) {j:cJ} (v:aF w a.1 none (rt id) m d (some (N,c)) j) {p:d.den} {o:a.1.den} (y:dg a.1 a.2 m d p o) {S2:cP} (D:aD (aY I C.B) w d i p n) (x:n.Nodup) (t:id∉S2) (u:∀f∈n,(∃k,∃F:d.den,d.hR=true/\aD (aY I C.B) w d j F k/\f∈k)\/∃l∈S2,∃E,ai st.h l=some E/\f∈fp l):gM w N c (c+d.size)/\∃e b,bg C ⟨kill (id::S2) [(id,m)] st.g,(id,⟨a.1,o⟩)::del (id::S2) st.h⟩ A (w.setCells N c i) I e b:=by obtain⟨q,e,b,r,_⟩:=s.SK z v y D x t u;exact⟨q,e,b,r⟩
inductive rQ where
 |da (s:aA)
 |part (α:Type) (φ:α->Prop) (f:α->aA)
 |bad
def rQ.K (c:rQ) (Q:aA->Prop):Prop:=
 match c with
 |.da d=>Q d
 |.part e f b=>∃a:e,f a/\Q (b a)
 |.bad=>False
def c5 (E:dA) (C:c8) (o:Oper) (st:aA) (Q:aA->Prop):Prop:=
 ∀(a:Act) (w:World),ev C st a.tmps w->∀(next:Act->World->Prop) (e:Exit->Act->World->Prop),(∀c b d,Q c->b.defers=a.defers->ev C c b.tmps d->next b d)->o.wp E.P a w next e
variable {Q:aA->Prop}
def c5.eval {an:List (Nat×ae)} (j:o.dst=some c) (l:C.ok c) (i:(eD E.tt an st.h (aE st.g) c o.op).K (λb e=>Q ⟨(c,b)::st.g,e++st.h⟩)):c5 E C o st Q:=by
 rintro a w ⟨I,rt,fp,d⟩ next r m
 exact(LY d i).wp d j l (λb e f q n k p=>m _ f q n k p)
def oe (b:List (Nat×ay)) (c:ah):Option (Nat×List aM):=
 match c with
 |.addr id a=>some (id,a)
 |.ref id a=>match ai b id with
  |some ⟨d,_⟩=>match dp d a with
   |some (.optr _)=>some (id,a++[.deref])
   |_=>none
  |none=>none
 |_=>none
def zm (
 tt:List (TypeId×ae)) (st:aA) (m:TypeId) (o v:ah):rQ:=
 match oe st.h o with
 |none=>.bad
 |some (
  id,p)=>match ai st.h id,ai tt m with
  |some ⟨b,e⟩,some n=>match dp b p with
   |none=>.bad
   |some c=>bif aS n c then match v with
    |.ref d i=>match ai st.h d with
     |some ⟨r,j⟩=>bif Nat.beq id d then .bad else
      .part (c.den×b.den) (λa=>bH r j i c a.1/\dg b e p c a.1 a.2) (λa=>⟨kill [id,d] [(id,p)] st.g,(id,⟨b,a.2⟩)::del [id,d] st.h⟩)
     |none=>.bad
    |.app d i f q l=>if _e:c=.osl f then
     .part (List f.den×b.den) (λa=>d=id/\i=p/\bH b e p (.osl f) a.1/\dg b e p (.osl f) (a.1++q) a.2) (λa=>⟨kill (id::l) [(id,p)] st.g,(id,⟨b,a.2⟩)::del (id::l) st.h⟩) else .bad
    |v=>match coe c v with
     |some j=>.part b.den (λk=>dg b e p c j k) (λk=>⟨kill [id] [(id,p)] st.g,(id,⟨b,k⟩)::del [id] st.h⟩)
     |none=>.bad
   else .bad
  |_,_=>.bad
def Rb (o:bg C st a.tmps w I rt fp) {id:Nat} (c:oe st.h (aE st.g b)=some (id,m)) {n:ay} (k:ai st.h id=some n) (r:dp n.1 m=some d):∃j s t,a.eval b=.pointer (some ⟨j,s,none⟩)/\aF w n.1 none (rt id) m d (some (j,s)) t:=by
 have i:=o.aE b;unfold oe at c;generalize D:a.eval b=F at i;split at c
 ·rename_i z B l;cases c;rw[l] at i;cases i with|addr f e=>
  rw[k] at f;cases f;have:=e.ty;rw[r] at this;cases this;exact⟨_,_,_,rfl,e⟩
 ·rename_i z B l;split at c
  case h_2=>cases c
  rename_i H G q;split at c
  case h_2=>cases c
  rename_i E y;cases c;rw[k] at q;cases q;rw[l] at i;cases i with|ref f e=>
  rw[k] at f;cases f;have:=e.ty;rw[y] at this;cases this;obtain⟨j,A,x,rfl,u,v⟩:=l6 (o.tree id _ k).1 e;have p:=e.append (aF.Aw u v);have:=p.ty;rw[r] at this;cases this;exact⟨j,A,x,rfl,p⟩
 cases c
def SJ (l:ai E.tt H=some d) (p:aS d R=true) (q:o.op=.store H h b) (t:a.eval h=.pointer (some ⟨g,c,none⟩)) (s:(a.eval b).cells=i.toArray) (m:i.length=R.size) (k:∀b∈i,b.oneCell'=true) (f:gM w g c (c+R.size)):(execOp a.eval o).run E.P w=.ok .skip (w.setCells g c i):=by have r:=(E.ok H d l).lay p;have j:=run_storeCells_cells (P:=E.P) g c i 0 w (λe n=>by simpa using(f (c+e) U U).1) (λe n=>by simpa using(f (c+e) U U).2) k;simp only[lE] at j;have:(storeVar H ⟨g,c,none⟩ (a.eval b)).run E.P w=.ok () (w.setCells g c i):=(by simp only[storeVar,s,Sem.run_bind,r.sizeOf,Result.andThen_ok];simpa[m] using j);simp[execOp,q,t,Instr.storeAt,Instr.sureAddr,this]
theorem SI (d3:o.op=.store H h b) (bs:o.dst=none) (c:(zm E.tt st H (aE st.g h) (aE st.g b)).K Q):c5 E C o st Q:=by
 rintro a w ⟨I,rt,fp,f⟩ next a0 d2
 have i:=f.aE b;unfold zm at c;split at c
 ·exact c.elim
 rename_i id f1 d4;split at c
 case h_2=>exact c.elim
 rename_i f8 f7 ap q W;split at c
 ·exact c.elim
 rename_i u d8;cases x:aS ap u with
 |false=>rw[x] at c;exact c.elim
 |true=>
 rw[x] at c;simp only[cond_true] at c;obtain⟨U,O,ft,el,z⟩:=Rb f d4 q d8;have J:=(E.ok H ap W).lay x;have G:∀(k:cJ) (S:aA) (e:Nat->cJ) (d:Nat->cP),(a.eval b).cells=k.toArray->k.length=u.size->(∀b∈k,b.oneCell'=true)->gM w U O (O+u.size)->bg C S a.tmps (w.setCells U O k) I e d->Q S->o.wp E.P a w next a0:=by
  intro k S e d aj D a3 a4 d6 d5;unfold Oper.wp;rw[SJ W x d3 el aj D a3 a4];show next (a.put o.dst undef) _
  rw[bs];exact d2 _ _ _ d5 rfl ⟨I,e,d,d6⟩
 split at c
 ·rename_i j am F;split at c
  case h_2=>exact c.elim
  rename_i f9 f5 A;cases v:Nat.beq id j with
  |true=>rw[v] at c;exact c.elim
  |false=>
   rw[v] at c;obtain⟨⟨T,av⟩,⟨co,p⟩,c⟩:=c;have d1:id≠j:=λB=>(by rw[B,oM] at v;cases v);rw[F] at i;generalize N:a.eval b=fb at i;cases i with|ref r M=>
   rw[A] at r;cases r;obtain⟨t,an,f3⟩:=f.tree j _ A;obtain⟨f0,fz,f2,f4,eq,s,_,ad,_⟩:=yl am (τ':=u) (y:=T) t (loc:=none) (λ_ _ c=>by cases c) an (λ_ _ c=>by cases c) (f.notM A) co;obtain⟨rfl,rfl,rfl⟩:=M.hl eq;have d0:f2.Nodup:=(hI.1 (ad.nodup_iff.1 an)).1;obtain⟨n,e,d,m⟩:=f.store q z p s d0 (S2:=[j]) (by simpa using d1) (λV L=>.inr ⟨j,ab,_,A,ad.mem_iff.2 (by simp[L])⟩);exact G _ _ e d (by rw[N];exact md J s.len s.one) s.len s.one n m c
 ·rename_i j am fs f6 ex F;split at c
  case isFalse=>exact c.elim
  rename_i B;subst B;obtain⟨⟨fn,av⟩,⟨rfl,rfl,ce,p⟩,c⟩:=c;rw[F] at i;generalize N:a.eval b=fb at i;cases i with|app r cv M ci bl fT l Y d7 ds=>
  rw[q] at r;cases r;obtain rfl:=bH.uniq ce ci;obtain⟨_,aj,D⟩:=z.hl M;subst aj;subst D;have dl:(ae.osl fs).hR=true:=cv;obtain⟨n,e,d,m⟩:=f.store q z p l ds (S2:=ex) (λcs=>(Y _ cs).1 rfl) (λV L=>by
   rcases d7 V L with R|⟨Z,X,R⟩
   ·exact .inl ⟨_,fn,dl,bl,R⟩
   obtain⟨_,fa,d9⟩:=Y Z X;exact .inr ⟨Z,X,fa,d9,R⟩)
  exact G _ _ e d (by rw[N];have:=md J l.len l.one;exact this) l.len l.one n m c
 split at c
 case h_2=>exact c.elim
 rename_i T em;obtain⟨av,p,c⟩:=c;have t:=Ae J i em;obtain⟨n,e,d,m⟩:=f.store q z p t ab (S2:=[]) ab ab;exact G _ _ e d ab t.len t.one n m c
end
end
section
def yk (a:List (List y)) (c b:Nat):((a.take b).drop c).flatten.Sublist a.flatten:=by have d:a.flatten=((a.take b).take c).flatten++((a.take b).drop c).flatten++(a.drop b).flatten:=(by rw[<-oI,km,<-oI,km]);rw[d];exact(List.sublist_append_right _ _).trans (List.sublist_append_left _ _)
section
variable {E:dA} {C:c8} {st:aA} {a:Act} {A:cH} {w:World} {I:Nat->Prop} {rt:Nat->cJ} {fp:Nat->cP} {o:Oper} {Q:aA->Prop}
def wD (c:List (Nat×ae)) (st:aA) (a:Nat) (i:ah):rQ:=
 match i with
 |.ref id []=>match ai st.h id with
  |some b=>.da ⟨(a,.ref a [])::kill [id,a] [] st.g,(a,b)::del [id,a] st.h⟩
  |none=>.bad
 |.ref id f=>bif Nat.beq id a then .bad else .da ⟨(a,.ref id f)::kill [a] [] st.g,del [a] st.h⟩
 |.view id [] e d=>match ai st.h id with
  |some ⟨.osl b,j⟩=>.da ⟨(a,.ref a [])::kill [id,a] [] st.g,(a,⟨.osl b,(j.take d).drop e⟩)::del [id,a] st.h⟩
  |_=>.bad
 |.bu (.slice none 0 0)=>match ai c a with
  |some (.osl b)=>.da ⟨(a,.ref a [])::kill [a] [] st.g,(a,⟨.osl b,[]⟩)::del [a] st.h⟩
  |_=>.bad
 |_=>.bad
def kr.one {w':World} {I':Nat->Prop} {S:cP} {d:Nat} {t:ay} {cs:cJ} {f:cP} (u:d∈S\/ai st.h d=none) (m:w.heap.size<=w'.heap.size) (n:w'.os=w.os) (o:w'.tape=w.tape) (p:w'.output=w.output) (q:∀a,a<w.heap.size->(∀id∈S,∀t,ai st.h id=some t->a∉fp id)->w'.heap[a]?=w.heap[a]?) (v:∀a,a<w.heap.size->gz w' a=gz w a) (r:∀a,I a->I' a) (s:∀a,I' a->I a\/(a<w'.heap.size/\(w.heap.size<=a\/∃id∈S,∃t,ai st.h id=some t/\a∈fp id))) (z:aD (aY I' C.B) w' t.1 cs t.2 f) (x:f.Nodup) (c:∀a∈f,¬I' a/\a<w'.heap.size/\(w.heap.size<=a\/∃j∈S,∃D,ai st.h j=some D/\a∈fp j)):kr C st w w' I I' rt fp S [] [(d,t)] (λ_=>cs) (λ_=>f):=by
 refine⟨m,n,o,p,q,λa c=>.of_eq (v a c),r,s,?_,?_,(λid g=>by cases g),(λid g=>by cases g)⟩
 ·intro A E b;rw[bv] at b;split at b
  ·rename_i k;subst k;obtain rfl:=dF b;exact⟨u,z,x,c⟩
  cases b
 intro A F E G e i y;rw[bv] at e i;split at e
 ·split at i
  ·rename_i aj l;exact absurd (aj.symm.trans l) y
  cases i
 cases e
def c5.Ki (ex:o.op=.assign b) (d9:o.dst=some c) (bs:C.ok c) (e:(wD j st c (aE st.g b)).K Q):c5 E C o st Q:=by
 rintro a w ⟨I,rt,fp,z⟩ next a0 eq
 have p:=z.aE b;have ci:(execOp a.eval o).run E.P w=.ok (.value (a.eval b)) w:=(by simp[execOp,ex]);have O:∀(ap:aA) (rtn:Nat->cJ) (fpn:Nat->cP),bg C ap (a.tmps.setIfInBounds c (a.eval b)) w I rtn fpn->Q ap->o.wp E.P a w next a0:=by
  intro ap rtn fpn G Y;unfold Oper.wp;rw[ci];show next (a.put o.dst (a.eval b)) w
  rw[d9];exact eq _ _ _ Y rfl ⟨I,rtn,fpn,G⟩
 have J:∀(S:cP) (i:ay) (L:cJ) (q:cP),c∈S->aD (aY I C.B) w i.1 L i.2 q->q.Nodup->(∀m∈q,∃cv∈S,∃ft,ai st.h cv=some ft/\m∈fp cv)->a.eval b=bn i.1 L->Q ⟨(c,.ref c [])::kill S [] st.g,(c,i)::del S st.h⟩->o.wp E.P a w next a0:=by
  intro S i L q el G M r fa Y;have v:=z.e0 (kr.one (st:=st) (C:=C) (rt:=rt) (w':=w) (I':=I) (S:=S) (d:=c) (t:=i) (cs:=L) (f:=q) (.inl el) (aZ _) rfl rfl rfl (λ_ _ _=>rfl) (λ_ _=>rfl) (λ_ e=>e) (λ_ e=>.inl e) G M (λm d8=>by
   obtain⟨x,l,ds,v,bl⟩:=r m d8;obtain⟨ao,fn,am,dl⟩:=(z.tree x ds v).2.2 m bl;exact⟨ao,am,.inr ⟨x,l,ds,v,bl⟩⟩))
  refine O _ _ _ (v.put bs (av:=.ref c []) ?_) Y;rw[fa];refine .ref (t:=i) (loc:=none) (by rw[hQ,bv,ak rfl];rfl) ?_;rw[yK];exact aF.here
 unfold wD at e;split at e
 ·rename_i id n;split at e
  case h_2=>exact e.elim
  rename_i i u;rw[n] at p;obtain⟨an,F,fs⟩:=z.tree id i u;refine J [id,c] i (rt id) (fp id) ab an F (λm r=>⟨id,ab,i,u,r⟩) ?_ e;generalize co:a.eval b=d0 at p;cases p with|ref H X=>
  rw[u] at H;cases H;obtain⟨rfl,rfl,rfl⟩:=aF.ei.1 X;rfl
 ·rename_i id ad _ n;cases r:Nat.beq id c with
  |true=>rw[r] at e;exact e.elim
  |false=>
   rw[r] at e;have em:id≠c:=λd5=>(by rw[d5,oM] at r;cases r);have v:=z.e0 (S:=[c]) (keep:=[]) (new:=[]) (rtn:=rt) (fpn:=fp) (w':=w) (I':=I) ⟨aZ _,rfl,rfl,rfl,λ_ _ _=>rfl,λ_ _=>.refl _ _,λ_ e=>e,λ_ e=>.inl e,(λ_ _ e=>by cases e),(λ_ _ _ _ e=>by cases e),(λ_ e=>by cases e),(λ_ e=>by cases e)⟩;refine O _ _ _ (v.put bs (av:=.ref id ad) ?_) e;have:=v.aE (a:=a) b;have d6:aE (kill [c] [] st.g) b=.ref id ad:=by
    cases b with
    |tmp i=>
     show gt (kill [c] [] st.g) i=_;rw[n1,show gt st.g i=.ref id ad from n];have:bU id [c]=false:=by
      cases W:bU id [c]
      ·rfl
      exact absurd (by simpa using eN.1 W) em
     simp[dI,dj,ah.dB,ah.ids,this]
    |const fz=>exact absurd n (by cases fz<;>simp[aE])
    |global f5=>cases n
    |func q=>cases n
   rw[<-d6];exact this
 ·rename_i id k l n;split at e
  case h_2=>exact e.elim
  rename_i i d1 u;rw[n] at p;obtain⟨an,F,fs⟩:=z.tree id _ u;generalize co:a.eval b=d0 at p J O ci;cases p with|jg=>(exact J [id,c] ⟨.osl i,[]⟩ [.slice none 0 0] [] ab ⟨none,0,rfl,.inl ⟨rfl,rfl,rfl,rfl⟩⟩ ab ab rfl e)|view H X f8 f9 gc=>
  rename_i m D ge s;rw[u] at H;cases H;obtain⟨aj,_,d7⟩:=aF.ei.1 X;cases aj;obtain⟨f0,f3,T,G⟩:=an;rw[d7] at T;simp only[fd,Value.slice.injEq,and_true] at T;obtain⟨rfl,rfl,rfl⟩:=T;rcases G with⟨R,_⟩|⟨f1,gf,y,R,ce,ao,fn,am,dl⟩
  ·cases R
  cases R;have V:((d1.take l).drop k).length=l-k:=(by simp;omega);refine J [id,c] ⟨.osl i,(d1.take l).drop k⟩ [.slice (some ⟨m,if s=k then D else D+k*i.size,none⟩) (l-k) (s-k)] (m::((y.take l).drop k).flatten) ab ?_ ?_ ?_ rfl e
  ·refine⟨some ⟨m,if s=k then D else D+k*i.size,none⟩,s-k,by rw[V],.inr ⟨m,_,(y.take l).drop k,rfl,rfl,by simp[ao],by simp only[V];omega,?_,?_⟩⟩
   ·intro fb a3 a4;by_cases A:s=k
    ·subst A;simp at a3 a4;omega
    rw[ag A] at a3 a4;have:k*i.size+(s-k)*i.size=s*i.size:=(by rw[<-fy];congr 1;omega);exact am fb U U
   intro x fT q Z M;have f7:x<l-k:=(by rw[<-V];exact(ej.1 Z).1);rw[jS,kj U] at Z M;obtain⟨d4,d2,f4,d3⟩:=dl (k+x) fT q Z M;refine⟨d4,d2,?_,d3⟩;rw[ag U];rwa[show D+k*i.size+x*i.size=D+(k+x)*i.size by rw[fy];omega]
  ·rw[ce] at F;have N:((y.take l).drop k).flatten.Sublist y.flatten:=yk _ _ _;rw[hZ] at F|-;exact⟨λW=>F.1 (N.subset W),F.2.sublist N⟩
  intro f2 A;refine⟨id,ab,_,u,?_⟩;rw[ce];rcases dw.1 A with rfl|A
  ·simp
  have N:((y.take l).drop k).flatten.Sublist y.flatten:=yk _ _ _;exact eH _ (N.subset A)
 ·rename_i n;split at e
  case h_2=>exact e.elim
  rename_i i f6;rw[n] at p;refine J [c] ⟨.osl i,[]⟩ [.slice none 0 0] [] ab ⟨none,0,rfl,.inl ⟨rfl,rfl,rfl,rfl⟩⟩ ab ab ?_ e;generalize co:a.eval b=d0 at p;cases p;rfl
 exact e.elim
end
end
section
inductive i5 (σ:ae) where
 |da (vX:List σ.den)
 |part (α:Type) (φ:α->Prop) (f:α->List σ.den)
 |bad
def oA (g:List (Nat×ay)) (b:ae) (k:ah):i5 b:=
 match k with
 |.val (.aU _ j) a=>if e:j=b then .da (e▸a) else .bad
 |.bu (.slice none 0 0)=>.da []
 |.ref id c=>match ai g id with
  |some ⟨f,d⟩=>bif b.pure then .part (List b.den) (λa=>bH f d c (.osl b) a) (λa=>a) else .bad
  |none=>.bad
 |.view id c i h=>match ai g id with
  |some ⟨f,d⟩=>bif b.pure then .part (List b.den) (λa=>bH f d c (.osl b) a) (λa=>(a.take h).drop i) else .bad
  |none=>.bad
 |_=>.bad
def i5.to {f:ae} (g:i5 f) (c:Nat->Prop) (b:List f.den->aA):rQ:=
 match g with
 |.da e=>.part Unit (λ_=>c e.length) (λ_=>b e)
 |.part h i d=>.part h (λa=>i a/\c (d a).length) (λa=>b (d a))
 |.bad=>.bad
def wB (
 tt:List (TypeId×ae)) (t:List (Nat×ae)) (st:aA) (a:Nat) (s:TypeId) (j k:ah):rQ:=
 match ey tt s with
 |none=>.bad
 |some o=>match j with
  |.ref id []=>match ai st.h id with
   |some ⟨.osl b,d⟩=>bif aS o b&&Nat.ble b.size 1300 then
    match b.pure,k with
    |false,.ref n []=>match ai st.h n with
     |some ⟨.osl v,c⟩=>if e:v=b then bif Nat.beq id n then .bad else .part Unit (λ_=>d.length+c.length<=fi) (λ_=>⟨(a,.ref a [])::kill [id,n,a] [] st.g,(a,⟨.osl b,d++(e▸c)⟩)::del [id,n,a] st.h⟩) else .bad
     |_=>.bad
    |_,k=>(oA st.h b k).to (λl=>d.length+l<=fi) (λc=>⟨(a,.ref a [])::kill [id,a] [] st.g,(a,⟨.osl b,d++c⟩)::del [id,a] st.h⟩)
    else .bad
   |_=>.bad
  |.ref id f=>match ai st.h id,ai st.h a with
   |some ⟨m,j⟩,none=>match dp m f with
    |some (.osl b)=>bif aS o b&&Nat.ble b.size 1300&&b.hR then
     match oA st.h b k with
     |.da c=>.part (List b.den) (λd=>bH m j f (.osl b) d/\d.length+c.length<=fi) (λ_=>⟨(a,.app id f b c [a])::kill [id] [(id,f),(id,[])] st.g,(a,⟨.bJ,()⟩)::(id,⟨m,j⟩)::del [id] st.h⟩)
     |.part u w p=>.part (List b.den×u) (λi=>bH m j f (.osl b) i.1/\w i.2/\i.1.length+(p i.2).length<=fi) (λi=>⟨(a,.app id f b (p i.2) [a])::kill [id] [(id,f),(id,[])] st.g,(a,⟨.bJ,()⟩)::(id,⟨m,j⟩)::del [id] st.h⟩)
     |.bad=>.bad
     else .bad
    |_=>.bad
   |_,_=>.bad
  |.view id [] r q=>match ai st.h id with
   |some ⟨.osl b,d⟩=>bif aS o b&&Nat.ble b.size 1300 then
    (oA st.h b k).to (λl=>((d.take q).drop r).length+l<=fi) (λc=>⟨(a,.ref a [])::kill [id,a] [] st.g,(a,⟨.osl b,(d.take q).drop r++c⟩)::del [id,a] st.h⟩)
    else .bad
   |_=>.bad
  |.bu (.slice none 0 0)=>match ai t a with
   |some (.osl b)=>bif aS o b&&Nat.ble b.size 1300 then
    (oA st.h b k).to (λl=>l<=fi) (λc=>⟨(a,.ref a [])::kill [a] [] st.g,(a,⟨.osl b,c⟩)::del [a] st.h⟩)
    else .bad
   |_=>.bad
  |_=>.bad
section
variable {E:dA} {C:c8} {st:aA} {a:Act} {A:cH} {w:World} {I:Nat->Prop} {rt:Nat->cJ} {fp:Nat->cP} {o:Oper} {Q:aA->Prop}
def tU (I:Nat->Prop) (e:Nat->Prop) (w:World) (d:ae) (g:Value) (c:List d.den):Prop:=
 ∃b f a,g=.slice b c.length f/\hF (aY I e) w d b c a/\a.flatten=[]
def AN {b:cE} (c:∀a∈b,a=[]):b.flatten=[]:=by
 induction b with
 |nil=>rfl
 |cons f g e=>rw[iB,c f ab,e (λa d=>c a (eH _ d))];rfl
def hF.pure {f:bI->Nat->Prop} {e:ae} {g:Option Addr} {d:List e.den} {c:cE} (j:e.pure=true) (a:hF f w e g d c):c.flatten=[]:=by
 refine AN (λn h=>?_);obtain⟨i,a⟩:=a;obtain⟨b,p,rfl⟩:=g3.1 h;rcases a with rfl|⟨l,o,_,a⟩
 ·simp only[oJ] at i;omega
 have q:b<d.length:=U;obtain⟨m,_,_,k⟩:=a b d[b] c[b] ab ab;exact k.pure j
def i5.holds {c:ae} (e:i5 c) (b:List c.den):Prop:=
 match e with
 |.da f=>b=f
 |.part g h d=>∃a:g,h a/\b=d a
 |.bad=>False
def i5.zp {f:i5 d} {g:List d.den->aA} (b:(f.to l g).K Q):∃a,f.holds a/\l a.length/\Q (g a):=by
 unfold i5.to at b;cases f with
 |da a=>obtain⟨_,c,e⟩:=b;exact⟨a,rfl,c,e⟩
 |part k m j=>obtain⟨h,⟨c,e⟩,i⟩:=b;exact⟨j h,⟨h,c,rfl⟩,e,i⟩
 |bad=>exact b.elim
def rv (y:bg C st a.tmps w I rt fp) {u:List d.den} (c:(oA st.h d (aE st.g b)).holds u):tU I C.B w d (a.eval b) u:=by
 have e:=y.aE b;unfold oA at c;generalize Y:a.eval b=a3 at e;split at c
 ·rename_i ap a0 q j;split at c
  case isFalse=>exact c.elim
  rename_i n;subst n;obtain rfl:u=q:=c;rw[j] at e;cases e with|val H=>
  have P:=H;obtain⟨_,v,m,rfl,_⟩:=P;obtain⟨_,f⟩:=hF.aU H;exact⟨v,m,_,rfl,f,ab⟩
 ·rename_i j;obtain rfl:u=[]:=c;rw[j] at e;cases e;exact⟨none,0,[],rfl,⟨rfl,.inl rfl⟩,rfl⟩
 ·rename_i id O j;split at c
  case h_2=>exact c.elim
  rename_i R Q o;cases l:d.pure with
  |false=>rw[l] at c;exact c.elim
  |true=>
   rw[l] at c;obtain⟨q,z,rfl⟩:=c;rw[j] at e;cases e with|ref p D=>
   rw[o] at p;cases p;obtain⟨rfl,x,s,_⟩:=y.ig o z D;have N:=s;obtain⟨v,m,rfl,_⟩:=N;obtain⟨_,_,r,f,_⟩:=hF.osl s;exact⟨v,m,r,rfl,f,f.pure l⟩
 ·rename_i id O i k j;split at c
  case h_2=>exact c.elim
  rename_i R Q o;cases l:d.pure with
  |false=>rw[l] at c;exact c.elim
  |true=>
   rw[l] at c;obtain⟨q,z,rfl⟩:=c;rw[j] at e;cases e with|jg=>(exact⟨none,0,[],rfl,⟨rfl,.inl rfl⟩,rfl⟩)|view p D Z ad am=>
   rename_i J G an m;rw[o] at p;cases p;obtain⟨n,x,s,_⟩:=y.ig o z D;cases n;obtain⟨aj,_,r,f,_⟩:=hF.osl s;have A:((q.take k).drop i).length=k-i:=(by simp;omega);show tU I C.B w d _ ((q.take k).drop i);refine⟨_,m-i,(r.take k).drop i,by rw[A],⟨by simp[f.1],?_⟩,?_⟩
   ·obtain⟨W,f⟩:=f;by_cases X:k=i
    ·left;apply kU;omega
    right;rcases f with rfl|⟨S,av,n,f⟩
    ·simp at A;omega
    cases n;refine⟨J,_,rfl,λt b x e E=>?_⟩;have V:t<k-i:=(by rw[<-A];exact(ej.1 e).1);rw[jS,kj U] at e E;obtain⟨M,K,T,L⟩:=f (i+t) b x e E;refine⟨M,K,?_,L⟩;rw[ag U];rwa[show G+i*d.size+t*d.size=G+(i+t)*d.size by rw[fy];omega]
   have:=f.pure l;have F:=yk r i k;rw[this] at F;exact List.sublist_nil.1 F
 exact c.elim
def Ts {b p:Nat} {q:List d.den} (A:aD f w (.osl d) [.slice (some ⟨b,P,none⟩) p N] q n) (l:n.Nodup) (M:c<=g) (O:g<=p) (Q:p<=N):∃i,aD f w (.osl d) [.slice (some ⟨b,if N=c then P else P+c*d.size,none⟩) (g-c) (N-c)] ((q.take g).drop c) i/\i.Nodup/\∀r∈i,r∈n:=by
 obtain⟨H,J,v,C⟩:=A;simp only[fd,Value.slice.injEq,and_true] at v;obtain⟨rfl,rfl,rfl⟩:=v;rcases C with⟨j,_⟩|⟨I,R,e,j,rfl,ao,S,E,F⟩
 ·cases j
 cases j;have k:((q.take g).drop c).length=g-c:=(by simp;omega);have m:((e.take g).drop c).flatten.Sublist e.flatten:=yk _ _ _;refine⟨b::((e.take g).drop c).flatten,⟨some ⟨b,if N=c then P else P+c*d.size,none⟩,N-c,by rw[k],.inr ⟨b,_,(e.take g).drop c,rfl,rfl,by simp[ao],by rw[k];omega,?_,?_⟩⟩,?_,?_⟩
 ·intro D s t;by_cases a:N=c
  ·subst a;simp at s t;omega
  rw[ag a] at s t;have:c*d.size+(N-c)*d.size=N*d.size:=(by rw[<-fy];congr 1;omega);exact E D U U
 ·intro h G n o u;have L:h<g-c:=(by rw[<-k];exact(ej.1 o).1);rw[jS,kj U] at o u;obtain⟨z,x,K,y⟩:=F (c+h) G n o u;refine⟨z,x,?_,y⟩;rw[ag U];rwa[show P+c*d.size+h*d.size=P+(c+h)*d.size by rw[fy];omega]
 ·rw[hZ] at l|-;exact⟨λB=>l.1 (m.subset B),l.2.sublist m⟩
 intro r a;rcases dw.1 a with rfl|a
 ·simp
 exact eH _ (m.subset a)
def DH (d:o.op=.call {callee:=.builtin .append,args:=#[b,h],argTypes:=#[H,H]}) {c:Value} (f:(Builtin.append_ #[H,H] o.type #[a.eval b,a.eval h]).run E.P w=.ok c e):(execOp a.eval o).run E.P w=.ok (.value c) e:=by simp only[execOp,d,resolve,invoke,builtin,Sem.run_bind,Sem.run_pure,Result.andThen_ok,tF,eG,List.map_nil,f]
def c5.tX {W:Operand} (d2:o.op=.call {callee:=.builtin .append,args:=#[b,W],argTypes:=#[H,H]}) (a3:o.dst=some N) (bs:C.ok N) (q:bg C st a.tmps w I rt fp) {next:Act->World->Prop} (d1:∀O z p,Q O->z.defers=a.defers->ev C O z.tmps p->next z p) {V:ae} (ap:ey E.tt H=some V) (dl:aS V R=true) (d6:R.size<=1300) {S:cP} (a4:N∈S) {M G:Nat} {xs u:List R.den} {f1:cP} {x:cE} {F:Nat} (d8:a.eval b=.slice r M G) (d5:aD (aY I C.B) w (.osl R) [.slice r M G] xs f1) (co:f1.Nodup) (y:∀e∈f1,∃i∈S,∃j,ai st.h i=some j/\e∈fp i) (d9:a.eval W=.slice T u.length F) (ce:hF (aY I C.B) w R T u x) (cv:x.flatten.Nodup) (K:∀e∈x.flatten,∃i∈S,∃j,ai st.h i=some j/\e∈fp i) (bl:∀e∈f1,e∉x.flatten) (ds:xs.length+u.length<=fi) (d3:Q ⟨(N,.ref N [])::kill S [] st.g,(N,⟨.osl R,xs++u⟩)::del S st.h⟩):o.wp E.P a w next s:=by
 obtain⟨i,fT,f0,Z,ad⟩:=ey.ok ap;have J:=ad.lay dl;obtain⟨f3,_,el,_⟩:=J.info;have D:∀i j,ai st.h i=some j->∀e∈fp i,e<w.heap.size/\∀L,¬aY I C.B L e:=λi j l e k=>⟨((q.tree i j l).2.2 e k).2.2.1,q.notM l e k⟩;obtain⟨v,p,f2,em,ex,_,aT,fa,fb,fn,fs,ft,eq,f7,_,fz⟩:=DI (P:=E.P) (ty:=o.type) Z J el.info d6 d5 (c:=F) ce co (λe k=>by obtain⟨i,_,j,l,m⟩:=y e k;exact(D i j l e m).2) cv bl (λL e d0=>q.ib e (kF d0)) (λe k=>by obtain⟨i,_,j,l,m⟩:=y e k;exact(D i j l e m).1) (λe k=>by obtain⟨i,_,j,l,m⟩:=K e k;exact(D i j l e m).1) ds;have d4:(execOp a.eval o).run E.P w=.ok (.value v) p:=DH (E:=E) d2 (by rw[d8,d9];exact em);have a0:∀e∈f2,(∃i∈S,∃j,ai st.h i=some j/\e∈fp i)\/(w.heap.size<=e/\e<p.heap.size):=λe k=>by
  rcases fa e k with n|n|n
  ·exact .inl (y e n)
  ·exact .inl (K e n)
  exact .inr n
 have d7:=q.e0 (kr.one (st:=st) (C:=C) (rt:=rt) (w':=p) (I':=I) (S:=S) (d:=N) (t:=⟨.osl R,xs++u⟩) (cs:=[v]) (f:=f2) (.inl a4) fb fn fs ft (λe k an=>eq e k (λci=>by obtain⟨i,A,j,l,m⟩:=y e ci;exact an i A j l m)) fz (λ_ n=>n) (λ_ n=>.inl n) ex aT (λe k=>by
   rcases a0 e k with⟨i,A,j,l,m⟩|⟨X,Y⟩
   ·obtain⟨ao,f4,f5,f6⟩:=(q.tree i j l).2.2 e m;exact⟨ao,U,.inr ⟨i,A,j,l,m⟩⟩
   exact⟨λam=>by have:=q.ib e (.inl am);omega,Y,.inl X⟩))
 unfold Oper.wp;rw[d4];show next (a.put o.dst v) p
 rw[a3];refine d1 _ _ _ d3 rfl ⟨I,_,_,d7.put bs (av:=.ref N []) ?_⟩;have:v=bn (.osl R) [v]:=rfl;rw[this];refine .ref (t:=⟨.osl R,xs++u⟩) (loc:=none) (by rw[hQ,bv,ak rfl];rfl) ?_;rw[yK];exact aF.here
end
end
section
section
variable {E:dA} {C:c8} {st:aA} {a:Act} {A:cH} {w:World} {I:Nat->Prop} {rt:Nat->cJ} {fp:Nat->cP} {o:Oper} {Q:aA->Prop}
def DK {ge:Operand} (lk:o.op=.call {callee:=.builtin .append,args:=#[b,ge],argTypes:=#[H,H]}) (am:o.dst=some N) (i2:C.ok N) (v:bg C st a.tmps w I rt fp) {next:Act->World->Prop} (le:∀f9 ce w',Q f9->ce.defers=a.defers->ev C f9 ce.tmps w'->next ce w') {bs:ae} (io:ey E.tt H=some bs) (kd:aS bs R=true) (lt:R.size<=1300) (d3:R.hR=true) {id:Nat} (i3:aE st.g b=.ref id m) {n:d.den} (r:ai st.h id=some ⟨d,n⟩) (an:ai st.h N=none) {z a0:List R.den} (d0:bH d n m (.osl R) z) {S2:cP} (mo:∃el A F,a.eval ge=.slice el a0.length A/\hF (aY I C.B) w R el a0 F/\F.flatten.Nodup/\∀e∈F.flatten,∃j∈S2,∃D,ai st.h j=some D/\e∈fp j) (cs:∀j∈S2,j≠id/\∃bs,ai st.h j=some bs) (kg:z.length+a0.length<=fi) (d4:Q ⟨(N,.app id m R a0 (N::S2))::kill [id] [(id,m),(id,[])] st.g,(N,⟨.bJ,()⟩)::(id,⟨d,n⟩)::del [id] st.h⟩):o.wp E.P a w next s:=by
 obtain⟨j,t0,Z,hv,hw⟩:=ey.ok io;have ex:=hw.lay kd;obtain⟨t5,_,of,_⟩:=ex.info;have d6:=v.aE b;rw[i3] at d6;generalize mc:a.eval b=t7 at d6;cases d6 with|ref u d2=>
 rename_i t9 em gf;rw[r] at u;cases u;simp only at d2;obtain⟨ol,d7,d8⟩:=v.tree id _ r;obtain⟨t6,t2,V,d9,gt,eq,hc,Y,hi,hr,hs⟩:=u2 m (loc:=none) ol (λ_ _ i=>by cases i) d7 (λ_ _ i=>by cases i) (v.notM r) d0;obtain⟨gl,aj,go⟩:=d2.hl gt;subst gl;subst aj;subst go;have fT:=Y.nodup_iff.1 d7;rw[hI] at fT;obtain⟨k0,fz,la⟩:=fT;obtain⟨ci,co,rfl,_⟩:=(show aD (aY I C.B) w (.osl R) gf z V from eq);obtain⟨el,A,F,mp,i8,jn,ds⟩:=mo;have K:∀e∈V,e∈fp id:=λe f=>Y.mem_iff.2 (by simp[f]);have J:∀e∈fp id,e<w.heap.size/\∀M,¬aY I C.B M e:=λe f=>⟨(d8 e f).2.2.1,v.notM r e f⟩;have f1:∀e∈F.flatten,e<w.heap.size:=λe f=>(by obtain⟨j,l,D,L,ad⟩:=ds e f;exact((v.tree j D L).2.2 e ad).2.2.1);obtain⟨gc,w',f2,or,pl,f7,f8,pm,pr,ps,rd,rg,f6,os,_,rs⟩:=DI (P:=E.P) (ty:=o.type) hv ex of.info lt eq (c:=A) i8 k0 (λe f=>(J e (K e f)).2) jn (λe f i0=>by
  obtain⟨j,l,D,L,ad⟩:=ds e i0;exact v.dis id j _ D r L (cs j l).1.symm e (K e f) ad)
  (λM e d1=>v.ib e (kF d1)) (λe f=>(J e (K e f)).1) f1 kg
 have lp:(execOp a.eval o).run E.P w=.ok (.value gc) w':=DH (E:=E) lk (by rw[mc,mp];exact or);have f0:∀e∈d9,e<w.heap.size/\e∉V:=λe f=>⟨(J e (Y.mem_iff.2 (by simp[f]))).1,λi=>la e i e f rfl⟩;have d5:∀e,(∃M,aY I C.B M e)\/e∈d9->br w w' e:=λe f=>by
  rcases f with⟨M,d1⟩|f
  ·exact os M e d1
  exact .of_heap (f6 e (f0 e f).1 (f0 e f).2)
 have is:∀e O,em=some (e,O)->du w' e O [.slice ci z.length co]:=λe O k=>by
  have f:e∈d9:=by
   rcases hi e O k with⟨bl,i,_⟩|i
   ·cases i
   exact i
  exact(hc e O k).1.dT (d5 e (.inr f))
 obtain⟨t3,W,mt,_,nd,_,ne,f3⟩:=hr w' (aY I C.B) [.slice ci z.length co] z V n (λ_ _ i=>i) (λe f=>by
  have a3:br w w' e:=d5 e (by
   rcases f with i|i|⟨O,i⟩
   ·exact .inl i
   ·exact .inr i
   cases i)
  exact⟨λy _=>(a3.1 y).1,λy=>(a3.1 y).2,λy=>by rw[(a3.1 y).1],a3.2⟩) f7 (λ_ _=>rfl) is (dg.same d0)
 obtain rfl:=nd rfl (.inr rfl);have G:W.Perm (fp id):=ne.trans Y.symm;have q:N≠id:=λk=>(by rw[k,r] at an;cases an);have fn:∀e∈f2,e∈V\/e∈F.flatten\/(w.heap.size<=e/\e<w'.heap.size):=λe f=>pm e f
 let X:=f2.filter λe=>decide (w.heap.size<=e)
 have dl:∀e∈X,w.heap.size<=e/\e<w'.heap.size:=λe f=>by
  have fa:=gu.1 f;have Z:w.heap.size<=e:=(by simpa using fa.2);rcases fn e fa.1 with i|i|i
  ·have:=(J e (K e i)).1;omega
  ·have:=f1 e i;omega
  exact i
 have l2:=v.e0 (S:=[id]) (keep:=[(id,m),(id,[])]) (new:=[(N,⟨.bJ,()⟩),(id,⟨d,n⟩)]) (rtn:=λj=>if j=N then[] else rt id) (fpn:=λj=>if j=N then X else W) (w':=w') (I':=I) ⟨pr,ps,rd,rg,λe f ii=>f6 e f (λi=>ii id ab _ r (K e i)),λe f=>.of_eq (rs e f),λ_ i=>i,λ_ i=>.inl i,(by
   intro j U l;rw[bv] at l;split at l
   ·rename_i k;subst k;cases l;refine⟨.inr an,(by simp only[if_true];exact rfl),(by simp only[if_true];exact f8.filter _),λe f=>?_⟩;simp only[if_true] at f;obtain⟨ao,T⟩:=dl e f;exact⟨λic=>by have:=v.ib e (.inl ic);omega,T,.inl ao⟩
   ·rw[bv] at l;split at l
    ·rename_i _ k;subst k;cases l;have p:¬(id=N):=λk=>q k.symm;refine⟨.inl ab,(by simp only[ag p];exact mt),(by simp only[ag p];rw[G.nodup_iff];exact d7),λe f=>?_⟩;simp only[ag p] at f;rw[G.mem_iff] at f;exact⟨(d8 e f).1,by have:=(d8 e f).2.2.1;omega,.inr ⟨id,ab,_,r,f⟩⟩
    cases l),(by
   intro j y sh tf l jp ft e f;have fb:∀a4 U,ai [(N,(⟨.bJ,()⟩:ay)),(id,⟨d,n⟩)] a4=some U->a4=N\/a4=id:=λa4 U x=>by
    rw[bv] at x;split at x
    ·rename_i k;exact .inl k.symm
    rw[bv] at x;split at x
    ·rename_i _ k;exact .inr k.symm
    cases x
   have p:¬(id=N):=λk=>q k.symm;rcases fb j sh l with rfl|rfl<;>rcases fb y tf jp with rfl|rfl
   ·exact absurd rfl ft
   ·simp only[if_true] at f;simp only[ag p];rw[G.mem_iff];intro i;have:=(J e i).1;have:=(dl e f).1;omega
   ·simp only[ag p] at f;simp only[if_true];rw[G.mem_iff] at f;intro i;have:=(J e f).1;have:=(dl e i).1;omega
   ·exact absurd rfl ft),(by
   intro j l U u;have ap:j=(id,m)\/j=(id,[]):=(by simpa using l);have Z:j.1=id:=by rcases ap with rfl|rfl<;>rfl
   have u:ai st.h id=some U:=(by rw[<-Z];exact u);rw[r] at u;obtain rfl:=dF u;have p:¬(id=N):=λk=>q k.symm;refine⟨⟨d,n⟩,by rw[Z,bv,ag q,bv,ak rfl],rfl,by rw[Z];simp only[ag p],(by rcases ap with rfl|rfl;exact⟨_,d2.ty⟩;exact⟨d,by cases d<;>rfl⟩),λbl _ _ _ x d4=>?_⟩;rcases ap with rfl|rfl
   ·exact f3.2 bl _ _ _ x d4
   ·rw[yv] at x;cases x),(by
   intro j l U u bl ul t8 f4 t1 t4 am d3 fz fs lo;have ap:j=(id,m)\/j=(id,[]):=(by simpa using l);rcases ap with rfl|rfl
   ·rw[r] at u;obtain rfl:=dF u;have p:¬(id=N):=λk=>q k.symm;refine⟨⟨d,n⟩,by rw[bv,ag q,bv,ak rfl],fs,λA i1=>?_⟩;obtain⟨ao,T⟩:=hs bl _ _ _ _ _ am (by exact d3) fs fz lo A i1;exact⟨by simp only[ag p];exact G.mem_iff.2 (Y.mem_iff.2 (kl _ ao)),d5 A (.inr ao)⟩
   rw[qH] at am;cases am)⟩
 unfold Oper.wp;rw[lp];show next (a.put o.dst gc) w'
 rw[am];refine le _ _ _ d4 rfl ⟨I,_,_,l2.put i2 (av:=.app id m R a0 (N::S2)) ?_⟩;have p:¬(id=N):=λk=>q k.symm;have nn:ai ([(N,(⟨.bJ,()⟩:ay)),(id,⟨d,n⟩)]++del [id] st.h) id=some ⟨d,n⟩:=(by rw[hQ,bv,ag q,bv,ak rfl];rfl);have f4:ai ([(N,(⟨.bJ,()⟩:ay)),(id,⟨d,n⟩)]++del [id] st.h) N=some ⟨.bJ,()⟩:=(by rw[hQ,bv,ak rfl];rfl);have f5:ai [(N,(⟨.bJ,()⟩:ay)),(id,⟨d,n⟩)] id=some ⟨d,n⟩:=(by rw[bv,ag q,bv,ak rfl]);have no:ai [(N,(⟨.bJ,()⟩:ay)),(id,⟨d,n⟩)] N=some ⟨.bJ,()⟩:=(by rw[bv,ak rfl]);have gs:de [(N,(⟨.bJ,()⟩:ay)),(id,⟨d,n⟩)] (λj=>if j=N then X else W) fp id=W:=(by simp only[de,f5,ag p]);have gr:de [(N,(⟨.bJ,()⟩:ay)),(id,⟨d,n⟩)] (λj=>if j=N then X else W) fp N=X:=(by simp only[de,no,if_true]);have on:de [(N,(⟨.bJ,()⟩:ay)),(id,⟨d,n⟩)] (λj=>if j=N then[] else rt id) rt id=rt id:=(by simp only[de,f5,ag p]);have lb:aF w' d none (rt id) m (.osl R) em [.slice ci z.length co]:=f3.1;refine .app (t:=⟨d,n⟩) nn d3 (by rw[on];exact lb) d0 f7 (λe f=>by rw[gs,G.mem_iff];exact K e f) pl ?_ ?_ f8
 ·intro j l;rcases dw.1 l with rfl|l
  ·exact⟨q,_,f4⟩
  obtain⟨ao,to,T⟩:=cs j l;have cv:¬(N=j):=λk=>(by rw[<-k,an] at T;cases T);refine⟨ao,to,?_⟩;rw[hQ,bv,ag cv,bv,ag (λk=>ao k.symm),j3,ag (by simpa using ao),T];rfl
 intro e f;rcases fn e f with i|i|i
 ·exact .inl i
 ·obtain⟨j,l,D,L,ad⟩:=ds e i;obtain⟨ao,_⟩:=cs j l;have cv:¬(N=j):=λk=>(by rw[<-k,an] at L;cases L);have n5:ai [(N,(⟨.bJ,()⟩:ay)),(id,⟨d,n⟩)] j=none:=(by rw[bv,ag cv,bv,ag (λk=>ao k.symm)];rfl);exact .inr ⟨j,eH _ l,by simp only[de,n5];exact ad⟩
 exact .inr ⟨N,ab,by rw[gr];exact gu.2 ⟨f,by simpa using i.1⟩⟩
def DJ {q:Operand} (N:o.op=.call {callee:=.builtin .append,args:=#[b,q],argTypes:=#[H,H]}) (z:o.dst=some c) (D:C.ok c) (x:bg C st a.tmps w I rt fp) {next:Act->World->Prop} (M:∀k e n,Q k->e.defers=a.defers->ev C k e.tmps n->next e n) {l:ae} (y:ey E.tt H=some l) (J:aS l d=true) (S:d.size<=1300) (L:d.hR=true) {id:Nat} (F:aE st.g b=.ref id m) {i:R.den} (T:ai st.h id=some ⟨R,i⟩) (A:ai st.h c=none) {p f:List d.den} (G:bH R i m (.osl d) p) (U:tU I C.B w d (a.eval q) f) (K:p.length+f.length<=fi) (O:Q ⟨(c,.app id m d f [c])::kill [id] [(id,m),(id,[])] st.g,(c,⟨.bJ,()⟩)::(id,⟨R,i⟩)::del [id] st.h⟩):o.wp E.P a w next s:=by obtain⟨V,r,t,u,v,j⟩:=U;exact DK (S2:=[]) N z D x M y J S L F T A G ⟨V,r,t,u,v,by rw[j];exact .nil,by rw[j];simp⟩ ab K O
end
end
section
section
variable {E:dA} {C:c8} {st:aA} {o:Oper} {Q:aA->Prop}
def c5.app {d3:List (Nat×ae)} {W:TypeId} {A N:Operand} {t:Nat} (z:o.op=.call {callee:=.builtin .append,args:=#[A,N],argTypes:=#[W,W]}) (w:o.dst=some t) (x:C.ok t) (a:(wB E.tt d3 st t W (aE st.g A) (aE st.g N)).K Q):c5 E C o st Q:=by
 rintro F J ⟨D,U,G,c⟩ next fT y
 have r:=c.aE A;unfold wB at a;split at a
 ·exact a.elim
 rename_i V v;split at a
 ·rename_i id u;split at a
  case h_2=>exact a.elim
  rename_i e k i;cases b:(aS V e&&Nat.ble e.size 1300) with
  |false=>rw[b] at a;exact a.elim
  |true=>
  rw[b] at a;simp only[a2] at b;obtain⟨l,d⟩:=b;have d:=ek d;simp only[cond_true] at a;rw[u] at r;generalize H:F.eval A=d1 at r;cases r with|ref M am=>
  rw[i] at M;cases M;obtain⟨aj,_,L⟩:=aF.ei.1 am;subst aj;subst L;obtain⟨I,T,fp⟩:=c.tree id _ i;obtain⟨av,Y,a4,_⟩:=(show aD (aY D C.B) J (.osl e) (U id) k (G id) from I);have cv:F.eval A=.slice av k.length Y:=(by rw[H];show(U id).headD undef=_;rw[a4];rfl);have ds:aD (aY D C.B) J (.osl e) [.slice av k.length Y] k (G id):=(by rw[<-a4];exact I);split at a
  ·rename_i m f5 d4;split at a
   case h_2=>exact a.elim
   rename_i d2 s R;split at a
   case isFalse=>exact a.elim
   rename_i Z;subst Z;cases P:Nat.beq id m with
   |true=>rw[P] at a;exact a.elim
   |false=>
   rw[P] at a;have d8:id≠m:=λZ=>(by rw[Z,oM] at P;cases P);obtain⟨_,h,a⟩:=a;have an:=c.aE N;rw[d4] at an;generalize q:F.eval N=gf at an;cases an with|ref cs d7=>
   rw[R] at cs;cases cs;obtain⟨aj,_,L⟩:=aF.ei.1 d7;subst aj;subst L;obtain⟨d0,ft,ge⟩:=c.tree m _ R;obtain⟨a0,a3,bl,_⟩:=(show aD (aY D C.B) J (.osl d2) (U m) s (G m) from d0);have d9:F.eval N=.slice a0 s.length a3:=(by rw[q];show(U m).headD undef=_;rw[bl];rfl);have fs:aD (aY D C.B) J (.osl d2) [.slice a0 s.length a3] s (G m):=(by rw[<-bl];exact d0);obtain⟨_,_,O,p,ce,d6,_⟩:=hF.osl fs;exact c5.tX z w x c y v l d (S:=[id,m,t]) ab cv ds T (λn b=>⟨id,ab,_,i,b⟩) d9 p (d6 ft) (λn b=>⟨m,ab,_,R,ce n b⟩) (λn b d5=>c.dis id m _ _ i R d8 n b (ce n d5)) h a
  obtain⟨s,j,h,a⟩:=i5.zp a;obtain⟨ap,X,O,q,p,f⟩:=rv c j;exact c5.tX z w x c y v l d (S:=[id,t]) ab cv ds T (λn b=>⟨id,ab,_,i,b⟩) q p (by rw[f];simp) (by rw[f];simp) (by rw[f];simp) h a
 ·rename_i id gc f6 u;split at a
  case h_2=>exact a.elim
  rename_i gr gl i bs;split at a
  case h_2=>exact a.elim
  rename_i e f7;cases b:(aS V e&&Nat.ble e.size 1300&&e.hR) with
  |false=>rw[b] at a;exact a.elim
  |true=>
  rw[b] at a;simp only[a2] at b;obtain⟨⟨l,d⟩,co⟩:=b;have d:=ek d;simp only[cond_true] at a;split at a
  ·rename_i s j;obtain⟨k,⟨ad,h⟩,a⟩:=a;exact DJ z w x c y v l d co u i bs ad (rv c (by rw[j];exact rfl)) h a
  ·rename_i go gs f0 j;obtain⟨⟨k,fa⟩,⟨ad,el,h⟩,a⟩:=a;exact DJ z w x c y v l d co u i bs ad (rv c (by rw[j];exact⟨fa,el,rfl⟩)) h a
  exact a.elim
 ·rename_i id dl ci u;split at a
  case h_2=>exact a.elim
  rename_i e k i;cases b:(aS V e&&Nat.ble e.size 1300) with
  |false=>rw[b] at a;exact a.elim
  |true=>
  rw[b] at a;simp only[a2] at b;obtain⟨l,d⟩:=b;have d:=ek d;simp only[cond_true] at a;rw[u] at r;obtain⟨I,T,fp⟩:=c.tree id _ i;generalize H:F.eval A=d1 at r;cases r with|jg=>(obtain⟨s,j,h,a⟩:=i5.zp a;obtain⟨ap,X,O,q,p,f⟩:=rv c j;exact c5.tX z w x c y v l d (S:=[id,t]) ab (xs:=[]) (f1:=[]) H ⟨none,0,rfl,.inl ⟨rfl,rfl,rfl,rfl⟩⟩ ab ab q p (by rw[f];simp) (by rw[f];simp) ab (by simpa using h) (by simpa using a))|view M am em eq ex=>
  rename_i n f9 f8 Y;rw[i] at M;cases M;obtain⟨aj,_,L⟩:=aF.ei.1 am;cases aj;obtain⟨s,j,h,a⟩:=i5.zp a;obtain⟨ap,X,O,q,p,f⟩:=rv c j;rw[L] at I;obtain⟨fz,ao,fb,fn⟩:=Ts (show aD (aY D C.B) J (.osl e) _ k (G id) from I) T em eq ex;have f4:((k.take ci).drop dl).length=ci-dl:=(by obtain⟨f3,_⟩:=hF.osl (show aD (aY D C.B) J (.osl e) _ k (G id) from I);simp;omega);exact c5.tX z w x c y v l d (S:=[id,t]) ab H ao fb (λn b=>⟨id,ab,_,i,fn n b⟩) q p (by rw[f];simp) (by rw[f];simp) (by rw[f];simp) h a
 ·rename_i u;split at a
  case h_2=>exact a.elim
  rename_i e f2;cases b:(aS V e&&Nat.ble e.size 1300) with
  |false=>rw[b] at a;exact a.elim
  |true=>
  rw[b] at a;simp only[a2] at b;obtain⟨l,d⟩:=b;have d:=ek d;simp only[cond_true] at a;rw[u] at r;generalize H:F.eval A=d1 at r;cases r;obtain⟨s,j,h,a⟩:=i5.zp a;obtain⟨ap,X,O,q,p,f⟩:=rv c j;exact c5.tX z w x c y v l d (S:=[t]) ab (xs:=[]) (f1:=[]) H ⟨none,0,rfl,.inl ⟨rfl,rfl,rfl,rfl⟩⟩ ab ab q p (by rw[f];simp) (by rw[f];simp) ab (by simpa using h) (by simpa using a)
 exact a.elim
end
end
section
def fR (E:dA) (C:c8) (B:Array Oper) (g:cP) (st:aA) (Q:aA->Prop):Prop:=
 ∀(a:Act) (e:World),ev C st a.tmps e->∀c:Exit->Act->World->Prop,(∀d b f,Q d->b.defers=a.defers->ev C d b.tmps f->c .normal b f)->wpOps E.P B c g a e
def hT (B:Array Oper) (st:aA) (d:Oper) (a:Bool):Prop:=
 match d.guard with
 |none=>a=true
 |some (c,e)=>match(B[c]?).bind (·.dst) with
  |some b=>match gt st.g b with
   |.val .bool f=>(f==e)=a
   |.bu (.tuple _)=>a=false
   |_=>False
  |none=>False
section
variable {E:dA} {C:c8} {st:aA} {B:Array Oper} {Q:aA->Prop}
theorem hT.ok {c:Act} (j:bg C st c.tmps e l p q) {m:Oper} {i:Bool} (b:hT B st m i):Region.wanted m (yielded B c.tmps)=i:=by
 unfold hT at b;unfold Region.wanted;split at b
 ·rename_i g;rw[g];exact b.symm
 rename_i v u g;rw[g];split at b
 ·rename_i d k;split at b
  ·rename_i n h;have:=j.tmp d;rw[h] at this;generalize a:c.tmps.getD d undef=t at this;cases this with|val r=>
   obtain⟨_,rfl⟩:=r;have o:c.tmps[d]?=some (.bool n):=by
    rw[vZ] at a;cases f:c.tmps[d]? with
    |none=>rw[f] at a;cases a
    |some s=>rw[f] at a;simp only[rP] at a;rw[a];rfl
   simp only[yielded,k,aP,o];rw[<-b];cases n<;>cases u<;>rfl
  ·rename_i w h;have:=j.tmp d;rw[h] at this;generalize a:c.tmps.getD d undef=t at this;cases this;subst b;simp only[yielded,k,aP];rw[vZ] at a;cases f:c.tmps[d]? with
   |none=>rfl
   |some s=>rw[f] at a;simp only[rP] at a;rw[a];rfl
  exact b.elim
 exact b.elim
def fR.nil (b:Q st):fR E C B [] st Q:=λa e c _ d=>d st a e b rfl c
def fR.op {a:Oper} (p:B[c]?=some a) (t:hT B st a true) (i:c5 E C a st (λd=>fR E C B n d Q)):fR E C B (c::n) st Q:=by intro f v b e q;obtain⟨y,A,z,k⟩:=id b;simp only[wpOps,p];rw[t.ok k,ak rfl];exact .inl (i f v b _ _ (λd g w o l r=>o g w r e (λu h x j m s=>q u h x j (m.trans l) s)))
def fR.skip {a:Oper} (q:B[N]?=some a) (m:a.dst=some c) (p:C.ok c) (t:hT B st a false) (j:fR E C B n ⟨(c,.bu undef)::st.g,st.h⟩ Q):fR E C B (N::n) st Q:=by intro y w l e r;obtain⟨d,u,i,b⟩:=id l;simp only[wpOps,q];rw[t.ok b,ag ab,m];exact j _ w ⟨d,u,i,b.put p (.bu undef)⟩ e (λv f x k o s=>r v f x k o s)
def ev.ue {b:cH} {c:World} {st a:aA} (f:ev C st b c) (j:lO a.g st) (k:lP a.h st) (l:jA a.g a.h=true):ev C a b c:=by obtain⟨d,m,e,i⟩:=f;exact⟨d,m,e,i.ue j k (jA.get l)⟩
def J (E:dA) (C:c8) (e:Code) (st:aA) (Q:Exit->aA->Prop):Prop:=
 ∀(a:Act) (d:World),ev C st a.tmps d->a.defers=[]->e.wp E.P (λf b g=>∃c,Q f c/\ev C c b.tmps g/\b.defers=[]) a d
variable {A:Exit->aA->Prop}
def J.Tv {a:Code} (f:lO z.g st) (i:lP z.h st) (j:jA z.g z.h=true) (c:J E C a z A):J E C a st A:=λb k d e=>c b k (d.ue f i j) e
def J.region {id:Nat} (c:fR E C B (List.range B.size) st (λa=>A .normal a)):J E C (.region id B false) st A:=
 λb i d e=>wp_region (c b i d _ (λa _a' _w' g f h=>⟨a,g,h,f.trans e⟩))
def J.skip (a:A .normal st):J E C .skip st A:=λ_ _ b c=>wp_skip ⟨st,a,b,c⟩
def J.exit {id:Nat} (a:A (.exit id) st):J E C (.exit id) st A:=λ_ _ b c=>wp_exit ⟨st,a,b,c⟩
def J.ret (a:A .ret st):J E C .ret st A:=λ_ _ b c=>wp_ret ⟨st,a,b,c⟩
def Sd (E:dA) (C:c8) (b:Code) (A:Exit->aA->Prop):Exit->aA->Prop
 |.normal,a=>J E C b a A
 |e,a=>A e a
def J.seq {d e:Code} (i:J E C d st (Sd E C e A)):J E C (.seq d e) st A:=λf m j k=>by
 refine wp_seq (wp_mono (i f m j k) ?_);rintro h g n ⟨l,a,b,c⟩;cases h with
 |normal=>exact a g n b c
 |_=>exact⟨l,a,b,c⟩
def J.cond {a:Operand} {l m:Code} {c:Bool} (n:aE st.g a=.val .bool c) (p:c=true->J E C l st A) (o:c=false->J E C m st A):J E C (.cond a l m) st A:=by
 rintro b k ⟨f,j,h,e⟩ i;have:=e.aE a;rw[n] at this;generalize q:b.eval a=s at this;cases this with|val r=>
 obtain⟨_,rfl⟩:=r;exact wp_cond_split q (λd=>p d b k ⟨f,j,h,e⟩ i) (λd=>o d b k ⟨f,j,h,e⟩ i)
def z6 (id:Nat) (A:Exit->aA->Prop):Exit->aA->Prop
 |.exit b,a=>match Nat.beq b id with
  |true=>A .normal a
  |false=>A (.exit b) a
 |e,a=>A e a
def J.block {id:Nat} {g:Code} (j:J E C g st (z6 id A)):J E C (.block id g) st A:=λh n k m=>by
 refine wp_block (wp_mono (j h n k m) ?_);rintro i o p ⟨f,a,b,c⟩;cases i with
 |exit e=>
  simp only[Exit.inBlock];simp only[z6] at a;by_cases d:e=id
  ·subst d;rw[oM] at a;rw[ak rfl];exact⟨f,a,b,c⟩
  have:Nat.beq e id=false:=by
   cases l:Nat.beq e id
   ·rfl
   exact absurd (dU l) d
  rw[this] at a;rw[ag d];exact⟨f,a,b,c⟩
 |_=>exact⟨f,a,b,c⟩
def ha {a c:Type} (b:a->Option (a⊕c)):Nat->a->Option c
 |0,_=>none
 |n+1,e=>match b e with
  |none=>none
  |some (.inl f)=>ha b n f
  |some (.inr d)=>some d
open Classical in
def loop {σ ρ:Type} (a:σ->Option (σ⊕ρ)) (d:σ):Option ρ:=
 if h:∃c,∃b,ha a b d=some c then some h.choose else none
def Bt {e g:Type} {f:e->Option (e⊕g)}:∀{n b:Nat} {d:e} {c:g},n<=b->ha f n d=some c->ha f b d=some c
 |0,_,_,_,_,a=>by cases a
 |n+1,0,_,_,a,_=>by omega
 |n+1,b+1,d,c,h,a=>by
  simp only[ha] at a|-;split at a
  ·cases a
  ·exact Bt U a
  exact a
def ve {e:y->Option (y⊕G)} {g:y} {b:G}:loop e g=some b↔∃a,ha e a g=some b:=by
 unfold loop;constructor
 ·intro f;split at f
  ·rename_i c;obtain⟨a,d⟩:=c.choose_spec;exact⟨a,by rw[d];exact f⟩
  cases f
 rintro⟨a,d⟩;have c:∃b,∃a,ha e a g=some b:=⟨b,a,d⟩;rw[dif_pos c];obtain⟨i,k⟩:=c.choose_spec;have j:=Bt (Nat.le_max_left a i) d;have h:=Bt (Nat.le_max_right a i) k;rw[j] at h;exact h.symm
def N0 (d:y->Option (y⊕G)) (e:y):loop d e=match d e with
 |none=>none
 |some (.inl g)=>loop d g
 |some (.inr f)=>some f:=by
 apply Option.ext;intro f;rw[ve];cases c:d e with
 |none=>
  simp only[reduceCtorEq,iff_false];rintro⟨b,a⟩;cases b with
  |zero=>cases a
  |succ b=>simp only[ha,c] at a;cases a
 |some i=>
  cases i with
  |inl g=>
   simp only;rw[ve];constructor
   ·rintro⟨b,a⟩;cases b with
    |zero=>cases a
    |succ b=>simp only[ha,c] at a;exact⟨b,a⟩
   rintro⟨b,a⟩;exact⟨b+1,by simp only[ha,c];exact a⟩
  |inr j=>
   simp only;constructor
   ·rintro⟨b,a⟩;cases b with
    |zero=>cases a
    |succ b=>simp only[ha,c] at a;exact a
   intro h;exact⟨1,by simp only[ha,c];exact h⟩
def J.loop {σ ρ L:Type} {c:Code} (h6:σ->aA) {z:σ->Option (σ⊕ρ)} {s:σ} {w:ρ->Option L} {K:L} (O:(loop z s).bind w=some K) (T:lO (h6 s).g st) (U:lP (h6 s).h st) (V:jA (h6 s).g (h6 s).h=true) (S:∀e l,z e=some l->(match l with|.inl _=>True|.inr I=>w I=some K)->J E C c (h6 e) (λd t=>match l with
  |.inl m=>d=.normal/\lO (h6 m).g t/\lP (h6 m).h t/\jA (h6 m).g (h6 m).h=true
  |.inr _=>(d=.normal->False)/\A d t)):J E C (.loop c) st A:=by
 obtain⟨I,Z,W⟩:=bP.1 O;obtain⟨r,a⟩:=ve.1 Z;have am:∀(r:Nat) (e:σ) (f:Act) (n:World),ha z r e=some I->ev C (h6 e) f.tmps n->f.defers=[]->∀(j:Frame) (w:List Item) (k:List Frame),
  ∃d v D,(∃t,A d t/\ev C t v.tmps D/\v.defers=[])/\Arrives E.P (lone (j.at f (.code c::.inLoop c::w)) k n) j w k d v D:=by
  intro r
  induction r with
  |zero=>intro e f n a;cases a
  |succ r ad=>
   intro e f n a F G j B k;simp only[ha] at a;cases H:z e with
   |none=>rw[H] at a;cases a
   |some l=>
    rw[H] at a;have R:=S e l H (by
     cases l with
     |inl m=>trivial
     |inr av=>simp only at a;cases a;exact W)
    obtain⟨d,o,u,⟨y,b,q,p⟩,i⟩:=R f n F G j (.inLoop c::B) k;cases l with
    |inl m=>
     simp only at a b;obtain⟨rfl,ao,an,ap⟩:=b;obtain⟨N,M,a0,Y,Q⟩:=ad m o u a (q.ue ao an ap) p j B k;exact⟨N,M,a0,Y,.of_steps (Steps.trans i (.one step_inLoop)) Q⟩
    |inr av=>
     obtain⟨X,b⟩:=b;cases d with
     |normal=>exact(X rfl).elim
     |exit id=>exact⟨_,o,u,⟨y,b,q,p⟩,.pass (x:=.inLoop c) rfl (λ_ _=>.inl ab) i⟩
     |goto a4=>exact⟨_,o,u,⟨y,b,q,p⟩,.pass (x:=.inLoop c) rfl (λ_ _=>.inl ab) i⟩
     |ret=>exact⟨_,o,u,⟨y,b,q,p⟩,.pass (x:=.inLoop c) rfl (λ_ _=>.inl ab) i⟩
     |panic a3=>exact⟨_,o,u,⟨y,b,q,p⟩,.pass (x:=.inLoop c) rfl (λ_ _=>.inl ab) i⟩
     |outgrown=>exact⟨_,o,u,⟨y,b,q,p⟩,.pass (x:=.inLoop c) rfl (λ_ _=>.inl ab) i⟩
 refine J.Tv T U V (λf n F G j B k=>?_);obtain⟨d,v,D,b,i⟩:=am r s f n a F G j B k;exact⟨d,v,D,b,.of_steps (.one step_loop) i⟩
end
end
def pz:bI->bI->Bool
 |.bm,_=>true
 |.dO,.dO=>true
 |.dO,.bm=>false
def sC:bI->Bool
 |.dO=>true
 |.bm=>false
def bK:ae->ae->Bool
 |.int i,.int j=>if i=j then true else false
 |.bool,.bool|.str,.str|.nil,.nil=>true
 |.aU c a,.aU d b=>pz c d&&bK a b
 |.osl a,.aU c b=>sC c&&bK a b
 |.ptr c a,.ptr d b=>pz c d&&bK a b
 |.st a,.st b=>bK a b
 |.pr e f,.pr g h=>bK e g&&bK f h
 |.mp a,.di c b=>sC c&&bK a b
 |.di c a,.di d b=>pz c d&&bK a b
 |_,_=>false
theorem pz.ok (e:∀c,l c->F c) {b:bI} (d:pz Q b=true) (a:aY V l Q c):aY V F b c:=by
 cases Q<;>cases b
 ·exact a
 ·exact .inl a
 ·cases d
 exact a.imp id (e c)
theorem sC.ok (a:sC Q=true):Q=.dO:=by cases Q;cases a;rfl
def bK.den:∀{d υ:ae},bK d υ=true->d.den=υ.den:=by
 intro d
 induction d with
 |aU f c b=>
  intro υ a;cases υ<;>simp only[bK] at a<;>try (cases a;done)
  simp only[a2] at a;exact congrArg List (b a.2)
 |ptr f c b=>
  intro υ a;cases υ<;>simp only[bK] at a<;>try (cases a;done)
  simp only[a2] at a;exact congrArg Option (b a.2)
 |osl c b=>
  intro υ a;cases υ<;>simp only[bK] at a<;>try (cases a;done)
  simp only[a2] at a;exact congrArg List (b a.2)
 |st c b=>
  intro υ a;cases υ with
  |st k=>exact b (υ:=k) (by simpa only[bK] using a)
  |_=>simp only[bK] at a;cases a
 |pr g h i j=>
  intro υ a;cases υ<;>simp only[bK] at a<;>try (cases a;done)
  simp only[a2] at a;show(g.den×h.den)=_;rw[i a.1,j a.2]
 |int l=>intro υ a;cases υ<;>simp only[bK] at a<;>first|rfl|cases a
 |bool=>intro υ a;cases υ<;>simp only[bK] at a<;>first|rfl|cases a
 |str=>intro υ a;cases υ<;>simp only[bK] at a<;>first|rfl|cases a
 |nil=>intro υ a;cases υ<;>simp only[bK] at a<;>first|rfl|cases a
 |optr c _=>intro υ a;cases υ<;>simp only[bK] at a<;>cases a
 |bJ=>intro υ a;cases υ<;>simp only[bK] at a<;>cases a
 |mp c b=>
  intro υ a;cases υ<;>simp only[bK] at a<;>try (cases a;done)
  simp only[a2] at a;exact congrArg (λe=>Option (List (Int×e)×Nat)) (b a.2)
 |di f c b=>
  intro υ a;cases υ<;>simp only[bK] at a<;>try (cases a;done)
  simp only[a2] at a;exact congrArg (λe=>Option (List (Int×e)×Nat)) (b a.2)
theorem bK.size:∀{c b:ae},bK c b=true->c.size=b.size:=by
 intro c
 induction c with
 |st i d=>intro b a;cases b<;>simp only[bK] at a<;>first|(simp only[ae.size];exact d a)|cases a
 |pr g h e f=>
  intro b a;cases b<;>simp only[bK] at a<;>try (cases a;done)
  simp only[a2] at a;simp only[ae.size];rw[e a.1,f a.2]
 |_=>intro b a;cases b<;>simp only[bK] at a<;>first|rfl|cases a
def Fh (l:y=G) {e:Option (List (Int×y)×Nat)} {i:Option (List (Int×G)×Nat)} (m:HEq e i):(e=none/\i=none)\/∃j c k,e=some (j,c)/\i=some (k,c)/\∀b:List (Int×Nat×y),hJ b j c->∃f:List (Int×Nat×G),hJ f k c/\f.length=b.length/\∀(h:Nat) (d:Int×Nat×G),f[h]?=some d->∃a:Int×Nat×y,b[h]?=some a/\a.1=d.1/\a.2.1=d.2.1/\HEq a.2.2 d.2.2:=by
 subst l;cases m;cases e with
 |none=>exact .inl ⟨rfl,rfl⟩
 |some g=>exact .inr ⟨g.1,g.2,g.1,rfl,rfl,λb n=>⟨b,n,rfl,λh a o=>⟨a,o,rfl,rfl,HEq.rfl⟩⟩⟩
def bK.bn {a b:ae} (d:bK a b=true) (c:cJ):bn b c=hX.bn a c:=by cases a<;>cases b<;>simp only[bK] at d<;>first|rfl|cases d
def Fg (f:G=y) {c:List G} {d:List y} (g:HEq c d):d.length=c.length/\∀(b:Nat) (a:y),d[b]?=some a->∃e,c[b]?=some e/\HEq e a:=by subst f;cases g;exact⟨rfl,λb a h=>⟨a,h,HEq.rfl⟩⟩
def M4 (e:y=G) {b:Option y} {c:Option G} (f:HEq b c):(b=none/\c=none)\/∃a d,b=some a/\c=some d/\HEq a d:=by
 subst e;cases f;cases b with
 |none=>exact .inl ⟨rfl,rfl⟩
 |some a=>exact .inr ⟨a,a,rfl,rfl,HEq.rfl⟩
def M5 {c d:Type} (e:y=c) (f:G=d) {a:y×G} {b:c×d} (g:HEq a b):HEq a.1 b.1/\HEq a.2 b.2:=by subst e;subst f;cases g;exact⟨HEq.rfl,HEq.rfl⟩
def aD.dO (L:∀c,F c->l c):∀{B υ:ae} {f:cJ} {x:B.den} {y:υ.den} {g:cP},bK B υ=true->HEq x y->aD (aY V F) e B f x g->(∀c∈g,l c)->aD (aY V l) e υ f y []:=by
 intro B
 induction B with
 |int d4=>
  intro υ f x y g a d b _;cases υ<;>simp only[bK] at a<;>try (cases a;done)
  split at a
  ·rename_i ap;subst ap;cases d;exact⟨rfl,b.2⟩
  cases a
 |bool=>intro υ f x y g a d b _;cases υ<;>simp only[bK] at a<;>first|(cases a;done)|(cases d;exact⟨rfl,b.2⟩)
 |str=>intro υ f x y g a d b _;cases υ<;>simp only[bK] at a<;>first|(cases a;done)|(cases d;exact⟨rfl,b.2⟩)
 |nil=>intro υ f x y g a d b _;cases υ<;>simp only[bK] at a<;>first|(cases a;done)|(cases d;exact⟨rfl,b.2⟩)
 |optr w _=>intro υ f x y g a;cases υ<;>simp only[bK] at a<;>cases a
 |bJ=>intro υ f x y g a;cases υ<;>simp only[bK] at a<;>cases a
 |mp w m=>
  intro υ f x y g a d b i;cases υ<;>simp only[bK] at a<;>try (cases a;done)
  simp only[a2] at a;obtain rfl:=sC.ok a.1;rcases Fh (bK.den a.2) d with⟨rfl,rfl⟩|⟨co,C,cs,rfl,rfl,k⟩
  ·exact⟨rfl,b.2⟩
  obtain⟨c,I,E,ao,u,M,v,A,S⟩:=b;obtain⟨G,N,j,k⟩:=k E M;refine⟨c,I,G,ao,rfl,N,.inr (i c (by rw[u];simp)),v,by rw[j];exact A,λh R O=>?_⟩;obtain⟨Q,n,p,J,K⟩:=k h R O;obtain⟨o,q,r,s⟩:=S h Q n;exact⟨o,by rw[<-bK.size a.2];exact q,by rw[r,bK.bn a.2,p,J],m a.2 K s ab⟩
 |di Z w m=>
  intro υ f x y g a d b i;cases υ<;>simp only[bK] at a<;>try (cases a;done)
  simp only[a2] at a;rcases Fh (bK.den a.2) d with⟨rfl,rfl⟩|⟨co,C,cs,rfl,rfl,k⟩
  ·exact⟨rfl,b.2⟩
  obtain⟨c,I,E,ao,u,M,z,v,A,S⟩:=b;obtain⟨G,N,j,k⟩:=k E M;refine⟨c,I,G,ao,rfl,N,pz.ok L a.1 z,v,by rw[j];exact A,λh R O=>?_⟩;obtain⟨Q,n,p,J,K⟩:=k h R O;obtain⟨o,q,r,s⟩:=S h Q n;exact⟨o,by rw[<-bK.size a.2];exact q,by rw[r,bK.bn a.2,p,J],m a.2 K s ab⟩
 |st w m=>
  intro υ f x y g a d b i;cases υ with
  |st D=>exact m (υ:=D) (x:=x) (y:=y) (by simpa only[bK] using a) d b i
  |_=>simp only[bK] at a;cases a
 |pr am c ce ci=>
  intro υ f x y g a d b i;cases υ<;>simp only[bK] at a<;>try (cases a;done)
  rename_i C d1;simp only[a2] at a;obtain⟨d2,f2,rfl,n,p⟩:=b;obtain⟨aj,av⟩:=M5 (bK.den a.1) (bK.den a.2) d;have Y:=bK.size a.1;exact⟨[],[],rfl,by rw[<-Y];exact ce a.1 aj n (λc z=>i c (by simp[z])),by rw[<-Y];exact ci a.2 av p (λc z=>i c (by simp[z]))⟩
 |aU Z w m=>
  intro υ f x y g a d b i;obtain⟨rfl,X,H,rfl,ao,u,v⟩:=b;cases υ<;>simp only[bK] at a<;>try (cases a;done)
  rename_i ad D;simp only[a2] at a;obtain⟨j,k⟩:=Fg (bK.den a.2) d;refine⟨rfl,X,H,by rw[j],by rw[j];exact ao,u,?_⟩;rcases v with rfl|⟨c,t,rfl,a3,bs⟩
  ·left;exact kU (by rw[j];rfl)
  right;refine⟨c,t,rfl,pz.ok L a.1 a3,λh T P=>?_⟩;obtain⟨W,n,p⟩:=k h T P;obtain⟨o,q,r,s⟩:=bs h W n;rw[<-bK.size a.2];exact⟨o,q,r,m a.2 p s ab⟩
 |osl w m=>
  intro υ f x y g a d b i;cases υ<;>simp only[bK] at a<;>try (cases a;done)
  rename_i ad D;simp only[a2] at a;obtain rfl:=sC.ok a.1;obtain⟨X,H,rfl,b⟩:=b;obtain⟨j,k⟩:=Fg (bK.den a.2) d;rcases b with⟨rfl,rfl,rfl,rfl⟩|⟨c,t,a0,rfl,rfl,ao,u,v,A⟩
  ·obtain rfl:y=[]:=kU (by rw[j];rfl);exact⟨rfl,none,0,rfl,aZ _,λ_=>rfl,.inl rfl⟩
  refine⟨rfl,some ⟨c,t,none⟩,H,by rw[j],by rw[j];exact u,(λa=>by cases a),.inr ⟨c,t,rfl,.inr (i c ab),λh T P=>?_⟩⟩;obtain⟨W,n,p⟩:=k h T P;have d3:h<x.length:=(ej.1 n).1;obtain⟨o,q,r,s⟩:=A h W (a0[h]'(by omega)) n ab
  rw[<-bK.size a.2];exact⟨o,q,r,m a.2 p s (λC bl=>i C (eH _ (hH.2 ⟨_,dm U,bl⟩)))⟩
 |ptr Z w m=>
  intro υ f x y g a d b i;obtain⟨rfl,b⟩:=b;cases υ<;>simp only[bK] at a<;>try (cases a;done)
  rename_i ad D;simp only[a2] at a;refine⟨rfl,?_⟩;rcases M4 (bK.den a.2) d with⟨rfl,rfl⟩|⟨am,c,rfl,rfl,a4⟩
  ·exact b
  obtain⟨an,t,o,cv,dl,ds,aT,d0⟩:=b;exact⟨an,t,o,cv,pz.ok L a.1 dl,by rw[<-bK.size a.2];exact ds,aT,m a.2 a4 d0 ab⟩
inductive kW:(τ:ae)->τ.den->(υ:ae)->υ.den->Prop
 |same {τ υ:ae} {x:τ.den} {y:υ.den} (h:bK τ υ=true) (M3:HEq x y):kW τ x υ y
 |ptr {t u:ae} {x:t.den} {y:u.den} (h:bK t u=true) (M3:HEq x y):kW (.optr t) x (.ptr .dO u) (some y)
def kW.rep {B:Nat->Prop} (g:∀a,B a->l a) {j:d.den} {k:o.den} (b:kW d j o k) (h:aD (aY F B) e d i j n) (f:∀a∈n,l a):aD (aY F l) e o i k []:=by
 cases b with
 |same b c=>exact h.dO g b c f
 |ptr b c=>
  obtain⟨a,r,u,p,rfl,rfl,ao,s,v,t⟩:=h;exact⟨rfl,a,r,p,rfl,.inr (f a ab),by rw[<-bK.size b];exact ao,s,t.dO g b c (λm q=>f m (by simp[q]))⟩
def kW.st {c:d.den} {e:o.den} (a:kW d c o e) (b:cJ):bn d b=bn o b:=by
 cases a with
 |same a _=>cases d<;>cases o<;>first|rfl|(simp only[bK] at a;cases a;done)
 |ptr a _=>rfl
section
def jq {c d e:Type} (b:c->d->e->Prop):List c->List d->List e->Prop
 |[],[],[]=>True
 |a::as,f::g,h::i=>b a f h/\jq b as g i
 |_,_,_=>False
def gd {c d:Type} (b:c->d->Prop):List c->List d->Prop
 |[],[]=>True
 |a::as,e::f=>b a e/\gd b as f
 |_,_=>False
theorem Du {d e:Type} {f:d->e->Prop}:∀{as:List d} {c:List e},gd f as c->c.length=as.length
 |[],[],_=>rfl
 |[],_::_,b=>b.elim
 |_::_,[],b=>b.elim
 |a::as,g::c,b=>by have:=Du b.2;grind
def zT {e f:Type} {c:e->f->Prop}:∀{as:List e} {d:List f} {g:List e} {h:List f},gd c as d->gd c g h->gd c (as++g) (d++h)
 |[],[],_,_,_,b=>b
 |[],_::_,_,_,b,_=>b.elim
 |_::_,[],_,_,b,_=>b.elim
 |a::as,j::d,_,_,b,i=>⟨b.1,zT b.2 i⟩
theorem wy {h i:Type} {f:h->i->Prop}:∀{as:List h} {c:List i},as.length=c.length->(∀(e:Nat) a b,as[e]?=some a->c[e]?=some b->f a b)->gd f as c
 |[],[],_,_=>trivial
 |[],_::_,d,_=>by cases d
 |_::_,[],d,_=>by cases d
 |a::as,b::c,d,g=>⟨g 0 a b rfl rfl,wy (by grind) (λe j k l m=>g (e+1) j k (by grind) (by grind))⟩
def zU {b g h:Type} {c:g->h->Prop} {d:b->g} {e:b->h} (f:∀x,c (d x) (e x)):∀a:List b,gd c (a.map d) (a.map e)
 |[]=>trivial
 |x::a=>⟨f x,zU f a⟩
inductive e5 where
 |v (t:ay)
 |m (t:ay) (y:t.1.den)
 |o (t:ay)
 |c (f:Nat) (TX:List ay)
 |n
 |s (f:Nat) (l:cP)
 |w (σ:ae) (xs:List σ.den) (lo hi:Nat) (vX:List σ.den)
def tw (I c:Nat->Prop) (w:World) (a:ay) (d:Value):Prop:=∃b,d=bn a.1 b/\aD (aY I c) w a.1 b a.2 []
def tn (I f:Nat->Prop) (w:World):e5->Value->cP->Prop
 |.v b,d,a=>a=[]/\∃e,d=bn b.1 e/\aD (aY I f) w b.1 e b.2 []
 |.m b _,d,a=>∃e,d=bn b.1 e/\aD (aY I f) w b.1 e b.2 a
 |.o b,d,a=>∃e,d=bn b.1 e/\aD (aY I f) w b.1 e b.2 a
 |.n,d,a=>a=[]/\d=.slice none 0 0
 |.s _ _,_,a=>a=[]
 |.w q h g j _,d,a=>∃k l i,d=.slice (some ⟨k,l+g*q.size,none⟩) (j-g) (i-g)/\(g<j/\j<=h.length/\h.length<=i)/\aD (aY I f) w (.osl q) [.slice (some ⟨k,l,none⟩) h.length i] h a
 |.c r t,d,a=>a=[]/\∃p:cJ,d=.func (.func r) #[] p.toArray/\gd (tw I f w) t p
def mf:Nat->List e5->Option cl
 |_,[]=>none
 |k,.s a b::_=>some (k,a,b)
 |k,_::c=>mf (k+1) c
def Df (w:World) (b:cJ) (i:cE):Option cl->Prop
 |none=>True
 |some (d,h,e)=>d<b.length/\(∀c∈e,c<b.length)/\∃a f g,b.getD d undef=.pointer (some ⟨a,f,none⟩)/\a<w.heap.size/\a∉i.flatten/\w.cell? ⟨a,f,none⟩=some (.func (.func h) #[] g)/\g.toList=e.map λc=>b.getD c undef
def tp (I e:Nat->Prop) (w:World):e5->Value->cP->Prop
 |.m i n,d,a=>∃g,d=bn i.1 g/\aD (aY I e) w i.1 g n a
 |.w j l b k o,d,a=>∃f h c,d=.slice (some ⟨f,h+b*j.size,none⟩) (k-b) (c-b)/\b<c/\aD (aY I e) w (.osl j) [.slice (some ⟨f,h,none⟩) l.length c] o a
 |_,_,a=>a=[]
def wl (I:Nat->Prop) (w:World) (a:ay) (d:Value) (c:cP):Prop:=∃b,d=bn a.1 b/\aD (aY I (λ_=>False)) w a.1 b a.2 c
def m6:cJ->Value
 |[v]=>v
 |vs=>.tuple vs.toArray
structure De (I B:Nat->Prop) (w:World) (fs:cE) (args:List e5) (vs:cJ) (res:List ay) (I':Nat->Prop) (gs hs:cE) (R8:cJ) (w':World):Prop where
 args:jq (tp I' B w') args vs gs
 res:jq (wl I' w') res R8 hs
 sU:(gs.flatten++hs.flatten).Nodup
 D4:∀b∈gs.flatten++hs.flatten,¬I' b/\¬B b/\b<w'.heap.size/\(w.heap.size<=b\/b∈fs.flatten)
 i:∀b,I b->I' b
 i2:∀b,I' b->I b\/(b<w'.heap.size/\(w.heap.size<=b\/b∈fs.flatten))
 size:w.heap.size<=w'.heap.size
 os:w'.os=w.os
 tape:w'.tape=w.tape
 output:w'.output=w.output
 evo:∀b,b<w.heap.size->hU w w' b
 heap:∀b,b<w.heap.size->b∉fs.flatten->w'.heap[b]?=w.heap[b]?
def iw (E:dA) (I:Nat->Prop) (w:World):Prop:=∀a∈E.glob,aD (aY I λ_=>False) w (.aU .bm (.int a.k)) [.slice (some ⟨a.b,0,none⟩) a.xs.length a.xs.length] a.xs []
def iw.mono {E:dA} {I I':Nat->Prop} {w w':World} (g:iw E I w) (c:∀a,I a->I' a) (i:∀a,I a->w'.heap[a]?=w.heap[a]?):iw E I' w':=λf h=>
 (g f h).mono (λe a d=>by
  have b:I a:=(by cases e;exact d;exact d.elim id False.elim);exact⟨by cases e;exact c a b;exact .inl (c a b),br.of_heap (i a b)⟩) (λa b=>by cases b)
def oB (E:dA) (h:FuncId) (e:List e5) (k:List ay):Prop:=
 ∀(w:World) (I c:Nat->Prop) (d:cJ) (b:cE),(∀a,I a\/c a->a<w.heap.size)->jq (tn I c w) e d b->b.flatten.Nodup->(∀a∈b.flatten,¬I a/\¬c a/\a<w.heap.size)->Df w d b (mf 0 e)->iw E I w->Calls E.P h d.toArray w (λg w'=>∃I' i j f,g=.returned (m6 f)/\De I c w b e d k I' i j f w')
def ae.dS:ae->Bool
 |.aU .dO _|.ptr .dO _|.di .dO _=>false
 |.aU .bm a|.ptr .bm a|.osl a|.optr a|.st a|.mp a|.di .bm a=>a.dS
 |.pr b c=>b.dS&&c.dS
 |_=>true
def oy:ae->Bool
 |.pr _ _|.nil|.bJ=>false
 |_=>true
def RB (b:oy d=true) (c:i.length=d.size) (e:A.length=d.size) (a:bn d i=bn d A):i=A:=by
 have h:d.size=1->bn d i=i.headD undef->bn d A=A.headD undef->i=A:=(by intro g aj f;rw[g] at c e;obtain⟨k,rfl⟩:=rL.1 c;obtain⟨l,rfl⟩:=rL.1 e;rw[aj,f] at a;simpa using a);cases d with
 |st j=>have a:Value.agg i.toArray=Value.agg A.toArray:=a;simpa using a
 |pr=>cases b
 |nil=>cases b
 |bJ=>cases b
 |_=>exact h rfl rfl rfl
def pU (g:List (Nat×ay)) (f:cP):ah->ay->Prop
 |.val b i,a=>kW b i a.1 a.2
 |.bu d,a=>gw a.1 d.cells.toList=some a.2/\bn a.1 d.cells.toList=d
 |.ref id h,a=>bU id f=false/\∃c b e,ai g id=some c/\bH c.1 c.2 h b e/\kW b e a.1 a.2
 |_,_=>False
def I8 (b:List (Nat×ay)) (f:cP):ah->e5->Prop
 |av,.v a=>pU b f av a
 |.ref id [],.m a _=>ai b id=some a/\a.1.dS=true/\oy a.1=true
 |.ref id [],.o a=>ai b id=some a
 |.bY l d,.c k p=>l=k/\gd (pU b f) d p
 |.bu e,.o a=>e=.slice none 0 0/\∃r,a=⟨.osl r,[]⟩
 |.bu e,.n=>e=.slice none 0 0
 |.view id [] h g,.w i q d j _=>ai b id=some ⟨.osl i,q⟩/\(d=h/\j=g)/\h<g/\i.dS=true
 |_,.s _ _=>True
 |_,_=>False
def lv (c:List (Nat×ay)) (b:cP):List ah->List e5->Prop
 |[],[]=>True
 |a::as,d::e=>I8 c b a d/\lv c b as e
 |_,_=>False
def dZ:List ah->List e5->cP
 |.ref id []::as,.m _ _::a=>id::dZ as a
 |.ref id []::as,.o _::a=>id::dZ as a
 |.view id [] _ _::as,.w _ _ _ _ _::a=>id::dZ as a
 |_::as,_::a=>dZ as a
 |_,_=>[]
def jC:List ah->List e5->cP
 |.ref id []::as,.m _ _::a=>id::jC as a
 |.view id [] _ _::as,.w _ _ _ _ _::a=>id::jC as a
 |_::as,_::a=>jC as a
 |_,_=>[]
def hp:List ah->List e5->List (Nat×ay)
 |.ref id []::as,.m b c::a=>(id,⟨b.1,c⟩)::hp as a
 |.view id [] _ _::as,.w e _ _ _ d::a=>(id,⟨.osl e,d⟩)::hp as a
 |_::as,_::a=>hp as a
 |_,_=>[]
def oh (a:Nat) (c:Bool) (b:Nat):Nat:=bif c then a else 1000*(a+1)+b
def pI (b:Nat) (c:Bool):Nat->List ay->List ah
 |_,[]=>[]
 |j,a::d=>(bif a.1.pure then .val a.1 a.2 else .ref (oh b c j) [])::pI b c (j+1) d
def gB (a:Nat) (b:Bool):Nat->List ay->List (Nat×ay)
 |_,[]=>[]
 |j,d::c=>bif d.1.pure then gB a b (j+1) c else(oh a b j,d)::gB a b (j+1) c
def ri (a:Nat):List ay->ah
 |[t]=>bif t.1.pure then .val t.1 t.2 else .ref a []
 |l=>.dh (pI a false 0 l)
def gj:List ay->Bool
 |[_]=>true
 |_=>false
def gX:cP->Bool
 |[]=>true
 |a::b=>!(bU a b)&&gX b
theorem gX.ok:∀{c:cP},gX c=true->c.Nodup
 |[],_=>List.nodup_nil
 |a::e,b=>by simp only[gX,a2,Bool.not_eq_true'] at b;exact hZ.2 ⟨(λd=>by rw[eN.2 d] at b;cases b.1),gX.ok b.2⟩
def KH (c:Nat) (st:aA) (b:List ah) (a:List e5) (d:List ay):aA:=
 ⟨(c,ri c d)::kill (dZ b a) (sE (jC b a)) st.g,(hp b a++gB c (gj d) 0 d)++del (dZ b a) st.h⟩
theorem aD.dS {I G B':Nat->Prop} {w:World}:∀{τ:ae} {e:cJ} {b:τ.den} {f:cP},τ.dS=true->aD (aY I G) w τ e b f->aD (aY I B') w τ e b f:=by
 intro τ
 induction τ with
 |aU n l h=>
  intro e b f d a;cases n
  ·obtain⟨o,r,s,ao,g,j,k⟩:=a;refine⟨o,r,s,ao,g,j,k.imp id ?_⟩;rintro⟨c,i,N,v,P⟩;refine⟨c,i,N,v,λp D F=>?_⟩;obtain⟨m,H,J,K⟩:=P p D F;exact⟨m,H,J,h (by simpa only[ae.dS] using d) K⟩
  grind [ae.dS]
 |ptr n l h=>
  intro e b f d a;cases n
  ·obtain⟨o,ao⟩:=a;refine⟨o,?_⟩;cases b with
   |none=>exact ao
   |some D=>
    obtain⟨c,i,m,z,A,B,aT,C⟩:=ao;exact⟨c,i,m,z,A,B,aT,h (by grind [ae.dS]) C⟩
  grind [ae.dS]
 |osl l h=>
  intro e b f d a;obtain⟨r,s,ao,g⟩:=a;refine⟨r,s,ao,g.imp id ?_⟩;rintro⟨c,i,M,z,A,B,aT,C,V⟩;refine⟨c,i,M,z,A,B,aT,C,λp D E F U=>?_⟩;grind [ae.dS]
 |optr l h=>
  intro e b f d a;obtain⟨c,i,E,m,ao,g,j,k,y,S⟩:=a;exact⟨c,i,E,m,ao,g,j,k,y,h (by grind [ae.dS]) S⟩
 |st l h=>intro e b f d a;exact h (by grind [ae.dS]) a
 |mp l h=>
  intro e b f d a;cases b with
  |none=>exact a
  |some x=>
   obtain⟨c,t,q,ao,g,u,j,k,y⟩:=a;refine⟨c,t,q,ao,g,u,j,k,λp x O=>?_⟩;grind [ae.dS]
 |di n l h=>
  intro e b f d a;cases n
  ·cases b with
   |none=>exact a
   |some x=>
    obtain⟨c,t,q,ao,g,u,v,j,k,y⟩:=a;refine⟨c,t,q,ao,g,u,v,j,k,λp x O=>?_⟩;grind [ae.dS]
  grind [ae.dS]
 |pr T c Q R=>
  intro e b f d a;simp only[ae.dS,a2] at d;obtain⟨L,f2,o,ao,g⟩:=a;exact⟨L,f2,o,Q d.1 ao,R d.2 g⟩
 |_=>intro e b f d a;exact a
theorem FL {e f:Type} (c:e->f):∀(b:List (Nat×e)) (a:Nat),ai (b.map λd=>(d.1,c d.2)) a=(ai b a).map c
 |[],_=>rfl
 |(g,v)::b,a=>by rw[eG,bv,bv,FL c b a];grind
abbrev tO:=ay×cJ×cP
def eF (rt:Nat->cJ):List ah->List e5->cE->List (Nat×tO)
 |.ref id []::as,.m d e::a,c::b=>(id,(⟨d.1,e⟩,rt id,c))::eF rt as a b
 |.view id [] _ _::as,.w g _ _ _ f::a,c::b=>(id,(⟨.osl g,f⟩,rt id,c))::eF rt as a b
 |_::as,_::a,_::b=>eF rt as a b
 |_,_,_=>[]
def it (a:Nat) (b:Bool):Nat->List ay->cA->cE->List (Nat×tO)
 |j,f::e,g::c,h::d=>bif f.1.pure then it a b (j+1) e c d else(oh a b j,(f,g,h))::it a b (j+1) e c d
 |_,_,_,_=>[]
theorem Hd {rt:Nat->cJ}:∀{as:List ah} {bs:List e5} {gs:cE},gs.length=bs.length->(eF rt as bs gs).map (λf=>(f.1,f.2.1))=hp as bs
 |[],bs,gs,_=>by cases bs<;>cases gs<;>rfl
 |a::as,[],gs,e=>by cases gs with
  |nil=>cases a<;>first|rfl|(rename_i id b;cases b<;>rfl)|(rename_i id b h g;cases b<;>rfl)
  |cons=>cases e
 |a::as,c::bs,[],e=>by cases e
 |a::as,c::bs,i::gs,e=>by
  have d:=Hd (rt:=rt) (as:=as) (bs:=bs) (gs:=gs) (by grind);cases a with
  |ref id b=>cases b with
   |nil=>cases c<;>simp only[eF,hp,eG,d]
   |cons=>cases c<;>simp only[eF,hp,d]
  |view id b h g=>cases b with
   |nil=>cases c<;>simp only[eF,hp,eG,d]
   |cons=>cases c<;>simp only[eF,hp,d]
  |_=>cases c<;>simp only[eF,hp,d]
theorem zb {d:Nat} {s:Bool}:∀{j:Nat} {res:List ay} {cs:cA} {hs:cE},cs.length=res.length->hs.length=res.length->(it d s j res cs hs).map (λe=>(e.1,e.2.1))=gB d s j res
 |j,[],cs,hs,a,b=>by cases cs<;>cases hs<;>simp[it,gB]
 |j,f::c,[],hs,a,b=>by cases a
 |j,f::c,g::cs,[],a,b=>by cases b
 |j,f::c,g::cs,h::hs,a,b=>by have i:=zb (d:=d) (s:=s) (j:=j+1) (res:=c) (cs:=cs) (hs:=hs) (by grind) (by grind);simp only[it,gB];grind
section
variable {C:c8} {st:aA} {A:cH} {w w':World} {I I' B':Nat->Prop} {rt:Nat->cJ} {fp:Nat->cP}
theorem He (D:bg C st A w I rt fp) {S:cP}:∀{avs:List ah} {t:cJ} {args:List e5} {gs:cE},gd (bk (aY I C.B) w st.h rt fp) avs t->lv st.h S avs args->jq (tp I' B' w') args t gs->∀a∈eF rt avs args gs,aD (aY I' C.B) w' a.2.1.1 a.2.2.1 a.2.1.2 a.2.2.2/\a.2.2.1=rt a.1/\a.1∈dZ avs args/\∃g,ai st.h a.1=some g/\a.2.1.1=g.1
 |[],t,args,gs,l,p,q,a,b=>by cases args<;>cases gs<;>cases b
 |x::i,t,[],gs,l,p,q,a,b=>by cases x<;>exact p.elim
 |x::i,[],d::u,gs,l,p,q,a,b=>l.elim
 |x::i,v::t,d::u,[],l,p,q,a,b=>q.elim
 |av::i,v::t,d::u,X::gs,l,p,q,a,b=>by
  obtain⟨M,Y⟩:=l;obtain⟨J,Z⟩:=p;obtain⟨K,ad⟩:=q;have am:=He D (S:=S) (avs:=i) (args:=u) (gs:=gs) Y Z ad;have e:a∈eF rt i u gs->aD (aY I' C.B) w' a.2.1.1 a.2.2.1 a.2.1.2 a.2.2.2/\a.2.2.1=rt a.1/\a.1∈dZ (av::i) (d::u)/\∃g,ai st.h a.1=some g/\a.2.1.1=g.1:=by
   intro b;obtain⟨ao,P,r,G⟩:=am a b;refine⟨ao,P,?_,G⟩;cases av with
   |ref id f=>cases f<;>cases d<;>simp only[dZ]<;>first|exact eH _ r|exact r
   |view id f O L=>cases f<;>cases d<;>simp only[dZ]<;>first|exact eH _ r|exact r
   |_=>cases d<;>exact r
  cases av with
  |ref id f=>
   cases f with
   |cons s f=>exact e (by cases d<;>exact b)
   |nil=>
    cases d with
    |v g=>exact e b
    |o g=>exact e b
    |c n d1=>exact e b
    |n=>exact e b
    |s ci an=>exact e b
    |w a3 i O L Q=>exact e b
    |m g d2=>
     simp only[eF,dw] at b;rcases b with rfl|b
     ·obtain⟨j,N,F⟩:=J;obtain⟨bs,k,z⟩:=K;cases M with|ref y E=>
      rw[j] at y;cases y;obtain⟨rfl,rfl,rfl⟩:=aF.ei.1 E;have:=RB F (D.tree id _ j).1.len z.len k;subst this;exact⟨z.dS N,rfl,by simp[dZ],g,j,rfl⟩
     grind
  |view id f O L=>
   cases f with
   |cons s f=>exact e (by cases d<;>exact b)
   |nil=>
    cases d with
    |w a3 i an k Q=>
     simp only[eF,dw] at b;rcases b with rfl|b
     ·obtain⟨j,⟨rfl,rfl⟩,N,F⟩:=J;obtain⟨d,o,T,k,co,z⟩:=K;cases M with
      |jg=>omega
      |view y E ao P r=>
      rename_i d0 d3 cs R a0 ap V;rw[j] at y;cases y;obtain⟨aj,ce,W⟩:=aF.ei.1 E;simp only[ae.osl.injEq] at aj;subst aj;obtain⟨a4,bl,G,_⟩:=(D.tree id _ j).1;have H:rt id=[.slice (some ⟨R,a0,none⟩) ap V]:=W;rw[G] at H;simp only[fd,Value.slice.injEq,and_true] at H;rw[ag U] at k;simp only[Value.slice.injEq,bw,Addr.mk.injEq,and_true] at k;obtain⟨⟨cv,dl⟩,ds,aT⟩:=k;have:rt id=[.slice (some ⟨d,o,none⟩) i.length T]:=(by grind);refine⟨?_,rfl,by simp[dZ],_,j,rfl⟩;show aD (aY I' C.B) w' (.osl _) (rt id) Q X;rw[this];exact z.dS F
     grind
    |_=>exact e b
  |_=>exact e (by cases d<;>exact b)
theorem Hc {x:cP}:∀{as:List ah} {r:List e5} {g:cJ} {e:cE},lv st.h x as r->jq (tp I' B' w') r g e->((eF rt as r e).map (λz=>z.2.2.2)).flatten=e.flatten
 |[],[],g,e,f,d=>by cases g<;>cases e<;>first|rfl|exact d.elim
 |[],q::t,g,e,f,d=>f.elim
 |a::as,[],g,e,f,d=>by cases a<;>exact f.elim
 |a::as,q::t,[],e,f,d=>d.elim
 |a::as,q::t,v::g,[],f,d=>d.elim
 |a::as,q::t,v::g,k::e,f,d=>by
  have y:=Hc (as:=as) f.2 d.2;have l:=f.1;have p:=d.1;rw[iB,<-y];cases q with
  |m u F=>
   cases a with
   |ref id b=>cases b with
    |nil=>grind [List.flatten_cons,eF]
    |cons=>exact l.elim
   |_=>exact l.elim
  |w H E C B G=>
   cases a with
   |view id b i j=>cases b with
    |nil=>grind [List.flatten_cons,eF]
    |cons=>exact l.elim
   |ref id b=>cases b<;>exact l.elim
   |_=>exact l.elim
  |v u=>
   have:k=[]:=p;subst this;cases a with
   |ref id b=>grind [eF]
   |view id b i j=>grind [eF]
   |_=>simp only[eF,g4]
  |o u=>
   have:k=[]:=p;subst this;cases a with
   |ref id b=>grind [eF]
   |view id b i j=>grind [eF]
   |_=>simp only[eF,g4]
  |n=>
   have:k=[]:=p;subst this;cases a with
   |ref id b=>grind [eF]
   |view id b i j=>grind [eF]
   |_=>simp only[eF,g4]
  |s A i=>
   have:k=[]:=p;subst this;cases a with
   |ref id b=>grind [eF]
   |view id b i j=>grind [eF]
   |_=>simp only[eF,g4]
  |c n D=>
   have:k=[]:=p;subst this;cases a with
   |ref id b=>grind [eF]
   |view id b i j=>grind [eF]
   |_=>simp only[eF,g4]
theorem HB {I:Nat->Prop}:∀{f:List ay} {c:cJ} {b:cE},jq (wl I w) f c b->∃h:cA,h.length=f.length/\b.length=f.length/\c.length=f.length/\∀(e:Nat) (t:ay) (d:cJ) (a:cP) (g:Value),f[e]?=some t->h[e]?=some d->b[e]?=some a->c[e]?=some g->g=bn t.1 d/\aD (aY I (λ_=>False)) w t.1 d t.2 a
 |[],c,b,a=>by cases c<;>cases b<;>first|exact⟨[],rfl,rfl,rfl,λe t d a g r=>by grind⟩|exact a.elim
 |t::i,[],b,a=>a.elim
 |t::i,g::c,[],a=>a.elim
 |t::i,g::c,p::b,a=>by obtain⟨⟨d,l,u⟩,j⟩:=a;obtain⟨h,v,x,y,s⟩:=HB j;refine⟨d::h,by grind,by grind,by grind,λe z k q A aj m n o=>?_⟩;grind
theorem HD {m:Nat} {n:Bool}:∀{j:Nat} {i:List ay} {c:cA} {d:cE},c.length=i.length->d.length=i.length->∀a∈it m n j i c d,∃e:Nat,i[e]?=some a.2.1/\c[e]?=some a.2.2.1/\d[e]?=some a.2.2.2
 |j,[],c,d,f,g,a,b=>by cases c<;>cases d<;>simp[it] at b
 |j,k::h,[],d,f,g,a,b=>by cases f
 |j,k::h,l::c,[],f,g,a,b=>by cases g
 |j,k::h,l::c,q::d,f,g,a,b=>by
  simp only[it] at b;have s:a∈it m n (j+1) h c d->∃e,(k::h)[e]?=some a.2.1/\(l::c)[e]?=some a.2.2.1/\(q::d)[e]?=some a.2.2.2:=λb=>(by obtain⟨e,aj,o,p⟩:=HD (by grind) (by grind) a b;exact⟨e+1,by rw[nz];exact aj,by rw[nz];exact o,by rw[nz];exact p⟩);cases r:k.1.pure
  ·rw[r] at b;simp only[cond_false,dw] at b;rcases b with rfl|b
   ·exact⟨0,rfl,rfl,rfl⟩
   grind
  grind
theorem HC {d:Nat} {s:Bool}:∀{j:Nat} {res:List ay} {cs:cA} {hs:cE},((it d s j res cs hs).map (λe=>e.2.2.2)).flatten.Sublist hs.flatten
 |j,[],cs,hs=>by simp[it]
 |j,b::a,[],hs=>by simp[it]
 |j,b::a,c::cs,[]=>by simp[it]
 |j,b::a,c::cs,f::hs=>by have g:=HC (d:=d) (s:=s) (j:=j+1) (res:=a) (cs:=cs) (hs:=hs);simp only[it];grind
theorem DN (o:bg C st A w I rt fp) (g:∀b,C.B b->B' b) (m:∀id a,ai st.h id=some a->bU id n=false->∀b∈fp id,B' b) (d:bk (aY I C.B) w st.h rt fp L E) {a:ay} (c:pU st.h n L a):∃f,E=bn a.1 f/\aD (aY I B') w a.1 f a.2 []:=by
 cases L with
 |val l k=>
  have c:kW l k a.1 a.2:=c;cases d with|val v=>
  exact⟨_,c.st _,c.rep g v ab⟩
 |bu F=>
  obtain⟨ao,z⟩:=c;cases d;grind [mP]
 |ref id y=>
  obtain⟨p,D,l,k,e,u,j⟩:=c;cases d with|ref i s=>
  rw[e] at i;cases i;obtain⟨rfl,x,t,_,r⟩:=o.ig e u s;exact⟨_,j.st _,j.rep g t (λb q=>m id _ e p b (r b q))⟩
 |_=>exact c.elim
def DQ (i:bg C st A w I rt fp) {c:cP} (f:∀b,C.B b->B' b) (g:∀id l,ai st.h id=some l->bU id c=false->∀b∈fp id,B' b):∀{d:List ah} {k:cJ} {j:List ay},gd (bk (aY I C.B) w st.h rt fp) d k->gd (pU st.h c) d j->gd (tw I B' w) j k
 |[],[],[],_,_=>trivial
 |[],_::_,_,a,_=>a.elim
 |_::_,[],_,a,_=>a.elim
 |[],_,_::_,_,a=>a.elim
 |_::_,_,[],_,a=>a.elim
 |_::_,_::_,_::_,a,e=>⟨DN i f g a.1 e.1,DQ i f g a.2 e.2⟩
theorem DS (r:bg C st A w I rt fp) {S:cP} (E:∀d,C.B d->B' d) (H:∀id q,ai st.h id=some q->bU id S=false->∀d∈fp id,B' d):∀{F:List ah} {t:cJ} {args:List e5},gd (bk (aY I C.B) w st.h rt fp) F t->lv st.h S F args->∃e,jq (tn I B' w) args t e/\e.flatten=((dZ F args).map fp).flatten
 |[],t,args,i,g=>by cases args with
  |nil=>cases t with
   |nil=>exact⟨[],trivial,rfl⟩
   |cons=>exact i.elim
  |cons=>exact g.elim
 |x::l,t,[],i,g=>by cases x<;>exact g.elim
 |x::l,[],d::u,i,g=>i.elim
 |av::l,v::t,d::u,i,g=>by
  obtain⟨p,i⟩:=i;obtain⟨a,X⟩:=g;obtain⟨e,f,W⟩:=DS r E H i X;cases d with
  |v q=>
   have D:dZ (av::l) (.v q::u)=dZ l u:=by cases av<;>first|rfl|(rename_i id b;cases b<;>rfl)|(rename_i id b z D;cases b<;>rfl)
   have a:pU st.h S av q:=(by cases av<;>exact a);exact⟨[]::e,⟨⟨rfl,DN r E H p a⟩,f⟩,by grind⟩
  |s V z=>
   have D:dZ (av::l) (.s V z::u)=dZ l u:=by cases av<;>first|rfl|(rename_i id b;cases b<;>rfl)|(rename_i id b z D;cases b<;>rfl)
   exact⟨[]::e,⟨rfl,f⟩,by grind⟩
  |n=>
   cases av with
   |bu Q=>
    obtain rfl:Q=.slice none 0 0:=a;cases p;exact⟨[]::e,⟨⟨rfl,rfl⟩,f⟩,by grind [dZ]⟩
   |ref id b=>cases b<;>exact a.elim
   |_=>exact a.elim
  |c n d2=>
   cases av with
   |bY m z=>
    obtain⟨rfl,a⟩:=a;cases p with|bY ci Y=>
    rename_i ap;refine⟨[]::e,⟨⟨rfl,ap.toList,rfl,DQ r E H (wy U (λad R d f W=>Y ad R d f (by grind))) a⟩,f⟩,by grind [dZ]⟩
   |ref id b=>cases b<;>exact a.elim
   |_=>exact a.elim
  |w a0 l cs ce d4=>
   cases av with
   |view id b z D=>cases b with
    |nil=>
     obtain⟨k,⟨rfl,rfl⟩,J,am⟩:=a;cases p with
     |jg=>omega
     |view j y ao dl ds=>
     rename_i d1 d5 cv K P O L;rw[k] at j;cases j;obtain⟨aj,bs,T⟩:=aF.ei.1 y;simp only[ae.osl.injEq] at aj;subst aj;have N:=(r.tree id _ k).1;have G:rt id=[.slice (some ⟨K,P,none⟩) O L]:=T;have Z:=N;obtain⟨a4,bl,an,d0⟩:=Z;rw[an] at G;simp only[fd,Value.slice.injEq,and_true] at G;have co:l.length=O:=G.2.1;refine⟨fp id::e,⟨⟨K,P,L,?_,⟨J,U,U⟩,?_⟩,f⟩,by grind [List.flatten_cons,dZ]⟩
     ·rw[ag U]
     have:=aD.dS (τ:=.osl a0) (B':=B') am N;grind
    |cons=>exact a.elim
   |ref id b=>cases b<;>exact a.elim
   |_=>exact a.elim
  |m q d3=>
   cases av with
   |ref id b=>cases b with
    |nil=>
     obtain⟨k,J,_⟩:=a;cases p with|ref j y=>
     rw[k] at j;cases j;obtain⟨rfl,rfl,rfl⟩:=aF.ei.1 y;exact⟨fp id::e,⟨⟨rt id,rfl,(r.tree id _ k).1.dS J⟩,f⟩,by grind [List.flatten_cons,dZ]⟩
    |cons=>exact a.elim
   |_=>exact a.elim
  |o q=>
   cases av with
   |ref id b=>cases b with
    |nil=>
     have k:ai st.h id=some q:=a;cases p with|ref j y=>
     rw[k] at j;cases j;obtain⟨rfl,rfl,rfl⟩:=aF.ei.1 y;refine⟨fp id::e,⟨⟨rt id,rfl,(r.tree id _ k).1.mono (λm d M=>⟨?_,br.refl w d⟩) (λd _=>br.refl w d)⟩,f⟩,by grind [List.flatten_cons,dZ]⟩;cases m
     ·exact M
     exact M.imp (λg=>g) (E d)
    |cons=>exact a.elim
   |bu Q=>
    obtain⟨rfl,a3,rfl⟩:=a;cases p;exact⟨[]::e,⟨⟨[.slice none 0 0],rfl,none,0,rfl,.inl ⟨rfl,rfl,rfl,rfl⟩⟩,f⟩,by grind [dZ]⟩
   |_=>exact a.elim
end
end
end Go.hX
end
