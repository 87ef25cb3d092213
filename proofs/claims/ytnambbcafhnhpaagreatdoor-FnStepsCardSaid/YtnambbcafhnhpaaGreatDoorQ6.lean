import Derived.Test.YtnambbcafhnhpaaGreatDoorQ4
import Derived.Lib.ItoaMem
namespace Go.Proofs.YtnambbcafhnhpaaGreatDoor
open Go.RowKit
set_option linter.unusedVariables false
set_option linter.unusedSimpArgs false
structure b8 (s:aF.T):Prop where
 pos:(0:Int)≤s.2.1
 le:(s.2.1:Int)≤(s.1.length:Int)
 len:s.1.length≤maxLen
 bytes:∀b ∈ s.1,(0:Int)≤b∧(b:Int)≤255
 seed0:(0:Int)≤s.2.2.1
 seed1:(s.2.2.1:Int)<2147483647
def drawn(n v:Int):Prop:=0≤v∧(v<n∨(n≤1∧v=0))
theorem yV {m n:Int}(hm:0≤m)(hn:0<n):0≤Int.tmod m n∧Int.tmod m n<n:=⟨Int.tmod_nonneg n hm,Int.tmod_lt_of_pos m hn⟩
theorem aci(s:Int)(h0:0≤s)(h1:s<2147483647):IntKind.i64.wrap (IntKind.i64.wrap (s*48271)+17)=s*48271+17:=by
 rw[wrap_i64 (n:=s*48271) (by omega) (by omega),wrap_i64 (by omega) (by omega)]
def pc(s:Int):Int:=Int.tmod (s*48271+17) 2147483647
theorem adX(s:Int)(h0:0≤s)(h1:s<2147483647):0≤pc s∧pc s<2147483647:=yV (by omega) (by omega)
theorem Sw(s:aF.T)(n:Int)(hs:b8 s):∃(v:Int) (s':aF.T),al (s,n,())=some (v,s',())∧drawn n v∧b8 s':=by
 obtain⟨l,(p:Int),(c:Int),u⟩:=s
 have p0:0≤p:=hs.pos
 have p1:p≤(l.length:Int):=hs.le
 have pl:l.length≤9223372036854775807:=hs.len
 have c0:0≤c:=hs.seed0
 have c1:c<2147483647:=hs.seed1
 obtain⟨n0,n1⟩:=adX c c0 c1
 have hw:=aci c c0 c1
 unfold al
 by_cases hn:n≤1
 ·exact⟨0,(l,p,c,u),by simp only[decide_eq_true hn],⟨by omega,Or.inr ⟨hn,rfl⟩⟩,hs⟩
 ·have hn0:n≠0:=by omega
  have hnp:0<n:=by omega
  have hdiv:Int.tdiv (pc c) 23=pc c / 23:=Int.tdiv_eq_ediv_of_nonneg n0
  have hw2:IntKind.i64.wrap (pc c / 23)=pc c / 23:=wrap_i64 (by omega) (by omega)
  have hseed:Int.tmod (IntKind.i64.wrap (IntKind.i64.wrap (c*48271)+17)) 2147483647=pc c:=by rw[hw];rfl
  have hnn:(n=0)=False:=by simp[hn0]
  by_cases hp:p<(l.length:Int)
  ·obtain⟨i,rfl⟩:∃i:Nat,p=i:=⟨p.toNat,by omega⟩
   have hi:i<l.length:=by omega
   obtain⟨b0,b1⟩:=hs.bytes l[i] (List.getElem_mem hi)
   have hpn:IntKind.i64.wrap ((i:Int)+1)=((i+1:Nat):Int):=by rw[wrap_i64]<;>omega
   have hpm:IntKind.i64.wrap (((i+1:Nat):Int)-1)=(i:Int):=by rw[wrap_i64]<;>omega
   have hg:b8 (l,((i+1:Nat):Int),pc c,()):=⟨by show(0:Int)≤((i+1:Nat):Int);omega,by show((i+1:Nat):Int)≤(l.length:Int);omega,hs.len,hs.bytes,n0,n1⟩
   have hb:IntKind.i64.wrap l[i]=l[i]:=wrap_i64 (Int.le_trans (by decide) b0) (Int.le_trans b1 (by decide))
   have hsum0:(0:Int)≤pc c / 23+l[i]:=Int.add_nonneg (by omega) b0
   have hsum1:pc c / 23+(l[i]:Int)≤9223372036854775807:=by
    have:=Int.add_le_add (show pc c / 23≤2147483647 by omega) b1
    exact Int.le_trans this (by decide)
   have hws:IntKind.i64.wrap (pc c / 23+l[i])=pc c / 23+l[i]:=wrap_i64 (Int.le_trans (by decide) hsum0) hsum1
   have m1:=yV hsum0 hnp
   have m2:=yV b0 hnp
   simp only[decide_eq_false hn,decide_eq_true hp,hseed,hdiv,hw2,hpn,hpm,aJ hi,ac,hb,hws,hnn,if_false]
   rcases Bool.eq_false_or_eq_true (decide (n≤256))with h1|h1<;>simp only[h1]
   ·rcases Bool.eq_false_or_eq_true (Int.tmod ((i+1:Nat):Int) 2==0)with h2|h2<;>simp only[h2]
    ·exact⟨_,_,rfl,⟨m2.1,Or.inl m2.2⟩,hg⟩
    ·exact⟨_,_,rfl,⟨m1.1,Or.inl m1.2⟩,hg⟩
   ·exact⟨_,_,rfl,⟨m1.1,Or.inl m1.2⟩,hg⟩
  ·have m1:=yV (m:=pc c / 23) (by omega) hnp
   simp only[decide_eq_false hn,decide_eq_false hp,hseed,hdiv,hw2,hnn,if_false]
   exact⟨_,_,rfl,⟨m1.1,Or.inl m1.2⟩,⟨p0,p1,hs.len,hs.bytes,n0,n1⟩⟩
theorem afv(l:List Int)(hl:l.length≤4096)(hb:∀b ∈ l,(0:Int)≤b∧b≤255):∃s,AS (l,())=some (s,())∧b8 s:=by
 have key:∀(k i:Nat) (c:Int),i+k=l.length→0≤c→c<2147483647→∃s,ak kd (l,(l,(0:Int),c,()),(i:Int),())=some (.inl (s,()))∧b8 s:=by
  intro k
  induction k with
  |zero=>
   intro i c hi h0 h1
   have:i=l.length:=by omega
   subst this
   refine⟨(l,(0:Int),c,()), ?_,⟨Int.le_refl 0,by show(0:Int)≤(l.length:Int);omega,by show l.length≤maxLen;unfold maxLen;omega,hb,h0,h1⟩⟩
   rw[aw]
   simp only[kd,bQ]
  |succ k ih=>
   intro i c hi h0 h1
   have h:i<l.length:=by omega
   obtain⟨b0,b1⟩:=hb l[i] (List.getElem_mem h)
   rw[aw]
   simp only[kd,bH h]
   rcases Bool.eq_false_or_eq_true (decide ((i:Int)<64))with h64|h64<;>simp only[h64]
   ·have hw1:IntKind.i64.wrap (c*53)=c*53:=wrap_i64 (by omega) (by omega)
    have hw2:IntKind.i64.wrap l[i]=l[i]:=wrap_i64 (by omega) (by omega)
    have hw3:IntKind.i64.wrap (c*53+l[i])=c*53+l[i]:=wrap_i64 (by omega) (by omega)
    have m:=yV (m:=c*53+l[i]) (n:=2147483647) (by omega) (by omega)
    simp only[aJ h,ac,a7 h (show l.length≤1099511627776 by omega),hw1,hw2,hw3]
    exact ih (i+1) _ (by omega) m.1 m.2
   ·exact⟨(l,(0:Int),c,()),rfl,⟨Int.le_refl 0,by show(0:Int)≤(l.length:Int);omega,by show l.length≤maxLen;unfold maxLen;omega,hb,h0,h1⟩⟩
 obtain⟨s,hs,hg⟩:=key l.length 0 40009 (by omega) (by omega) (by omega)
 have hs':ak kd (l,(l,(0:Int),(40009:Int),()),(0:Int),())=some (.inl (s,())):=hs
 refine⟨s, ?_,hg⟩
 unfold AS
 simp only[hs']
theorem Zj {s:aF.T}{n:Int}(hs:b8 s):al (s,n,())≠none:=by
 obtain⟨v,s',h,_⟩:=Sw s n hs
 rw[h]
 simp
theorem Tk {s:aF.T}{n:Int}{v}(hs:b8 s)(h:al (s,n,())=some v):drawn n v.1∧b8 (v.2.1.1,v.2.1.2.1,v.2.1.2.2.1,()):=by
 obtain⟨v',s',h',hd,hg⟩:=Sw s n hs
 rw[h']at h
 cases h
 exact⟨hd,hg⟩
theorem fy {s:aF.T}(h:b8 s):b8 (s.1,s.2.1,s.2.2.1,()):=h
theorem pick {α:Type}{n v:Int}(l:List α)(hd:drawn n v)(hn:n≤l.length)(h1:1≤l.length):∃y,aI l v=some y∧l[v.toNat]? =some y∧y ∈ l:=by
 obtain⟨h0,h⟩:=hd
 have hv:v.toNat<l.length:=by omega
 refine⟨l[v.toNat], ?_, ?_,List.getElem_mem hv⟩
 ·unfold aI
  rw[if_pos h0,List.getElem?_eq_getElem hv]
 ·rw[List.getElem?_eq_getElem hv]
theorem adY {α:Type}{n v:Int}{l:List α}(hd:drawn n v)(hn:n≤l.length)(h1:1≤l.length):∃y,aI l v=some y:=by
 obtain⟨y,h2,h3,h4⟩:=pick l hd hn h1
 exact⟨y,h2⟩
theorem sB {α:Type}{n v:Int}{l:List α}(hd:drawn n v)(hn:n≤l.length)(h1:1≤l.length):l[v.toNat]? ≠none:=by
 obtain⟨y,h2,h3,h4⟩:=pick l hd hn h1
 rw[h3];simp
theorem mL {α:Type}{n v:Int}{l:List α}(hd:drawn n v)(hn:n≤l.length)(h1:1≤l.length):aI l v≠none:=by
 obtain⟨y,h⟩:=adY hd hn h1
 rw[h];simp
theorem adZ {l:List Int}(hx:Wf (.list (.int .u8)) l):∀b ∈ l,(0:Int)≤b∧b≤255:=by
 intro b hb
 have h1:(Lit.int .u8 b).wf=true:=hx.2 b hb
 simp[Lit.wf,IntKind.min,IntKind.max,IntKind.signed,IntKind.bits]at h1
 omega
end Go.Proofs.YtnambbcafhnhpaaGreatDoor
namespace Go.Proofs.YtnambbcafhnhpaaGreatDoor
open Go.RowKit
set_option linter.unusedVariables false
set_option linter.unusedSimpArgs false
theorem Tl {s:aF.T}(hs:b8 s):∃y,sN (s,())=some y∧b8 (y.2.1.1,y.2.1.2.1,y.2.1.2.2.1,()):=by
 have hs:=fy hs
 unfold sN
 simp only
 repeat' first
  |exact⟨_,rfl,by assumption⟩
  |(split;(rename_i h;exact absurd h (Zj (by assumption)));rename_i v h;obtain⟨hd,hg⟩:=Tk (by assumption) h)
  |split
theorem ad0 {s:aF.T}(hs:b8 s):sN (s,())≠none:=by
 obtain⟨y,h,_⟩:=Tl hs
 rw[h]
 simp
theorem aaI {s:aF.T}{v}(hs:b8 s)(h:sN (s,())=some v):b8 (v.2.1.1,v.2.1.2.1,v.2.1.2.2.1,()):=by
 obtain⟨y,h',hg⟩:=Tl hs
 rw[h']at h
 cases h
 exact hg
theorem afw {s:aF.T}(hs:b8 s):∃y,tG (s,())=some y∧b8 (y.2.1.1,y.2.1.2.1,y.2.1.2.2.1,()):=by
 have hs:=fy hs
 unfold tG
 simp only[ac]
 split;(rename_i h;exact absurd h (ad0 (by assumption)))
 rename_i v h
 have hg:=aaI (by assumption) h
 repeat' first
  |exact⟨_,rfl,by assumption⟩
  |(split;(rename_i h;exact absurd h (Zj (by assumption)));rename_i v h;obtain⟨hd,hg⟩:=Tk (by assumption) h)
  |(split;rotate_left;(rename_i h;exact absurd h (mL (by assumption) (by simp) (by simp))))
  |(split;(rename_i h;exact absurd h (sB (by assumption) (by simp) (by simp)));rename_i v h)
  |split
end Go.Proofs.YtnambbcafhnhpaaGreatDoor
namespace Go.Proofs.YtnambbcafhnhpaaGreatDoor
open Go.RowKit
set_option linter.unusedVariables false
set_option linter.unusedSimpArgs false
theorem vq {R:Type}(x:Option R):be x=x:=cY x
theorem afx {n:Int}(h0:0≤n)(h1:n≤255):IntKind.u8.wrap n=n:=by
 simp[IntKind.wrap,IntKind.signed,IntKind.bits]
 omega
abbrev Gc(n:Nat):List UInt8:=Lib.decDigits n
theorem KZ {n:Nat}(h:n<10):Gc n= [UInt8.ofNat (48+n)]:=by
 show Lib.decDigits n=_
 rw[Lib.decDigits,dif_pos h]
theorem Zk {n:Nat}(h:¬n<10):Gc n=Gc (n / 10)++ [UInt8.ofNat (48+n % 10)]:=by
 show Lib.decDigits n=_
 rw[Lib.decDigits,dif_neg h]
theorem Gd(k:Nat)(h:k<10):List.map (fun n=>UInt8.ofNat (Int.toNat n)) ([(IntKind.u8.wrap (IntKind.i64.wrap ((48:Int)+(k:Int))))]:List Int)= [UInt8.ofNat (48+k)]:=by
 rw[wrap_i64 (by omega) (by omega),afx (by omega) (by omega)]
 have:Int.toNat ((48:Int)+(k:Int))=48+k:=by omega
 simp[this]
theorem Sx:∀(i n:Nat),n<10^(i+1)→(Gc n).length≤i+1
 |0,n,h=>by rw[KZ (by simpa using h)];simp
 |i+1,n,h=>by
  by_cases hn:n<10
  ·rw[KZ hn];simp
  ·rw[Zk hn]
   have:=Sx i (n / 10) (by rw[Nat.pow_succ]at h;omega)
   simp
   omega
theorem acj:∀(i n:Nat),i≤1000→n<10^(i+1)→n≤9223372036854775807→mf (i+1) ((n:Int),())=some (Gc n,())
 |0,n,_,h,_=>by
  have hn:n<10:=by simpa using h
  have e:mf (0+1) ((n:Int),())=lT (mf 0) ((n:Int),()):=rfl
  have hd:decide ((n:Int)<10)=true:=by simp;omega
  rw[e,KZ hn]
  unfold lT
  simp only[hd,Gd n hn]
 |i+1,n,hi,h,hb=>by
  have e:mf (i+1+1) ((n:Int),())=lT (mf (i+1)) ((n:Int),()):=rfl
  rw[e]
  unfold lT
  by_cases hn:n<10
  ·have hd:decide ((n:Int)<10)=true:=by simp;omega
   rw[KZ hn]
   simp only[hd,Gd n hn]
  ·have hd:decide ((n:Int)<10)=false:=by simp;omega
   have hlt:n / 10<10^(i+1):=by rw[Nat.pow_succ]at h;omega
   have h1:IntKind.i64.wrap (Int.tdiv (n:Int) (10:Int))=((n / 10:Nat):Int):=by
    have:Int.tdiv (n:Int) (10:Int)=((n / 10:Nat):Int):=rfl
    rw[this,wrap_i64]<;>omega
   have h2:Int.tmod (n:Int) (10:Int)=((n % 10:Nat):Int):=rfl
   have h3:=Gd (n % 10) (by omega)
   have h4:=Sx i (n / 10) hlt
   rw[Zk hn]
   simp only[hd,h1,h2,h3,acj i (n / 10) (by omega) hlt (by omega),vq,cY]
   rw[aU (by simp only[List.length_cons,List.length_nil];omega)]
theorem ahz(n:Nat)(h:n≤4294967295):mf 100 ((n:Int),())=some (Gc n,()):=acj 99 n (by decide) (Nat.lt_of_lt_of_le (show n<10^10 by omega) (Nat.pow_le_pow_right (by decide) (by decide))) (by omega)
theorem ack(n:Nat)(h:n≤4294967295):(Gc n).length≤10:=Sx 9 n (by omega)
end Go.Proofs.YtnambbcafhnhpaaGreatDoor
namespace Go.Proofs.YtnambbcafhnhpaaGreatDoor
open Go.RowKit
set_option linter.unusedVariables false
set_option linter.unusedSimpArgs false
theorem b9 {α:Type}{o:Option α}{Q:α→Prop}(h:∃y,o=some y∧Q y):o≠none:=by
 obtain⟨y,e,_⟩:=h
 rw[e];simp
theorem bw {α:Type}{o:Option α}{Q:α→Prop}{v:α}(h:∃y,o=some y∧Q y)(e:o=some v):Q v:=by
 obtain⟨y,e',q⟩:=h
 rw[e']at e
 cases e
 exact q
theorem bh {s:aF.T}{n:Int}(hs:b8 s):∃y,al (s,n,())=some y∧(drawn n y.1∧b8 (y.2.1.1,y.2.1.2.1,y.2.1.2.2.1,())):=by
 obtain⟨v,s',h,hd,hg⟩:=Sw s n hs
 exact⟨_,h,hd,hg⟩
theorem Tm {X O:Type}{B:X→Option (X ⊕ O)}(I:Nat→X→Prop)(Q:O→Prop)(h0:∀x,I 0 x→∃o,B x=some (.inr o)∧Q o)(hs:∀n x,I (n+1) x→∃y,B x=some y∧(match y with| .inl x'=>I n x'| .inr _=>False)):
  ∀n x,I n x→∃o,ak B x=some o∧Q o
 |0,x,h=>by
  obtain⟨o,h1,h2⟩:=h0 x h
  exact⟨o,by rw[aw,h1],h2⟩
 |n+1,x,h=>by
  obtain⟨y,h1,h2⟩:=hs n x h
  cases y with
  |inr o=>exact h2.elim
  |inl x'=>
   obtain⟨o,h3,h4⟩:=Tm I Q h0 hs n x' h2
   exact⟨o,by rw[aw,h1];exact h3,h4⟩
theorem ag4 {k:Nat}(hk:k≤1000000):IntKind.i64.wrap (((k+1:Nat):Int)-1)=(k:Int):=by rw[wrap_i64]<;>omega
theorem ag5(k:Nat):decide (((k+1:Nat):Int)>0)=true:=by simp
theorem ag6:decide (((0:Nat):Int)>0)=false:=by simp
theorem mM {n v:Int}(h:drawn n v)(hn:1≤n):∃k:Nat,v=k∧(k:Int)<n:=by
 obtain⟨h0,h1⟩:=h
 exact⟨v.toNat,by omega,by omega⟩
def uw(v:aL.T):Prop:=0≤(v.1:Int)∧(v.1:Int)≤31∧v.2.1.length≤20
theorem Ym(n:Nat)(hn:n≤4)(x)(h0:(x.2.2.2.1:Int)=(n:Nat))(hg:b8 x.1)(hl:x.2.1.length+n≤4)(h1:1≤x.2.1.length+n)(hid:0≤(x.2.2.1:Int))(hid2:(x.2.2.1:Int)+3*n≤20)(hp:∀v ∈ x.2.1,uw v):
  ∃o,ak ke x=some (.inl o)∧(b8 o.1∧o.2.1.length≤4∧1≤o.2.1.length∧∀v ∈ o.2.1,uw v):=by
 obtain⟨o,h2,h3⟩:=Tm (B:=ke) (fun k x=>(x.2.2.2.1:Int)=(k:Nat)∧b8 x.1∧x.2.1.length+k≤4∧1≤x.2.1.length+k∧0≤(x.2.2.1:Int)∧(x.2.2.1:Int)+3*k≤20∧∀v ∈ x.2.1,uw v) (fun o=>match o with
  | .inl v=>b8 v.1∧v.2.1.length≤4∧1≤v.2.1.length∧∀u ∈ v.2.1,uw u
  | .inr _=>False) (fun x ⟨hk,hg,hl,h1,hi,hi2,hp⟩=>by
    unfold ke
    rw[hk]
    simp only[ag6]
    exact⟨_,rfl,hg,by omega,by omega,hp⟩) (fun k x ⟨hk,hg,hl,h1,hi,hi2,hp⟩=>by
    obtain⟨s,l,(id:Int),(c:Int),⟨⟩⟩:=x
    have hg:=fy hg
    have hk:c=((k+1:Nat):Int):=hk
    have hi:0≤id:=hi
    have hi2:id+3*((k+1:Nat):Int)≤20:=hi2
    have hl:l.length+(k+1)≤4:=hl
    have hp:∀v ∈ l,uw v:=hp
    obtain⟨j,rfl⟩:∃j:Nat,id=(j:Int):=⟨id.toNat,by omega⟩
    have hjl:j≤20:=by omega
    have hdec:mf 100 ((j:Int),())=some (Gc j,()):=ahz j (by omega)
    have hlen:(Gc j).length≤10:=ack j (by omega)
    subst hk
    unfold ke
    rw[ag4 (by omega)]
    simp only[ag5,hdec]
    rw[aU (by simp;omega)]
    (split;(rename_i h;exact absurd h (b9 (bh (by assumption))));rename_i v h;obtain⟨hd,hg⟩:=bw (bh (by assumption)) h)
    (split;(rename_i h;exact absurd h (b9 (bh (by assumption))));rename_i v h;obtain⟨hd,hg⟩:=bw (bh (by assumption)) h)
    rw[aU (by simp;omega)]
    split;(rename_i h;exact absurd h (b9 (bh (by assumption))))
    rename_i v6 h6
    obtain⟨hd6,hg6⟩:=bw (bh (by assumption)) h6
    obtain⟨d,hd,hd3⟩:=mM hd6 (by omega)
    have e1:IntKind.i64.wrap ((j:Int)+1)=(j:Int)+1:=wrap_i64 (by omega) (by omega)
    have e2:IntKind.i64.wrap ((j:Int)+1+(d:Int))=(j:Int)+1+(d:Int):=wrap_i64 (by omega) (by omega)
    rw[hd,e1,e2]
    refine⟨_,rfl,rfl,hg6,by simp;omega,by simp;omega,by show(0:Int)≤(j:Int)+1+(d:Int);omega,by show(j:Int)+1+(d:Int)+3*(k:Int)≤20;omega,fun u hu=> ?_⟩
    rcases List.mem_append.1 hu with hu|hu
    ·exact hp u hu
    ·simp only[List.mem_singleton]at hu
     subst hu
     exact⟨by show(0:Int)≤(j:Int);omega,by show(j:Int)≤31;omega,by simp;omega⟩) n x ⟨h0,hg,hl,h1,hid,hid2,hp⟩
 cases o with
 |inr v=>exact h3.elim
 |inl v=>exact⟨v,h2,h3⟩
theorem QC {s:aF.T}(hs:b8 s):∃y,vQ (s,())=some y∧(b8 (y.2.1.1,y.2.1.2.1,y.2.1.2.2.1,())∧y.1.length≤4∧1≤y.1.length∧∀v ∈ y.1,uw v):=by
 have hs:=fy hs
 unfold vQ
 split;(rename_i h;exact absurd h (b9 (bh (by assumption))))
 rename_i v1 h1
 obtain⟨hd1,hg1⟩:=bw (bh (by assumption)) h1
 split;(rename_i h;exact absurd h (b9 (bh (by assumption))))
 rename_i v2 h2
 obtain⟨hd2,hg2⟩:=bw (bh (by assumption)) h2
 obtain⟨a,ha,ha2⟩:=mM hd1 (by omega)
 obtain⟨b,hb,hb2⟩:=mM hd2 (by omega)
 have e:IntKind.i64.wrap ((1:Int)+(b:Int))=((b+1:Nat):Int):=by rw[wrap_i64]<;>omega
 rw[ha,hb,e]
 obtain⟨o,h3,h4⟩:=Ym (b+1) (by omega) ((v2.2.1.1,v2.2.1.2.1,v2.2.1.2.2.1,()),[],(a:Int),((b+1:Nat):Int),()) rfl hg2 (by simp;omega) (by simp) (by show(0:Int)≤(a:Int);omega) (by show(a:Int)+3*((b+1:Nat):Int)≤20;omega) (fun v hv=>by cases hv)
 simp only[h3]
 exact⟨_,rfl,h4⟩
def Av(l:List aL.T):Prop:=l.length≤100∧∀v ∈ l,v.2.1.length≤100
theorem aaJ:Av []:=⟨Nat.zero_le _,fun v hv=>by cases hv⟩
theorem Ge {l:List aL.T}{k:Nat}{u:aL.T}(h:Av l)(hu:u.2.1.length≤100):Av (l.set k u):=by
 refine⟨by rw[List.length_set];exact h.1,fun v hv=> ?_⟩
 rcases List.mem_or_eq_of_mem_set hv with hv|rfl
 ·exact h.2 v hv
 ·exact hu
theorem Tn {s:aF.T}(hs:b8 s):∃y,tB (s,())=some y∧(b8 (y.2.1.1,y.2.1.2.1,y.2.1.2.2.1,())∧Av y.1):=by
 have hs:=fy hs
 unfold tB
 simp only[ac]
 split;(rename_i h;exact absurd h (b9 (QC (by assumption))))
 rename_i v1 h1
 obtain⟨hg1,hl1,hp1,hn1⟩:=bw (QC (by assumption)) h1
 have hS:Av v1.1:=⟨by omega,fun v hv=>by have:=(hn1 v hv).2.2;omega⟩
 have hm:∀ {k:Nat} {u:aL.T},v1.1[k]? =some u→u.2.1.length≤100:=fun h=>hS.2 _ (List.mem_of_getElem? h)
 have hnames:∀ {k:Nat} {u:List UInt8},[[],([115,101,118,101,110,110,55]:List UInt8),([115,105,120,120,120,54]:List UInt8),([78,49]:List UInt8),([110,48]:List UInt8)][k]? =some u→u.length≤100:=fun h=>by
  have:=List.mem_of_getElem? h
  simp only[List.mem_cons,List.not_mem_nil,or_false]at this
  rcases this with rfl|rfl|rfl|rfl|rfl<;>simp
 (split;(rename_i h;exact absurd h (b9 (bh (by assumption))));rename_i v h;obtain⟨hd,hg⟩:=bw (bh (by assumption)) h)
 (split;(rename_i h;exact absurd h (b9 (bh (by assumption))));rename_i v h;obtain⟨hd,hg⟩:=bw (bh (by assumption)) h)
 repeat' first
  |exact⟨_,rfl,by assumption,by assumption⟩
  |exact⟨_,rfl,by assumption,aaJ⟩
  |exact⟨_,rfl,by assumption,Ge hS (hnames (by assumption))⟩
  |exact⟨_,rfl,by assumption,Ge hS (hm (by assumption))⟩
  |exact⟨_,rfl,by assumption,Ge hS (show v.2.1.length≤100 from hm h)⟩
  |(rw[aU (by simp;omega)];refine⟨_,rfl,by assumption,by simp;omega,fun v hv=> ?_⟩;rcases List.mem_append.1 hv with hv|hv;exact hS.2 v hv;(simp only[List.mem_singleton]at hv;subst hv;first|exact hm (by assumption)|exact(show v.2.1.length≤100 from hm h)|exact hm h))
  |(split;(rename_i h;exact absurd h (b9 (bh (by assumption))));rename_i v h;obtain⟨hd,hg⟩:=bw (bh (by assumption)) h)
  |(first|(split;rotate_left;(rename_i h;exact absurd h (mL (by assumption) (by simp) (by first|assumption|simp))))|(split;(rename_i h;exact absurd h (sB (by assumption) (by simp) (by first|assumption|simp)));rename_i v h))
  |split
def wH(l:List aR.T):Prop:=l.length≤100∧∀v ∈ l,v.2.2.1.length≤100
theorem aaK:wH []:=⟨Nat.zero_le _,fun v hv=>by cases hv⟩
theorem aaL {n:Nat}{u:aR.T}(h:n≤100)(hu:u.2.2.1.length≤100):wH (List.replicate n u):=⟨by rw[List.length_replicate];exact h,fun v hv=>by rw[List.eq_of_mem_replicate hv];exact hu⟩
theorem xp {i n:Int}(h:i<n):decide (i<n)=true:=decide_eq_true h
theorem C4 {i n:Int}(h:¬i<n):decide (i<n)=false:=decide_eq_false h
theorem N5 {i n:Int}(h0:0≤i)(h:i<n)(hn:n≤1000000):IntKind.i64.wrap (i+1)=i+1:=wrap_i64 (by omega) (by omega)
def acl(l:List aR.T):Prop:=∀v ∈ l,v.2.2.1.length≤10
theorem BE(out:List aR.T)(c i:Int)(hc:c≤10):∀(k:Nat) (s:aF.T) (nx:List Int) (j:Int),b8 s→0≤j→j+(k:Int)=c→nx.length+k≤10→
  ∃(s':aF.T) (nx':List Int),ak iE (s,out,c,i,nx,j,())=some (.inl (s',out,c,i,nx',()))∧b8 s'∧nx'.length≤10
 |0,s,nx,j,hs,h0,hk,hl=>by
  refine⟨s,nx, ?_,hs,by omega⟩
  rw[aw]
  simp only[iE,C4 (show ¬j<c by omega)]
 |k+1,s,nx,j,hs,h0,hk,hl=>by
  have hw:IntKind.i64.wrap (j+1)=j+1:=N5 h0 (n:=c) (by omega) (by omega)
  obtain⟨y,hy,hd,hg⟩:=bh (n:=2) hs
  have hy:al ((s.1,s.2.1,s.2.2.1,()),(2:Int),())=some y:=hy
  have hr:∀ {R:Type} (q:Option R),bd (nx.length+ [j].length) q=q:=fun q=>aU (by simp;omega)
  by_cases hj:(j != i)=true
  ·by_cases hz:(y.1==(0:Int))=true
   ·obtain⟨s',nx',h1,h2,h3⟩:=BE out c i hc k (y.2.1.1,y.2.1.2.1,y.2.1.2.2.1,()) (nx++ [j]) (j+1) hg (by omega) (by omega) (by simp;omega)
    refine⟨s',nx', ?_,h2,h3⟩
    rw[aw]
    simp only[iE,xp (show j<c by omega),hj,hy,hz,hr,hw]
    exact h1
   ·have hz:(y.1==(0:Int))=false:=by simpa using hz
    obtain⟨s',nx',h1,h2,h3⟩:=BE out c i hc k (y.2.1.1,y.2.1.2.1,y.2.1.2.2.1,()) nx (j+1) hg (by omega) (by omega) (by omega)
    refine⟨s',nx', ?_,h2,h3⟩
    rw[aw]
    simp only[iE,xp (show j<c by omega),hj,hy,hz,hw]
    exact h1
  ·have hj:(j != i)=false:=by simpa using hj
   obtain⟨s',nx',h1,h2,h3⟩:=BE out c i hc k (s.1,s.2.1,s.2.2.1,()) nx (j+1) (fy hs) (by omega) (by omega) (by omega)
   refine⟨s',nx', ?_,h2,h3⟩
   rw[aw]
   simp only[iE,xp (show j<c by omega),hj,hw]
   exact h1
theorem Mr(c:Int)(hc:c≤10):∀(k:Nat) (s:aF.T) (l:List aR.T) (i:Int),b8 s→0≤i→i+(k:Int)=c→l.length+k≤10→acl l→
  ∃(s':aF.T) (l':List aR.T),ak lL (s,l,c,i,())=some (.inl (s',l',()))∧b8 s'∧acl l'∧l'.length=l.length+k
 |0,s,l,i,hs,h0,hk,hl,hm=>by
  refine⟨s,l, ?_,hs,hm,rfl⟩
  rw[aw]
  simp only[lL,C4 (show ¬i<c by omega)]
 |k+1,s,l,i,hs,h0,hk,hl,hm=>by
  have hw:IntKind.i64.wrap (i+1)=i+1:=N5 h0 (n:=c) (by omega) (by omega)
  obtain⟨s1,nx,e1,hg1,hn⟩:=BE l c i hc c.toNat (s.1,s.2.1,s.2.2.1,()) [] 0 (fy hs) (by omega) (by omega) (by show 0+c.toNat≤10;omega)
  obtain⟨y,hy,hd,hg⟩:=bh (n:=3) hg1
  have hy:al ((s1.1,s1.2.1,s1.2.2.1,()),(3:Int),())=some y:=hy
  obtain⟨z,hz,hd2,hg2⟩:=bh (n:=4) hg
  have hr:∀ {R:Type} (u:aR.T) (q:Option R),bd (l.length+ [u].length) q=q:=fun u q=>aU (by simp;omega)
  obtain⟨s',l',h1,h2,h3,h4⟩:=Mr c hc k (z.2.1.1,z.2.1.2.1,z.2.1.2.2.1,()) (l++ [((IntKind.i64.wrap ((1:Int)+y.1)),(IntKind.i64.wrap ((1:Int)+z.1)),nx,())]) (i+1) hg2 (by omega) (by omega) (by simp;omega) (fun v hv=>by
   rcases List.mem_append.1 hv with hv|hv
   ·exact hm v hv
   ·simp only[List.mem_singleton]at hv
    subst hv
    exact hn)
  refine⟨s',l', ?_,h2,h3,by rw[h4];simp;omega⟩
  rw[aw]
  simp only[lL,xp (show i<c by omega),e1,hy,hz,hr,hw]
  exact h1
theorem acm {s:aF.T}(hs:b8 s):∃y,AZ (s,())=some y∧(b8 (y.2.1.1,y.2.1.2.1,y.2.1.2.2.1,())∧(∀v ∈ y.1,v.2.2.1.length≤10)∧1≤y.1.length∧y.1.length≤10):=by
 have hs:=fy hs
 unfold AZ
 split;(rename_i h;exact absurd h (b9 (bh (by assumption))))
 rename_i v1 h1
 obtain⟨hd1,hg1⟩:=bw (bh (by assumption)) h1
 obtain⟨a,ha,ha2⟩:=mM hd1 (by omega)
 have e:IntKind.i64.wrap ((1:Int)+(a:Int))=(1:Int)+(a:Int):=wrap_i64 (by omega) (by omega)
 rw[ha,e]
 obtain⟨s2,l2,h3,h4,h5,h6⟩:=Mr ((1:Int)+(a:Int)) (by omega) (a+1) (v1.2.1.1,v1.2.1.2.1,v1.2.1.2.2.1,()) [] 0 hg1 (by omega) (by omega) (by simp;omega) (fun v hv=>by cases hv)
 simp only[h3]
 have h6:l2.length=0+(a+1):=h6
 exact⟨_,rfl,fy h4,h5,by show 1≤l2.length;omega,by show l2.length≤10;omega⟩
theorem QD {l:List aR.T}{k:Nat}{u:aR.T}(h:wH l)(hu:u.2.2.1.length≤100):wH (l.set k u):=by
 refine⟨by rw[List.length_set];exact h.1,fun v hv=> ?_⟩
 rcases List.mem_or_eq_of_mem_set hv with hv|rfl
 ·exact h.2 v hv
 ·exact hu
theorem acn(x):∃z,eY x=some (z,()):=by
 have hb:∀a b:Int,∃z,lK (a,b,())=some (z,()):=fun a b=>by
  unfold lK fD
  simp only[Qr]
  rcases Bool.eq_false_or_eq_true (a != (0:Int))with h|h<;>rcases Bool.eq_false_or_eq_true (eC a)with h2|h2<;>simp only[h,h2]<;>exact⟨_,rfl⟩
 obtain⟨z,hz⟩:=hb x.1 x.2.1
 unfold eY
 simp only[hz]
 exact⟨_,rfl⟩
theorem W7 {s:aF.T}(hs:b8 s):∃y,sM (s,())=some y∧b8 (y.2.1.1,y.2.1.2.1,y.2.1.2.2.1,()):=by
 have hs:=fy hs
 have hc:∀a b:Int,∃z,eY (a,b,())=some (z,()):=fun a b=>acn _
 have hdt:∀a:Int,∃b,jG (a,())=some (b,()):=fun a=>by
  unfold jG
  split<;>exact⟨_,rfl⟩
 unfold sM
 simp only
 (split;(rename_i h;exact absurd h (b9 (bh (by assumption))));rename_i v h;obtain⟨hd,hg⟩:=bw (bh (by assumption)) h)
 (split;(rename_i h;exact absurd h (b9 (bh (by assumption))));rename_i v h;obtain⟨hd,hg⟩:=bw (bh (by assumption)) h)
 (split;(rename_i h;exact absurd h (b9 (bh (by assumption))));rename_i v h;obtain⟨hd,hg⟩:=bw (bh (by assumption)) h)
 split
 ·rename_i h
  exact absurd h (by obtain⟨b,e⟩:=hdt _;rw[e];simp)
 repeat' first
  |exact⟨_,rfl,by assumption⟩
  |(split;(rename_i h;exact absurd h (by obtain⟨b,e⟩:=hc _ _;rw[e];simp)))
  |(split;(rename_i h;exact absurd h (b9 (bh (by assumption))));rename_i v h;obtain⟨hd,hg⟩:=bw (bh (by assumption)) h)
  |split
theorem To {s:aF.T}(hs:b8 s):∃y,tD (s,())=some y∧b8 (y.2.1.1,y.2.1.2.1,y.2.1.2.2.1,()):=by
 have hs:=fy hs
 have hc:∀x,∃z,eY x=some (z,()):=fun x=>acn x
 unfold tD
 simp only[ac]
 split;(rename_i h;exact absurd h (b9 (W7 (by assumption))))
 rename_i v1 h1
 have hg1:=bw (W7 (by assumption)) h1
 repeat' first
  |exact⟨_,rfl,by assumption⟩
  |(split;(rename_i h;exact absurd h (by obtain⟨b,e⟩:=hc _;rw[e];simp)))
  |(split;(rename_i h;exact absurd h (b9 (bh (by assumption))));rename_i v h;obtain⟨hd,hg⟩:=bw (bh (by assumption)) h)
  |(first|(split;rotate_left;(rename_i h;exact absurd h (mL (by assumption) (by simp) (by first|assumption|simp))))|(split;(rename_i h;exact absurd h (sB (by assumption) (by simp) (by first|assumption|simp)));rename_i v h))
  |split
end Go.Proofs.YtnambbcafhnhpaaGreatDoor
namespace Go.Proofs.YtnambbcafhnhpaaGreatDoor
open Go.RowKit
set_option linter.unusedVariables false
set_option linter.unusedSimpArgs false
theorem Zl(m0:aA.T)(nodes:List aL.T)(act:List Int)(modes:List aR.T)(slots:List az.T)(c mo r n:Int)(nx:List Int)(hn:n≤1000):∀(k:Nat) (s:aF.T) (durs:List Int) (j:Int),b8 s→0≤j→j+(k:Int)=n→(durs.length:Int)=j→
  ∃s' d',ak gR (s,m0,nodes,act,modes,slots,c,mo,(r,n,nx,()),durs,j,())=some (.inl (s',m0,nodes,act,modes,slots,c,mo,(r,n,nx,()),d',()))∧b8 s'∧(d'.length:Int)=n
 |0,s,durs,j,hs,h0,hk,hl=>by
  refine⟨s,durs, ?_,hs,by omega⟩
  rw[aw]
  simp only[gR,C4 (show ¬j<n by omega)]
 |k+1,s,durs,j,hs,h0,hk,hl=>by
  obtain⟨y,hy,hd,hg⟩:=bh (n:=100) hs
  have hy:al ((s.1,s.2.1,s.2.2.1,()),(100:Int),())=some y:=hy
  obtain⟨s',d',h1,h2,h3⟩:=Zl m0 nodes act modes slots c mo r n nx hn k (y.2.1.1,y.2.1.2.1,y.2.1.2.2.1,()) (durs++ [(IntKind.i64.wrap ((260:Int)+y.1))]) (j+1) hg (by omega) (by omega) (by simp;omega)
  refine⟨s',d', ?_,h2,h3⟩
  rw[aw]
  simp only[gR,xp (show j<n by omega),hy,N5 h0 (show j<n by omega) (by omega)]
  rw[aU (by simp;omega)]
  exact h1
theorem ad1 {α:Type}{l:List α}{j:Int}(h0:0≤j)(hl:1≤l.length):∃y,aI l (Int.tmod j (l.length:Int))=some y∧l[(Int.tmod j (l.length:Int)).toNat]? =some y:=by
 have h:=yV (m:=j) (n:=(l.length:Int)) h0 (by omega)
 have hlt:(Int.tmod j (l.length:Int)).toNat<l.length:=by omega
 refine⟨l[(Int.tmod j (l.length:Int)).toNat], ?_,List.getElem?_eq_getElem hlt⟩
 unfold aI
 rw[if_pos h.1,List.getElem?_eq_getElem hlt]
theorem ag7 {α:Type}{l:List α}{j:Int}(h0:0≤j)(hl:j<(l.length:Int)):∃y,aI l j=some y∧l[j.toNat]? =some y:=by
 have hlt:j.toNat<l.length:=by omega
 refine⟨l[j.toNat], ?_,List.getElem?_eq_getElem hlt⟩
 unfold aI
 rw[if_pos h0,List.getElem?_eq_getElem hlt]
theorem W8(m0:aA.T)(nodes:List aL.T)(act:List Int)(modes:List aR.T)(c mo r n:Int)(nx durs:List Int)(rd:Int)(hn:n≤1000)(ha:1≤act.length)(ha2:act.length≤1000)(hd:(durs.length:Int)=n):∀(k:Nat) (s:aF.T) (slots:List az.T) (j:Int),b8 s→0≤j→j+(k:Int)=n→slots.length+k≤100000→
  ∃s' slots',ak fE (s,m0,nodes,act,modes,slots,c,mo,(r,n,nx,()),durs,rd,j,())=some (.inl (s',m0,nodes,act,modes,slots',c,mo,(r,n,nx,()),durs,rd,()))∧b8 s'∧slots'.length=slots.length+k
 |0,s,slots,j,hs,h0,hk,hl=>by
  refine⟨s,slots, ?_,hs,by omega⟩
  rw[aw]
  simp only[fE,C4 (show ¬j<n by omega)]
 |k+1,s,slots,j,hs,h0,hk,hl=>by
  obtain⟨y,hy,hg⟩:=W7 hs
  have hy:sM ((s.1,s.2.1,s.2.2.1,()),())=some y:=hy
  obtain⟨z,hz1,hz2⟩:=ad1 (l:=act) h0 ha
  obtain⟨d,hd1,hd2⟩:=ag7 (l:=durs) h0 (by omega)
  have hne:((act.length:Int)=0)=False:=by
   have:¬((act.length:Int)=0):=by omega
   simp only[this]
  have key:∀u:az.T,∃s' slots',ak fE ((y.2.1.1,y.2.1.2.1,y.2.1.2.2.1,()),m0,nodes,act,modes,slots++ [u],c,mo,(r,n,nx,()),durs,rd,j+1,())=some (.inl (s',m0,nodes,act,modes,slots',c,mo,(r,n,nx,()),durs,rd,()))∧b8 s'∧slots'.length=slots.length+(k+1):=fun u=>by
   obtain⟨s',slots',h1,h2,h3⟩:=W8 m0 nodes act modes c mo r n nx durs rd hn ha ha2 hd k (y.2.1.1,y.2.1.2.1,y.2.1.2.2.1,()) (slots++ [u]) (j+1) hg (by omega) (by omega) (by simp;omega)
   exact⟨s',slots',h1,h2,by rw[h3];simp;omega⟩
  have hr:∀ {R:Type} (u:az.T) (q:Option R),bd (slots.length+ [u].length) q=q:=fun u q=>aU (by simp;omega)
  have hB:∃u,fE (s,m0,nodes,act,modes,slots,c,mo,(r,n,nx,()),durs,rd,j,())=some (.inl ((y.2.1.1,y.2.1.2.1,y.2.1.2.2.1,()),m0,nodes,act,modes,slots++ [u],c,mo,(r,n,nx,()),durs,rd,j+1,())):=by
   simp only[fE,xp (show j<n by omega),hy,hz1,hz2,hd1,hd2,ac,hne,if_false,N5 h0 (show j<n by omega) (by omega),hr]
   repeat' first
    |exact⟨_,rfl⟩
    |split
  obtain⟨u,hB⟩:=hB
  obtain⟨s',slots',h1,h2,h3⟩:=key u
  refine⟨s',slots', ?_,h2,h3⟩
  rw[aw,hB]
  exact h1
theorem Tp(m0:aA.T)(nodes:List aL.T)(act:List Int)(modes:List aR.T)(c mo r n:Int)(nx durs:List Int)(hn:n≤1000)(hn0:0≤n)(hr:r≤10)(ha:1≤act.length)(ha2:act.length≤1000)(hd:(durs.length:Int)=n):∀(k:Nat) (s:aF.T) (slots:List az.T) (rd:Int),b8 s→0≤rd→rd+(k:Int)=r→slots.length+k*1000≤100000→
  ∃s' slots',ak gS (s,m0,nodes,act,modes,slots,c,mo,(r,n,nx,()),durs,rd,())=some (.inl (s',m0,nodes,act,modes,slots',c,mo,()))∧b8 s'∧slots'.length=slots.length+k*n.toNat
 |0,s,slots,rd,hs,h0,hk,hl=>by
  refine⟨s,slots, ?_,hs,by omega⟩
  rw[aw]
  simp only[gS,C4 (show ¬rd<r by omega)]
 |k+1,s,slots,rd,hs,h0,hk,hl=>by
  obtain⟨s1,sl1,e1,g1,l1⟩:=W8 m0 nodes act modes c mo r n nx durs rd hn ha ha2 hd n.toNat s slots 0 hs (by omega) (by omega) (by omega)
  obtain⟨s',slots',h1,h2,h3⟩:=Tp m0 nodes act modes c mo r n nx durs hn hn0 hr ha ha2 hd k s1 sl1 (rd+1) g1 (by omega) (by omega) (by omega)
  refine⟨s',slots', ?_,h2,by rw[h3,l1,Nat.add_mul];omega⟩
  have e1:ak fE ((s.1,s.2.1,s.2.2.1,()),(m0.1,m0.2.1,m0.2.2.1,m0.2.2.2.1,()),nodes,act,modes,slots,c,mo,(r,n,nx,()),durs,rd,(0:Int),())=_:=e1
  rw[aw]
  simp only[gS,xp (show rd<r by omega),e1,N5 h0 (show rd<r by omega) (by omega)]
  exact h1
theorem W9(m0:aA.T)(nodes:List aL.T)(act:List Int)(c:Int)(hc:c≤2)(ha:1≤act.length)(ha2:act.length≤32):∀(k:Nat) (s:aF.T) (modes:List aR.T) (slots:List az.T) (mo:Int),b8 s→0≤mo→mo+(k:Int)=c→slots.length+k*2000≤10000→modes.length+k≤10→(∀v ∈ modes,v.2.2.1.length≤10)→
  ∃s' modes' slots',ak eF (s,m0,nodes,act,modes,slots,c,mo,())=some (.inl (s',m0,nodes,modes',slots',()))∧(b8 s'∧modes'.length≤10∧(∀v ∈ modes',v.2.2.1.length≤10)∧slots.length+k≤slots'.length∧slots'.length≤10000∧modes'.length=modes.length+k)
 |0,s,modes,slots,mo,hs,h0,hk,hl,hm,hv=>by
  refine⟨s,modes,slots, ?_,hs,by omega,hv,by omega,by omega,by omega⟩
  rw[aw]
  simp only[eF,C4 (show ¬mo<c by omega)]
 |k+1,s,modes,slots,mo,hs,h0,hk,hl,hm,hv=>by
  obtain⟨y,hy,hd,hg⟩:=bh (n:=2) hs
  have hy:al ((s.1,s.2.1,s.2.2.1,()),(2:Int),())=some y:=hy
  obtain⟨z,hz,hd2,hg2⟩:=bh (n:=2) hg
  obtain⟨a,ha1,ha3⟩:=mM hd (by omega)
  obtain⟨b,hb1,hb2⟩:=mM hd2 (by omega)
  have e1:IntKind.i64.wrap ((1:Int)+(a:Int))=(1:Int)+(a:Int):=wrap_i64 (by omega) (by omega)
  have e2:IntKind.i64.wrap ((act.length:Int)+(b:Int))=(act.length:Int)+(b:Int):=wrap_i64 (by omega) (by omega)
  have e3:IntKind.i64.wrap (mo+1)=mo+1:=N5 h0 (show mo<c by omega) (by omega)
  have hr:∀ {R:Type} (u:aR.T) (q:Option R),bd (modes.length+ [u].length) q=q:=fun u q=>aU (by simp;omega)
  have key:∀nx:List Int,nx.length≤10→∃s1 d1 s2 sl2,ak gR ((z.2.1.1,z.2.1.2.1,z.2.1.2.2.1,()),(m0.1,m0.2.1,m0.2.2.1,m0.2.2.2.1,()),nodes,act,modes++ [((1:Int)+(a:Int),(act.length:Int)+(b:Int),nx,())],slots,c,mo,((1:Int)+(a:Int),(act.length:Int)+(b:Int),nx,()),[],(0:Int),())=some (.inl (s1,m0,nodes,act,modes++ [((1:Int)+(a:Int),(act.length:Int)+(b:Int),nx,())],slots,c,mo,((1:Int)+(a:Int),(act.length:Int)+(b:Int),nx,()),d1,()))∧
    ak gS ((s1.1,s1.2.1,s1.2.2.1,()),(m0.1,m0.2.1,m0.2.2.1,m0.2.2.2.1,()),nodes,act,modes++ [((1:Int)+(a:Int),(act.length:Int)+(b:Int),nx,())],slots,c,mo,((1:Int)+(a:Int),(act.length:Int)+(b:Int),nx,()),d1,(0:Int),())=some (.inl (s2,m0,nodes,act,modes++ [((1:Int)+(a:Int),(act.length:Int)+(b:Int),nx,())],sl2,c,mo,()))∧
    ∃s' modes' slots',ak eF (s2,m0,nodes,act,modes++ [((1:Int)+(a:Int),(act.length:Int)+(b:Int),nx,())],sl2,c,mo+1,())=some (.inl (s',m0,nodes,modes',slots',()))∧(b8 s'∧modes'.length≤10∧(∀v ∈ modes',v.2.2.1.length≤10)∧slots.length+(k+1)≤slots'.length∧slots'.length≤10000∧modes'.length=modes.length+(k+1)):=fun nx hnx=>by
   obtain⟨s1,d1,q1,q2,q3⟩:=Zl m0 nodes act (modes++ [((1:Int)+(a:Int),(act.length:Int)+(b:Int),nx,())]) slots c mo ((1:Int)+(a:Int)) ((act.length:Int)+(b:Int)) nx (by omega) (act.length+b) _ [] 0 hg2 (by omega) (by omega) rfl
   have hsl:slots.length+(1+a)*1000≤100000:=Nat.le_trans (Nat.add_le_add_left (Nat.mul_le_mul_right 1000 (show 1+a≤10 by omega)) _) (show slots.length+10000≤100000 by omega)
   obtain⟨s2,sl2,p1,p2,p3⟩:=Tp m0 nodes act (modes++ [((1:Int)+(a:Int),(act.length:Int)+(b:Int),nx,())]) c mo ((1:Int)+(a:Int)) ((act.length:Int)+(b:Int)) nx d1 (by omega) (by omega) (by omega) ha (by omega) q3 (1+a) s1 slots 0 q2 (by omega) (by omega) hsl
   have ht:((act.length:Int)+(b:Int)).toNat=act.length+b:=by omega
   rw[ht]at p3
   have hge:1+a+slots.length≤slots.length+(1+a)*(act.length+b):=by
    have:=Nat.mul_le_mul_left (1+a) (show 1≤act.length+b by omega)
    omega
   have hle:(1+a)*(act.length+b)≤2*33:=Nat.mul_le_mul (by omega) (by omega)
   obtain⟨s',modes',slots',h1,h2,h3,h4,h5,h6,h7⟩:=W9 m0 nodes act c hc ha ha2 k s2 (modes++ [((1:Int)+(a:Int),(act.length:Int)+(b:Int),nx,())]) sl2 (mo+1) p2 (by omega) (by omega) (by omega) (by simp;omega) (fun v hv'=>by
    rcases List.mem_append.1 hv' with h|h
    ·exact hv v h
    ·simp only[List.mem_singleton]at h
     subst h
     exact hnx)
   refine⟨s1,d1,s2,sl2,q1,p1,s',modes',slots',h1,h2,h3,h4,by omega,h6,by rw[h7];simp;omega⟩
  by_cases h1:c>1
  ·obtain⟨s1,d1,s2,sl2,q1,q2,s',modes',slots',q3,q4⟩:=key [(IntKind.i64.wrap ((1:Int)-mo))] (by simp)
   refine⟨s',modes',slots', ?_,q4⟩
   rw[aw]
   simp only[eF,xp (show mo<c by omega),hy,hz,ha1,hb1,e1,e2,e3,decide_eq_true h1,hr,q1,q2]
   exact q3
  ·obtain⟨s1,d1,s2,sl2,q1,q2,s',modes',slots',q3,q4⟩:=key [] (by simp)
   refine⟨s',modes',slots', ?_,q4⟩
   rw[aw]
   simp only[eF,xp (show mo<c by omega),hy,hz,ha1,hb1,e1,e2,e3,decide_eq_false h1,hr,q1,q2]
   exact q3
theorem Zm:∀(l:List aL.T) (v k:Nat),(v.testBit k=true∨∃n ∈ l,n.2.2.2.1=false∧n.1.toNat=k)→(l.foldl sx v).testBit k=true
 | [],v,k,h=>by
   rcases h with h|⟨n,hn,_⟩
   ·exact h
   ·cases hn
 |n::r,v,k,h=>by
  refine Zm r (sx v n) k ?_
  rcases h with h|⟨m,hm,h1,h2⟩
  ·left
   unfold sx
   split
   ·exact h
   ·rw[Nat.testBit_or,h];rfl
  ·rcases List.mem_cons.1 hm with rfl|hm
   ·left
    unfold sx
    rw[h1,if_neg (by simp),Nat.testBit_or,Nat.testBit_two_pow,h2]
    simp
   ·exact .inr ⟨m,hm,h1,h2⟩
theorem aco {l:List aL.T}(hp:∀v ∈ l,uw v):∀n ∈ l,∃k:Nat,k<32∧n.1=(k:Int):=fun n hn=>WU _ (hp n hn).1 (hp n hn).2.1
theorem acp {l:List aL.T}(hp:∀v ∈ l,uw v):∀s,∀n ∈ l,s<4294967296→sx s n<4294967296:=by
 intro s n hn hs
 obtain⟨k,hk,e⟩:=aco hp n hn
 unfold sx
 split
 ·exact hs
 ·rw[e];exact KR s k hs hk
theorem ag8 {l:List aL.T}(hl:l.length≤100)(hp:∀v ∈ l,uw v)(hh:∃n ∈ l,n.2.2.2.1=false):∃a A,du (l,())=some (a,())∧kK (a,())=some (A,0,())∧1≤A.length∧A.length≤32:=by
 have hid:=aco hp
 have e:=pZ (B:=dv) l (fun(s:Nat) i=>(l,(s:Int),(i:Int),())) sx (fun s=>.inl ((s:Int),())) (fun s=>s<4294967296) (acp hp) (fun s _=>by simp only[dv,bQ]) (fun s i hi hs=>by
  obtain⟨k,hk,e⟩:=hid _ (List.getElem_mem hi)
  have ho:=aaw s k hs hk
  simp only[dv,bH hi,a7 hi (show l.length≤1099511627776 by omega),aJ hi,ac,e,ho,sx,Int.toNat_natCast]
  cases l[i].2.2.2.1<;>rfl) l.length 0 0 (by omega) (by omega)
 have e':ak dv (l,(0:Int),(0:Int),())=_:=e
 have hlt:dp l<4294967296:=s5 (P:=fun s=>s<4294967296) l 0 (acp hp) (by omega)
 have h1:du (l,())=some ((dp l:Int),()):=by
  unfold du
  simp only[e',List.drop_zero]
  rfl
 have h2:=Tb (dp l:Int)
 rw[if_pos (bl.2 ⟨by omega,by omega⟩)]at h2
 refine⟨_,_,h1,h2, ?_, ?_⟩
 ·obtain⟨n,hn,hn2⟩:=hh
  obtain⟨k,hk,ek⟩:=hid n hn
  have hb:=Zm l 0 k (.inr ⟨n,hn,hn2,by rw[ek];rfl⟩)
  rw[CY,←yF]
  have hm:k ∈ (List.range 32).filter (fun k=>((dp l:Int).toNat / 2^k) % 2==1):=by
   rw[List.mem_filter]
   refine⟨List.mem_range.2 hk, ?_⟩
   have:qa (dp l) k=true:=by rw[vl];exact hb
   exact this
  exact List.length_pos_of_mem hm
 ·rw[CY,←yF]
  exact Nat.le_trans (List.length_filter_le _ _) (by simp)
def Kt(m:aA.T):Prop:=Av m.2.1∧wH m.2.2.1∧m.2.2.2.1.length≤10000
theorem Ku {m:aA.T}(h:Kt m):ex m:=by
 obtain⟨⟨h1,h2⟩,⟨h3,h4⟩,h5⟩:=h
 exact⟨by omega,fun v hv=>Nat.le_trans (h2 v hv) (by omega),by omega,fun v hv=>Nat.le_trans (h4 v hv) (by omega),by omega⟩
theorem acq {s:aF.T}(hs:b8 s):∃y,AY (s,())=some y∧(b8 (y.2.1.1,y.2.1.2.1,y.2.1.2.2.1,())∧Kt y.1∧1≤y.1.2.2.2.1.length):=by
 have hs:=fy hs
 unfold AY
 simp only
 split;(rename_i h;exact absurd h (b9 (bh (by assumption))))
 rename_i v1 h1
 obtain⟨hd1,hg1⟩:=bw (bh (by assumption)) h1
 split
 ·unfold BP
  refine⟨_,rfl,hg1,⟨⟨by simp, ?_⟩,⟨by simp, ?_⟩,by simp⟩,by simp⟩
  ·intro v hv
   simp only[List.mem_cons,List.not_mem_nil,or_false]at hv
   rcases hv with rfl|rfl<;>simp
  ·intro v hv
   simp only[List.mem_cons,List.not_mem_nil,or_false]at hv
   rcases hv with rfl|rfl<;>simp
 ·split;(rename_i h;exact absurd h (b9 (QC (by assumption))))
  rename_i v3 h3
  obtain⟨hg3,hl3,hp3,hn3⟩:=bw (QC (by assumption)) h3
  obtain⟨n0,r0,e0⟩:∃n r,v3.1=n::r:=by
   cases hv:v3.1 with
   |nil=>rw[hv]at hp3;simp at hp3
   |cons n r=>exact⟨n,r,rfl⟩
  have ei:aI v3.1 (0:Int)=some n0:=by rw[e0];rfl
  have eg:v3.1[(0:Int).toNat]? =some n0:=by rw[e0];rfl
  have es:∀u:aL.T,v3.1.set ((0:Int).toNat) u=u::r0:=fun u=>by rw[e0];rfl
  simp only[ei,ac,eg,es]
  have hall:∀v ∈ ((n0.1,n0.2.1,n0.2.2.1,false,()):aL.T)::r0,uw v:=by
   intro v hv
   rcases List.mem_cons.1 hv with rfl|hv
   ·exact hn3 n0 (by rw[e0];simp)
   ·exact hn3 v (by rw[e0];simp[hv])
  have hlen:(((n0.1,n0.2.1,n0.2.2.1,false,()):aL.T)::r0).length≤4:=by rw[e0]at hl3;simpa using hl3
  have key:∀L:List aL.T,L.length≤4→(∀v ∈ L,uw v)→(∃n ∈ L,n.2.2.2.1=false)→∃y,(match du (L,())with
    |none=>none
    |some v7=>match kK (v7.1,())with
     |none=>none
     |some v8=>match al ((v3.2.1.1,v3.2.1.2.1,v3.2.1.2.2.1,()),(2:Int),())with
      |none=>none
      |some v9=>match ak eF ((v9.2.1.1,v9.2.1.2.1,v9.2.1.2.2.1,()),((0:Int),[],[],[],()),L,v8.1,[],[],(IntKind.i64.wrap ((1:Int)+v9.1)),(0:Int),())with
       |none=>none
       |some (.inl v24)=>match al ((v24.1.1,v24.1.2.1,v24.1.2.2.1,()),(5000:Int),())with
        |none=>none
        |some v26=>some (((IntKind.i64.wrap ((1:Int)+v26.1)),v24.2.2.1,v24.2.2.2.1,v24.2.2.2.2.1,()),(v26.2.1.1,v26.2.1.2.1,v26.2.1.2.2.1,()),())
       |some (.inr v27)=>none:Option (Ty.T (.pair (.pair (.int .i64) (.pair (.own 136 aL) (.pair (.own 159 aR) (.pair (.own 167 az) .unit)))) (.pair (.box aF) .unit))))=some y∧(b8 (y.2.1.1,y.2.1.2.1,y.2.1.2.2.1,())∧Kt y.1∧1≤y.1.2.2.2.1.length):=fun L hL hLp hLh=>by
   obtain⟨a,A,e1,e2,hA1,hA2⟩:=ag8 (by omega) hLp hLh
   obtain⟨v9,e3,hd9,hg9⟩:=bh (n:=2) hg3
   obtain⟨b,hb,hb2⟩:=mM hd9 (by omega)
   have ew:IntKind.i64.wrap ((1:Int)+(b:Int))=(1:Int)+(b:Int):=wrap_i64 (by omega) (by omega)
   obtain⟨s',m',sl',e4,hg',hm1,hm2,hsl,hsl2,hm3⟩:=W9 ((0:Int),[],[],[],()) L A ((1:Int)+(b:Int)) (by omega) hA1 hA2 (1+b) (v9.2.1.1,v9.2.1.2.1,v9.2.1.2.2.1,()) [] [] 0 hg9 (by omega) (by omega) (by simp;omega) (by simp;omega) (fun v hv=>by cases hv)
   obtain⟨v26,e5,hd26,hg26⟩:=bh (n:=5000) hg'
   have e5:al ((s'.1,s'.2.1,s'.2.2.1,()),(5000:Int),())=some v26:=e5
   simp only[e1,e2,e3,hb,ew,e4,e5]
   refine⟨_,rfl,hg26,⟨⟨by show L.length≤100;omega,fun v hv=>Nat.le_trans (hLp v hv).2.2 (by omega)⟩,⟨by show m'.length≤100;omega,fun v hv=>Nat.le_trans (hm2 v hv) (by omega)⟩,hsl2⟩, ?_⟩
   show 1≤sl'.length
   simp at hsl
   omega
  split
  ·rename_i hgt
   have hbd:aZ (((n0.1,n0.2.1,n0.2.2.1,false,()):aL.T)::r0).length none (some (.dat (.int .i64) (3:Int)))=some (0,3):=rA (a:=3) (by simp at hgt;simp;omega)
   rw[hbd]
   exact key _ (by rw[List.length_take];omega) (fun v hv=>hall v (List.mem_of_mem_take hv)) ⟨(n0.1,n0.2.1,n0.2.2.1,false,()),by simp,rfl⟩
  ·exact key _ hlen hall ⟨(n0.1,n0.2.1,n0.2.2.1,false,()),by simp,rfl⟩
theorem Xa(m0:aA.T)(id:Int)(nodes:List aL.T)(modes:List aR.T)(s:aF.T):∀(k:Nat) (slots:List az.T) (j:Nat),slots.length≤10000→j+k=slots.length→
  ∃slots',ak eU (s,m0,(id,nodes,modes,slots,()),(j:Int),())=some (.inl (s,m0,(id,nodes,modes,slots',()),()))∧slots'.length=slots.length
 |0,slots,j,hl,hk=>by
  refine⟨slots, ?_,rfl⟩
  rw[aw]
  simp only[eU,C4 (show ¬(j:Int)<(slots.length:Int) by omega)]
 |k+1,slots,j,hl,hk=>by
  have hj:j<slots.length:=by omega
  have key:∀u:az.T,∃slots',ak eU (s,m0,(id,nodes,modes,slots.set j u,()),((j+1:Nat):Int),())=some (.inl (s,m0,(id,nodes,modes,slots',()),()))∧slots'.length=slots.length:=fun u=>by
   obtain⟨s',h1,h2⟩:=Xa m0 id nodes modes s k (slots.set j u) (j+1) (by simpa using hl) (by simp;omega)
   exact⟨s',h1,by simpa using h2⟩
  obtain⟨slots',h1,h2⟩:=key (slots[j].1,slots[j].2.1,slots[j].2.2.1,(slots[j].2.2.2.1.1,slots[j].2.2.2.1.2.1,slots[j].2.2.2.1.2.2.1,(1000:Int),slots[j].2.2.2.1.2.2.2.2.1,()),())
  refine⟨slots', ?_,h2⟩
  have hi:=aJ hj
  have hw:=a7 hj (show slots.length≤1099511627776 by omega)
  rw[aw]
  simp only[eU,xp (show(j:Int)<(slots.length:Int) by omega),hi,ac,Int.toNat_natCast,List.getElem?_eq_getElem hj,hw]
  exact h1
theorem Xb(m0:aA.T)(id:Int)(nodes:List aL.T)(R S:Int)(nx:List Int)(hR:0≤R∧R≤10)(hS:1≤S∧S≤100)(s:aF.T):∀(k:Nat) (slots:List az.T) (j:Int),0≤j→j+(k:Int)=R*S→slots.length+k≤10000→
  ∃slots',ak c8 (s,m0,(id,nodes,[(R,S,nx,())],[],()),slots,j,())=some (.inl (s,m0,(id,nodes,[(R,S,nx,())],[],()),slots',()))∧slots'.length=slots.length+k:=by
 have hRS:0≤R*S∧R*S≤1000:=by
  refine⟨Int.mul_nonneg hR.1 (by omega), ?_⟩
  have h1:R*S≤10*S:=Int.mul_le_mul_of_nonneg_right hR.2 (by omega)
  omega
 have hw:IntKind.i64.wrap (R*S)=R*S:=wrap_i64 (by omega) (by omega)
 have hi:aI [((R,S,nx,()):aR.T)] (0:Int)=some (R,S,nx,()):=rfl
 have hg: [((R,S,nx,()):aR.T)][(0:Int).toNat]? =some (R,S,nx,()):=rfl
 have hne:(S=0)=False:=by
  have:¬S=0:=by omega
  simp only[this]
 intro k
 induction k with
 |zero=>
  intro slots j h0 hk hl
  refine⟨slots, ?_,rfl⟩
  rw[aw]
  simp only[c8,hi,hg,ac,hw,C4 (show ¬j<R*S by omega)]
 |succ k ih=>
  intro slots j h0 hk hl
  have hr:∀ {Q:Type} (u:az.T) (q:Option Q),bd (slots.length+ [u].length) q=q:=fun u q=>aU (by simp;omega)
  obtain⟨slots',h1,h2⟩:=ih (slots++ [((0:Int),(IntKind.i64.wrap (Int.tdiv j S)),(Int.tmod j S),((0:Int),(1:Int),(0:Int),(1000:Int),false,()),())]) (j+1) (by omega) (by omega) (by simp;omega)
  refine⟨slots', ?_,by rw[h2];simp;omega⟩
  rw[aw]
  simp only[c8,hi,hg,ac,hw,xp (show j<R*S by omega),hne,if_false,hr,cY,vq,N5 h0 (show j<R*S by omega) (by omega)]
  exact h1
theorem Tq {s:aF.T}(hs:b8 s):∃y,tC (s,())=some y∧(b8 (y.2.1.1,y.2.1.2.1,y.2.1.2.2.1,())∧wH y.1):=by
 have hs:=fy hs
 unfold tC
 simp only[ac]
 split;(rename_i h;exact absurd h (b9 (acm (by assumption))))
 rename_i v1 h1
 obtain⟨hg1,hS10,hp1,hl1⟩:=bw (acm (by assumption)) h1
 have hS:wH v1.1:=⟨by omega,fun v hv=>Nat.le_trans (hS10 v hv) (by omega)⟩
 split;(rename_i h;exact absurd h (b9 (bh (by assumption))))
 rename_i v2 h2
 obtain⟨hd2,hg2⟩:=bw (bh (by assumption)) h2
 split;(rename_i h;exact absurd h (b9 (bh (by assumption))))
 rename_i v3 h3
 obtain⟨hd3,hg3⟩:=bw (bh (by assumption)) h3
 obtain⟨u,hu1,hu2,hu3⟩:=pick v1.1 hd2 (by omega) hp1
 obtain⟨v4,h4,hd4,hg4⟩:=bh (n:=3) hg3
 obtain⟨w,hw1,hw2,hw3⟩:=pick [v2.1,(v1.1.length:Int),(0:Int)] hd4 (by simp) (by simp)
 have hu10:=hS10 u hu3
 have hu:=hS.2 u hu3
 have hr:∀ {Q:Type} (z:Int) (q:Option Q),bd (u.2.2.1.length+ [z].length) q=q:=fun z q=>aU (by simp;omega)
 have hu2':(u.2.2.1++ [w]).length≤100:=by simp;omega
 simp only[hu1,hu2,h4,hw1,hw2,hr,if_true,cY,vq]
 repeat' first
  |exact⟨_,rfl,by assumption,by assumption⟩
  |exact⟨_,rfl,by assumption,QD hS hu⟩
  |exact⟨_,rfl,by assumption,QD hS hu2'⟩
  |exact⟨_,rfl,by assumption,aaK⟩
  |exact⟨_,rfl,by assumption,aaL (by decide) (Nat.zero_le _)⟩
  |(split;(rename_i h;exact absurd h (b9 (bh (by assumption))));rename_i v h;obtain⟨hd,hg⟩:=bw (bh (by assumption)) h)
  |(first|(split;rotate_left;(rename_i h;exact absurd h (mL (by assumption) (by simp) (by first|assumption|simp))))|(split;(rename_i h;exact absurd h (sB (by assumption) (by simp) (by first|assumption|simp)));rename_i v h))
  |split
theorem acr {s:aF.T}(hs:b8 s):∃y,pm (s,())=some y∧(b8 (y.2.1.1,y.2.1.2.1,y.2.1.2.2.1,())∧Kt y.1):=by
 have hs:=fy hs
 unfold pm
 simp only[ac]
 split;(rename_i h;exact absurd h (b9 (acq (by assumption))))
 rename_i v1 h1
 obtain⟨hg1,hS,hp1⟩:=bw (acq (by assumption)) h1
 obtain⟨hN,hM,hL⟩:=hS
 split;(rename_i h;exact absurd h (b9 (bh (by assumption))))
 rename_i v2 h2
 obtain⟨hd2,hg2⟩:=bw (bh (by assumption)) h2
 split;(rename_i h;exact absurd h (b9 (bh (by assumption))))
 rename_i v3 h3
 obtain⟨hd3,hg3⟩:=bw (bh (by assumption)) h3
 obtain⟨u,hu1,hu2,hu3⟩:=pick v1.1.2.2.2.1 hd2 (by omega) hp1
 have hlt:v2.1.toNat<v1.1.2.2.2.1.length:=(List.getElem?_eq_some_iff.1 hu2).1
 have h0:0≤v2.1:=hd2.1
 have iset:∀w:az.T,aI (v1.1.2.2.2.1.set v2.1.toNat w) v2.1=some w:=fun w=>by
  unfold aI
  rw[if_pos h0,List.getElem?_set_self hlt]
 have gset:∀w:az.T,(v1.1.2.2.2.1.set v2.1.toNat w)[v2.1.toNat]? =some w:=fun w=>List.getElem?_set_self hlt
 have hb:aZ v1.1.2.2.2.1.length (some (.dat (.int .i64) (1:Int))) none=some (1,v1.1.2.2.2.1.length):=by
  simp only[aZ,lQ,kT]
  rw[if_pos ⟨by omega,by omega,by omega⟩]
  simp
 obtain⟨sl,hlong,hlong2⟩:=Xa ((0:Int),[],[],[],()) v1.1.1 v1.1.2.1 v1.1.2.2.1 (v3.2.1.1,v3.2.1.2.1,v3.2.1.2.2.1,()) v1.1.2.2.2.1.length v1.1.2.2.2.1 0 hL (by omega)
 have hlong:ak eU ((v3.2.1.1,v3.2.1.2.1,v3.2.1.2.2.1,()),((0:Int),[],[],[],()),(v1.1.1,v1.1.2.1,v1.1.2.2.1,v1.1.2.2.2.1,()),(0:Int),())=_:=hlong
 have hf1:∀s:aF.T,∃sl,ak c8 (s,((0:Int),[],[],[],()),((3:Int),[((0:Int),([97]:List UInt8),(0:Int),false,())],[((3:Int),(11:Int),[],())],[],()),[],(0:Int),())=some (.inl (s,((0:Int),[],[],[],()),((3:Int),[((0:Int),([97]:List UInt8),(0:Int),false,())],[((3:Int),(11:Int),[],())],[],()),sl,()))∧sl.length≤10000:=fun s=>by
  obtain⟨sl,e1,e2⟩:=Xb ((0:Int),[],[],[],()) (3:Int) [((0:Int),([97]:List UInt8),(0:Int),false,())] 3 11 [] (by omega) (by omega) s 33 [] 0 (by omega) (by omega) (by simp)
  exact⟨sl,e1,by rw[e2];simp⟩
 have hf2:∀s:aF.T,∃sl,ak c8 (s,((0:Int),[],[],[],()),((3:Int),[((0:Int),([97]:List UInt8),(0:Int),false,())],[((2:Int),(16:Int),[],())],[],()),[],(0:Int),())=some (.inl (s,((0:Int),[],[],[],()),((3:Int),[((0:Int),([97]:List UInt8),(0:Int),false,())],[((2:Int),(16:Int),[],())],[],()),sl,()))∧sl.length≤10000:=fun s=>by
  obtain⟨sl,e1,e2⟩:=Xb ((0:Int),[],[],[],()) (3:Int) [((0:Int),([97]:List UInt8),(0:Int),false,())] 2 16 [] (by omega) (by omega) s 32 [] 0 (by omega) (by omega) (by simp)
  exact⟨sl,e1,by rw[e2];simp⟩
 obtain⟨g1f,hg1f⟩:∃g:aF.T→List az.T,∀s:aF.T,ak c8 (s,((0:Int),[],[],[],()),((3:Int),[((0:Int),([97]:List UInt8),(0:Int),false,())],[((3:Int),(11:Int),[],())],[],()),[],(0:Int),())=some (.inl (s,((0:Int),[],[],[],()),((3:Int),[((0:Int),([97]:List UInt8),(0:Int),false,())],[((3:Int),(11:Int),[],())],[],()),(g s),()))∧(g s).length≤10000:=⟨fun s=>Classical.choose (hf1 s),fun s=>Classical.choose_spec (hf1 s)⟩
 have hf1a:=fun s=>(hg1f s).1
 have hf1b:=fun s=>(hg1f s).2
 obtain⟨g2f,hg2f⟩:∃g:aF.T→List az.T,∀s:aF.T,ak c8 (s,((0:Int),[],[],[],()),((3:Int),[((0:Int),([97]:List UInt8),(0:Int),false,())],[((2:Int),(16:Int),[],())],[],()),[],(0:Int),())=some (.inl (s,((0:Int),[],[],[],()),((3:Int),[((0:Int),([97]:List UInt8),(0:Int),false,())],[((2:Int),(16:Int),[],())],[],()),(g s),()))∧(g s).length≤10000:=⟨fun s=>Classical.choose (hf2 s),fun s=>Classical.choose_spec (hf2 s)⟩
 have hf2a:=fun s=>(hg2f s).1
 have hf2b:=fun s=>(hg2f s).2
 have hone:Av [((0:Int),([97]:List UInt8),(0:Int),false,())]:=⟨by simp,fun v hv=>by simp only[List.mem_singleton]at hv;subst hv;simp⟩
 have hmo:∀a b:Int,wH [(a,b,([]:List Int),())]:=fun a b=>⟨by simp,fun v hv=>by simp only[List.mem_singleton]at hv;subst hv;simp⟩
 simp only[hu1,hu2,iset,gset,hb,hlong,cY,vq,List.set_set,hf1a,hf2a]
 repeat' first
  |exact⟨_,rfl,by assumption,by assumption,by assumption,by assumption⟩
  |exact⟨_,rfl,by assumption,hN,hM,by first|(rw[List.length_set];exact hL)|(simp only[List.length_set];exact hL)|(show sl.length≤10000;omega)|(simp;omega)⟩
  |(split;(rename_i h;exact absurd h (b9 (Tn (by assumption))));rename_i v h;obtain⟨hg,hq⟩:=bw (Tn (by assumption)) h)
  |(split;(rename_i h;exact absurd h (b9 (Tq (by assumption))));rename_i v h;obtain⟨hg,hq⟩:=bw (Tq (by assumption)) h)
  |(split;(rename_i h;exact absurd h (b9 (To (by assumption))));rename_i v h;have hg:=bw (To (by assumption)) h)
  |exact⟨_,rfl,by assumption,hone,hmo _ _,hf1b _⟩
  |exact⟨_,rfl,by assumption,hone,hmo _ _,hf2b _⟩
  |(split;(rename_i h;exact absurd h (b9 (bh (by assumption))));rename_i v h;obtain⟨hd,hg⟩:=bw (bh (by assumption)) h)
  |(first|(split;rotate_left;(rename_i h;exact absurd h (mL (by assumption) (by simp) (by first|assumption|simp))))|(split;(rename_i h;exact absurd h (sB (by assumption) (by simp) (by first|assumption|simp)));rename_i v h))
  |split
end Go.Proofs.YtnambbcafhnhpaaGreatDoor
namespace Go.Proofs.YtnambbcafhnhpaaGreatDoor
open Go.RowKit
set_option linter.unusedVariables false
set_option linter.unusedSimpArgs false
theorem acs(x):∃y,oJ x=some y∧True:=by
 unfold oJ
 repeat' first
  |exact⟨_,rfl,trivial⟩
  |split
theorem Xc {s:aF.T}(n:Int)(hs:b8 s):∃y,vx (s,n,())=some y∧b8 (y.2.1.1,y.2.1.2.1,y.2.1.2.2.1,()):=by
 have hs:=fy hs
 unfold vx
 simp only
 repeat' first
  |exact⟨_,rfl,by assumption⟩
  |(split;(rename_i h;exact absurd h (b9 (acs _))))
  |(split;(rename_i h;exact absurd h (b9 (bh (by assumption))));rename_i v h;obtain⟨hd,hg⟩:=bw (bh (by assumption)) h)
  |split
theorem ag9 {s:aF.T}(n:Int)(hs:b8 s):∃y,wc (s,n,())=some y∧b8 (y.2.1.1,y.2.1.2.1,y.2.1.2.2.1,()):=by
 have hs:=fy hs
 unfold wc
 simp only[ac]
 split;(rename_i h;exact absurd h (b9 (Xc _ (by assumption))))
 rename_i v1 h1
 have hg1:=bw (Xc _ (by assumption)) h1
 repeat' first
  |exact⟨_,rfl,by assumption⟩
  |(split;(rename_i h;exact absurd h (b9 (bh (by assumption))));rename_i v h;obtain⟨hd,hg⟩:=bw (bh (by assumption)) h)
  |(first|(split;rotate_left;(rename_i h;exact absurd h (mL (by assumption) (by simp) (by first|assumption|simp))))|(split;(rename_i h;exact absurd h (sB (by assumption) (by simp) (by first|assumption|simp)));rename_i v h))
  |split
theorem Ms(at_:Int):∀(k:Nat) (s:aF.T) (l:List bk.T),b8 s→l.length+k≤10→∃s' l',ak kh (s,at_,l,(k:Int),())=some (.inl (s',l',()))∧b8 s'∧l'.length≤10
 |0,s,l,hs,hl=>by
  refine⟨s,l, ?_,hs,by omega⟩
  rw[aw]
  simp only[kh,ag6]
 |k+1,s,l,hs,hl=>by
  obtain⟨y,hy,hg⟩:=ag9 at_ hs
  have hy:wc ((s.1,s.2.1,s.2.2.1,()),at_,())=some y:=hy
  have hr:∀ {R:Type} (u:bk.T) (q:Option R),bd (l.length+ [u].length) q=q:=fun u q=>aU (by simp;omega)
  have hf:=W0 (y.1,())
  have hf:pt ((y.1.1,y.1.2.1,y.1.2.2.1,y.1.2.2.2.1,()),())=_:=hf
  obtain⟨z,hz,hd,hg2⟩:=bh (n:=4) hg
  have key:∃x':aF.T×List bk.T,kh (s,at_,l,((k+1:Nat):Int),())=some (.inl (x'.1,at_,x'.2,(k:Int),()))∧b8 x'.1∧x'.2.length+k≤10:=by
   simp only[kh,ag5,hy,hf,hr,hz,ag4 (show k≤1000000 by omega)]
   repeat' first
    |exact⟨(_,l++ [_]),rfl,by assumption,by simp;omega⟩
    |exact⟨(_,l),rfl,by assumption,by show l.length+k≤10;omega⟩
    |split
  obtain⟨x',h1,h2,h3⟩:=key
  obtain⟨s',l',h4,h5,h6⟩:=Ms at_ k x'.1 x'.2 h2 h3
  refine⟨s',l', ?_,h5,h6⟩
  rw[aw,h1]
  exact h4
theorem Mu:∀(k:Nat) (s:aF.T) (l:List bk.T),b8 s→l.length+k=31→∃s' l',ak ki (s,l,())=some (.inl (s',l',()))∧b8 s'∧l'.length≤31
 |0,s,l,hs,hl=>by
  obtain⟨z,hz,hd,hg⟩:=bh (n:=2) hs
  have hz:al ((s.1,s.2.1,s.2.2.1,()),(2:Int),())=some z:=hz
  obtain⟨a,ha,ha2⟩:=mM hd (by omega)
  have e:IntKind.i64.wrap ((30:Int)+(a:Int))=(30:Int)+(a:Int):=wrap_i64 (by omega) (by omega)
  refine⟨z.2.1,l, ?_,hg,by omega⟩
  rw[aw]
  simp only[ki,hz,ha,e,C4 (show ¬(l.length:Int)<(30:Int)+(a:Int) by omega)]
 |k+1,s,l,hs,hl=>by
  obtain⟨z,hz,hd,hg⟩:=bh (n:=2) hs
  have hz:al ((s.1,s.2.1,s.2.2.1,()),(2:Int),())=some z:=hz
  obtain⟨a,ha,ha2⟩:=mM hd (by omega)
  have e:IntKind.i64.wrap ((30:Int)+(a:Int))=(30:Int)+(a:Int):=wrap_i64 (by omega) (by omega)
  by_cases hc:(l.length:Int)<(30:Int)+(a:Int)
  ·obtain⟨s',l',h1,h2,h3⟩:=Mu k (z.2.1.1,z.2.1.2.1,z.2.1.2.2.1,()) (l++ [((1:Int),(3:Int),(0:Int),(0:Int),())]) hg (by simp;omega)
   refine⟨s',l', ?_,h2,h3⟩
   rw[aw]
   simp only[ki,hz,ha,e,xp hc]
   rw[aU (by simp;omega)]
   exact h1
  ·refine⟨z.2.1,l, ?_,hg,by omega⟩
   rw[aw]
   simp only[ki,hz,ha,e,C4 hc]
theorem acu {s:aF.T}(n:Int)(hs:b8 s):∃y,A9 (s,n,())=some y∧(b8 (y.2.1.1,y.2.1.2.1,y.2.1.2.2.1,())∧y.1.length≤100):=by
 obtain⟨v1,e1,hd1,hg1⟩:=bh (n:=5) hs
 have e1:al ((s.1,s.2.1,s.2.2.1,()),(5:Int),())=some v1:=e1
 obtain⟨a,ha,ha2⟩:=mM hd1 (by omega)
 obtain⟨s2,l2,e2,hg2,hl2⟩:=Ms n a (v1.2.1.1,v1.2.1.2.1,v1.2.1.2.2.1,()) [] hg1 (by simp;omega)
 obtain⟨v3,e3,hd3,hg3⟩:=bh (n:=40) hg2
 have e3:al ((s2.1,s2.2.1,s2.2.2.1,()),(40:Int),())=some v3:=e3
 obtain⟨s4,l4,e4,hg4,hl4⟩:=Mu (31-l2.length) (v3.2.1.1,v3.2.1.2.1,v3.2.1.2.2.1,()) l2 hg3 (by omega)
 unfold A9
 simp only[e1,ha,e2,e3]
 split
 ·simp only[e4]
  exact⟨_,rfl,hg4,by show l4.length≤100;omega⟩
 ·exact⟨_,rfl,hg3,by show l2.length≤100;omega⟩
def aha(x:bI.T):Prop:=x.2.2.2.1= []∨x.2.2.1= []∨(∃a:Int,x.2.2.1= [((1:Int),a,(0:Int),(0:Int),())])∨(∃a:Int,x.2.2.1= [((5:Int),(0:Int),(0:Int),(0:Int),())]∧x.2.2.2.1= [((5:Int),a,(0:Int),(0:Int),())])
def Gf(x:bI.T):Prop:=(x.2.2.1.length≤100∧x.2.2.2.1.length≤100)∧aha x
theorem acv {a b:Int}{l:List bk.T}(h:l.length≤100):Gf (a,b,l,[],()):=⟨⟨h,Nat.zero_le _⟩,.inl rfl⟩
theorem aaM {a b:Int}:Gf (a,b,[],[],()):=⟨⟨Nat.zero_le _,Nat.zero_le _⟩,.inl rfl⟩
theorem Yn {a b:Int}{f:bk.T}:Gf (a,b,[],[f],()):=⟨⟨Nat.zero_le _,by show 1≤100;decide⟩,.inr (.inl rfl)⟩
theorem aaN {a b c:Int}{f:bk.T}:Gf (a,b,[((1:Int),c,(0:Int),(0:Int),())],[f],()):=⟨⟨by show 1≤100;decide,by show 1≤100;decide⟩,.inr (.inr (.inl ⟨c,rfl⟩))⟩
theorem acw {a b c:Int}:Gf (a,b,[((5:Int),(0:Int),(0:Int),(0:Int),())],[((5:Int),c,(0:Int),(0:Int),())],()):=⟨⟨by show 1≤100;decide,by show 1≤100;decide⟩,.inr (.inr (.inr ⟨c,rfl,rfl⟩))⟩
theorem aaO {s:aF.T}(hs:b8 s):∃y,oo (s,())=some y∧(b8 (y.2.1.1,y.2.1.2.1,y.2.1.2.2.1,())∧Gf y.1):=by
 have hs:=fy hs
 unfold oo
 simp only[ac]
 (split;(rename_i h;exact absurd h (b9 (bh (by assumption))));rename_i v h;obtain⟨hd,hg⟩:=bw (bh (by assumption)) h)
 (split;(rename_i h;exact absurd h (b9 (bh (by assumption))));rename_i v h;obtain⟨hd,hg⟩:=bw (bh (by assumption)) h)
 (split;(rename_i h;exact absurd h (b9 (bh (by assumption))));rename_i v h;obtain⟨hd,hg⟩:=bw (bh (by assumption)) h)
 (split;(rename_i h;exact absurd h (b9 (bh (by assumption))));rename_i v h;obtain⟨hd,hg⟩:=bw (bh (by assumption)) h)
 repeat' first
  |exact⟨_,rfl,by assumption,acv (by assumption)⟩
  |exact⟨_,rfl,by assumption,aaM⟩
  |exact⟨_,rfl,by assumption,Yn⟩
  |exact⟨_,rfl,by assumption,aaN⟩
  |exact⟨_,rfl,by assumption,acw⟩
  |(split;(rename_i h;exact absurd h (b9 (acu _ (by assumption))));rename_i v h;obtain⟨hg,hq⟩:=bw (acu _ (by assumption)) h)
  |(split;(rename_i h;exact absurd h (b9 (bh (by assumption))));rename_i v h;obtain⟨hd,hg⟩:=bw (bh (by assumption)) h)
  |(first|(split;rotate_left;(rename_i h;exact absurd h (mL (by assumption) (by simp) (by first|assumption|simp))))|(split;(rename_i h;exact absurd h (sB (by assumption) (by simp) (by first|assumption|simp)));rename_i v h))
  |split
theorem ahE(v:Int):(IntKind.u64.wrap v<0)=False:=by
 have:¬IntKind.u64.wrap v<0:=by
  simp[IntKind.wrap,IntKind.signed,IntKind.bits]
  omega
 simp only[this]
theorem ahb {s:aF.T}(hs:b8 s):∃y,vZ (s,())=some y∧(b8 (y.2.2.1.1,y.2.2.1.2.1,y.2.2.1.2.2.1,())∧Kt y.1):=by
 obtain⟨v1,e1,hg1,hS⟩:=acr hs
 have e1:pm ((s.1,s.2.1,s.2.2.1,()),())=some v1:=e1
 obtain⟨v2,e2,hg2⟩:=afw hg1
 have e3:=ab6 v1.1 (Ku hS)
 have e3:pr ((v1.1.1,v1.1.2.1,v1.1.2.2.1,v1.1.2.2.2.1,()),())=_:=e3
 unfold vZ
 simp only[e1,e2,e3,cY,vq,ahE,if_false]
 cases hm:bK v1.1 with
 |false=>exact⟨_,rfl,hg2,hS⟩
 |true=>
  obtain⟨_,hN,hM,_⟩:=kG hm
  have hlen:1≤v1.1.2.2.1.length:=by
   unfold gy at hM
   rw[Bool.and_eq_true]at hM
   have:=(bl.1 hM.1).1
   omega
  obtain⟨v4,e4,hd4,hg4⟩:=bh (n:=16) hg2
  obtain⟨v5,e5,hd5,hg5⟩:=bh (n:=65536) hg4
  obtain⟨v6,e6,hd6,hg6⟩:=bh (n:=(v1.1.2.2.1.length:Int)) hg5
  obtain⟨u,hu1,hu2,hu3⟩:=pick v1.1.2.2.1 hd6 (by omega) hlen
  obtain⟨v8,e8,hd8,hg8⟩:=bh (n:=30) hg6
  obtain⟨v9,e9,hd9,hg9⟩:=bh (n:=(IntKind.i64.wrap (u.1+(IntKind.i64.wrap (Int.tdiv v8.1 (29:Int)))))) hg8
  obtain⟨v11,e11,hd11,hg11⟩:=bh (n:=30) hg9
  obtain⟨v12,e12,hd12,hg12⟩:=bh (n:=(IntKind.i64.wrap (u.2.1+(IntKind.i64.wrap (Int.tdiv v11.1 (29:Int)))))) hg11
  have e13:=Ux v1.1.2.1 hN
  obtain⟨v14,e14,hd14,hg14⟩:=bh (n:=3) hg12
  obtain⟨v15,e15,hd15,hg15⟩:=bh (n:=256) hg14
  obtain⟨v16,e16,hd16,hg16⟩:=bh (n:=30) hg15
  obtain⟨v17,e17,hd17,hg17⟩:=bh (n:=10) hg16
  obtain⟨w16,f16,kd16,kg16⟩:=bh (n:=30) hg14
  obtain⟨w17,f17,kd17,kg17⟩:=bh (n:=10) kg16
  simp only[Bool.not_true,e4,e5,e6,hu1,hu2,ac,e8,e9,e11,e12,e13,e14,e15,e16,e17,f16,f17,cY,vq]
  repeat' first
   |exact⟨_,rfl,by assumption,hS⟩
   |split
theorem Yo {x:bI.T}(h:Gf x):uu x:=⟨Nat.le_trans h.1.1 (by omega),Nat.le_trans h.1.2 (by omega)⟩
end Go.Proofs.YtnambbcafhnhpaaGreatDoor
